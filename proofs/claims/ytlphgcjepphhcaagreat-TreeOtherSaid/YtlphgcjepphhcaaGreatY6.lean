/-
  Texts that the last one stands on.
-/
import Derived.Test.YtlphgcjepphhcaaGreatY5
open Nat renaming add_zero->dv,zero_add->dI,eq_zero_or_pos->xZ,le_refl->bq,mod_eq_of_lt->ya,lt_or_ge->jK,zero_le->il,add_assoc->gG,add_comm->pb,sub_self->iI,le_trans->mj,min_eq_left->vE
open List renaming range->cW,getElem?_map->dh,getElem?_range->qO,ext_getElem?->s9,getElem?_eq_some_iff->aS,map_nil->iH,append_nil->c7,length_cons->cw,append_assoc->bc,map_cons->cU,length_map->dA,mem_of_getElem?->cf,mem_cons->bw,cons_append->c8,length_nil->fc,length_append->cL,length_take->fX,length_drop->fO,take_append_of_le_length->vC,take_of_length_le->jI,take_length->lc,pairwise_cons->fP,mem_map->dF,getElem?_eq_getElem->bj,getElem?_eq_none->vy,replicate->bl,length_replicate->vB,take_zero->qP,nil_append->dB,drop_eq_nil_of_le->o7,take_append_drop->gP,mem_append->aV,mem_of_mem_take->mg,mem_of_mem_drop->kg,drop_drop->nJ,length->nL,drop_zero->qN,take_succ_cons->tj,all_eq_true->cT,getElem?_append_left->cQ,getElem?_append_right->cJ,drop_eq_getElem_cons->qM,nodup_cons->td,mem_cons_self->bV,perm_middle->nP,map_append->gv,nodup_append->xW,nodup_nil->Bp,perm_ext_iff_of_nodup->Oz,mem_filter->nO,mem_range->xV,filter_eq_self->G0,length_range->xT,getLastD_eq_getLast?->Bo,dropLast_append_of_ne_nil->GZ,eq_nil_or_concat->dQ,drop_append->qL,reverse_cons->mh,pairwise_map->G6,mem_flatMap->gw,pairwise_append->du,exists_cons_of_ne_nil->me,flatMap_cons->ij,append_eq_nil_iff->o6,length_pos_iff->jb,mem_append_left->jG,mem_append_right->mf,getLast?_eq_some_getLast->Ox,getElem_mem->vA,length_reverse->xU,map_eq_nil_iff->G4,perm_append_comm->Br,dropLast_concat->s8,dropLast_cons_of_ne_nil->md,mem_cons_of_mem->jH,mem_singleton->ew,concat_eq_append->gq,getElem?_of_mem->vz,getElem?_take->gt,getElem?_drop->fN,pairwise_iff_getElem->Bq,eq_nil_of_length_eq_zero->o8,reverse_reverse->Bt,filter_append->nK,any_eq_false->s7,drop_eq_nil_iff->Bn,set_append_right->Bu,singleton_append->G8,flatten_cons->G1,map_replicate->G5,take_add_one->G9
open Option renaming map_some->bS,bind_some->ap,getD_some->tz
open Bool renaming true_and->dq,and_false->j8,not_true->bA,not_false->i9,and_eq_true->bd,or_eq_true->l9,false_or->iG,not_eq_true'->ig
namespace Go.Proofs.YtlphgcjepphhcaaGreat
open Go Go.Lite
set_option linter.unusedSimpArgs false
set_option linter.unusedVariables false
set_option maxRecDepth 100000
def cM (b0 b1 b2 b3 b4 b5 b6 b7:Bool):Nat:=b0.toNat+2 * b1.toNat+4 * b2.toNat+8 * b3.toNat+16 * b4.toNat+32 * b5.toNat+64 * b6.toNat+128 * b7.toNat
abbrev oR (n r:Nat):Bool:=(W .u8 (((BitVec.ofInt (IntKind.bits .u8) (n:Int) &&& BitVec.ofInt (IntKind.bits .u8) (r:Int)).toNat:Int))) != (0:Int)
abbrev nv (n r:Nat):Int:=W .u8 (((BitVec.ofInt (IntKind.bits .u8) (n:Int) ||| BitVec.ofInt (IntKind.bits .u8) (r:Int)).toNat:Int))
theorem Zd:∀b0 b1 b2 b3 b4 b5 b6 b7:Bool,
  oR (cM b0 b1 b2 b3 b4 b5 b6 b7) 1=b0/\oR (cM b0 b1 b2 b3 b4 b5 b6 b7) 2=b1/\oR (cM b0 b1 b2 b3 b4 b5 b6 b7) 4=b2/\oR (cM b0 b1 b2 b3 b4 b5 b6 b7) 8=b3 /\
  oR (cM b0 b1 b2 b3 b4 b5 b6 b7) 16=b4/\oR (cM b0 b1 b2 b3 b4 b5 b6 b7) 32=b5/\oR (cM b0 b1 b2 b3 b4 b5 b6 b7) 64=b6/\oR (cM b0 b1 b2 b3 b4 b5 b6 b7) 128=b7:=by decide +kernel
theorem X1:∀b0 b1 b2 b3 b4 b5 b6 b7:Bool,
  nv (cM b0 b1 b2 b3 b4 b5 b6 b7) 1=(cM true b1 b2 b3 b4 b5 b6 b7:Nat)/\nv (cM b0 b1 b2 b3 b4 b5 b6 b7) 2=(cM b0 true b2 b3 b4 b5 b6 b7:Nat)/\nv (cM b0 b1 b2 b3 b4 b5 b6 b7) 4=(cM b0 b1 true b3 b4 b5 b6 b7:Nat)/\nv (cM b0 b1 b2 b3 b4 b5 b6 b7) 8=(cM b0 b1 b2 true b4 b5 b6 b7:Nat) /\
  nv (cM b0 b1 b2 b3 b4 b5 b6 b7) 16=(cM b0 b1 b2 b3 true b5 b6 b7:Nat)/\nv (cM b0 b1 b2 b3 b4 b5 b6 b7) 32=(cM b0 b1 b2 b3 b4 true b6 b7:Nat)/\nv (cM b0 b1 b2 b3 b4 b5 b6 b7) 64=(cM b0 b1 b2 b3 b4 b5 true b7:Nat)/\nv (cM b0 b1 b2 b3 b4 b5 b6 b7) 128=(cM b0 b1 b2 b3 b4 b5 b6 true:Nat):=by decide +kernel
def jS (f:Nat->Bool) (j:Nat):Nat:=cM (f (8 * j)) (f (8 * j+1)) (f (8 * j+2)) (f (8 * j+3)) (f (8 * j+4)) (f (8 * j+5)) (f (8 * j+6)) (f (8 * j+7))
def dY (f:Nat->Bool) (i:Nat) (b:Bool):Nat->Bool:=fun k=>if k=i then b else f k
theorem Eo (i:Nat):∃j k,k < 8/\i=8 * j+k/\i / 8=j/\i % 8=k:=⟨i / 8,i % 8,Nat.mod_lt _ (by omega),by omega,rfl,rfl⟩
theorem Al {k:Nat} (h:k < 8):k=0∨k=1∨k=2∨k=3∨k=4∨k=5∨k=6∨k=7:=by omega
theorem Pu (f:Nat->Bool) (i:Nat):oR (jS f (i / 8)) (2 ^ (i % 8))=f i:=by
 obtain ⟨j,k,hk,e,e1,e2⟩:=Eo i
 rw [e1,e2,e]
 have h:=Zd (f (8 * j)) (f (8 * j+1)) (f (8 * j+2)) (f (8 * j+3)) (f (8 * j+4)) (f (8 * j+5)) (f (8 * j+6)) (f (8 * j+7))
 obtain ⟨h0,h1,h2,h3,h4,h5,h6,h7⟩:=h
 rcases Al hk with rfl | rfl | rfl | rfl | rfl | rfl | rfl | rfl<;>assumption
theorem Pt (f:Nat->Bool) (i:Nat):nv (jS f (i / 8)) (2 ^ (i % 8))=(jS (dY f i true) (i / 8):Nat):=by
 obtain ⟨j,k,hk,e,e1,e2⟩:=Eo i
 rw [e1,e2,e]
 have h:=X1 (f (8 * j)) (f (8 * j+1)) (f (8 * j+2)) (f (8 * j+3)) (f (8 * j+4)) (f (8 * j+5)) (f (8 * j+6)) (f (8 * j+7))
 obtain ⟨h0,h1,h2,h3,h4,h5,h6,h7⟩:=h
 have u:∀m,dY f (8 * j+k) true (8 * j+m)=if m=k then true else f (8 * j+m):=by
  intro m
  unfold dY
  by_cases e:m=k
  ·rw [if_pos (by omega),if_pos e]
  ·rw [if_neg (by omega),if_neg e]
 have u0:=u 0
 rw [dv] at u0
 unfold jS
 rw [u0,u 1,u 2,u 3,u 4,u 5,u 6,u 7]
 rcases Al hk with rfl | rfl | rfl | rfl | rfl | rfl | rfl | rfl<;>assumption
theorem Ps (f:Nat->Bool) (i j:Nat) (b:Bool) (h:j≠i / 8):jS (dY f i b) j=jS f j:=by
 have:∀k,k < 8->dY f i b (8 * j+k)=f (8 * j+k):=fun k hk=>by unfold dY;rw [if_neg (by omega)]
 unfold jS
 rw [this 1 (by omega),this 2 (by omega),this 3 (by omega),this 4 (by omega),this 5 (by omega),this 6 (by omega),this 7 (by omega)]
 have:=this 0 (by omega)
 rw [dv] at this
 rw [this]
def aF (n:Nat) (f:Nat->Bool):List V:=(cW ((n+7) / 8)).map fun j=>V.int .u8 (jS f j:Nat)
theorem tN (n:Nat) (f:Nat->Bool):(aF n f).length=(n+7) / 8:=by simp [aF]
theorem tL {n i:Nat} (f:Nat->Bool) (h:i < n):(aF n f)[i / 8]? = some (.int .u8 (jS f (i / 8):Nat)):=by
 unfold aF
 rw [dh,qO (by omega)];rfl
theorem HM {n i:Nat} (f:Nat->Bool) (b:Bool) (h:i < n):(aF n f).set (i / 8) (.int .u8 (jS (dY f i b) (i / 8):Nat))=aF n (dY f i b):=by
 apply s9
 intro j
 rw [List.getElem?_set]
 by_cases e:i / 8=j
 ·subst e
  rw [if_pos rfl,if_pos (by rw [tN];omega),tL _ h]
 ·rw [if_neg e]
  unfold aF
  rw [dh,dh]
  cases hj:(cW ((n+7) / 8))[j]? with
  | none=>rfl
  | some k =>
   have:k=j:=by
    have:=aS.1 hj
    obtain ⟨_,h2⟩:=this
    simpa using h2.symm
   subst this
   rw [bS,bS,Ps f i k b (Ne.symm e)]
theorem BJ (i:Nat):bu aa 193 [.int .i64 (i:Int)]=some (.int .u8 ((2 ^ (i % 8):Nat):Int)):=by
 refine Ro _ ?_
 unfold Ct
 have hm:((i:Int)).tmod 8=((i % 8:Nat):Int):=rfl
 have hk:=Nat.mod_lt i (show 0 < 8 by omega)
 rw [hm,aU,ak (decide_eq_true (by omega)),ak (decide_eq_true hk)]
 rcases Al hk with e | e | e | e | e | e | e | e<;>rw [e]<;>rfl
theorem Gw (i:Nat) (h:i < 100000):W .i64 ((i:Int).tdiv 8)=((i / 8:Nat):Int):=by
 rw [show (i:Int).tdiv 8=((i / 8:Nat):Int) from rfl,aK (by omega)]
def lG (n:Nat) (f:Nat->Bool) (i:Int):Bool:=decide (0<=i/\i < (n:Int)) && f i.toNat
theorem uv (n:Nat) (hn:n<=1024) (f:Nat->Bool) (i:Int):bB aa al 137 [.ptr 0 0 0,.int .i64 i] (bm n (aF n f))=some (lL (bm n (aF n f)) (lG n f i)):=by
 refine QX _ _ _ (o:=.doneM (.bool (lG n f i)) (bm n (aF n f))) ?_ (.done (by kernel_rfl))
 unfold IK lG
 by_cases h1:i ≥ 0
 case neg=>rw [decide_eq_false h1,cond_false,decide_eq_false (show ¬(0<=i/\i < (n:Int)) by omega)];rfl
 rw [decide_eq_true h1,cond_true]
 by_cases h2:i < (n:Int)
 case neg=>rw [decide_eq_false h2,cond_false,decide_eq_false (show ¬(0<=i/\i < (n:Int)) by omega)];rfl
 rw [decide_eq_true h2,cond_true,decide_eq_true (show 0<=i/\i < (n:Int) by omega),dq]
 obtain ⟨k,rfl⟩:∃k:Nat,i=(k:Int):=⟨i.toNat,by omega⟩
 rw [Gw k (by omega),aU,aU,ak (decide_eq_true (by omega)),ak (decide_eq_true (by rw [tN];omega)),dI,cO (tL f (by omega)),bH,au (BJ k),bH]
 have:=Pu f k
 rw [<-this]
theorem YZ (n:Nat) (hn:n<=1024) (f:Nat->Bool) (i:Nat) (hi:i < n) (hf:f i=false):bB aa al 180 [.ptr 0 0 0,.int .i64 (i:Int)] (bm n (aF n f))=some (rZ (0,n,aF n (dY f i true))):=by
 refine Rn _ _ _ (o:=.doneM (.int .i64 0) (bm n (aF n (dY f i true)))) ?_ (.done (by kernel_rfl))
 unfold IU
 have his:lG n f (i:Int)=false:=by unfold lG;rw [aU,hf,j8]
 rw [decide_eq_true (show (i:Int) ≥ 0 by omega),cond_true,decide_eq_true (show (i:Int) < (n:Int) by omega),bA,cond_false,cD uF (uv n hn f i),bG,his,cond_false,
  Gw i (by omega),aU,ak (decide_eq_true (by omega)),ak (decide_eq_true (by rw [tN];omega)),dI,cO (tL f (by omega)),bH,au (BJ i),bH,ak (decide_eq_true (by omega)),ak (decide_eq_true (by rw [tN];omega)),cO (tL f (by omega)),bH]
 have:=Pt f i
 simp only [nv] at this
 rw [this,HM f true hi]
def ql (l:List Nat):List V:=l.map fun k=>V.tup [.int .i64 ((k:Nat):Int)]
theorem Fa (n:Nat) (hn:n<=1024):uX [.ref (.ref (.agg [.unk,.int .i64 (n:Int)]) 0) 0,.ref (.int .i64 0) 0]=some (sG n 0)/\(sG n 0).map V.tup=ql (cW n):=by
 refine ⟨if_pos (by omega),?_⟩
 unfold sG ql
 rw [List.map_map,aU]
 apply List.map_congr_left
 intro k hk
 have hk:k < n:=by simpa using hk
 show V.tup [.int .i64 ((0+(k:Int)) % (n:Int))]=_
 rw [Int.zero_add,Int.emod_eq_of_lt (by omega) (by omega)]
def gE (n:Nat) (f:Nat->Bool):List Int:=((cW n).filter f).map fun k:Nat=>(k:Int)
theorem NR (n:Nat) (hn:n<=1024) (f:Nat->Bool):∀(l:List Nat) (acc:List Int),(∀k∈l,k < n)->acc.length+l.length<=2000 ->
  Go qk true 2 (fF 90) (.head 0 (vU (ql l) n (aF n f) (ae acc))) (.doneM (.tail 5 0) (bm n (aF n f)++[O.box 135 (V.ptr 0 0 0) false,O.row 3 [] 0,O.box 80 (V.tail 5 0) false,O.row 3 (ae (acc++(l.filter f).map fun k:Nat=>(k:Int))) 0]))
 | [],acc,_,_=>by
  refine F2 _ _ _ _ ?_ (.refl _)
  simp only [List.filter_nil,iH,c7]
  rfl
 | k::l,acc,h,hl=>by
  have hk:=h k (by simp)
  have his:lG n f (k:Int)=f k:=by unfold lG;rw [aU,decide_eq_true (by omega),dq]
  have ih:=fun acc' (h':acc'.length+l.length<=2000)=>NR n hn f l acc' (fun x hx=>h x (by simp [hx])) h'
  simp only [cw] at hl
  cases hf:f k with
  | true =>
   have ih:=ih (acc++[(k:Int)]) (by simp;omega)
   rw [bc] at ih
   rw [List.filter_cons_of_pos hf,cU]
   refine F2 _ _ _ _ ?_ ih
   unfold F0
   simp only [ql,cU,uT,lH,lY,bH,l6]
   rw [cD uF (uv n hn f k),bG,his,hf,cond_true,ak (decide_eq_true (by rw [bO];simp;omega))]
   simp [ae]
  | false =>
   rw [List.filter_cons_of_neg (by rw [hf];decide)]
   refine F2 _ _ _ _ ?_ (ih acc (by omega))
   unfold F0
   simp only [ql,cU,uT,lH,lY,bH,l6]
   rw [cD uF (uv n hn f k),bG,his,hf,cond_false]
theorem Y1 (n:Nat) (hn:n<=1024) (f:Nat->Bool):bB aa al 90 [.ptr 0 0 0] (bm n (aF n f))=some (qf (bm n (aF n f)) (ae (gE n f))):=by
 obtain ⟨r1,r2⟩:=Fa n hn
 refine Sk _ _ ?_ ⟨_,_,NR n hn f (cW n) [] (fun k hk=>by simpa using hk) (by simp;omega),by kernel_rfl⟩
 unfold Jc
 rw [r1,hJ,r2]
 rfl
def zm (n:Nat) (f:Nat->Bool):Nat:=n - (gE n f).length
theorem NQ (n:Nat) (f:Nat->Bool):(gE n f).length<=n:=by
 unfold gE
 rw [dA]
 have:=List.length_filter_le f (cW n)
 simpa using this
theorem Tc (n:Nat) (hn:n<=1024) (f:Nat->Bool):bB aa al 89 [.ptr 0 0 0] (bm n (aF n f))=some (qe (bm n (aF n f)) (zm n f:Nat)):=by
 refine Sj _ _ (o:=.doneM (.int .i64 (zm n f:Nat)) (bm n (aF n f))) ?_ (.done (by kernel_rfl))
 unfold Jb
 have:=NQ n f
 rw [cD Vu (Y1 n hn f),bG,bO,aK (by omega)]
 unfold zm
 rw [show ((n:Int) - ((gE n f).length:Int))=((n - (gE n f).length:Nat):Int) by omega]
def kH (n:Nat) (f:Nat->Bool):Option Nat:=(cW n).find? fun k=>!f k
theorem Gu (n:Nat) (hn:n<=1024) (f:Nat->Bool) (k:Nat):∀(l:List Nat),(∀k∈l,k < n)->l.find? (fun k=>!f k)=some k ->
  Go qk true 2 (fF 131) (.head 0 (yj (ql l) n (aF n f))) (.doneM (.tup [.int .i64 (k:Int),.int .i64 0]) (bm n (aF n (dY f k true))++[O.box 135 (V.ptr 0 0 0) false,O.box 3 (V.int .i64 (k:Int)) false,O.box 27 (V.int .i64 0) false]))
 | [],_,h=>by cases h
 | i::l,h,hk=>by
  have hi:=h i (by simp)
  have his:lG n f (i:Int)=f i:=by unfold lG;rw [aU,decide_eq_true (by omega),dq]
  rw [List.find?_cons] at hk
  cases hf:f i with
  | false =>
   rw [hf] at hk
   have e:i=k:=by simpa using hk
   rw [<-e]
   refine MD _ _ _ ?_ (.refl _)
   unfold Fq
   simp only [ql,cU,uT,lH,lY,bH,l6]
   rw [cD uF (uv n hn f i),bG,his,hf,i9,cond_true,bY Vj (YZ n hn f i hi hf)]
  | true =>
   rw [hf] at hk
   refine MD _ _ _ ?_ (Gu n hn f k l (fun x hx=>h x (by simp [hx])) hk)
   unfold Fq
   simp only [ql,cU,uT,lH,lY,bH,l6]
   rw [cD uF (uv n hn f i),bG,his,hf,bA,cond_false]
theorem Y0 (n:Nat) (hn:n<=1024) (f:Nat->Bool) (k:Nat) (hk:kH n f=some k):bB aa al 131 [.ptr 0 0 0,.int .i64 0] (bm n (aF n f))=some (ox (k,0,n,aF n (dY f k true))):=by
 obtain ⟨r1,r2⟩:=Fa n hn
 have hn0:0 < n:=by
  rcases xZ n with h | h
  ·subst h;simp [kH] at hk
  ·exact h
 refine QU _ _ _ ?_ ⟨_,_,Gu n hn f k (cW n) (fun k hk=>by simpa using hk) hk,by kernel_rfl⟩
 unfold IH
 rw [decide_eq_true (show (0:Int) ≥ 0 by omega),cond_true,decide_eq_true (show (0:Int) < (n:Int) by omega),bA,cond_false,r1,hJ,r2]
set_option maxRecDepth 10000
abbrev Pr:=Bs × Bs
structure Lf where
 prs:List Pr
 high:Bs
 next:Int
abbrev pV (p:Pr):V:=.agg [.str p.1,.str p.2]
def aX (l:List Pr):List V:=l.map pV
abbrev eL (l:Lf):V:=.agg [.sl (aX l.prs),.str l.high,.int .i64 l.next]
theorem en (l:List Pr):(aX l).length=l.length:=by simp [aX]
theorem jn {l:List Pr} {n:Nat} {x:Pr} {k:V->R} (h:l[n]? = some x):aH (aX l) n k=k (pV x):=DG h
structure pf (l:Lf):Prop where
 prs:l.prs.length<=1000
 pr:∀p∈l.prs,p.1.length<=1000/\p.2.length<=1000
 high:l.high.length<=1000
def aC:List Pr->Nat
 | []=>0
 | p::r=>2+p.1.length+p.2.length+aC r
theorem Oi:∀{l:List Pr},(∀p∈l,p.1.length<=1000/\p.2.length<=1000)->aC l<=2002 * l.length
 | [],_=>bq _
 | p::r,h=>by
  have h1:=h p (by simp)
  have h2:=Oi (l:=r) fun x hx=>h x (by simp [hx])
  simp only [aC,cw]
  omega
def gD (l:Lf):Nat:=5+l.high.length+aC l.prs
theorem Ya {l:Lf} (h:pf l):gD l<=2100000:=by
 have h1:=Oi h.pr
 have h2:=h.prs
 have h3:=h.high
 unfold gD
 omega
theorem GB (p:Pr) (h1:p.1.length<=1000) (h2:p.2.length<=1000):bu aa 165 [pV p]=some (.int .i64 ((2+p.1.length+p.2.length:Nat):Int)):=by
 refine Ra _ _ ?_
 unfold Cp
 rw [aK (n:=2+(p.1.length:Int)) (by omega),aK (by omega)]
 simp
theorem Yb (l:List Pr) (hl:l.length<=1000) (hs:∀p∈l,p.1.length<=1000/\p.2.length<=1000):∀(r:List Pr) (k a:Nat),l.drop k=r->a<=2000+2002 * k ->
  Go qk false 0 (fF 159) (.head 0 (tB (a:Int) (aX l) (l.length:Int) (k:Int))) (.done (.int .i64 ((a+aC r:Nat):Int))):=by
 intro r
 induction r with
 | nil =>
  intro k a hr ha
  have h1:=drop_nil hr
  refine MH _ _ _ _ ?_ (.refl _)
  unfold Fx
  rw [decide_eq_false (by omega)];rfl
 | cons x r ih =>
  intro k a hr ha
  obtain ⟨h1,h2,h3⟩:=fT hr
  have hx:=hs x (cf h1)
  refine MH _ _ _ _ (o:=.head 0 (tB ((a+(2+x.1.length+x.2.length):Nat):Int) (aX l) (l.length:Int) ((k+1:Nat):Int))) ?_ ?_
  ·unfold Fx
   rw [decide_eq_true (by omega),cond_true,ak (by simp),aU,jn h1]
   show (ai aa _ [pV x] _)=_
   rw [au (GB x hx.1 hx.2),bH,aK (by omega),aK (by omega)]
   simp
  ·have:=ih (k+1) (a+(2+x.1.length+x.2.length)) h2 (by omega)
   rw [aC,show a+(2+x.1.length+x.2.length+aC r)=a+(2+x.1.length+x.2.length)+aC r from by omega]
   exact this
theorem Ga (l:Lf) (h:pf l):bu aa 159 [eL l]=some (.int .i64 (gD l:Int)):=by
 have hh:=h.high
 refine Q4 _ _ _ (o:=.head 0 (tB ((5+l.high.length:Nat):Int) (aX l.prs) (l.prs.length:Int) ((0:Nat):Int))) ?_ (Yb l.prs h.prs h.pr l.prs 0 _ rfl (by omega))
 unfold IP
 rw [en,aK (by omega)]
 simp
def t8 (l:Lf):Bool:=decide (21+aC l.prs<=252)
theorem C4 (l:Lf) (h:pf l):bu aa 118 [eL l]=some (.bool (t8 l)):=by
 refine QH _ _ _ ?_
 have h1:=Ya h
 have h2:=h.high
 unfold Cg
 rw [au (Ga l h),bH,aK (n:=(gD l:Int) - (l.high.length:Int)) (by omega),aK (by omega)]
 unfold t8
 rw [decide_eq_decide.2 (show (gD l:Int) - (l.high.length:Int)+16<=252↔21+aC l.prs<=252 by unfold gD;omega)]
def dE (s:Bs):Bool:=decide (s.length<=32)
theorem vp (s:Bs):bu aa 74 [.str s]=some (.bool (dE s)):=by
 refine RX _ ?_
 unfold CJ dE
 rw [decide_eq_decide.2 (show (s.length:Int)<=32↔s.length<=32 by omega)]
def jA (p:Bs):List Pr->Bool
 | []=>true
 | x::r=>bi x.1 && dE x.2 && lt p x.1 && jA x.1 r
def kU (p:Bs) (l:List Pr):Bs:=(l.map (·.1)).getLastD p
def ru (l:Lf):Bool:=decide (0<=l.next) && decide (l.next<=1024) && t8 l
def bZ (l:Lf):Bool:=jA [] l.prs && d8 (kU [] l.prs) l.high && ru l
theorem W5 (l:Lf) (h:pf l):∀(r:List Pr) (k:Nat) (p:Bs),l.prs.drop k=r ->
  Go qk false 0 (fF 115) (.head 0 (vH p (aX l.prs) (l.prs.length:Int) (k:Int) (aX l.prs) l.high l.next)) (.done (.bool (jA p r && d8 (kU p r) l.high && ru l))):=by
 have hl:=h.prs
 intro r
 induction r with
 | nil =>
  intro k p hr
  have h1:=drop_nil hr
  refine xp _ _ _ _ _ _ _ ?_ (.refl _)
  unfold AA
  rw [decide_eq_false (by omega),cond_false]
  simp only [au (C4 l h),cy,au (gY l.high),jA,dq,kU,iH,List.getLastD_nil,d8,ru]
  cases l.high==[] with
  | true =>
   by_cases h1:0<=l.next
   ·rw [decide_eq_true h1]
    cases decide (l.next<=1024)<;>rfl
   ·rw [decide_eq_false h1]
    rfl
  | false =>
   cases bi l.high with
   | false=>rfl
   | true =>
    show (cond (lt p l.high) _ _)=_
    cases lt p l.high with
    | false=>rfl
    | true =>
     by_cases h1:0<=l.next
     ·rw [decide_eq_true h1]
      cases decide (l.next<=1024)<;>rfl
     ·rw [decide_eq_false h1]
      rfl
 | cons x r ih =>
  intro k p hr
  obtain ⟨h1,h2,h3⟩:=fT hr
  have w:W .i64 ((k:Int)+1)=((k+1:Nat):Int):=by rw [aK (by omega)];omega
  have e0:AA p (aX l.prs) (l.prs.length:Int) (k:Int) (aX l.prs) l.high l.next=cond (!bi x.1) (some (.done (V.bool false))) (cond (!dE x.2) (some (.done (V.bool false))) (cond (!lt p x.1) (some (.done (V.bool false))) (some (.head 0 (vH x.1 (aX l.prs) (l.prs.length:Int) ((k+1:Nat):Int) (aX l.prs) l.high l.next))))):=by
   unfold AA
   rw [decide_eq_true (by omega),cond_true,ak (by simp),aU,jn h1,iN,au (gY x.1),cy,au (vp x.2),cy,Kw x.1 p,w]
  have e1:(jA p (x::r) && d8 (kU p (x::r)) l.high && ru l)=(bi x.1 && (dE x.2 && (lt p x.1 && (jA x.1 r && d8 (kU x.1 r) l.high && ru l)))):=by
   unfold kU
   rw [jA,cU,List.getLastD_cons]
   simp only [Bool.and_assoc]
  rw [e1]
  cases q1:bi x.1 with
  | false=>exact xp _ _ _ _ _ _ _ (e0.trans (by rw [q1];rfl)) (.refl _)
  | true =>
   cases q2:dE x.2 with
   | false=>exact xp _ _ _ _ _ _ _ (e0.trans (by rw [q1,q2];rfl)) (.refl _)
   | true =>
    cases q3:lt p x.1 with
    | false=>exact xp _ _ _ _ _ _ _ (e0.trans (by rw [q1,q2,q3];rfl)) (.refl _)
    | true =>
     refine xp _ _ _ _ _ _ _ (e0.trans (by rw [q1,q2,q3];rfl)) ?_
     simp only [dq]
     exact ih (k+1) x.1 h2
theorem uU (l:Lf) (h:pf l):bu aa 115 [eL l]=some (.bool (bZ l)):=by
 refine QC _ _ _ ?_ (W5 l h l.prs 0 [] rfl)
 unfold Iy
 rw [en]
 rfl
theorem xh:∀{l:List Pr} {p:Bs},jA p l=true->∀x∈l,bi x.1=true/\dE x.2=true
 | [],_,_,x,hx=>by cases hx
 | y::l,p,h,x,hx=>by
  simp only [jA,bd] at h
  rcases bw.1 hx with rfl | hx
  ·exact h.1.1
  ·exact xh h.2 x hx
theorem xK:∀{l:List Pr},(∀x∈l,bi x.1=true)->3 * l.length<=aC l
 | [],_=>bq _
 | x::l,h=>by
  have h1:=(gJ (h x (by simp))).1
  have h2:=xK (l:=l) fun y hy=>h y (by simp [hy])
  simp only [aC,cw]
  omega
theorem Sw {l:Lf}:ru l=true↔0<=l.next/\l.next<=1024/\aC l.prs<=231:=by
 unfold ru t8
 simp only [bd,decide_eq_true_eq]
 constructor
 ·rintro ⟨⟨a,b⟩,c⟩;exact ⟨a,b,by omega⟩
 ·rintro ⟨a,b,c⟩;exact ⟨⟨a,b⟩,by omega⟩
theorem qp {l:Lf}:bZ l=true↔jA [] l.prs=true/\d8 (kU [] l.prs) l.high=true/\0<=l.next/\l.next<=1024/\aC l.prs<=231:=by
 unfold bZ
 rw [bd,bd,Sw,and_assoc]
theorem wH {p h:Bs} (e:d8 p h=true):h.length<=16:=by
 unfold d8 at e
 simp only [l9,bd,beq_iff_eq] at e
 rcases e with rfl | ⟨e,_⟩
 ·simp
 ·exact (gJ e).2
theorem Av {l:Lf} (h:bZ l=true):pf l:=by
 obtain ⟨h1,h2,_,_,h3⟩:=qp.1 h
 have hm:=xh h1
 have hg:=xK fun x hx=>(hm x hx).1
 have hh:=wH h2
 refine ⟨by omega,fun p hp=>?_,by omega⟩
 have q1:=(gJ (hm p hp).1).2
 have q2:=(hm p hp).2
 simp only [dE,decide_eq_true_eq] at q2
 omega
def fJ:List Pr->Bs
 | []=>[]
 | p::r=>bT p.1++bT p.2++fJ r
theorem Mp:∀l:List Pr,(fJ l).length=aC l
 | []=>rfl
 | p::l=>by rw [fJ,aC];simp [Mp l];omega
def yE (l:Lf):Bs:=UInt8.ofNat l.prs.length::(bI 2 l.next.toNat++(bT l.high++fJ l.prs))
def bh (l:Lf):Bs:=76::yE l
theorem CR (l:Lf):(bh l).length=gD l:=by
 unfold bh yE gD
 simp [dK,Mp]
 omega
theorem Ss (l:List Pr) (hll:l.length<=1000):∀(r:List Pr) (k:Nat) (d:Bs),l.drop k=r->(∀x∈r,x.1.length<=255/\x.2.length<=255)->d.length+aC r<=100000 ->
  Go qk false 0 (fF 120) (.head 0 (vI (d++eo (aC r)) (d.length:Int) (aX l) (l.length:Int) (k:Int))) (.done (.str (d++fJ r))):=by
 intro r
 induction r with
 | nil =>
  intro k d hr _ _
  have h1:=drop_nil hr
  refine Mz _ _ _ _ _ ?_ (.refl _)
  unfold Fj
  rw [decide_eq_false (by omega)]
  simp [aC,fJ]
 | cons x r ih =>
  intro k d hr h hd
  obtain ⟨h1,h2,h3⟩:=fT hr
  obtain ⟨hx1,hx2⟩:=h x (by simp)
  have w:W .i64 ((k:Int)+1)=((k+1:Nat):Int):=by rw [aK (by omega)];omega
  have hw:aC (x::r)=x.1.length+1+(x.2.length+1+aC r):=by rw [aC];omega
  rw [hw] at hd |-
  have e1:=w8 d x.1 (x.1.length+1+(x.2.length+1+aC r)) (d.length:Int) rfl hx1 (by omega)
  rw [show x.1.length+1+(x.2.length+1+aC r) - (x.1.length+1)=x.2.length+1+aC r by omega] at e1
  have e2:=w8 (d++bT x.1) x.2 (x.2.length+1+aC r) ((d.length:Int)+x.1.length+1) (by simp;omega) hx2 (by omega)
  rw [show x.2.length+1+aC r - (x.2.length+1)=aC r by omega] at e2
  refine Mz _ _ _ _ _ (o:=.head 0 (vI (d++bT x.1++bT x.2++eo (aC r)) ((d++bT x.1++bT x.2).length:Int) (aX l) (l.length:Int) ((k+1:Nat):Int))) ?_ ?_
  ·unfold Fj
   rw [decide_eq_true (by omega),cond_true,ak (by simp),aU,jn h1,iN,au (w9 e1 (by simp [cE];omega) (by simp only [cE];omega)),f0,
    au (w9 e2 (by simp [cE];omega) (by simp only [cE];omega)),f0,w]
   have:(d.length:Int)+x.1.length+1+x.2.length+1=((d++bT x.1++bT x.2).length:Int):=by simp;omega
   rw [this]
  ·have:=ih (k+1) (d++bT x.1++bT x.2) h2 (fun y hy=>h y (by simp [hy])) (by simp;omega)
   rw [fJ]
   simpa [bc] using this
theorem Jl (l:Lf) (h:bZ l=true):bu aa 120 [eL l]=some (.str (bh l)):=by
 have hsm:=Av h
 obtain ⟨h1,h2,h3,h4,h5⟩:=qp.1 h
 have hm:=xh h1
 have hg:=xK fun x hx=>(hm x hx).1
 have hh:=wH h2
 obtain ⟨nn,hnn⟩:∃nn:Nat,l.next=(nn:Int):=⟨l.next.toNat,by omega⟩
 obtain ⟨c,hc⟩:∃c:UInt8,c=UInt8.ofNat l.prs.length:=⟨_,rfl⟩
 have e0:qi [76] ((gD l:Nat):Int)=([76]++eo (1+(2+(l.high.length+1+aC l.prs))),0):=by
  have hz:gD l=1+(1+(2+(l.high.length+1+aC l.prs))):=by unfold gD;omega
  unfold qi
  rw [if_neg (by omega),if_neg (by simp;omega),aU,hz]
  congr 3
  simp
 have e1:=uP [76] (1+(2+(l.high.length+1+aC l.prs))) 1 l.prs.length 1 1 rfl rfl (by omega) (by omega) (by omega) (by omega)
 have f1:bI 1 l.prs.length=[c]:=by
  rw [hc]
  show [UInt8.ofNat (l.prs.length % 256)]=_
  rw [ya (by omega)]
 rw [f1,show 1+(2+(l.high.length+1+aC l.prs)) - 1=2+(l.high.length+1+aC l.prs) by omega] at e1
 have e2:=uP ([76]++[c]) (2+(l.high.length+1+aC l.prs)) 2 nn 2 2 rfl rfl (by omega) (by omega) (by omega) (by omega)
 rw [show 2+(l.high.length+1+aC l.prs) - 2=l.high.length+1+aC l.prs by omega] at e2
 have e3:=w8 ([76]++[c]++bI 2 nn) l.high (l.high.length+1+aC l.prs) 4 (by simp [dK]) (by omega) (by omega)
 rw [show l.high.length+1+aC l.prs - (l.high.length+1)=aC l.prs by omega] at e3
 have hd:([76]++[c]++bI 2 nn++bT l.high).length=4+l.high.length+1:=by simp [dK];omega
 have hl:=Ss l.prs hsm.prs l.prs 0 ([76]++[c]++bI 2 nn++bT l.high) rfl (fun x hx=>by
  have q1:=(gJ (hm x hx).1).2
  have q2:=(hm x hx).2
  simp only [dE,decide_eq_true_eq] at q2
  omega) (by rw [hd];omega)
 have hfin:[76]++[c]++bI 2 nn++bT l.high++fJ l.prs=bh l:=by
  unfold bh yE
  rw [hnn,hc]
  simp
 rw [hfin] at hl
 have w0:W .u64 (l.prs.length:Int)=(l.prs.length:Int):=li (by omega)
 have w1:W .u64 (nn:Int)=(nn:Int):=li (by omega)
 have hat:(4:Int)+(l.high.length:Int)+1=(([76]++[c]++bI 2 nn++bT l.high).length:Nat):=by rw [hd];omega
 refine QL _ _ _ ?_ hl
 unfold IA
 have s76:[UInt8.ofNat ((76:Int)).toNat]=([76]:Bs):=rfl
 rw [au (uU l hsm),cy,h,bA,cond_false,au (Ga l hsm),bH,s76,au (LG e0 (by decide)),kD,en,w0,
  au (uQ e1 (by omega) (by simp [cE];omega)),kD,hnn,w1,au (uQ e2 (by omega) (by simp [cE];omega)),kD,
  au (w9 e3 (by simp [cE,dK];omega) (by simp only [cE];omega)),f0,hat]
 rfl
theorem xH (A t B:Bs) (h:t.length<=255):fK (A++(bT t++B)) ((A.length:Nat):Int)=(t,((A.length+1+t.length:Nat):Int),0):=by
 unfold fK
 rw [if_pos (by simp;omega),aU,List.drop_left]
 have hc:(UInt8.ofNat t.length).toNat=t.length:=by simp;omega
 simp only [bT,c8]
 rw [if_neg (by rw [hc];simp),hc]
 simp
abbrev L9 (ps:List Pr) (high:Bs) (next:Int) (at_:Nat):V:=.tup [.agg [.sl (aX ps),.str high,.int .i64 next],.int .i64 (at_:Int),.bool true]
theorem Ma (s:Bs) (hs:cE s) (n:Nat) (hn:n<=1000) (high:Bs) (next:Int):∀(r dn:List Pr) (A:Bs),s=A++fJ r->n=dn.length+r.length->(∀x∈r,x.1.length<=255/\x.2.length<=255) ->
  Go qk false 0 (fF 175) (.head 1 (ym s (n:Int) (A.length:Int) (n:Int) (dn.length:Int) high next (aX dn))) (.done (L9 (dn++r) high next s.length))
 | [],dn,A,hA,hl,_=>by
  refine MN _ _ _ _ _ _ _ _ ?_ (.refl _)
  unfold FE
  simp only [fc,dv] at hl
  rw [decide_eq_false (by omega),cond_false,hA]
  simp [fJ]
 | x::r,dn,A,hA,hl,hx=>by
  obtain ⟨hx1,hx2⟩:=hx x (by simp)
  simp only [cw] at hl
  have e1:fK s (A.length:Nat)=(x.1,(((A++bT x.1).length:Nat):Int),0):=by
   rw [hA,fJ,bc,xH A x.1 _ hx1]
   simp;omega
  have e2:fK s (((A++bT x.1).length:Nat):Int)=(x.2,(((A++bT x.1++bT x.2).length:Nat):Int),0):=by
   rw [hA,fJ,bc,<-bc A,xH (A++bT x.1) x.2 _ hx2]
   simp;omega
  have w:W .u64 ((dn.length:Int)+1)=(((dn++[x]).length:Nat):Int):=by rw [li (by omega)];simp
  have ih:=Ma s hs n hn high next r (dn++[x]) (A++bT x.1++bT x.2) (by rw [hA,fJ];simp) (by simp;omega) (fun y hy=>hx y (by simp [hy]))
  rw [show dn++[x]++r=dn++x::r by simp] at ih
  refine MN _ _ _ _ _ _ _ _ (o:=.head 2 (nW s (n:Int) (A.length:Int) (n:Int) (dn.length:Int) 0 high next [] [] (aX dn))) ?_
   (XG _ _ _ _ _ _ _ _ _ _ (o:=.head 2 (nW s (n:Int) ((A++bT x.1).length:Nat) (n:Int) (dn.length:Int) 1 high next x.1 [] (aX dn))) ?_
   (XH _ _ _ _ _ _ _ _ _ _ (o:=.head 2 (nW s (n:Int) ((A++bT x.1++bT x.2).length:Nat) (n:Int) (dn.length:Int) 2 high next x.1 x.2 (aX dn))) ?_
   (XI _ _ _ _ _ _ _ _ _ _ ?_ ih)))
  ·unfold FE
   rw [decide_eq_true (by omega),cond_true]
  ·unfold MR
   rw [au (i6 e1 hs),f0,dG rfl,cond_false]
  ·unfold MS
   rw [au (i6 e2 hs),f0,dG rfl,cond_false]
  ·unfold MU
   rw [ak (decide_eq_true (by simp only [en,cL,fX,fO,cw,fc];omega)),w]
   simp [aX]
theorem WS (l:Lf) (h:bZ l=true):bu aa 175 [.str (bh l)]=some (L9 l.prs l.high l.next (bh l).length):=by
 have hsm:=Av h
 obtain ⟨h1,h2,h3,h4,h5⟩:=qp.1 h
 have hm:=xh h1
 have hg:=xK fun x hx=>(hm x hx).1
 have hh:=wH h2
 have hlen:=CR l
 have hs:cE (bh l):=by rw [cE,hlen];unfold gD;omega
 obtain ⟨nn,hnn⟩:∃nn:Nat,l.next=(nn:Int):=⟨l.next.toNat,by omega⟩
 have hpr:∀x∈l.prs,x.1.length<=255/\x.2.length<=255:=fun x hx=>by
  have q1:=(gJ (hm x hx).1).2
  have q2:=(hm x hx).2
  simp only [dE,decide_eq_true_eq] at q2
  omega
 have g1:ff (bh l) 1 1=(((l.prs.length:Nat):Int),0):=by
  unfold ff
  rw [if_pos (xk (by omega) (by omega) (by omega) (by rw [hlen];unfold gD;omega))]
  have:(bh l).drop 1=UInt8.ofNat l.prs.length::(bI 2 l.next.toNat++(bT l.high++fJ l.prs)):=rfl
  show (((dp (((bh l).drop 1).take 1):Nat):Int),(0:Int))=_
  rw [this]
  simp [dp]
  omega
 have q16:(256:Nat) ^ 2=65536:=by decide
 have g2:ff (bh l) 2 2=(l.next,0):=by
  unfold ff
  rw [if_pos (xk (by omega) (by omega) (by omega) (by rw [hlen];unfold gD;omega))]
  have:(bh l).drop 2=bI 2 l.next.toNat++(bT l.high++fJ l.prs):=rfl
  show (((dp (((bh l).drop 2).take 2):Nat):Int),(0:Int))=_
  rw [this,vC (by rw [dK];omega),jI (by rw [dK];omega),A7 2 l.next.toNat (by omega)]
  rw [hnn];simp
 have hA:(76::UInt8.ofNat l.prs.length::bI 2 l.next.toNat:Bs).length=4:=by simp [dK]
 have g3:fK (bh l) 4=(l.high,(((76::UInt8.ofNat l.prs.length::(bI 2 l.next.toNat++bT l.high):Bs).length:Nat):Int),0):=by
  have e:bh l=(76::UInt8.ofNat l.prs.length::bI 2 l.next.toNat)++(bT l.high++fJ l.prs):=rfl
  have:=xH (76::UInt8.ofNat l.prs.length::bI 2 l.next.toNat) l.high (fJ l.prs) (by omega)
  rw [hA] at this
  rw [e]
  refine this.trans ?_
  simp [dK];omega
 have hAA:bh l=(76::UInt8.ofNat l.prs.length::(bI 2 l.next.toNat++bT l.high))++fJ l.prs:=by simp [bh,yE]
 generalize hAd:(76::UInt8.ofNat l.prs.length::(bI 2 l.next.toNat++bT l.high):Bs)=A at g3 hAA
 have w:W .i64 l.next=l.next:=aK (by omega)
 refine IT _ (o:=.head 0 (By (bh l) (l.prs.length:Int) (A.length:Int) l.high l.next)) ?_ (XC _ _ _ _ _ rfl ?_)
 ·unfold Cs
  rw [au (iz g1 hs),iw,au (iz g2 hs),iw,au (i6 g3 hs),f0,dG rfl,cond_false,cond_false,cond_false,w]
  rfl
 ·cases hp:l.prs with
  | nil =>
   refine MM _ _ _ _ _ _ ?_ (.refl _)
   unfold FD
   rw [decide_eq_false (by simp),cond_false]
   rw [hp] at hAA
   rw [hAA]
   simp [fJ,aX]
  | cons x r =>
   rw [hp] at hAA hpr
   have hN:l.prs.length<=1000:=by omega
   rw [hp,cw] at hN
   obtain ⟨hx1,hx2⟩:=hpr x (by simp)
   have e1:fK (bh l) (A.length:Nat)=(x.1,(((A++bT x.1).length:Nat):Int),0):=by
    rw [hAA,fJ,bc,xH A x.1 _ hx1]
    simp;omega
   have e2:fK (bh l) (((A++bT x.1).length:Nat):Int)=(x.2,(((A++bT x.1++bT x.2).length:Nat):Int),0):=by
    rw [hAA,fJ,bc,<-bc A,xH (A++bT x.1) x.2 _ hx2]
    simp;omega
   have fin:=Ma (bh l) hs (r.length+1) hN l.high l.next r [x] (A++bT x.1++bT x.2) (by rw [hAA,fJ];simp) (by simp;omega) (fun y hy=>hpr y (by simp [hy]))
   rw [cw]
   refine MM _ _ _ _ _ _ (o:=.head 2 (nV (bh l) ((r.length+1:Nat):Int) (A.length:Int) ((r.length+1:Nat):Int) 0 l.high l.next [] [])) ?_
    (XD _ _ _ _ _ _ _ _ (o:=.head 2 (nV (bh l) ((r.length+1:Nat):Int) ((A++bT x.1).length:Nat) ((r.length+1:Nat):Int) 1 l.high l.next x.1 [])) ?_
    (XE _ _ _ _ _ _ _ _ (o:=.head 2 (nV (bh l) ((r.length+1:Nat):Int) ((A++bT x.1++bT x.2).length:Nat) ((r.length+1:Nat):Int) 2 l.high l.next x.1 x.2)) ?_
    (XF _ _ _ _ _ _ _ _ ?_ fin)))
   ·unfold FD
    rw [decide_eq_true (by omega),cond_true]
   ·unfold MO
    rw [au (i6 e1 hs),f0,dG rfl,cond_false]
   ·unfold MP
    rw [au (i6 e2 hs),f0,dG rfl,cond_false]
   ·unfold MQ
    rw [ak (decide_eq_true (by simp))]
    rfl
theorem Qd (l:Lf) (h:bZ l=true):bu aa 129 [.str (bh l)]=some (.tup [eL l,.int .i64 0]):=by
 have hsm:=Av h
 obtain ⟨h1,h2,h3,h4,h5⟩:=qp.1 h
 have hh:=wH h2
 have hlen:=CR l
 have hs:cE (bh l):=by rw [cE,hlen];unfold gD;omega
 refine IG _ ?_
 unfold y4
 rw [decide_eq_false (by rw [hlen];unfold gD;omega),cond_false,au (WS l h),Ij,bA,cond_false]
 show (ai aa _ [eL l] _)=_
 rw [au (uU l hsm),cy,h,bA,cond_false,ak (by simp),aU,ak (by simp),lc,List.drop_length,au (HL [] (by simp [cE])),ef]
 rfl
def aD (l:List Pr):List Bs:=l.map (·.1)
theorem rL {l:List Pr} {i:Nat} {x:Pr} (h:l[i]? = some x):(aD l)[i]? = some x.1:=by simp [aD,h]
theorem oo (l:List Pr):(aD l).length=l.length:=by simp [aD]
theorem Md:∀{l:List Pr} {p:Bs},jA p l=true->(∀x∈l,lt p x.1=true)/\iK (aD l)
 | [],_,_=>⟨fun _ h=>(by cases h),.nil⟩
 | y::l,p,h=>by
  simp only [jA,bd] at h
  obtain ⟨h1,h2⟩:=Md h.2
  refine ⟨fun x hx=>?_,fP.2 ⟨fun k hk=>?_,h2⟩⟩
  ·rcases bw.1 hx with rfl | hx
   ·exact h.1.2
   ·exact lt_trans h.1.2 (h1 x hx)
  ·obtain ⟨x,hx,rfl⟩:=dF.1 hk
   exact h1 x hx
theorem W6 {l:Lf} (h:bZ l=true):iK (aD l.prs):=(Md (qp.1 h).1).2
theorem PX (a b:Bs):bu aa 158 [.str a,.str b]=some (.int .i64 (if a==b then 0 else if lt a b then -1 else 1)):=Aj (g:=yO) rfl rfl
theorem CZ (p:Pr) (k:Bs):bu aa 157 [pV p,.str k]=some (.int .i64 (if p.1==k then 0 else if lt p.1 k then -1 else 1)):=by
 refine Q2 _ _ _ ?_
 unfold Cl
 rw [au (PX p.1 k),bH]
theorem Ib (a k:Bs):decide ((if a==k then (0:Int) else if lt a k then -1 else 1) < 0)=lt a k:=by
 by_cases h:a=k
 ·subst h;rw [gC];simp
 ·rw [if_neg (by simpa using h)];cases lt a k<;>rfl
theorem PV (a k:Bs):((if a==k then (0:Int) else if lt a k then -1 else 1)==0)=(a==k):=by
 by_cases h:a=k
 ·subst h;simp
 ·rw [if_neg (by simpa using h),beq_eq_false_iff_ne.2 h];cases lt a k<;>rfl
theorem Pm (m:List Pr) (hs:iK (aD m)) (k:Bs) (hl:m.length<=1000000):∀(d i j:Nat),j - i<=d->i<=bp (aD m) k->bp (aD m) k<=j->j<=m.length ->
  Go qk false 0 (fF 156) (.head 0 (pm (aX m) k m.length i j)) (.done (.tup [.int .i64 (bp (aD m) k),.bool (bQ (aD m) k)])):=by
 intro d
 induction d with
 | zero =>
  intro i j hd hi hj hn
  have e:i=bp (aD m) k:=by omega
  refine Fw _ _ _ _ _ ?_ (.refl _)
  unfold AH
  rw [decide_eq_false (by omega),cond_false]
  by_cases af:i < m.length
  ·have h1:m[i]? = some m[i]:=bj af
   have e2:bQ (aD m) k=(m[i].1==k):=by unfold bQ;rw [<-e,rL h1]
   rw [<-e,decide_eq_true (by omega),cond_true,ak (by simp),aU,jn h1,iN]
   show (ai aa _ [pV m[i],_] _)=_
   rw [au (CZ _ _),bH,e2,PV]
  ·have e2:bQ (aD m) k=false:=by unfold bQ;rw [<-e,vy (by rw [oo];omega)]
   rw [<-e,e2,decide_eq_false (by omega)]
   rfl
 | succ d ih =>
  intro i j hd hi hj hn
  by_cases hij:i < j
  ·have hh:=J2 (i:=i) (j:=j) (by omega)
   generalize hg:(i+j) / 2=h at hh
   have hb:i<=h/\h < j:=by omega
   have h1:m[h]? = some m[h]:=bj (by omega)
   have hlb:=zK hs k (rL h1)
   have w:W .i64 ((h:Int)+1)=((h+1:Nat):Int):=by rw [aK (by omega)];omega
   cases hx:lt m[h].1 k with
   | true =>
    refine Fw _ _ _ _ _ (o:=.head 0 (pm (aX m) k m.length ((h+1:Nat):Int) j)) ?_ (ih (h+1) j (by omega) (by have:=hlb.1 hx;omega) hj hn)
    unfold AH
    rw [decide_eq_true (by omega),cond_true,hh,ak (by simp),aU,jn h1,iN]
    show (ai aa _ [pV m[h],_] _)=_
    rw [au (CZ _ _),bH,Ib,hx,cond_true,w]
   | false =>
    have hge:bp (aD m) k<=h:=by
     rcases jK h (bp (aD m) k) with q | q
     ·rw [hlb.2 q] at hx;cases hx
     ·exact q
    refine Fw _ _ _ _ _ (o:=.head 0 (pm (aX m) k m.length i h)) ?_ (ih i h (by omega) hi hge (by omega))
    unfold AH
    rw [decide_eq_true (by omega),cond_true,hh,ak (by simp),aU,jn h1,iN]
    show (ai aa _ [pV m[h],_] _)=_
    rw [au (CZ _ _),bH,Ib,hx,cond_false]
  ·exact ih i j (by omega) hi hj hn
theorem C1 (l:Lf) (hs:iK (aD l.prs)) (hl:l.prs.length<=1000) (k:Bs):bu aa 116 [eL l,.str k]=some (.tup [.int .i64 (bp (aD l.prs) k),.bool (bQ (aD l.prs) k)]):=by
 refine QD _ _ _ _ ?_
 unfold Ce
 have:bu aa 156 [.sl (aX l.prs),.str k,.fn 157 []]=some (.tup [.int .i64 (bp (aD l.prs) k),.bool (bQ (aD l.prs) k)]):=by
  refine Q1 _ _ (o:=.head 0 (pm (aX l.prs) k l.prs.length ((0:Nat):Int) l.prs.length)) ?_ (Pm l.prs hs k (by omega) _ 0 l.prs.length (bq _) (il _) (by rw [<-oo];exact wQ _ k) (bq _))
  unfold IN
  rw [en]
  rfl
 rw [au this,v8]
theorem xJ (l:List Pr):df 2 (aX l)=true:=GC fun _=>rfl
theorem SU (l:List Pr):((aX l).all fun x=>x.cells.all V.flat1)=true:=by simp [aX,V.cells,V.flat1]
theorem LX (l:List Pr) (k:Nat):(aX l).take k=aX (l.take k):=by simp [aX,List.map_take]
theorem Wo (l:List Pr) (k:Nat):(aX l).drop k=aX (l.drop k):=by simp [aX,List.map_drop]
theorem LW (a b:List Pr):aX a++aX b=aX (a++b):=by simp [aX]
theorem ED (l w:List Pr) (i j:Nat) (hi:i<=l.length) (hj:j<=l.length) (hl:l.length<=1000) (hw:w.length<=1000) :
  bu aa 117 [.sl (aX l),.int .i64 (i:Int),.int .i64 (j:Int),.sl (aX w)]=some (.fr 41 (aX (l.take i++w++l.drop j))):=by
 refine QF _ _ _ _ ?_
 unfold Cf
 have hwl:W .i64 (((aX l).length:Int)+((aX w).length:Int))=((l.length+w.length:Nat):Int):=by rw [en,en,aK (by omega)];omega
 have hmid:(bl ((i:Int)).toNat (V.agg [V.str [],V.str []])).take 0++((aX l).take ((i:Int)).toNat).take (min ((aX l).take ((i:Int)).toNat).length ((bl ((i:Int)).toNat (V.agg [V.str [],V.str []])).length))++(bl ((i:Int)).toNat (V.agg [V.str [],V.str []])).drop (0+min ((aX l).take ((i:Int)).toNat).length ((bl ((i:Int)).toNat (V.agg [V.str [],V.str []])).length))=aX (l.take i):=by
  rw [aU,LX]
  have h1:(aX (l.take i)).length=i:=by rw [en,fX];omega
  rw [h1,vB,Nat.min_self,dI,qP,dB,jI (by omega),o7 (by simp),c7]
 have hend:((aX l).take (aX l).length).drop ((j:Int)).toNat=aX (l.drop j):=by rw [lc,aU,Wo]
 simp only [hmid,hend,hwl]
 rw [ak (by simp),ak (decide_eq_true (by omega)),ak (decide_eq_true (by rw [aU];omega)),ak (xJ _),ak (by simp),ak (decide_eq_true (by rw [aU,en];omega)),ak (by rw [aU,LX];exact xJ _),
  ak (by simp),ak (xJ _),ak (decide_eq_true (by simp only [en,cL,fX,fO,cw,fc];omega)),ak (xJ _),ak (by simp),ak (decide_eq_true (by rw [aU,en];omega)),ak (xJ _),LW,ak (decide_eq_true (by simp only [en,cL,fX,fO,cw,fc];omega)),LW,ak (SU _)]
set_option maxRecDepth 100000
theorem vq:∀a b:List Pr,aC (a++b)=aC a+aC b
 | [],b=>by simp [aC]
 | x::a,b=>by rw [c8,aC,aC,vq a b];omega
theorem vr (l:List Pr) (n:Nat):aC l=aC (l.take n)+aC (l.drop n):=by rw [<-vq,gP]
theorem Ba {x:Pr} (h1:bi x.1=true) (h2:dE x.2=true):3<=aC [x]/\aC [x]<=50:=by
 have:=gJ h1
 simp only [dE,decide_eq_true_eq] at h2
 simp only [aC]
 omega
theorem Oj:∀{l:List Pr},(∀x∈l,bi x.1=true/\dE x.2=true)->aC l<=50 * l.length
 | [],_=>bq _
 | x::r,h=>by
  have h1:=Ba (h x (by simp)).1 (h x (by simp)).2
  have h2:=Oj (l:=r) fun y hy=>h y (by simp [hy])
  simp only [aC,cw] at *
  omega
theorem EC (l:List Pr) (i j:Nat) (hi:i<=l.length) (hj:j<=l.length) (hl:l.length<=1000):bu aa 117 [.sl (aX l),.int .i64 (i:Int),.int .i64 (j:Int),.sl []]=some (.fr 41 (aX (l.take i++l.drop j))):=by
 have:=ED l [] i j hi hj hl (by simp)
 rwa [c7] at this
structure Ou (l:Lf):Prop where
 right:bZ l=true
 sm:pf l
 mem:∀x∈l.prs,bi x.1=true/\dE x.2=true
 ri:iK (aD l.prs)
 len:3 * l.prs.length<=aC l.prs
 wt:aC l.prs<=231
 high:l.high.length<=16
theorem pM {l:Lf} (h:bZ l=true):Ou l:=by
 have h1:=qp.1 h
 have hm:=xh h1.1
 exact ⟨h,Av h,hm,W6 h,xK fun x hx=>(hm x hx).1,h1.2.2.2.2,wH h1.2.1⟩
theorem re {m:List Bs} {k:Bs} (h:bQ m k=true):∃h2:bp m k < m.length,m[bp m k]=k:=by
 unfold bQ at h
 cases hx:m[bp m k]? with
 | none=>rw [hx] at h;cases h
 | some p =>
  rw [hx] at h
  obtain ⟨h2,h3⟩:=aS.1 hx
  exact ⟨h2,by rw [h3];simpa using h⟩
def wD (l:List Pr) (k:Bs):Bs:=(l[bp (aD l) k]?.getD ([],[])).2
theorem JV (l:Lf) (h:bZ l=true) (k:Bs):bu aa 76 [eL l,.str k]=some (if bQ (aD l.prs) k then .tup [.str (wD l.prs k),.int .i64 0] else .tup [.str [],.int .i64 7]):=by
 have g:=pM h
 have g1:=g.len;have g2:=g.wt
 refine R3 _ _ _ _ ?_
 unfold CK
 rw [au (uU l g.sm),cy,h,bA,cond_false,au (C1 l g.ri (by omega) k),v8]
 cases hh:bQ (aD l.prs) k with
 | false=>rfl
 | true =>
  obtain ⟨h2,_⟩:=re hh
  rw [oo] at h2
  have h3:l.prs[bp (aD l.prs) k]? = some l.prs[bp (aD l.prs) k]:=bj h2
  rw [bA,cond_false,ak (by simp),aU,jn h3,iN,if_pos rfl,wD,h3]
  rfl
def bR (l:List Pr) (k v:Bs):List Pr:=l.take (bp (aD l) k)++[(k,v)]++l.drop (if bQ (aD l) k then bp (aD l) k+1 else bp (aD l) k)
abbrev rM:Lf:=⟨[],[],0⟩
def oJ (l:Lf) (k v:Bs):V:=if aC (bR l.prs k v)<=231 then .tup [eL ⟨bR l.prs k v,l.high,l.next⟩,.int .i64 0] else .tup [eL rM,.int .i64 6]
theorem EP (l:List Pr) (k v:Bs):(bR l k v).length<=l.length+1:=by
 have:=wQ (aD l) k
 rw [oo] at this
 unfold bR
 simp only [cL,fX,fO,cw,fc]
 split<;>omega
theorem qn {l:List Pr} {k v:Bs} {x:Pr} (h:x∈bR l k v):x=(k,v)∨x∈l:=by
 unfold bR at h
 rcases aV.1 h with h | h
 ·rcases aV.1 h with h | h
  ·exact .inr (mg h)
  ·exact .inl (by simpa using h)
 ·exact .inr (kg h)
theorem An (l:List Pr) (k v:Bs):aC (bR l k v)<=aC l+aC [(k,v)]:=by
 have h1:=vr l (bp (aD l) k)
 have h2:=vr (l.drop (bp (aD l) k)) 1
 rw [nJ] at h2
 unfold bR
 rw [vq,vq]
 split
 ·omega
 ·omega
theorem JE (l:Lf):t8 l=decide (aC l.prs<=231):=by
 unfold t8
 by_cases h:aC l.prs<=231
 ·rw [decide_eq_true (show 21+aC l.prs<=252 by omega),decide_eq_true h]
 ·rw [decide_eq_false (show ¬21+aC l.prs<=252 by omega),decide_eq_false h]
theorem L3 (l:Lf) (h:bZ l=true) (k v:Bs) (hk:bi k=true) (hv:dE v=true) {q:R} :
  q=(ai aa 116 [eL l,.str k] fun r_3=>ky r_3 fun i is=>cond is
   (ai aa 117 [.sl (aX l.prs),.int .i64 i,.int .i64 (W .i64 (i+1)),.sl [.agg [.str k,.str v]]] fun r_4=>kF 41 r_4 fun o=>ai aa 118 [.agg [.sl o,.str l.high,.int .i64 l.next]] fun r_5=>kB r_5 fun b=>cond (!b) (some (.done (.tup [.agg [.sl [],.str [],.int .i64 0],.int .i64 6]))) (some (.done (.tup [.agg [.sl o,.str l.high,.int .i64 l.next],.int .i64 0]))))
   (ai aa 117 [.sl (aX l.prs),.int .i64 i,.int .i64 i,.sl [.agg [.str k,.str v]]] fun r_4=>kF 41 r_4 fun o=>ai aa 118 [.agg [.sl o,.str l.high,.int .i64 l.next]] fun r_5=>kB r_5 fun b=>cond (!b) (some (.done (.tup [.agg [.sl [],.str [],.int .i64 0],.int .i64 6]))) (some (.done (.tup [.agg [.sl o,.str l.high,.int .i64 l.next],.int .i64 0]))))) ->
  q=some (.done (oJ l k v)):=by
 rintro rfl
 have g:=pM h
 have g1:=g.len;have g2:=g.wt
 have hle:=wQ (aD l.prs) k
 rw [oo] at hle
 have hsm:pf ⟨bR l.prs k v,l.high,l.next⟩:=by
  refine ⟨by have:=EP l.prs k v;simp only;omega,fun x hx=>?_,by have:=g.high;simp only;omega⟩
  rcases qn hx with rfl | hx
  ·have:=(gJ hk).2
   simp only [dE,decide_eq_true_eq] at hv
   simp only;omega
  ·exact g.sm.pr x hx
 have e1:([.agg [.str k,.str v]]:List V)=aX [(k,v)]:=rfl
 rw [au (C1 l g.ri (by omega) k),v8,e1]
 cases hh:bQ (aD l.prs) k with
 | true =>
  obtain ⟨h2,_⟩:=re hh
  rw [oo] at h2
  have w:W .i64 (((bp (aD l.prs) k:Nat):Int)+1)=((bp (aD l.prs) k+1:Nat):Int):=by rw [aK (by omega)];omega
  have ep:l.prs.take (bp (aD l.prs) k)++[(k,v)]++l.prs.drop (bp (aD l.prs) k+1)=bR l.prs k v:=by unfold bR;rw [hh,if_pos rfl]
  rw [cond_true,w,au (ED l.prs [(k,v)] _ _ hle (by omega) (by omega) (by simp)),jo,ep]
  have:=C4 ⟨bR l.prs k v,l.high,l.next⟩ hsm
  rw [JE] at this
  simp only at this
  rw [au this,cy]
  unfold oJ
  by_cases hf:aC (bR l.prs k v)<=231
  ·rw [decide_eq_true hf,if_pos hf];rfl
  ·rw [decide_eq_false hf,if_neg hf];rfl
 | false =>
  have ep:l.prs.take (bp (aD l.prs) k)++[(k,v)]++l.prs.drop (bp (aD l.prs) k)=bR l.prs k v:=by unfold bR;rw [hh];rfl
  rw [cond_false,au (ED l.prs [(k,v)] _ _ hle (by omega) (by omega) (by simp)),jo,ep]
  have:=C4 ⟨bR l.prs k v,l.high,l.next⟩ hsm
  rw [JE] at this
  simp only at this
  rw [au this,cy]
  unfold oJ
  by_cases hf:aC (bR l.prs k v)<=231
  ·rw [decide_eq_true hf,if_pos hf];rfl
  ·rw [decide_eq_false hf,if_neg hf];rfl
theorem w7 (l:Lf) (h:bZ l=true) (k v:Bs) (hk:bi k=true) (hv:dE v=true) (hh:l.high=[]∨lt k l.high=true):bu aa 77 [eL l,.str k,.str v]=some (oJ l k v):=by
 have g:=pM h
 refine R5 _ _ _ _ _ ?_
 unfold CL
 rw [au (uU l g.sm),cy,h,bA,cond_false,au (gY k),cy,hk,bA,cond_false,au (vp v),cy,hv,bA,cond_false]
 by_cases e:l.high=[]
 ·rw [show (!(l.high==[]))=false by rw [e];rfl,cond_false]
  exact L3 l h k v hk hv rfl
 ·have hl:Op.bytesLess k l.high=true:=hh.resolve_left e
  rw [show (!(l.high==[]))=true by simpa using e,cond_true,hl,bA,cond_false]
  exact L3 l h k v hk hv rfl
def fC (l:List Pr) (k:Bs):List Pr:=l.take (bp (aD l) k)++l.drop (bp (aD l) k+1)
theorem B3 (l:Lf) (h:bZ l=true) (k:Bs):bu aa 80 [eL l,.str k]=some (if bQ (aD l.prs) k then .tup [eL ⟨fC l.prs k,l.high,l.next⟩,.int .i64 0] else .tup [eL rM,.int .i64 7]):=by
 have g:=pM h
 have g1:=g.len;have g2:=g.wt
 refine Sa _ _ _ _ ?_
 unfold CN
 rw [au (uU l g.sm),cy,h,bA,cond_false,au (C1 l g.ri (by omega) k),v8]
 cases hh:bQ (aD l.prs) k with
 | false=>rfl
 | true =>
  obtain ⟨h2,_⟩:=re hh
  rw [oo] at h2
  have w:W .i64 (((bp (aD l.prs) k:Nat):Int)+1)=((bp (aD l.prs) k+1:Nat):Int):=by rw [aK (by omega)];omega
  rw [bA,cond_false,w,au (EC l.prs _ _ (by omega) (by omega) (by omega)),jo]
  rfl
def ll (A:Nat):Nat->List Pr->Nat
 | _,[]=>0
 | _,[_]=>0
 | had,x::y::r=>if 2 * had < A then 1+ll A (had+aC [x]) (y::r) else 0
def cC (l:List Pr):Nat:=match l with | []=>0 | [_]=>0 | x::y::r=>1+ll (aC l) (aC [x]) (y::r)
def xD (l:Lf) (pg:Int) (n:Nat):V:=.tup [eL ⟨l.prs.take n,(l.prs[n]?.getD ([],[])).1,pg+1⟩,eL ⟨l.prs.drop n,l.high,l.next⟩,.int .i64 0]
theorem Nw (l:Lf) (hl:l.prs.length<=1000) (pg:Int) (hp:0<=pg/\pg < 1024) (n:Nat) (hn:n < l.prs.length) {q:R} :
  q=(ai aa 117 [.sl (aX l.prs),.int .i64 (n:Int),.int .i64 ((aX l.prs).length:Int),.sl []] fun r_2=>kF 41 r_2 fun a=>gd (decide (0<=(n:Int)))<|aH (aX l.prs) ((n:Int)).toNat fun v=>f9 v fun key _=>ai aa 117 [.sl (aX l.prs),.int .i64 0,.int .i64 (n:Int),.sl []] fun r_3=>kF 41 r_3 fun b =>
   some (.done (.tup [.agg [.sl a,.str key,.int .i64 (W .i64 (pg+1))],.agg [.sl b,.str l.high,.int .i64 l.next],.int .i64 0]))) ->
  q=some (.done (xD l pg n)):=by
 rintro rfl
 have h1:l.prs[n]? = some l.prs[n]:=bj hn
 have o1:=EC l.prs n l.prs.length (by omega) (by omega) hl
 have o2:bu aa 117 [.sl (aX l.prs),.int .i64 0,.int .i64 (n:Int),.sl []]=some (.fr 41 (aX (l.prs.take 0++l.prs.drop n))):=EC l.prs 0 n (by omega) (by omega) hl
 rw [List.drop_length,c7] at o1
 rw [qP,dB] at o2
 rw [en,au o1,jo,ak (by simp),aU,jn h1,iN,au o2,jo,aK (by omega)]
 unfold xD
 rw [h1]
 rfl
theorem Yz (l:Lf) (hl:l.prs.length<=1000) (hs:∀p∈l.prs,p.1.length<=1000/\p.2.length<=1000) (pg:Int) (hp:0<=pg/\pg < 1024) (A:Nat):∀(r:List Pr) (n had:Nat),l.prs.drop n=r->r≠[]->0 < n->had<=2002 * n ->
  Go qk false 0 (fF 122) (.head 0 (pj pg (A:Int) (n:Int) (had:Int) (aX l.prs) l.high l.next)) (.done (xD l pg (n+ll A had r))):=by
 intro r
 induction r with
 | nil=>intro n had _ h;exact absurd rfl h
 | cons x r ih =>
  intro n had hr _ hn hhad
  obtain ⟨h1,h2,h3⟩:=fT hr
  have hx:=hs x (cf h1)
  have w1:W .i64 (((aX l.prs).length:Int) - 1)=((l.prs.length - 1:Nat):Int):=by rw [en,aK (by omega)];omega
  have hrl:r.length+n+1=l.prs.length:=by
   have:=congrArg nL hr
   simp at this
   omega
  have w2:W .i64 (2 * (had:Int))=((2 * had:Nat):Int):=by rw [aK (by omega)];omega
  cases hrr:r with
  | nil =>
   subst hrr
   simp only [fc] at hrl
   refine AC _ _ _ _ _ _ _ ?_ (.refl _)
   unfold xr
   rw [w1,decide_eq_false (by omega),cond_false]
   exact Nw l hl pg hp n (by omega) rfl
  | cons y t =>
   have hrt:r.length=t.length+1:=by rw [hrr];rfl
   unfold ll
   by_cases hA:2 * had < A
   ·rw [if_pos hA]
    have:=ih (n+1) (had+aC [x]) h2 (by rw [hrr];simp) (by omega) (by simp only [aC];omega)
    rw [hrr,gG] at this
    refine AC _ _ _ _ _ _ _ (o:=.head 0 (pj pg (A:Int) ((n+1:Nat):Int) ((had+aC [x]:Nat):Int) (aX l.prs) l.high l.next)) ?_ this
    unfold xr
    have w3:W .i64 ((n:Int)+1)=((n+1:Nat):Int):=by rw [aK (by omega)];omega
    have w4:W .i64 ((had:Int)+((2+x.1.length+x.2.length:Nat):Int))=((had+aC [x]:Nat):Int):=by simp only [aC];rw [aK (by omega)];omega
    rw [w1,decide_eq_true (by omega),cond_true,dJ (by omega),cond_false,w2,decide_eq_true (by omega),cond_true,ak (by simp),aU,jn h1,iN]
    show (ai aa _ [pV x] _)=_
    rw [au (GB x hx.1 hx.2),bH,w3,w4]
   ·rw [if_neg hA]
    refine AC _ _ _ _ _ _ _ ?_ (.refl _)
    unfold xr
    rw [w1,decide_eq_true (by omega),cond_true,dJ (by omega),cond_false,w2,decide_eq_false (by omega),cond_false]
    exact Nw l hl pg hp n (by omega) rfl
theorem Yy (l:Lf) (h:bZ l=true) (h2:2<=l.prs.length) (pg:Int) (hp:0<=pg/\pg < 1024):bu aa 122 [eL l,.int .i64 pg]=some (xD l pg (cC l.prs)):=by
 have g:=pM h
 have g1:=g.len;have g2:=g.wt;have g3:=g.high
 obtain ⟨x,y,r,hx⟩:∃x y r,l.prs=x::y::r:=by
  match hl:l.prs,h2 with
  | x::y::r,_=>exact ⟨x,y,r,rfl⟩
 have hpx:=g.sm.pr x (by rw [hx];simp)
 have h0:l.prs[0]? = some x:=by rw [hx];rfl
 have hd:l.prs.drop 1=y::r:=by rw [hx];rfl
 have:=Yz l (by omega) g.sm.pr pg hp (aC l.prs) (y::r) 1 (aC [x]) hd (by simp) (by omega) (by simp only [aC];omega)
 have eh:cC l.prs=1+ll (aC l.prs) (aC [x]) (y::r):=by rw [hx];rfl
 rw [<-eh] at this
 refine QM _ _ _ _ (o:=.head 0 (pj pg ((aC l.prs:Nat):Int) 0 0 (aX l.prs) l.high l.next)) ?_ (AC _ _ _ _ _ _ _ (o:=.head 0 (pj pg ((aC l.prs:Nat):Int) ((1:Nat):Int) ((aC [x]:Nat):Int) (aX l.prs) l.high l.next)) ?_ this)
 ·unfold IC
  have hsz:W .i64 (W .i64 (W .i64 ((gD l:Nat) - (4:Int)) - 1) - (l.high.length:Int))=((aC l.prs:Nat):Int):=by
   unfold gD
   rw [aK (n:=(((5+l.high.length+aC l.prs:Nat):Int) - 4)) (by omega),aK (n:=(((5+l.high.length+aC l.prs:Nat):Int) - 4 - 1)) (by omega),aK (by omega)]
   omega
  rw [au (uU l g.sm),cy,h,bA,cond_false,en,decide_eq_false (by omega),cond_false,decide_eq_false (by omega),cond_false,decide_eq_false (by omega),cond_false,au (Ga l g.sm),bH,hsz]
 ·unfold xr
  have w1:W .i64 (((aX l.prs).length:Int) - 1)=((l.prs.length - 1:Nat):Int):=by rw [en,aK (by omega)];omega
  have w4:W .i64 (0+((2+x.1.length+x.2.length:Nat):Int))=((aC [x]:Nat):Int):=by simp only [aC];rw [aK (by omega)];omega
  have h00:l.prs[((0:Int)).toNat]? = some x:=h0
  rw [w1,decide_eq_true (by omega),cond_true,show ((0:Int)==0)=true from rfl,cond_true,ak (by simp),jn h00,iN]
  show (ai aa _ [pV x] _)=_
  rw [au (GB x hpx.1 hpx.2),bH,w4]
  rfl
theorem Ie (A:Nat):∀(r:List Pr) (had:Nat),(∀x∈r,aC [x]<=50)->r≠[]->had<=165->had+aC r=A->2 * had < A+100->A<=231 ->
  ll A had r < r.length/\had+aC (r.take (ll A had r))<=165/\aC (r.drop (ll A had r))<=116
 | [],_,_,h,_,_,_,_=>absurd rfl h
 | [x],had,hw,_,h1,h2,_,_=>by
  have:=hw x (by simp)
  simp only [ll,qP,qN,cw,fc]
  simp only [aC] at *
  omega
 | x::y::r,had,hw,_,h1,h2,h3,hA=>by
  have hx:=hw x (by simp)
  unfold ll
  by_cases h:2 * had < A
  ·rw [if_pos h]
   have ih:=Ie A (y::r) (had+aC [x]) (fun z hz=>hw z (by simp [hz])) (by simp) (by omega) (by simp only [aC] at *;omega) (by omega) hA
   rw [pb 1]
   simp only [tj,List.drop_succ_cons,cw] at *
   refine ⟨by omega,?_,ih.2.2⟩
   have:=ih.2.1
   simp only [aC] at *
   omega
  ·rw [if_neg h]
   simp only [qP,qN,cw,aC] at *
   omega
theorem J3 {l:List Pr} (h2:2<=l.length) (hw:∀x∈l,aC [x]<=50) (hA:aC l<=231):0 < cC l/\cC l < l.length/\aC (l.take (cC l))<=165/\aC (l.drop (cC l))<=116:=by
 match l,h2 with
 | x::y::r,_ =>
  have hx:=hw x (by simp)
  have:=Ie (aC (x::y::r)) (y::r) (aC [x]) (fun z hz=>hw z (by simp [hz])) (by simp) (by omega) (by simp only [aC];omega) (by simp only [aC] at *;omega) hA
  have e:cC (x::y::r)=ll (aC (x::y::r)) (aC [x]) (y::r)+1:=pb 1 _
  rw [e]
  simp only [tj,List.drop_succ_cons,cw] at *
  refine ⟨by omega,by omega,?_,this.2.2⟩
  have:=this.2.1
  simp only [aC] at *
  omega
theorem V6 {n:br} (h:bv n=true) (k:Nat) (hk:i4 n+k<=252):qj (bX n++eo k)=some n:=by
 obtain ⟨h1,h2,h3,h4,h5,h6,h7⟩:=nr h
 have hg:=qC h3
 have hlen:(bX n++eo k).length=i4 n+k:=by simp [CS h]
 obtain ⟨nn,hnn⟩:∃nn:Nat,n.next=(nn:Int):=⟨n.next.toNat,by omega⟩
 obtain ⟨k0,ks,hks⟩:∃k ks,n.kids=k::ks:=by
  cases hk:n.kids with
  | nil=>rw [hk] at h1;simp at h1
  | cons k ks=>exact ⟨k,ks,rfl⟩
 have hk0:=uM (h2 k0 (by rw [hks];simp))
 obtain ⟨kn,rfl⟩:∃kn:Nat,k0=(kn:Int):=⟨k0.toNat,by omega⟩
 have hkl:ks.length=n.seps.length:=by rw [hks] at h1;simpa using h1
 have hz:=On h
 rw [hks,List.tail_cons] at hz
 have e0:bX n++eo k=78::UInt8.ofNat n.seps.length::(bI 2 nn++(bT n.high++bI 2 kn++(eG (n.seps.zip ks)++eo k))):=by
  unfold bX yD zr
  rw [if_pos h,hks,hnn]
  simp
 have hl2:=dK 2 nn
 obtain ⟨b2,b3,hb⟩:∃b2 b3,bI 2 nn=[b2,b3]:=⟨_,_,rfl⟩
 have hun:dp (bI 2 nn)=nn:=A7 2 nn (by have:(256:Nat) ^ 2=65536:=by decide
                                                omega)
 have e1:(bX n++eo k).drop 4=bT n.high++bI 2 kn++(eG (n.seps.zip ks)++eo k):=by rw [e0,hb];rfl
 have e2:((bX n++eo k).drop 2).take 2=bI 2 nn:=by rw [e0,hb];rfl
 have e3:(bX n++eo k).getD 1 0=UInt8.ofNat n.seps.length:=by rw [e0];rfl
 have e4:(UInt8.ofNat n.seps.length).toNat=(n.seps.zip ks).length:=by simp;omega
 have e5:(bX n++eo k).head? = some 78:=by rw [e0];rfl
 have hmin:i4 n=7+n.high.length+bU n.seps:=rfl
 unfold qj
 rw [if_neg (by rw [hlen,e5];simp;omega),e1,LD (by omega) (by omega),ap]
 simp only
 rw [e3,e4,LF _ _ hz,ap,e2,hun]
 have e6:(n.seps.zip ks).map (·.1)=n.seps:=List.map_fst_zip (by omega)
 have e7:(n.seps.zip ks).map (·.2)=ks:=List.map_snd_zip (by omega)
 simp only [e6,e7]
 have e8:(⟨n.seps,(kn:Int)::ks,n.high,(nn:Int)⟩:br)=n:=by
  rw [<-hks,<-hnn]
 rw [e8]
 unfold oa
 rw [h,O8.2 (by simp)]
 rfl
theorem HH:∀{l:List Bs} {k:Bs} {j:Nat} {s:Bs},j < d0 l k->l[j]? = some s->lt k s=false
 | [],k,j,s,h,_=>by simp [d0] at h
 | x::l,k,j,s,h,hs=>by
  rw [qZ] at h
  cases hx:lt k x with
  | true=>rw [hx] at h;simp at h
  | false =>
   rw [hx] at h
   cases j with
   | zero=>simp at hs;rw [<-hs];exact hx
   | succ j=>exact HH (l:=l) (by simpa using h) (by simpa using hs)
theorem HI:∀{l:List Bs} {k:Bs} {s:Bs},l[d0 l k]? = some s->lt k s=true
 | [],k,s,h=>by simp at h
 | x::l,k,s,h=>by
  rw [qZ] at h
  cases hx:lt k x with
  | true=>rw [hx] at h;simp at h;rw [<-h];exact hx
  | false =>
   rw [hx] at h
   exact HI (l:=l) (by simpa using h)
theorem pU (s:Bs) (a:List Bs) (p:Bs):(s::a).getLastD p=a.getLastD s:=by
 cases a with
 | nil=>rfl
 | cons y a=>simp [List.getLastD]
theorem zH:∀(a b:List Bs) (p:Bs),(a++b).getLastD p=b.getLastD (a.getLastD p)
 | [],b,p=>rfl
 | s::a,b,p=>by rw [c8,pU,pU,zH a b s]
theorem Aw:∀(a b:List Bs) (p:Bs),dN p (a++b)=(dN p a && dN (a.getLastD p) b)
 | [],b,p=>rfl
 | s::a,b,p=>by rw [c8,dN,dN,Aw a b s,pU];cases bi s<;>cases lt p s<;>rfl
theorem UA {a:List Bs} (h:a≠[]) (p:Bs):a[a.length - 1]? = some (a.getLastD p):=by
 cases a with
 | nil=>exact (h rfl).elim
 | cons s a =>
  rw [List.getLastD_cons]
  simp [List.getLastD,List.getLast?_eq_getElem?]
  cases a with
  | nil=>rfl
  | cons y a=>simp [List.getLast_eq_getElem]
theorem vk:∀a b:List Bs,bU (a++b)=bU a+bU b
 | [],b=>by simp [bU]
 | s::a,b=>by simp only [c8,bU,vk a b];omega
theorem qt {n:br}:bv n=true↔n.kids.length=n.seps.length+1/\(∀k∈n.kids,dk k=true)/\dN [] n.seps=true/\d8 (n.seps.getLastD []) n.high=true/\pF n=true:=by
 unfold bv
 simp only [bd,decide_eq_true_eq,cT]
 constructor
 ·rintro ⟨⟨⟨⟨a,b⟩,c⟩,d⟩,e⟩;exact ⟨a,b,c,d,e⟩
 ·rintro ⟨a,b,c,d,e⟩;exact ⟨⟨⟨⟨a,b⟩,c⟩,d⟩,e⟩
theorem rv {n:br}:pF n=true↔0<=n.next/\n.next<=1024/\23+bU n.seps<=252:=by
 unfold pF kJ
 simp only [bd,decide_eq_true_eq]
 constructor
 ·rintro ⟨⟨a,b⟩,c⟩;exact ⟨a,b,by omega⟩
 ·rintro ⟨a,b,c⟩;exact ⟨⟨a,b⟩,by omega⟩
structure Hh (n:br) (key:Bs) (kid:Int):Prop where
 right:bv n=true
 isKey:bi key=true
 high:(n.high==[] || lt key n.high)=true
 page:dk kid=true
 new:¬(0 < d0 n.seps key/\n.seps[d0 n.seps key - 1]? = some key)
 fit:kJ (k7 n key kid (d0 n.seps key))=true
theorem WH {n:br} {key:Bs} {kid:Int} (h:Hh n key kid):bv (k7 n key kid (d0 n.seps key))=true:=by
 obtain ⟨hr,hk,hh,hp,hn,hf⟩:=h
 obtain ⟨r1,r2,r3,r4,r5⟩:=qt.1 hr
 obtain ⟨e1,e2,e3⟩:=rv.1 r5
 have hle:=HF n.seps key
 generalize hi:d0 n.seps key=i at hn hf hle |-
 obtain ⟨A,hA⟩:∃A,A=n.seps.take i:=⟨_,rfl⟩
 obtain ⟨B,hB⟩:∃B,B=n.seps.drop i:=⟨_,rfl⟩
 have hAB:n.seps=A++B:=by rw [hA,hB,gP]
 have hAl:A.length=i:=by rw [hA,fX];omega
 rw [hAB,Aw] at r3
 simp only [bd] at r3
 have hlast:lt (A.getLastD []) key=true:=by
  by_cases h0:A=[]
  ·rw [h0];exact pS hk
  ·have hi0:0 < i:=by
    rcases xZ i with h | h
    ·rw [h] at hAl;exact (h0 (List.length_eq_zero_iff.1 hAl)).elim
    ·exact h
   have hg:=UA h0 []
   rw [hAl] at hg
   have hg2:n.seps[i - 1]? = some (A.getLastD []):=by
    rw [hAB,cQ (by omega)];exact hg
   have h1:lt key (A.getLastD [])=false:=HH (l:=n.seps) (by omega) hg2
   refine mO h1 fun e=>hn ⟨hi0,?_⟩
   rw [hg2,<-e]
 have hBr:dN key B=true:=by
  cases hB2:B with
  | nil=>rfl
  | cons s r =>
   rw [hB2] at r3
   have r32:=r3.2
   simp only [dN,bd] at r32 |-
   have hs:n.seps[i]? = some s:=by
    rw [hAB,cJ (by omega),hAl,iI,hB2];rfl
   have:lt key s=true:=HI (l:=n.seps) (by rw [hi];exact hs)
   exact ⟨⟨r32.1.1,this⟩,r32.2⟩
 have hseps:(k7 n key kid i).seps=A++(key::B):=by
  show n.seps.take i++[key]++n.seps.drop i=_
  rw [<-hA,<-hB,bc];rfl
 refine qt.2 ⟨?_,?_,?_,?_,?_⟩
 ·show (n.kids.take (i+1)++[kid]++n.kids.drop (i+1)).length=(n.seps.take i++[key]++n.seps.drop i).length+1
  simp
  omega
 ·intro k hk'
  rcases aV.1 hk' with hk' | hk'
  ·rcases aV.1 hk' with hk' | hk'
   ·exact r2 k (mg hk')
   ·simp at hk';rw [hk'];exact hp
  ·exact r2 k (kg hk')
 ·rw [hseps,Aw,dN,r3.1,hk,hlast,hBr];rfl
 ·rw [hseps,zH,pU]
  show d8 (B.getLastD key) n.high=true
  rw [hAB,zH] at r4
  cases hB2:B with
  | nil =>
   show d8 key n.high=true
   rw [hB2] at r4
   unfold d8 at r4 |-
   cases hz:n.high==[] with
   | true=>rfl
   | false =>
    rw [hz] at r4 hh
    simp only [iG,bd] at r4 hh |-
    exact ⟨r4.1,hh⟩
  | cons s r=>rw [hB2,pU] at r4;rw [pU];exact r4
 ·refine rv.2 ⟨e1,e2,?_⟩
  unfold kJ at hf
  simp only [decide_eq_true_eq] at hf
  omega
theorem Xa {p:Bs} {l:List Bs} (h:dN p l=true):dN [] l=true:=by
 cases l with
 | nil=>rfl
 | cons s r =>
  simp only [dN,bd] at h |-
  exact ⟨⟨h.1.1,pS h.1.1⟩,h.2⟩
theorem Ny {n:br} (hr:bv n=true) (h3:3<=n.kids.length):∃A mid B,n.seps=A++mid::B/\A.length=n.seps.length / 2/\n.seps.getD (n.seps.length / 2) []=mid/\n.seps.take (n.seps.length / 2)=A/\n.seps.drop (n.seps.length / 2+1)=B:=by
 obtain ⟨r1,_⟩:=qt.1 hr
 have hm:n.seps.length / 2 < n.seps.length:=by omega
 generalize n.seps.length / 2=m at hm
 refine ⟨n.seps.take m,n.seps[m],n.seps.drop (m+1),?_,by simp;omega,?_,rfl,rfl⟩
 ·rw [<-qM hm,gP]
 ·simp [List.getD,bj hm]
theorem YA {n:br} {to:Int} (hr:bv n=true) (h3:3<=n.kids.length) (ht:dk to=true):bv (sP n to)=true/\bv (sQ n)=true:=by
 obtain ⟨A,mid,B,e1,e2,e3,e4,e5⟩:=Ny hr h3
 obtain ⟨r1,r2,r3,r4,r5⟩:=qt.1 hr
 obtain ⟨g1,g2,g3⟩:=rv.1 r5
 have ht2:=uM ht
 have hlen:n.seps.length=A.length+(B.length+1):=by rw [e1];simp
 have r3':=r3
 rw [e1,Aw,dN] at r3'
 simp only [bd] at r3'
 obtain ⟨rA,⟨⟨kM,lM⟩,rB⟩⟩:=r3'
 have hz:bU n.seps=bU A+(3+mid.length+bU B):=by rw [e1,vk,bU]
 constructor
 ·refine qt.2 ⟨?_,?_,?_,?_,?_⟩
  ·show (n.kids.take _).length=(n.seps.take _).length+1
   simp;omega
  ·exact fun k hk=>r2 k (mg hk)
  ·show dN [] (n.seps.take _)=true
   rw [e4];exact rA
  ·show d8 ((n.seps.take _).getLastD []) (n.seps.getD _ [])=true
   rw [e4,e3]
   unfold d8
   rw [kM,lM]
   simp
  ·refine rv.2 ⟨by show 0<=to+1;omega,by show to+1<=1024;omega,?_⟩
   show 23+bU (n.seps.take _)<=252
   rw [e4];omega
 ·refine qt.2 ⟨?_,?_,?_,?_,?_⟩
  ·show (n.kids.drop _).length=(n.seps.drop _).length+1
   simp;omega
  ·exact fun k hk=>r2 k (kg hk)
  ·show dN [] (n.seps.drop _)=true
   rw [e5];exact Xa rB
  ·show d8 ((n.seps.drop _).getLastD []) n.high=true
   rw [e5]
   rw [e1,zH,pU] at r4
   cases B with
   | nil =>
    unfold d8 at r4 |-
    cases hq:n.high==[] with
    | true=>rfl
    | false =>
     rw [hq] at r4
     simp only [iG,bd] at r4 |-
     exact ⟨r4.1,pS r4.1⟩
   | cons s r=>rw [pU] at r4 |-;exact r4
  ·refine rv.2 ⟨g1,g2,?_⟩
   show 23+bU (n.seps.drop _)<=252
   rw [e5];omega
abbrev Es:=List (Int × Bs)
def aP (es:Es):List (V × V):=es.map fun x=>(V.int .i64 x.1,V.str x.2)
def cg:Es->Int->Option Bs
 | [],_=>none
 |(a,x)::es,p=>if p=a then some x else cg es p
def aT:Es->Int->Bs->Es
 | [],p,x=>[(p,x)]
 |(a,y)::es,p,x=>if p=a then (a,x)::es else (a,y)::aT es p x
def eP:Es->Int->Es
 | [],_=>[]
 |(a,y)::es,p=>if p=a then es else (a,y)::eP es p
theorem wo (p a:Int):dw (.int .i64 p) (.int .i64 a)=some (decide (p=a)):=by
 by_cases h:p=a
 ·subst h;simp [dw]
 ·rw [decide_eq_false h];simp [dw,h]
theorem Eh (p:Int):∀es:Es,dU (aP es) (.int .i64 p)=some ((cg es p).map V.str)
 | []=>rfl
 |(a,x)::es=>by
  show ((dw (.int .i64 p) (.int .i64 a)).bind fun b=>if b then some (some (V.str x)) else dU (aP es) (.int .i64 p))=_
  rw [wo,ap,Eh p es,cg]
  by_cases h:p=a
  ·rw [decide_eq_true h,if_pos h];rfl
  ·rw [decide_eq_false h,if_neg h];rfl
theorem Er (p:Int) (b:Bs):∀es:Es,gZ (aP es) (.int .i64 p) (.str b)=some (aP (aT es p b))
 | []=>rfl
 |(a,x)::es=>by
  show ((dw (.int .i64 p) (.int .i64 a)).bind fun q=>if q then some ((V.int .i64 a,V.str b)::aP es) else (gZ (aP es) (.int .i64 p) (.str b)).map ((V.int .i64 a,V.str x)::·))=_
  rw [wo,ap,Er p b es,aT]
  by_cases h:p=a
  ·rw [decide_eq_true h,if_pos h];rfl
  ·rw [decide_eq_false h,if_neg h];rfl
theorem KZ (p:Int):∀es:Es,kX (aP es) (.int .i64 p)=some (aP (eP es p))
 | []=>rfl
 |(a,x)::es=>by
  show ((dw (.int .i64 p) (.int .i64 a)).bind fun q=>if q then some (aP es) else (kX (aP es) (.int .i64 p)).map ((V.int .i64 a,V.str x)::·))=_
  rw [wo,ap,KZ p es,eP]
  by_cases h:p=a
  ·rw [decide_eq_true h,if_pos h];rfl
  ·rw [decide_eq_false h,if_neg h];rfl
def aw (es:Es):List Int:=es.map (·.1)
theorem un {p:Int}:∀{es:Es},cg es p=none↔p∉aw es
 | []=>by simp [cg,aw]
 |(a,x)::es=>by
  rw [cg]
  by_cases h:p=a
  ·rw [if_pos h];simp [aw,h]
  ·rw [if_neg h,un];simp [aw,h]
theorem iR {p:Int} {b:Bs}:∀{es:Es},(aw es).Nodup->(p,b)∈es->cg es p=some b
 |(a,x)::es,hn,h=>by
  have hn:=td.1 hn
  rw [cg]
  rcases bw.1 h with h1 | h1
  ·cases h1;rw [if_pos rfl]
  ·have hp:p∈aw es:=List.mem_map_of_mem (f:=(·.1)) h1
   rw [if_neg (fun e:p=a=>hn.1 (e ▸ hp))]
   exact iR hn.2 h1
theorem L2 {p:Int} {b b':Bs} {B:Es}:∀{A:Es},p∉aw A->aT (A++(p,b)::B) p b'=A++(p,b')::B
 | [],_=>if_pos rfl
 |(a,x)::A,h=>by
  have h1:p≠a:=fun e=>h (by simp [aw,e])
  rw [c8,aT,if_neg h1,L2 fun q=>h (by simp only [aw,cU,bw];exact .inr q)]
  rfl
theorem sD {p:Int} {b:Bs}:∀{es:Es},p∉aw es->aT es p b=es++[(p,b)]
 | [],_=>rfl
 |(a,x)::es,h=>by
  have h1:p≠a:=fun e=>h (by simp [aw,e])
  rw [aT,if_neg h1,sD fun q=>h (by simp only [aw,cU,bw];exact .inr q)]
  rfl
theorem Il {p:Int} {b:Bs} {B:Es}:∀{A:Es},p∉aw A->eP (A++(p,b)::B) p=A++B
 | [],_=>if_pos rfl
 |(a,x)::A,h=>by
  have h1:p≠a:=fun e=>h (by simp [aw,e])
  rw [c8,eP,if_neg h1,Il fun q=>h (by simp only [aw,cU,bw];exact .inr q)]
  rfl
theorem LP {es r:Es} {p:Int} {b:Bs} (hn:(aw es).Nodup) (h:es.Perm ((p,b)::r)):∃A B,es=A++(p,b)::B/\r.Perm (A++B)/\p∉aw A:=by
 obtain ⟨A,B,rfl⟩:=List.append_of_mem (h.mem_iff.2 (bV ..))
 refine ⟨A,B,rfl,((h.symm.trans nP).cons_inv),?_⟩
 unfold aw at hn
 rw [gv] at hn
 have:=(xW.1 hn).2.2
 intro hp
 exact this p hp p (by simp) rfl
theorem mI {es r:Es} {p:Int} {b:Bs} (hn:(aw es).Nodup) (h:es.Perm ((p,b)::r)):cg es p=some b:=iR hn (h.mem_iff.2 (bV ..))
theorem jy {es r:Es} {p:Int} {b b':Bs} (hn:(aw es).Nodup) (h:es.Perm ((p,b)::r)):(aT es p b').Perm ((p,b')::r):=by
 obtain ⟨A,B,rfl,h2,h3⟩:=LP hn h
 rw [L2 h3]
 exact List.perm_middle.trans (h2.symm.cons _)
theorem B5 {es r:Es} {p:Int} {b:Bs} (hn:(aw es).Nodup) (h:es.Perm ((p,b)::r)):(eP es p).Perm r:=by
 obtain ⟨A,B,rfl,h2,h3⟩:=LP hn h
 rw [Il h3]
 exact h2.symm
theorem ng {es:Es} {p:Int} {b:Bs} (h:p∈aw es):aw (aT es p b)=aw es:=by
 induction es with
 | nil=>simp [aw] at h
 | cons x es ih =>
  obtain ⟨a,x⟩:=x
  rw [aT]
  by_cases e:p=a
  ·rw [if_pos e];rfl
  ·rw [if_neg e]
   have h:p∈aw es:=by
    rcases bw.1 h with h | h
    ·exact absurd h e
    ·exact h
   show a::aw (aT es p b)=a::aw es
   rw [ih h]
def az (es:Es) (k:Nat):Bool:=decide ((k:Int)∈aw es)
theorem Y7 {es es':Es} (h:∀p,p∈aw es↔p∈aw es'):az es=az es':=by
 funext k
 unfold az
 by_cases hk:(k:Int)∈aw es
 ·rw [decide_eq_true hk,decide_eq_true ((h _).1 hk)]
 ·rw [decide_eq_false hk,decide_eq_false fun q=>hk ((h _).2 q)]
structure bN (n:Nat) (es:Es):Prop where
 le:n<=1024
 nd:(aw es).Nodup
 rng:∀p∈aw es,0<=p/\p < (n:Int)
theorem K9:∀{l:List Int},l.Nodup->(∀p∈l,0<=p)->(l.map Int.toNat).Nodup
 | [],_,_=>Bp
 | a::l,h,h0=>by
  have h:=td.1 h
  rw [cU]
  refine td.2 ⟨fun q=>?_,K9 h.2 fun p hp=>h0 p (by simp [hp])⟩
  obtain ⟨b,hb,e⟩:=dF.1 q
  have h1:=h0 a (by simp)
  have h2:=h0 b (by simp [hb])
  have:a=b:=by omega
  exact h.1 (this ▸ hb)
theorem SL {p:Nat->Bool} {l:List Nat} (h:l.Nodup):(l.filter p).Nodup:=List.Pairwise.filter p h
theorem vn {n:Nat} {es:Es} (h:bN n es):(gE n (az es)).length=es.length:=by
 unfold gE
 rw [dA]
 have hn:=K9 h.nd fun p hp=>(h.rng p hp).1
 have:((cW n).filter (az es)).Perm ((aw es).map Int.toNat):=by
  rw [Oz (SL List.nodup_range) hn]
  intro k
  rw [nO,dF,xV]
  unfold az
  rw [decide_eq_true_eq]
  constructor
  ·rintro ⟨_,hk⟩
   exact ⟨_,hk,by simp⟩
  ·rintro ⟨q,hq,rfl⟩
   have:=h.rng q hq
   have e:((q.toNat:Nat):Int)=q:=by omega
   rw [e]
   exact ⟨by omega,hq⟩
 rw [this.length_eq,dA,aw,dA]
theorem rQ {n:Nat} {es:Es} (h:bN n es):es.length<=n:=by rw [<-vn h];exact NQ _ _
theorem Df {n:Nat} {es:Es} (h:bN n es) (hl:es.length < n):∃k,k < n/\kH n (az es)=some k/\(k:Int)∉aw es:=by
 cases hf:kH n (az es) with
 | none =>
  unfold kH at hf
  rw [List.find?_eq_none] at hf
  have hall:(cW n).filter (az es)=cW n:=G0.2 fun k hk=>by
   have:=hf k hk
   simpa using this
  have:=vn h
  unfold gE at this
  rw [hall,dA,xT] at this
  omega
 | some k =>
  have h1:=List.mem_of_find?_eq_some hf
  have h2:=List.find?_some hf
  refine ⟨k,by simpa using h1,rfl,?_⟩
  simp only [az,ig,decide_eq_false_iff_not] at h2
  exact h2
theorem iZ {n:Nat} {es:Es} (h:bN n es) {p:Int} {b:Bs} (hp:p∈aw es):bN n (aT es p b):=by
 refine ⟨h.le,?_,?_⟩
 ·rw [ng hp];exact h.nd
 ·rw [ng hp];exact h.rng
theorem pT {es:Es} {p:Int} {b:Bs} (h:p∉aw es):aw (aT es p b)=aw es++[p]:=by
 rw [sD h];simp [aw]
theorem u5 {n:Nat} {es:Es} (h:bN n es) {k:Nat} (hk:k < n) (hp:(k:Int)∉aw es) {b:Bs}:bN n (aT es k b):=by
 refine ⟨h.le,?_,?_⟩
 ·rw [pT hp]
  refine xW.2 ⟨h.nd,by simp,?_⟩
  intro a ha b hb e
  have:b=(k:Int):=by simpa using hb
  exact hp (this ▸ e ▸ ha)
 ·rw [pT hp]
  intro p hq
  rcases aV.1 hq with hq | hq
  ·exact h.rng p hq
  ·have:p=(k:Int):=by simpa using hq
   omega
abbrev sM (n:Nat) (es:Es):List O:=sm (n:Int) (aP es) (aF n (az es))
theorem xe {n:Nat} {es:Es} (h:bN n es) {p:Int} {b:Bs} (hg:cg es p=some b):bB aa al 58 [.ptr 0 0 0,.int .i64 p] (sM n es)=some (lP (sM n es) (b,0)):=by
 have hp:p∈aw es:=Classical.byContradiction fun q=>by rw [un.2 q] at hg;cases hg
 have hr:=h.rng p hp
 refine I4 _ _ _ _ (o:=.doneM (.tup [.str b,.int .i64 0]) (sM n es)) ?_ (.done (by kernel_rfl))
 unfold CG
 have hm:dU (aP es) (.int .i64 p)=some (some (.str b)):=by rw [Eh,hg];rfl
 rw [decide_eq_false (by omega),cond_false,decide_eq_false (by omega),cond_false,Vb hm,ef]
theorem Of {n:Nat} {es:Es} (h:bN n es) {p:Int} {b b':Bs} (hg:cg es p=some b) (hb:b'.length<=252):bB aa al 119 [.ptr 0 0 0,.int .i64 p,.str b'] (sM n es)=some (p9 (0,n,aP (aT es p b'),aF n (az (aT es p b')))):=by
 have hp:p∈aw es:=Classical.byContradiction fun q=>by rw [un.2 q] at hg;cases hg
 have ht:az (aT es p b')=az es:=Y7 fun q=>by rw [ng hp]
 rw [ht]
 refine QJ _ _ _ _ _ (o:=.doneM (.int .i64 0) (sm n (aP (aT es p b')) (aF n (az es)))) ?_ (.done (by kernel_rfl))
 unfold Iz
 rw [cD sd (xe h hg),bG,dG rfl,cond_false,decide_eq_false (by omega),cond_false,Er,hJ]
theorem A3 {n:Nat} {es:Es} (h:bN n es) {k:Nat} (hk:kH n (az es)=some k) (hq:(k:Int)∉aw es):bB aa al 84 [.ptr 0 0 0] (sM n es)=some (kZ (k,0,n,aP (aT es k []),aF n (az (aT es k [])))):=by
 have ht:az (aT es k [])=dY (az es) k true:=by
  funext j
  unfold dY az
  rw [pT hq]
  by_cases e:j=k
  ·rw [if_pos e,decide_eq_true];simp [e]
  ·rw [if_neg e]
   by_cases hj:(j:Int)∈aw es
   ·rw [decide_eq_true hj,decide_eq_true];simp [hj]
   ·rw [decide_eq_false hj,decide_eq_false]
    intro hc
    rcases aV.1 hc with hc | hc
    ·exact hj hc
    ·have:(j:Int)=(k:Int):=by simpa using hc
     omega
 rw [ht]
 refine Sd _ _ _ (o:=.doneM (.tup [.int .i64 (k:Int),.int .i64 0]) (sm n (aP (aT es k [])) (aF n (dY (az es) k true)))) ?_ (.done (by kernel_rfl))
 unfold I8
 rw [bY K6 (Y0 n h.le (az es) k hk),dx rfl,cond_true,Er,hJ]
theorem Dd {n:Nat} {es:Es} (h:bN n es):bB aa al 44 [.ptr 0 0 0] (sM n es)=some (oz (sM n es) ((n - es.length:Nat):Int)):=by
 refine RL _ _ _ (o:=.doneM (.int .i64 ((n - es.length:Nat):Int)) (sM n es)) ?_ (.done (by kernel_rfl))
 unfold I0
 rw [cD Vt (Tc n h.le (az es)),bG,zm,vn h]
abbrev Su:=List (Int × Bs)
def ay (e:Su):Bs:=(e.getLastD (0,[])).2
abbrev ag (e:Su) (nx:Int):br:=⟨e.dropLast.map (·.2),e.map (·.1),ay e,nx⟩
theorem fD (a:Su) {b:Su} (h:b≠[]):ay (a++b)=ay b:=by
 unfold ay
 rw [Bo,Bo,List.getLast?_append]
 cases hb:b.getLast? with
 | none=>exact absurd (List.getLast?_eq_none_iff.1 hb) h
 | some x=>rfl
theorem j4 (x:Int × Bs) {b:Su} (h:b≠[]):ay (x::b)=ay b:=fD [x] h
theorem pD (a:Su) (x:Int × Bs) (b:Su):(a++x::b).dropLast=a++(x::b).dropLast:=GZ (by simp)
theorem AR {e:Su}:(e.dropLast.map (·.2)).length=e.length - 1:=by simp
theorem If (k:Bs):∀(e:Su),e≠[]->∃e1 p h e2,e=e1++(p,h)::e2/\d0 (e.dropLast.map (·.2)) k=e1.length/\(∀y∈e1,lt k y.2=false)/\(e2≠[]->lt k h=true)
 | [],h=>absurd rfl h
 | [(p,h)],_=>⟨[],p,h,[],rfl,rfl,by simp,by simp⟩
 |(p,h)::y::r,_=>by
  rw [List.dropLast_cons_cons,cU,qZ]
  cases hk:lt k h with
  | true=>exact ⟨[],p,h,y::r,rfl,by simp,by simp,fun _=>hk⟩
  | false =>
   obtain ⟨e1,p',h',e2,e,h1,h2,h3⟩:=If k (y::r) (by simp)
   refine ⟨(p,h)::e1,p',h',e2,by rw [e];rfl,by rw [h1];simp,?_,h3⟩
   intro z hz
   rcases bw.1 hz with rfl | hz
   ·exact hk
   ·exact h2 z hz
theorem HG (k:Bs):∀(e1:Su) (p:Int) (h:Bs) (e2:Su),(∀y∈e1,lt k y.2=false)->(e2≠[]->lt k h=true)->d0 ((e1++(p,h)::e2).dropLast.map (·.2)) k=e1.length
 | [],p,h,[],_,_=>rfl
 | [],p,h,y::r,_,h2=>by
  rw [dB,List.dropLast_cons_cons,cU,qZ,h2 (by simp)];rfl
 | x::e1,p,h,e2,h1,h2=>by
  have ih:=HG k e1 p h e2 (fun y hy=>h1 y (by simp [hy])) h2
  have:((x::e1)++(p,h)::e2).dropLast=x::(e1++(p,h)::e2).dropLast:=by
   cases e1 with
   | nil=>rfl
   | cons z t=>rfl
  rw [this,cU,qZ,h1 x (by simp),ih]
  rfl
theorem lX {α:Type} (a b:List α) {n:Nat} (h:a.length=n):(a++b).take n=a:=by subst h;exact List.take_left ..
theorem pC {α:Type} (a b:List α) {n:Nat} (h:a.length=n):(a++b).drop n=b:=by subst h;exact List.drop_left ..
theorem zD (e1:Su) (p:Int) (h:Bs) (e2:Su) (k:Bs) (to nx:Int):k7 (ag (e1++(p,h)::e2) nx) k to e1.length=ag (e1++(p,k)::(to,h)::e2) nx:=by
 have hl1:(e1.map (·.2)).length=e1.length:=by simp
 have hm:List.map (·.1) (e1++(p,h)::e2)=(e1.map (·.1)++[p])++e2.map (·.1):=by simp
 have hl2:(e1.map (·.1)++[p]).length=e1.length+1:=by simp
 unfold k7 ag
 simp only
 rw [hm,lX _ _ hl2,pC _ _ hl2,pD,pD]
 cases e2 with
 | nil =>
  have e5:[(p,h)].dropLast=[]:=rfl
  have e6:[(p,k),(to,h)].dropLast=[(p,k)]:=rfl
  have a1:ay (e1++[(p,h)])=h:=(fD e1 (by simp)).trans rfl
  have a2:ay (e1++[(p,k),(to,h)])=h:=(fD e1 (by simp)).trans rfl
  rw [e5,e6,a1,a2,c7,jI (by simp),o7 (by simp)]
  simp
 | cons y r =>
  have e3:((p,h)::y::r).dropLast=(p,h)::(y::r).dropLast:=rfl
  have e4:((p,k)::(to,h)::y::r).dropLast=(p,k)::(to,h)::(y::r).dropLast:=rfl
  have a1:ay (e1++(p,h)::y::r)=ay (y::r):=(fD e1 (by simp)).trans (j4 _ (by simp))
  have a2:ay (e1++(p,k)::(to,h)::y::r)=ay (y::r):=(fD e1 (by simp)).trans ((j4 _ (by simp)).trans (j4 _ (by simp)))
  rw [e3,e4,a1,a2,gv,lX _ _ hl1,pC _ _ hl1]
  simp
theorem Yx (ea eb:Su) (hb:eb≠[]) (to nx:Int) (hm:(ag (ea++eb) nx).seps.length / 2+1=ea.length):sP (ag (ea++eb) nx) to=ag ea (to+1)/\sQ (ag (ea++eb) nx)=ag eb nx:=by
 have hsl:(ag (ea++eb) nx).seps.length=(ea++eb).length - 1:=AR
 obtain ⟨a',x,rfl⟩:∃a' x,ea=a'++[x]:=by
  rcases dQ ea with h | ⟨l,x,h⟩
  ·subst h;simp at hm
  ·exact ⟨l,x,by simpa using h⟩
 have hm':(ag (a'++[x]++eb) nx).seps.length / 2=a'.length:=by simp at hm |-;omega
 have hd:(a'++[x]++eb).dropLast=a'++x::eb.dropLast:=by
  rw [GZ hb];simp
 have hda:(a'++[x]).dropLast=a':=by simp
 have hs:(ag (a'++[x]++eb) nx).seps=a'.map (·.2)++x.2::eb.dropLast.map (·.2):=by
  show (a'++[x]++eb).dropLast.map (·.2)=_
  rw [hd];simp
 have hk:(ag (a'++[x]++eb) nx).kids=(a'.map (·.1)++[x.1])++eb.map (·.1):=by
  show (a'++[x]++eb).map (·.1)=_
  simp
 constructor
 ·unfold sP
  rw [hm',hs,hk]
  refine congr (congr (congr (congrArg br.mk ?_) ?_) ?_) rfl
  ·rw [hda];simp
  ·rw [vC (by simp),jI (by simp)];simp
  ·rw [fD _ (by simp)]
   simp [ay]
 ·unfold sQ
  rw [hm',hs,hk]
  refine congr (congr (congr (congrArg br.mk ?_) ?_) ?_) rfl
  ·rw [qL];simp
  ·rw [qL];simp
  ·show ay (a'++[x]++eb)=ay eb
   rw [fD _ hb]
def aG {α:Type}:List (Int × α)->Int->Int
 | [],n=>n
 |(q,_)::_,_=>q+1
def aO {α:Type} (f:α->Int->Bs):List (Int × α)->Int->Es
 | [],_=>[]
 |(p,x)::r,n=>(p,f x (aG r n))::aO f r n
def cd {α:Type} (g:α->Int->Prop):List (Int × α)->Int->Prop
 | [],_=>True
 |(p,x)::r,n=>g x (aG r n)/\cd g r n
section
variable {α:Type} {f:α->Int->Bs} {g:α->Int->Prop}
theorem Lj:∀(a b:List (Int × α)) (n:Int),aG (a++b) n=aG a (aG b n)
 | [],_,_=>rfl
 | _::_,_,_=>rfl
theorem iO:∀(a b:List (Int × α)) (n:Int),aO f (a++b) n=aO f a (aG b n)++aO f b n
 | [],_,_=>rfl
 |(p,x)::a,b,n=>by rw [c8,aO,aO,iO a b n,Lj];rfl
theorem eW:∀(a b:List (Int × α)) (n:Int),cd g (a++b) n↔cd g a (aG b n)/\cd g b n
 | [],b,n=>by simp [cd]
 |(p,x)::a,b,n=>by rw [c8,cd,cd,eW a b n,Lj,and_assoc]
theorem D4:∀(a:List (Int × α)) (n:Int),aw (aO f a n)=a.map (·.1)
 | [],_=>rfl
 |(p,x)::a,n=>by
  show p::aw (aO f a n)=_
  rw [D4 a n];rfl
end
abbrev nI:=List Pr × Bs
abbrev LL:=List (Int × nI)
abbrev IL:=List (Int × Su)
def cj (x:nI) (nx:Int):Bs:=bh ⟨x.1,x.2,nx⟩
def aZ (e:Su) (nx:Int):Bs:=bX (ag e nx)
def okF (x:nI) (nx:Int):Prop:=bZ ⟨x.1,x.2,nx⟩=true
def okI (e:Su) (nx:Int):Prop:=e≠[]/\bv (ag e nx)=true
def bE (b:LL):Su:=b.map fun x=>(x.1,x.2.2)
def be (l:IL):Su:=l.map fun x=>(x.1,ay x.2)
def aJ (l:IL):Su:=l.flatMap (·.2)
inductive Dn:Su->List IL->LL->Prop
 | leaf (b:LL):Dn (bE b) [] b
 | inn (l:IL) (d:List IL) (b:LL):Dn (aJ l) d b->Dn (be l) (l::d) b
inductive im (r:Int):List IL->Int->Bs->Su->Su->List (Int × Su × Int × Nat)->Prop
 | top:im r [] r [] [] [] []
 | st {up:List IL} {q:Int} {e1:Su} {p:Int} {h:Bs} {e2:Su} {pre post:IL} {sts:List (Int × Su × Int × Nat)} :
  im r up q (ay (e1++(p,h)::e2)) (be pre) (be post) sts ->
  im r ((pre++(q,e1++(p,h)::e2)::post)::up) p h (aJ pre++e1) (e2++aJ post) ((q,e1++(p,h)::e2,aG post 0,e1.length)::sts)
theorem EK {r:Int} {up:List IL} {p:Int} {h:Bs} {a c:Su} {sts:List (Int × Su × Int × Nat)} (hp:im r up p h a c sts):∀{d:List IL} {b:LL},Dn (a++(p,h)::c) d b->Dn [(r,[])] (up.reverse++d) b:=by
 induction hp with
 | top=>intro d b h;exact h
 | @st up q e1 p h e2 pre post sts _ ih =>
  intro d b hd
  have e:aJ pre++e1++(p,h)::(e2++aJ post)=aJ (pre++(q,e1++(p,h)::e2)::post):=by simp [aJ]
  rw [e] at hd
  have:=Dn.inn _ _ _ hd
  have e':be (pre++(q,e1++(p,h)::e2)::post)=be pre++(q,ay (e1++(p,h)::e2))::be post:=by simp [be]
  rw [e'] at this
  have:=ih this
  rwa [mh,bc]
def af (a b:Bs):Prop:=a≠[]/\(b=[]∨lt a b=true)
def iJ (b:LL):Prop:=b.Pairwise fun y z=>af y.2.2 z.2.2/\∀x∈z.2.1,lt x.1 y.2.2=false
theorem Dz {a b c:Bs} (h1:af a b) (h2:af b c):af a c:=by
 refine ⟨h1.1,?_⟩
 rcases h2.2 with h | h
 ·exact .inl h
 ·rcases h1.2 with h' | h'
  ·exact absurd h' h2.1
  ·exact .inr (lt_trans h' h)
theorem U1 {k a b:Bs} (h:lt k a=true) (h2:af a b):b=[]∨lt k b=true:=by
 rcases h2.2 with h' | h'
 ·exact .inl h'
 ·exact .inr (lt_trans h h')
theorem Kx {k a b:Bs} (h:lt k b=false) (h2:lt a b=true):lt k a=false:=by
 cases h':lt k a with
 | false=>rfl
 | true=>rw [lt_trans h' h2] at h;cases h
theorem NE:∀(l:IL),(∀x∈l,x.2≠[])->((be l).map (·.2)).Sublist ((aJ l).map (·.2))
 | [],_=>.slnil
 |(p,e)::l,h=>by
  have ih:=NE l fun x hx=>h x (by simp [hx])
  have he:e≠[]:=h (p,e) (by simp)
  obtain ⟨a',x,rfl⟩:∃a' x,e=a'++[x]:=by
   rcases dQ e with h | ⟨l,x,h⟩
   ·exact absurd h he
   ·exact ⟨l,x,by simpa using h⟩
  have e1:aJ ((p,a'++[x])::l)=a'++x::aJ l:=by simp [aJ]
  have e2:be ((p,a'++[x])::l)=(p,x.2)::be l:=by
   simp [be,ay]
  rw [e1,e2,gv,cU,cU]
  exact (ih.cons_cons _).trans (List.sublist_append_right ..)
theorem CQ {m:br} (h:bv m=true):(bX m).length<=252:=by
 have h1:=CS h
 obtain ⟨_,_,_,h4,_,_,h7⟩:=nr h
 unfold i4 at h1
 omega
theorem Sr {l:Lf} (h:bZ l=true):(bh l).length<=252:=by
 have g:=pM h
 have h1:=CR l
 have h2:=g.wt;have h3:=g.high
 unfold gD at h1
 omega
theorem Qb {m:br} (h:bv m=true):bu aa 130 [.str (bX m)]=some (.tup [eI m,.int .i64 0]):=by
 have h1:=CS h
 have h2:=CQ h
 have:=V6 h 0 (by omega)
 rw [show eo 0=[] from rfl,c7] at this
 rw [Qg _ (by rw [cE];omega),this]
 rfl
theorem Sq {m:br} (h:bv m=true):(bX m)[0]? = some 78:=by
 unfold bX
 rw [if_pos h]
 rfl
theorem Qc {s:Bs} (hs:s.length<=252) (h:s[0]? = some 78):bu aa 129 [.str s]=some (.tup [eL rM,.int .i64 4]):=by
 have hsm:cE s:=by rw [cE];omega
 have hr:bu aa 175 [.str s]=some (.tup [.agg [.sl [],.str [],.int .i64 0],.int .i64 0,.bool false]):=by
  refine IT _ ?_ (.refl _)
  unfold Cs
  obtain ⟨x1,e1,h1⟩:∃x e,ff s 1 1=(x,e):=⟨_,_,rfl⟩
  obtain ⟨x2,e2,h2⟩:∃x e,ff s 2 2=(x,e):=⟨_,_,rfl⟩
  obtain ⟨t,m,e3,h3⟩:∃t m e,fK s 4=(t,m,e):=⟨_,_,_,rfl⟩
  rw [au (iz h1 hsm),iw,au (iz h2 hsm),iw,au (i6 h3 hsm),f0]
  cases e1 != (0:Int) with
  | true=>rfl
  | false =>
   cases e2 != (0:Int) with
   | true=>rfl
   | false =>
    cases e3 != (0:Int) with
    | true=>rfl
    | false =>
     rw [cond_false,cond_false,cond_false,cO h]
     rfl
 refine IG _ ?_
 unfold y4
 rw [decide_eq_false (by omega),cond_false,au hr,Ij]
 rfl
theorem Ac {p:Int} {x:nI}:∀{pre post:LL} {n:Int},cd okF (pre++(p,x)::post) n->okF x (aG post n):=fun h=>((eW _ _ _).1 h).2.1
theorem k6 {p:Int} {x:Su}:∀{pre post:IL} {n:Int},cd okI (pre++(p,x)::post) n->okI x (aG post n):=fun h=>((eW _ _ _).1 h).2.1
theorem Eg {α:Type} {f:α->Int->Bs} (pre:List (Int × α)) (p:Int) (x:α) (post:List (Int × α)) (n:Int):(p,f x (aG post n))∈aO f (pre++(p,x)::post) n:=by
 rw [iO,aO];simp
theorem ix {s:Su} {b:LL} (h:Dn s [] b):s=bE b:=by cases h;rfl
theorem fS {s:Su} {l:IL} {d:List IL} {b:LL} (h:Dn s (l::d) b):s=be l/\Dn (aJ l) d b:=by cases h;exact ⟨rfl,‹_›⟩
theorem P9 {b:LL} {a c:Su} {p:Int} {h:Bs} (e:a++(p,h)::c=bE b):∃pre prs post,b=pre++(p,prs,h)::post/\a=bE pre/\c=bE post:=by
 unfold bE at e
 obtain ⟨pre,b2,rfl,h1,h2⟩:=List.map_eq_append_iff.1 e.symm
 obtain ⟨x,post,rfl,h3,h4⟩:=List.map_eq_cons_iff.1 h2
 obtain ⟨q,prs,hh⟩:=x
 simp only [Prod.mk.injEq] at h3
 obtain ⟨rfl,rfl⟩:=h3
 exact ⟨pre,prs,post,rfl,h1.symm,h4.symm⟩
theorem P8 {l:IL} {a c:Su} {p:Int} {h:Bs} (e:a++(p,h)::c=be l):∃pre x post,l=pre++(p,x)::post/\ay x=h/\a=be pre/\c=be post:=by
 unfold be at e
 obtain ⟨pre,b2,rfl,h1,h2⟩:=List.map_eq_append_iff.1 e.symm
 obtain ⟨x,post,rfl,h3,h4⟩:=List.map_eq_cons_iff.1 h2
 obtain ⟨q,x⟩:=x
 simp only [Prod.mk.injEq] at h3
 obtain ⟨rfl,rfl⟩:=h3
 exact ⟨pre,x,post,rfl,rfl,h1.symm,h4.symm⟩
def HP (s:Su):Prop:=s.Pairwise fun a b=>af a.2 b.2
theorem J7 {s:Su}:HP s↔(s.map (·.2)).Pairwise af:=List.pairwise_map.symm
theorem Ew {α:Type} {g:α->Int->Prop}:∀{l:List (Int × α)} {n:Int},cd g l n->∀x∈l,∃m,g x.2 m
 |(p,y)::l,n,h,x,hx=>by
  rcases bw.1 hx with rfl | hx
  ·exact ⟨_,h.1⟩
  ·exact Ew h.2 x hx
theorem gM {l:IL} {n:Int} (h:cd okI l n):∀x∈l,x.2≠[]:=fun x hx=>let ⟨_,h⟩:=Ew h x hx;h.1
theorem zw {l:IL} (hn:∀x∈l,x.2≠[]) (h:HP (aJ l)):HP (be l):=J7.2 (List.Pairwise.sublist (NE l hn) (J7.1 h))
theorem yX:∀{d:List IL} {s:Su} {b:LL},Dn s d b->(∀l∈d,∀x∈l,x.2≠[])->HP (bE b)->HP s
 | [],s,b,hd,_,h=>by rw [ix hd];exact h
 | l::d,s,b,hd,hn,h=>by
  obtain ⟨e,hd⟩:=fS hd
  rw [e]
  exact zw (hn l (by simp)) (yX hd (fun l' hl=>hn l' (by simp [hl])) h)
theorem Af {b:LL} (h:iJ b):HP (bE b):=by
 unfold HP bE
 rw [G6]
 exact h.imp fun h=>h.1
theorem Uv {k:Bs} {pre:IL} (hn:∀x∈pre,x.2≠[]) (hP:HP (aJ pre)) (h0:∀y∈be pre,y.2≠[]) (hk:∀y∈be pre,lt k y.2=false):∀y∈aJ pre,lt k y.2=false:=by
 intro y hy
 obtain ⟨z,hz,hy⟩:=gw.1 hy
 have hzs:(z.1,ay z.2)∈be pre:=dF.2 ⟨z,hz,rfl⟩
 have h1:=h0 _ hzs
 have h2:=hk _ hzs
 have hP:HP z.2:=(List.pairwise_flatMap.1 hP).1 z hz
 obtain ⟨a',x,e⟩:∃a' x,z.2=a'++[x]:=by
  rcases dQ z.2 with h | ⟨l,x,h⟩
  ·exact absurd h (hn z hz)
  ·exact ⟨l,x,by simpa using h⟩
 rw [e] at hy hP h1 h2
 have ex:ay (a'++[x])=x.2:=fD a' (by simp)
 simp only [ex] at h1 h2
 rcases aV.1 hy with hy | hy
 ·have:=(du.1 hP).2.2 y hy x (by simp)
  exact Kx h2 (this.2.resolve_left h1)
 ·have:y=x:=by simpa using hy
  rw [this];exact h2
theorem TE {a c:Su} {x:Int × Bs} (h:HP (a++x::c)):∀y∈a,y.2≠[]:=fun y hy=>((du.1 h).2.2 y hy x (by simp)).1
abbrev tM (r:Int) (n:Nat) (es:Es):List O:=tm r (n:Int) (aP es) (aF n (az es))
theorem WR {r:Int} {n:Nat} {es:Es} (h:bN n es) {p:Int} {l:Lf} (hg:cg es p=some (bh l)) (hr:bZ l=true):bB aa al 82 [.ptr 0 0 0,.int .i64 p] (tM r n es)=some (eU (tM r n es) (aX l.prs,l.high,l.next)):=by
 refine CO _ _ _ _ _ (o:=.doneM (.ifc 120 (eL l)) (tM r n es++[O.row 41 [] 0,O.box 120 (eL l) false])) ?_ (.done (by kernel_rfl))
 unfold y8
 rw [cD sd (xe h hg),bG,dG rfl,cond_false,au (Qd _ hr),lp,dx rfl,cond_true]
theorem WQ {r:Int} {n:Nat} {es:Es} (h:bN n es) {p:Int} {m:br} (hg:cg es p=some (bX m)) (hr:bv m=true):bB aa al 82 [.ptr 0 0 0,.int .i64 p] (tM r n es)=some (eV (tM r n es) (aE m.seps,ae m.kids,m.high,m.next)):=by
 refine CO _ _ _ _ _ (o:=.doneM (.ifc 150 (eI m)) (tM r n es++[O.row 41 [] 0,O.box 120 (eL rM) false,O.row 9 [] 0,O.row 3 [] 0,O.box 150 (eI m) false])) ?_ (.done (by kernel_rfl))
 unfold y8
 rw [cD sd (xe h hg),bG,dG rfl,cond_false,au (Qc (CQ hr) (Sq hr)),lp,dJ (by decide),cond_false,au (Qb hr),tT,dx rfl,cond_true]
section
variable {r:Int} {n:Nat} {es:Es} {p:Int}
theorem qo (h:bN n es) {l:Lf} (hg:cg es p=some (bh l)) (hr:bZ l=true) {k:List V × List UInt8 × Int->R} {k2:List V × List V × List UInt8 × Int->R} {k3:Unit->R} :
  fE aa al (eU (tM r n es)) (eV (tM r n es)) (fh (tM r n es)) 82 [.ptr 0 0 0,.int .i64 p] (tM r n es) k k2 k3=k (aX l.prs,l.high,l.next):=TK (Vm _) (WR h hg hr)
theorem oK (h:bN n es) {m:br} (hg:cg es p=some (bX m)) (hr:bv m=true) {k:List V × List UInt8 × Int->R} {k2:List V × List V × List UInt8 × Int->R} {k3:Unit->R} :
  fE aa al (eU (tM r n es)) (eV (tM r n es)) (fh (tM r n es)) 82 [.ptr 0 0 0,.int .i64 p] (tM r n es) k k2 k3=k2 (aE m.seps,ae m.kids,m.high,m.next):=TL (Vn _) (Vo _) (WQ h hg hr)
theorem oW (h:bN n es) {b:Bs} {l:Lf} (hg:cg es p=some b) (hr:bZ l=true):bB aa al 78 [.ptr 0 0 0,.int .i64 p,.ifc 120 (eL l)] (tM r n es)=some (dV (r,n,aP (aT es p (bh l)),aF n (az (aT es p (bh l))))):=by
 refine R7 _ _ _ _ _ _ _ _ (o:=.doneM (.tup []) (tM r n (aT es p (bh l))++[O.row 41 [] 0,O.box 120 (eL l) false])) ?_ (.done (by kernel_rfl))
 unfold I5
 rw [au (Jl _ hr),ef,bY K3 (Of h hg (Sr hr))]
theorem qG (h:bN n es) {b:Bs} {m:br} (hg:cg es p=some b) (hr:bv m=true):bB aa al 78 [.ptr 0 0 0,.int .i64 p,.ifc 150 (eI m)] (tM r n es)=some (dV (r,n,aP (aT es p (bX m)),aF n (az (aT es p (bX m))))):=by
 refine R8 _ _ _ _ _ _ _ _ _ (o:=.doneM (.tup []) (tM r n (aT es p (bX m))++[O.row 9 [] 0,O.row 3 [] 0,O.box 150 (eI m) false])) ?_ (.done (by kernel_rfl))
 unfold I6
 rw [au (Jn _ (lU hr)),ef,bY K3 (Of h hg (CQ hr))]
end
abbrev an:=Int × Su × Int × Nat
def jD (x:an):V:=.agg [.int .i64 x.1,.sl (aE (ag x.2.1 x.2.2.1).seps),.sl (ae (ag x.2.1 x.2.2.1).kids),.str (ay x.2.1),.int .i64 x.2.2.1,.int .i64 (x.2.2.2:Int)]
def dX (l:List an):List V:=l.map jD
theorem qB (l:List an):(dX l).length=l.length:=by simp [dX]
theorem C3 {m:br} {k:Bs} (h:bv m=true) (hk:bi k=true) (hh:m.high=[]∨lt k m.high=true):iQ m k=(((d0 m.seps k:Nat):Int),0):=by
 unfold iQ
 rw [if_pos]
 rw [h,hk]
 rcases hh with hh | hh
 ·rw [hh];rfl
 ·rw [hh];simp
inductive jg (es:Es) (k:Bs):Int->List an->Int->Lf->Prop
 | leaf {p:Int} {l:Lf} (hg:cg es p=some (bh l)) (hr:bZ l=true):jg es k p [] p l
 | inn {p:Int} {e:Su} {nx:Int} {i:Nat} {p':Int} {sts:List an} {pl:Int} {l:Lf} (hg:cg es p=some (bX (ag e nx))) (hr:bv (ag e nx)=true) (hf:iQ (ag e nx) k=((i:Int),0)) (hi:(ag e nx).kids[i]? = some p') :
  jg es k p' sts pl l->jg es k p ((p,e,nx,i)::sts) pl l
theorem N7 {r:Int} {n:Nat} {es:Es} (hS:bN n es) {k:Bs} (hk:bi k=true) :
  ∀(d:List IL) (b:LL) (up:List IL) (p:Int) (h:Bs) (a c:Su) (sts:List an),im r up p h a c sts->Dn (a++(p,h)::c) d b->(∀y∈a,lt k y.2=false)->(h=[]∨lt k h=true) ->
  (∀l∈d,cd okI l 0)->cd okF b 0->(∀l∈d,∀x∈aO aZ l 0,x∈es)->(∀x∈aO cj b 0,x∈es)->HP (bE b) ->
  ∃p' h' ws pre prs post,im r (d.reverse++up) p' h' (bE pre) (bE post) (ws.reverse++sts)/\b=pre++(p',prs,h')::post/\(∀y∈bE pre,lt k y.2=false)/\(h'=[]∨lt k h'=true)/\ws.length=d.length /\
   jg es k p ws p' ⟨prs,h',aG post 0⟩
 | [],b,up,p,h,a,c,sts,hp,hd,ha,hh,_,hF,_,hE,_=>by
  obtain ⟨pre,prs,post,rfl,rfl,rfl⟩:=P9 (ix hd)
  have hr:bZ ⟨prs,h,aG post 0⟩=true:=Ac hF
  have hg:cg es p=some (bh ⟨prs,h,aG post 0⟩):=iR hS.nd (hE _ (Eg (f:=cj) pre p (prs,h) post 0))
  exact ⟨p,h,[],pre,prs,post,hp,rfl,ha,hh,rfl,.leaf hg hr⟩
 | l::d,b,up,p,h,a,c,sts,hp,hd,ha,hh,hI,hF,hEI,hE,hP=>by
  have hPs:=yX hd (fun l hl=>gM (hI l hl)) hP
  obtain ⟨e,hdk⟩:=fS hd
  clear hd
  obtain ⟨pre,x,post,rfl,rfl,rfl,rfl⟩:=P8 e
  obtain ⟨hne,hr⟩:okI x (aG post 0):=k6 (hI _ (bV ..))
  have hg:cg es p=some (bX (ag x (aG post 0))):=iR hS.nd (hEI _ (bV ..) _ (Eg (f:=aZ) pre p x post 0))
  obtain ⟨e1,p',h',e2,rfl,h1,h2,h3⟩:=If k x hne
  have hfind:=C3 hr hk hh
  have hfi:iQ (ag (e1++(p',h')::e2) (aG post 0)) k=(((e1.length:Nat):Int),0):=hfind.trans (by rw [h1])
  have hkid:((e1++(p',h')::e2).map (·.1))[e1.length]? = some p':=by simp
  have hk2:aJ (pre++(p,e1++(p',h')::e2)::post)=aJ pre++e1++(p',h')::(e2++aJ post):=by simp [aJ]
  rw [hk2] at hdk
  have hpre:∀y∈aJ pre++e1,lt k y.2=false:=by
   intro y hy
   rcases aV.1 hy with hy | hy
   ·have hPk:=yX hdk (fun l hl=>gM (hI l (by simp [hl]))) hP
    rw [bc] at hPk
    exact Uv (fun x hx=>gM (hI _ (bV ..)) x (by simp [hx])) (du.1 hPk).1 (TE hPs) ha y hy
   ·exact h2 y hy
  have hh':h'=[]∨lt k h'=true:=by
   by_cases h2e:e2=[]
   ·subst h2e
    have:ay (e1++[(p',h')])=h':=(fD e1 (by simp)).trans rfl
    rw [this] at hh
    exact hh
   ·exact .inr (h3 h2e)
  obtain ⟨p2,h2',ws,pre',prs,post',q1,q2,q3,q4,q5,q6⟩:=N7 hS hk d b _ p' h' _ _ _ (.st hp) hdk hpre hh' (fun l hl=>hI l (by simp [hl])) hF (fun l hl=>hEI l (by simp [hl])) hE hP
  refine ⟨p2,h2',(p,e1++(p',h')::e2,aG post 0,e1.length)::ws,pre',prs,post',?_,q2,q3,q4,by simp [q5],.inn hg hr hfi hkid q6⟩
  rw [mh,bc,mh,bc]
  exact q1
theorem Zq {r:Int} {n:Nat} {es:Es} (hS:bN n es) {k:Bs} {p:Int} {ws:List an} {pl:Int} {l:Lf} (h:jg es k p ws pl l):∀acc:List an,acc.length+ws.length<=10000 ->
  Go qk true 5 (fF 75) (.head 0 (yq k p r n (aP es) (aF n (az es)) (dX acc))) (.doneM (.tup [.own 5,.agg [.sl (aX l.prs),.str l.high,.int .i64 l.next],.int .i64 pl]) (tM r n es++[O.row 176 (dX (acc++ws)) 0,O.box 120 (.agg [.sl (aX l.prs),.str l.high,.int .i64 l.next]) false])):=by
 induction h with
 | @leaf p l hg hr =>
  intro acc _
  rw [c7]
  refine M3 _ _ _ _ _ _ _ ?_ (.refl _)
  unfold FN
  rw [qo hS hg hr,bG]
 | @inn p e nx i p' sts pl l hg hr hf hi _ ih =>
  intro acc ha
  have ih:=ih (acc++[(p,e,nx,i)]) (by simp at ha |-;omega)
  rw [bc] at ih
  refine M3 _ _ _ _ _ _ _ ?_ ih
  unfold FN
  rw [oK hS hg hr,bG]
  show (ai aa _ [eI (ag e nx),_] _)=_
  rw [au (JD _ k (lU hr)),Ih,hf,dG rfl,cond_false,ak (decide_eq_true (by rw [qB];simp at ha |-;omega)),ak (by simp),aU]
  have hi2:aH (ae (ag e nx).kids) i=fun k=>k (V.int .i64 p'):=by
   funext kk
   exact d9 hi
  rw [hi2]
  simp only [bH]
  simp [dX,jD]
theorem qF {r:Int} {n:Nat} {es:Es} (hS:bN n es) {k:Bs} {ws:List an} {pl:Int} {l:Lf} (h:jg es k r ws pl l) (hw:ws.length<=10000) :
  bB aa al 75 [.ptr 0 0 0,.str k] (tM r n es)=some (mT (tM r n es) (dX ws,aX l.prs,l.high,l.next,pl)) :=
 R2 _ _ _ _ _ rfl ⟨_,_,Zq hS h [] (by simpa using hw),by kernel_rfl⟩
def cB (ups:List IL):Es:=ups.flatMap fun l=>aO aZ l 0
structure WT (n:Nat) (r:Int) (es:Es) (ups:List IL) (b:LL):Prop where
 shf:bN n es
 rep:es.Perm (cB ups++aO cj b 0)
 dn:Dn [(r,[])] ups b
 okI:∀l∈ups,cd okI l 0
 okF:cd okF b 0
 ord:iJ b
theorem Iv:∀{d:List IL} {s:Su} {b:LL},Dn s d b->(∀l∈d,cd okI l 0)->s≠[]->∀l∈d,l≠[]
 | [],_,_,_,_,_=>by simp
 | l::d,s,b,hd,hI,hs=>by
  obtain ⟨e,hdk⟩:=fS hd
  have hl:l≠[]:=by rintro rfl;exact hs e
  intro l' hl'
  rcases bw.1 hl' with rfl | hl'
  ·exact hl
  ·refine Iv hdk (fun x hx=>hI x (by simp [hx])) ?_ l' hl'
   obtain ⟨x,t,rfl⟩:=me hl
   have:=gM (hI _ (bV ..)) x (by simp)
   intro h0
   rw [aJ,ij,o6] at h0
   exact this h0.1
theorem zc {α:Type} {f:α->Int->Bs}:∀(l:List (Int × α)) (n:Int),(aO f l n).length=l.length
 | [],_=>rfl
 |(p,x)::l,n=>by rw [aO,cw,zc l n];rfl
theorem Jm:∀{ups:List IL},(∀l∈ups,l≠[])->ups.length<=(cB ups).length
 | [],_=>bq _
 | l::ups,h=>by
  have:=Jm (ups:=ups) fun x hx=>h x (by simp [hx])
  have h1:0 < l.length:=jb.2 (h l (by simp))
  rw [cB,ij,cL,zc,cw]
  have e:(cB ups).length=(List.flatMap (fun l=>aO aZ l 0) ups).length:=rfl
  omega
theorem nB {n:Nat} {r:Int} {es:Es} {ups:List IL} {b:LL} (h:WT n r es ups b):ups.length<=1024:=by
 have h1:=Jm (Iv h.dn h.okI (by simp))
 have h2:=h.rep.length_eq
 have h3:=rQ h.shf
 have h4:=h.shf.le
 rw [cL] at h2
 omega
theorem GA {n:Nat} {r:Int} {es:Es} {ups:List IL} {b:LL} (h:WT n r es ups b) {k:Bs} (hk:bi k=true) :
  ∃p h' ws pre prs post,im r ups.reverse p h' (bE pre) (bE post) ws.reverse/\b=pre++(p,prs,h')::post/\(∀y∈bE pre,lt k y.2=false)/\(h'=[]∨lt k h'=true)/\ws.length=ups.length/\jg es k r ws p ⟨prs,h',aG post 0⟩:=by
 obtain ⟨p,h',ws,pre,prs,post,q1,q2,q3,q4,q5,q6⟩:=N7 (r:=r) h.shf hk ups b [] r [] [] [] [] .top h.dn (by simp) (.inl rfl) h.okI h.okF
  (fun l hl x hx=>h.rep.mem_iff.2 (jG _ (gw.2 ⟨l,hl,hx⟩))) (fun x hx=>h.rep.mem_iff.2 (mf _ hx)) (Af h.ord)
 rw [c7,c7] at q1
 exact ⟨p,h',ws,pre,prs,post,q1,q2,q3,q4,q5,q6⟩
theorem NG:∀{l:List Bs},(∀s∈l,bi s=true)->bU l<=19 * l.length
 | [],_=>bq _
 | s::l,h=>by
  have h1:=gJ (h s (by simp))
  have h2:=NG (l:=l) fun x hx=>h x (by simp [hx])
  simp only [bU,cw]
  omega
structure nH (e1:Su) (p:Int) (h:Bs) (e2:Su) (nx:Int) (k:Bs) (to:Int):Prop where
 right:bv (ag (e1++(p,h)::e2) nx)=true
 key:bi k=true
 pg:dk to=true
 lo:∀y∈e1,af y.2 k
 hi:h=[]∨lt k h=true
 hp:HP (e1++(p,h)::e2)
theorem Dy {a k:Bs} (hk:bi k=true) (h:af a k):lt k a=false:=by
 rcases h.2 with h' | h'
 ·subst h';cases hk
 ·exact lK h'
theorem Ke {e1:Su} {p:Int} {h:Bs} {e2:Su} {nx:Int} {k:Bs} {to:Int} (f:nH e1 p h e2 nx k to):d0 (ag (e1++(p,h)::e2) nx).seps k=e1.length:=by
 refine HG k e1 p h e2 (fun y hy=>Dy f.key (f.lo y hy)) fun hne=>?_
 obtain ⟨y,r,rfl⟩:=me hne
 have:HP ((p,h)::y::r):=(du.1 f.hp).2.1
 have:=(fP.1 this).1 y (by simp)
 exact f.hi.resolve_left this.1
theorem zz {e1:Su} {p:Int} {h:Bs} {e2:Su} {nx:Int} {k:Bs} {to:Int} (f:nH e1 p h e2 nx k to):ay (e1++(p,h)::e2)=[]∨lt k (ay (e1++(p,h)::e2))=true:=by
 rw [fD _ (by simp)]
 cases e2 with
 | nil=>exact f.hi
 | cons y r =>
  rw [j4 _ (by simp)]
  have h1:HP ((p,h)::y::r):=(du.1 f.hp).2.1
  obtain ⟨x,hx⟩:∃x,(y::r).getLast? = some x:=⟨_,Ox (by simp)⟩
  have hm:=List.mem_of_getLast? hx
  have e:ay (y::r)=x.2:=by unfold ay;rw [Bo,hx];rfl
  have:=(fP.1 h1).1 x hm
  rw [e]
  exact U1 (f.hi.resolve_left this.1) this
theorem wL {e1:Su} {p:Int} {h:Bs} {e2:Su} {nx:Int} {k:Bs} {to:Int} (f:nH e1 p h e2 nx k to) :
  lS (ag (e1++(p,h)::e2) nx) k to=if 23+bU (ag (e1++(p,k)::(to,h)::e2) nx).seps<=252 then (ag (e1++(p,k)::(to,h)::e2) nx,0) else (jr,6):=by
 have ha:=Ke f
 have hf:=C3 f.right f.key (zz f)
 unfold lS
 rw [hf,ha,if_pos ⟨rfl,f.pg⟩,zD,if_neg]
 ·unfold kJ
  by_cases hz:23+bU (ag (e1++(p,k)::(to,h)::e2) nx).seps<=252
  ·rw [if_pos hz,if_pos (by simpa using hz)]
  ·rw [if_neg hz,if_neg (by simpa using hz)]
 ·rintro ⟨h0,h1⟩
  have hlt1:e1.length - 1 < e1.length:=by omega
  have:(ag (e1++(p,h)::e2) nx).seps[e1.length - 1]? = some e1[e1.length - 1].2:=by
   show ((e1++(p,h)::e2).dropLast.map (·.2))[e1.length - 1]? = _
   rw [pD,gv,cQ (by simpa using hlt1),dh,bj hlt1]
   rfl
  rw [this] at h1
  have hm:e1[e1.length - 1]∈e1:=vA hlt1
  have:=f.lo _ hm
  rw [Option.some.inj h1] at this
  rcases this.2 with h' | h'
  ·exact this.1 h'
  ·rw [gC] at h';cases h'
theorem zA {e1:Su} {p:Int} {h:Bs} {e2:Su} {nx:Int} {k:Bs} {to:Int} (f:nH e1 p h e2 nx k to) (hz:23+bU (ag (e1++(p,k)::(to,h)::e2) nx).seps<=252):bv (ag (e1++(p,k)::(to,h)::e2) nx)=true:=by
 have ha:=Ke f
 have hf:Hh (ag (e1++(p,h)::e2) nx) k to:=by
  refine ⟨f.right,f.key,?_,f.pg,?_,?_⟩
  ·rcases zz f with h | h
   ·show (ay (e1++(p,_)::e2)==[] || _)=true
    rw [h];rfl
   ·show (_ || lt k (ay (e1++(p,_)::e2)))=true
    rw [h,Bool.or_true]
  ·have:=wL f
   rw [if_pos hz] at this
   intro hc
   unfold lS at this
   rw [C3 f.right f.key (zz f),if_pos ⟨rfl,f.pg⟩,if_pos hc] at this
   simp only [Prod.mk.injEq] at this
   exact absurd this.2 (by decide)
  ·rw [ha,zD];unfold kJ;simpa using hz
 have:=WH hf
 rwa [ha,zD] at this
theorem ol {s:Bs} (h:bi s=true):s≠[]:=by rintro rfl;cases h
theorem zB (e1:Su) (p:Int) (h:Bs) (e2:Su) (k:Bs) (to nx:Int):bU (ag (e1++(p,k)::(to,h)::e2) nx).seps=bU (ag (e1++(p,h)::e2) nx).seps+(3+k.length):=by
 have:=zD e1 p h e2 k to nx
 rw [<-this]
 show bU ((ag (e1++(p,h)::e2) nx).seps.take e1.length++[k]++(ag (e1++(p,h)::e2) nx).seps.drop e1.length)=_
 have h2:bU (ag (e1++(p,h)::e2) nx).seps=bU ((ag (e1++(p,h)::e2) nx).seps.take e1.length)+bU ((ag (e1++(p,h)::e2) nx).seps.drop e1.length):=by
  rw [<-vk,gP]
 rw [vk,vk,h2]
 simp only [bU]
 omega
theorem zt {e:Su} (h:e≠[]):∃x∈e,ay e=x.2:=by
 obtain ⟨a',x,rfl⟩:∃a' x,e=a'++[x]:=by
  rcases dQ e with h' | ⟨l,x,h'⟩
  ·exact absurd h' h
  ·exact ⟨l,x,by simpa using h'⟩
 exact ⟨x,by simp,fD a' (by simp)⟩
theorem Dx (e1:Su) (p:Int) (h:Bs) (c:Su) (k:Bs) (to:Int):ay (e1++(p,k)::(to,h)::c)=ay (e1++(p,h)::c):=by
 cases c with
 | nil =>
  have a1:ay (e1++[(p,h)])=h:=(fD e1 (by simp)).trans rfl
  have a2:ay (e1++[(p,k),(to,h)])=h:=(fD e1 (by simp)).trans rfl
  exact a2.trans a1.symm
 | cons z c =>
  have a1:ay (e1++(p,h)::z::c)=ay (z::c):=(fD e1 (by simp)).trans (j4 _ (by simp))
  have a2:ay (e1++(p,k)::(to,h)::z::c)=ay (z::c):=(fD e1 (by simp)).trans ((j4 _ (by simp)).trans (j4 _ (by simp)))
  exact a2.trans a1.symm
structure OH (e:Su) (nx:Int) (k:Bs) (to q:Int) (e' fa fb:Su):Prop where
 cut:e'=fa++fb
 na:fa≠[]
 nb:fb≠[]
 ra:bv (ag fa (q+1))=true
 rb:bv (ag fb nx)=true
 mid:bi (ay fa)=true
 six:6<=fa.length/\6<=fb.length
 big:(∀y∈e,y.2.length<=5)->k.length<=5->15<=fa.length
 run:∃ea eb,bv (ag ea (q+1))=true/\bv (ag eb nx)=true/\ve (ag e nx) q=(ag ea (q+1),ag eb nx,ay fa,0) /\
  ((lt k (ay fa)=true/\lS (ag ea (q+1)) k to=(ag fa (q+1),0)/\eb=fb)∨(lt k (ay fa)=false/\ea=fa/\lS (ag eb nx) k to=(ag fb nx,0)))
theorem NH:∀{l:List Bs},(∀s∈l,s.length<=5)->bU l<=8 * l.length
 | [],_=>bq _
 | s::l,h=>by
  have h1:=h s (by simp)
  have h2:=NH (l:=l) fun x hx=>h x (by simp [hx])
  simp only [bU,cw]
  omega
theorem T1 {e1:Su} {p:Int} {h:Bs} {e2:Su} {nx:Int} {k:Bs} {to q:Int} (f:nH e1 p h e2 nx k to) (hz:¬23+bU (ag (e1++(p,k)::(to,h)::e2) nx).seps<=252) (hq:dk q=true) :
  ∃fa fb,OH (e1++(p,h)::e2) nx k to q (e1++(p,k)::(to,h)::e2) fa fb:=by
 rw [zB] at hz
 have hkl:=(gJ f.key).2
 obtain ⟨r1,r2,r3,r4,r5,r6,r7⟩:=nr f.right
 have h19:=NG r3
 have hsl:(ag (e1++(p,h)::e2) nx).seps.length=(e1++(p,h)::e2).length - 1:=AR
 have h3:3<=(ag (e1++(p,h)::e2) nx).kids.length:=by omega
 obtain ⟨A,mid,B,s1,s2,s3,s4,s5⟩:=Ny f.right h3
 have hss:=YA (to:=q) f.right h3 hq
 have hspl:ve (ag (e1++(p,h)::e2) nx) q=(sP (ag (e1++(p,h)::e2) nx) q,sQ (ag (e1++(p,h)::e2) nx),mid,0):=by
  unfold ve
  rw [if_pos ⟨f.right,h3,hq⟩,s3]
 have hsz:bU (ag (e1++(p,h)::e2) nx).seps=bU A+(3+mid.length)+bU B:=by
  rw [s1,vk];simp only [bU];omega
 have hAl:A.length+B.length+1=(ag (e1++(p,h)::e2) nx).seps.length:=by rw [s1];simp;omega
 have hA4:=qC (l:=A) fun x hx=>r3 x (by rw [s1];simp [hx])
 have hB4:=qC (l:=B) fun x hx=>r3 x (by rw [s1];simp [hx])
 have hmk:bi mid=true:=r3 mid (by rw [s1];simp)
 have hml:=(gJ hmk).1
 have hbig:(∀y∈e1++(p,h)::e2,y.2.length<=5)->k.length<=5->15<=(ag (e1++(p,h)::e2) nx).seps.length / 2+1:=by
  intro hy hk5
  have h8:bU (ag (e1++(p,h)::e2) nx).seps<=8 * (ag (e1++(p,h)::e2) nx).seps.length:=NH fun s hs=>by
   obtain ⟨y,hy1,rfl⟩:=dF.1 hs
   exact hy y ((List.dropLast_sublist _).subset hy1)
  omega
 generalize hm:(ag (e1++(p,h)::e2) nx).seps.length / 2+1=m at *
 obtain ⟨ea,hea⟩:∃ea,ea=(e1++(p,h)::e2).take m:=⟨_,rfl⟩
 obtain ⟨eb,heb⟩:∃eb,eb=(e1++(p,h)::e2).drop m:=⟨_,rfl⟩
 have hab:e1++(p,h)::e2=ea++eb:=by rw [hea,heb,gP]
 have hel:ea.length=m:=by rw [hea,fX];omega
 have hbl:eb.length+m=(e1++(p,h)::e2).length:=by rw [heb,fO];omega
 have hna:ea≠[]:=by rintro rfl;simp at hel;omega
 have hsixA:6<=ea.length:=by omega
 have hsixB:6<=eb.length:=by omega
 have hnb:eb≠[]:=by rintro rfl;simp only [fc,dI] at hbl;omega
 have hsp:=Yx ea eb hnb q nx (by rw [<-hab,hm,hel])
 rw [<-hab] at hsp
 have hmid:ay ea=mid:=by
  have:=congrArg br.high hsp.1
  exact this.symm.trans s3
 have hsa:(ag ea (q+1)).seps=A:=by
  have:=congrArg br.seps hsp.1
  exact this.symm.trans s4
 have hsb:(ag eb nx).seps=B:=by
  have:=congrArg br.seps hsp.2
  rw [<-s5,<-hm]
  exact this.symm
 have hra:bv (ag ea (q+1))=true:=by rw [<-hsp.1];exact hss.1
 have hrb:bv (ag eb nx)=true:=by rw [<-hsp.2];exact hss.2
 rw [hsp.1,hsp.2,<-hmid] at hspl
 rw [<-hmid] at hmk hml
 have hHP:=f.hp
 rw [hab] at hHP
 have hHa:HP ea:=(du.1 hHP).1
 have hHb:HP eb:=(du.1 hHP).2.1
 rcases List.append_eq_append_iff.1 hab with ⟨c,hc1,hc2⟩ | ⟨c,hc1,hc2⟩
 ·-- ea=e1++c
  cases c with
  | nil =>
   rw [c7] at hc1
   subst hc1
   rw [dB] at hc2
   subst hc2
   have f2:nH [] p h e2 nx k to:=⟨hrb,f.key,f.pg,by simp,f.hi,hHb⟩
   have hp2:=wL f2
   have hz2:23+bU (ag ([]++(p,k)::(to,h)::e2) nx).seps<=252:=by rw [zB,dB,hsb];omega
   rw [if_pos hz2] at hp2
   obtain ⟨x,hx,e⟩:=zt hna
   refine ⟨ea,(p,k)::(to,h)::e2,rfl,hna,by simp,hra,zA f2 hz2,hmk,⟨hsixA,by simp at hsixB |-;omega⟩,fun h1 h2=>hel ▸ hbig h1 h2,ea,(p,h)::e2,hra,hrb,hspl,.inr ⟨?_,rfl,hp2⟩⟩
   rw [e]
   exact Dy f.key (f.lo x hx)
  | cons y c =>
   rw [c8] at hc2
   obtain ⟨rfl,hc3⟩:=List.cons.inj hc2
   clear hc2
   subst hc1
   subst hc3
   have f2:nH e1 p h c (q+1) k to:=⟨hra,f.key,f.pg,f.lo,f.hi,hHa⟩
   have hp2:=wL f2
   have hz2:23+bU (ag (e1++(p,k)::(to,h)::c) (q+1)).seps<=252:=by rw [zB,hsa];omega
   rw [if_pos hz2] at hp2
   have hhi:=Dx e1 p h c k to
   refine ⟨e1++(p,k)::(to,h)::c,eb,by simp,by simp,hnb,zA f2 hz2,hrb,by rw [hhi];exact hmk,⟨by simp at hsixA |-;omega,hsixB⟩,fun h1 h2=>by have h3:=hbig h1 h2;rw [<-hel] at h3;simp at h3 |-;omega,e1++(p,h)::c,eb,hra,hrb,by rw [hhi];exact hspl,.inl ⟨?_,hp2,rfl⟩⟩
   rw [hhi]
   exact (zz f2).resolve_left (ol hmk)
 ·-- e1=ea++c
  subst hc1
  subst hc2
  have f2:nH c p h e2 nx k to:=⟨hrb,f.key,f.pg,fun y hy=>f.lo y (by simp [hy]),f.hi,hHb⟩
  have hp2:=wL f2
  have hz2:23+bU (ag (c++(p,k)::(to,h)::e2) nx).seps<=252:=by rw [zB,hsb];omega
  rw [if_pos hz2] at hp2
  obtain ⟨x,hx,e⟩:=zt hna
  refine ⟨ea,c++(p,k)::(to,h)::e2,by simp,hna,by simp,hra,zA f2 hz2,hmk,⟨hsixA,by simp at hsixB |-;omega⟩,fun h1 h2=>hel ▸ hbig h1 h2,ea,c++(p,h)::e2,hra,hrb,hspl,.inr ⟨?_,rfl,hp2⟩⟩
  rw [e]
  exact Dy f.key (f.lo x (by simp [hx]))
theorem TD {a c:Su} {p to:Int} {k h:Bs} (hP:HP (a++(p,h)::c)) (hlo:∀y∈a,af y.2 k) (hkh:af k h):HP (a++(p,k)::(to,h)::c):=by
 obtain ⟨h1,h2,h3⟩:=du.1 hP
 obtain ⟨h4,h5⟩:=fP.1 h2
 refine du.2 ⟨h1,fP.2 ⟨?_,fP.2 ⟨h4,h5⟩⟩,?_⟩
 ·intro y hy
  rcases bw.1 hy with rfl | hy
  ·exact hkh
  ·exact Dz hkh (h4 y hy)
 ·intro y hy z hz
  rcases bw.1 hz with rfl | hz
  ·exact hlo y hy
  ·rcases bw.1 hz with rfl | hz
   ·exact h3 y hy (p,h) (by simp)
   ·exact h3 y hy z (by simp [hz])
def px:List an->List V
 | []=>[]
 | s::r=>.tup [.int .i64 (r.length:Int),jD s]::px r
theorem HK:∀sts:List an,(pw (dX sts.reverse)).map V.tup=px sts
 | []=>rfl
 | s::r=>by
  have ih:=HK r
  unfold pw at ih |-
  rw [mh,dX,gv,List.zipIdx_append,gv,List.reverse_append,gv]
  rw [dX] at ih
  rw [ih]
  simp [px]
theorem O5 (sts:List an) (h:sts.length<=16777216):yC [.ref (.sl (dX sts.reverse)) 0]=some (pw (dX sts.reverse)):=by
 refine if_pos ⟨by rw [qB,xU];exact h,?_⟩
 rw [cT]
 intro x hx
 obtain ⟨s,_,rfl⟩:=dF.1 hx
 rfl
theorem lx (l:IL) (up:List IL):cB (l::up)=aO aZ l 0++cB up:=rfl
theorem O2 {es R:Es} {pre post:IL} {q:Int} {x:Su} {up:List IL} {X:Es} (h:es.Perm (cB ((pre++(q,x)::post)::up)++X)):es.Perm ((q,aZ x (aG post 0))::(aO aZ pre (q+1)++aO aZ post 0++(cB up++X))):=by
 rw [lx,iO,aO] at h
 refine h.trans ?_
 simp only [bc,c8]
 exact nP
structure BC (n:Nat) (r:Int) (es:Es) (up:List IL) (d:List IL) (b:LL) (X:Es) (p to:Int) (k h:Bs) (a c:Su):Prop where
 shf:bN n es
 dn:Dn (a++(p,k)::(to,h)::c) d b
 hp:HP (a++(p,h)::c)
 lo:∀y∈a,af y.2 k
 hi:h=[]∨lt k h=true
 key:bi k=true
 pg:dk p=true
 pgt:dk to=true
 okI:∀l∈up,cd okI l 0
 rep:es.Perm (cB up++X)
 room:es.length+up.length+1<=n
theorem Dk {p q:Int} {x:Bs}:∀{es:Es},cg (aT es p x) q=if q=p then some x else cg es q
 | []=>by
  show (if q=p then some x else none)=_
  rfl
 |(a,y)::es=>by
  rw [aT]
  by_cases h:p=a
  ·subst h
   rw [if_pos rfl,cg,cg]
   by_cases e:q=p
   ·rw [if_pos e,if_pos e]
   ·rw [if_neg e,if_neg e,if_neg e]
  ·rw [if_neg h,cg,cg,Dk]
   by_cases e:q=a
   ·rw [if_pos e,if_pos e,if_neg fun e2=>h (e2.symm.trans e)]
   ·rw [if_neg e,if_neg e]
theorem Dl {p:Int} {x:Bs} {es:Es}:cg (aT es p x) p=some x:=by rw [Dk,if_pos rfl]
theorem zp {p q:Int} {x:Bs} {es:Es} (h:q≠p):cg (aT es p x) q=cg es q:=by rw [Dk,if_neg h]
theorem wE {es:Es} {p:Int} {b:Bs} (h:cg es p=some b):p∈aw es:=Classical.byContradiction fun q=>by rw [un.2 q] at h;cases h
inductive mq (n:Nat) (r:Int):Es->List an->Bs->Int->Int->Int->Es->Prop
 | top {es:Es} {k:Bs} {p to:Int} {j:Nat} (hs:bN n es) (hf:kH n (az es)=some j) (hj:j < n) (hq:(j:Int)∉aw es) (hr:bv (ag [(p,k),(to,[])] 0)=true) :
  mq n r es [] k p to j (aT (aT es j []) j (bX (ag [(p,k),(to,[])] 0)))
 | room {es:Es} {sts:List an} {k:Bs} {p to q:Int} {e:Su} {nx:Int} {i:Nat} {e':Su} (hs:bN n es) (hg:cg es q=some (bX (ag e nx))) (hr:bv (ag e nx)=true) (hk:bi k=true) (hp:lS (ag e nx) k to=(ag e' nx,0)) (hr':bv (ag e' nx)=true) :
  mq n r es ((q,e,nx,i)::sts) k p to r (aT es q (bX (ag e' nx)))
 | two {es:Es} {sts:List an} {k:Bs} {p to q:Int} {e:Su} {nx:Int} {i j:Nat} {ea eb fa fb:Su} {r':Int} {es':Es} (hs:bN n es) (hg:cg es q=some (bX (ag e nx))) (hr:bv (ag e nx)=true) (hk:bi k=true) (hp:lS (ag e nx) k to=(jr,6))
  (hf:kH n (az es)=some j) (hj:j < n) (hq:(j:Int)∉aw es) (hra:bv (ag ea ((j:Int)+1))=true) (hrb:bv (ag eb nx)=true) (rfa:bv (ag fa ((j:Int)+1))=true) (rfb:bv (ag fb nx)=true)
  (hspl:ve (ag e nx) j=(ag ea ((j:Int)+1),ag eb nx,ay fa,0)) (hcase:(lt k (ay fa)=true/\lS (ag ea ((j:Int)+1)) k to=(ag fa ((j:Int)+1),0)/\eb=fb)∨(lt k (ay fa)=false/\ea=fa/\lS (ag eb nx) k to=(ag fb nx,0))) :
  mq n r (aT (aT (aT es j []) q (bX (ag fa ((j:Int)+1)))) j (bX (ag fb nx))) sts (ay fa) q j r' es'->mq n r es ((q,e,nx,i)::sts) k p to r' es'
def Hq (n:Nat) (r:Int) (es:Es) (k:Bs) (p to:Int) (sts:List an) (r':Int) (es':Es):Prop :=
 ∃m,Go qk true 5 (fF 123) (.head 0 (vK (px sts) r n (aP es) (aF n (az es)) k p to)) (.doneM (.tup []) m)/\∀r0 n0 e0 b0,gT al (tm r0 n0 e0 b0) (.tup []) m=mQ (r',n,aP es',aF n (az es'))
def yf (up:List IL):Prop:=∀l,up.getLast? = some l->∀x∈l,2<=x.2.length
def Ft (up:List IL):Prop:=∀l∈up,∀x∈l.dropLast,15<=x.2.length
def Fk (up:List IL):Prop:=∀l∈up.dropLast,∀x∈l,6<=x.2.length
def yg (up:List IL):Prop:=∀l∈up,∀x∈l,∀y∈x.2,y.2.length<=5
def OI (n:Nat) (r:Int) (es:Es) (up:List IL) (k:Bs) (p to:Int) (sts:List an) (d:List IL) (b:LL) (X:Es) (c:Su):Prop :=
 ∃r' up' es',bN n es'/\Dn [(r',[])] (up'.reverse++d) b/\(∀l∈up',cd okI l 0)/\es'.Perm (cB up'++X)/\up'≠[]/\(yf up->yf up')/\(c=[]->yg up->k.length<=5->Ft up->Ft up')/\(Fk up->Fk up')/\mq n r es sts k p to r' es'
theorem Wq {r:Int} {q:Int} {h:Bs} {pre post:IL} {sts:List an} (hp:im r [] q h (be pre) (be post) sts):pre=[]/\post=[]:=by
 generalize hA:be pre=A at hp
 generalize hC:be post=C at hp
 cases hp
 exact ⟨G4.1 hA,G4.1 hC⟩
theorem Lg {l:IL} {n:Int} (h:cd okI l n) (h0:aJ l=[]):l=[]:=by
 cases l with
 | nil=>rfl
 | cons y t =>
  rw [aJ,ij,o6] at h0
  exact absurd h0.1 (gM h y (by simp))
theorem N6 {n:Nat} {r:Int} {es:Es} {k:Bs} {p to:Int} {sts:List an} {r':Int} {es':Es} {m:List O} (h:xt (px sts) r n (aP es) (aF n (az es)) k p to=some (.doneM (.tup []) m))
  (hc:∀r0 n0 e0 b0,gT al (tm r0 n0 e0 b0) (.tup []) m=mQ (r',n,aP es',aF n (az es'))):Hq n r es k p to sts r' es' :=
 ⟨m,MB _ _ _ _ _ _ _ _ h (.refl _),hc⟩
theorem Wc (A B U X:Es):(A++B++(U++X)).Perm (U++(A++(B++X))):=by
 rw [<-bc (A++B),<-bc A,<-bc U]
 exact List.Perm.append_right X Br
theorem Ap {es:Es} {p:Int} {b:Bs} (h:p∉aw es):(aT es p b).length=es.length+1:=by rw [sD h];simp
theorem xc {es:Es} {p:Int} {b:Bs} (h:p∈aw es):(aT es p b).length=es.length:=by
 have:=congrArg nL (ng (b:=b) h)
 simpa [aw] using this
theorem gf {es R:Es} {p:Int} {b:Bs} (h:es.Perm ((p,b)::R)):p∈aw es:=dF.2 ⟨(p,b),h.mem_iff.2 (bV ..),rfl⟩
theorem Us {k h:Bs} (hk:bi k=true) (h1:h=[]∨lt k h=true):af k h:=⟨ol hk,h1⟩
theorem AS {n:Nat} {es:Es} (h:bN n es) {p:Int} (hp:p∈aw es):dk p=true:=by
 have:=h.rng p hp
 have:=h.le
 unfold dk
 rw [decide_eq_true (by omega),decide_eq_true (by omega)];rfl
theorem Xk {p to:Int} {k:Bs} (hk:bi k=true) (hp:dk p=true) (ht:dk to=true):bv (ag [(p,k),(to,[])] 0)=true:=by
 have hkl:=gJ hk
 refine qt.2 ⟨rfl,?_,?_,rfl,?_⟩
 ·intro x hx
  have:x=p∨x=to:=by simpa using hx
  rcases this with rfl | rfl<;>assumption
 ·show dN [] [k]=true
  unfold dN
  rw [hk,pS hk];rfl
 ·refine rv.2 ⟨Int.le_refl 0,(by decide:(0:Int)<=1024),?_⟩
  show 23+bU [k]<=252
  simp only [bU];omega
theorem Zm {n:Nat} {r:Int} {up:List IL} {p:Int} {h:Bs} {a c:Su} {sts:List an} (hp:im r up p h a c sts):∀{k:Bs} {to:Int} {es:Es} {d:List IL} {b:LL} {X:Es},BC n r es up d b X p to k h a c->OI n r es up k p to sts d b X c:=by
 induction hp with
 | top =>
  intro k to es d b X f
  obtain ⟨q,hq,hf,hq2⟩:=Df f.shf (by have:=f.room;simp at this;omega)
  have hqn:((q:Int))∉aw es:=hq2
  have hs1:=u5 f.shf (b:=[]) hq hq2
  have hr:=Xk f.key f.pg f.pgt
  have hg:cg (aT es q []) q=some []:=mI hs1.nd ((sD hq2 ▸ (Br:(es++[((q:Int),[])]).Perm _):(aT es q []).Perm (((q:Int),[])::es)))
  have hpm:(aT es q []).Perm (((q:Int),[])::es):=by rw [sD hq2];exact Br
  have hpm2:=jy (b':=bX (ag [(r,k),(to,[])] 0)) hs1.nd hpm
  refine ⟨q,[[((q:Int),[(r,k),(to,[])])]],aT (aT es q []) q (bX (ag [(r,k),(to,[])] 0)),iZ hs1 (gf hpm),?_,?_,?_,?_,?_,?_,?_,?_⟩
  ·have e:Dn (aJ [((q:Int),[(r,k),(to,[])])]) d b:=f.dn
   exact Dn.inn _ _ _ e
  ·intro l hl
   have:l=[((q:Int),[(r,k),(to,[])])]:=by simpa using hl
   rw [this]
   exact ⟨⟨by simp,hr⟩,trivial⟩
  ·refine hpm2.trans ?_
   refine List.Perm.cons _ ?_
   exact f.rep
  ·simp
  ·intro _ l hl x hx
   have:l=[((q:Int),[(r,k),(to,[])])]:=by simpa using hl.symm
   subst this
   have:x=((q:Int),[(r,k),(to,[])]):=by simpa using hx
   subst this;simp
  ·intro _ _ _ _ l hl x hx
   have:l=[((q:Int),[(r,k),(to,[])])]:=by simpa using hl
   subst this
   cases hx
  ·intro _ l hl
   cases hl
  ·exact .top f.shf hf hq hq2 hr
 | @st up q e1 p h e2 pre post sts hup ih =>
  intro k to es d b X f
  obtain ⟨hne,hr⟩:okI (e1++(p,h)::e2) (aG post 0):=k6 (f.okI _ (bV ..))
  have hat:=O2 (R:=[]) f.rep
  have hqk:=gf hat
  have hgq:=mI f.shf.nd hat
  obtain ⟨ok1,_,ok2⟩:=(eW _ _ _).1 (f.okI _ (bV ..))
  have hkh:=Us f.key f.hi
  have hPn:HP (aJ pre++e1++(p,k)::(to,h)::(e2++aJ post)):=TD f.hp f.lo hkh
  have hPe:HP (e1++(p,h)::e2):=by
   have:=f.hp
   rw [bc] at this
   have:=(du.1 this).2.1
   have e:e1++(p,h)::(e2++aJ post)=(e1++(p,h)::e2)++aJ post:=by simp
   rw [e] at this
   exact (du.1 this).1
  have hin:nH e1 p h e2 (aG post 0) k to:=⟨hr,f.key,f.pgt,fun y hy=>f.lo y (by simp [hy]),f.hi,hPe⟩
  have hput:=wL hin
  by_cases hz:23+bU (ag (e1++(p,k)::(to,h)::e2) (aG post 0)).seps<=252
  ·-- it has room
   rw [if_pos hz] at hput
   have hr2:=zA hin hz
   have hsh:=iZ f.shf (b:=bX (ag (e1++(p,k)::(to,h)::e2) (aG post 0))) hqk
   have hpm:=jy (b':=bX (ag (e1++(p,k)::(to,h)::e2) (aG post 0))) f.shf.nd hat
   refine ⟨r,(pre++(q,e1++(p,k)::(to,h)::e2)::post)::up,_,hsh,?_,?_,?_,?_,?_,?_,?_,?_⟩
   ·have e:aJ pre++e1++(p,k)::(to,h)::(e2++aJ post)=aJ (pre++(q,e1++(p,k)::(to,h)::e2)::post):=by simp [aJ]
    have hd:=f.dn
    rw [e] at hd
    have:=Dn.inn _ _ _ hd
    have e':be (pre++(q,e1++(p,k)::(to,h)::e2)::post)=be pre++(q,ay (e1++(p,h)::e2))::be post:=by simp [be,Dx]
    rw [e'] at this
    have:=EK hup this
    rwa [mh,bc]
   ·intro l hl
    rcases bw.1 hl with rfl | hl
    ·exact (eW _ _ _).2 ⟨ok1,⟨by simp,hr2⟩,ok2⟩
    ·exact f.okI l (by simp [hl])
   ·refine hpm.trans ?_
    rw [lx,iO,aO]
    simp only [bc,c8]
    exact List.perm_middle.symm
   ·simp
   ·intro h2 l hl x hx
    cases up with
    | nil =>
     have:l=pre++(q,e1++(p,k)::(to,h)::e2)::post:=by simpa using hl.symm
     subst this
     have h2:=h2 _ rfl
     rcases aV.1 hx with hx | hx
     ·exact h2 x (by simp [hx])
     ·rcases bw.1 hx with rfl | hx
      ·simp;omega
      ·exact h2 x (by simp [hx])
    | cons y up=>exact h2 l (by simpa using hl) x hx
   ·intro hc _ _ hF l hl x hx
    have h0:=Lg ok2 (o6.1 hc).2
    subst h0
    rcases bw.1 hl with rfl | hl
    ·rw [s8] at hx
     exact hF _ (bV ..) x (by rw [s8];exact hx)
    ·exact hF l (by simp [hl]) x hx
   ·intro hF l hl x hx
    cases up with
    | nil=>cases hl
    | cons y up =>
     rw [md (by simp)] at hl
     rcases bw.1 hl with rfl | hl
     ·have h0:=hF (pre++(q,e1++(p,h)::e2)::post) (by rw [md (by simp)];exact bV ..)
      rcases aV.1 hx with hx | hx
      ·exact h0 x (by simp [hx])
      ·rcases bw.1 hx with rfl | hx
       ·have:=h0 (q,e1++(p,h)::e2) (by simp)
        simp at this |-;omega
       ·exact h0 x (by simp [hx])
     ·exact hF l (by rw [md (by simp)];exact jH _ hl) x hx
   ·exact .room f.shf hgq hr f.key hput hr2
  ·-- it is two
   rw [if_neg hz] at hput
   obtain ⟨j,hj,hjf,hj2⟩:=Df f.shf (by have:=f.room;simp at this;omega)
   have hs1:=u5 f.shf (b:=[]) hj hj2
   have hjr:=AS hs1 (p:=(j:Int)) (by rw [pT hj2];simp)
   obtain ⟨fa,fb,t⟩:=T1 hin hz hjr
   obtain ⟨ea,eb,hra,hrb,hspl,hcase⟩:=t.run
   have hqj:(q:Int)≠(j:Int):=fun e=>hj2 (e ▸ hqk)
   have hp1:(aT es j []).Perm ((q,aZ (e1++(p,h)::e2) (aG post 0))::(((j:Int),[])::(aO aZ pre (q+1)++aO aZ post 0++(cB up++X)))):=by
    rw [sD hj2]
    exact List.perm_append_comm.trans ((List.Perm.cons _ hat).trans (List.Perm.swap ..))
   have hg1:=mI hs1.nd hp1
   have hp2:=jy (b':=bX (ag fa ((j:Int)+1))) hs1.nd hp1
   have hs2:=iZ hs1 (b:=bX (ag fa ((j:Int)+1))) (gf hp1)
   have hp2':=hp2.trans (List.Perm.swap ..)
   have hg2:=mI hs2.nd hp2'
   have hp3:=jy (b':=bX (ag fb (aG post 0))) hs2.nd hp2'
   have hs3:=iZ hs2 (b:=bX (ag fb (aG post 0))) (gf hp2')
   have hlen3:(aT (aT (aT es j []) q (bX (ag fa ((j:Int)+1)))) j (bX (ag fb (aG post 0)))).length=es.length+1:=by
    rw [xc (gf hp2'),xc (gf hp1),Ap hj2]
   have hfe:ay fb=ay (e1++(p,h)::e2):=by
    rw [<-Dx e1 p h e2 k to,t.cut,fD _ t.nb]
   have ek:aJ pre++e1++(p,k)::(to,h)::(e2++aJ post)=aJ (pre++(q,fa)::(j,fb)::post):=by
    have e0:aJ (pre++(q,fa)::(j,fb)::post)=aJ pre++((fa++fb)++aJ post):=by simp [aJ]
    rw [e0,<-t.cut];simp
   have es1:be (pre++(q,fa)::((j:Int),fb)::post)=be pre++(q,ay fa)::((j:Int),ay (e1++(p,h)::e2))::be post:=by simp [be,hfe]
   have hd:=f.dn
   rw [ek] at hd hPn
   have hd:=Dn.inn _ _ _ hd
   rw [es1] at hd
   have hokl:cd okI (pre++(q,fa)::((j:Int),fb)::post) 0:=(eW _ _ _).2 ⟨ok1,⟨t.na,t.ra⟩,⟨t.nb,t.rb⟩,ok2⟩
   have hPs:=zw (gM hokl) hPn
   rw [es1] at hPs
   have hPo:HP (be pre++(q,ay (e1++(p,h)::e2))::be post):=by
    have e0:aJ pre++e1++(p,h)::(e2++aJ post)=aJ (pre++(q,e1++(p,h)::e2)::post):=by simp [aJ]
    have h0:=f.hp
    rw [e0] at h0
    have:=zw (gM (f.okI _ (bV ..))) h0
    have e':be (pre++(q,e1++(p,h)::e2)::post)=be pre++(q,ay (e1++(p,h)::e2))::be post:=by simp [be]
    rwa [e'] at this
   have hlo:∀y∈be pre,af y.2 (ay fa):=fun y hy=>(du.1 hPs).2.2 y hy (q,ay fa) (by simp)
   have hhi:af (ay fa) (ay (e1++(p,h)::e2)):=(fP.1 (du.1 hPs).2.1).1 ((j:Int),ay (e1++(p,h)::e2)) (by simp)
   have hf2:BC n r (aT (aT (aT es j []) q (bX (ag fa ((j:Int)+1)))) j (bX (ag fb (aG post 0)))) up ((pre++(q,fa)::((j:Int),fb)::post)::d) b (aO aZ (pre++(q,fa)::((j:Int),fb)::post) 0++X) q j (ay fa) (ay (e1++(p,h)::e2)) (be pre) (be post):=by
    refine ⟨hs3,hd,hPo,hlo,hhi.2,t.mid,AS f.shf hqk,hjr,fun l hl=>f.okI l (by simp [hl]),?_,by have:=f.room;rw [hlen3];simp at this |-;omega⟩
    refine hp3.trans ?_
    rw [iO,aO,aO]
    refine ((List.Perm.swap ..).trans ?_)
    have h1:(cB up++(aO aZ pre (q+1)++(q,aZ fa ((j:Int)+1))::((j:Int),aZ fb (aG post 0))::aO aZ post 0++X)).Perm ((q,aZ fa ((j:Int)+1))::((j:Int),aZ fb (aG post 0))::(cB up++(aO aZ pre (q+1)++(aO aZ post 0++X)))):=by
     have e0:cB up++(aO aZ pre (q+1)++(q,aZ fa ((j:Int)+1))::((j:Int),aZ fb (aG post 0))::aO aZ post 0++X)=(cB up++aO aZ pre (q+1))++(q,aZ fa ((j:Int)+1))::((j:Int),aZ fb (aG post 0))::(aO aZ post 0++X):=by simp
     rw [e0]
     refine List.perm_middle.trans (List.Perm.cons _ (List.perm_middle.trans (List.Perm.cons _ ?_)))
     rw [bc]
    refine List.Perm.trans ?_ h1.symm
    refine List.Perm.cons _ (List.Perm.cons _ ?_)
    exact Wc _ _ _ _
   obtain ⟨r',up',es',g1,g2,g3,g4,g5,g6,g8,g9,g7⟩:=ih hf2
   refine ⟨r',(pre++(q,fa)::((j:Int),fb)::post)::up',es',g1,?_,?_,?_,?_,?_,?_,?_,?_⟩
   ·rw [mh,bc];exact g2
   ·intro l hl
    rcases bw.1 hl with rfl | hl
    ·exact hokl
    ·exact g3 l hl
   ·refine g4.trans ?_
    rw [lx,<-bc]
    exact List.Perm.append_right X Br
   ·simp
   ·intro h2 l hl x hx
    obtain ⟨z,up2,rfl⟩:=me g5
    refine g6 ?_ l (by simpa using hl) x hx
    cases up with
    | nil=>intro l hl;cases hl
    | cons y up=>intro l hl;exact h2 l (by simpa using hl)
   ·intro hc hs hk5 hF l hl x hx
    have h0:=Lg ok2 (o6.1 hc).2
    have hse:∀y∈e1++(p,h)::e2,y.2.length<=5:=hs _ (bV ..) (q,e1++(p,h)::e2) (by simp)
    have hbg:=t.big hse hk5
    have hk5':(ay fa).length<=5:=by
     obtain ⟨z,hz,e⟩:=zt t.na
     rw [e]
     have:z∈e1++(p,k)::(to,h)::e2:=by rw [t.cut];exact jG _ hz
     rcases aV.1 this with h1 | h1
     ·exact hse z (by simp [h1])
     ·rcases bw.1 h1 with rfl | h1
      ·exact hk5
      ·rcases bw.1 h1 with rfl | h1
       ·exact hse (p,h) (by simp)
       ·exact hse z (by simp [h1])
    have hup3:=g8 (by rw [h0];rfl) (fun l hl=>hs l (by simp [hl])) hk5' (fun l hl=>hF l (by simp [hl]))
    subst h0
    rcases bw.1 hl with rfl | hl
    ·rw [show pre++[(q,fa),((j:Int),fb)]=(pre++[(q,fa)])++[((j:Int),fb)] by simp,s8] at hx
     rcases aV.1 hx with hx | hx
     ·exact hF _ (bV ..) x (by rw [s8];exact hx)
     ·rw [ew.1 hx];exact hbg
    ·exact hup3 l hl x hx
   ·intro hF l hl x hx
    obtain ⟨z,up2,rfl⟩:=me g5
    have hup2:=g9 (fun l hl=>hF l (by
     cases up with
     | nil=>cases hl
     | cons y up=>rw [md (by simp)];exact jH _ hl))
    rw [md (by simp)] at hl
    rcases bw.1 hl with rfl | hl
    ·have h0:∀y,y∈pre∨y∈post->6<=y.2.length:=by
      intro y hy
      cases up with
      | nil =>
       have hd0:=Wq hup
       rcases hy with hy | hy
       ·rw [hd0.1] at hy;cases hy
       ·rw [hd0.2] at hy;cases hy
      | cons w up =>
       exact hF (pre++(q,e1++(p,h)::e2)::post) (by rw [md (by simp)];exact bV ..) y (by rcases hy with hy | hy<;>simp [hy])
     rcases aV.1 hx with hx | hx
     ·exact h0 x (.inl hx)
     ·rcases bw.1 hx with rfl | hx
      ·exact t.six.1
      ·rcases bw.1 hx with rfl | hx
       ·exact t.six.2
       ·exact h0 x (.inr hx)
    ·exact hup2 l hl x hx
   ·exact .two f.shf hgq hr f.key hput hjf hj hj2 hra hrb t.ra t.rb hspl hcase g7
theorem Zn {n:Nat} {r:Int} {es:Es} {k:Bs} {p to:Int} {sts:List an} {r':Int} {es':Es} (h:mq n r es sts k p to r' es'):Hq n r es k p to sts r' es':=by
 induction h with
 | @top es k p to j hs hf hj hq hr =>
  have hs1:=u5 hs (b:=[]) hj hq
  apply N6
  case h =>
   unfold xt
   rw [show px []=[] from rfl,WY,bY uG (A3 hs hf hq)]
   show (aI aa _ _ _ [_,_,.ifc 150 (eI (ag [(p,k),(to,[])] 0))] (tM j n (aT es j [])) _)=_
   rw [bY gL (qG hs1 Dl hr)]
   try exact rfl
  case hc=>intro r0 n0 e0 b0;kernel_rfl
 | @room es sts k p to q e nx i e' hs hg hr hk hp hr' =>
  have hpc:=Am (ag e nx) k to (lU hr) (by have:=(gJ hk).2;omega)
  have hst:jD (q,e,nx,i) = .agg [.int .i64 q,.sl (aE (ag e nx).seps),.sl (ae (ag e nx).kids),.str (ay e),.int .i64 nx,.int .i64 (i:Int)]:=rfl
  apply N6
  case h =>
   unfold xt
   simp only [px,uT,lH,lY,bH,l6,hst,lq]
   show (ai aa _ [eI (ag e nx),_,_] _)=_
   rw [au hpc,hp,tT,dx rfl,cond_true]
   show (aI aa _ _ _ [_,_,.ifc 150 (eI (ag e' nx))] (tM r n es) _)=_
   rw [bY gL (qG hs hg hr')]
   try exact rfl
  case hc=>intro r0 n0 e0 b0;kernel_rfl
 | @two es sts k p to q e nx i j ea eb fa fb r' es' hs hg hr hk hp hf hj hq hra hrb rfa rfb hspl hcase _ ih =>
  obtain ⟨m,g5,g6⟩:=ih
  have hpc:=Am (ag e nx) k to (lU hr) (by have:=(gJ hk).2;omega)
  have hst:jD (q,e,nx,i) = .agg [.int .i64 q,.sl (aE (ag e nx).seps),.sl (ae (ag e nx).kids),.str (ay e),.int .i64 nx,.int .i64 (i:Int)]:=rfl
  have hsc:=Yw (ag e nx) j (lU hr)
  rw [hspl] at hsc
  have hs1:=u5 hs (b:=[]) hj hq
  have hqj:q≠(j:Int):=fun e=>hq (e ▸ wE hg)
  have hg1:cg (aT es j []) q=some _:=(zp hqj).trans hg
  have hs2:=iZ hs1 (b:=bX (ag fa ((j:Int)+1))) (wE hg1)
  have hg2:cg (aT (aT es j []) q (bX (ag fa ((j:Int)+1)))) j=some []:=(zp hqj.symm).trans Dl
  refine ⟨m,MB _ _ _ _ _ _ _ _ ?_ g5,g6⟩
  unfold xt
  simp only [px,uT,lH,lY,bH,l6,hst,lq]
  show (ai aa _ [eI (ag e nx),_,_] _)=_
  rw [au hpc,hp,tT,dJ (by decide),cond_false,bY uG (A3 hs hf hq)]
  show (ai aa _ [eI (ag e nx),_] _)=_
  rw [au hsc,Qa]
  rcases hcase with ⟨hl,hpa,rfl⟩ | ⟨hl,rfl,hpb⟩
  ·have hpc2:=Am (ag ea ((j:Int)+1)) k to (lU hra) (by have:=(gJ hk).2;omega)
   rw [hpa] at hpc2
   have hl':Op.bytesLess k (ay fa)=true:=hl
   rw [hl',cond_true]
   show (ai aa _ [eI (ag ea ((j:Int)+1)),_,_] _)=_
   rw [au hpc2,tT]
   show (aI aa _ _ _ [_,_,.ifc 150 (eI (ag fa ((j:Int)+1)))] (tM r n (aT es j [])) _)=_
   rw [bY gL (qG hs1 hg1 rfa)]
   show (aI aa _ _ _ [_,_,.ifc 150 (eI (ag eb nx))] (tM r n (aT (aT es j []) q (bX (ag fa ((j:Int)+1))))) _)=_
   rw [bY gL (qG hs2 hg2 rfb)]
  ·have hpc2:=Am (ag eb nx) k to (lU hrb) (by have:=(gJ hk).2;omega)
   rw [hpb] at hpc2
   have hl':Op.bytesLess k (ay ea)=false:=hl
   rw [hl',cond_false]
   show (ai aa _ [eI (ag eb nx),_,_] _)=_
   rw [au hpc2,tT]
   show (aI aa _ _ _ [_,_,.ifc 150 (eI (ag ea ((j:Int)+1)))] (tM r n (aT es j [])) _)=_
   rw [bY gL (qG hs1 hg1 rfa)]
   show (aI aa _ _ _ [_,_,.ifc 150 (eI (ag fb nx))] (tM r n (aT (aT es j []) q (bX (ag ea ((j:Int)+1))))) _)=_
   rw [bY gL (qG hs2 hg2 rfb)]
structure ja (prs:List Pr) (h:Bs):Prop where
 ri:prs.Pairwise fun x y=>lt x.1 y.1=true
 mem:∀x∈prs,bi x.1=true/\dE x.2=true
 hi:h=[]∨(bi h=true/\∀x∈prs,lt x.1 h=true)
 wt:aC prs<=231
theorem uW {l:List Pr}:iK (aD l)↔l.Pairwise fun x y=>lt x.1 y.1=true:=G6
theorem Mc:∀{l:List Pr} {p:Bs},(l.Pairwise fun x y=>lt x.1 y.1=true)->(∀x∈l,bi x.1=true/\dE x.2=true)->(∀x∈l,lt p x.1=true)->jA p l=true
 | [],_,_,_,_=>rfl
 | x::l,p,h1,h2,h3=>by
  obtain ⟨h4,h5⟩:=fP.1 h1
  have ih:=Mc (p:=x.1) h5 (fun y hy=>h2 y (by simp [hy])) h4
  obtain ⟨q1,q2⟩:=h2 x (by simp)
  unfold jA
  rw [q1,q2,h3 x (by simp),ih];rfl
theorem Uz {l:List Pr} {h:Bs} (hk:bi h=true) (ha:∀x∈l,lt x.1 h=true):lt (kU [] l) h=true:=by
 rcases dQ l with rfl | ⟨a,x,rfl⟩
 ·exact pS hk
 ·have:kU [] (a.concat x)=x.1:=by simp [kU]
  rw [this];exact ha x (by simp)
theorem oO {prs:List Pr} {h:Bs} {nx:Int} (o:ja prs h) (h0:0<=nx) (h1:nx<=1024):bZ ⟨prs,h,nx⟩=true:=by
 refine qp.2 ⟨Mc o.ri o.mem fun x hx=>pS (o.mem x hx).1,?_,h0,h1,o.wt⟩
 unfold d8
 rcases o.hi with h | ⟨hk,ha⟩
 ·simp only [h];rfl
 ·simp only [hk,Uz hk ha];simp
theorem ot {prs:List Pr} {h:Bs} {nx:Int} (o:bZ ⟨prs,h,nx⟩=true):ja prs h/\0<=nx/\nx<=1024:=by
 have g:=pM o
 obtain ⟨h1,h2,h3,h4,h5⟩:=qp.1 o
 have hr:=uW.1 g.ri
 refine ⟨⟨hr,g.mem,?_,h5⟩,h3,h4⟩
 simp only [d8,l9,bd] at h2
 rcases h2 with h2 | ⟨h2,h6⟩
 ·exact .inl (by simpa using h2)
 ·refine .inr ⟨h2,fun x hx=>?_⟩
  rcases dQ prs with rfl | ⟨a,y,rfl⟩
  ·cases hx
  ·have e:kU [] (a.concat y)=y.1:=by simp [kU]
   rw [e] at h6
   rw [gq] at hx hr
   rcases aV.1 hx with hx | hx
   ·exact lt_trans ((du.1 hr).2.2 x hx y (by simp)) h6
   ·have:x=y:=by simpa using hx
    rw [this];exact h6
theorem A4 {l:List Pr} (hr:iK (aD l)) (k:Bs):∀x∈l.take (bp (aD l) k),lt x.1 k=true:=by
 intro x hx
 obtain ⟨i,hi⟩:=vz hx
 rw [gt] at hi
 split at hi
 ·exact (zK hr k (rL hi)).2 ‹_›
 ·cases hi
theorem yZ {l:List Pr} (hr:iK (aD l)) (k:Bs):∀x∈l.drop (if bQ (aD l) k then bp (aD l) k+1 else bp (aD l) k),lt k x.1=true:=by
 intro x hx
 obtain ⟨i,hi⟩:=vz hx
 rw [fN] at hi
 have hp:=uW.1 hr
 have hat:∀{a b:Nat} {y z:Pr},l[a]? = some y->l[b]? = some z->a < b->lt y.1 z.1=true:=by
  intro a b y z ha hb hab
  obtain ⟨h1,rfl⟩:=aS.1 ha
  obtain ⟨h2,rfl⟩:=aS.1 hb
  exact Bq.1 hp a b h1 h2 hab
 cases hh:bQ (aD l) k with
 | true =>
  rw [hh,if_pos rfl] at hi
  obtain ⟨h2,h3⟩:=re hh
  have h2':bp (aD l) k < l.length:=by rwa [oo] at h2
  have h4:l[bp (aD l) k]? = some l[bp (aD l) k]:=bj h2'
  have h5:=hat h4 hi (by omega)
  have h6:l[bp (aD l) k].1=k:=by
   have:=rL h4
   rw [bj h2] at this
   rw [h3] at this
   exact (Option.some.inj this).symm
  rwa [h6] at h5
 | false =>
  rw [hh] at hi
  have hi:l[bp (aD l) k+i]? = some x:=hi
  have af:bp (aD l) k < l.length:=by
   have:=(aS.1 hi).1
   omega
  have h4:l[bp (aD l) k]? = some l[bp (aD l) k]:=bj af
  have h5:lt l[bp (aD l) k].1 k=false:=by
   cases hq:lt l[bp (aD l) k].1 k with
   | false=>rfl
   | true=>have:=(zK hr k (rL h4)).1 hq;omega
  have h6:l[bp (aD l) k].1≠k:=by
   intro e
   unfold bQ at hh
   rw [rL h4] at hh
   simp [e] at hh
  have h7:=mO h5 h6
  rcases xZ i with rfl | hpos
  ·rw [dv,h4] at hi
   rw [<-Option.some.inj hi];exact h7
  ·exact lt_trans h7 (hat h4 hi (by omega))
theorem EQ {prs:List Pr} {h k v:Bs} (o:ja prs h) (hk:bi k=true) (hv:dE v=true) (hh:h=[]∨lt k h=true) (hw:aC (bR prs k v)<=231):ja (bR prs k v) h:=by
 have hr:=uW.2 o.ri
 refine ⟨?_,fun x hx=>?_,?_,hw⟩
 ·unfold bR
  have h1:=A4 hr k
  have h2:=yZ hr k
  refine du.2 ⟨du.2 ⟨o.ri.sublist (List.take_sublist ..),by simp,?_⟩,o.ri.sublist (List.drop_sublist ..),?_⟩
  ·intro x hx y hy
   have:y=(k,v):=by simpa using hy
   rw [this];exact h1 x hx
  ·intro x hx y hy
   rcases aV.1 hx with hx | hx
   ·exact lt_trans (h1 x hx) (h2 y hy)
   ·have:x=(k,v):=by simpa using hx
    rw [this];exact h2 y hy
 ·rcases qn hx with rfl | hx
  ·exact ⟨hk,hv⟩
  ·exact o.mem x hx
 ·rcases o.hi with h' | ⟨h1,h2⟩
  ·exact .inl h'
  ·refine .inr ⟨h1,fun x hx=>?_⟩
   rcases qn hx with rfl | hx
   ·exact hh.resolve_left (ol h1)
   ·exact h2 x hx
theorem Tx {prs:List Pr} {h:Bs} (o:ja prs h) (m:Nat) {x:Pr} (hx:prs[m]? = some x) (h0:0 < m):ja (prs.take m) x.1/\ja (prs.drop m) h/\af x.1 h/\bi x.1=true/\(∀y∈prs.drop m,lt y.1 x.1=false)/\∃y∈prs,lt y.1 x.1=true:=by
 obtain ⟨hm,e⟩:=aS.1 hx
 have hd:prs.drop m=x::prs.drop (m+1):=by rw [<-e];exact qM hm
 have hri:=o.ri
 rw [<-gP m prs] at hri
 obtain ⟨r1,r2,r3⟩:=du.1 hri
 have hxm:x∈prs:=cf hx
 have hw:=vr prs m
 have ow:=o.wt
 have hkx:=(o.mem x hxm).1
 refine ⟨⟨r1,fun y hy=>o.mem y (mg hy),.inr ⟨hkx,fun y hy=>r3 y hy x (by rw [hd];simp)⟩,by omega⟩,⟨r2,fun y hy=>o.mem y (kg hy),?_,by omega⟩,⟨ol hkx,?_⟩,hkx,?_,?_⟩
 ·rcases o.hi with h' | ⟨h1,h2⟩
  ·exact .inl h'
  ·exact .inr ⟨h1,fun y hy=>h2 y (kg hy)⟩
 ·rcases o.hi with h' | ⟨h1,h2⟩
  ·exact .inl h'
  ·exact .inr (h2 x hxm)
 ·intro y hy
  rw [hd] at hy r2
  rcases bw.1 hy with rfl | hy
  ·exact gC _
  ·exact lK ((fP.1 r2).1 y hy)
 ·have h00:0 < prs.length:=by omega
  refine ⟨prs[0],vA h00,?_⟩
  rw [<-e]
  exact Bq.1 o.ri 0 m h00 hm h0
theorem sw {pre post:LL} {p:Int} {prs:List Pr} {h:Bs} (ho:iJ (pre++(p,prs,h)::post)) :
  iJ pre/\iJ post/\(∀y∈pre,af y.2.2 h/\∀x∈prs,lt x.1 y.2.2=false)/\(∀z∈post,af h z.2.2/\∀x∈z.2.1,lt x.1 h=false)/\(∀y∈pre,∀z∈post,af y.2.2 z.2.2/\∀x∈z.2.1,lt x.1 y.2.2=false):=by
 obtain ⟨h1,h2,h3⟩:=du.1 ho
 obtain ⟨h4,h5⟩:=fP.1 h2
 exact ⟨h1,h5,fun y hy=>h3 y hy (p,prs,h) (by simp),fun z hz=>h4 z hz,fun y hy z hz=>h3 y hy z (by simp [hz])⟩
theorem Lz {pre post:LL} {p:Int} {prs prs':List Pr} {h:Bs} (ho:iJ (pre++(p,prs,h)::post)) (hn:∀y∈pre,∀x∈prs',lt x.1 y.2.2=false):iJ (pre++(p,prs',h)::post):=by
 obtain ⟨h1,h2,h3,h4,h5⟩:=sw ho
 refine du.2 ⟨h1,fP.2 ⟨h4,h2⟩,?_⟩
 intro y hy z hz
 rcases bw.1 hz with rfl | hz
 ·exact ⟨(h3 y hy).1,hn y hy⟩
 ·exact h5 y hy z hz
theorem VW {pre post:LL} {p j:Int} {prs A B:List Pr} {h s:Bs} (ho:iJ (pre++(p,prs,h)::post)) (hA:∀y∈pre,∀x∈A,lt x.1 y.2.2=false) (hB:∀y∈pre,∀x∈B,lt x.1 y.2.2=false)
  (hs:∀y∈pre,af y.2.2 s) (hsh:af s h) (hsB:∀x∈B,lt x.1 s=false):iJ (pre++(p,A,s)::(j,B,h)::post):=by
 obtain ⟨h1,h2,h3,h4,h5⟩:=sw ho
 refine du.2 ⟨h1,fP.2 ⟨?_,fP.2 ⟨h4,h2⟩⟩,?_⟩
 ·intro z hz
  rcases bw.1 hz with rfl | hz
  ·exact ⟨hsh,hsB⟩
  ·obtain ⟨q1,q2⟩:=h4 z hz
   refine ⟨Dz hsh q1,fun x hx=>Kx (q2 x hx) (hsh.2.resolve_left q1.1)⟩
 ·intro y hy z hz
  rcases bw.1 hz with rfl | hz
  ·exact ⟨hs y hy,hA y hy⟩
  ·rcases bw.1 hz with rfl | hz
   ·exact ⟨(h3 y hy).1,hB y hy⟩
   ·exact h5 y hy z hz
def bf (b:LL):List Pr:=b.flatMap fun x=>x.2.1
theorem Zl {n:Nat} {r:Int} {es:Es} {p to:Int} {k:Bs} {sts:List an} {r':Int} {es':Es} (hl:sts.length<=10000) (h:mq n r es sts k p to r' es') :
  bB aa al 123 [.ptr 0 0 0,.sl (dX sts.reverse),.str k,.int .i64 p,.int .i64 to] (tM r n es)=some (mQ (r',n,aP es',aF n (az es'))):=by
 obtain ⟨m,g5,g6⟩:=Zn h
 refine QN _ _ _ _ _ _ _ _ ?_ ⟨_,_,g5,g6 _ _ _ _⟩
 unfold ID
 rw [O5 sts (by omega),hJ,HK]
theorem wj {up:List IL}:(cB up.reverse).Perm (cB up):=by
 induction up with
 | nil=>exact .refl _
 | cons l up ih =>
  rw [mh,cB,List.flatMap_append]
  refine List.perm_append_comm.trans ?_
  have e:List.flatMap (fun l=>aO aZ l 0) [l]=aO aZ l 0:=by simp
  rw [e]
  exact List.Perm.append_left _ ih
theorem zL {es U:Es} {pre post:LL} {p:Int} {x:nI} (h:es.Perm (U++aO cj (pre++(p,x)::post) 0)):es.Perm ((p,cj x (aG post 0))::(aO cj pre (p+1)++aO cj post 0++U)):=by
 rw [iO,aO] at h
 refine h.trans (List.perm_append_comm.trans ?_)
 simp only [bc,c8]
 exact nP
theorem Ky {U:Es} {pre post:LL} {p:Int} {x:nI}:((p,cj x (aG post 0))::(aO cj pre (p+1)++aO cj post 0++U)).Perm (U++aO cj (pre++(p,x)::post) 0):=(zL (.refl _)).symm
theorem B9:∀{d:List IL} {s:Su} {b b':LL},bE b'=bE b->Dn s d b->Dn s d b'
 | [],s,b,b',e,h=>by rw [ix h,<-e];exact .leaf _
 | l::d,s,b,b',e,h=>by
  obtain ⟨e1,h⟩:=fS h
  rw [e1]
  exact .inn _ _ _ (B9 e h)
theorem kK (a b:LL):bf (a++b)=bf a++bf b:=by simp [bf]
theorem gA (p:Int) (prs:List Pr) (h:Bs) (b:LL):bf ((p,prs,h)::b)=prs++bf b:=by simp [bf]
theorem UF {z a s:Bs} (h1:lt z a=false) (h2:lt z s=true):lt a s=true:=by
 by_cases e:z=a
 ·rw [<-e];exact h2
 ·exact lt_trans (mO h1 e) h2
structure WF (n:Nat) (r:Int) (es:Es) (ups:List IL) (b:LL):Prop extends WT n r es ups b where
 ne:ups≠[]->∀x∈b,x.2.1≠[]
 rt:yf ups.reverse
theorem UG {r:Int} {b:LL} {pre post:LL} {x:Int × nI} (h:Dn [(r,[])] [] b) (hb:b=pre++x::post):pre=[]/\post=[]:=by
 have:=congrArg nL (ix h)
 rw [hb] at this
 simp [bE] at this
 exact ⟨o8 (by omega),o8 (by omega)⟩
theorem wU {n:Nat} {r:Int} {es:Es} {ups:List IL} {b:LL} (h:WF n r es ups b) {pre post:LL} {x:Int × nI} (hb:b=pre++x::post):∀y,y∈pre∨y∈post->y.2.1≠[]:=by
 intro y hy
 by_cases hu:ups=[]
 ·have hd:=h.dn
  rw [hu] at hd
  obtain ⟨rfl,rfl⟩:=UG hd hb
  rcases hy with hy | hy<;>cases hy
 ·exact h.ne hu y (by rw [hb];rcases hy with hy | hy<;>simp [hy])
theorem NZ {n:Nat} {r:Int} {es:Es} {ups:List IL} {b:LL} (h:WF n r es ups b) {p:Int} {h':Bs} {sts:List an} {pre post:LL} {prs:List Pr} (hp:im r ups.reverse p h' (bE pre) (bE post) sts) (hb:b=pre++(p,prs,h')::post)
  {A B:List Pr} {s:Bs} {j:Nat} (hj:j < n) (hj2:(j:Int)∉aw es) (oA:ja A s) (oB:ja B h') (hA0:A≠[]) (hB0:B≠[]) (hsh:af s h') (hks:bi s=true) (hlo:∀y∈pre,af y.2.2 s) (hA:∀y∈pre,∀x∈A,lt x.1 y.2.2=false) (hB:∀y∈pre,∀x∈B,lt x.1 y.2.2=false) (hsB:∀x∈B,lt x.1 s=false)
  (hroom:es.length+ups.length+2<=n) :
  ∃r' es' ups',WF n r' es' ups' (pre++(p,A,s)::((j:Int),B,h')::post)/\mq n r (aT (aT (aT es j []) p (bh ⟨A,s,(j:Int)+1⟩)) j (bh ⟨B,h',aG post 0⟩)) sts s p j r' es'/\(post=[]->yg ups->s.length<=5->Ft ups->Ft ups')/\(Fk ups.reverse->Fk ups'.reverse):=by
 have hne:=wU h hb
 subst hb
 have hn:=h.shf.le
 have hul:=nB h.toWT
 have hat:=zL h.rep
 have hpk:=gf hat
 obtain ⟨ok1,ok3,ok2⟩:=(eW _ _ _).1 h.okF
 obtain ⟨o,hx0,hx1⟩:=ot (show bZ ⟨prs,h',aG post 0⟩=true from ok3)
 have hrA:=oO oA (nx:=(j:Int)+1) (by omega) (by omega)
 have hrB:=oO oB hx0 hx1
 have hs1:=u5 h.shf (b:=[]) hj hj2
 have hp1:(aT es j []).Perm ((p,cj (prs,h') (aG post 0))::(((j:Int),[])::(aO cj pre (p+1)++aO cj post 0++cB ups))):=by
  rw [sD hj2]
  exact List.perm_append_comm.trans ((List.Perm.cons _ hat).trans (List.Perm.swap ..))
 have hg1:=mI hs1.nd hp1
 have hp2:=jy (b':=bh ⟨A,s,(j:Int)+1⟩) hs1.nd hp1
 have hs2:=iZ hs1 (b:=bh ⟨A,s,(j:Int)+1⟩) (gf hp1)
 have hp2':=hp2.trans (List.Perm.swap ..)
 have hg2:=mI hs2.nd hp2'
 have hp3:=jy (b':=bh ⟨B,h',aG post 0⟩) hs2.nd hp2'
 have hs3:=iZ hs2 (b:=bh ⟨B,h',aG post 0⟩) (gf hp2')
 have hlen3:(aT (aT (aT es j []) p (bh ⟨A,s,(j:Int)+1⟩)) j (bh ⟨B,h',aG post 0⟩)).length=es.length+1:=by
  rw [xc (gf hp2'),xc (gf hp1),Ap hj2]
 have eS:bE (pre++(p,A,s)::((j:Int),B,h')::post)=bE pre++(p,s)::((j:Int),h')::bE post:=by simp [bE]
 have eS0:bE (pre++(p,prs,h')::post)=bE pre++(p,h')::bE post:=by simp [bE]
 have hd:Dn (bE pre++(p,s)::((j:Int),h')::bE post) [] (pre++(p,A,s)::((j:Int),B,h')::post):=by
  rw [<-eS];exact .leaf _
 have hP:=Af h.ord
 rw [eS0] at hP
 have hf:BC n r (aT (aT (aT es j []) p (bh ⟨A,s,(j:Int)+1⟩)) j (bh ⟨B,h',aG post 0⟩)) ups.reverse [] (pre++(p,A,s)::((j:Int),B,h')::post) (aO cj (pre++(p,A,s)::((j:Int),B,h')::post) 0) p j s h' (bE pre) (bE post):=by
  refine ⟨hs3,hd,hP,fun y hy=>?_,hsh.2,hks,AS h.shf hpk,AS hs1 (by rw [pT hj2];simp),fun l hl=>h.okI l (by simpa using hl),?_,by rw [hlen3,xU];omega⟩
  ·obtain ⟨z,hz,rfl⟩:=dF.1 hy
   exact hlo z hz
  ·refine hp3.trans ?_
   rw [iO,aO,aO]
   refine ((List.Perm.swap ..).trans ?_)
   have h1:(cB ups.reverse++(aO cj pre (p+1)++(p,cj (A,s) ((j:Int)+1))::((j:Int),cj (B,h') (aG post 0))::aO cj post 0)).Perm ((p,cj (A,s) ((j:Int)+1))::((j:Int),cj (B,h') (aG post 0))::(cB ups.reverse++(aO cj pre (p+1)++aO cj post 0))):=by
    rw [<-bc]
    refine List.perm_middle.trans (List.Perm.cons _ (List.perm_middle.trans (List.Perm.cons _ ?_)))
    rw [bc]
   refine List.Perm.trans ?_ h1.symm
   refine List.Perm.cons _ (List.Perm.cons _ ?_)
   exact List.perm_append_comm.trans (List.Perm.append_right _ wj.symm)
 obtain ⟨r',up',es',g1,g2,g3,g4,g5,g6,g8,g9,g7⟩:=Zm hp hf
 refine ⟨r',es',up'.reverse,⟨⟨g1,?_,?_,fun l hl=>g3 l (by simpa using hl),?_,VW h.ord hA hB hlo hsh hsB⟩,?_,?_⟩,g7,fun h0 h1 h2 h3 l hl=>g8 (by rw [h0];rfl) (fun l hl=>h1 l (by simpa using hl)) h2 (fun l hl=>h3 l (by simpa using hl)) l (by simpa using hl),fun h0=>by rw [Bt];exact g9 h0⟩
 ·exact g4.trans (List.Perm.append_right _ wj.symm)
 ·rw [c7] at g2;exact g2
 ·exact (eW _ _ _).2 ⟨ok1,hrA,hrB,ok2⟩
 ·intro _ x hx
  rcases aV.1 hx with hx | hx
  ·exact hne x (.inl hx)
  ·rcases bw.1 hx with rfl | hx
   ·exact hA0
   ·rcases bw.1 hx with rfl | hx
    ·exact hB0
    ·exact hne x (.inr hx)
 ·rw [Bt];exact g6 h.rt
abbrev nU (l:List Pr):Prop:=l.Pairwise fun x y=>lt x.1 y.1=true
theorem Ic {α:Type} (l:List α) (i j:Nat) (h:i<=j):l=l.take i++((l.drop i).take (j - i)++l.drop j):=by
 have:l.drop j=(l.drop i).drop (j - i):=by rw [nJ];congr 1;omega
 rw [this,gP,gP]
theorem K2 {l:List Pr} {k:Bs} (hr:iK (aD l)):∀x∈(l.drop (bp (aD l) k)).take ((if bQ (aD l) k then bp (aD l) k+1 else bp (aD l) k) - bp (aD l) k),x.1=k:=by
 intro x hx
 cases hh:bQ (aD l) k with
 | false=>rw [hh] at hx;simp at hx
 | true =>
  rw [hh,if_pos rfl,show bp (aD l) k+1 - bp (aD l) k=1 by omega] at hx
  obtain ⟨h2,h3⟩:=re hh
  have h2':bp (aD l) k < l.length:=by rwa [oo] at h2
  rw [qM h2',tj,qP] at hx
  have e:x=l[bp (aD l) k]:=ew.1 hx
  have h4:l[bp (aD l) k]? = some l[bp (aD l) k]:=bj h2'
  have:=rL h4
  rw [bj h2,h3] at this
  rw [e]
  exact (Option.some.inj this).symm
theorem pJ {α:Type} {p:α->Bool} {l:List α} (h:∀x∈l,p x=true):l.filter p=l:=G0.2 h
theorem rD {α:Type} {p:α->Bool} {l:List α} (h:∀x∈l,p x=false):l.filter p=[]:=List.filter_eq_nil_iff.2 fun x hx=>by rw [h x hx];simp
theorem L0 {l:List Pr} (hr:nU l) (k v:Bs):bR l k v=l.filter (fun x=>lt x.1 k)++(k,v)::l.filter (fun x=>lt k x.1):=by
 have hr':=uW.2 hr
 have h1:=A4 hr' k
 have h2:=yZ hr' k
 have h3:=K2 (k:=k) hr'
 unfold bR
 generalize hj:(if bQ (aD l) k then bp (aD l) k+1 else bp (aD l) k)=j at *
 have hij:bp (aD l) k<=j:=by rw [<-hj];split<;>omega
 generalize bp (aD l) k=i at *
 have e:=Ic l i j hij
 have f1:l.filter (fun x=>lt x.1 k)=l.take i:=by
  conv=>lhs;rw [e]
  rw [nK,nK,pJ h1,rD (p:=fun x:Pr=>lt x.1 k) fun x hx=>by rw [h3 x hx];exact gC _,rD (p:=fun x:Pr=>lt x.1 k) fun x hx=>lK (h2 x hx)]
  simp
 have f2:l.filter (fun x=>lt k x.1)=l.drop j:=by
  conv=>lhs;rw [e]
  rw [nK,nK,rD (p:=fun x:Pr=>lt k x.1) fun x hx=>lK (h1 x hx),rD (p:=fun x:Pr=>lt k x.1) fun x hx=>by rw [h3 x hx];exact gC _,pJ h2]
  simp
 rw [f1,f2]
 simp
theorem Dq {l:List Pr} (hr:nU l) (k:Bs):bQ (aD l) k=l.any fun x=>x.1==k:=by
 have hr':=uW.2 hr
 cases hh:bQ (aD l) k with
 | true =>
  obtain ⟨h2,h3⟩:=re hh
  have hm:k∈aD l:=h3 ▸ vA h2
  obtain ⟨x,hx,e⟩:=dF.1 hm
  exact (List.any_eq_true.2 ⟨x,hx,by rw [e];simp⟩).symm
 | false =>
  symm
  rw [s7]
  intro x hx hc
  have e:x.1=k:=by simpa using hc
  have h1:=A4 hr' k
  have h2:=yZ hr' k
  rw [hh] at h2
  have h2:∀x∈l.drop (bp (aD l) k),lt k x.1=true:=h2
  rw [<-gP (bp (aD l) k) l] at hx
  rcases aV.1 hx with hx | hx
  ·have:=h1 x hx
   rw [e,gC] at this;cases this
  ·have:=h2 x hx
   rw [e,gC] at this;cases this
theorem B0 {l:List Pr} (hr:nU l) {k:Bs} (hh:bQ (aD l) k=true):fC l k=l.filter fun x=>!(x.1==k):=by
 have hr':=uW.2 hr
 have h1:=A4 hr' k
 have h2:=yZ hr' k
 have h3:=K2 (k:=k) hr'
 unfold fC
 rw [hh,if_pos rfl] at h2 h3
 have e:=Ic l (bp (aD l) k) (bp (aD l) k+1) (by omega)
 have ne:∀x:Pr,lt x.1 k=true∨lt k x.1=true->(!(x.1==k))=true:=by
  intro x hx
  by_cases he:x.1=k
  ·rw [he,gC] at hx;simp at hx
  ·simpa using he
 conv=>rhs;rw [e]
 rw [nK,nK,pJ (p:=fun x:Pr=>!(x.1==k)) fun x hx=>ne x (.inl (h1 x hx)),rD (p:=fun x:Pr=>!(x.1==k)) fun x hx=>by rw [h3 x hx];simp,pJ (p:=fun x:Pr=>!(x.1==k)) fun x hx=>ne x (.inr (h2 x hx))]
 simp
theorem wz:∀{b:LL} {n:Int},iJ b->cd okF b n->nU (bf b)
 | [],_,_,_=>List.Pairwise.nil
 |(p,prs,h)::b,n,ho,hF=>by
  obtain ⟨h1,h2⟩:=fP.1 ho
  obtain ⟨o,_,_⟩:=ot (show bZ ⟨prs,h,aG b n⟩=true from hF.1)
  rw [gA]
  refine du.2 ⟨o.ri,wz h2 hF.2,?_⟩
  intro x hx y hy
  obtain ⟨z,hz,hy⟩:=gw.1 hy
  obtain ⟨q1,q2⟩:=h1 z hz
  have hxh:=(o.hi.resolve_left q1.1).2 x hx
  have:=q2 y hy
  by_cases e:y.1=h
  ·rw [e];exact hxh
  ·exact lt_trans hxh (mO this e)
theorem Gz {n:Int} {pre post:LL} {p:Int} {prs:List Pr} {h k:Bs} (ho:iJ (pre++(p,prs,h)::post)) (hF:cd okF (pre++(p,prs,h)::post) n) (hlo:∀y∈bE pre,lt k y.2=false) (hhi:h=[]∨lt k h=true) :
  (∀x∈bf pre,lt x.1 k=true)/\∀x∈bf post,lt k x.1=true:=by
 obtain ⟨h1,h2,h3,h4,h5⟩:=sw ho
 obtain ⟨ok1,ok3,ok2⟩:=(eW _ _ _).1 hF
 constructor
 ·intro x hx
  obtain ⟨y,hy,hx⟩:=gw.1 hx
  obtain ⟨m,hm⟩:=Ew ok1 y hy
  obtain ⟨o,_,_⟩:=ot (show bZ ⟨y.2.1,y.2.2,m⟩=true from hm)
  have hxy:=(o.hi.resolve_left (h3 y hy).1.1).2 x hx
  have hky:lt k y.2.2=false:=hlo (y.1,y.2.2) (dF.2 ⟨y,hy,rfl⟩)
  by_cases e:k=y.2.2
  ·rw [e];exact hxy
  ·exact lt_trans hxy (mO hky e)
 ·intro x hx
  obtain ⟨z,hz,hx⟩:=gw.1 hx
  obtain ⟨q1,q2⟩:=h4 z hz
  have hkh:=hhi.resolve_left q1.1
  have:=q2 x hx
  by_cases e:x.1=h
  ·rw [e];exact hkh
  ·exact lt_trans hkh (mO this e)
inductive nS (n:Nat) (r:Int) (es:Es) (k v:Bs):Bool->Int->Int->Es->Prop
 | arg (h:(bi k && dE v)=false):nS n r es k v false 1 r es
 | put {ws:List an} {pl:Int} {l:Lf} (hs:bN n es) (hk:bi k=true) (hv:dE v=true) (hw:jg es k r ws pl l) (hl:ws.length<=1024) (hg:cg es pl=some (bh l)) (hr0:bZ l=true) (hh:l.high=[]∨lt k l.high=true) (hz:aC (bR l.prs k v)<=231) (hr:bZ ⟨bR l.prs k v,l.high,l.next⟩=true) :
  nS n r es k v (!bQ (aD l.prs) k) 0 r (aT es pl (bh ⟨bR l.prs k v,l.high,l.next⟩))
 | full {ws:List an} {pl:Int} {l:Lf} (hs:bN n es) (hk:bi k=true) (hv:dE v=true) (hw:jg es k r ws pl l) (hl:ws.length<=1024) (hg:cg es pl=some (bh l)) (hr0:bZ l=true) (hh:l.high=[]∨lt k l.high=true) (hz:¬aC (bR l.prs k v)<=231) (hf:n - es.length < ws.length+2) :
  nS n r es k v false 6 r es
 | split {ws:List an} {pl:Int} {l:Lf} {j:Nat} {x:Pr} {A B:List Pr} {r':Int} {es':Es} (hs:bN n es) (hk:bi k=true) (hv:dE v=true) (hw:jg es k r ws pl l) (hl:ws.length<=1024) (hg:cg es pl=some (bh l)) (hr0:bZ l=true) (hh:l.high=[]∨lt k l.high=true) (hz:¬aC (bR l.prs k v)<=231) (hf:¬n - es.length < ws.length+2)
  (hfj:kH n (az es)=some j) (hj:j < n) (hq:(j:Int)∉aw es) (h2:2<=l.prs.length) (hx:l.prs[cC l.prs]? = some x)
  (rA0:bZ ⟨l.prs.take (cC l.prs),x.1,(j:Int)+1⟩=true) (rB0:bZ ⟨l.prs.drop (cC l.prs),l.high,l.next⟩=true) (rA:bZ ⟨A,x.1,(j:Int)+1⟩=true) (rB:bZ ⟨B,l.high,l.next⟩=true)
  (hc:(lt k x.1=true/\A=bR (l.prs.take (cC l.prs)) k v/\aC A<=231/\B=l.prs.drop (cC l.prs))∨(lt k x.1=false/\A=l.prs.take (cC l.prs)/\B=bR (l.prs.drop (cC l.prs)) k v/\aC B<=231))
  (hu:mq n r (aT (aT (aT es j []) pl (bh ⟨A,x.1,(j:Int)+1⟩)) j (bh ⟨B,l.high,l.next⟩)) ws.reverse x.1 pl j r' es') :
  nS n r es k v (!bQ (aD l.prs) k) 0 r' es'
theorem N8 {es:Es} {k:Bs} {p:Int} {ws:List an} {pl:Int} {l:Lf} (h:jg es k p ws pl l):cg es pl=some (bh l)/\bZ l=true:=by
 induction h with
 | leaf hg hr=>exact ⟨hg,hr⟩
 | inn _ _ _ _ _ ih=>exact ih
theorem Aq {k v:Bs} {r n:Int} {es:List (V × V)} {bs:List V} {m:List O} {v0:V} {L:Bool × Int × Int × Int × List (V × V) × List V} (h:tX k v r n es bs=some (.doneM v0 m)) (hc:gT al (tm r n es bs) v0 m=j7 L) :
  bB aa al 32 [.ptr 0 0 0,.str k,.str v] (tm r n es bs)=some (j7 L):=RE _ _ _ _ _ _ h (.done hc)
theorem Nx {x1:List V} {q:Lf} {p:Int} {k v:Bs} {r n:Int} {es:List (V × V)} {bs:List V} {m:List O} {L:Int × Int × List (V × V) × List V} (h:y7 x1 (aX q.prs) q.high q.next p k v r n es bs=some (.doneM (.tup []) m)) (hc:gT al (tm r n es bs) (.tup []) m=oC L) :
  bB aa al 79 [.ptr 0 0 0,.sl x1,eL q,.int .i64 p,.agg [.str k,.str v]] (tm r n es bs)=some (oC L):=R9 _ _ _ _ _ _ _ _ _ _ _ h (.done hc)
theorem Di (l:Lf) (h:bZ l=true) (k:Bs):∃g,bu aa 76 [eL l,.str k]=some (.tup [.str g,.int .i64 (bif bQ (aD l.prs) k then 0 else 7)]):=by
 rw [JV l h k]
 cases bQ (aD l.prs) k with
 | true=>exact ⟨_,rfl⟩
 | false=>exact ⟨_,rfl⟩
theorem J1 (b:Bool):((bif b then 0 else 7:Int) != (0:Int)) = !b:=by cases b<;>rfl
theorem xd {n:Nat} {r:Int} {es:Es} {k v:Bs} {ok:Bool} {e r':Int} {es':Es} (h:nS n r es k v ok e r' es') :
  bB aa al 32 [.ptr 0 0 0,.str k,.str v] (tM r n es)=some (j7 (ok,e,r',n,aP es',aF n (az es'))):=by
 cases h with
 | arg h =>
  refine Aq (v0:=.tup [.bool false,.int .i64 1]) (m:=tM r n es) ?_ (by kernel_rfl)
  unfold tX
  rw [au (gY k),cy]
  cases hk:bi k with
  | false=>rfl
  | true =>
   rw [hk,dq] at h
   rw [bA,cond_false,au (vp v),cy,h];rfl
 | @put ws pl l hs hk hv hw hl hg hr0 hh hz hr =>
  obtain ⟨g,hget⟩:=Di l hr0 k
  have hput:=w7 l hr0 k v hk hv hh
  unfold oJ at hput
  rw [if_pos hz] at hput
  apply Aq
  case h =>
   unfold tX
   rw [au (gY k),cy,hk,bA,cond_false,au (vp v),cy,hv,bA,cond_false,cD qc (qF hs hw (by omega)),bG]
   show (ai aa _ [eL l,_] _)=_
   rw [au hget,kD]
   show (ai aa _ [eL l,_,_] _)=_
   rw [au hput,lp,dx rfl,cond_true]
   show (aI aa _ _ _ [_,_,.ifc 120 (eL ⟨bR l.prs k v,l.high,l.next⟩)] (tM r n es) _)=_
   rw [bY gL (oW hs hg hr),J1]
  case hc=>kernel_rfl
 | @full ws pl l hs hk hv hw hl hg hr0 hh hz hf =>
  obtain ⟨g,hget⟩:=Di l hr0 k
  have hput:=w7 l hr0 k v hk hv hh
  unfold oJ at hput
  rw [if_neg hz] at hput
  have hll:=rQ hs
  have hn:=hs.le
  have w1:W .i64 (((dX ws).length:Int)+1)=((ws.length+1:Nat):Int):=by rw [qB,aK (by omega)];omega
  have w2:W .i64 (((ws.length+1:Nat):Int)+1)=((ws.length+2:Nat):Int):=by rw [aK (by omega)];omega
  apply Aq
  case h =>
   unfold tX
   rw [au (gY k),cy,hk,bA,cond_false,au (vp v),cy,hv,bA,cond_false,cD qc (qF hs hw (by omega)),bG]
   show (ai aa _ [eL l,_] _)=_
   rw [au hget,kD]
   show (ai aa _ [eL l,_,_] _)=_
   rw [au hput,lp,dJ (by decide),cond_false,cD Em (Dd hs),bG,w1,w2,decide_eq_true (by omega),cond_true]
  case hc=>kernel_rfl
 | @split ws pl l j x A B r' es' hs hk hv hw hl hg hr0 hh hz hf hfj hj hq h2 hx rA0 rB0 rA rB hc hu =>
  obtain ⟨g,hget⟩:=Di l hr0 k
  have hput:=w7 l hr0 k v hk hv hh
  unfold oJ at hput
  rw [if_neg hz] at hput
  have hll:=rQ hs
  have hn:=hs.le
  have w1:W .i64 (((dX ws).length:Int)+1)=((ws.length+1:Nat):Int):=by rw [qB,aK (by omega)];omega
  have w2:W .i64 (((ws.length+1:Nat):Int)+1)=((ws.length+2:Nat):Int):=by rw [aK (by omega)];omega
  have hspl:=Yy l hr0 h2 j (by omega)
  simp only [xD] at hspl
  rw [hx] at hspl
  simp only [tz] at hspl
  have hs1:=u5 hs (b:=[]) hj hq
  have hpj:pl≠(j:Int):=fun e=>hq (e ▸ wE hg)
  have hg1:cg (aT es j []) pl=some _:=(zp hpj).trans hg
  have hs2:=iZ hs1 (b:=bh ⟨A,x.1,(j:Int)+1⟩) (wE hg1)
  have hg2:cg (aT (aT es j []) pl (bh ⟨A,x.1,(j:Int)+1⟩)) j=some []:=(zp hpj.symm).trans Dl
  have hup:=Zl (by rw [xU];omega) hu
  rw [Bt] at hup
  have hsp:bB aa al 79 [.ptr 0 0 0,.sl (dX ws),eL l,.int .i64 pl,.agg [.str k,.str v]] (tM r n es)=some (oC (r',n,aP es',aF n (az es'))):=by
   rcases hc with ⟨hkx,rfl,hwA,rfl⟩ | ⟨hkx,rfl,rfl,hwB⟩
   ·have hput:=w7 _ rA0 k v hk hv (.inr hkx)
    unfold oJ at hput
    rw [if_pos hwA] at hput
    apply Nx
    case h =>
     unfold y7
     rw [bY uG (A3 hs hfj hq)]
     show (ai aa _ [eL l,_] _)=_
     rw [au hspl,Ii,show Op.bytesLess k x.1=true from hkx,cond_true]
     show (ai aa _ [eL ⟨l.prs.take (cC l.prs),x.1,(j:Int)+1⟩,_,_] _)=_
     rw [au hput,lp]
     show (aI aa _ _ _ [_,_,.ifc 120 (eL ⟨bR (l.prs.take (cC l.prs)) k v,x.1,(j:Int)+1⟩)] (tM r n (aT es j [])) _)=_
     rw [bY gL (oW hs1 hg1 rA)]
     show (aI aa _ _ _ [_,_,.ifc 120 (eL ⟨l.prs.drop (cC l.prs),l.high,l.next⟩)] (tM r n (aT (aT es j []) pl (bh ⟨bR (l.prs.take (cC l.prs)) k v,x.1,(j:Int)+1⟩))) _)=_
     rw [bY gL (oW hs2 hg2 rB),bY K4 hup]
    case hc=>kernel_rfl
   ·have hput:=w7 _ rB0 k v hk hv hh
    unfold oJ at hput
    rw [if_pos hwB] at hput
    apply Nx
    case h =>
     unfold y7
     rw [bY uG (A3 hs hfj hq)]
     show (ai aa _ [eL l,_] _)=_
     rw [au hspl,Ii,show Op.bytesLess k x.1=false from hkx,cond_false]
     show (ai aa _ [eL ⟨l.prs.drop (cC l.prs),l.high,l.next⟩,_,_] _)=_
     rw [au hput,lp]
     show (aI aa _ _ _ [_,_,.ifc 120 (eL ⟨l.prs.take (cC l.prs),x.1,(j:Int)+1⟩)] (tM r n (aT es j [])) _)=_
     rw [bY gL (oW hs1 hg1 rA)]
     show (aI aa _ _ _ [_,_,.ifc 120 (eL ⟨bR (l.prs.drop (cC l.prs)) k v,l.high,l.next⟩)] (tM r n (aT (aT es j []) pl (bh ⟨l.prs.take (cC l.prs),x.1,(j:Int)+1⟩))) _)=_
     rw [bY gL (oW hs2 hg2 rB),bY K4 hup]
    case hc=>kernel_rfl
  apply Aq
  case h =>
   unfold tX
   rw [au (gY k),cy,hk,bA,cond_false,au (vp v),cy,hv,bA,cond_false,cD qc (qF hs hw (by omega)),bG]
   show (ai aa _ [eL l,_] _)=_
   rw [au hget,kD]
   show (ai aa _ [eL l,_,_] _)=_
   rw [au hput,lp,dJ (by decide),cond_false,cD Em (Dd hs),bG,w1,w2,decide_eq_false (by omega),cond_false]
   show (aI aa _ _ _ [_,_,eL l,_,_] _ _)=_
   rw [bY Vk hsp,J1]
  case hc=>kernel_rfl
theorem ER (l:List Pr) (k v:Bs):bR l k v≠[]:=by simp [bR]
theorem Wu (l:List Pr) (k v:Bs):l.length<=(bR l k v).length:=by
 unfold bR
 simp only [cL,fX,fO,cw,fc]
 split<;>omega
theorem ES {a m c:List Pr} {k v:Bs} (ha:∀x∈a,lt x.1 k=true) (hc:∀x∈c,lt k x.1=true) (hr:nU (a++(m++c))):bR (a++(m++c)) k v=a++(bR m k v++c):=by
 obtain ⟨r1,r2,_⟩:=du.1 hr
 obtain ⟨r3,_,_⟩:=du.1 r2
 rw [L0 hr,L0 r3]
 simp only [nK]
 rw [pJ (p:=fun x:Pr=>lt x.1 k) ha,rD (p:=fun x:Pr=>lt k x.1) (l:=a) fun x hx=>lK (ha x hx),rD (p:=fun x:Pr=>lt x.1 k) (l:=c) fun x hx=>lK (hc x hx),pJ (p:=fun x:Pr=>lt k x.1) hc]
 simp
theorem J4 {a m c:List Pr} {k:Bs} (ha:∀x∈a,lt x.1 k=true) (hc:∀x∈c,lt k x.1=true) (hr:nU (a++(m++c))):bQ (aD (a++(m++c))) k=bQ (aD m) k:=by
 obtain ⟨r1,r2,_⟩:=du.1 hr
 obtain ⟨r3,_,_⟩:=du.1 r2
 rw [Dq hr,Dq r3,List.any_append,List.any_append]
 have h1:(a.any fun x=>x.1==k)=false:=s7.2 fun x hx hc=>by
  have e:x.1=k:=by simpa using hc
  have:=ha x hx
  rw [e,gC] at this;cases this
 have h2:(c.any fun x=>x.1==k)=false:=s7.2 fun x hx hc2=>by
  have e:x.1=k:=by simpa using hc2
  have:=hc x hx
  rw [e,gC] at this;cases this
 rw [h1,h2];simp
structure Rs (ups:List IL) (b:LL):Prop where
 ft:Ft ups
 f2:∀x∈b.dropLast,2<=x.2.1.length
 h5:∀x∈b,x.2.2.length<=5
 k5:∀x∈bf b,x.1.length<=5/\aC [x]<=40
theorem It:∀{d:List IL} {s:Su} {b:LL},Dn s d b->(∀l∈d,cd okI l 0)->(∀x∈b,x.2.2.length<=5)->(∀y∈s,y.2.length<=5)/\yg d
 | [],s,b,h,_,ha=>by
  refine ⟨fun y hy=>?_,fun l hl=>nomatch hl⟩
  rw [ix h,bE] at hy
  obtain ⟨z,hz,rfl⟩:=dF.1 hy
  exact ha z hz
 | l::d,s,b,h,hI,ha=>by
  obtain ⟨e,hk⟩:=fS h
  obtain ⟨i1,i2⟩:=It hk (fun x hx=>hI x (by simp [hx])) ha
  constructor
  ·intro y hy
   rw [e,be] at hy
   obtain ⟨z,hz,rfl⟩:=dF.1 hy
   obtain ⟨w,hw,e2⟩:=zt (gM (hI _ (bV ..)) z hz)
   show (ay z.2).length<=5
   rw [e2]
   exact i1 w (gw.2 ⟨z,hz,hw⟩)
  ·intro l' hl'
   rcases bw.1 hl' with rfl | hl'
   ·intro x hx y hy
    exact i1 y (gw.2 ⟨x,hx,hy⟩)
   ·exact i2 l' hl'
def ye (ups:List IL) (b:LL) (k v:Bs) (ups':List IL) (b':LL):Prop:=(∀x∈bf b,lt x.1 k=true)->k.length<=5->aC [(k,v)]<=40->Rs ups b->Rs ups' b'
theorem Mq {b b':LL} {k v:Bs} (h:bf b'=bR (bf b) k v) (hk:k.length<=5) (hw:aC [(k,v)]<=40) (h5:∀x∈bf b,x.1.length<=5/\aC [x]<=40):∀x∈bf b',x.1.length<=5/\aC [x]<=40:=by
 intro x hx
 rw [h] at hx
 rcases qn hx with rfl | hx
 ·exact ⟨hk,hw⟩
 ·exact h5 x hx
theorem Xu {ups:List IL} {b:LL} {pre post:LL} {p:Int} {prs:List Pr} {h' k v:Bs} (hb:b=pre++(p,prs,h')::post) (hf:bf (pre++(p,bR prs k v,h')::post)=bR (bf b) k v) (hl:prs.length<=(bR prs k v).length):ye ups b k v ups (pre++(p,bR prs k v,h')::post):=by
 intro h1 h2 h3 h
 refine ⟨h.ft,?_,?_,Mq hf h2 h3 h.k5⟩
 ·intro x hx
  have hf2:=h.f2
  rw [hb] at hf2
  cases post with
  | nil =>
   rw [s8] at hx hf2
   exact hf2 x hx
  | cons y t =>
   rw [GZ (by simp),md (by simp)] at hx hf2
   rcases aV.1 hx with hx | hx
   ·exact hf2 x (jG _ hx)
   ·rcases bw.1 hx with rfl | hx
    ·have:=hf2 (p,prs,h') (by simp)
     simp only at this |-
     omega
    ·exact hf2 x (by simp [hx])
 ·intro x hx
  have h5:=h.h5
  rw [hb] at h5
  rcases aV.1 hx with hx | hx
  ·exact h5 x (jG _ hx)
  ·rcases bw.1 hx with rfl | hx
   ·exact h5 (p,prs,h') (by simp)
   ·exact h5 x (by simp [hx])
theorem Xv {n:Nat} {r:Int} {es:Es} {ups ups':List IL} {b:LL} (hW:WF n r es ups b) {pre:LL} {p j:Int} {prs A B:List Pr} {h' k v s:Bs} (hb:b=pre++[(p,prs,h')]) (hf:bf (pre++[(p,A,s),(j,B,h')])=bR (bf b) k v) (hs:∃x∈bf b,x.1=s) (hA:A=prs.take (cC prs)) (h2:2<=prs.length) (hw:¬aC prs+aC [(k,v)]<=231) (h50:∀x∈prs,aC [x]<=50) (hp:aC prs<=231)
  (hup:yg ups->s.length<=5->Ft ups->Ft ups'):ye ups b k v ups' (pre++[(p,A,s),(j,B,h')]):=by
 intro h1 hk5 h3 h
 obtain ⟨x0,hx0,hxs⟩:=hs
 have hs5:s.length<=5:=hxs ▸ (h.k5 x0 hx0).1
 refine ⟨hup (It hW.dn hW.okI h.h5).2 hs5 h.ft,?_,?_,Mq hf hk5 h3 h.k5⟩
 ·intro x hx
  have hf2:=h.f2
  rw [hb,s8] at hf2
  rw [show pre++[(p,A,s),(j,B,h')]=(pre++[(p,A,s)])++[(j,B,h')] by simp,s8] at hx
  rcases aV.1 hx with hx | hx
  ·exact hf2 x hx
  ·rw [ew.1 hx]
   show 2<=A.length
   obtain ⟨m0,m1,m2,m3⟩:=J3 h2 h50 hp
   have hsp:=vr prs (cC prs)
   rw [<-hA] at hsp
   match hAl:A with
   | []=>simp [aC] at hsp;omega
   | [y] =>
    have hy:y∈prs:=mg (hA ▸ ew.2 rfl)
    have hyb:y∈bf b:=by rw [hb,kK,gA];simp [hy]
    have:=(h.k5 y hyb).2
    omega
   | y::z::t=>simp
 ·intro x hx
  have h5:=h.h5
  rw [hb] at h5
  rcases aV.1 hx with hx | hx
  ·exact h5 x (jG _ hx)
  ·rcases bw.1 hx with rfl | hx
   ·exact hs5
   ·rw [ew.1 hx]
    exact h5 (p,prs,h') (by simp)
def Hj (n:Nat) (r:Int) (es:Es) (ups:List IL) (b:LL) (k v:Bs) (ok:Bool) (e r':Int) (es':Es) (ups':List IL) (b':LL):Prop :=
 (e=0/\bi k=true/\dE v=true/\bf b'=bR (bf b) k v/\ok = !bQ (aD (bf b)) k/\ye ups b k v ups' b'/\(Fk ups.reverse->Fk ups'.reverse)) ∨
 (ok=false/\r'=r/\es'=es/\ups'=ups/\b'=b/\((e=1/\(bi k && dE v)=false)∨(e=6/\bi k=true/\dE v=true/\n - es.length < ups.length+2)))
theorem ET {n:Nat} {r:Int} {es:Es} {ups:List IL} {b:LL} (h:WF n r es ups b) (k v:Bs) :
  ∃ok e r' es' ups' b',WF n r' es' ups' b'/\nS n r es k v ok e r' es'/\Hj n r es ups b k v ok e r' es' ups' b':=by
 cases hkv:(bi k && dE v) with
 | false=>exact ⟨false,1,r,es,ups,b,h,.arg hkv,.inr ⟨rfl,rfl,rfl,rfl,rfl,.inl ⟨rfl,hkv⟩⟩⟩
 | true =>
  obtain ⟨hk,hv⟩:=Bool.and_eq_true_iff.1 hkv
  obtain ⟨p,h',ws,pre,prs,post,q1,q2,q3,q4,q5,q6⟩:=GA h.toWT hk
  have hF:=h.okF
  rw [q2] at hF
  have hr:bZ ⟨prs,h',aG post 0⟩=true:=Ac hF
  obtain ⟨o,hx0,hx1⟩:=ot hr
  have hn:=h.shf.le
  have hul:=nB h.toWT
  have hll:=rQ h.shf
  obtain ⟨hgp,_⟩:=N8 q6
  have hord:=h.ord
  rw [q2] at hord
  have hpre:=(sw hord).2.2.1
  obtain ⟨hca,hcc⟩:=Gz hord hF q3 q4
  have hris:=wz hord hF
  have efl:bf (pre++(p,prs,h')::post)=bf pre++(prs++bf post):=by rw [kK,gA]
  rw [efl] at hris
  have hput:=ES (v:=v) hca hcc hris
  have hhas:=J4 hca hcc hris
  have hfb:bf b=bf pre++(prs++bf post):=by rw [q2,efl]
  by_cases hz:aC (bR prs k v)<=231
  ·have o2:=EQ o hk hv q4 hz
   have hr2:=oO o2 hx0 hx1
   have hat:=h.rep
   rw [q2] at hat
   have hat:=zL hat
   have hpm:=jy (b':=bh ⟨bR prs k v,h',aG post 0⟩) h.shf.nd hat
   obtain ⟨ok1,ok3,ok2⟩:=(eW _ _ _).1 hF
   have hne:=wU h q2
   refine ⟨!bQ (aD prs) k,0,r,aT es p (bh ⟨bR prs k v,h',aG post 0⟩),ups,pre++(p,bR prs k v,h')::post,⟨⟨iZ h.shf (gf hat),hpm.trans (Ky (U:=cB ups) (pre:=pre) (post:=post) (p:=p) (x:=(bR prs k v,h'))),?_,h.okI,(eW _ _ _).2 ⟨ok1,hr2,ok2⟩,Lz hord ?_⟩,?_,h.rt⟩,.put h.shf hk hv q6 (by omega) hgp hr q4 hz hr2,.inl ⟨rfl,hk,hv,?_,?_,Xu q2 ?_ (Wu prs k v),fun h=>h⟩⟩
   ·have e:bE (pre++(p,bR prs k v,h')::post)=bE b:=by rw [q2];simp [bE]
    exact B9 e h.dn
   ·intro y hy x hx
    rcases qn hx with rfl | hx
    ·exact q3 (y.1,y.2.2) (dF.2 ⟨y,hy,rfl⟩)
    ·exact (hpre y hy).2 x hx
   ·intro _ x hx
    rcases aV.1 hx with hx | hx
    ·exact hne x (.inl hx)
    ·rcases bw.1 hx with rfl | hx
     ·exact ER _ _ _
     ·exact hne x (.inr hx)
   ·rw [hfb,hput,kK,gA]
   ·rw [hfb,hhas]
   ·rw [hfb,hput,kK,gA]
  ·by_cases hfree:n - es.length < ws.length+2
   ·exact ⟨false,6,r,es,ups,b,h,.full h.shf hk hv q6 (by omega) hgp hr q4 hz hfree,.inr ⟨rfl,rfl,rfl,rfl,rfl,.inr ⟨rfl,hk,hv,by omega⟩⟩⟩
   ·have hpw:=An prs k v
    have hkv:=Ba (x:=(k,v)) hk hv
    have h50:=Oj o.mem
    have ow:=o.wt
    have hlen:2<=prs.length:=by omega
    obtain ⟨j,hj,hjf,hj2⟩:=Df h.shf (by omega)
    obtain ⟨m0,m1,m2,m3⟩:=J3 hlen (fun x hx=>(Ba (o.mem x hx).1 (o.mem x hx).2).2) o.wt
    have hx:prs[cC prs]? = some prs[cC prs]:=bj m1
    obtain ⟨oA,oB,hsh,hks,hgB,z,hzp,hzs⟩:=Tx o (cC prs) hx m0
    generalize hxx:prs[cC prs]=x at *
    have hlo':∀y∈pre,af y.2.2 x.1:=fun y hy=>⟨(hpre y hy).1.1,.inr (UF ((hpre y hy).2 z hzp) hzs)⟩
    have klo:∀y∈pre,lt k y.2.2=false:=fun y hy=>q3 (y.1,y.2.2) (dF.2 ⟨y,hy,rfl⟩)
    have hrA:=oO oA (nx:=(j:Int)+1) (by omega) (by omega)
    have hrB:=oO oB hx0 hx1
    have hroom:es.length+ups.length+2<=n:=by omega
    have htd:prs=prs.take (cC prs)++(prs.drop (cC prs)++[]):=by simp
    have htd2:prs=[]++(prs.take (cC prs)++prs.drop (cC prs)):=by simp
    have hA0:prs.take (cC prs)≠[]:=by
     intro e
     rcases List.take_eq_nil_iff.1 e with h1 | h1
     ·omega
     ·rw [h1] at hlen;simp at hlen
    have hB0:prs.drop (cC prs)≠[]:=by
     intro e
     have h1:=Bn.1 e
     omega
    have hrt:nU (prs.take (cC prs)++prs.drop (cC prs)):=by rw [gP];exact o.ri
    cases hks2:lt k x.1 with
    | true =>
     have hw:aC (bR (prs.take (cC prs)) k v)<=231:=by have:=An (prs.take (cC prs)) k v;omega
     have oA2:=EQ oA hk hv (.inr hks2) hw
     obtain ⟨r',es',ups',hW,hup,hrs,hfk⟩:=NZ h q1 q2 hj hj2 oA2 oB (ER _ _ _) hB0 hsh hks hlo'
      (fun y hy q hq=>by
       rcases qn hq with rfl | hq
       ·exact klo y hy
       ·exact (hpre y hy).2 q (mg hq))
      (fun y hy q hq=>(hpre y hy).2 q (kg hq)) hgB hroom
     refine ⟨!bQ (aD prs) k,0,r',es',ups',_,hW,.split h.shf hk hv q6 (by omega) hgp hr q4 hz hfree hjf hj hj2 hlen hx hrA hrB (oO oA2 (by omega) (by omega)) hrB (.inl ⟨hks2,rfl,hw,rfl⟩) hup,.inl ⟨rfl,hk,hv,?_,by rw [hfb,hhas],fun h1=>absurd (h1 x (by rw [hfb];exact mf _ (jG _ (cf hx)))) (by rw [lK hks2];simp),hfk⟩⟩
     have hgk:∀y∈prs.drop (cC prs),lt k y.1=true:=fun y hy=>by
      have h0:=hgB y hy
      by_cases e:y.1=x.1
      ·rw [e];exact hks2
      ·exact lt_trans hks2 (mO h0 e)
     have:=ES (a:=[]) (m:=prs.take (cC prs)) (c:=prs.drop (cC prs)) (k:=k) (v:=v) (by simp) hgk (by simpa using hrt)
     rw [<-htd2] at this
     rw [hfb,hput,this,kK,gA,gA]
     simp
    | false =>
     have hw:aC (bR (prs.drop (cC prs)) k v)<=231:=by have:=An (prs.drop (cC prs)) k v;omega
     have oB2:=EQ oB hk hv q4 hw
     obtain ⟨r',es',ups',hW,hup,hrs,hfk⟩:=NZ h q1 q2 hj hj2 oA oB2 hA0 (ER _ _ _) hsh hks hlo'
      (fun y hy q hq=>(hpre y hy).2 q (mg hq))
      (fun y hy q hq=>by
       rcases qn hq with rfl | hq
       ·exact klo y hy
       ·exact (hpre y hy).2 q (kg hq))
      (fun q hq=>by
       rcases qn hq with rfl | hq
       ·exact hks2
       ·exact hgB q hq) hroom
     have hlk:∀y∈prs.take (cC prs),lt y.1 k=true:=fun y hy=>by
      have h1:=(oA.hi.resolve_left (ol hks)).2 y hy
      by_cases e:k=x.1
      ·rw [e];exact h1
      ·exact lt_trans h1 (mO hks2 e)
     have hpa:=ES (a:=prs.take (cC prs)) (m:=prs.drop (cC prs)) (c:=[]) (k:=k) (v:=v) hlk (by simp) (by simpa using hrt)
     rw [<-htd] at hpa
     have hfl2:bf (pre++(p,prs.take (cC prs),x.1)::((j:Int),bR (prs.drop (cC prs)) k v,h')::post)=bR (bf b) k v:=by
      rw [hfb,hput,hpa,kK,gA,gA]
      simp
     have hrsn:ye ups b k v ups' (pre++(p,prs.take (cC prs),x.1)::((j:Int),bR (prs.drop (cC prs)) k v,h')::post):=by
      intro h1 hk5 h3 hh
      have hpo:post=[]:=by
       cases hpo:post with
       | nil=>rfl
       | cons y t =>
        exfalso
        have hy:=wU h q2 y (.inr (by rw [hpo];simp))
        obtain ⟨z,t',hz⟩:=me hy
        have hm:z∈bf post:=gw.2 ⟨y,by rw [hpo];simp,by rw [hz];simp⟩
        have a1:=hcc z hm
        have a2:=h1 z (by rw [hfb];simp [hm])
        rw [lK a1] at a2
        cases a2
      have q2':b=pre++[(p,prs,h')]:=by rw [q2,hpo]
      have hfl3:=hfl2
      rw [hpo] at hfl3
      have:=Xv (ups':=ups') h q2' hfl3 ⟨x,by rw [hfb];exact mf _ (jG _ (cf hx)),rfl⟩ rfl hlen (by have:=An prs k v;omega) (fun y hy=>(Ba (o.mem y hy).1 (o.mem y hy).2).2) o.wt (fun a b c=>hrs hpo a b c)
      rw [hpo]
      exact this h1 hk5 h3 hh
     refine ⟨!bQ (aD prs) k,0,r',es',ups',_,hW,.split h.shf hk hv q6 (by omega) hgp hr q4 hz hfree hjf hj hj2 hlen hx hrA hrB hrA (oO oB2 hx0 hx1) (.inr ⟨hks2,rfl,rfl,hw⟩) hup,.inl ⟨rfl,hk,hv,hfl2,by rw [hfb,hhas],hrsn,hfk⟩⟩
def bM {α:Type} (l:List (Int × α)):List Int:=l.map (·.1)
def kW (ups:List IL) (b:LL):List V:=(ups.map fun l=>V.sl (ae (bM l)))++[V.sl (ae (bM b))]
def kf {α:Type} (f:α->Int->Bs) (es:Es) (l:List (Int × α)):Prop:=∀x∈aO f l 0,x∈es
theorem zR {α:Type} {f:α->Int->Bs} {g:α->Int->Prop}:∀{l:List (Int × α)} {n:Int},cd g l n->∀x∈l,∃m,g x.2 m/\(x.1,f x.2 m)∈aO f l n
 |(p,y)::l,n,h,x,hx=>by
  rcases bw.1 hx with rfl | hx
  ·exact ⟨_,h.1,by rw [aO];simp⟩
  ·obtain ⟨m,h1,h2⟩:=zR (f:=f) h.2 x hx
   exact ⟨m,h1,by rw [aO];simp [h2]⟩
theorem DR {l:List Int} {i:Nat} {x:Int} {k:V->R} (h:l[i]? = some x):aH (ae l) i k=k (.int .i64 x):=d9 h
theorem KB {n:Nat} {r:Int} {es:Es} (hS:bN n es) (P:List Int) (hP:P.length<=2000) (m6:List V) {o:cI} :
  ∀(l:IL) (i:Nat) (acc:List Int),P.drop i=bM l->(∀x∈l,∃m,okI x.2 m/\(x.1,aZ x.2 m)∈es)->acc.length+(aJ l).length<=2000->i<=P.length ->
  Go qk true 5 (fF 87) (.head 1 (ko (ae P) (P.length:Int) (P.length:Int) r n (aP es) (aF n (az es)) m6 (ae (acc++bM (aJ l))))) o ->
  Go qk true 5 (fF 87) (.head 1 (ko (ae P) (P.length:Int) (i:Int) r n (aP es) (aF n (az es)) m6 (ae acc))) o
 | [],i,acc,hd,_,_,hi0,hg=>by
  have hi:=drop_nil hd
  have e:i=P.length:=by omega
  subst e
  simpa [aJ,bM] using hg
 |(q,x)::l,i,acc,hd,aB,hlen,hi0,hg=>by
  obtain ⟨h1,h2,h3⟩:=fT hd
  obtain ⟨m,⟨hne,hr⟩,hm⟩:=aB (q,x) (by simp)
  have hge:=iR hS.nd hm
  have e1:aJ ((q,x)::l)=x++aJ l:=by simp [aJ]
  rw [e1] at hlen hg
  rw [cL] at hlen
  have w:W .i64 ((i:Int)+1)=((i+1:Nat):Int):=by rw [aK (by omega)];omega
  refine AO _ _ _ _ _ _ _ _ _ (o:=.head 1 (ko (ae P) (P.length:Int) ((i+1:Nat):Int) r n (aP es) (aF n (az es)) m6 (ae (acc++bM x)))) ?_
   (KB hS P hP m6 l (i+1) (acc++bM x) h2 (fun y hy=>aB y (by simp [hy])) (by simp [bM];omega) (by omega) (by rw [bc];simpa [bM] using hg))
  unfold xy
  rw [decide_eq_true (by omega),cond_true,ak (by simp),aU,DR h1,bH,oK hS hge hr,bG,ak (oU _),ak (decide_eq_true (by simp only [bO,dA];omega)),w,wM]
  rfl
theorem KD {n:Nat} {r:Int} {es:Es} (hS:bN n es) (P:List Int) (hP:P.length<=2000) (m6:List V) {o:cI} :
  ∀(l:LL) (i:Nat),P.drop i=bM l->(∀x∈l,∃m,okF x.2 m/\(x.1,cj x.2 m)∈es)->i<=P.length ->
  Go qk true 5 (fF 87) (.head 1 (ko (ae P) (P.length:Int) (P.length:Int) r n (aP es) (aF n (az es)) m6 [])) o ->
  Go qk true 5 (fF 87) (.head 1 (ko (ae P) (P.length:Int) (i:Int) r n (aP es) (aF n (az es)) m6 [])) o
 | [],i,hd,_,hi,hg=>by
  have h1:=drop_nil hd
  have e:i=P.length:=by omega
  subst e
  exact hg
 |(q,x)::l,i,hd,aB,hi,hg=>by
  obtain ⟨h1,h2,h3⟩:=fT hd
  obtain ⟨m,hr,hm⟩:=aB (q,x) (by simp)
  have hge:=iR hS.nd hm
  have w:W .i64 ((i:Int)+1)=((i+1:Nat):Int):=by rw [aK (by omega)];omega
  refine AO _ _ _ _ _ _ _ _ _ (o:=.head 1 (ko (ae P) (P.length:Int) ((i+1:Nat):Int) r n (aP es) (aF n (az es)) m6 [])) ?_
   (KD hS P hP m6 l (i+1) h2 (fun y hy=>aB y (by simp [hy])) (by omega) hg)
  unfold xy
  rw [decide_eq_true (by omega),cond_true,ak (by simp),aU,DR h1,bH,qo (l:=⟨x.1,x.2,m⟩) hS hge hr,bG,w]
theorem Wg (b:LL):bM (bE b)=bM b:=by simp [bE,bM]
theorem Wf (l:IL):bM (be l)=bM l:=by simp [be,bM]
theorem Qr {s:Su} {d:List IL} {b:LL} (h:Dn s d b) (hd:∀l∈d,l.length<=1024) (hb:b.length<=1024):s.length<=1024:=by
 cases d with
 | nil=>rw [ix h,bE,dA];exact hb
 | cons l d=>rw [(fS h).1,be,dA];exact hd l (by simp)
theorem zG {l:IL} (h:l≠[]) (hn:∀x∈l,x.2≠[]):aJ l≠[]:=by
 obtain ⟨x,t,rfl⟩:=me h
 intro h0
 rw [aJ,ij,o6] at h0
 exact hn x (by simp) h0.1
theorem KF {n:Nat} {r:Int} {es:List (V × V)} {bs:List V} {acc:List V} {P:List Int} {o:cI} (hl:acc.length<=3000)
  (h:Go qk true 5 (fF 87) (.head 1 (ko (ae P) (P.length:Int) ((0:Nat):Int) r n es bs (acc++[V.sl (ae P)]) [])) o) :
  Go qk true 5 (fF 87) (.head 0 (vT r n es bs (acc++[V.sl (ae P)]))) o:=by
 have w:W .i64 (((acc++[V.sl (ae P)]).length:Int) - 1)=((acc.length:Nat):Int):=by
  rw [cL,aK (by simp;omega)];simp
 have hg:(acc++[V.sl (ae P)])[acc.length]? = some (V.sl (ae P)):=by simp
 refine XR _ _ _ _ _ ?_ h
 unfold Nb
 rw [w,ak (by simp),ak (decide_eq_true (by simp)),aU,cO hg,pQ,bO]
 rfl
theorem KE {n:Nat} {r:Int} {es:Es} (hS:bN n es):∀(d:List IL) (b:LL) (s:Su) (acc:List V),Dn s d b->(∀l∈d,cd okI l 0)->cd okF b 0->(∀l∈d,kf aZ es l)->kf cj es b->(∀l∈d,l.length<=1024)->b.length<=1024->acc.length+d.length<=2000->s≠[] ->
  Go qk true 5 (fF 87) (.head 0 (vT r n (aP es) (aF n (az es)) (acc++[V.sl (ae (bM s))]))) (.doneM (.own 5) (tM r n es++[O.row 80 (acc++kW d b) 0]))
 | [],b,s,acc,hd,_,hF,_,hE,_,hb,hl,_=>by
  have e:=ix hd
  have ep:bM s=bM b:=by rw [e,Wg]
  rw [ep]
  have hbl:(bM b).length=b.length:=by simp [bM]
  refine KF (by simp at hl;omega) (KD hS (bM b) (by omega) _ b 0 rfl (fun x hx=>?_) (by omega) (AO _ _ _ _ _ _ _ _ _ ?_ (.refl _)))
  ·obtain ⟨m,h1,h2⟩:=zR (f:=cj) hF x hx
   exact ⟨m,h1,hE _ h2⟩
  ·unfold xy
   rw [decide_eq_false (by omega),cond_false]
   rfl
 | l::d,b,s,acc,hd,hI,hF,hEI,hE,hdl,hb,hl,hne=>by
  obtain ⟨e,hdk⟩:=fS hd
  have ep:bM s=bM l:=by rw [e,Wf]
  have hll:=hdl l (bV ..)
  have hpl:(bM l).length=l.length:=by simp [bM]
  have hkl:=Qr hdk (fun x hx=>hdl x (by simp [hx])) hb
  have hlne:l≠[]:=by rintro rfl;exact hne e
  have hkne:=zG hlne (gM (hI _ (bV ..)))
  have ih:=KE (r:=r) hS d b (aJ l) (acc++[V.sl (ae (bM l))]) hdk (fun x hx=>hI x (by simp [hx])) hF (fun x hx=>hEI x (by simp [hx])) hE (fun x hx=>hdl x (by simp [hx])) hb (by simp at hl |-;omega) hkne
  have e2:acc++[V.sl (ae (bM l))]++kW d b=acc++kW (l::d) b:=by simp [kW]
  rw [e2] at ih
  rw [ep]
  refine KF (by simp at hl;omega) (KB hS (bM l) (by omega) _ l 0 [] rfl (fun x hx=>?_) (by simp;omega) (by omega) (AO _ _ _ _ _ _ _ _ _ ?_ ih))
  ·obtain ⟨m,h1,h2⟩:=zR (f:=aZ) (hI _ (bV ..)) x hx
   exact ⟨m,h1,hEI _ (bV ..) _ h2⟩
  ·unfold xy
   rw [dB,decide_eq_false (by omega),cond_false,dJ,cond_false,ak (decide_eq_true (by simp at hl |-;omega))]
   rw [bO,bM,dA]
   have:0 < (aJ l).length:=jb.2 hkne
   omega
theorem D8 {n:Nat} {r:Int} {es:Es} {ups:List IL} {b:LL} (h:WT n r es ups b):(∀l∈ups,l.length<=1024)/\b.length<=1024:=by
 have h2:=h.rep.length_eq
 have h3:=rQ h.shf
 have h4:=h.shf.le
 rw [cL,zc] at h2
 refine ⟨fun l hl=>?_,by omega⟩
 have:∀{u:List IL},l∈u->l.length<=(cB u).length:=by
  intro u hu
  induction u with
  | nil=>cases hu
  | cons x u ih =>
   rw [lx,cL,zc]
   rcases bw.1 hu with rfl | hu
   ·omega
   ·have:=ih hu;omega
 have:=this hl
 omega
theorem rI {n:Nat} {r:Int} {es:Es} {ups:List IL} {b:LL} (h:WT n r es ups b):(∀l∈ups,kf aZ es l)/\kf cj es b :=
 ⟨fun l hl x hx=>h.rep.mem_iff.2 (jG _ (gw.2 ⟨l,hl,hx⟩)),fun x hx=>h.rep.mem_iff.2 (mf _ hx)⟩
theorem KG {n:Nat} {r:Int} {es:Es} {ups:List IL} {b:LL} (h:WT n r es ups b):bB aa al 87 [.ptr 0 0 0] (tM r n es)=some (oD (tM r n es) (kW ups b)):=by
 have hl:=nB h
 obtain ⟨h1,h2⟩:=D8 h
 obtain ⟨h3,h4⟩:=rI h
 have:=KE (r:=r) h.shf ups b [(r,[])] [] h.dn h.okI h.okF h3 h4 h1 h2 (by simp;omega) (by simp)
 exact Si _ _ _ _ rfl ⟨_,_,this,by kernel_rfl⟩
theorem D7 {n:Nat} {r:Int} {es:Es} {ups:List IL} {b:LL} (h:WT n r es ups b):bB aa al 46 [.ptr 0 0 0] (tM r n es)=some (lO (tM r n es) (ae (bM b))):=by
 have hl:=nB h
 have hlen:(kW ups b).length=ups.length+1:=by simp [kW]
 have w:W .i64 (((kW ups b).length:Int) - 1)=((ups.length:Nat):Int):=by rw [hlen,aK (by omega)];omega
 have hg:(kW ups b)[ups.length]? = some (V.sl (ae (bM b))):=by simp [kW]
 refine RO _ _ _ _ (o:=.doneM (.sl (ae (bM b))) (tM r n es++[O.row 3 [] 0])) ?_ (.done (by kernel_rfl))
 unfold I2
 rw [cD K8 (KG h),bG,w,ak (by simp),aU,cO hg,pQ]
def gk (from0:Bs) (n:Int):List Pr->List Pr->List Pr
 | acc,[]=>acc
 | acc,x::r=>gk from0 n (if !(lt x.1 from0) && decide ((acc.length:Int) < n) then acc++[x] else acc) r
theorem Ng (f:Bs) (n:Int):∀(a b acc:List Pr),gk f n acc (a++b)=gk f n (gk f n acc a) b
 | [],_,_=>rfl
 | x::a,b,acc=>by rw [c8,gk,gk,Ng f n a b]
theorem Ni (f:Bs) (n:Int):∀(l acc:List Pr),(gk f n acc l).length<=acc.length+l.length
 | [],_=>bq _
 | x::l,acc=>by
  have h:=Ni f n l (if !(lt x.1 f) && decide ((acc.length:Int) < n) then acc++[x] else acc)
  rw [gk,cw]
  refine mj h ?_
  split
  ·rw [cL,cw,fc];omega
  ·omega
theorem Nh (f:Bs) (n:Int):∀(l acc:List Pr),n<=acc.length->gk f n acc l=acc
 | [],_,_=>rfl
 | x::l,acc,h=>by rw [gk,decide_eq_false (by omega),j8];exact Nh f n l acc h
theorem F4 (f:Bs) (n:Nat):∀(l acc:List Pr),acc.length<=n->gk f n acc l=acc++(l.filter fun x=>!(lt x.1 f)).take (n - acc.length)
 | [],acc,_=>by simp [gk]
 | x::l,acc,h=>by
  rw [gk]
  cases hx:lt x.1 f with
  | true =>
   rw [List.filter_cons_of_neg (by simp [hx])]
   exact F4 f n l acc h
  | false =>
   rw [List.filter_cons_of_pos (by simp [hx])]
   by_cases hn:acc.length < n
   ·rw [decide_eq_true (by omega)]
    have:=F4 f n l (acc++[x]) (by simp;omega)
    refine this.trans ?_
    obtain ⟨k,hk⟩:∃k,n - acc.length=k+1:=⟨n - acc.length - 1,by omega⟩
    rw [hk,tj]
    have e:n - (acc++[x]).length=k:=by simp;omega
    rw [e];simp
   ·rw [decide_eq_false (by omega)]
    have e:n - acc.length=0:=by omega
    rw [e,qP,c7]
    exact Nh f n l acc (by omega)
theorem Nm {n:Nat} {r:Int} {es:Es} {f:Bs} {cnt:Int} {P:List V} {np i:Int} {prs:List Pr} (hp:prs.length<=1000) {o:cI}:∀(l:List Pr) (j:Nat) (acc:List Pr),prs.drop j=l->j<=prs.length->acc.length+l.length<=10000000 ->
  Go qk true 5 (fF 34) (.head 0 (vQ f cnt P np (W .i64 (i+1)) r n (aP es) (aF n (az es)) (aX (gk f cnt acc l)))) o ->
  Go qk true 5 (fF 34) (.head 1 (qT f cnt P np i (aX prs) (prs.length:Int) (j:Int) r n (aP es) (aF n (az es)) (aX acc))) o
 | [],j,acc,hd,hj,_,hg=>by
  have h1:=drop_nil hd
  refine MX _ _ _ _ _ _ _ _ _ _ _ _ _ ?_ hg
  unfold AJ
  rw [decide_eq_false (by omega),cond_false]
  rfl
 | x::l,j,acc,hd,hj,hl,hg=>by
  obtain ⟨h1,h2,h3⟩:=fT hd
  have w:W .i64 ((j:Int)+1)=((j+1:Nat):Int):=by rw [aK (by omega)];omega
  simp only [cw] at hl
  rw [gk] at hg
  have hs:AJ f cnt P np i (aX prs) (prs.length:Int) (j:Int) r n (aP es) (aF n (az es)) (aX acc)=some (.head 1 (qT f cnt P np i (aX prs) (prs.length:Int) ((j+1:Nat):Int) r n (aP es) (aF n (az es)) (aX (if !(lt x.1 f) && decide ((acc.length:Int) < cnt) then acc++[x] else acc)))):=by
   unfold AJ
   rw [decide_eq_true (by omega),cond_true,ak (by simp),aU,jn h1,iN,w,en]
   show (cond (!(lt x.1 f)) _ _)=_
   cases lt x.1 f with
   | true=>rfl
   | false =>
    rw [i9,cond_true,dq]
    cases decide ((acc.length:Int) < cnt) with
    | true =>
     rw [cond_true,ak (decide_eq_true (by simp;omega))]
     simp [aX]
    | false=>rfl
  refine MX _ _ _ _ _ _ _ _ _ _ _ _ _ hs (Nm hp l (j+1) _ h2 (by omega) ?_ hg)
  split
  ·simp;omega
  ·omega
theorem Nk {n:Nat} {r:Int} {es:Es} (hS:bN n es) {f:Bs} {cnt:Int} (P:List Int) (hP:P.length<=2000):∀(l:LL) (i:Nat) (acc:List Pr),P.drop i=bM l->(∀x∈l,∃m,okF x.2 m/\(x.1,cj x.2 m)∈es)->i<=P.length->acc.length+1000 * l.length<=5000000 ->
  Go qk true 5 (fF 34) (.head 0 (vQ f cnt (ae P) (P.length:Int) (i:Int) r n (aP es) (aF n (az es)) (aX acc))) (.doneM (.own 6) (tM r n es++[O.row 41 [] 0,O.row 41 (aX (gk f cnt acc (bf l))) 0]))
 | [],i,acc,hd,_,hi,_=>by
  have h1:=drop_nil hd
  refine MW _ _ _ _ _ _ _ _ _ _ ?_ (.refl _)
  unfold FH
  rw [decide_eq_false (by omega),cond_false]
  rfl
 |(q,prs,h)::l,i,acc,hd,aB,hi,hl=>by
  obtain ⟨h1,h2,h3⟩:=fT hd
  obtain ⟨m,hr,hm⟩:=aB (q,prs,h) (by simp)
  have hge:=iR hS.nd hm
  have hr:bZ ⟨prs,h,m⟩=true:=hr
  have g:=pM hr
  have g1:=g.len;have g2:=g.wt
  simp only at g1 g2
  have w:W .i64 ((i:Int)+1)=((i+1:Nat):Int):=by rw [aK (by omega)];omega
  simp only [cw] at hl
  have hsl:=Ni f cnt prs acc
  have ih:=Nk (r:=r) (f:=f) (cnt:=cnt) hS P hP l (i+1) (gk f cnt acc prs) h2 (fun y hy=>aB y (by simp [hy])) (by omega) (by omega)
  rw [<-Ng,<-gA q prs h,<-w] at ih
  refine MW _ _ _ _ _ _ _ _ _ _ ?_ (Nm (prs:=prs) (by omega) prs 0 acc rfl (by omega) (by omega) ih)
  unfold FH
  rw [decide_eq_true (by omega),cond_true,ak (by simp),aU,DR h1,bH,qo (l:=⟨prs,h,m⟩) hS hge hr,bG]
  show some _=some _
  rw [en]
  rfl
theorem F5 {n:Nat} {r:Int} {es:Es} {ups:List IL} {b:LL} (h:WT n r es ups b) (f:Bs) (cnt:Int):bB aa al 34 [.ptr 0 0 0,.str f,.int .i64 cnt] (tM r n es)=some (mR (tM r n es) (aX (gk f cnt [] (bf b)))):=by
 obtain ⟨h1,h2⟩:=D8 h
 obtain ⟨h3,h4⟩:=rI h
 have hbl:(bM b).length=b.length:=by simp [bM]
 have:=Nk (r:=r) (f:=f) (cnt:=cnt) h.shf (bM b) (by omega) b 0 [] rfl (fun x hx=>by
  obtain ⟨m,h1,h2⟩:=zR (f:=cj) h.okF x hx
  exact ⟨m,h1,h4 _ h2⟩) (by omega) (by simp;omega)
 refine RG _ _ _ _ _ _ ?_ ⟨_,_,this,by kernel_rfl⟩
 unfold IW
 rw [cD zX (D7 h),bG,bO]
 rfl
def cS (sn:List Int):List (V × V):=sn.map fun p=>(V.int .i64 p,V.bool true)
theorem zS {p:Int}:∀{sn:List Int},p∉sn->dU (cS sn) (.int .i64 p)=some none
 | [],_=>rfl
 | a::sn,h=>by
  show ((dw (.int .i64 p) (.int .i64 a)).bind fun b=>if b then some (some (V.bool true)) else dU (cS sn) (.int .i64 p))=_
  rw [wo,decide_eq_false (fun e=>h (by simp [e])),ap]
  exact zS fun e=>h (by simp [e])
theorem zZ {p:Int}:∀{sn:List Int},p∉sn->gZ (cS sn) (.int .i64 p) (.bool true)=some (cS (sn++[p]))
 | [],_=>rfl
 | a::sn,h=>by
  show ((dw (.int .i64 p) (.int .i64 a)).bind fun q=>if q then some ((V.int .i64 a,V.bool true)::cS sn) else (gZ (cS sn) (.int .i64 p) (.bool true)).map ((V.int .i64 a,V.bool true)::·))=_
  rw [wo,decide_eq_false (fun e=>h (by simp [e])),ap,zZ fun e=>h (by simp [e])]
  rfl
abbrev gy {α:Type} (N:List α) (j:Nat) (x:α):List α:=N.take j++x::N.drop (j+1)
theorem HE {α:Type} {N:List α} {j:Nat} {x:α} (h:j < N.length):N.set j x=gy N j x:=by
 rw [List.set_eq_take_append_cons_drop,if_pos h]
theorem HD {α:Type} {N:List α} {j:Nat} {x:α} (h:N.length=j):gy N j x=N++[x]:=by
 unfold gy
 rw [jI (by omega),o7 (by omega)]
theorem ND (N:List Bs) (j:Nat) (x:Bs):(aE N).set j (V.str x)=aE (N.set j x):=by
 unfold aE;rw [List.map_set]
theorem Tp {α:Type} {l:List α} {j:Nat} {x:α} (h:l[j]? = some x):j < l.length:=(aS.1 h).1
abbrev vZ:CM:=⟨true,false,true,[3,9]⟩
theorem H5 {sn:List (V × V)} {N:List Int} {B:List Bs} {j:Nat} {p nx:Int} {lo hi:Bs} (hj:j<=2000) (hp:0<=p/\p < 100000) (hl:B.length=N.length) (h:N.length=j∨(N[j]? = some (p+1)/\B[j]? = some lo)) :
  bB aa vZ 132 [.ptr 0 0 0,.int .i64 (j:Int),.int .i64 p,.str lo,.str hi,.int .i64 nx] (fm sn (ae N) (aE B))=some (oy (true,sn,ae (gy N j nx),aE (gy B j hi))):=by
 have w:W .i64 (p+1)=p+1:=aK (by omega)
 rcases h with h | ⟨h1,h2⟩
 ·have g1:(N++[p+1])[0+j]? = some (p+1):=by rw [dI,<-h];simp
  have g2:(B++[lo])[0+j]? = some lo:=by rw [dI,<-h,<-hl];simp
  have e1:(N++[p+1]).set (0+j) nx=gy N j nx:=by
   rw [HD h,dI,<-h,Bu _ _ (bq _),iI];rfl
  have e2:(B++[lo]).set (0+j) hi=gy B j hi:=by
   rw [HD (by omega),dI,<-h,<-hl,Bu _ _ (bq _),iI];rfl
  have a1:ae N++[V.int .i64 (p+1)]=ae (N++[p+1]):=by simp [ae]
  have a2:aE B++[V.str lo]=aE (B++[lo]):=by simp [aE]
  have hs:xv (j:Int) p lo hi nx sn (ae N) (aE B)=some (.head 0 (yk (j:Int) p lo hi nx sn (ae (N++[p+1])) (aE (B++[lo])))):=by
   unfold xv
   rw [bO,decide_eq_true (by omega),cond_true,ak (by simp;omega),fp,ak (by simp;omega),w,a1,a2]
  have hb:Fs (j:Int) p lo hi nx sn (ae (N++[p+1])) (aE (B++[lo]))=some (.doneM (V.bool true) [O.box 144 (V.agg [V.mp 1,V.tail 4 0,V.tail 5 0]) false,O.map sn,O.dead,O.dead,O.row 3 (ae (gy N j nx)) 0,O.row 9 (aE (gy B j hi)) 0]):=by
   unfold Fs
   rw [bO,fp,decide_eq_false (by simp;omega),cond_false,w]
   simp only [aU,ak (show decide ((0:Int)<=(j:Int))=true by simp),ak (show decide (j < (N++[p+1]).length)=true by simp;omega),ak (show decide (j < (B++[lo]).length)=true by simp;omega),d9 g1,j5 g2,bH,ef,beq_self_eq_true,cond_true,zE,ND,e1,e2]
  exact IJ _ _ _ _ _ _ _ _ rfl ⟨_,_,ME _ _ _ _ _ _ _ _ hs (XA _ _ _ _ _ _ _ _ hb (.refl _)),by kernel_rfl⟩
 ·have l1:=Tp h1
  have g1:N[0+j]? = some (p+1):=by rw [dI];exact h1
  have g2:B[0+j]? = some lo:=by rw [dI];exact h2
  have e1:N.set (0+j) nx=gy N j nx:=by rw [dI];exact HE l1
  have e2:B.set (0+j) hi=gy B j hi:=by rw [dI];exact HE (by omega)
  have hs:xv (j:Int) p lo hi nx sn (ae N) (aE B)=some (.doneM (V.bool true) (fm sn (ae (gy N j nx)) (aE (gy B j hi)))):=by
   unfold xv
   rw [bO,fp,decide_eq_false (by omega),cond_false,w]
   simp only [aU,ak (show decide ((0:Int)<=(j:Int))=true by simp),ak (show decide (j < N.length)=true by simp;omega),ak (show decide (j < B.length)=true by simp;omega),d9 g1,j5 g2,bH,ef,beq_self_eq_true,cond_true,zE,ND,e1,e2]
  exact IJ _ _ _ _ _ _ _ _ rfl ⟨_,_,ME _ _ _ _ _ _ _ _ hs (.refl _),by kernel_rfl⟩
def eD:List IL->LL->List Int
 | [],b=>[aG b 0]
 | l::d,b=>eD d b++[aG l 0]
theorem si:∀(d:List IL) (b:LL),(eD d b).length=d.length+1
 | [],_=>rfl
 | l::d,b=>by rw [eD,cL,si d b];rfl
def ej (ups:List IL) (b:LL):List Int:=ups.flatMap bM++bM b
def Ab (lo:Bs) (b:LL):Prop:=∀z∈b,(∀x∈z.2.1,lt x.1 lo=false)/\(z.2.2=[]∨lt lo z.2.2=true)
theorem KW (x:Bs):lt x []=false:=by cases x<;>rfl
theorem ON (b:LL):Ab [] b:=fun z _=>⟨fun x _=>KW x.1,by
 cases h:z.2.2 with
 | nil=>exact .inl rfl
 | cons a r=>exact .inr rfl⟩
structure Lk (es:Es) (r:Int) (ups:List IL) (b:LL) (lo:Bs) (X sn:List Int):Prop where
 okI:∀l∈ups,cd okI l 0
 okF:cd okF b 0
 inI:∀l∈ups,kf aZ es l
 inF:kf cj es b
 ord:iJ b
 ab:Ab lo b
 ne:∀x∈b,x.2.1≠[]∨x.1=r
 two:∀l∈ups,∀x∈l,x.1≠r∨1 < x.2.length
 nd:(sn++X++ej ups b).Nodup
theorem UQ {es:Es} {r:Int} {x:Int × nI} {b:LL} {lo:Bs} {X sn:List Int} (h:Lk es r [] (x::b) lo X sn):Lk es r [] b x.2.2 X (sn++[x.1]) where
 okI:=by simp
 okF:=h.okF.2
 inI:=by simp
 inF:=fun y hy=>h.inF y (jH _ hy)
 ord:=(fP.1 h.ord).2
 ab:=fun z hz=>by
  obtain ⟨h1,h2⟩:=(fP.1 h.ord).1 z hz
  exact ⟨h2,h1.2⟩
 ne:=fun y hy=>h.ne y (by simp [hy])
 two:=by simp
 nd:=by
  have:=h.nd
  have e:(sn++X++ej [] (x::b)).Perm (sn++[x.1]++X++ej [] b):=by
   simp only [ej,List.flatMap_nil,dB,bM,cU,bc,G8]
   exact List.Perm.append_left _ nP
  exact e.nodup_iff.1 this
theorem UP {es:Es} {r:Int} {p:Int} {e:Su} {l:IL} {d:List IL} {b:LL} {lo:Bs} {X sn:List Int} (h:Lk es r (((p,e)::l)::d) b lo X sn):Lk es r d b lo (X++bM l) (sn++[p]) where
 okI:=fun l hl=>h.okI l (by simp [hl])
 okF:=h.okF
 inI:=fun l hl=>h.inI l (by simp [hl])
 inF:=h.inF
 ord:=h.ord
 ab:=h.ab
 ne:=h.ne
 two:=fun l hl=>h.two l (by simp [hl])
 nd:=by
  have:=h.nd
  have e:(sn++X++ej (((p,e)::l)::d) b).Perm (sn++[p]++(X++bM l)++ej d b):=by
   simp only [ej,ij,bM,cU,bc,G8,c8]
   exact List.Perm.append_left _ nP
  exact e.nodup_iff.1 this
theorem US {es:Es} {r:Int} {l:IL} {d:List IL} {b:LL} {hi:Bs} {X sn:List Int} (h:Lk es r d b hi (X++bM l) sn) (h1:cd okI l 0) (h2:kf aZ es l) (h3:∀x∈l,x.1≠r∨1 < x.2.length):Lk es r (l::d) b hi X sn where
 okI:=fun l' hl=>by exact (bw.1 hl).elim (fun e=>e ▸ h1) (fun hl=>h.okI _ hl)
 okF:=h.okF
 inI:=fun l' hl=>by exact (bw.1 hl).elim (fun e=>e ▸ h2) (fun hl=>h.inI _ hl)
 inF:=h.inF
 ord:=h.ord
 ab:=h.ab
 ne:=h.ne
 two:=fun l' hl=>by exact (bw.1 hl).elim (fun e=>e ▸ h3) (fun hl=>h.two _ hl)
 nd:=by
  have:=h.nd
  simpa [ej,ij,bc] using this
theorem Ir {lo:Bs}:∀{d:List IL} {s:Su} {b:LL},Dn s d b->(∀l∈d,cd okI l 0)->Ab lo b->∀y∈s,y.2=[]∨lt lo y.2=true
 | [],s,b,h,_,ha,y,hy=>by
  rw [ix h,bE] at hy
  obtain ⟨z,hz,rfl⟩:=dF.1 hy
  exact (ha z hz).2
 | l::d,s,b,h,hI,ha,y,hy=>by
  obtain ⟨e,hk⟩:=fS h
  rw [e,be] at hy
  obtain ⟨z,hz,rfl⟩:=dF.1 hy
  have hne:=gM (hI _ (bV ..)) z hz
  have hm:(z.2.getLastD (0,[]))∈aJ l:=by
   refine gw.2 ⟨z,hz,?_⟩
   rw [Bo,Ox hne]
   exact List.getLast_mem hne
  have:=Ir hk (fun x hx=>hI x (by simp [hx])) ha _ hm
  exact this
def jX (lo:Bs) (e1:Su):Bs:=(e1.getLastD (0,lo)).2
theorem Dc (lo:Bs) (a:Su) (x:Int × Bs):jX lo (a++[x])=x.2:=by simp [jX]
theorem S4 {lo:Bs} {e:Su} (h:e≠[]):jX lo e=ay e:=by
 obtain ⟨a,x,rfl⟩:∃a x,e=a++[x]:=by
  rcases dQ e with h' | ⟨l,x,h'⟩
  ·exact absurd h' h
  ·exact ⟨l,x,by simpa using h'⟩
 rw [Dc,fD _ (by simp)];rfl
section
variable {n:Nat} {r:Int} {es:Es}
abbrev lM (r:Int) (n:Nat) (es:Es) (sn N:List Int) (B:List Bs):List O:=lm r (cS sn) (ae N) (aE B) (n:Int) (aP es) (aF n (az es))
def St (f:Nat) (ups:List IL) (b:LL) (lo:Bs) (N:List Int) (B:List Bs):Prop:=N.take (f+1)=eD ups b/\B.take (f+1)=bl (f+1) lo
def tl (n:Nat) (r:Int) (es:Es) (f:Nat):Prop:=∀(ups:List IL) (b:LL) (p:Int) (h lo:Bs) (s:Su) (X sn N:List Int) (B:List Bs),ups.length=f->Dn ((p,h)::s) ups b->Lk es r ups b lo X sn->B.length=N.length->(N=[]∨St f ups b lo N B) ->
 ∃ups' b' sn',ups'.length=f/\Dn s ups' b'/\Lk es r ups' b' h X sn' /\
  bB aa vZ 85 [.ptr 0 0 0,.ptr 1 0 0,.int .i64 p,.str lo,.str h] (lM r n es sn N B) =
   some (mU ((f:Int),true,r,cS sn',(n:Int),aP es,aF n (az es),ae (eD ups' b'++N.drop (f+1)),aE (bl (f+1) h++B.drop (f+1))))
theorem UY (hS:bN n es):tl n r es 0:=by
 intro ups b p h lo s X sn N B hu hd hk hl hst
 obtain rfl:=List.length_eq_zero_iff.1 hu
 have e:=ix hd
 obtain ⟨x,b',rfl⟩:∃x b',b=x::b':=by
  cases b with
  | nil=>cases e
  | cons x b'=>exact ⟨x,b',rfl⟩
 obtain ⟨q,prs,h'⟩:=x
 rw [bE,cU] at e
 obtain ⟨e1,rfl⟩:=List.cons.inj e
 obtain ⟨rfl,rfl⟩:=Prod.mk.inj e1
 have hge:=iR hS.nd (hk.inF (p,cj (prs,h) (aG b' 0)) (bV ..))
 have hr:bZ ⟨prs,h,aG b' 0⟩=true:=hk.okF.1
 have hpk:p∈aw es:=dF.2 ⟨_,hk.inF (p,cj (prs,h) (aG b' 0)) (bV ..),rfl⟩
 have hpr:=hS.rng p hpk
 have hn:=hS.le
 have hps:p∉sn:=by
  intro hp
  have:=hk.nd
  rw [bc] at this
  exact (xW.1 this).2.2 p hp p (by simp [ej,bM]) rfl
 refine ⟨[],b',sn++[p],rfl,Dn.leaf b',UQ hk,?_⟩
 have hf:N.length=0∨(N[0]? = some (p+1)/\B[0]? = some lo):=by
  rcases hst with h0 | ⟨h1,h2⟩
  ·exact .inl (by rw [h0];rfl)
  ·refine .inr ⟨?_,?_⟩
   ·have:=congrArg (·[0]?) h1
    simpa [eD,aG,gt] using this
   ·have:=congrArg (·[0]?) h2
    simpa [gt] using this
 have hft:=H5 (sn:=cS (sn++[p])) (hi:=h) (nx:=aG b' 0) (j:=0) (by omega) (p:=p) (lo:=lo) ⟨hpr.1,by omega⟩ hl hf
 rw [show ((0:Nat):Int)=0 from rfl] at hft
 have hx:(cond ((aX prs).length==(0:Int)) true true)=true:=by cases ((aX prs).length==(0:Int))<;>rfl
 have hs0:sI p lo h r (cS sn) (ae N) (aE B) (n:Int) (aP es) (aF n (az es))=some (.head 1 (nX p lo true r (cS (sn++[p])) (ae N) (aE B) (n:Int) (aP es) (aF n (az es)) (aX prs) h (aG b' 0))):=by
  unfold sI
  rw [zZ hps,hJ,cD sd (xe hS hge),bG,qo (l:=⟨prs,h,aG b' 0⟩) hS hge hr,bG,au (Jl ⟨prs,h,aG b' 0⟩ hr),ef]
  rw [show (cj (prs,h) (aG b' 0)==bh ⟨prs,h,aG b' 0⟩)=true from beq_self_eq_true _,cond_true,beq_self_eq_true,cond_true,en]
  cases prs with
  | nil =>
   have:p=r:=by
    rcases hk.ne (p,[],h) (bV ..) with h1 | h1
    ·exact absurd rfl h1
    ·exact h1
   rw [this]
   simp
  | cons y ps =>
   have hy:=(hk.ab (p,y::ps,h) (bV ..)).1 y (bV ..)
   have i1:(y::ps)[0]? = some y:=rfl
   rw [dJ (by simp;omega),cond_false,jn i1,iN]
   rw [show Op.bytesLess y.1 lo=false from hy,i9,cond_true,decide_eq_true (by simp),cond_true]
 have hs1:FT p lo true r (cS (sn++[p])) (ae N) (aE B) (n:Int) (aP es) (aF n (az es)) (aX prs) h (aG b' 0)=some (.doneM (.tup [.int .i64 0,.bool true]) (ln r 10 11 (cS (sn++[p])) (n:Int) (aP es) (aF n (az es))++[O.box 120 (V.agg [V.sl (aX prs),V.str h,V.int .i64 (aG b' 0)]) false,O.row 3 (ae (gy N 0 (aG b' 0))) 0,O.row 9 (aE (gy B 0 h)) 0])):=by
  unfold FT
  rw [cond_true,bY K7 hft]
 refine CP _ _ _ _ _ _ _ _ _ _ (o:=.head 0 (tG p lo h r (cS sn) (ae N) (aE B) (n:Int) (aP es) (aF n (az es)))) ?_ ⟨_,_,FS _ _ _ _ _ _ _ _ _ _ hs0 (XJ _ _ _ _ _ _ _ _ _ _ _ _ _ hs1 (.refl _)),by kernel_rfl⟩
 unfold y9 j6
 rw [zS hps]
theorem XY (a:Su) (y x:Int × Bs) (b:Su):((a++[y]++x::b).dropLast.map (·.2))[a.length]? = some y.2:=by
 rw [pD,bc,gv,cJ (by simp)]
 simp
theorem XX (a:Su) (x z:Int × Bs) (b:Su):((a++x::z::b).dropLast.map (·.2))[a.length]? = some x.2:=by
 rw [pD,gv,cJ (by simp)]
 simp
theorem KR {f:Nat} (hf:f<=1100) (ih:tl n r es f) {p:Int} {e K:Su} {lo:Bs} {nx:Int} (he:e≠[]) (hel:e.length<=1000):∀(e2 e1:Su),e=e1++e2->e1≠[]->∀(d:List IL) (b:LL) (X sn N:List Int) (B:List Bs),d.length=f->Dn (e2++K) d b->Lk es r d b (jX lo e1) X sn->B.length=N.length->St f d b (jX lo e1) N B ->
  ∃d' b' sn',d'.length=f/\Dn K d' b'/\Lk es r d' b' (ay e) X sn'/\∀o,
   Go qk true 9 (fF 85) (.head 3 (qV p lo (ay e) true (f:Int) true (ae (e.map (·.1))) (e.length:Int) (e.length:Int) r (cS sn') (n:Int) (aP es) (aF n (az es)) (aE (e.dropLast.map (·.2))) (ae (e.map (·.1))) (ay e) nx (ae (eD d' b'++N.drop (f+1))) (aE (bl (f+1) (ay e)++B.drop (f+1))))) o ->
   Go qk true 9 (fF 85) (.head 3 (qV p lo (ay e) true (f:Int) true (ae (e.map (·.1))) (e.length:Int) (e1.length:Int) r (cS sn) (n:Int) (aP es) (aF n (az es)) (aE (e.dropLast.map (·.2))) (ae (e.map (·.1))) (ay e) nx (ae N) (aE B))) o
 | [],e1,hE,h0,d,b,X,sn,N,B,hdl,hd,hk,hl,hst=>by
  have e0:e=e1:=by rw [hE,c7]
  subst e0
  have hfr:jX lo e=ay e:=S4 he
  obtain ⟨h1,h2⟩:=hst
  rw [hfr] at hk h2
  refine ⟨d,b,sn,hdl,hd,hk,fun o hg=>?_⟩
  rwa [<-h1,<-h2,gP,gP] at hg
 |(q,hq)::e2,e1,hE,h0,d,b,X,sn,N,B,hdl,hd,hk,hl,hst=>by
  obtain ⟨d1,b1,sn1,hd1l,hd1,hk1,hcall⟩:=ih d b q hq (jX lo e1) (e2++K) X sn N B hdl hd hk hl (.inr hst)
  have hfr1:jX lo (e1++[(q,hq)])=hq:=Dc ..
  have hn1:(eD d1 b1).length=f+1:=by rw [si,hd1l]
  have hr1:(bl (f+1) hq).length=f+1:=by simp
  obtain ⟨d',b',sn',hdl',hd',hk',hgo⟩:=KR hf ih (p:=p) (nx:=nx) he hel e2 (e1++[(q,hq)]) (by rw [hE];simp) (by simp) d1 b1 X sn1 (eD d1 b1++N.drop (f+1)) (bl (f+1) hq++B.drop (f+1)) hd1l hd1 (by rw [hfr1];exact hk1) (by simp only [cL,fO,hn1,hr1,hl]) ⟨lX _ _ hn1,by rw [hfr1];exact lX _ _ hr1⟩
  rw [pC _ _ hn1,pC _ _ hr1] at hgo
  refine ⟨d',b',sn',hdl',hd',hk',fun o hg=>?_⟩
  have hg:=hgo o hg
  have hlen:e.length=e1.length+(e2.length+1):=by rw [hE];simp
  have hk0:(e.map (·.1))[e1.length]? = some q:=by rw [hE];simp
  have hp:0 < e1.length:=jb.2 h0
  have w:W .i64 ((e1.length:Int)+1)=((e1.length+1:Nat):Int):=by rw [aK (by omega)];omega
  have hs3:xx p lo (ay e) true (f:Int) true (ae (e.map (·.1))) (e.length:Int) (e1.length:Int) r (cS sn) (n:Int) (aP es) (aF n (az es)) (aE (e.dropLast.map (·.2))) (ae (e.map (·.1))) (ay e) nx (ae N) (aE B) =
    some (.head 4 (yu p lo (ay e) true (f:Int) true (e1.length:Int) q (jX lo e1) (ay e) (ae (e.map (·.1))) (e.length:Int) (e1.length:Int) r (cS sn) (n:Int) (aP es) (aF n (az es)) (aE (e.dropLast.map (·.2))) (ae (e.map (·.1))) (ay e) nx (ae N) (aE B))):=by
   unfold xx
   rw [decide_eq_true (by omega),cond_true,ak (by simp),aU,d9 hk0,bH]
   rcases dQ e1 with h1 | ⟨a,y,h1⟩
   ·exact absurd h1 h0
   ·have h1:e1=a++[y]:=by simpa using h1
    have wl:W .i64 ((e1.length:Int) - 1)=((a.length:Nat):Int):=by rw [h1,aK (by rw [h1] at hlen;simp at hlen |-;omega)];simp
    have hy:(e.dropLast.map (·.2))[a.length]? = some y.2:=by rw [hE,h1];exact XY ..
    rw [decide_eq_true (by omega),cond_true,wl,ak (by simp),aU,j5 hy,ef]
    have:jX lo e1=y.2:=by rw [h1];exact Dc ..
    rw [this]
  have hs4:FX p lo (ay e) true (f:Int) true (e1.length:Int) q (jX lo e1) (ay e) (ae (e.map (·.1))) (e.length:Int) (e1.length:Int) r (cS sn) (n:Int) (aP es) (aF n (az es)) (aE (e.dropLast.map (·.2))) (ae (e.map (·.1))) (ay e) nx (ae N) (aE B) =
    some (.head 5 (yw p lo (ay e) true (f:Int) true (e1.length:Int) q (jX lo e1) hq (ae (e.map (·.1))) (e.length:Int) (e1.length:Int) r (cS sn) (n:Int) (aP es) (aF n (az es)) (aE (e.dropLast.map (·.2))) (ae (e.map (·.1))) (ay e) nx (ae N) (aE B))):=by
   unfold FX
   have hsl:(aE (e.dropLast.map (·.2))).length=e.length - 1:=by rw [fp,AR]
   rw [hsl]
   cases e2 with
   | nil =>
    have:ay e=hq:=by rw [hE,fD _ (by simp)];rfl
    rw [decide_eq_false (by rw [hlen];simp),cond_false,this]
   | cons z e2 =>
    have hy:(e.dropLast.map (·.2))[e1.length]? = some hq:=by rw [hE];exact XX ..
    rw [decide_eq_true (by rw [hlen];simp;omega),cond_true,ak (by simp),aU,j5 hy,ef]
  refine M6 _ _ _ _ _ _ _ _ _ _ _ _ _ _ _ _ _ _ _ _ hs3 (XN _ _ _ _ _ _ _ _ _ _ _ _ _ _ _ _ _ _ _ _ _ _ _ _ hs4 (XP _ _ _ _ _ _ _ _ _ _ _ _ _ _ _ _ _ _ _ _ _ _ _ _ ?_ hg))
  unfold M8
  rw [bY zY hcall,cond_true,cond_true,w,dJ (by omega),cond_false]
  rw [beq_self_eq_true,bA,cond_false,cL]
  rfl
theorem UW {f:Nat} (hf:f<=1100) (ih:tl n r es f) {p:Int} {e K:Su} {lo:Bs} {nx:Int} (he:e≠[]) (hel:e.length<=1000) (d:List IL) (b:LL) (X sn N:List Int) (B:List Bs) (hdl:d.length=f) (hd:Dn (e++K) d b) (hk:Lk es r d b lo X sn) (hl:B.length=N.length) (hst:N=[]∨St f d b lo N B) :
  ∃d' b' sn',d'.length=f/\Dn K d' b'/\Lk es r d' b' (ay e) X sn'/\∀o,
   Go qk true 9 (fF 85) (.head 3 (qV p lo (ay e) true (f:Int) true (ae (e.map (·.1))) (e.length:Int) (e.length:Int) r (cS sn') (n:Int) (aP es) (aF n (az es)) (aE (e.dropLast.map (·.2))) (ae (e.map (·.1))) (ay e) nx (ae (eD d' b'++N.drop (f+1))) (aE (bl (f+1) (ay e)++B.drop (f+1))))) o ->
   Go qk true 9 (fF 85) (.head 3 (yr p lo (ay e) true (ae (e.map (·.1))) (e.length:Int) r (cS sn) (ae N) (aE B) (n:Int) (aP es) (aF n (az es)) (aE (e.dropLast.map (·.2))) (ae (e.map (·.1))) (ay e) nx)) o:=by
 obtain ⟨x,e2,hE⟩:=me he
 obtain ⟨q,hq⟩:=x
 rw [hE] at hd
 obtain ⟨d1,b1,sn1,hd1l,hd1,hk1,hcall⟩:=ih d b q hq lo (e2++K) X sn N B hdl hd hk hl hst
 have hn1:(eD d1 b1).length=f+1:=by rw [si,hd1l]
 have hr1:(bl (f+1) hq).length=f+1:=by simp
 have hfr1:jX lo [(q,hq)]=hq:=rfl
 obtain ⟨d',b',sn',hdl',hd',hk',hgo⟩:=KR hf ih (p:=p) (lo:=lo) (nx:=nx) he hel e2 [(q,hq)] hE (by simp) d1 b1 X sn1 (eD d1 b1++N.drop (f+1)) (bl (f+1) hq++B.drop (f+1)) hd1l hd1 (by rw [hfr1];exact hk1) (by simp only [cL,fO,hn1,hr1,hl]) ⟨lX _ _ hn1,by rw [hfr1];exact lX _ _ hr1⟩
 rw [pC _ _ hn1,pC _ _ hr1] at hgo
 refine ⟨d',b',sn',hdl',hd',hk',fun o hg=>?_⟩
 have hg:=hgo o hg
 have hlen:e.length=e2.length+1:=by rw [hE];simp
 have hk0:(e.map (·.1))[0]? = some q:=by rw [hE];rfl
 have hs3:FV p lo (ay e) true (ae (e.map (·.1))) (e.length:Int) r (cS sn) (ae N) (aE B) (n:Int) (aP es) (aF n (az es)) (aE (e.dropLast.map (·.2))) (ae (e.map (·.1))) (ay e) nx =
   some (.head 4 (Bz p lo (ay e) true q lo (ay e) (ae (e.map (·.1))) (e.length:Int) r (cS sn) (ae N) (aE B) (n:Int) (aP es) (aF n (az es)) (aE (e.dropLast.map (·.2))) (ae (e.map (·.1))) (ay e) nx)):=by
  unfold FV
  rw [decide_eq_true (by omega),cond_true,d9 hk0,bH]
 have hs4:FW p lo (ay e) true q lo (ay e) (ae (e.map (·.1))) (e.length:Int) r (cS sn) (ae N) (aE B) (n:Int) (aP es) (aF n (az es)) (aE (e.dropLast.map (·.2))) (ae (e.map (·.1))) (ay e) nx =
   some (.head 5 (yv p lo (ay e) true q lo hq (ae (e.map (·.1))) (e.length:Int) r (cS sn) (ae N) (aE B) (n:Int) (aP es) (aF n (az es)) (aE (e.dropLast.map (·.2))) (ae (e.map (·.1))) (ay e) nx)):=by
  unfold FW
  have hsl:(aE (e.dropLast.map (·.2))).length=e.length - 1:=by rw [fp,AR]
  rw [hsl]
  cases e2 with
  | nil =>
   have:ay e=hq:=by rw [hE];rfl
   rw [decide_eq_false (by rw [hlen];simp),cond_false,this]
  | cons z e2 =>
   have hy:(e.dropLast.map (·.2))[0]? = some hq:=by rw [hE];rfl
   rw [decide_eq_true (by rw [hlen];simp),cond_true,j5 hy,ef]
 refine XL _ _ _ _ _ _ _ _ _ _ _ _ _ _ _ _ _ hs3 (XM _ _ _ _ _ _ _ _ _ _ _ _ _ _ _ _ _ _ _ _ hs4 (XO _ _ _ _ _ _ _ _ _ _ _ _ _ _ _ _ _ _ _ _ ?_ hg))
 unfold M7
 rw [bY zY hcall,cond_true]
 rfl
theorem UX (hS:bN n es) {f:Nat} (hf:f+1<=1100) (ih:tl n r es f):tl n r es (f+1):=by
 intro ups b p h lo s X sn N B hu hd hk hl hst
 obtain ⟨l0,d,rfl⟩:∃l0 d,ups=l0::d:=by
  cases ups with
  | nil=>cases hu
  | cons a d=>exact ⟨a,d,rfl⟩
 have hdl:d.length=f:=by simpa using hu
 obtain ⟨e0,hdk⟩:=fS hd
 obtain ⟨x,l,rfl⟩:∃x l,l0=x::l:=by
  cases l0 with
  | nil=>cases e0
  | cons x l=>exact ⟨x,l,rfl⟩
 obtain ⟨q,e⟩:=x
 rw [be,cU] at e0
 obtain ⟨e1,rfl⟩:=List.cons.inj e0
 obtain ⟨rfl,rfl⟩:=Prod.mk.inj e1
 have hin:=hk.inI _ (bV ..)
 have aB:=hk.okI _ (bV ..)
 have hme:(p,aZ e (aG l 0))∈es:=hin _ (bV ..)
 have hge:=iR hS.nd hme
 obtain ⟨⟨hne,hr⟩,hokl⟩:=aB
 have hpr:=hS.rng p (dF.2 ⟨_,hme,rfl⟩)
 have hn:=hS.le
 have hsm:=lU hr
 have hel:e.length<=1000:=by have:=hsm.kids;simpa using this
 have hps:p∉sn:=by
  intro hp
  have:=hk.nd
  rw [bc] at this
  exact (xW.1 this).2.2 p hp p (by simp [ej,bM]) rfl
 have hkk:aJ ((p,e)::l)=e++aJ l:=by simp [aJ]
 rw [hkk] at hdk
 have hst0:N=[]∨St f d b lo N B:=by
  rcases hst with h0 | ⟨h1,h2⟩
  ·exact .inl h0
  ·refine .inr ⟨?_,?_⟩
   ·have:=congrArg (List.take (f+1)) h1
    rw [List.take_take,vE (by omega),eD,lX _ _ (by rw [si,hdl])] at this
    exact this
   ·have:=congrArg (List.take (f+1)) h2
    rw [List.take_take,vE (by omega),List.take_replicate,vE (by omega)] at this
    exact this
 obtain ⟨d',b',sn',hdl',hd',hk',hgo⟩:=UW (by omega) ih (p:=p) (nx:=aG l 0) hne hel d b (X++bM l) (sn++[p]) N B hdl hdk (UP hk) hl hst0
 have hkl:Dn (be l) (l::d') b':=Dn.inn _ _ _ hd'
 refine ⟨l::d',b',sn',by simp [hdl'],hkl,US hk' hokl (fun x hx=>hin x (jH _ hx)) (fun x hx=>hk.two _ (bV ..) x (jH _ hx)),?_⟩
 have hn1:(eD d' b').length=f+1:=by rw [si,hdl']
 have hr1:(bl (f+1) (ay e)).length=f+1:=by simp
 have hlN:(bl (f+1) (ay e)++B.drop (f+1)).length=(eD d' b'++N.drop (f+1)).length:=by
  simp only [cL,fO,hn1,hr1,hl]
 have hfit:(eD d' b'++N.drop (f+1)).length=f+1∨((eD d' b'++N.drop (f+1))[f+1]? = some (p+1)/\(bl (f+1) (ay e)++B.drop (f+1))[f+1]? = some lo):=by
  rcases hst with h0 | ⟨h1,h2⟩
  ·exact .inl (by rw [h0,cL,hn1];simp)
  ·refine .inr ⟨?_,?_⟩
   ·rw [cJ (by omega),hn1,iI,fN,dv]
    have:=congrArg (·[f+1]?) h1
    simp only [gt,if_pos (show f+1 < f+1+1 by omega)] at this
    rw [this,eD,cJ (by rw [si];omega),si,hdl,iI]
    rfl
   ·rw [cJ (by omega),hr1,iI,fN,dv]
    have:=congrArg (·[f+1]?) h2
    simp only [gt,if_pos (show f+1 < f+1+1 by omega)] at this
    rw [this];simp
 have hft:=H5 (sn:=cS sn') (hi:=ay e) (nx:=aG l 0) (j:=f+1) (by omega) (p:=p) (lo:=lo) ⟨hpr.1,by omega⟩ hlN hfit
 have hN2:gy (eD d' b'++N.drop (f+1)) (f+1) (aG l 0)=eD (l::d') b'++N.drop (f+1+1):=by
  unfold gy
  rw [lX _ _ hn1,qL,o7 (by omega),hn1,dB,nJ,eD,bc]
  congr 3
  omega
 have hB2:gy (bl (f+1) (ay e)++B.drop (f+1)) (f+1) (ay e)=bl (f+1+1) (ay e)++B.drop (f+1+1):=by
  unfold gy
  rw [lX _ _ hr1,qL,o7 (by omega),hr1,dB,nJ,List.replicate_succ' (n:=f+1),bc]
  congr 3
  omega
 rw [hN2,hB2] at hft
 have w:W .i64 ((f:Int)+1)=((f+1:Nat):Int):=by rw [aK (by omega)];omega
 have hs0:sI p lo (ay e) r (cS sn) (ae N) (aE B) (n:Int) (aP es) (aF n (az es))=some (.head 2 (tH p lo (ay e) true r (cS (sn++[p])) (ae N) (aE B) (n:Int) (aP es) (aF n (az es)) (aE (e.dropLast.map (·.2))) (ae (e.map (·.1))) (ay e) (aG l 0))):=by
  unfold sI
  rw [zZ hps,hJ,cD sd (xe hS hge),bG,oK (m:=ag e (aG l 0)) hS hge hr,bG,au (Jn (ag e (aG l 0)) hsm),ef]
  rw [show (aZ e (aG l 0)==bX (ag e (aG l 0)))=true from beq_self_eq_true _,cond_true,beq_self_eq_true,cond_true,fp]
  cases e with
  | nil=>exact absurd rfl hne
  | cons x e =>
   cases e with
   | nil=>rfl
   | cons y e =>
    have h1:((x::y::e).dropLast.map (·.2))[0]? = some x.2:=rfl
    have hhp:=yX hdk (fun l hl=>gM (hk.okI l (by simp [hl]))) (Af hk.ord)
    have hxne:x.2≠[]:=((fP.1 hhp).1 y (by simp)).1
    have af:lt lo x.2=true:=(Ir hdk (fun l hl=>hk.okI l (by simp [hl])) hk.ab x (by simp)).resolve_left hxne
    rw [dJ (by simp;omega),cond_false,j5 h1,ef]
    have h2:Op.bytesLess x.2 lo=false:=lK af
    have h3:(x.2==lo)=false:=by
     rw [beq_eq_false_iff_ne]
     intro h
     rw [h,gC] at af
     cases af
    rw [h2,h3]
    rfl
 have hs3:xx p lo (ay e) true (f:Int) true (ae (e.map (·.1))) (e.length:Int) (e.length:Int) r (cS sn') (n:Int) (aP es) (aF n (az es)) (aE (e.dropLast.map (·.2))) (ae (e.map (·.1))) (ay e) (aG l 0) (ae (eD d' b'++N.drop (f+1))) (aE (bl (f+1) (ay e)++B.drop (f+1))) =
   some (.doneM (.tup [.int .i64 ((f+1:Nat):Int),.bool true]) (ln r 12 13 (cS sn') (n:Int) (aP es) (aF n (az es))++[O.box 150 (V.agg [V.sl (aE (e.dropLast.map (·.2))),V.sl (ae (e.map (·.1))),V.str (ay e),V.int .i64 (aG l 0)]) false,O.dead,O.dead,O.row 3 (ae (eD (l::d') b'++N.drop (f+1+1))) 0,O.row 9 (aE (bl (f+1+1) (ay e)++B.drop (f+1+1))) 0])):=by
  unfold xx
  rw [decide_eq_false (by omega),cond_false,cond_true,w,bY K7 hft,cond_true]
  by_cases hpr:p=r
  ·rw [hpr,bne_self_eq_false,cond_false]
   have h1:1 < e.length:=(hk.two _ (bV ..) (p,e) (bV ..)).resolve_left (fun h=>h hpr)
   rw [decide_eq_true (by rw [bO,dA];omega)]
  ·rw [show (p != r)=true from bne_iff_ne.2 hpr,cond_true]
 have hs2:FU p lo (ay e) true r (cS (sn++[p])) (ae N) (aE B) (n:Int) (aP es) (aF n (az es)) (aE (e.dropLast.map (·.2))) (ae (e.map (·.1))) (ay e) (aG l 0)=some (.head 3 (yr p lo (ay e) true (ae (e.map (·.1))) (e.length:Int) r (cS (sn++[p])) (ae N) (aE B) (n:Int) (aP es) (aF n (az es)) (aE (e.dropLast.map (·.2))) (ae (e.map (·.1))) (ay e) (aG l 0))):=by
  unfold FU
  rw [bO,dA]
 have hend:=hgo _ (M6 _ _ _ _ _ _ _ _ _ _ _ _ _ _ _ _ _ _ _ _ hs3 (.refl _))
 refine CP _ _ _ _ _ _ _ _ _ _ (o:=.head 0 (tG p lo (ay e) r (cS sn) (ae N) (aE B) (n:Int) (aP es) (aF n (az es)))) ?_ ⟨_,_,FS _ _ _ _ _ _ _ _ _ _ hs0 (XK _ _ _ _ _ _ _ _ _ _ _ _ _ _ _ hs2 hend),by kernel_rfl⟩
 unfold y9 j6
 rw [zS hps]
theorem KQ (hS:bN n es):∀f,f<=1100->tl n r es f
 | 0,_=>UY hS
 | f+1,h=>UX hS h (KQ hS f (by omega))
end
theorem Wd (ups:List IL) (b:LL):aw (cB ups++aO cj b 0)=ej ups b:=by
 have h1:∀u:List IL,aw (cB u)=u.flatMap bM:=by
  intro u
  induction u with
  | nil=>rfl
  | cons l u ih =>
   rw [lx,ij,<-ih]
   show aw (aO aZ l 0++cB u)=_
   rw [aw,gv]
   exact congrArg (·++_) (D4 l 0)
 rw [aw,gv]
 exact congr (congrArg _ (h1 ups)) (D4 b 0)
theorem uN {n:Nat} {r:Int} {es:Es} {ups:List IL} {b:LL} (h:WT n r es ups b):(aw es).Perm (ej ups b):=by
 rw [<-Wd]
 exact h.rep.map _
theorem LQ {n:Nat} {r:Int} {es:Es} {ups:List IL} {b:LL} (h:WT n r es ups b):(ej ups b).Nodup:=(uN h).nodup_iff.1 h.shf.nd
theorem Mh {r:Int} {l:IL} (h:[(r,([]:Bs))]=be l):∃e,l=[(r,e)]:=by
 cases l with
 | nil=>cases h
 | cons x t =>
  cases t with
  | nil =>
   obtain ⟨q,e⟩:=x
   obtain ⟨h1,-⟩:=List.cons.inj h
   exact ⟨e,by rw [(Prod.mk.inj h1).1]⟩
  | cons y t=>simp [be] at h
theorem UR {n:Nat} {r:Int} {es:Es} {ups:List IL} {b:LL} (h:WF n r es ups b):Lk es r ups b [] [] [] where
 okI:=h.okI
 okF:=h.okF
 inI:=(rI h.toWT).1
 inF:=(rI h.toWT).2
 ord:=h.ord
 ab:=ON b
 ne:=fun x hx=>by
  by_cases hu:ups=[]
  ·right
   have hd:=h.dn
   rw [hu] at hd
   have e:=ix hd
   have:(x.1,x.2.2)∈bE b:=dF.2 ⟨x,hx,rfl⟩
   rw [<-e] at this
   exact (Prod.mk.inj (ew.1 this)).1
  ·exact .inl (h.ne hu x hx)
 two:=fun l hl x hx=>by
  cases ups with
  | nil=>cases hl
  | cons l0 d =>
   obtain ⟨e0,hd⟩:=fS h.dn
   obtain ⟨e,rfl⟩:=Mh e0
   rcases bw.1 hl with rfl | hl
   ·right
    obtain rfl:=ew.1 hx
    exact h.rt [(r,e)] (by simp) _ (ew.2 rfl)
   ·left
    intro hxr
    have:=LQ h.toWT
    rw [ej,ij,bc,show bM [(r,e)]=[r] from rfl,G8] at this
    refine (td.1 this).1 (jG _ (gw.2 ⟨l,hl,?_⟩))
    rw [<-hxr]
    exact dF.2 ⟨x,hx,rfl⟩
 nd:=by simpa using LQ h.toWT
theorem tU:∀{d:List IL} {s:Su} {b:LL},Dn s d b->(∀l∈d,cd okI l 0)->s≠[]->b≠[]
 | [],s,b,h,_,hs=>by
  rintro rfl
  exact hs (ix h)
 | l::d,s,b,h,hI,hs=>by
  obtain ⟨e,hk⟩:=fS h
  have hl:l≠[]:=by rintro rfl;exact hs e
  exact tU hk (fun x hx=>hI x (by simp [hx])) (zG hl (gM (hI _ (bV ..))))
theorem Li:∀{d:List IL} {b:LL},Dn [] d b->eD d b=bl (d.length+1) 0
 | [],b,h=>by
  have e:=ix h
  have:b=[]:=by
   cases b with
   | nil=>rfl
   | cons x b=>cases e
  rw [this];rfl
 | l::d,b,h=>by
  obtain ⟨e,hk⟩:=fS h
  have:l=[]:=by
   cases l with
   | nil=>rfl
   | cons x l=>cases e
  subst this
  rw [eD,Li hk,List.replicate_succ' (n:=(([]:IL)::d).length)]
  rfl
theorem H4 {n:Nat} {r:Int} {es:Es} {L:Nat} (hL:L<=5000):∀(k i:Nat),i+k=L ->
  Go qk true 5 (fF 40) (.head 0 (qU true (L:Int) (i:Int) r (n:Int) (aP es) (aF n (az es)) (ae (bl L 0)))) (.doneM (.int .i64 0) (tM r n es++[O.row 3 (ae (bl L 0)) 0]))
 | 0,i,h=>by
  refine FI _ _ _ _ _ _ _ _ ?_ (.refl _)
  unfold AK
  rw [decide_eq_false (by omega),cond_false,bA,cond_false]
 | k+1,i,h=>by
  have hg:(bl L (0:Int))[0+i]? = some 0:=by rw [dI,List.getElem?_replicate,if_pos (by omega)]
  have w:W .i64 ((i:Int)+1)=((i+1:Nat):Int):=by rw [aK (by omega)];omega
  refine FI _ _ _ _ _ _ _ _ ?_ (H4 hL k (i+1) (by omega))
  unfold AK
  rw [decide_eq_true (by omega),cond_true,ak (by simp),aU,ak (decide_eq_true (by rw [bO,vB];omega)),d9 hg,bH,cond_true,w]
  rfl
theorem BP {n:Nat} {r:Int} {es:Es} {ups:List IL} {b:LL} (h:WF n r es ups b):bB aa al 40 [.ptr 0 0 0] (tM r n es)=some (kY (tM r n es) 0):=by
 have hl:ups.length<=1100:=by have:=nB h.toWT;omega
 obtain ⟨d',b',sn',h1,h2,h3,h4⟩:=KQ (r:=r) h.shf ups.length hl ups b r [] [] [] [] [] [] [] rfl h.dn (UR h) rfl (.inl rfl)
 rw [Li h2,h1,List.drop_nil,List.drop_nil,c7,c7] at h4
 refine IY _ _ _ _ (o:=.head 0 (qU true ((ups.length+1:Nat):Int) ((0:Nat):Int) r (n:Int) (aP es) (aF n (az es)) (ae (bl (ups.length+1) 0)))) ?_ ⟨_,_,H4 (by omega) (ups.length+1) 0 (by omega),by kernel_rfl⟩
 unfold CE
 have h5:bB aa vZ 85 [.ptr 0 0 0,.ptr 1 0 0,.int .i64 r,.str [],.str []] (lm r [] [] [] (n:Int) (aP es) (aF n (az es)))=_:=h4
 rw [bY zY h5]
 simp only [bO,vB]
 rfl
theorem Ip {n:Nat} {r:Int} {es:Es} (hS:bN n es):∀(d:List IL) (b:LL) (p:Int) (h:Bs) (s:Su) (acc:Nat),Dn ((p,h)::s) d b->(∀l∈d,cd okI l 0)->cd okF b 0->(∀l∈d,kf aZ es l)->kf cj es b->acc+d.length<=5000 ->
  Go qk true 5 (fF 43) (.head 0 (yn (acc:Int) p r (n:Int) (aP es) (aF n (az es)))) (.doneM (.int .i64 ((acc+d.length:Nat):Int)) (tM r n es))
 | [],b,p,h,s,acc,hd,_,hF,_,hE,_=>by
  have e:=ix hd
  obtain ⟨x,b',rfl⟩:∃x b',b=x::b':=by
   cases b with
   | nil=>cases e
   | cons x b'=>exact ⟨x,b',rfl⟩
  obtain ⟨q,prs,h'⟩:=x
  rw [bE,cU] at e
  obtain ⟨e1,rfl⟩:=List.cons.inj e
  obtain ⟨rfl,rfl⟩:=Prod.mk.inj e1
  have hge:=iR hS.nd (hE (p,cj (prs,h) (aG b' 0)) (bV ..))
  have hr:bZ ⟨prs,h,aG b' 0⟩=true:=hF.1
  refine MY _ _ _ _ _ _ ?_ (.refl _)
  unfold FJ
  rw [qo (l:=⟨prs,h,aG b' 0⟩) hS hge hr,bG]
  rfl
 | l0::d,b,p,h,s,acc,hd,hI,hF,hEI,hE,hl=>by
  obtain ⟨e0,hdk⟩:=fS hd
  obtain ⟨x,l,rfl⟩:∃x l,l0=x::l:=by
   cases l0 with
   | nil=>cases e0
   | cons x l=>exact ⟨x,l,rfl⟩
  obtain ⟨q,e⟩:=x
  rw [be,cU] at e0
  obtain ⟨e1,rfl⟩:=List.cons.inj e0
  obtain ⟨rfl,rfl⟩:=Prod.mk.inj e1
  obtain ⟨⟨hne,hr⟩,_⟩:=hI _ (bV ..)
  have hge:=iR hS.nd (hEI _ (bV ..) (p,aZ e (aG l 0)) (bV ..))
  obtain ⟨y,e',rfl⟩:=me hne
  obtain ⟨q1,h1⟩:=y
  have hk:aJ ((p,(q1,h1)::e')::l)=(q1,h1)::(e'++aJ l):=by simp [aJ]
  rw [hk] at hdk
  simp only [cw] at hl
  have w:W .i64 ((acc:Int)+1)=((acc+1:Nat):Int):=by rw [aK (by omega)];omega
  have ih:=Ip (r:=r) hS d b q1 h1 _ (acc+1) hdk (fun x hx=>hI x (by simp [hx])) hF (fun x hx=>hEI x (by simp [hx])) hE (by omega)
  rw [show acc+(((p,(q1,h1)::e')::l)::d).length=acc+1+d.length by simp;omega]
  refine MY _ _ _ _ _ _ ?_ ih
  unfold FJ
  have hg:(ag ((q1,h1)::e') (aG l 0)).kids[0]? = some q1:=rfl
  rw [oK (m:=ag ((q1,h1)::e') (aG l 0)) hS hge hr,bG]
  show aH (ae (ag ((q1,h1)::e') (aG l 0)).kids) 0 _=_
  rw [d9 hg,bH,w]
theorem B8 {n:Nat} {r:Int} {es:Es} {ups:List IL} {b:LL} (h:WT n r es ups b):bB aa al 43 [.ptr 0 0 0] (tM r n es)=some (lN (tM r n es) (ups.length:Int)):=by
 have hl:=nB h
 have:=Ip (r:=r) h.shf ups b r [] [] 0 h.dn h.okI h.okF (rI h).1 (rI h).2 (by omega)
 rw [dI] at this
 exact RJ _ _ _ _ rfl ⟨_,_,this,by kernel_rfl⟩
theorem H1:∀(l:List (List Int)) (ls:List (List Int)) (i acc:Nat),ls.drop i=l->acc+(l.flatten).length<=5000->i<=ls.length->ls.length<=5000->∀o,
  Go qk true 0 (fF 86) (.head 0 (tI (ls.map fun l=>V.sl (ae l)) ((acc+l.flatten.length:Nat):Int) (ls.map fun l=>V.sl (ae l)) (ls.length:Int) (ls.length:Int))) o ->
  Go qk true 0 (fF 86) (.head 0 (tI (ls.map fun l=>V.sl (ae l)) (acc:Int) (ls.map fun l=>V.sl (ae l)) (ls.length:Int) (i:Int))) o
 | [],ls,i,acc,hd,_,hi,_,o,hg=>by
  have:=drop_nil hd
  obtain rfl:i=ls.length:=by omega
  simpa using hg
 | x::l,ls,i,acc,hd,hl,hi,hll,o,hg=>by
  obtain ⟨h1,h2,h3⟩:=fT hd
  rw [G1,cL] at hl hg
  have w:W .i64 ((i:Int)+1)=((i+1:Nat):Int):=by rw [aK (by omega)];omega
  have w2:W .i64 ((acc:Int)+((ae x).length:Int))=((acc+x.length:Nat):Int):=by rw [bO,aK (by omega)];omega
  have hi1:(ls.map fun l=>V.sl (ae l))[i]? = some (V.sl (ae x)):=by rw [dh,h1];rfl
  refine M9 _ _ _ _ _ ?_ (H1 l ls (i+1) (acc+x.length) h2 (by omega) (by omega) hll o (by rw [gG];exact hg))
  unfold AN
  rw [decide_eq_true (by omega),cond_true,ak (by simp),aU,cO hi1,pQ,w2,decide_eq_false (by omega),cond_false,w]
theorem H2:∀(l:List (List Int)) (ls:List (List Int)) (i:Nat) (acc:List Int),ls.drop i=l->acc.length+(l.flatten).length<=5000->i<=ls.length->ls.length<=5000 ->
  Go qk true 0 (fF 86) (.head 1 (vS (ls.map fun l=>V.sl (ae l)) (ls.length:Int) (i:Int) (ae acc))) (.doneM (.tail 1 0) [O.row 3 [] 0,O.row 3 (ae (acc++l.flatten)) 0])
 | [],ls,i,acc,hd,_,hi,_=>by
  have:=drop_nil hd
  refine Na _ _ _ _ ?_ (.refl _)
  unfold FZ
  rw [decide_eq_false (by omega),cond_false,List.flatten_nil,c7]
 | x::l,ls,i,acc,hd,hl,hi,hll=>by
  obtain ⟨h1,h2,h3⟩:=fT hd
  rw [G1,cL] at hl
  have w:W .i64 ((i:Int)+1)=((i+1:Nat):Int):=by rw [aK (by omega)];omega
  have hi1:(ls.map fun l=>V.sl (ae l))[i]? = some (V.sl (ae x)):=by rw [dh,h1];rfl
  rw [G1,<-bc]
  refine Na _ _ _ _ ?_ (H2 l ls (i+1) (acc++x) h2 (by rw [cL];omega) (by omega) hll)
  unfold FZ
  rw [decide_eq_true (by omega),cond_true,ak (by simp),aU,cO hi1,pQ,ak (oU _),ak (decide_eq_true (by rw [bO,bO];omega)),w,wM]
theorem PZ (ls:List (List Int)) (h0:ls≠[]) (hT:0 < ls.flatten.length) (hl:ls.flatten.length<=5000) (hll:ls.length<=5000):bB aa ⟨true,false,false,[]⟩ 86 [.sl (ls.map fun l=>V.sl (ae l))] []=some (se (ae ls.flatten)):=by
 obtain ⟨x,l,rfl⟩:=me h0
 have hi1:((x::l).map fun l=>V.sl (ae l))[0]? = some (V.sl (ae x)):=rfl
 have w0:W .i64 ((((x::l).flatten.length:Nat):Int) - 0)=(((x::l).flatten.length:Nat):Int):=by rw [aK (by omega)];omega
 have hfl:(x::l).flatten=x++l.flatten:=rfl
 have h2:=H2 l (x::l) 1 x rfl (by rw [hfl,cL] at hl;omega) (by simp) hll
 rw [<-hfl] at h2
 have hs1:FY (0 - 0) ((x::l).map fun l=>V.sl (ae l)) (((x::l).length:Nat):Int) (ae (bl (x::l).flatten.length 0))=some (.head 1 (vS ((x::l).map fun l=>V.sl (ae l)) (((x::l).length:Nat):Int) ((1:Nat):Int) (ae x))):=by
  unfold FY
  rw [decide_eq_true (by simp),cond_true,cO hi1,pQ,ak (oU _),ak (decide_eq_true (by omega)),ak (decide_eq_true (by rw [bO];rw [hfl,cL] at hl;omega))]
  rfl
 have hs0:AN ((x::l).map fun l=>V.sl (ae l)) ((0+(x::l).flatten.length:Nat):Int) ((x::l).map fun l=>V.sl (ae l)) (((x::l).length:Nat):Int) (((x::l).length:Nat):Int)=some (.head 1 (BA (0 - 0) ((x::l).map fun l=>V.sl (ae l)) (((x::l).length:Nat):Int) (ae (bl (x::l).flatten.length 0)))):=by
  unfold AN
  have hr:bl (x::l).flatten.length (V.int .i64 0)=ae (bl (x::l).flatten.length 0):=by unfold ae;rw [G5]
  rw [dI,decide_eq_false (by omega),cond_false,decide_eq_false (by omega),cond_false,w0,decide_eq_true (by omega),cond_true,ak rfl,aU,ak (decide_eq_true (by omega)),hr,ak (oU _),dA]
 have h1:=H1 (x::l) (x::l) 0 0 rfl (by omega) (by omega) hll _ (M9 _ _ _ _ _ hs0 (XQ _ _ _ _ hs1 h2))
 refine Sf _ (o:=.head 0 (tI ((x::l).map fun l=>V.sl (ae l)) ((0:Nat):Int) ((x::l).map fun l=>V.sl (ae l)) (((x::l).length:Nat):Int) ((0:Nat):Int))) ?_ ⟨_,_,h1,by kernel_rfl⟩
 unfold Ja
 rw [dA]
 rfl
theorem YC (l:List Int):(srt l).Perm l:=List.mergeSort_perm _ _
theorem YB (l:List Int):(srt l).Pairwise (·<=·):=by
 have:=List.pairwise_mergeSort (le:=fun x y:Int=>decide (x<=y)) (fun a b c h1 h2=>by simp at h1 h2 |-;omega) (fun a b=>by simp;omega) l
 exact this.imp fun h=>by simpa using h
theorem Y2 {n:Nat} {r:Int} {es:Es} {ups:List IL} {b:LL} (h:WT n r es ups b):srt (ej ups b)=gE n (az es):=by
 have h1:(gE n (az es)).Pairwise (· < ·):=by
  unfold gE
  rw [G6]
  exact (List.Pairwise.filter _ List.pairwise_lt_range).imp fun h=>by omega
 have hp:(ej ups b).Perm (gE n (az es)):=by
  refine (uN h).symm.trans ((Oz h.shf.nd (h1.imp fun h=>by omega)).2 fun p=>?_)
  unfold gE
  rw [dF]
  constructor
  ·intro hp
   have hr:=h.shf.rng p hp
   exact ⟨p.toNat,nO.2 ⟨by simp;omega,decide_eq_true (by rwa [Int.toNat_of_nonneg hr.1])⟩,Int.toNat_of_nonneg hr.1⟩
  ·rintro ⟨k,hk,rfl⟩
   exact of_decide_eq_true (nO.1 hk).2
 exact List.Perm.eq_of_pairwise (le:=(·<=·)) (fun a b _ _ h1 h2=>by omega) (YB _) (h1.imp fun h=>by omega) ((YC _).trans hp)
theorem LH {n:Nat} {r:Int} {es:Es} {ups:List IL} {b:LL} (h:WT n r es ups b):bB aa al 42 [.ptr 0 0 0] (tM r n es)=some (mS (tM r n es) (ae (gE n (az es)))):=by
 have hul:=nB h
 have hlv:kW ups b=(ups.map bM++[bM b]).map fun l=>V.sl (ae l):=by simp [kW]
 have hfl:(ups.map bM++[bM b]).flatten=ej ups b:=by simp [ej,List.flatMap]
 have hlen:=(uN h).length_eq
 have hle:=rQ h.shf
 have hn:=h.shf.le
 have hes:(aw es).length=es.length:=by simp [aw]
 have hpos:0 < (ej ups b).length:=by
  have:b≠[]:=by
   intro hb
   have:=tU h.dn h.okI (by simp)
   exact this hb
  rw [ej,cL,bM,dA]
  have:=jb.2 this
  omega
 have hc:=PZ (ups.map bM++[bM b]) (by simp) (by rw [hfl];exact hpos) (by rw [hfl];omega) (by simp;omega)
 rw [<-hlv,hfl] at hc
 refine RH _ _ _ _ (o:=.doneM (.tail 6 0) (tM r n es++[O.row 3 [] 0,O.row 3 (ae (gE n (az es))) 0])) ?_ (.done (by kernel_rfl))
 unfold IZ
 have hi:pP (ae (ej ups b))=some (ej ups b):=Kj _
 rw [cD K8 (KG h),bG,bY Vs hc,ak (decide_eq_true (by rw [bO];omega)),hi,hJ,Y2 h]
 rfl
theorem Dj {n:Nat} {r:Int} {es:Es} {ups:List IL} {b:LL} (h:WT n r es ups b) (k:Bs):∃v e,bB aa al 39 [.ptr 0 0 0,.str k] (tM r n es)=some (jq (tM r n es) (v,e)) /\
  ((e=0/\bi k=true/\(k,v)∈bf b)∨(v=[]/\((e=1/\bi k=false)∨(e=7/\bi k=true/\∀x∈bf b,x.1≠k)))):=by
 cases hk:bi k with
 | false =>
  refine ⟨[],1,IX _ _ _ _ _ (o:=.doneM (.tup [.str [],.int .i64 1]) (tM r n es)) ?_ (.done (by kernel_rfl)),.inr ⟨rfl,.inl ⟨rfl,rfl⟩⟩⟩
  unfold CC
  rw [au (gY k),cy,hk,i9,cond_true]
 | true =>
  obtain ⟨p,h',ws,pre,prs,post,q1,q2,q3,q4,q5,q6⟩:=GA h hk
  have hul:=nB h
  have hF:=h.okF
  have hO:=h.ord
  rw [q2] at hF hO
  have hr:bZ ⟨prs,h',aG post 0⟩=true:=Ac hF
  obtain ⟨c1,c2⟩:=Gz hO hF q3 q4
  have hris:=wz h.ord h.okF
  have hfl:bf b=bf pre++(prs++bf post):=by rw [q2,kK,gA]
  have hr2:nU prs:=by
   rw [hfl] at hris
   exact (du.1 (du.1 hris).2.1).1
  have hg:=JV ⟨prs,h',aG post 0⟩ hr k
  have go:∀v e,bu aa 76 [eL ⟨prs,h',aG post 0⟩,.str k]=some (.tup [.str v,.int .i64 e])->bB aa al 39 [.ptr 0 0 0,.str k] (tM r n es)=some (jq (tM r n es) (v,e)):=by
   intro v e hp
   refine IX _ _ _ _ _ (o:=.doneM (.tup [.str v,.int .i64 e]) (tM r n es++[O.row 41 [] 0,O.box 120 (eL ⟨prs,h',aG post 0⟩) false])) ?_ (.done (by kernel_rfl))
   unfold CC
   rw [au (gY k),cy,hk,bA,cond_false,cD qc (qF h.shf q6 (by omega)),bG]
   show (ai aa _ [eL ⟨prs,h',aG post 0⟩,_] _)=_
   rw [au hp,kD]
  cases hh:bQ (aD prs) k with
  | true =>
   rw [show bQ (aD (⟨prs,h',aG post 0⟩:Lf).prs) k=true from hh,if_pos rfl] at hg
   refine ⟨_,_,go _ _ hg,.inl ⟨rfl,rfl,?_⟩⟩
   obtain ⟨h2,h3⟩:=re hh
   have h2':bp (aD prs) k < prs.length:=by simpa [aD] using h2
   have hm:prs[bp (aD prs) k]∈prs:=vA h2'
   have e1:wD prs k=prs[bp (aD prs) k].2:=by unfold wD;rw [bj h2'];rfl
   have e2:prs[bp (aD prs) k].1=k:=by simpa [aD] using h3
   have e3:(k,wD prs k)=prs[bp (aD prs) k]:=by rw [e1];exact Prod.ext e2.symm rfl
   rw [hfl]
   refine mf _ (jG _ ?_)
   rw [show ((⟨prs,h',aG post 0⟩:Lf).prs)=prs from rfl,e3]
   exact hm
  | false =>
   rw [show bQ (aD (⟨prs,h',aG post 0⟩:Lf).prs) k=false from hh,if_neg (by simp)] at hg
   refine ⟨_,_,go _ _ hg,.inr ⟨rfl,.inr ⟨rfl,rfl,?_⟩⟩⟩
   intro x hx hxk
   rw [hfl] at hx
   rcases aV.1 hx with hx | hx
   ·have:=c1 x hx;rw [hxk,gC] at this;cases this
   ·rcases aV.1 hx with hx | hx
    ·rw [Dq hr2] at hh
     have:=s7.1 hh x hx
     exact this (by simp [hxk])
    ·have:=c2 x hx;rw [hxk,gC] at this;cases this
abbrev eO:=Int × Bs × Bs × Int
def gh (o:eO):V:=.agg [.int .i64 o.1,.str o.2.1,.str o.2.2.1,.int .i64 o.2.2.2]
def gN (l:List eO):List V:=l.map gh
theorem su (l:List eO):(gN l).length=l.length:=by simp [gN]
theorem PG (n:Nat):(if 20 < (n:Int) then (20:Int) else (n:Int))=((min 20 n:Nat):Int):=by split<;>omega
theorem PH (n:Nat):(if 40 < (n:Int) then (40:Int) else (n:Int))=((min 40 n:Nat):Int):=by split<;>omega
theorem Gv {α:Type} (l:List α) (c:Nat):l.take (min c l.length)=l.take c:=by
 rcases Nat.le_total c l.length with h | h
 ·rw [vE h]
 ·rw [Nat.min_eq_right h,lc,jI h]
def BY (o:eO):eO:=(o.1,o.2.1.take 20,o.2.2.1.take 40,o.2.2.2)
def iM (N:Nat) (l:List eO):List eO:=(l.take N).map BY
theorem Ly (l:List eO):((gN l).all fun x=>x.cells.all V.flat1)=true:=by simp [gN,gh,V.cells,V.flat1]
theorem Ig (N:Nat) (hN:N<=1000) (S:List eO) (hS:S.length<=maxLen):∀(d i:Nat),i+d=min N S.length ->
  Go qk false 0 (fF 14) (.head 0 (yl (gN S) (N:Int) (i:Int) (gN (iM i S)))) (.done (.fr 38 (gN (iM N S))))
 | 0,i,hi=>by
  have e:iM i S=iM N S:=by
   unfold iM
   have:i=min N S.length:=by omega
   rw [this,Gv]
  refine MG _ _ _ _ ?_ (.refl _)
  unfold Fu
  rw [su,e]
  by_cases h:i < S.length
  ·rw [decide_eq_true (by omega),cond_true,decide_eq_false (by omega),cond_false,ak (Ly _)]
  ·rw [decide_eq_false (by omega),cond_false,ak (Ly _)]
 | d+1,i,hi=>by
  have af:i < S.length:=by omega
  have h1:(gN S)[i]? = some (gh S[i]):=by simp [gN,bj af]
  have w:W .i64 ((i:Int)+1)=((i+1:Nat):Int):=by rw [aK (by omega)];omega
  have e:iM (i+1) S=iM i S++[BY S[i]]:=by
   unfold iM
   rw [G9,bj af,gv]
   rfl
  have hl:(gN (iM i S)).length<=1000:=by rw [su];simp [iM];omega
  have:=Ig N hN S hS d (i+1) (by omega)
  rw [e] at this
  refine MG _ _ _ _ ?_ this
  unfold Fu
  rw [su,decide_eq_true (by omega),cond_true,decide_eq_true (by omega),cond_true,ak (by simp),aU,cO h1,gh,mD,PG,PH,ak (by simp),aU,ak (decide_eq_true (by omega)),ak (by simp),aU,ak (decide_eq_true (by omega)),Gv,Gv,
   ak (decide_eq_true (by simp only [cw,fc];omega)),w]
  simp [gN,gh,BY]
theorem P7 (N:Nat) (hN:N<=1000) (S:List eO) (hS:S.length<=maxLen):bu aa 14 [.sl (gN S),.int .i64 (N:Int)]=some (.fr 38 (gN (iM N S))):=QZ _ _ rfl (Ig N hN S hS (min N S.length) 0 (by omega))
def iP:Es:=[(0,[76,0,0,0,0])]
theorem Oa {n:Nat} (h:WT n 0 iP [] [(0,[],[])]):WF n 0 iP [] [(0,[],[])]:=⟨h,fun q=>absurd rfl q,fun l hl=>by cases hl⟩
theorem Oh {n:Nat} (h1:1<=n) (hn:n<=1024):WT n 0 iP [] [(0,[],[])]:=by
 refine ⟨⟨hn,by simp [iP,aw],fun p hp=>by simp [iP,aw] at hp;omega⟩,?_,.leaf [(0,[],[])],by simp,⟨by unfold okF;decide,trivial⟩,by simp [iJ]⟩
 have:cB []++aO cj [(0,([],[]))] 0=iP:=by decide +kernel
 rw [this]
abbrev nM (n:Nat):List O:=[O.box 140 (V.agg [V.ptr 1 0 0,V.mp 2]) false,O.box 192 (V.agg [V.tail 3 0,V.int .i64 (n:Int)]) false,O.map [],O.row 5 (bl ((n+7) / 8) (V.int .u8 0)) 0]
theorem Pf (n:Nat):aF n (az [])=bl ((n+7) / 8) (V.int .u8 0):=by
 unfold aF
 rw [List.eq_replicate_iff]
 refine ⟨by simp,fun x hx=>?_⟩
 obtain ⟨j,_,rfl⟩:=dF.1 hx
 rfl
theorem YX {n:Nat} (h1:1<=n) (hn:n<=1024):bB aa al 131 [.ptr 0 0 0,.int .i64 0] [O.box 192 (V.agg [V.tail 1 0,V.int .i64 (n:Int)]) false,O.row 5 (aF n (az [])) 0]=some (ox ((0:Nat),0,n,aF n (dY (az []) 0 true))):=by
 obtain ⟨r1,r2⟩:=Fa n hn
 have hk:(cW n).find? (fun k=>!az [] k)=some 0:=by
  obtain ⟨m,rfl⟩:∃m,n=m+1:=⟨n - 1,by omega⟩
  rw [List.range_succ_eq_map]
  rfl
 refine QV _ _ _ ?_ ⟨_,_,Gu n hn (az []) 0 (cW n) (fun k hk=>by simpa using hk) hk,by kernel_rfl⟩
 unfold II
 rw [decide_eq_true (show (0:Int) ≥ 0 by omega),cond_true,decide_eq_true (show (0:Int) < (n:Int) by omega),bA,cond_false,r1,hJ,r2]
 rfl
theorem NO {n:Nat} (h1:1<=n) (hn:n<=1024):bB aa al 84 [.ptr 0 0 0] (nM n)=some (kZ (0,0,n,aP [(0,[])],aF n (az [(0,[])]))):=by
 have ht:az [(0,[])]=dY (az []) 0 true:=by
  funext j
  unfold dY az aw
  by_cases e:j=0
  ·subst e;rfl
  ·rw [if_neg e,decide_eq_false,decide_eq_false]
   ·simp
   ·simp;omega
 rw [ht]
 refine Se _ _ _ (o:=.doneM (.tup [.int .i64 0,.int .i64 0]) (sm n (aP [(0,[])]) (aF n (dY (az []) 0 true)))) ?_ (.done (by kernel_rfl))
 unfold I9
 have:=YX h1 hn
 rw [Pf] at this
 rw [bY K6 this,dx rfl,cond_true]
 rfl
theorem Oe {n:Nat} (h1:1<=n) (hn:n<=1024):bB aa al 78 [.ptr 0 0 0,.int .i64 0,.ifc 120 (.agg [.sl [],.str [],.int .i64 0])] (tm 0 n (aP [(0,[])]) (aF n (az [(0,[])])))=some (dV (0,n,aP iP,aF n (az iP))):=by
 have hS:bN n [(0,[])]:=⟨hn,by simp [aw],fun p hp=>by simp [aw] at hp;omega⟩
 have:=oW (r:=0) hS (p:=0) (b:=[]) (l:=rM) rfl (by decide)
 have e:aT [(0,[])] 0 (bh rM)=iP:=by decide +kernel
 rw [e] at this
 exact this
end Go.Proofs.YtlphgcjepphhcaaGreat
