/-
  TreeEmpties: whatever is put into a tree and deleted again, the law returns true and leaves its arguments as they were. No condition.
-/
import Derived.Test.YtlphgcjepphhcaaGreatY7
import Derived.Test.YtlphgcjepphhcaaGreatRows
import Derived.WalkKit
import Derived.ProofKit
import Derived.OpenShut
import Derived.KernelRfl
import Derived.Handed
import Derived.JoinedOf
import Derived.JoinedCond
open List renaming replicate->bH,eq_nil_of_length_eq_zero->m4,length_pos_iff->iM,getElem?_eq_getElem->bG,mem_of_getElem?->cH,any_eq_true->zx,length_filter_lt_length_iff_exists->Ro,length_take->d9,mem_cons->bO,not_mem_nil->zE
open Nat renaming le_trans->j4,mod_lt->w8
open Int renaming tmod_eq_emod_of_nonneg->Ri
open Bool renaming not_true->bv,and_true->oD,not_false->gi
namespace Go.Proofs.YtlphgcjepphhcaaGreat
open Go Go.Lite
set_option maxRecDepth 100000
set_option linter.unusedVariables false
def Ah (a:List V) (b c d e:Int) (f:List (V × V)) (g:List V): S:=⟨[V.sl a,V.int .i64 b,V.junk,V.junk,V.bool false,V.ptr 0 0 0,V.junk,V.ptr 1 0 0,V.junk,V.own 2,V.int .i64 c]++(JU 144),[O.box 140 (V.agg [V.ptr 3 0 0,V.mp 4]) false,O.box 128 (V.agg [V.ptr 0 0 0,V.int .i64 d]) false,O.row 41 [] 0,O.box 192 (V.agg [V.tail 5 0,V.int .i64 e]) true,O.map f,O.row 5 g 0]⟩
def xx (a:List V) (b:Int) (c:List V) (d e f:Int) (g:List (V × V)) (h:List V): S:=⟨[V.sl a,V.int .i64 b,V.junk,V.junk,V.bool false,V.ptr 0 0 0,V.junk,V.ptr 1 0 0,V.junk,V.sl c,V.int .i64 d]++(JU 144),(wm e f g h)⟩
def Ai (a b c:Int) (d:List (V × V)) (e:List V): S:=⟨[V.junk,V.int .i64 a,V.junk,V.junk,V.bool false,V.ptr 0 0 0,V.junk,V.ptr 1 0 0,V.junk,V.own 2]++(JU 145),[O.box 140 (V.agg [V.ptr 3 0 0,V.mp 4]) false,O.box 128 (V.agg [V.ptr 0 0 0,V.int .i64 b]) false,O.row 41 [] 0,O.box 192 (V.agg [V.tail 5 0,V.int .i64 c]) true,O.map d,O.row 5 e 0]⟩
def xy (a:Int) (b:List V) (c d:Int) (e:List (V × V)) (f:List V): S:=⟨[V.junk,V.int .i64 a,V.junk,V.junk,V.bool false,V.ptr 0 0 0,V.junk,V.ptr 1 0 0,V.junk,V.sl b]++(JU 145),(wm c d e f)⟩
noncomputable def e8 (c:List V) (d:Int): R :=
 gd (decide (0<=W .i64 (((207:Int).tdiv 8)))) <|
 gd (decide (W .i64 (((207:Int).tdiv 8))<=W .i64 (((207:Int).tdiv 8)))) <|
 gd (decide ((W .i64 (((207:Int).tdiv 8))).toNat<=16777216)) <|
 aT aA aF jO 84 [V.ptr 0 0 0] [O.box 140 (V.agg [V.ptr 1 0 0,V.mp 2]) false,O.box 192 (V.agg [V.tail 3 0,V.int .i64 200]) false,O.map [],O.row 5 (bH ((W .i64 (((207:Int).tdiv 8))).toNat) (V.int .u8 0)) 0] fun a =>
 cond (a.2.1 != (0:Int))
 (some (.done (V.bool false)))
 (aT aA aF ej 78 [V.ptr 0 0 0,V.int .i64 a.1,V.ifc 120 (V.agg [V.sl [],V.str [],V.int .i64 0])] (tm a.1 a.2.2.1 a.2.2.2.1 a.2.2.2.2) fun b =>
  some (.head 0 (Ah c d 0 b.1 b.2.1 b.2.2.1 b.2.2.2)))
theorem Vv (a b): Ep 8 [V.sl a,V.int .i64 b] (e8 a b):=ep (by kernel_rfl) (by kernel_rfl)
noncomputable def CG (e:List V) (f a h i:Int) (j:List (V × V)) (k:List V): R :=
 cond (decide (a < (e.length:Int)))
 (cond (decide (a < 100))
 (gd (decide (0<=a)) <|
  aS e a.toNat fun m =>
  dE m fun g s =>
  gd (decide (0<=a)) <|
  aS e a.toNat fun n =>
  dE n fun b t =>
  gd (decide (0<=(if 16 < (b.length:Int) then 16 else (b.length:Int)))) <|
  gd (decide ((if 16 < (b.length:Int) then 16 else (b.length:Int)).toNat<=g.length)) <|
  gd (decide (0<=a)) <|
  aS e a.toNat fun o =>
  dE o fun u l =>
  gd (decide (0<=a)) <|
  aS e a.toNat fun p =>
  dE p fun v d =>
  gd (decide (0<=(if 32 < (d.length:Int) then 32 else (d.length:Int)))) <|
  gd (decide ((if 32 < (d.length:Int) then 32 else (d.length:Int)).toNat<=l.length)) <|
  aT aA aF iG 32 [V.ptr 0 0 0,V.str (g.take ((if 16 < (b.length:Int) then 16 else (b.length:Int)).toNat)),V.str (l.take ((if 32 < (d.length:Int) then 32 else (d.length:Int)).toNat))] (tm h i j k) fun c =>
  cond (!((c.2.1==(0:Int))==(!((g.take ((if 16 < (b.length:Int) then 16 else (b.length:Int)).toNat))==[]))))
 (some (.done (V.bool false)))
 (cond (c.2.1==(0:Int))
 (aE aA 38 [V.sl [],V.agg [V.str (g.take ((if 16 < (b.length:Int) then 16 else (b.length:Int)).toNat)),V.str (l.take ((if 32 < (d.length:Int) then 32 else (d.length:Int)).toNat))]] fun q =>
  kF 41 q fun r =>
  some (.head 0 (xx e f r (W .i64 (a+1)) c.2.2.1 c.2.2.2.1 c.2.2.2.2.1 c.2.2.2.2.2)))
 (some (.head 0 (Ah e f (W .i64 (a+1)) c.2.2.1 c.2.2.2.1 c.2.2.2.2.1 c.2.2.2.2.2)))))
 (some (.head 1 (Ai f h i j k))))
 (some (.head 1 (Ai f h i j k)))
theorem H6 (a b c d e f g): Rd false 0 8 0 (Ah a b c d e f g) (CG a b c d e f g):=rd (by kernel_rfl)
noncomputable def H7 (e:List V) (f:Int) (g:List V) (a i j:Int) (k:List (V × V)) (l:List V): R :=
 cond (decide (a < (e.length:Int)))
 (cond (decide (a < 100))
 (gd (decide (0<=a)) <|
  aS e a.toNat fun n =>
  dE n fun h t =>
  gd (decide (0<=a)) <|
  aS e a.toNat fun o =>
  dE o fun b u =>
  gd (decide (0<=(if 16 < (b.length:Int) then 16 else (b.length:Int)))) <|
  gd (decide ((if 16 < (b.length:Int) then 16 else (b.length:Int)).toNat<=h.length)) <|
  gd (decide (0<=a)) <|
  aS e a.toNat fun p =>
  dE p fun v m =>
  gd (decide (0<=a)) <|
  aS e a.toNat fun q =>
  dE q fun w d =>
  gd (decide (0<=(if 32 < (d.length:Int) then 32 else (d.length:Int)))) <|
  gd (decide ((if 32 < (d.length:Int) then 32 else (d.length:Int)).toNat<=m.length)) <|
  aT aA aF iG 32 [V.ptr 0 0 0,V.str (h.take ((if 16 < (b.length:Int) then 16 else (b.length:Int)).toNat)),V.str (m.take ((if 32 < (d.length:Int) then 32 else (d.length:Int)).toNat))] (tm i j k l) fun c =>
  cond (!((c.2.1==(0:Int))==(!((h.take ((if 16 < (b.length:Int) then 16 else (b.length:Int)).toNat))==[]))))
 (some (.done (V.bool false)))
 (cond (c.2.1==(0:Int))
 (aE aA 38 [V.sl g,V.agg [V.str (h.take ((if 16 < (b.length:Int) then 16 else (b.length:Int)).toNat)),V.str (m.take ((if 32 < (d.length:Int) then 32 else (d.length:Int)).toNat))]] fun r =>
  kF 41 r fun s =>
  some (.head 0 (xx e f s (W .i64 (a+1)) c.2.2.1 c.2.2.2.1 c.2.2.2.2.1 c.2.2.2.2.2)))
 (some (.head 0 (xx e f g (W .i64 (a+1)) c.2.2.1 c.2.2.2.1 c.2.2.2.2.1 c.2.2.2.2.2)))))
 (some (.head 1 (xy f g i j k l))))
 (some (.head 1 (xy f g i j k l)))
theorem PT (a b c d e f g h): Rd false 0 8 0 (xx a b c d e f g h) (H7 a b c d e f g h):=rd (by kernel_rfl)
noncomputable def PU (j d a:Int) (b:List (V × V)) (c:List V): R :=
 cf aA aF jN 42 [V.ptr 0 0 0] (tm d a b c) fun e =>
 bu [O.box 140 (V.agg [V.ptr 3 0 0,V.mp 4]) false,O.box 128 (V.agg [V.ptr 0 0 0,V.int .i64 d]) false,O.row 41 [] 0,O.box 192 (V.agg [V.tail 5 0,V.int .i64 a]) true,O.map b,O.row 5 c 0] <|
 cond ((e.length:Int)==(1:Int))
 (cf aA aF kj 43 [V.ptr 0 0 0] (tm d a b c) fun f =>
  bu [O.box 140 (V.agg [V.ptr 3 0 0,V.mp 4]) false,O.box 128 (V.agg [V.ptr 0 0 0,V.int .i64 d]) false,O.row 41 [] 0,O.box 192 (V.agg [V.tail 5 0,V.int .i64 a]) true,O.map b,O.row 5 c 0] <|
  cond (f==(0:Int))
 (cf aA aF mI 44 [V.ptr 0 0 0] (sm a b c) fun g =>
  bu [O.box 140 (V.agg [V.ptr 3 0 0,V.mp 4]) false,O.box 128 (V.agg [V.ptr 0 0 0,V.int .i64 d]) false,O.row 41 [] 0,O.box 192 (V.agg [V.tail 5 0,V.int .i64 a]) true,O.map b,O.row 5 c 0] <|
  cond (g==(199:Int))
 (aE aA 45 [] fun h =>
  kB h fun i =>
  some (.done (V.bool i)))
 (some (.done (V.bool false))))
 (some (.done (V.bool false))))
 (some (.done (V.bool false)))
theorem aa1 (a b c d e): Rd false 0 8 1 (Ai a b c d e) (PU a b c d e):=rd (by kernel_rfl)
noncomputable def H8 (h:Int) (f:List V) (e b:Int) (c:List (V × V)) (d:List V): R :=
 cond (decide ((f.length:Int) > 0))
 (gd (!decide ((f.length:Int)=0)) <|
  gd (decide (0<=(W .i64 (((BitVec.ofInt (IntKind.bits .i64) h &&& BitVec.ofInt (IntKind.bits .i64) 65535).toNat:Int))).tmod (f.length:Int))) <|
  aS f (((W .i64 (((BitVec.ofInt (IntKind.bits .i64) h &&& BitVec.ofInt (IntKind.bits .i64) 65535).toNat:Int))).tmod (f.length:Int)).toNat) fun k =>
  dE k fun g i =>
  cf aA aF iI 39 [V.ptr 0 0 0,V.str g] (tm e b c d) fun j =>
  bu (wm e b c d++[O.box 41 (V.agg [V.str g,V.str i]) false]) <|
  cond (!(j.1==i))
 (some (.done (V.bool false)))
 (cond (j.2 != (0:Int))
 (some (.done (V.bool false)))
 (aT aA aF iZ 33 [V.ptr 0 0 0,V.str g] (tm e b c d) fun a =>
  cond (a.1 != (0:Int))
 (some (.done (V.bool false)))
 (cf aA aF js 40 [V.ptr 0 0 0] (tm a.2.1 a.2.2.1 a.2.2.2.1 a.2.2.2.2) fun l =>
  bu (wm a.2.1 a.2.2.1 a.2.2.2.1 a.2.2.2.2++[O.box 41 (V.agg [V.str g,V.str i]) false]) <|
  cond (l != (0:Int))
 (some (.done (V.bool false)))
 (aE aA 41 [V.sl f,V.str g] fun m =>
  kF 41 m fun n =>
  some (.head 1 (xy h n a.2.1 a.2.2.1 a.2.2.2.1 a.2.2.2.2)))))))
 (cf aA aF jN 42 [V.ptr 0 0 0] (tm e b c d) fun o =>
  bu (wm e b c d) <|
  cond ((o.length:Int)==(1:Int))
 (cf aA aF kj 43 [V.ptr 0 0 0] (tm e b c d) fun p =>
  bu (wm e b c d) <|
  cond (p==(0:Int))
 (cf aA aF mI 44 [V.ptr 0 0 0] (sm b c d) fun q =>
  bu (wm e b c d) <|
  cond (q==(199:Int))
 (aE aA 45 [] fun r =>
  kB r fun s =>
  some (.done (V.bool s)))
 (some (.done (V.bool false))))
 (some (.done (V.bool false))))
 (some (.done (V.bool false))))
theorem PV (a b c d e f): Rd false 0 8 1 (xy a b c d e f) (H8 a b c d e f):=rd (by kernel_rfl)
set_option linter.unusedSimpArgs false
theorem X9 (x:Int):∃m:Nat,m<=65535/\W .i64 (((BitVec.ofInt (IntKind.bits .i64) x &&& BitVec.ofInt (IntKind.bits .i64) 65535).toNat:Nat):Int)=(m:Int):=by
 refine ⟨(BitVec.ofInt (IntKind.bits .i64) x &&& BitVec.ofInt (IntKind.bits .i64) 65535).toNat,?_,?_⟩
 ·rw [BitVec.toNat_and]
  exact j4 Nat.and_le_right (by decide +kernel)
 ·have h:(BitVec.ofInt (IntKind.bits .i64) x &&& BitVec.ofInt (IntKind.bits .i64) 65535).toNat<=65535:=by
   rw [BitVec.toNat_and]
   exact j4 Nat.and_le_right (by decide +kernel)
  exact aU (by omega)
theorem LA {r:Int} {es:Es} {ups:List IL} {b:LL} (h:WF 200 r es ups b) (hf:aK b=[]):ups=[]/\(aC (fo 200 (aM es))).length=1/\200 - es.length=199:=by
 obtain ⟨h1,_,h2,_⟩:=IN h hf
 exact ⟨h1,by rw [co,pJ h.shf,h2],by rw [h2]⟩
theorem VB (x:Int):∀(N:Nat) (r:Int) (es:Es) (ups:List IL) (b:LL),WF 200 r es ups b->(aK b).length<=N->(aK b).length<=100 ->
  Go qk false 0 (fF 8) (.head 1 (xy x (aN (aK b)) r ((200:Nat):Int) (aZ es) (aR 200 (aM es)))) (.done (.bool true)):=by
 intro N
 induction N with
 | zero =>
  intro r es ups b h hN _
  have hf:aK b=[]:=m4 (by omega)
  obtain ⟨rfl,e2,e3⟩:=LA h hf
  have hdp:=vj h.toWT
  have hpg:=tQ h.toWT
  have hfr:=xV h.shf
  rw [e3] at hfr
  refine PV _ _ _ _ _ _ ?_ (.refl _)
  unfold H8
  rw [hf,decide_eq_false (by simp [aN]),cond_false,bR qX hpg,bz,e2,cN (by simp),cond_true,bR tH hdp,bz,cN (by simp),cond_true,bR yu hfr,bz,cN (by simp),cond_true,aH vv,bS]
 | succ N ih =>
  intro r es ups b h hN h100
  by_cases hf:aK b=[]
  ·exact ih r es ups b h (by rw [hf];simp) h100
  have hpos:=iM.2 hf
  obtain ⟨m,hm,hw⟩:=X9 x
  have hj:m % (aK b).length < (aK b).length:=w8 _ hpos
  have hti:((m:Int).tmod ((aK b).length:Int))=((m % (aK b).length:Nat):Int):=by
   rw [Ri (by omega)];rfl
  have h1:(aK b)[m % (aK b).length]? = some (aK b)[m % (aK b).length]:=bG hj
  generalize (aK b)[m % (aK b).length]=p at h1
  have hp:=cH h1
  have hk:=xT h.okF p hp
  have hget:=Mh (k:=p.1) (v:=p.2) h.toWT hp hk
  have hris:=jI h.ord h.okF
  have hhas:b9 (aW (aK b)) p.1=true:=by
   rw [oZ hris]
   exact zx.2 ⟨p,hp,by simp⟩
  obtain ⟨e,r',es',ups',b',w1,w2,w3⟩:=vi h p.1
  rcases w3 with ⟨rfl,_,_,q⟩ | ⟨_,_,_,_,q | q⟩
  rotate_left
  ·rw [hk] at q;exact absurd q.2 (by decide)
  ·rw [hhas] at q;exact absurd q.2.2 (by decide)
  have aD:(d6 p.1 (aK b)).length < (aK b).length:=by
   unfold d6
   exact Ro.2 ⟨p,hp,by simp⟩
  have hwo:=C5 (aK b) (by omega) p.1
  have ih:=ih r' es' ups' b' w1 (by rw [q];omega) (by rw [q];omega)
  rw [q] at ih
  refine PV _ _ _ _ _ _ ?_ ih
  unfold H8
  rw [cL,decide_eq_true (by omega),cond_true,aB (by simp;omega),hw,hti,aB (decide_eq_true (by omega)),aY,eA h1,eo,bR vP hget,bz,beq_self_eq_true,bv,cond_false,de rfl,cond_false,bW tG (sP w2),de rfl,cond_false]
  show (cf aA _ _ _ _ (tM r' 200 es') _)=_
  rw [bR qW (sK w1),bz,de rfl,cond_false,aH hwo,dC]
theorem LD {r:Int} {es:Es} {ups:List IL} {b:LL} (h:WF 200 r es ups b) (hF:Fk ups.reverse) {i:Nat} (hl:(aK b).length<=i) (hi:i < 100) (k v:Bs) (hk:k.length<=16) (hv:v.length<=32) :
  ∃ok e r' es' ups' b',WF 200 r' es' ups' b'/\Fk ups'.reverse/\(aK b').length<=i+1/\mf 200 r es k v ok e r' es'/\((e=0/\(k==[])=false/\aK b'=cd (aK b) k v)∨(e=1/\(k==[])=true/\aK b'=aK b)):=by
 obtain ⟨d1,d2⟩:=ab5 h hF (by omega)
 have hvB:dq v=true:=by unfold dq;simpa using hv
 obtain ⟨ok,e,r',es',ups',b',w1,w2,w3⟩:=tV h k v
 rcases w3 with ⟨rfl,q0,_,q1,_,_,q3⟩ | ⟨_,rfl,rfl,rfl,rfl,q | q⟩
 ·refine ⟨ok,0,r',es',ups',b',w1,q3 hF,?_,w2,.inl ⟨rfl,?_,q1⟩⟩
  ·rw [q1];have:=B8 (aK b) k v;omega
  ·unfold bq at q0
   cases hk:(k==[]) with
   | false=>rfl
   | true=>rw [hk] at q0;cases q0
 ·refine ⟨ok,e,_,_,_,_,w1,hF,by omega,w2,.inr ⟨q.1,?_,rfl⟩⟩
  have:=q.2
  rw [hvB,oD] at this
  unfold bq at this
  rw [decide_eq_true hk,oD] at this
  cases hk:(k==[]) with
  | true=>rfl
  | false=>rw [hk] at this;cases this
 ·have:=q.2.2.2;omega
theorem QY {L:List Pr} (h:ij L) (hl:L.length<=1000) {k v:Bs} (hk:k.length<=16):bo aA 38 [.sl (aN L),.agg [.str k,.str v]]=some (.fr 41 (aN (cd L k v))):=by
 rw [<-Q0 h]
 exact QZ L (by omega) k v (by omega)
theorem LC (x:Int) (S:List Pr) (hS:S.length<=maxLen):∀(d i:Nat),i+d=min 100 S.length->∀(r:Int) (es:Es) (ups:List IL) (b:LL),WF 200 r es ups b->Fk ups.reverse->(aK b).length<=i ->
  Go qk false 0 (fF 8) (.head 0 (xx (aN S) x (aN (aK b)) (i:Int) r ((200:Nat):Int) (aZ es) (aR 200 (aM es)))) (.done (.bool true))
 | 0,i,hi,r,es,ups,b,h,hF,hl=>by
  refine PT _ _ _ _ _ _ _ _ ?_ (VB x (aK b).length r es ups b h (by omega) (by omega))
  unfold H7
  rw [cL]
  by_cases h1:i < S.length
  ·rw [decide_eq_true (by omega),cond_true,decide_eq_false (by omega),cond_false]
  ·rw [decide_eq_false (by omega),cond_false]
 | d+1,i,hi,r,es,ups,b,h,hF,hl=>by
  have aD:i < S.length:=by omega
  have h1:S[i]? = some S[i]:=bG aD
  generalize S[i]=p at h1
  have w:W .i64 ((i:Int)+1)=((i+1:Nat):Int):=by rw [aU (by omega)];omega
  have hk16:(p.1.take 16).length<=16:=by rw [d9];omega
  have hv32:(p.2.take 32).length<=32:=by rw [d9];omega
  obtain ⟨ok,e,r',es',ups',b',w1,w2,w3,w4,w5⟩:=LD h hF hl (by omega) (p.1.take 16) (p.2.take 32) hk16 hv32
  have ih:=LC x S hS d (i+1) (by omega) r' es' ups' b' w1 w2 w3
  have hwi:=QY (v:=p.2.take 32) (jI h.ord h.okF) (by omega) hk16
  refine PT _ _ _ _ _ _ _ _ ?_ ih
  unfold H7
  rw [cL,decide_eq_true (by omega),cond_true,decide_eq_true (by omega),cond_true]
  simp only [aB (show decide (0<=(i:Int))=true by simp),aY,eA h1,eo,D7,AD]
  rw [aB (by simp),aB (decide_eq_true (by omega)),aB (by simp),aB (decide_eq_true (by omega))]
  simp only [uv]
  rw [bW l6 (ma w4)]
  rcases w5 with ⟨rfl,q1,q2⟩ | ⟨rfl,q1,q2⟩
  ·rw [q1,q2,cN rfl,gi,beq_self_eq_true,bv,cond_false,cond_true,aH hwi,dC,w]
  ·rw [q1,q2,cZ (by simp),bv,beq_self_eq_true,bv,cond_false,cond_false,w]
theorem LB (x:Int) (S:List Pr) (hS:S.length<=maxLen):∀(d i:Nat),i+d=min 100 S.length->∀(r:Int) (es:Es) (ups:List IL) (b:LL),WF 200 r es ups b->Fk ups.reverse->aK b=[] ->
  Go qk false 0 (fF 8) (.head 0 (Ah (aN S) x (i:Int) r ((200:Nat):Int) (aZ es) (aR 200 (aM es)))) (.done (.bool true))
 | 0,i,hi,r,es,ups,b,h,hF,hf=>by
  obtain ⟨rfl,e2,e3⟩:=LA h hf
  have hdp:=vj h.toWT
  have hpg:=tQ h.toWT
  have hfr:=xV h.shf
  rw [e3] at hfr
  refine H6 _ _ _ _ _ _ _ (o:=.head 1 (Ai x r ((200:Nat):Int) (aZ es) (aR 200 (aM es)))) ?_ (aa1 _ _ _ _ _ ?_ (.refl _))
  ·unfold CG
   rw [cL]
   by_cases h1:i < S.length
   ·rw [decide_eq_true (by omega),cond_true,decide_eq_false (by omega),cond_false]
   ·rw [decide_eq_false (by omega),cond_false]
  ·unfold PU
   rw [bR qX hpg,bz,e2,cN (by simp),cond_true,bR tH hdp,bz,cN (by simp),cond_true,bR yu hfr,bz,cN (by simp),cond_true,aH vv,bS]
 | d+1,i,hi,r,es,ups,b,h,hF,hf=>by
  have aD:i < S.length:=by omega
  have h1:S[i]? = some S[i]:=bG aD
  generalize S[i]=p at h1
  have w:W .i64 ((i:Int)+1)=((i+1:Nat):Int):=by rw [aU (by omega)];omega
  have hk16:(p.1.take 16).length<=16:=by rw [d9];omega
  have hv32:(p.2.take 32).length<=32:=by rw [d9];omega
  obtain ⟨ok,e,r',es',ups',b',w1,w2,w3,w4,w5⟩:=LD h hF (i:=i) (by rw [hf];simp) (by omega) (p.1.take 16) (p.2.take 32) hk16 hv32
  have hwi:=QY (v:=p.2.take 32) (jI h.ord h.okF) (by rw [hf];simp) hk16
  have hwi:bo aA 38 [.sl [],.agg [.str (p.1.take 16),.str (p.2.take 32)]]=some (.fr 41 (aN (cd [] (p.1.take 16) (p.2.take 32)))):=by
   rw [hf] at hwi;exact hwi
  rcases w5 with ⟨rfl,q1,q2⟩ | ⟨rfl,q1,q2⟩
  ·have ih:=LC x S hS d (i+1) (by omega) r' es' ups' b' w1 w2 w3
   refine H6 _ _ _ _ _ _ _ ?_ ih
   unfold CG
   rw [cL,decide_eq_true (by omega),cond_true,decide_eq_true (by omega),cond_true]
   simp only [aB (show decide (0<=(i:Int))=true by simp),aY,eA h1,eo,D7,AD]
   rw [aB (by simp),aB (decide_eq_true (by omega)),aB (by simp),aB (decide_eq_true (by omega))]
   simp only [uv]
   rw [bW l6 (ma w4),q1,q2,hf,cN rfl,gi,beq_self_eq_true,bv,cond_false,cond_true,aH hwi,dC,w]
  ·have ih:=LB x S hS d (i+1) (by omega) r' es' ups' b' w1 w2 (q2.trans hf)
   refine H6 _ _ _ _ _ _ _ ?_ ih
   unfold CG
   rw [cL,decide_eq_true (by omega),cond_true,decide_eq_true (by omega),cond_true]
   simp only [aB (show decide (0<=(i:Int))=true by simp),aY,eA h1,eo,D7,AD]
   rw [aB (by simp),aB (decide_eq_true (by omega)),aB (by simp),aB (decide_eq_true (by omega))]
   simp only [uv]
   rw [bW l6 (ma w4),q1,cZ (by simp),bv,beq_self_eq_true,bv,cond_false,cond_false,w]
theorem VC (S:List Pr) (hS:S.length<=maxLen) (x:Int):bo aA 8 [.sl (aN S),.int .i64 x]=some (.bool true):=by
 have hT:=zg (n:=200) (by omega) (by omega)
 have hW:=zk (n:=200) (by omega) (by omega)
 refine Vv _ _ ?_ (LB x S hS (min 100 S.length) 0 (by omega) 0 iu [] [(0,[],[])] (zj (zm (by omega) (by omega))) (fun l hl=>nomatch hl) rfl)
 unfold e8
 rw [aB (by decide +kernel),aB (by decide +kernel),aB (by decide +kernel)]
 show (aT aA _ _ _ _ (nM 200) _)=_
 rw [bW pn hT,de rfl,cond_false]
 show (aT aA _ _ _ _ (tm 0 ((200:Nat):Int) (aZ [(0,[])]) (aR 200 (aM [(0,[])]))) _)=_
 rw [bW gI hW]
 rfl
end Go.Proofs.YtlphgcjepphhcaaGreat
namespace Go.Proofs.YtlphgcjepphhcaaGreat
open Go Go.Lite Go.ChangeShapes Go.WideShapes Go.ChangeAt Go.RowKit
set_option linter.unusedVariables false
set_option maxRecDepth 100000
theorem pI {n:Nat} {vs:List V} (h:cR Tryz.prog n 3 vs):∃m,vs=[.int .i64 m]/\(Lit.int .i64 m).wf=true:=by
 cases n with
 | zero=>cases h
 | succ n=>unfold cR at h;rw [Tryz.underlying3] at h;exact h
theorem Ak {n:Nat} {x:V} (h:dD Tryz.prog n 3 x):∃m,x = .int .i64 m/\(Lit.int .i64 m).wf=true:=by
 have h2:=h.leaf (by rw [Tryz.underlying3];rfl)
 obtain ⟨m,e,w⟩:=pI h.1
 exact ⟨m,by rw [h2] at e;simpa using e,w⟩
theorem lq {n:Nat} {vs:List V} (h:cR Tryz.prog n 9 vs):∃s,vs=[.str s]/\s.length<=maxLen:=by
 cases n with
 | zero=>cases h
 | succ n=>unfold cR at h;rw [Tryz.underlying9] at h;exact h
theorem Al {n:Nat} {x:V} (h:dD Tryz.prog n 9 x):∃m,x = .str m/\m.length<=maxLen:=by
 have h2:=h.leaf (by rw [Tryz.underlying9];rfl)
 obtain ⟨m,e,w⟩:=lq h.1
 exact ⟨m,by rw [h2] at e;simpa using e,w⟩
theorem tPr {n:Nat} {vs:List V} (h:cR Tryz.prog n 41 vs):∃p:Pr,vs=[.str p.1,.str p.2]:=by
 cases n with
 | zero=>cases h
 | succ n =>
  unfold cR at h
  rw [Tryz.underlying41] at h
  obtain ⟨hl,hf⟩:=h
  rw [show Tryz.prog.cellsOf 41=2 by kernel_rfl] at hl
  simp only [bO,forall_eq_or_imp,zE,false_implies,implies_true,and_true,show Tryz.prog.cellsOf 9=1 by kernel_rfl] at hf
  obtain ⟨h0,h1⟩:=hf
  obtain ⟨s,e0,_⟩:=lq h0
  obtain ⟨v,e1,_⟩:=lq h1
  match vs,hl,e0,e1 with
  | [b0,b1],_,e0,e1 =>
   simp at e0 e1
   exact ⟨(s,v),by rw [e0,e1]⟩
theorem RH {n:Nat} {x:V} (h:dD Tryz.prog n 41 x):∃cs,x = .agg cs/\cR Tryz.prog n 41 cs:=by
 obtain ⟨cs,rfl⟩:=h.agg (by rw [Tryz.underlying41];rfl)
 exact ⟨cs,rfl,h.1⟩
def yC (p:Pr):V:=.agg [.str p.1,.str p.2]
theorem RG {n:Nat} {x:V} (h:dD Tryz.prog n 41 x):∃p:Pr,x=yC p/\(fun _:Pr=>True) p:=by
 obtain ⟨cs,rfl,hC⟩:=RH h
 obtain ⟨p,rfl⟩:=tPr hC
 exact ⟨p,rfl,trivial⟩
theorem MS:∀{l:List V},(∀x∈l,∃m:Pr,x=(yC) m/\(fun _:Pr=>True) m)->∃ms:List Pr,l=ms.map (yC)/\∀m∈ms,(fun _:Pr=>True) m
 | [],_=>⟨[],rfl,by simp⟩
 | x::l,h=>by
  obtain ⟨a,rfl,ha⟩:=h x (by simp)
  obtain ⟨ms,rfl,hb⟩:=MS (fun y hy=>h y (by simp [hy]):∀y∈l,_)
  refine ⟨a::ms,rfl,fun m hm=>?_⟩
  rcases bO.1 hm with rfl | hm
  ·exact ha
  ·exact hb m hm
theorem ab7 {n:Nat} {vs:List V} (h:cR Tryz.prog n 46 vs):∃ms:List Pr,vs=[.sl (ms.map (yC))]/\ms.length<=maxLen/\∀m∈ms,(fun _:Pr=>True) m:=by
 cases n with
 | zero=>cases h
 | succ n =>
  unfold cR at h
  rw [Tryz.underlying46] at h
  obtain ⟨l,rfl,hl,hx⟩:=h
  obtain ⟨ms,rfl,hm⟩:=MS fun x hm=>RG (n:=n) (hx x hm)
  exact ⟨ms,rfl,by simpa using hl,hm⟩
theorem RI {n:Nat} {x:V} (h:dD Tryz.prog n 46 x):∃ms:List Pr,x = .sl (ms.map (yC))/\ms.length<=maxLen/\∀m∈ms,(fun _:Pr=>True) m:=by
 have h2:=h.leaf (by rw [Tryz.underlying46];rfl)
 obtain ⟨m,e,w⟩:=ab7 h.1
 exact ⟨m,by rw [h2] at e;simpa using e,w⟩
theorem own:ownKnob Tryz.prog.godebug=none:=by kernel_rfl
theorem Ap {P:Program} {n:Nat} {t:TypeId} {xs:List V} (h:jz P n [t] xs):∃a,xs=[a]/\dD P n t a:=by
 match xs,h with
 | [a],h=>exact ⟨a,rfl,h.1⟩
theorem u4 {P:Program} {n:Nat} {t t':TypeId} {xs:List V} (h:jz P n [t,t'] xs):∃a b,xs=[a,b]/\dD P n t a/\dD P n t' b:=by
 match xs,h with
 | [a,b],h=>exact ⟨a,b,rfl,h.1,h.2.1⟩
theorem BF {α:Type} {l:List α} (h:l.length=1):∃a,l=[a]:=by
 match l,h with
 | [a],_=>exact ⟨a,rfl⟩
theorem vK {α:Type} {l:List α} (h:l.length=2):∃a b,l=[a,b]:=by
 match l,h with
 | [a,b],_=>exact ⟨a,b,rfl⟩
theorem acr (xs:List V) (h:jz aA.P 6 Tryz.f8.params.toList xs):bo aA 8 xs=some (.bool true):=by
 rw [Tryz.params8] at h
 obtain ⟨a,b,rfl,ha,hb⟩:=u4 h
 obtain ⟨S,rfl,hl,_⟩:=RI ha
 obtain ⟨x,rfl,_⟩:=Ak hb
 exact VC S hl x
set_option maxRecDepth 100000 in
theorem acs (os:Os) (started:os.Started) (H:Type) (enc:TypeId × Value->H) :
  ReturnsInHanded {} Tryz.checked os 8 .any (Rows.treeEmptiesSpec.pre6 enc Tryz.prog Tryz.f8 Rows.treeEmptiesRow.domain false) (Rows.treeEmptiesSpec.post enc Tryz.prog Tryz.f8 false true false false):=by
 refine returnsInHanded_of_change (C:=Tryz.checked) own started (by kernel_rfl) Tryz.func8
  (ChangeSpec.witness6 (enc:=enc) (C:=Tryz.checked) false ⟨#[],#[.slice none 0 0,.int .i64 0],[]⟩ 8 (by kernel_rfl) (by kernel_rfl) (by kernel_rfl) (by kernel_rfl)) ?_
 intro W base args ds gs before hval hW _ _
 exact By aV 6 (by kernel_rfl) (by kernel_rfl) (s:=Rows.treeEmptiesSpec) rfl (by kernel_rfl) (tb:=4) (by kernel_rfl) Tryz.underlying4
  (fun H ds h=>by
   obtain ⟨a,b,rfl⟩:=vK (h.trans (by rw [Tryz.params8];rfl))
   rfl) acr W base args ds gs before hval hW
theorem treeEmpties_holds:Rows.TreeEmptiesSaid :=
 OpenClaim.holds_of_wide 8 Tryz.f8 rfl rfl rfl rfl rfl rfl rfl ⟨rfl,rfl,rfl,rfl,rfl⟩ rfl rfl rfl rfl rfl (by kernel_rfl) Tryz.func8 (by kernel_rfl)
  (of_decide_eq_true (by kernel_rfl)) (by unfold Func.isWrapper;first | (rw [if_pos (by decide +kernel)];kernel_rfl) | (rw [if_neg (by decide +kernel)];exact ⟨rfl,rfl⟩))
  (fun os started H enc _=>acs os started H enc)
end Go.Proofs.YtlphgcjepphhcaaGreat
