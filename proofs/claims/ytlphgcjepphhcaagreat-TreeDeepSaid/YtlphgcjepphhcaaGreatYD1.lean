/-
  TreeDeep: whatever keys that rise are put into a tree, the law returns true and leaves its arguments as they were. No condition.
-/
import Derived.Test.YtlphgcjepphhcaaGreatY7
import Derived.Test.YtlphgcjepphhcaaGreatRows
import Derived.WalkKit
import Derived.ProofKit
import Derived.OpenShut
import Derived.KernelRfl
import Derived.Handed
import Derived.JoinedOf
import Derived.JoinedCond
open List renaming replicate->bH,length_append->cO,mem_append->br,mem_singleton->eV,length_take->d9
open Nat renaming le_refl->bK
open Int renaming tdiv_eq_ediv_of_nonneg->Rh,tmod_eq_emod_of_nonneg->Ri
namespace Go.Proofs.YtlphgcjepphhcaaGreat
open Go Go.Lite
set_option maxRecDepth 100000
set_option linter.unusedVariables false
def Aj (a:List UInt8) (b c d e:Int) (f:List (V × V)) (g:List V): S:=⟨(JU 4)++[V.bool false,V.junk,V.junk,V.ptr 0 0 0,V.junk,V.str a,V.int .i64 b,V.int .i64 c]++(JU 92),(tm d e f g)⟩
noncomputable def e9 (d:Int) (a:List UInt8): R :=
 gd (decide (0<=W .i64 (((307:Int).tdiv 8)))) <|
 gd (decide (W .i64 (((307:Int).tdiv 8))<=W .i64 (((307:Int).tdiv 8)))) <|
 gd (decide ((W .i64 (((307:Int).tdiv 8))).toNat<=16777216)) <|
 aT aA aF jO 84 [V.ptr 0 0 0] [O.box 140 (V.agg [V.ptr 1 0 0,V.mp 2]) false,O.box 192 (V.agg [V.tail 3 0,V.int .i64 300]) false,O.map [],O.row 5 (bH ((W .i64 (((307:Int).tdiv 8))).toNat) (V.int .u8 0)) 0] fun b =>
 cond (b.2.1 != (0:Int))
 (some (.done (V.bool false)))
 (aT aA aF ej 78 [V.ptr 0 0 0,V.int .i64 b.1,V.ifc 120 (V.agg [V.sl [],V.str [],V.int .i64 0])] (tm b.1 b.2.2.1 b.2.2.2.1 b.2.2.2.2) fun c =>
  gd (decide (0<=(if 32 < (a.length:Int) then 32 else (a.length:Int)))) <|
  gd (decide ((if 32 < (a.length:Int) then 32 else (a.length:Int)).toNat<=a.length)) <|
  some (.head 0 (Aj (a.take ((if 32 < (a.length:Int) then 32 else (a.length:Int)).toNat)) ((W .i64 (d)).tmod 120) 0 c.1 c.2.1 c.2.2.1 c.2.2.2)))
theorem Vx (a b): Ep 9 [V.int .u8 a,V.str b] (e9 a b):=ep (by kernel_rfl) (by kernel_rfl)
noncomputable def Ib (h:List UInt8) (g e a b:Int) (c:List (V × V)) (d:List V): R :=
 cond (decide (e < g))
 (gd (decide (([107,101,121]:List UInt8).length+([UInt8.ofNat (W .u8 (W .i64 (97+(W .i64 ((e.tdiv 26)))))).toNat,UInt8.ofNat (W .u8 (W .i64 (97+(e.tmod 26)))).toNat]:List UInt8).length<=4611686018427387904)) <|
  aT aA aF iG 32 [V.ptr 0 0 0,V.str ([107,101,121]++[UInt8.ofNat (W .u8 (W .i64 (97+(W .i64 ((e.tdiv 26)))))).toNat,UInt8.ofNat (W .u8 (W .i64 (97+(e.tmod 26)))).toNat]),V.str h] (tm a b c d) fun f =>
  cond (f.2.1 != (0:Int))
 (some (.done (V.bool false)))
 (some (.head 0 (Aj h g (W .i64 (e+1)) f.2.2.1 f.2.2.2.1 f.2.2.2.2.1 f.2.2.2.2.2))))
 (cf aA aF l7 46 [V.ptr 0 0 0] (tm a b c d) fun i =>
  bu (tm a b c d) <|
  cf aA aF kj 43 [V.ptr 0 0 0] (tm a b c d) fun j =>
  bu (tm a b c d) <|
  cond (decide (j<=3))
 (cf aA aF jN 42 [V.ptr 0 0 0] (tm a b c d) fun k =>
  bu (tm a b c d) <|
  cond (decide ((k.length:Int)<=W .i64 (2 * (i.length:Int))))
 (cond (decide ((i.length:Int)<=W .i64 (1+(W .i64 ((g.tdiv 2))))))
 (cf aA aF iH 34 [V.ptr 0 0 0,V.str [],V.int .i64 1000] (tm a b c d) fun l =>
  bu (tm a b c d) <|
  cond ((l.length:Int)==g)
 (cf aA aF js 40 [V.ptr 0 0 0] (tm a b c d) fun m =>
  bu (tm a b c d) <|
  cond (m==(0:Int))
 (aE aA 45 [] fun n =>
  kB n fun o =>
  some (.done (V.bool o)))
 (some (.done (V.bool false))))
 (some (.done (V.bool false))))
 (some (.done (V.bool false))))
 (some (.done (V.bool false))))
 (some (.done (V.bool false))))
theorem PW (a b c d e f g): Rd false 0 9 0 (Aj a b c d e f g) (Ib a b c d e f g):=rd (by kernel_rfl)
set_option linter.unusedSimpArgs false
def nD (i:Nat):Bs:=[107,101,121,UInt8.ofNat (97+i / 26),UInt8.ofNat (97+i % 26)]
theorem Ty:∀j,j < 120->∀i,i < j->lt (nD i) (nD j)=true:=by decide +kernel
theorem Tz:∀i,i < 120->bq (nD i)=true:=by decide +kernel
theorem Tx:∀i:Nat,i < 120->([107,101,121]++[UInt8.ofNat (W .u8 (W .i64 (97+(W .i64 (((i:Int).tdiv 26)))))).toNat,UInt8.ofNat (W .u8 (W .i64 (97+((i:Int).tmod 26)))).toNat]:Bs)=nD i:=by decide +kernel
structure Dp (v:Bs) (i:Nat) (r:Int) (es:Es) (ups:List IL) (b:LL):Prop where
 wf:WF 300 r es ups b
 rs:Rs ups b
 ln:(aK b).length=i
 lo:∀x∈aK b,∃j,j < i/\x.1=nD j
theorem Dp.sz {v:Bs} {i:Nat} {r:Int} {es:Es} {ups:List IL} {b:LL} (h:Dp v i r es ups b) (hi:i<=120):es.length<=2 * b.length/\ups.length<=2/\b.length<=1+i / 2:=by
 have h1:=XR h.wf h.rs
 rw [h.ln] at h1
 have h2:=ab6 h.wf h.rs (by omega)
 exact ⟨h2.1,h2.2,h1⟩
theorem ZK {L:List Pr} {k v:Bs} (h:∀x∈L,lt x.1 k=true) (hr:ij L):cd L k v=L++[(k,v)]:=by
 rw [B7 hr,lc (p:=fun x:Pr=>lt x.1 k) h,nF (p:=fun x:Pr=>lt k x.1) fun x hx=>ki (h x hx)]
theorem TC {v:Bs} (hv:v.length<=32) {i:Nat} (hi:i < 120) {r:Int} {es:Es} {ups:List IL} {b:LL} (h:Dp v i r es ups b):∃ok r' es' ups' b',Dp v (i+1) r' es' ups' b'/\mf 300 r es (nD i) v ok 0 r' es':=by
 obtain ⟨d1,d2,d3⟩:=h.sz (by omega)
 have hvB:dq v=true:=by unfold dq;simpa using hv
 have aD:∀x∈aK b,lt x.1 (nD i)=true:=fun x hx=>by
  obtain ⟨j,hj,e⟩:=h.lo x hx
  rw [e];exact Ty i hi j hj
 have hris:=jI h.wf.ord h.wf.okF
 obtain ⟨ok,e,r',es',ups',b',w1,w2,w3⟩:=tV h.wf (nD i) v
 rcases w3 with ⟨rfl,_,_,q1,q2,q3,_⟩ | ⟨_,_,_,_,_,q | q⟩
 ·rw [ZK aD hris] at q1
  have hw:bc [(nD i,v)]<=40:=by simp [bc,nD];omega
  refine ⟨ok,r',es',ups',b',⟨w1,q3 aD (bK 5) hw h.rs,by rw [q1,cO,h.ln];rfl,fun x hx=>?_⟩,w2⟩
  rw [q1] at hx
  rcases br.1 hx with hx | hx
  ·obtain ⟨j,hj,e⟩:=h.lo x hx
   exact ⟨j,by omega,e⟩
  ·rw [eV.1 hx];exact ⟨i,by omega,rfl⟩
 ·rw [hvB,Tz i hi] at q;exact absurd q.2 (by decide)
 ·have:=q.2.2.2;omega
theorem KE {v:Bs} (hv:v.length<=32) {k:Nat} (hk:k < 120):∀(d i:Nat),i+d=k->∀(r:Int) (es:Es) (ups:List IL) (b:LL),Dp v i r es ups b ->
  Go qk false 0 (fF 9) (.head 0 (Aj v (k:Int) (i:Int) r ((300:Nat):Int) (aZ es) (aR 300 (aM es)))) (.done (.bool true))
 | 0,i,hi,r,es,ups,b,h=>by
  obtain rfl:i=k:=by omega
  obtain ⟨d1,d2,d3⟩:=h.sz (by omega)
  have hs:=rC h.wf.toWT [] 1000
  rw [CI _ (by rw [h.ln];omega)] at hs
  have hc:=sK h.wf
  have hdp:=vj h.wf.toWT
  have hle:=BE h.wf.toWT
  have hpg:=tQ h.wf.toWT
  have htl:=pJ h.wf.shf
  have w1:W .i64 (2 * ((b.length:Nat):Int))=((2 * b.length:Nat):Int):=by rw [aU (by omega)];omega
  have w2:W .i64 (1+W .i64 ((i:Int).tdiv 2))=((1+i / 2:Nat):Int):=by
   have e:(i:Int).tdiv 2=((i / 2:Nat):Int):=by rw [Rh (by omega)];omega
   have e2:W .i64 (((i / 2:Nat)):Int)=((i / 2:Nat):Int):=aU (by omega)
   rw [e,e2,aU (by omega)];omega
  have hb:(aC (bU b)).length=b.length:=by rw [co];simp [bU]
  refine PW _ _ _ _ _ _ _ ?_ (.refl _)
  unfold Ib
  rw [decide_eq_false (by omega),cond_false,bR yv hle,bz,bR tH hdp,bz,decide_eq_true (by omega),cond_true,bR qX hpg,bz,hb,w1,co,htl,decide_eq_true (by omega),cond_true,w2,decide_eq_true (by omega),cond_true,bR nS hs,bz,cL,h.ln,cN rfl,cond_true,bR qW hc,bz,cN rfl,cond_true,aH vv,bS]
 | d+1,i,hi,r,es,ups,b,h=>by
  obtain ⟨ok,r',es',ups',b',j,hR⟩:=TC hv (by omega) h
  have w:W .i64 ((i:Int)+1)=((i+1:Nat):Int):=by rw [aU (by omega)];omega
  refine PW _ _ _ _ _ _ _ ?_ (KE hv hk d (i+1) (by omega) r' es' ups' b' j)
  unfold Ib
  rw [decide_eq_true (by omega),cond_true,aB (by simp),Tx i (by omega),bW l6 (ma hR),de rfl,cond_false,w]
theorem Tm (n:Int) (hn:(Lit.int .u8 n).wf=true) (v:Bs):bo aA 9 [.int .u8 n,.str v]=some (.bool true):=by
 have hn2:=wf8 hn
 have hk:((W .i64 n).tmod 120)=((n.toNat % 120:Nat):Int):=by
  rw [aU (by omega),Ri (by omega)];omega
 have hT:=zg (n:=300) (by omega) (by omega)
 have hW:=zk (n:=300) (by omega) (by omega)
 have hd:Dp (v.take 32) 0 0 iu [] [(0,[],[])]:=⟨zj (zm (by omega) (by omega)),OU,rfl,fun x hx=>by simp [aK] at hx⟩
 refine Vx _ _ ?_ (KE (v:=v.take 32) (by rw [d9];omega) (k:=n.toNat % 120) (by omega) (n.toNat % 120) 0 (by omega) 0 iu [] [(0,[],[])] hd)
 unfold e9
 rw [aB (by decide +kernel),aB (by decide +kernel),aB (by decide +kernel)]
 show (aT aA _ _ _ _ (nM 300) _)=_
 rw [bW pn hT,de rfl,cond_false]
 show (aT aA _ _ _ _ (tm 0 ((300:Nat):Int) (aZ [(0,[])]) (aR 300 (aM [(0,[])]))) _)=_
 rw [bW gI hW,AD,aB (by simp),aY,aB (decide_eq_true (by omega)),uv,hk]
 rfl
end Go.Proofs.YtlphgcjepphhcaaGreat
namespace Go.Proofs.YtlphgcjepphhcaaGreat
open Go Go.Lite Go.ChangeShapes Go.WideShapes Go.ChangeAt Go.RowKit
set_option linter.unusedVariables false
set_option maxRecDepth 100000
theorem tU8 {n:Nat} {vs:List V} (h:cR Tryz.prog n 5 vs):∃m,vs=[.int .u8 m]/\(Lit.int .u8 m).wf=true:=by
 cases n with
 | zero=>cases h
 | succ n=>unfold cR at h;rw [Tryz.underlying5] at h;exact h
theorem RJ {n:Nat} {x:V} (h:dD Tryz.prog n 5 x):∃m,x = .int .u8 m/\(Lit.int .u8 m).wf=true:=by
 have h2:=h.leaf (by rw [Tryz.underlying5];rfl)
 obtain ⟨m,e,w⟩:=tU8 h.1
 exact ⟨m,by rw [h2] at e;simpa using e,w⟩
theorem lq {n:Nat} {vs:List V} (h:cR Tryz.prog n 9 vs):∃s,vs=[.str s]/\s.length<=maxLen:=by
 cases n with
 | zero=>cases h
 | succ n=>unfold cR at h;rw [Tryz.underlying9] at h;exact h
theorem Al {n:Nat} {x:V} (h:dD Tryz.prog n 9 x):∃m,x = .str m/\m.length<=maxLen:=by
 have h2:=h.leaf (by rw [Tryz.underlying9];rfl)
 obtain ⟨m,e,w⟩:=lq h.1
 exact ⟨m,by rw [h2] at e;simpa using e,w⟩
theorem own:ownKnob Tryz.prog.godebug=none:=by kernel_rfl
theorem Ap {P:Program} {n:Nat} {t:TypeId} {xs:List V} (h:jz P n [t] xs):∃a,xs=[a]/\dD P n t a:=by
 match xs,h with
 | [a],h=>exact ⟨a,rfl,h.1⟩
theorem u4 {P:Program} {n:Nat} {t t':TypeId} {xs:List V} (h:jz P n [t,t'] xs):∃a b,xs=[a,b]/\dD P n t a/\dD P n t' b:=by
 match xs,h with
 | [a,b],h=>exact ⟨a,b,rfl,h.1,h.2.1⟩
theorem BF {α:Type} {l:List α} (h:l.length=1):∃a,l=[a]:=by
 match l,h with
 | [a],_=>exact ⟨a,rfl⟩
theorem vK {α:Type} {l:List α} (h:l.length=2):∃a b,l=[a,b]:=by
 match l,h with
 | [a,b],_=>exact ⟨a,b,rfl⟩
theorem aco (xs:List V) (h:jz aA.P 6 Tryz.f9.params.toList xs):bo aA 9 xs=some (.bool true):=by
 rw [Tryz.params9] at h
 obtain ⟨a,b,rfl,ha,hb⟩:=u4 h
 obtain ⟨m,rfl,hm⟩:=RJ ha
 obtain ⟨v,rfl,_⟩:=Al hb
 exact Tm m hm v
set_option maxRecDepth 100000 in
theorem acp (os:Os) (started:os.Started) (H:Type) (enc:TypeId × Value->H) :
  ReturnsInHanded {} Tryz.checked os 9 .any (Rows.treeDeepSpec.pre6 enc Tryz.prog Tryz.f9 Rows.treeDeepRow.domain false) (Rows.treeDeepSpec.post enc Tryz.prog Tryz.f9 false true false false):=by
 refine returnsInHanded_of_change (C:=Tryz.checked) own started (by kernel_rfl) Tryz.func9
  (ChangeSpec.witness6 (enc:=enc) (C:=Tryz.checked) false ⟨#[],#[.int .u8 0,.string ⟨#[]⟩],[]⟩ 8 (by kernel_rfl) (by kernel_rfl) (by kernel_rfl) (by kernel_rfl)) ?_
 intro W base args ds gs before hval hW _ _
 exact By aV 6 (by kernel_rfl) (by kernel_rfl) (s:=Rows.treeDeepSpec) rfl (by kernel_rfl) (tb:=4) (by kernel_rfl) Tryz.underlying4
  (fun H ds h=>by
   obtain ⟨a,b,rfl⟩:=vK (h.trans (by rw [Tryz.params9];rfl))
   rfl) aco W base args ds gs before hval hW
theorem treeDeep_holds:Rows.TreeDeepSaid :=
 OpenClaim.holds_of_wide 9 Tryz.f9 rfl rfl rfl rfl rfl rfl rfl ⟨rfl,rfl,rfl,rfl,rfl⟩ rfl rfl rfl rfl rfl (by kernel_rfl) Tryz.func9 (by kernel_rfl)
  (of_decide_eq_true (by kernel_rfl)) (by unfold Func.isWrapper;first | (rw [if_pos (by decide +kernel)];kernel_rfl) | (rw [if_neg (by decide +kernel)];exact ⟨rfl,rfl⟩))
  (fun os started H enc _=>acp os started H enc)
end Go.Proofs.YtlphgcjepphhcaaGreat
