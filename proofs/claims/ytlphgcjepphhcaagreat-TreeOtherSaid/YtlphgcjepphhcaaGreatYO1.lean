/-
  TreeOther: whatever is put into a tree and deleted, the law returns true and leaves its arguments as they were. No condition.
-/
import Derived.Test.YtlphgcjepphhcaaGreatY7
import Derived.Test.YtlphgcjepphhcaaGreatRows
import Derived.WalkKit
import Derived.ProofKit
import Derived.OpenShut
import Derived.KernelRfl
import Derived.Handed
import Derived.JoinedOf
import Derived.JoinedCond
open List renaming replicate->bH,mem_of_getElem?->cH,mem_cons->bO,not_mem_nil->zE
open Bool renaming not_true->bv
namespace Go.Proofs.YtlphgcjepphhcaaGreat
open Go Go.Lite
set_option maxRecDepth 100000
set_option linter.unusedVariables false
def su (a:List V) (b c d:Int) (e:List (V × V)) (f:List V): S:=⟨[V.junk,V.junk,V.bool false,V.sl a,V.ptr 0 0 0,V.junk,V.ptr 1 0 0,V.junk,V.int .i64 b]++(JU 137),(wm c d e f)⟩
def zT (a:List V) (b c d:Int) (e:List (V × V)) (f:List V): S:=⟨[V.junk,V.junk,V.bool false]++(JU 6)++[V.ptr 0 0 0,V.sl a,V.int .i64 b]++(JU 134),(tm c d e f)⟩
noncomputable def KG (c:List V): R :=
 aE aA 14 [V.sl c,V.int .i64 60] fun d =>
 kF 38 d fun e =>
 gd (decide (0<=W .i64 (((67:Int).tdiv 8)))) <|
 gd (decide (W .i64 (((67:Int).tdiv 8))<=W .i64 (((67:Int).tdiv 8)))) <|
 gd (decide ((W .i64 (((67:Int).tdiv 8))).toNat<=16777216)) <|
 aT aA aF jO 84 [V.ptr 0 0 0] [O.box 140 (V.agg [V.ptr 1 0 0,V.mp 2]) false,O.box 192 (V.agg [V.tail 3 0,V.int .i64 60]) false,O.map [],O.row 5 (bH ((W .i64 (((67:Int).tdiv 8))).toNat) (V.int .u8 0)) 0] fun a =>
 cond (a.2.1 != (0:Int))
 (some (.done (V.bool false)))
 (aT aA aF ej 78 [V.ptr 0 0 0,V.int .i64 a.1,V.ifc 120 (V.agg [V.sl [],V.str [],V.int .i64 0])] (tm a.1 a.2.2.1 a.2.2.2.1 a.2.2.2.2) fun b =>
  some (.head 0 (su e 0 b.1 b.2.1 b.2.2.1 b.2.2.2)))
theorem TW (a): Ep 11 [V.sl a] (KG a):=ep (by kernel_rfl) (by kernel_rfl)
noncomputable def yV (f:List V) (e a b:Int) (c:List (V × V)) (d:List V): R :=
 cond (decide (e < (f.length:Int)))
 (gd (decide (0<=e)) <|
  aS f e.toNat fun j =>
  k6 j fun k aj ak al =>
  cond (k==(0:Int))
 (gd (decide (0<=e)) <|
  aS f e.toNat fun l =>
  k6 l fun am m an ao =>
  gd (decide (0<=e)) <|
  aS f e.toNat fun n =>
  k6 n fun ap aq o ar =>
  aT aA aF iG 32 [V.ptr 0 0 0,V.str m,V.str o] (tm a b c d) fun g =>
  gd (decide (0<=e)) <|
  aS f e.toNat fun p =>
  k6 p fun q au av aw =>
  cond (q==(1:Int))
 (gd (decide (0<=e)) <|
  aS f e.toNat fun r =>
  k6 r fun ax s ay az =>
  aT aA aF iZ 33 [V.ptr 0 0 0,V.str s] (tm g.2.2.1 g.2.2.2.1 g.2.2.2.2.1 g.2.2.2.2.2) fun h =>
  some (.head 0 (su f (W .i64 (e+1)) h.2.1 h.2.2.1 h.2.2.2.1 h.2.2.2.2)))
 (some (.head 0 (su f (W .i64 (e+1)) g.2.2.1 g.2.2.2.1 g.2.2.2.2.1 g.2.2.2.2.2))))
 (gd (decide (0<=e)) <|
  aS f e.toNat fun t =>
  k6 t fun u a0 a1 a2 =>
  cond (u==(1:Int))
 (gd (decide (0<=e)) <|
  aS f e.toNat fun v =>
  k6 v fun a3 w a4 a5 =>
  aT aA aF iZ 33 [V.ptr 0 0 0,V.str w] (tm a b c d) fun i =>
  some (.head 0 (su f (W .i64 (e+1)) i.2.1 i.2.2.1 i.2.2.2.1 i.2.2.2.2)))
 (some (.head 0 (su f (W .i64 (e+1)) a b c d)))))
 (cf aA aF js 40 [V.ptr 0 0 0] (tm a b c d) fun x =>
  bu (wm a b c d++[O.box 128 (V.agg [V.ptr 0 0 0,V.int .i64 a]) false]) <|
  cond (x != (0:Int))
 (some (.done (V.bool false)))
 (cf aA aF kj 43 [V.ptr 0 0 0] (tm a b c d) fun y =>
  bu (wm a b c d++[O.box 128 (V.agg [V.ptr 0 0 0,V.int .i64 a]) false]) <|
  cf aA aF kj 43 [V.ptr 0 0 0] (tm a b c d) fun z =>
  bu (wm a b c d++[O.box 128 (V.agg [V.ptr 0 0 0,V.int .i64 a]) false]) <|
  cond (y != z)
 (some (.done (V.bool false)))
 (cf aA aF l7 46 [V.ptr 0 0 0] (tm a b c d) fun aa =>
  bu (wm a b c d++[O.box 128 (V.agg [V.ptr 0 0 0,V.int .i64 a]) false]) <|
  cf aA aF l7 46 [V.ptr 0 0 0] (tm a b c d) fun ab =>
  bu (wm a b c d++[O.box 128 (V.agg [V.ptr 0 0 0,V.int .i64 a]) false]) <|
  aE aA 49 [V.sl aa,V.sl ab] fun ac =>
  kB ac fun ad =>
  cond (!ad)
 (some (.done (V.bool false)))
 (cf aA aF jN 42 [V.ptr 0 0 0] (tm a b c d) fun ae =>
  bu (wm a b c d++[O.box 128 (V.agg [V.ptr 0 0 0,V.int .i64 a]) false]) <|
  cf aA aF jN 42 [V.ptr 0 0 0] (tm a b c d) fun af =>
  bu (wm a b c d++[O.box 128 (V.agg [V.ptr 0 0 0,V.int .i64 a]) false]) <|
  aE aA 49 [V.sl ae,V.sl af] fun ag =>
  kB ag fun ah =>
  cond (!ah)
 (some (.done (V.bool false)))
 (cf aA aF iH 34 [V.ptr 0 0 0,V.str [],V.int .i64 1000] (tm a b c d) fun ai =>
  bu (wm a b c d++[O.box 128 (V.agg [V.ptr 0 0 0,V.int .i64 a]) false]) <|
  some (.head 1 (zT ai 0 a b c d)))))))
theorem Cn (a b c d e f): Rd false 0 11 0 (su a b c d e f) (yV a b c d e f):=rd (by kernel_rfl)
noncomputable def Hr (b:List V) (a c d:Int) (e:List (V × V)) (f:List V): R :=
 cond (decide (a < (b.length:Int)))
 (gd (decide (0<=a)) <|
  aS b a.toNat fun h =>
  dE h fun i o =>
  cf aA aF iI 39 [V.ptr 0 0 0,V.str i] (tm c d e f) fun g =>
  bu (tm c d e f) <|
  gd (decide (0<=a)) <|
  aS b a.toNat fun j =>
  dE j fun p k =>
  cond (!(g.1==k))
 (some (.done (V.bool false)))
 (cond (g.2 != (0:Int))
 (some (.done (V.bool false)))
 (some (.head 1 (zT b (W .i64 (a+1)) c d e f)))))
 (cf aA aF iH 34 [V.ptr 0 0 0,V.str [],V.int .i64 1000] (tm c d e f) fun l =>
  bu (tm c d e f) <|
  cond ((l.length:Int)==(b.length:Int))
 (aE aA 45 [] fun m =>
  kB m fun n =>
  some (.done (V.bool n)))
 (some (.done (V.bool false))))
theorem Pd (a b c d e f): Rd false 0 11 1 (zT a b c d e f) (Hr a b c d e f):=rd (by kernel_rfl)
set_option linter.unusedSimpArgs false
theorem N6 {r:Int} {es:Es} {ups:List IL} {b:LL} (h:WF 60 r es ups b) (hl:(aK b).length<=60):∀(q:List Pr) (i:Nat),(aK b).drop i=q->i<=(aK b).length ->
  Go qk false 0 (fF 11) (.head 1 (zT (aN (aK b)) (i:Int) r ((60:Nat):Int) (aZ es) (aR 60 (aM es)))) (.done (.bool true))
 | [],i,hd,hi=>by
  have h1:=drop_nil hd
  have hs:=rC h.toWT [] 1000
  rw [CI _ (by omega)] at hs
  refine Pd _ _ _ _ _ _ ?_ (.refl _)
  unfold Hr
  rw [cL,decide_eq_false (by omega),cond_false,bR nS hs,bz,cL,cN rfl,cond_true,aH vv,bS]
 | x::q,i,hd,hi=>by
  obtain ⟨h1,h2,h3⟩:=er hd
  have hm:=cH h1
  have hkx:=xT h.okF x hm
  have w:W .i64 ((i:Int)+1)=((i+1:Nat):Int):=by rw [aU (by omega)];omega
  refine Pd _ _ _ _ _ _ ?_ (N6 h hl q (i+1) h2 (by omega))
  unfold Hr
  rw [cL,decide_eq_true (by omega),cond_true,aB (by simp),aY,eA h1,eo,bR vP (Mh (k:=x.1) (v:=x.2) h.toWT hm hkx),bz,aB (by simp),eA h1,eo,beq_self_eq_true,bv,cond_false,de rfl,cond_false,w]
theorem BY (S:List dk) (hS:S.length<=60):∀(q:List dk) (i:Nat),S.drop i=q->i<=S.length->∀(r:Int) (es:Es) (ups:List IL) (b:LL),WF 60 r es ups b->(aK b).length<=i ->
  Go qk false 0 (fF 11) (.head 0 (su (dy S) (i:Int) r ((60:Nat):Int) (aZ es) (aR 60 (aM es)))) (.done (.bool true))
 | [],i,hd,hi,r,es,ups,b,h,hb=>by
  have h1:=drop_nil hd
  have hs:=rC h.toWT [] 1000
  rw [CI _ (by omega)] at hs
  have hc:=sK h
  have hdp:=vj h.toWT
  have hle:=BE h.toWT
  have hpg:=tQ h.toWT
  have hn:=(Gj h.toWT).2
  have htl:=pJ h.shf
  have hll:=qO h.shf
  have i1:=F7 (bU b) (bU b) (by simp [bU];omega)
  have i2:=F7 (fo 60 (aM es)) (fo 60 (aM es)) (by omega)
  rw [beq_self_eq_true] at i1 i2
  refine Cn _ _ _ _ _ _ ?_ (N6 h (by omega) (aK b) 0 rfl (by omega))
  unfold yV
  rw [iJ,decide_eq_false (by omega),cond_false,bR qW hc,bz,de rfl,cond_false,bR tH hdp,bz,bR tH hdp,bz,de rfl,cond_false,bR yv hle,bz,bR yv hle,bz,aH i1,bS,bv,cond_false,
   bR qX hpg,bz,bR qX hpg,bz,aH i2,bS,bv,cond_false,bR nS hs,bz]
  rfl
 | o::q,i,hd,hi,r,es,ups,b,h,hb=>by
  obtain ⟨h1,h2,h3⟩:=er hd
  have hi1:(dy S)[i]? = some (dG o):=by simp [dy,h1]
  have w:W .i64 ((i:Int)+1)=((i+1:Nat):Int):=by rw [aU (by omega)];omega
  by_cases k0:o.1=0
  ·obtain ⟨ok,e,r',es',ups',b',hW,hR,hT⟩:=tV h o.2.1 o.2.2.1
   have:=GU hT
   refine Cn _ _ _ _ _ _ ?_ (BY S hS q (i+1) h2 (by omega) r' es' ups' b' hW (by omega))
   unfold yV
   rw [iJ,decide_eq_true (by omega),cond_true,aB (by simp),aY,cQ hi1,dG,ir,cN k0,cond_true,aB (by simp),cQ hi1,dG,ir,aB (by simp),cQ hi1,dG,ir,bW l6 (ma hR),aB (by simp),cQ hi1,dG,ir,cZ (by omega),cond_false,w]
  ·by_cases k1:o.1=1
   ·obtain ⟨e,r',es',ups',b',hW,hR,hT⟩:=vi h o.2.1
    have:=El hT
    refine Cn _ _ _ _ _ _ ?_ (BY S hS q (i+1) h2 (by omega) r' es' ups' b' hW (by omega))
    unfold yV
    rw [iJ,decide_eq_true (by omega),cond_true,aB (by simp),aY,cQ hi1,dG,ir,cZ k0,cond_false,aB (by simp),cQ hi1,dG,ir,cN k1,cond_true,aB (by simp),cQ hi1,dG,ir,bW tG (sP hR),w]
   ·refine Cn _ _ _ _ _ _ ?_ (BY S hS q (i+1) h2 (by omega) r es ups b h (by omega))
    unfold yV
    rw [iJ,decide_eq_true (by omega),cond_true,aB (by simp),aY,cQ hi1,dG,ir,cZ k0,cond_false,aB (by simp),cQ hi1,dG,ir,cZ k1,cond_false,w]
theorem Y8 (S:List dk) (hS:S.length<=maxLen):bo aA 11 [.sl (dy S)]=some (.bool true):=by
 have hcl:(gE 60 S).length<=60:=by simp [gE];omega
 have hT:=zg (n:=60) (by omega) (by omega)
 have hW:=zk (n:=60) (by omega) (by omega)
 have hc:=Kn 60 (by omega) S hS
 refine TW _ ?_ (BY (gE 60 S) hcl (gE 60 S) 0 rfl (by omega) 0 iu [] [(0,[],[])] (zj (zm (by omega) (by omega))) (by simp [aK]))
 unfold KG
 have hc:bo aA 14 [.sl (dy S),.int .i64 60]=_:=hc
 rw [aH hc,dC,aB (by decide +kernel),aB (by decide +kernel),aB (by decide +kernel)]
 show (aT aA _ _ _ _ (nM 60) _)=_
 rw [bW pn hT,de rfl,cond_false]
 show (aT aA _ _ _ _ (tm 0 ((60:Nat):Int) (aZ [(0,[])]) (aR 60 (aM [(0,[])]))) _)=_
 rw [bW gI hW]
 rfl
end Go.Proofs.YtlphgcjepphhcaaGreat
namespace Go.Proofs.YtlphgcjepphhcaaGreat
open Go Go.Lite Go.ChangeShapes Go.WideShapes Go.ChangeAt Go.RowKit
set_option linter.unusedVariables false
set_option maxRecDepth 100000
theorem pI {n:Nat} {vs:List V} (h:cR Tryz.prog n 3 vs):∃m,vs=[.int .i64 m]/\(Lit.int .i64 m).wf=true:=by
 cases n with
 | zero=>cases h
 | succ n=>unfold cR at h;rw [Tryz.underlying3] at h;exact h
theorem Ak {n:Nat} {x:V} (h:dD Tryz.prog n 3 x):∃m,x = .int .i64 m/\(Lit.int .i64 m).wf=true:=by
 have h2:=h.leaf (by rw [Tryz.underlying3];rfl)
 obtain ⟨m,e,w⟩:=pI h.1
 exact ⟨m,by rw [h2] at e;simpa using e,w⟩
theorem lq {n:Nat} {vs:List V} (h:cR Tryz.prog n 9 vs):∃s,vs=[.str s]/\s.length<=maxLen:=by
 cases n with
 | zero=>cases h
 | succ n=>unfold cR at h;rw [Tryz.underlying9] at h;exact h
theorem Al {n:Nat} {x:V} (h:dD Tryz.prog n 9 x):∃m,x = .str m/\m.length<=maxLen:=by
 have h2:=h.leaf (by rw [Tryz.underlying9];rfl)
 obtain ⟨m,e,w⟩:=lq h.1
 exact ⟨m,by rw [h2] at e;simpa using e,w⟩
theorem IE {n:Nat} {vs:List V} (h:cR Tryz.prog n 38 vs):∃o:dk,vs=[.int .i64 o.1,.str o.2.1,.str o.2.2.1,.int .i64 o.2.2.2]:=by
 cases n with
 | zero=>cases h
 | succ n =>
  unfold cR at h
  rw [Tryz.underlying38] at h
  obtain ⟨hl,hf⟩:=h
  rw [show Tryz.prog.cellsOf 38=4 by kernel_rfl] at hl
  simp only [bO,forall_eq_or_imp,zE,false_implies,implies_true,and_true,show Tryz.prog.cellsOf 3=1 by kernel_rfl,show Tryz.prog.cellsOf 9=1 by kernel_rfl] at hf
  obtain ⟨h0,h1,h2,h3⟩:=hf
  obtain ⟨k,e0,_⟩:=pI h0
  obtain ⟨s,e1,_⟩:=lq h1
  obtain ⟨v,e2,_⟩:=lq h2
  obtain ⟨m,e3,_⟩:=pI h3
  match vs,hl,e0,e1,e2,e3 with
  | [b0,b1,b2,b3],_,e0,e1,e2,e3 =>
   simp at e0 e1 e2 e3
   exact ⟨(k,s,v,m),by rw [e0,e1,e2,e3]⟩
theorem DR {n:Nat} {x:V} (h:dD Tryz.prog n 38 x):∃cs,x = .agg cs/\cR Tryz.prog n 38 cs:=by
 obtain ⟨cs,rfl⟩:=h.agg (by rw [Tryz.underlying38];rfl)
 exact ⟨cs,rfl,h.1⟩
theorem DO {n:Nat} {x:V} (h:dD Tryz.prog n 38 x):∃o:dk,x=dG o/\(fun _:dk=>True) o:=by
 obtain ⟨cs,rfl,hC⟩:=DR h
 obtain ⟨o,rfl⟩:=IE hC
 exact ⟨o,rfl,trivial⟩
theorem yl:∀{l:List V},(∀x∈l,∃m:dk,x=(dG) m/\(fun _:dk=>True) m)->∃ms:List dk,l=ms.map (dG)/\∀m∈ms,(fun _:dk=>True) m
 | [],_=>⟨[],rfl,by simp⟩
 | x::l,h=>by
  obtain ⟨a,rfl,ha⟩:=h x (by simp)
  obtain ⟨ms,rfl,hb⟩:=yl (fun y hy=>h y (by simp [hy]):∀y∈l,_)
  refine ⟨a::ms,rfl,fun m hm=>?_⟩
  rcases bO.1 hm with rfl | hm
  ·exact ha
  ·exact hb m hm
theorem IF {n:Nat} {vs:List V} (h:cR Tryz.prog n 22 vs):∃ms:List dk,vs=[.sl (ms.map (dG))]/\ms.length<=maxLen/\∀m∈ms,(fun _:dk=>True) m:=by
 cases n with
 | zero=>cases h
 | succ n =>
  unfold cR at h
  rw [Tryz.underlying22] at h
  obtain ⟨l,rfl,hl,hx⟩:=h
  obtain ⟨ms,rfl,hm⟩:=yl fun x hm=>DO (n:=n) (hx x hm)
  exact ⟨ms,rfl,by simpa using hl,hm⟩
theorem DT {n:Nat} {x:V} (h:dD Tryz.prog n 22 x):∃ms:List dk,x = .sl (ms.map (dG))/\ms.length<=maxLen/\∀m∈ms,(fun _:dk=>True) m:=by
 have h2:=h.leaf (by rw [Tryz.underlying22];rfl)
 obtain ⟨m,e,w⟩:=IF h.1
 exact ⟨m,by rw [h2] at e;simpa using e,w⟩
theorem own:ownKnob Tryz.prog.godebug=none:=by kernel_rfl
theorem Ap {P:Program} {n:Nat} {t:TypeId} {xs:List V} (h:jz P n [t] xs):∃a,xs=[a]/\dD P n t a:=by
 match xs,h with
 | [a],h=>exact ⟨a,rfl,h.1⟩
theorem u4 {P:Program} {n:Nat} {t t':TypeId} {xs:List V} (h:jz P n [t,t'] xs):∃a b,xs=[a,b]/\dD P n t a/\dD P n t' b:=by
 match xs,h with
 | [a,b],h=>exact ⟨a,b,rfl,h.1,h.2.1⟩
theorem BF {α:Type} {l:List α} (h:l.length=1):∃a,l=[a]:=by
 match l,h with
 | [a],_=>exact ⟨a,rfl⟩
theorem vK {α:Type} {l:List α} (h:l.length=2):∃a b,l=[a,b]:=by
 match l,h with
 | [a,b],_=>exact ⟨a,b,rfl⟩
theorem acw (xs:List V) (h:jz aA.P 6 Tryz.f11.params.toList xs):bo aA 11 xs=some (.bool true):=by
 rw [Tryz.params11] at h
 obtain ⟨a,rfl,ha⟩:=Ap h
 obtain ⟨S,rfl,hl,_⟩:=DT ha
 exact Y8 S hl
set_option maxRecDepth 100000 in
theorem acx (os:Os) (started:os.Started) (H:Type) (enc:TypeId × Value->H) :
  ReturnsInHanded {} Tryz.checked os 11 .any (Rows.treeOtherSpec.pre6 enc Tryz.prog Tryz.f11 Rows.treeOtherRow.domain false) (Rows.treeOtherSpec.post enc Tryz.prog Tryz.f11 false true false false):=by
 refine returnsInHanded_of_change (C:=Tryz.checked) own started (by kernel_rfl) Tryz.func11
  (ChangeSpec.witness6 (enc:=enc) (C:=Tryz.checked) false ⟨#[],#[.slice none 0 0],[]⟩ 8 (by kernel_rfl) (by kernel_rfl) (by kernel_rfl) (by kernel_rfl)) ?_
 intro W base args ds gs before hval hW _ _
 exact By aV 6 (by kernel_rfl) (by kernel_rfl) (s:=Rows.treeOtherSpec) rfl (by kernel_rfl) (tb:=4) (by kernel_rfl) Tryz.underlying4
  (fun H ds h=>by
   obtain ⟨a,rfl⟩:=BF (h.trans (by rw [Tryz.params11];rfl))
   rfl) acw W base args ds gs before hval hW
theorem treeOther_holds:Rows.TreeOtherSaid :=
 OpenClaim.holds_of_wide 11 Tryz.f11 rfl rfl rfl rfl rfl rfl rfl ⟨rfl,rfl,rfl,rfl,rfl⟩ rfl rfl rfl rfl rfl (by kernel_rfl) Tryz.func11 (by kernel_rfl)
  (of_decide_eq_true (by kernel_rfl)) (by unfold Func.isWrapper;first | (rw [if_pos (by decide +kernel)];kernel_rfl) | (rw [if_neg (by decide +kernel)];exact ⟨rfl,rfl⟩))
  (fun os started H enc _=>acx os started H enc)
end Go.Proofs.YtlphgcjepphhcaaGreat
