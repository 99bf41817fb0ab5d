/-
  TreeOther: whatever is put into a tree and deleted, the law returns true and leaves its arguments as they were. No condition.
-/
import Derived.Test.YtlphgcjepphhcaaGreatY7
import Derived.Test.YtlphgcjepphhcaaGreatRows
import Derived.WalkKit
import Derived.ProofKit
import Derived.OpenShut
import Derived.KernelRfl
import Derived.Handed
import Derived.JoinedOf
import Derived.JoinedCond
open List renaming replicate->bl,mem_of_getElem?->cf,mem_cons->bw
open Bool renaming not_true->bA
namespace Go.Proofs.YtlphgcjepphhcaaGreat
open Go Go.Lite
set_option maxRecDepth 100000
set_option linter.unusedVariables false
def qR (x3:List V) (x8 m1_1 m2_1:Int) (m3:List (V × V)) (m4:List V):S:=⟨[V.junk,V.junk,V.bool false,V.sl x3,V.ptr 0 0 0,V.junk,V.ptr 1 0 0,V.junk,V.int .i64 x8]++(JU 137),(wm m1_1 m2_1 m3 m4)⟩
def yh (x10:List V) (x11 m0_1 m2_1:Int) (m3:List (V × V)) (m4:List V):S:=⟨[V.junk,V.junk,V.bool false]++(JU 6)++[V.ptr 0 0 0,V.sl x10,V.int .i64 x11]++(JU 134),(tm m0_1 m2_1 m3 m4)⟩
noncomputable def Iw (a0:List V):R :=
 ai aa 14 [V.sl a0,V.int .i64 60] fun r =>
 kF 38 r fun r14 =>
 gd (decide (0<=W .i64 (((67:Int).tdiv 8)))) <|
 gd (decide (W .i64 (((67:Int).tdiv 8))<=W .i64 (((67:Int).tdiv 8)))) <|
 gd (decide ((W .i64 (((67:Int).tdiv 8))).toNat<=16777216)) <|
 aI aa al kZ 84 [V.ptr 0 0 0] [O.box 140 (V.agg [V.ptr 1 0 0,V.mp 2]) false,O.box 192 (V.agg [V.tail 3 0,V.int .i64 60]) false,O.map [],O.row 5 (bl ((W .i64 (((67:Int).tdiv 8))).toNat) (V.int .u8 0)) 0] fun L =>
 cond (L.2.1 != (0:Int))
 (some (.done (V.bool false)))
 (aI aa al dV 78 [V.ptr 0 0 0,V.int .i64 L.1,V.ifc 120 (V.agg [V.sl [],V.str [],V.int .i64 0])] (tm L.1 L.2.2.1 L.2.2.2.1 L.2.2.2.2) fun L_1 =>
  some (.head 0 (qR r14 0 L_1.1 L_1.2.1 L_1.2.2.1 L_1.2.2.2)))
theorem QK (a0:List V):Ep 11 [V.sl a0] (Iw a0):=ep (by kernel_rfl) (by kernel_rfl)
noncomputable def xq (x3:List V) (x8 m1_1 m2_1:Int) (m3:List (V × V)) (m4:List V):R :=
 cond (decide (x8 < (x3.length:Int)))
 (gd (decide (0<=x8)) <|
  aH x3 x8.toNat fun v =>
  lr v fun kind0 key value n =>
  cond (kind0==(0:Int))
 (gd (decide (0<=x8)) <|
  aH x3 x8.toNat fun v_1 =>
  lr v_1 fun kind0_1 key_1 value_1 n_1 =>
  gd (decide (0<=x8)) <|
  aH x3 x8.toNat fun v_2 =>
  lr v_2 fun kind0_2 key_2 value_2 n_2 =>
  aI aa al j7 32 [V.ptr 0 0 0,V.str key_1,V.str value_2] (tm m1_1 m2_1 m3 m4) fun L =>
  gd (decide (0<=x8)) <|
  aH x3 x8.toNat fun v_3 =>
  lr v_3 fun kind0_3 key_3 value_3 n_3 =>
  cond (kind0_3==(1:Int))
 (gd (decide (0<=x8)) <|
  aH x3 x8.toNat fun v_4 =>
  lr v_4 fun kind0_4 key_4 value_4 n_4 =>
  aI aa al jp 33 [V.ptr 0 0 0,V.str key_4] (tm L.2.2.1 L.2.2.2.1 L.2.2.2.2.1 L.2.2.2.2.2) fun L_1 =>
  some (.head 0 (qR x3 (W .i64 (x8+1)) L_1.2.1 L_1.2.2.1 L_1.2.2.2.1 L_1.2.2.2.2)))
 (some (.head 0 (qR x3 (W .i64 (x8+1)) L.2.2.1 L.2.2.2.1 L.2.2.2.2.1 L.2.2.2.2.2))))
 (gd (decide (0<=x8)) <|
  aH x3 x8.toNat fun v_5 =>
  lr v_5 fun kind0_5 key_5 value_5 n_5 =>
  cond (kind0_5==(1:Int))
 (gd (decide (0<=x8)) <|
  aH x3 x8.toNat fun v_6 =>
  lr v_6 fun kind0_6 key_6 value_6 n_6 =>
  aI aa al jp 33 [V.ptr 0 0 0,V.str key_6] (tm m1_1 m2_1 m3 m4) fun L_2 =>
  some (.head 0 (qR x3 (W .i64 (x8+1)) L_2.2.1 L_2.2.2.1 L_2.2.2.2.1 L_2.2.2.2.2)))
 (some (.head 0 (qR x3 (W .i64 (x8+1)) m1_1 m2_1 m3 m4)))))
 (cN aa al kY 40 [V.ptr 0 0 0] (tm m1_1 m2_1 m3 m4) fun L_3 =>
  bD (wm m1_1 m2_1 m3 m4++[O.box 128 (V.agg [V.ptr 0 0 0,V.int .i64 m1_1]) false]) <|
  cond (L_3 != (0:Int))
 (some (.done (V.bool false)))
 (cN aa al lN 43 [V.ptr 0 0 0] (tm m1_1 m2_1 m3 m4) fun L_4 =>
  bD (wm m1_1 m2_1 m3 m4++[O.box 128 (V.agg [V.ptr 0 0 0,V.int .i64 m1_1]) false]) <|
  cN aa al lN 43 [V.ptr 0 0 0] (tm m1_1 m2_1 m3 m4) fun L_5 =>
  bD (wm m1_1 m2_1 m3 m4++[O.box 128 (V.agg [V.ptr 0 0 0,V.int .i64 m1_1]) false]) <|
  cond (L_4 != L_5)
 (some (.done (V.bool false)))
 (cN aa al lO 46 [V.ptr 0 0 0] (tm m1_1 m2_1 m3 m4) fun L_6 =>
  bD (wm m1_1 m2_1 m3 m4++[O.box 128 (V.agg [V.ptr 0 0 0,V.int .i64 m1_1]) false]) <|
  cN aa al lO 46 [V.ptr 0 0 0] (tm m1_1 m2_1 m3 m4) fun L_7 =>
  bD (wm m1_1 m2_1 m3 m4++[O.box 128 (V.agg [V.ptr 0 0 0,V.int .i64 m1_1]) false]) <|
  ai aa 49 [V.sl L_6,V.sl L_7] fun r =>
  kB r fun r49 =>
  cond (!r49)
 (some (.done (V.bool false)))
 (cN aa al mS 42 [V.ptr 0 0 0] (tm m1_1 m2_1 m3 m4) fun L_8 =>
  bD (wm m1_1 m2_1 m3 m4++[O.box 128 (V.agg [V.ptr 0 0 0,V.int .i64 m1_1]) false]) <|
  cN aa al mS 42 [V.ptr 0 0 0] (tm m1_1 m2_1 m3 m4) fun L_9 =>
  bD (wm m1_1 m2_1 m3 m4++[O.box 128 (V.agg [V.ptr 0 0 0,V.int .i64 m1_1]) false]) <|
  ai aa 49 [V.sl L_8,V.sl L_9] fun r_1 =>
  kB r_1 fun r49_1 =>
  cond (!r49_1)
 (some (.done (V.bool false)))
 (cN aa al mR 34 [V.ptr 0 0 0,V.str [],V.int .i64 1000] (tm m1_1 m2_1 m3 m4) fun L_10 =>
  bD (wm m1_1 m2_1 m3 m4++[O.box 128 (V.agg [V.ptr 0 0 0,V.int .i64 m1_1]) false]) <|
  some (.head 1 (yh L_10 0 m1_1 m2_1 m3 m4)))))))
theorem AB (x3:List V) (x8 m1_1 m2_1:Int) (m3:List (V × V)) (m4:List V):Rd false 0 11 0 (qR x3 x8 m1_1 m2_1 m3 m4) (xq x3 x8 m1_1 m2_1 m3 m4):=rd (by kernel_rfl)
noncomputable def Fi (x10:List V) (x11 m0_1 m2_1:Int) (m3:List (V × V)) (m4:List V):R :=
 cond (decide (x11 < (x10.length:Int)))
 (gd (decide (0<=x11)) <|
  aH x10 x11.toNat fun v =>
  f9 v fun key value =>
  cN aa al jq 39 [V.ptr 0 0 0,V.str key] (tm m0_1 m2_1 m3 m4) fun L =>
  bD (tm m0_1 m2_1 m3 m4) <|
  gd (decide (0<=x11)) <|
  aH x10 x11.toNat fun v_1 =>
  f9 v_1 fun key_1 value_1 =>
  cond (!(L.1==value_1))
 (some (.done (V.bool false)))
 (cond (L.2 != (0:Int))
 (some (.done (V.bool false)))
 (some (.head 1 (yh x10 (W .i64 (x11+1)) m0_1 m2_1 m3 m4)))))
 (cN aa al mR 34 [V.ptr 0 0 0,V.str [],V.int .i64 1000] (tm m0_1 m2_1 m3 m4) fun L_1 =>
  bD (tm m0_1 m2_1 m3 m4) <|
  cond ((L_1.length:Int)==(x10.length:Int))
 (ai aa 45 [] fun r =>
  kB r fun r45 =>
  some (.done (V.bool r45)))
 (some (.done (V.bool false))))
theorem My (x10:List V) (x11 m0_1 m2_1:Int) (m3:List (V × V)) (m4:List V):Rd false 0 11 1 (yh x10 x11 m0_1 m2_1 m3 m4) (Fi x10 x11 m0_1 m2_1 m3 m4):=rd (by kernel_rfl)
set_option linter.unusedSimpArgs false
theorem LA {r:Int} {es:Es} {ups:List IL} {b:LL} (h:WF 60 r es ups b) (hl:(bf b).length<=60):∀(q:List Pr) (i:Nat),(bf b).drop i=q->i<=(bf b).length ->
  Go qk false 0 (fF 11) (.head 1 (yh (aX (bf b)) (i:Int) r ((60:Nat):Int) (aP es) (aF 60 (az es)))) (.done (.bool true))
 | [],i,hd,hi=>by
  have h1:=drop_nil hd
  have hs:=F5 h.toWT [] 1000
  rw [Nj _ (by omega)] at hs
  refine My _ _ _ _ _ _ ?_ (.refl _)
  unfold Fi
  rw [en,decide_eq_false (by omega),cond_false,cD Ej hs,bG,en,dx rfl,cond_true,au SQ,cy]
 | x::q,i,hd,hi=>by
  obtain ⟨h1,h2,h3⟩:=fT hd
  have hm:=cf h1
  have hkx:=JJ h.okF x hm
  have w:W .i64 ((i:Int)+1)=((i+1:Nat):Int):=by rw [aK (by omega)];omega
  refine My _ _ _ _ _ _ ?_ (LA h hl q (i+1) h2 (by omega))
  unfold Fi
  rw [en,decide_eq_true (by omega),cond_true,ak (by simp),aU,jn h1,iN,cD Ek (Tm (k:=x.1) (v:=x.2) h.toWT hm hkx),bG,ak (by simp),jn h1,iN,beq_self_eq_true,bA,cond_false,dG rfl,cond_false,w]
theorem Ag (S:List eO) (hS:S.length<=60):∀(q:List eO) (i:Nat),S.drop i=q->i<=S.length->∀(r:Int) (es:Es) (ups:List IL) (b:LL),WF 60 r es ups b->(bf b).length<=i ->
  Go qk false 0 (fF 11) (.head 0 (qR (gN S) (i:Int) r ((60:Nat):Int) (aP es) (aF 60 (az es)))) (.done (.bool true))
 | [],i,hd,hi,r,es,ups,b,h,hb=>by
  have h1:=drop_nil hd
  have hs:=F5 h.toWT [] 1000
  rw [Nj _ (by omega)] at hs
  have hc:=BP h
  have hdp:=B8 h.toWT
  have hle:=D7 h.toWT
  have hpg:=LH h.toWT
  have hn:=(D8 h.toWT).2
  have htl:=vn h.shf
  have hll:=rQ h.shf
  have i1:=Kl (bM b) (bM b) (by simp [bM];omega)
  have i2:=Kl (gE 60 (az es)) (gE 60 (az es)) (by omega)
  rw [beq_self_eq_true] at i1 i2
  refine AB _ _ _ _ _ _ ?_ (LA h (by omega) (bf b) 0 rfl (by omega))
  unfold xq
  rw [su,decide_eq_false (by omega),cond_false,cD zU hc,bG,dG rfl,cond_false,cD zV hdp,bG,cD zV hdp,bG,dG rfl,cond_false,cD zX hle,bG,cD zX hle,bG,au i1,cy,bA,cond_false,
   cD El hpg,bG,cD El hpg,bG,au i2,cy,bA,cond_false,cD Ej hs,bG]
  rfl
 | o::q,i,hd,hi,r,es,ups,b,h,hb=>by
  obtain ⟨h1,h2,h3⟩:=fT hd
  have hi1:(gN S)[i]? = some (gh o):=by simp [gN,h1]
  have w:W .i64 ((i:Int)+1)=((i+1:Nat):Int):=by rw [aK (by omega)];omega
  by_cases k0:o.1=0
  ·obtain ⟨ok,e,r',es',ups',b',hW,hR,hT⟩:=ET h o.2.1 o.2.2.1
   have:=Wv hT
   refine AB _ _ _ _ _ _ ?_ (Ag S hS q (i+1) h2 (by omega) r' es' ups' b' hW (by omega))
   unfold xq
   rw [su,decide_eq_true (by omega),cond_true,ak (by simp),aU,cO hi1,gh,mD,dx k0,cond_true,ak (by simp),cO hi1,gh,mD,ak (by simp),cO hi1,gh,mD,bY wT (xd hR),ak (by simp),cO hi1,gh,mD,dJ (by omega),cond_false,w]
  ·by_cases k1:o.1=1
   ·obtain ⟨e,r',es',ups',b',hW,hR,hT⟩:=B4 h o.2.1
    have:=Qi hT
    refine AB _ _ _ _ _ _ ?_ (Ag S hS q (i+1) h2 (by omega) r' es' ups' b' hW (by omega))
    unfold xq
    rw [su,decide_eq_true (by omega),cond_true,ak (by simp),aU,cO hi1,gh,mD,dJ k0,cond_false,ak (by simp),cO hi1,gh,mD,dx k1,cond_true,ak (by simp),cO hi1,gh,mD,bY zT (yW hR),w]
   ·refine AB _ _ _ _ _ _ ?_ (Ag S hS q (i+1) h2 (by omega) r es ups b h (by omega))
    unfold xq
    rw [su,decide_eq_true (by omega),cond_true,ak (by simp),aU,cO hi1,gh,mD,dJ k0,cond_false,ak (by simp),cO hi1,gh,mD,dJ k1,cond_false,w]
theorem VY (S:List eO) (hS:S.length<=maxLen):bu aa 11 [.sl (gN S)]=some (.bool true):=by
 have hcl:(iM 60 S).length<=60:=by simp [iM];omega
 have hT:=NO (n:=60) (by omega) (by omega)
 have hW:=Oe (n:=60) (by omega) (by omega)
 have hc:=P7 60 (by omega) S hS
 refine QK _ ?_ (Ag (iM 60 S) hcl (iM 60 S) 0 rfl (by omega) 0 iP [] [(0,[],[])] (Oa (Oh (by omega) (by omega))) (by simp [bf]))
 unfold Iw
 have hc:bu aa 14 [.sl (gN S),.int .i64 60]=_:=hc
 rw [au hc,jo,ak (by decide +kernel),ak (by decide +kernel),ak (by decide +kernel)]
 show (aI aa _ _ _ _ (nM 60) _)=_
 rw [bY uG hT,dG rfl,cond_false]
 show (aI aa _ _ _ _ (tm 0 ((60:Nat):Int) (aP [(0,[])]) (aF 60 (az [(0,[])]))) _)=_
 rw [bY gL hW]
 rfl
end Go.Proofs.YtlphgcjepphhcaaGreat
namespace Go.Proofs.YtlphgcjepphhcaaGreat
open Go Go.Lite Go.ChangeShapes Go.WideShapes Go.ChangeAt Go.RowKit
set_option linter.unusedVariables false
set_option maxRecDepth 100000
theorem NI {n:Nat} {vs:List V} (h:dC Tryz.prog n 3 vs):∃m,vs=[.int .i64 m]/\(Lit.int .i64 m).wf=true:=by
 cases n with
 | zero=>cases h
 | succ n=>unfold dC at h;rw [Tryz.underlying3] at h;exact h
theorem NJ {n:Nat} {vs:List V} (h:dC Tryz.prog n 9 vs):∃s,vs=[.str s]/\s.length<=maxLen:=by
 cases n with
 | zero=>cases h
 | succ n=>unfold dC at h;rw [Tryz.underlying9] at h;exact h
theorem YT {n:Nat} {vs:List V} (h:dC Tryz.prog n 38 vs):∃o:eO,vs=[.int .i64 o.1,.str o.2.1,.str o.2.2.1,.int .i64 o.2.2.2]:=by
 cases n with
 | zero=>cases h
 | succ n =>
  unfold dC at h
  rw [Tryz.underlying38] at h
  obtain ⟨hl,hf⟩:=h
  rw [show Tryz.prog.cellsOf 38=4 by kernel_rfl] at hl
  simp only [bw,forall_eq_or_imp,List.not_mem_nil,false_implies,implies_true,and_true,show Tryz.prog.cellsOf 3=1 by kernel_rfl,show Tryz.prog.cellsOf 9=1 by kernel_rfl] at hf
  obtain ⟨h0,h1,h2,h3⟩:=hf
  obtain ⟨k,e0,_⟩:=NI h0
  obtain ⟨s,e1,_⟩:=NJ h1
  obtain ⟨v,e2,_⟩:=NJ h2
  obtain ⟨m,e3,_⟩:=NI h3
  match vs,hl,e0,e1,e2,e3 with
  | [b0,b1,b2,b3],_,e0,e1,e2,e3 =>
   simp at e0 e1 e2 e3
   exact ⟨(k,s,v,m),by rw [e0,e1,e2,e3]⟩
theorem OL {n:Nat} {x:V} (h:k9 Tryz.prog n 38 x):∃cs,x = .agg cs/\dC Tryz.prog n 38 cs:=by
 obtain ⟨cs,rfl⟩:=h.agg (by rw [Tryz.underlying38];rfl)
 exact ⟨cs,rfl,h.1⟩
theorem OK {n:Nat} {x:V} (h:k9 Tryz.prog n 38 x):∃o:eO,x=gh o/\(fun _:eO=>True) o:=by
 obtain ⟨cs,rfl,hC⟩:=OL h
 obtain ⟨o,rfl⟩:=YT hC
 exact ⟨o,rfl,trivial⟩
theorem Kq:∀{l:List V},(∀x∈l,∃m:eO,x=(gh) m/\(fun _:eO=>True) m)->∃ms:List eO,l=ms.map (gh)/\∀m∈ms,(fun _:eO=>True) m
 | [],_=>⟨[],rfl,by simp⟩
 | x::l,h=>by
  obtain ⟨a,rfl,ha⟩:=h x (by simp)
  obtain ⟨ms,rfl,hb⟩:=Kq (fun y hy=>h y (by simp [hy]):∀y∈l,_)
  refine ⟨a::ms,rfl,fun m hm=>?_⟩
  rcases bw.1 hm with rfl | hm
  ·exact ha
  ·exact hb m hm
theorem YU {n:Nat} {vs:List V} (h:dC Tryz.prog n 22 vs):∃ms:List eO,vs=[.sl (ms.map (gh))]/\ms.length<=maxLen/\∀m∈ms,(fun _:eO=>True) m:=by
 cases n with
 | zero=>cases h
 | succ n =>
  unfold dC at h
  rw [Tryz.underlying22] at h
  obtain ⟨l,rfl,hl,hx⟩:=h
  obtain ⟨ms,rfl,hm⟩:=Kq fun x hm=>OK (n:=n) (hx x hm)
  exact ⟨ms,rfl,by simpa using hl,hm⟩
theorem OM {n:Nat} {x:V} (h:k9 Tryz.prog n 22 x):∃ms:List eO,x = .sl (ms.map (gh))/\ms.length<=maxLen/\∀m∈ms,(fun _:eO=>True) m:=by
 have h2:=h.leaf (by rw [Tryz.underlying22];rfl)
 obtain ⟨m,e,w⟩:=YU h.1
 exact ⟨m,by rw [h2] at e;simpa using e,w⟩
theorem own:ownKnob Tryz.prog.godebug=none:=by kernel_rfl
theorem OY {P:Program} {n:Nat} {t:TypeId} {xs:List V} (h:vv P n [t] xs):∃a,xs=[a]/\k9 P n t a:=by
 match xs,h with
 | [a],h=>exact ⟨a,rfl,h.1⟩
theorem UJ {α:Type} {l:List α} (h:l.length=1):∃a,l=[a]:=by
 match l,h with
 | [a],_=>exact ⟨a,rfl⟩
theorem Y9 (xs:List V) (h:vv aa.P 6 Tryz.f11.params.toList xs):bu aa 11 xs=some (.bool true):=by
 rw [Tryz.params11] at h
 obtain ⟨a,rfl,ha⟩:=OY h
 obtain ⟨S,rfl,hl,_⟩:=OM ha
 exact VY S hl
set_option maxRecDepth 100000 in
theorem Za (os:Os) (started:os.Started) (H:Type) (enc:TypeId × Value->H) :
  ReturnsInHanded {} Tryz.checked os 11 .any (Rows.treeOtherSpec.pre6 enc Tryz.prog Tryz.f11 Rows.treeOtherRow.domain false) (Rows.treeOtherSpec.post enc Tryz.prog Tryz.f11 false true false false):=by
 refine returnsInHanded_of_change (C:=Tryz.checked) own started (by kernel_rfl) Tryz.func11
  (ChangeSpec.witness6 (enc:=enc) (C:=Tryz.checked) false ⟨#[],#[.slice none 0 0],[]⟩ 8 (by kernel_rfl) (by kernel_rfl) (by kernel_rfl) (by kernel_rfl)) ?_
 intro W base args ds gs before hval hW _ _
 exact UB aB 6 (by kernel_rfl) (by kernel_rfl) (s:=Rows.treeOtherSpec) rfl (by kernel_rfl) (tb:=4) (by kernel_rfl) Tryz.underlying4
  (fun H ds h=>by
   obtain ⟨a,rfl⟩:=UJ (h.trans (by rw [Tryz.params11];rfl))
   rfl) Y9 W base args ds gs before hval hW
theorem treeOther_holds:Rows.TreeOtherSaid :=
 OpenClaim.holds_of_wide 11 Tryz.f11 rfl rfl rfl rfl rfl rfl rfl ⟨rfl,rfl,rfl,rfl,rfl⟩ rfl rfl rfl rfl rfl (by kernel_rfl) Tryz.func11 (by kernel_rfl)
  (of_decide_eq_true (by kernel_rfl)) (by unfold Func.isWrapper;first | (rw [if_pos (by decide +kernel)];kernel_rfl) | (rw [if_neg (by decide +kernel)];exact ⟨rfl,rfl⟩))
  (fun os started H enc _=>Za os started H enc)
end Go.Proofs.YtlphgcjepphhcaaGreat
