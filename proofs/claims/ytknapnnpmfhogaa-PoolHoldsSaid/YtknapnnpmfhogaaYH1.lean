/-
  The laws of layer 7 (pool) but the great one: whatever the input, each returns true and leaves its arguments as they were. No condition.
-/
import Derived.Test.YtknapnnpmfhogaaY6
import Derived.Test.YtknapnnpmfhogaaRows
import Derived.WalkKit
import Derived.ProofKit
import Derived.OpenShut
import Derived.KernelRfl
import Derived.Handed
import Derived.JoinedOf
import Derived.JoinedCond
namespace Go.Proofs.Ytknapnnpmfhogaa
open Go Go.Lite Go.ChangeShapes Go.WideShapes Go.ChangeAt Go.RowKit
set_option linter.unusedVariables false
set_option maxRecDepth 100000
theorem tInt {n:Nat} {vs:List V} (h:TyC Try.prog n 3 vs):∃m,vs=[.int .i64 m]/\(Lit.int .i64 m).wf=true:=by
 cases n with
 | zero=>cases h
 | succ n=>unfold TyC at h;rw [Try.underlying3] at h;exact h
theorem aInt {n:Nat} {x:V} (h:ArgT Try.prog n 3 x):∃m,x = .int .i64 m/\(Lit.int .i64 m).wf=true:=by
 have h2:=h.leaf (by rw [Try.underlying3];rfl)
 obtain ⟨m,e,w⟩:=tInt h.1
 exact ⟨m,by rw [h2] at e;simpa using e,w⟩
theorem tStr {n:Nat} {vs:List V} (h:TyC Try.prog n 9 vs):∃s,vs=[.str s]/\s.length<=maxLen:=by
 cases n with
 | zero=>cases h
 | succ n=>unfold TyC at h;rw [Try.underlying9] at h;exact h
theorem wf64 {m:Int} (h:(Lit.int .i64 m).wf=true):-9223372036854775808<=m/\m < 9223372036854775808:=by
 simp only [Lit.wf,Bool.and_eq_true,decide_eq_true_eq,IntKind.min,IntKind.max,IntKind.signed,IntKind.bits] at h
 simp at h
 omega
theorem tIntN {n:Nat} {vs:List V} (h:TyC Try.prog n 3 vs):∃m,vs=[.int .i64 m]/\(Lit.int .i64 m).wf=true:=tInt h
theorem tOp {n:Nat} {vs:List V} (h:TyC Try.prog n 31 vs):∃o:Op,vs=[.int .i64 o.kind,.int .i64 o.page,.str o.s,.int .i64 o.n]/\(Lit.int .i64 o.n).wf=true:=by
 cases n with
 | zero=>cases h
 | succ n =>
  unfold TyC at h
  rw [Try.underlying31] at h
  obtain ⟨hl,hf⟩:=h
  rw [show Try.prog.cellsOf 31=4 by kernel_rfl] at hl
  simp only [List.mem_cons,forall_eq_or_imp,List.not_mem_nil,false_implies,implies_true,and_true,show Try.prog.cellsOf 3=1 by kernel_rfl,show Try.prog.cellsOf 9=1 by kernel_rfl] at hf
  obtain ⟨h0,h1,h2,h3⟩:=hf
  obtain ⟨k,e0,_⟩:=tInt h0
  obtain ⟨p,e1,_⟩:=tInt h1
  obtain ⟨s,e2,_⟩:=tStr h2
  obtain ⟨m,e3,hm⟩:=tIntN h3
  match vs,hl,e0,e1,e2,e3 with
  | [b0,b1,b2,b3],_,e0,e1,e2,e3 =>
   simp at e0 e1 e2 e3
   exact ⟨⟨k,p,s,m⟩,by rw [e0,e1,e2,e3],hm⟩
theorem aOp0 {n:Nat} {x:V} (h:ArgT Try.prog n 31 x):∃cs,x = .agg cs/\TyC Try.prog n 31 cs:=by
 obtain ⟨cs,rfl⟩:=h.agg (by rw [Try.underlying31];rfl)
 exact ⟨cs,rfl,h.1⟩
theorem aOp' {n:Nat} {x:V} (h:ArgT Try.prog n 31 x):∃o:Op,x=opV o/\(fun o:Op=>-9223372036854775808<=o.n/\o.n < 9223372036854775808) o:=by
 obtain ⟨cs,rfl,hC⟩:=aOp0 h
 obtain ⟨o,rfl,hw⟩:=tOp hC
 exact ⟨o,rfl,wf64 hw⟩
theorem lOps:∀{l:List V},(∀x∈l,∃m:Op,x=(opV) m/\(fun o:Op=>-9223372036854775808<=o.n/\o.n < 9223372036854775808) m)->∃ms:List Op,l=ms.map (opV)/\∀m∈ms,(fun o:Op=>-9223372036854775808<=o.n/\o.n < 9223372036854775808) m
 | [],_=>⟨[],rfl,by simp⟩
 | x::l,h=>by
  obtain ⟨a,rfl,ha⟩:=h x (by simp)
  obtain ⟨ms,rfl,hb⟩:=lOps (fun y hy=>h y (by simp [hy]):∀y∈l,_)
  refine ⟨a::ms,rfl,fun m hm=>?_⟩
  rcases List.mem_cons.1 hm with rfl | hm
  ·exact ha
  ·exact hb m hm
theorem tOps {n:Nat} {vs:List V} (h:TyC Try.prog n 22 vs):∃ms:List Op,vs=[.sl (ms.map (opV))]/\ms.length<=maxLen/\∀m∈ms,(fun o:Op=>-9223372036854775808<=o.n/\o.n < 9223372036854775808) m:=by
 cases n with
 | zero=>cases h
 | succ n =>
  unfold TyC at h
  rw [Try.underlying22] at h
  obtain ⟨l,rfl,hl,hx⟩:=h
  obtain ⟨ms,rfl,hm⟩:=lOps fun x hm=>aOp' (n:=n) (hx x hm)
  exact ⟨ms,rfl,by simpa using hl,hm⟩
theorem aOps {n:Nat} {x:V} (h:ArgT Try.prog n 22 x):∃ms:List Op,x = .sl (ms.map (opV))/\ms.length<=maxLen/\∀m∈ms,(fun o:Op=>-9223372036854775808<=o.n/\o.n < 9223372036854775808) m:=by
 have h2:=h.leaf (by rw [Try.underlying22];rfl)
 obtain ⟨m,e,w⟩:=tOps h.1
 exact ⟨m,by rw [h2] at e;simpa using e,w⟩
theorem plain_ops (pl:Int) (ops:List Op):plainL [.int .i64 pl,.sl (ops.map opV)]=true:=by
 have:∀l:List Op,plainL (l.map opV)=true:=by
  intro l
  induction l with
  | nil=>rfl
  | cons o l ih =>
   rw [List.map_cons]
   unfold plainL
   rw [ih]
   rfl
 simp only [plainL,V.plain,this,Bool.and_true,Bool.and_self]
theorem own:ownKnob Try.prog.godebug=none:=by kernel_rfl
theorem args2 {P:Program} {n:Nat} {t t':TypeId} {xs:List V} (h:ArgsT P n [t,t'] xs):∃a b,xs=[a,b]/\ArgT P n t a/\ArgT P n t' b:=by
 match xs,h with
 | [a,b],h=>exact ⟨a,b,rfl,h.1,h.2.1⟩
theorem len2 {α:Type} {l:List α} (h:l.length=2):∃a b,l=[a,b]:=by
 match l,h with
 | [a,b],_=>exact ⟨a,b,rfl⟩
theorem poolHolds_args (xs:List V) (h:ArgsT qcfg.P 6 Try.f4.params.toList xs):pcW qcfg 4 xs=some (.bool true):=by
 rw [Try.params4] at h
 obtain ⟨a,b,rfl,ha,hb⟩:=args2 h
 obtain ⟨p,rfl,_⟩:=aInt ha
 obtain ⟨ops,rfl,hl,ho⟩:=aOps hb
 exact poolHolds_ok p ops (plain_ops p ops)
set_option maxRecDepth 100000 in
theorem poolHolds_lifted (os:Os) (started:os.Started) (H:Type) (enc:TypeId × Value->H) :
  ReturnsInHanded {} Try.checked os 4 .any (Rows.poolHoldsSpec.pre6 enc Try.prog Try.f4 Rows.poolHoldsRow.domain false) (Rows.poolHoldsSpec.post enc Try.prog Try.f4 false true false false):=by
 refine returnsInHanded_of_change (C:=Try.checked) own started (by kernel_rfl) Try.func4
  (ChangeSpec.witness6 (enc:=enc) (C:=Try.checked) false ⟨#[],#[.int .i64 0,.slice none 0 0],[]⟩ 8 (by kernel_rfl) (by kernel_rfl) (by kernel_rfl) (by kernel_rfl)) ?_
 intro W base args ds gs before hval hW _ _
 exact law_contract hok 6 (by kernel_rfl) (by kernel_rfl) (s:=Rows.poolHoldsSpec) rfl (by kernel_rfl) (tb:=4) (by kernel_rfl) Try.underlying4
  (fun H ds h=>by
   obtain ⟨a,b,rfl⟩:=len2 (h.trans (by rw [Try.params4];rfl))
   rfl) poolHolds_args W base args ds gs before hval hW
theorem poolHolds_holds:Rows.PoolHoldsSaid :=
 OpenClaim.holds_of_wide 4 Try.f4 rfl rfl rfl rfl rfl rfl rfl ⟨rfl,rfl,rfl,rfl,rfl⟩ rfl rfl rfl rfl rfl (by kernel_rfl) Try.func4 (by kernel_rfl)
  (of_decide_eq_true (by kernel_rfl)) (by unfold Func.isWrapper;first | (rw [if_pos (by decide +kernel)];kernel_rfl) | (rw [if_neg (by decide +kernel)];exact ⟨rfl,rfl⟩))
  (fun os started H enc _=>poolHolds_lifted os started H enc)
end Go.Proofs.Ytknapnnpmfhogaa
