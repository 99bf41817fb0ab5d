/-
  CursorRises: whatever is put into a tree and deleted, and whenever a cursor is asked, the law returns true and leaves its arguments as they were. No condition.
-/
import Derived.Test.YtlphgcjepphhcaaGreatY7
import Derived.Test.YtlphgcjepphhcaaGreatRows
import Derived.WalkKit
import Derived.ProofKit
import Derived.OpenShut
import Derived.KernelRfl
import Derived.Handed
import Derived.JoinedOf
import Derived.JoinedCond
namespace Go.Proofs.YtlphgcjepphhcaaGreat
open Go Go.Lite Go.ChangeShapes Go.WideShapes Go.ChangeAt Go.RowKit
set_option linter.unusedVariables false
set_option maxRecDepth 100000
theorem tInt {n:Nat} {vs:List V} (h:TyC Tryz.prog n 3 vs):∃m,vs=[.int .i64 m]/\(Lit.int .i64 m).wf=true:=by
 cases n with
 | zero=>cases h
 | succ n=>unfold TyC at h;rw [Tryz.underlying3] at h;exact h
theorem tStr {n:Nat} {vs:List V} (h:TyC Tryz.prog n 9 vs):∃s,vs=[.str s]/\s.length<=maxLen:=by
 cases n with
 | zero=>cases h
 | succ n=>unfold TyC at h;rw [Tryz.underlying9] at h;exact h
theorem aStr {n:Nat} {x:V} (h:ArgT Tryz.prog n 9 x):∃m,x = .str m/\m.length<=maxLen:=by
 have h2:=h.leaf (by rw [Tryz.underlying9];rfl)
 obtain ⟨m,e,w⟩:=tStr h.1
 exact ⟨m,by rw [h2] at e;simpa using e,w⟩
theorem tOp {n:Nat} {vs:List V} (h:TyC Tryz.prog n 38 vs):∃o:Op4,vs=[.int .i64 o.1,.str o.2.1,.str o.2.2.1,.int .i64 o.2.2.2]:=by
 cases n with
 | zero=>cases h
 | succ n =>
  unfold TyC at h
  rw [Tryz.underlying38] at h
  obtain ⟨hl,hf⟩:=h
  rw [show Tryz.prog.cellsOf 38=4 by kernel_rfl] at hl
  simp only [List.mem_cons,forall_eq_or_imp,List.not_mem_nil,false_implies,implies_true,and_true,show Tryz.prog.cellsOf 3=1 by kernel_rfl,show Tryz.prog.cellsOf 9=1 by kernel_rfl] at hf
  obtain ⟨h0,h1,h2,h3⟩:=hf
  obtain ⟨k,e0,_⟩:=tInt h0
  obtain ⟨s,e1,_⟩:=tStr h1
  obtain ⟨v,e2,_⟩:=tStr h2
  obtain ⟨m,e3,_⟩:=tInt h3
  match vs,hl,e0,e1,e2,e3 with
  | [b0,b1,b2,b3],_,e0,e1,e2,e3 =>
   simp at e0 e1 e2 e3
   exact ⟨(k,s,v,m),by rw [e0,e1,e2,e3]⟩
theorem aOp0 {n:Nat} {x:V} (h:ArgT Tryz.prog n 38 x):∃cs,x = .agg cs/\TyC Tryz.prog n 38 cs:=by
 obtain ⟨cs,rfl⟩:=h.agg (by rw [Tryz.underlying38];rfl)
 exact ⟨cs,rfl,h.1⟩
theorem aOp' {n:Nat} {x:V} (h:ArgT Tryz.prog n 38 x):∃o:Op4,x=opV o/\(fun _:Op4=>True) o:=by
 obtain ⟨cs,rfl,hC⟩:=aOp0 h
 obtain ⟨o,rfl⟩:=tOp hC
 exact ⟨o,rfl,trivial⟩
theorem lOps:∀{l:List V},(∀x∈l,∃m:Op4,x=(opV) m/\(fun _:Op4=>True) m)->∃ms:List Op4,l=ms.map (opV)/\∀m∈ms,(fun _:Op4=>True) m
 | [],_=>⟨[],rfl,by simp⟩
 | x::l,h=>by
  obtain ⟨a,rfl,ha⟩:=h x (by simp)
  obtain ⟨ms,rfl,hb⟩:=lOps (fun y hy=>h y (by simp [hy]):∀y∈l,_)
  refine ⟨a::ms,rfl,fun m hm=>?_⟩
  rcases List.mem_cons.1 hm with rfl | hm
  ·exact ha
  ·exact hb m hm
theorem tOps {n:Nat} {vs:List V} (h:TyC Tryz.prog n 22 vs):∃ms:List Op4,vs=[.sl (ms.map (opV))]/\ms.length<=maxLen/\∀m∈ms,(fun _:Op4=>True) m:=by
 cases n with
 | zero=>cases h
 | succ n =>
  unfold TyC at h
  rw [Tryz.underlying22] at h
  obtain ⟨l,rfl,hl,hx⟩:=h
  obtain ⟨ms,rfl,hm⟩:=lOps fun x hm=>aOp' (n:=n) (hx x hm)
  exact ⟨ms,rfl,by simpa using hl,hm⟩
theorem aOps {n:Nat} {x:V} (h:ArgT Tryz.prog n 22 x):∃ms:List Op4,x = .sl (ms.map (opV))/\ms.length<=maxLen/\∀m∈ms,(fun _:Op4=>True) m:=by
 have h2:=h.leaf (by rw [Tryz.underlying22];rfl)
 obtain ⟨m,e,w⟩:=tOps h.1
 exact ⟨m,by rw [h2] at e;simpa using e,w⟩
theorem own:ownKnob Tryz.prog.godebug=none:=by kernel_rfl
theorem args3 {P:Program} {n:Nat} {t t' t'':TypeId} {xs:List V} (h:ArgsT P n [t,t',t''] xs):∃a b c,xs=[a,b,c]/\ArgT P n t a/\ArgT P n t' b/\ArgT P n t'' c:=by
 match xs,h with
 | [a,b,c],h=>exact ⟨a,b,c,rfl,h.1,h.2.1,h.2.2.1⟩
theorem len3 {α:Type} {l:List α} (h:l.length=3):∃a b c,l=[a,b,c]:=by
 match l,h with
 | [a,b,c],_=>exact ⟨a,b,c,rfl⟩
theorem cursorRises_args (xs:List V) (h:ArgsT qcfg.P 6 Tryz.f5.params.toList xs):pcW qcfg 5 xs=some (.bool true):=by
 rw [Tryz.params5] at h
 obtain ⟨a,b,c,rfl,ha,hb,hc⟩:=args3 h
 obtain ⟨f,rfl,_⟩:=aStr ha
 obtain ⟨t,rfl,_⟩:=aStr hb
 obtain ⟨S,rfl,hl,_⟩:=aOps hc
 exact ris_ok S hl f t
set_option maxRecDepth 100000 in
theorem cursorRises_lifted (os:Os) (started:os.Started) (H:Type) (enc:TypeId × Value->H) :
  ReturnsInHanded {} Tryz.checked os 5 .any (Rows.cursorRisesSpec.pre6 enc Tryz.prog Tryz.f5 Rows.cursorRisesRow.domain false) (Rows.cursorRisesSpec.post enc Tryz.prog Tryz.f5 false true false false):=by
 refine returnsInHanded_of_change (C:=Tryz.checked) own started (by kernel_rfl) Tryz.func5
  (ChangeSpec.witness6 (enc:=enc) (C:=Tryz.checked) false ⟨#[],#[.string ⟨#[]⟩,.string ⟨#[]⟩,.slice none 0 0],[]⟩ 8 (by kernel_rfl) (by kernel_rfl) (by kernel_rfl) (by kernel_rfl)) ?_
 intro W base args ds gs before hval hW _ _
 exact law_contract hok 6 (by kernel_rfl) (by kernel_rfl) (s:=Rows.cursorRisesSpec) rfl (by kernel_rfl) (tb:=4) (by kernel_rfl) Tryz.underlying4
  (fun H ds h=>by
   obtain ⟨a,b,c,rfl⟩:=len3 (h.trans (by rw [Tryz.params5];rfl))
   rfl) cursorRises_args W base args ds gs before hval hW
theorem cursorRises_holds:Rows.CursorRisesSaid :=
 OpenClaim.holds_of_wide 5 Tryz.f5 rfl rfl rfl rfl rfl rfl rfl ⟨rfl,rfl,rfl,rfl,rfl⟩ rfl rfl rfl rfl rfl (by kernel_rfl) Tryz.func5 (by kernel_rfl)
  (of_decide_eq_true (by kernel_rfl)) (by unfold Func.isWrapper;first | (rw [if_pos (by decide +kernel)];kernel_rfl) | (rw [if_neg (by decide +kernel)];exact ⟨rfl,rfl⟩))
  (fun os started H enc _=>cursorRises_lifted os started H enc)
end Go.Proofs.YtlphgcjepphhcaaGreat
