/-
  CursorAll: whatever pairs are put into a tree, and in whatever parts a cursor is asked, the law returns true and leaves its arguments as they were. No condition.
-/
import Derived.Test.YtlphgcjepphhcaaGreatY6
import Derived.Test.YtlphgcjepphhcaaGreatRows
import Derived.WalkKit
import Derived.ProofKit
import Derived.OpenShut
import Derived.KernelRfl
import Derived.Handed
import Derived.JoinedOf
import Derived.JoinedCond
namespace Go.Proofs.YtlphgcjepphhcaaGreat
open Go Go.Lite Go.ChangeShapes Go.WideShapes Go.ChangeAt Go.RowKit
set_option linter.unusedVariables false
set_option maxRecDepth 100000
theorem tInt {n:Nat} {vs:List V} (h:TyC Tryz.prog n 3 vs):∃m,vs=[.int .i64 m]/\(Lit.int .i64 m).wf=true:=by
 cases n with
 | zero=>cases h
 | succ n=>unfold TyC at h;rw [Tryz.underlying3] at h;exact h
theorem tU8 {n:Nat} {vs:List V} (h:TyC Tryz.prog n 5 vs):∃m,vs=[.int .u8 m]/\(Lit.int .u8 m).wf=true:=by
 cases n with
 | zero=>cases h
 | succ n=>unfold TyC at h;rw [Tryz.underlying5] at h;exact h
theorem aU8 {n:Nat} {x:V} (h:ArgT Tryz.prog n 5 x):∃m,x = .int .u8 m/\(Lit.int .u8 m).wf=true:=by
 have h2:=h.leaf (by rw [Tryz.underlying5];rfl)
 obtain ⟨m,e,w⟩:=tU8 h.1
 exact ⟨m,by rw [h2] at e;simpa using e,w⟩
theorem tStr {n:Nat} {vs:List V} (h:TyC Tryz.prog n 9 vs):∃s,vs=[.str s]/\s.length<=maxLen:=by
 cases n with
 | zero=>cases h
 | succ n=>unfold TyC at h;rw [Tryz.underlying9] at h;exact h
theorem aStr {n:Nat} {x:V} (h:ArgT Tryz.prog n 9 x):∃m,x = .str m/\m.length<=maxLen:=by
 have h2:=h.leaf (by rw [Tryz.underlying9];rfl)
 obtain ⟨m,e,w⟩:=tStr h.1
 exact ⟨m,by rw [h2] at e;simpa using e,w⟩
theorem wf8 {m:Int} (h:(Lit.int .u8 m).wf=true):0<=m/\m < 256:=by
 simp only [Lit.wf,Bool.and_eq_true,decide_eq_true_eq,IntKind.min,IntKind.max,IntKind.signed,IntKind.bits] at h
 simp at h
 omega
theorem aU8' {n:Nat} {x:V} (h:ArgT Tryz.prog n 5 x):∃m:Int,x=(V.int .u8) m/\(fun m:Int=>0<=m/\m < 256) m:=by
 obtain ⟨m,e,w⟩:=aU8 h
 exact ⟨m,e,wf8 w⟩
theorem tOp {n:Nat} {vs:List V} (h:TyC Tryz.prog n 38 vs):∃o:Op4,vs=[.int .i64 o.1,.str o.2.1,.str o.2.2.1,.int .i64 o.2.2.2]:=by
 cases n with
 | zero=>cases h
 | succ n =>
  unfold TyC at h
  rw [Tryz.underlying38] at h
  obtain ⟨hl,hf⟩:=h
  rw [show Tryz.prog.cellsOf 38=4 by kernel_rfl] at hl
  simp only [List.mem_cons,forall_eq_or_imp,List.not_mem_nil,false_implies,implies_true,and_true,show Tryz.prog.cellsOf 3=1 by kernel_rfl,show Tryz.prog.cellsOf 9=1 by kernel_rfl] at hf
  obtain ⟨h0,h1,h2,h3⟩:=hf
  obtain ⟨k,e0,_⟩:=tInt h0
  obtain ⟨s,e1,_⟩:=tStr h1
  obtain ⟨v,e2,_⟩:=tStr h2
  obtain ⟨m,e3,_⟩:=tInt h3
  match vs,hl,e0,e1,e2,e3 with
  | [b0,b1,b2,b3],_,e0,e1,e2,e3 =>
   simp at e0 e1 e2 e3
   exact ⟨(k,s,v,m),by rw [e0,e1,e2,e3]⟩
theorem aOp0 {n:Nat} {x:V} (h:ArgT Tryz.prog n 38 x):∃cs,x = .agg cs/\TyC Tryz.prog n 38 cs:=by
 obtain ⟨cs,rfl⟩:=h.agg (by rw [Tryz.underlying38];rfl)
 exact ⟨cs,rfl,h.1⟩
theorem aOp' {n:Nat} {x:V} (h:ArgT Tryz.prog n 38 x):∃o:Op4,x=opV o/\(fun _:Op4=>True) o:=by
 obtain ⟨cs,rfl,hC⟩:=aOp0 h
 obtain ⟨o,rfl⟩:=tOp hC
 exact ⟨o,rfl,trivial⟩
theorem lOps:∀{l:List V},(∀x∈l,∃m:Op4,x=(opV) m/\(fun _:Op4=>True) m)->∃ms:List Op4,l=ms.map (opV)/\∀m∈ms,(fun _:Op4=>True) m
 | [],_=>⟨[],rfl,by simp⟩
 | x::l,h=>by
  obtain ⟨a,rfl,ha⟩:=h x (by simp)
  obtain ⟨ms,rfl,hb⟩:=lOps (fun y hy=>h y (by simp [hy]):∀y∈l,_)
  refine ⟨a::ms,rfl,fun m hm=>?_⟩
  rcases List.mem_cons.1 hm with rfl | hm
  ·exact ha
  ·exact hb m hm
theorem tOps {n:Nat} {vs:List V} (h:TyC Tryz.prog n 22 vs):∃ms:List Op4,vs=[.sl (ms.map (opV))]/\ms.length<=maxLen/\∀m∈ms,(fun _:Op4=>True) m:=by
 cases n with
 | zero=>cases h
 | succ n =>
  unfold TyC at h
  rw [Tryz.underlying22] at h
  obtain ⟨l,rfl,hl,hx⟩:=h
  obtain ⟨ms,rfl,hm⟩:=lOps fun x hm=>aOp' (n:=n) (hx x hm)
  exact ⟨ms,rfl,by simpa using hl,hm⟩
theorem aOps {n:Nat} {x:V} (h:ArgT Tryz.prog n 22 x):∃ms:List Op4,x = .sl (ms.map (opV))/\ms.length<=maxLen/\∀m∈ms,(fun _:Op4=>True) m:=by
 have h2:=h.leaf (by rw [Tryz.underlying22];rfl)
 obtain ⟨m,e,w⟩:=tOps h.1
 exact ⟨m,by rw [h2] at e;simpa using e,w⟩
theorem lU8s:∀{l:List V},(∀x∈l,∃m:Int,x=(V.int .u8) m/\(fun m:Int=>0<=m/\m < 256) m)->∃ms:List Int,l=ms.map (V.int .u8)/\∀m∈ms,(fun m:Int=>0<=m/\m < 256) m
 | [],_=>⟨[],rfl,by simp⟩
 | x::l,h=>by
  obtain ⟨a,rfl,ha⟩:=h x (by simp)
  obtain ⟨ms,rfl,hb⟩:=lU8s (fun y hy=>h y (by simp [hy]):∀y∈l,_)
  refine ⟨a::ms,rfl,fun m hm=>?_⟩
  rcases List.mem_cons.1 hm with rfl | hm
  ·exact ha
  ·exact hb m hm
theorem tU8s {n:Nat} {vs:List V} (h:TyC Tryz.prog n 66 vs):∃ms:List Int,vs=[.sl (ms.map (V.int .u8))]/\ms.length<=maxLen/\∀m∈ms,(fun m:Int=>0<=m/\m < 256) m:=by
 cases n with
 | zero=>cases h
 | succ n =>
  unfold TyC at h
  rw [Tryz.underlying66] at h
  obtain ⟨l,rfl,hl,hx⟩:=h
  obtain ⟨ms,rfl,hm⟩:=lU8s fun x hm=>aU8' (n:=n) (hx x hm)
  exact ⟨ms,rfl,by simpa using hl,hm⟩
theorem aU8s {n:Nat} {x:V} (h:ArgT Tryz.prog n 66 x):∃ms:List Int,x = .sl (ms.map (V.int .u8))/\ms.length<=maxLen/\∀m∈ms,(fun m:Int=>0<=m/\m < 256) m:=by
 have h2:=h.leaf (by rw [Tryz.underlying66];rfl)
 obtain ⟨m,e,w⟩:=tU8s h.1
 exact ⟨m,by rw [h2] at e;simpa using e,w⟩
theorem own:ownKnob Tryz.prog.godebug=none:=by kernel_rfl
theorem args3 {P:Program} {n:Nat} {t t' t'':TypeId} {xs:List V} (h:ArgsT P n [t,t',t''] xs):∃a b c,xs=[a,b,c]/\ArgT P n t a/\ArgT P n t' b/\ArgT P n t'' c:=by
 match xs,h with
 | [a,b,c],h=>exact ⟨a,b,c,rfl,h.1,h.2.1,h.2.2.1⟩
theorem len3 {α:Type} {l:List α} (h:l.length=3):∃a b c,l=[a,b,c]:=by
 match l,h with
 | [a,b,c],_=>exact ⟨a,b,c,rfl⟩
theorem cursorAll_args (xs:List V) (h:ArgsT qcfg.P 6 Tryz.f6.params.toList xs):pcW qcfg 6 xs=some (.bool true):=by
 rw [Tryz.params6] at h
 obtain ⟨a,b,c,rfl,ha,hb,hc⟩:=args3 h
 obtain ⟨S,rfl,hl,_⟩:=aOps ha
 obtain ⟨P,rfl,hp,hP⟩:=aU8s hb
 obtain ⟨f,rfl,_⟩:=aStr hc
 exact all_ok S hl P hP hp f
set_option maxRecDepth 100000 in
theorem cursorAll_lifted (os:Os) (started:os.Started) (H:Type) (enc:TypeId × Value->H) :
  ReturnsInHanded {} Tryz.checked os 6 .any (Rows.cursorAllSpec.pre6 enc Tryz.prog Tryz.f6 Rows.cursorAllRow.domain false) (Rows.cursorAllSpec.post enc Tryz.prog Tryz.f6 false true false false):=by
 refine returnsInHanded_of_change (C:=Tryz.checked) own started (by kernel_rfl) Tryz.func6
  (ChangeSpec.witness6 (enc:=enc) (C:=Tryz.checked) false ⟨#[],#[.slice none 0 0,.slice none 0 0,.string ⟨#[]⟩],[]⟩ 8 (by kernel_rfl) (by kernel_rfl) (by kernel_rfl) (by kernel_rfl)) ?_
 intro W base args ds gs before hval hW _ _
 exact law_contract hok 6 (by kernel_rfl) (by kernel_rfl) (s:=Rows.cursorAllSpec) rfl (by kernel_rfl) (tb:=4) (by kernel_rfl) Tryz.underlying4
  (fun H ds h=>by
   obtain ⟨a,b,c,rfl⟩:=len3 (h.trans (by rw [Tryz.params6];rfl))
   rfl) cursorAll_args W base args ds gs before hval hW
theorem cursorAll_holds:Rows.CursorAllSaid :=
 OpenClaim.holds_of_wide 6 Tryz.f6 rfl rfl rfl rfl rfl rfl rfl ⟨rfl,rfl,rfl,rfl,rfl⟩ rfl rfl rfl rfl rfl (by kernel_rfl) Tryz.func6 (by kernel_rfl)
  (of_decide_eq_true (by kernel_rfl)) (by unfold Func.isWrapper;first | (rw [if_pos (by decide +kernel)];kernel_rfl) | (rw [if_neg (by decide +kernel)];exact ⟨rfl,rfl⟩))
  (fun os started H enc _=>cursorAll_lifted os started H enc)
end Go.Proofs.YtlphgcjepphhcaaGreat
