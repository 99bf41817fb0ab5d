/-
  CursorLoads: whatever bytes are loaded as a cursor, the law returns true and leaves its argument as it was. No condition.
-/
import Derived.Test.YtlphgcjepphhcaaGreatY5
import Derived.Test.YtlphgcjepphhcaaGreatRows
import Derived.WalkKit
import Derived.ProofKit
import Derived.OpenShut
import Derived.KernelRfl
import Derived.Handed
import Derived.JoinedOf
import Derived.JoinedCond
namespace Go.Proofs.YtlphgcjepphhcaaGreat
open Go Go.Lite Go.ChangeShapes Go.WideShapes Go.ChangeAt Go.RowKit
set_option linter.unusedVariables false
set_option maxRecDepth 100000
theorem tStr {n:Nat} {vs:List V} (h:TyC Tryz.prog n 9 vs):∃s,vs=[.str s]/\s.length<=maxLen:=by
 cases n with
 | zero=>cases h
 | succ n=>unfold TyC at h;rw [Tryz.underlying9] at h;exact h
theorem aStr {n:Nat} {x:V} (h:ArgT Tryz.prog n 9 x):∃m,x = .str m/\m.length<=maxLen:=by
 have h2:=h.leaf (by rw [Tryz.underlying9];rfl)
 obtain ⟨m,e,w⟩:=tStr h.1
 exact ⟨m,by rw [h2] at e;simpa using e,w⟩
theorem own:ownKnob Tryz.prog.godebug=none:=by kernel_rfl
theorem args1 {P:Program} {n:Nat} {t:TypeId} {xs:List V} (h:ArgsT P n [t] xs):∃a,xs=[a]/\ArgT P n t a:=by
 match xs,h with
 | [a],h=>exact ⟨a,rfl,h.1⟩
theorem len1 {α:Type} {l:List α} (h:l.length=1):∃a,l=[a]:=by
 match l,h with
 | [a],_=>exact ⟨a,rfl⟩
theorem cursorLoads_args (xs:List V) (h:ArgsT qcfg.P 6 Tryz.f4.params.toList xs):pcW qcfg 4 xs=some (.bool true):=by
 rw [Tryz.params4] at h
 obtain ⟨a,rfl,ha⟩:=args1 h
 obtain ⟨s,rfl,_⟩:=aStr ha
 exact cursorLoads_true s
set_option maxRecDepth 100000 in
theorem cursorLoads_lifted (os:Os) (started:os.Started) (H:Type) (enc:TypeId × Value->H) :
  ReturnsInHanded {} Tryz.checked os 4 .any (Rows.cursorLoadsSpec.pre6 enc Tryz.prog Tryz.f4 Rows.cursorLoadsRow.domain false) (Rows.cursorLoadsSpec.post enc Tryz.prog Tryz.f4 false true false false):=by
 refine returnsInHanded_of_change (C:=Tryz.checked) own started (by kernel_rfl) Tryz.func4
  (ChangeSpec.witness6 (enc:=enc) (C:=Tryz.checked) false ⟨#[],#[.string ⟨#[]⟩],[]⟩ 8 (by kernel_rfl) (by kernel_rfl) (by kernel_rfl) (by kernel_rfl)) ?_
 intro W base args ds gs before hval hW _ _
 exact law_contract hok 6 (by kernel_rfl) (by kernel_rfl) (s:=Rows.cursorLoadsSpec) rfl (by kernel_rfl) (tb:=4) (by kernel_rfl) Tryz.underlying4
  (fun H ds h=>by
   obtain ⟨a,rfl⟩:=len1 (h.trans (by rw [Tryz.params4];rfl))
   rfl) cursorLoads_args W base args ds gs before hval hW
theorem cursorLoads_holds:Rows.CursorLoadsSaid :=
 OpenClaim.holds_of_wide 4 Tryz.f4 rfl rfl rfl rfl rfl rfl rfl ⟨rfl,rfl,rfl,rfl,rfl⟩ rfl rfl rfl rfl rfl (by kernel_rfl) Tryz.func4 (by kernel_rfl)
  (of_decide_eq_true (by kernel_rfl)) (by unfold Func.isWrapper;first | (rw [if_pos (by decide +kernel)];kernel_rfl) | (rw [if_neg (by decide +kernel)];exact ⟨rfl,rfl⟩))
  (fun os started H enc _=>cursorLoads_lifted os started H enc)
end Go.Proofs.YtlphgcjepphhcaaGreat
