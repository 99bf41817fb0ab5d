/-
  The laws of layer 19 (side), SideKids, SideParts, SideDiff, SideBack: whatever the input, each returns true and leaves its arguments as they were. No condition.
-/
import Derived.Test.YtgpgjojejdaibaaS10
import Derived.Test.YtgpgjojejdaibaaSP
import Derived.Test.YtgpgjojejdaibaaLite26
import Derived.Test.YtgpgjojejdaibaaRows
import Derived.WalkKit
import Derived.ProofKit
import Derived.OpenShut
import Derived.KernelRfl
import Derived.Handed
import Derived.JoinedOf
import Derived.JoinedCond
namespace Go.Proofs.Ytgpgjojejdaibaa
open Go Go.Lite Go.ChangeShapes Go.WideShapes Go.ChangeAt Go.RowKit
set_option linter.unusedVariables false

theorem tInt {n : Nat} {vs : List V} (h : TyC Try.prog n 3 vs) : ∃ m, vs = [.int .i64 m] := by
  cases n with
  | zero => cases h
  | succ n => unfold TyC at h; rw [Try.underlying3] at h; exact let ⟨m, e, _⟩ := h; ⟨m, e⟩
theorem tBool {n : Nat} {vs : List V} (h : TyC Try.prog n 4 vs) : ∃ m, vs = [.bool m] := by
  cases n with
  | zero => cases h
  | succ n => unfold TyC at h; rw [Try.underlying4] at h; exact h
theorem tStr {n : Nat} {vs : List V} (h : TyC Try.prog n 9 vs) : ∃ s, vs = [.str s] := by
  cases n with
  | zero => cases h
  | succ n => unfold TyC at h; rw [Try.underlying9] at h; exact let ⟨m, e, _⟩ := h; ⟨m, e⟩

theorem tKid {n : Nat} {vs : List V} (h : TyC Try.prog n 66 vs) : ∃ p : Kd, vs = [.str p.1, .int .i64 p.2] := by
  cases n with
  | zero => cases h
  | succ n =>
    unfold TyC at h
    rw [Try.underlying66] at h
    obtain ⟨hl, hf⟩ := h
    rw [show Try.prog.cellsOf 66 = 2 by kernel_rfl] at hl
    simp only [List.mem_cons, forall_eq_or_imp, List.not_mem_nil, false_implies, implies_true, and_true, show Try.prog.cellsOf 9 = 1 by kernel_rfl, show Try.prog.cellsOf 3 = 1 by kernel_rfl] at hf
    obtain ⟨h0, h1⟩ := hf
    obtain ⟨a0, e0⟩ := tStr h0
    obtain ⟨a1, e1⟩ := tInt h1
    match vs, hl, e0, e1 with
    | [b0, b1], _, e0, e1 =>
      simp at e0 e1
      exact ⟨(a0, a1), by rw [e0, e1]⟩
theorem tChange {n : Nat} {vs : List V} (h : TyC Try.prog n 41 vs) : ∃ p : Ch, vs = [.int .i64 p.1, .str p.2.1, .int .i64 p.2.2] := by
  cases n with
  | zero => cases h
  | succ n =>
    unfold TyC at h
    rw [Try.underlying41] at h
    obtain ⟨hl, hf⟩ := h
    rw [show Try.prog.cellsOf 41 = 3 by kernel_rfl] at hl
    simp only [List.mem_cons, forall_eq_or_imp, List.not_mem_nil, false_implies, implies_true, and_true, show Try.prog.cellsOf 9 = 1 by kernel_rfl, show Try.prog.cellsOf 3 = 1 by kernel_rfl] at hf
    obtain ⟨h0, h1, h2⟩ := hf
    obtain ⟨a0, e0⟩ := tInt h0
    obtain ⟨a1, e1⟩ := tStr h1
    obtain ⟨a2, e2⟩ := tInt h2
    match vs, hl, e0, e1, e2 with
    | [b0, b1, b2], _, e0, e1, e2 =>
      simp at e0 e1 e2
      exact ⟨(a0, a1, a2), by rw [e0, e1, e2]⟩
theorem aKid {n : Nat} {x : V} (h : ArgT Try.prog n 66 x) : ∃ p : Kd, x = eK p := by
  obtain ⟨cs, rfl⟩ := h.agg (by rw [Try.underlying66]; rfl)
  obtain ⟨p, e⟩ := tKid h.1
  exact ⟨p, by rw [eK]; exact congrArg V.agg e⟩
theorem aChange {n : Nat} {x : V} (h : ArgT Try.prog n 41 x) : ∃ p : Ch, x = eC p := by
  obtain ⟨cs, rfl⟩ := h.agg (by rw [Try.underlying41]; rfl)
  obtain ⟨p, e⟩ := tChange h.1
  exact ⟨p, by rw [eC]; exact congrArg V.agg e⟩

theorem list_of {α : Type} {f : α → V} : ∀ {l : List V}, (∀ x ∈ l, ∃ a, x = f a) → ∃ bs : List α, l = bs.map f
  | [], _ => ⟨[], rfl⟩
  | x :: l, h => by
    obtain ⟨a, rfl⟩ := h x (by simp)
    obtain ⟨bs, rfl⟩ := list_of (fun y hy => h y (by simp [hy]) : ∀ y ∈ l, _)
    exact ⟨a :: bs, rfl⟩

theorem aKids {n : Nat} {x : V} (h : ArgT Try.prog n 22 x) : ∃ l : List Kd, x = .sl (eKs l) := by
  have h2 := h.leaf (by rw [Try.underlying22]; rfl)
  have h1 := h.1
  cases n with
  | zero => cases h1
  | succ n =>
    unfold TyC at h1
    rw [Try.underlying22] at h1
    obtain ⟨l, e, _, hx⟩ := h1
    obtain ⟨bs, rfl⟩ := list_of (f := eK) fun x hm => aKid (hx x hm)
    exact ⟨bs, by rw [h2] at e; simpa using e⟩
theorem aChanges {n : Nat} {x : V} (h : ArgT Try.prog n 23 x) : ∃ l : List Ch, x = .sl (eCs l) := by
  have h2 := h.leaf (by rw [Try.underlying23]; rfl)
  have h1 := h.1
  cases n with
  | zero => cases h1
  | succ n =>
    unfold TyC at h1
    rw [Try.underlying23] at h1
    obtain ⟨l, e, _, hx⟩ := h1
    obtain ⟨bs, rfl⟩ := list_of (f := eC) fun x hm => aChange (hx x hm)
    exact ⟨bs, by rw [h2] at e; simpa using e⟩
theorem aInt {n : Nat} {x : V} (h : ArgT Try.prog n 3 x) : ∃ m, x = .int .i64 m := by
  have h2 := h.leaf (by rw [Try.underlying3]; rfl)
  obtain ⟨m, e⟩ := tInt h.1
  exact ⟨m, by rw [h2] at e; simpa using e⟩
theorem aStr {n : Nat} {x : V} (h : ArgT Try.prog n 9 x) : ∃ m, x = .str m := by
  have h2 := h.leaf (by rw [Try.underlying9]; rfl)
  obtain ⟨m, e⟩ := tStr h.1
  exact ⟨m, by rw [h2] at e; simpa using e⟩

theorem own : ownKnob Try.prog.godebug = none := by kernel_rfl

theorem args2 {P : Program} {n : Nat} {t t' : TypeId} {xs : List V} (h : ArgsT P n [t, t'] xs) : ∃ a b, xs = [a, b] ∧ ArgT P n t a ∧ ArgT P n t' b := by
  match xs, h with
  | [a, b], h => exact ⟨a, b, rfl, h.1, h.2.1⟩
theorem args3 {P : Program} {n : Nat} {t t' t'' : TypeId} {xs : List V} (h : ArgsT P n [t, t', t''] xs) : ∃ a b c, xs = [a, b, c] ∧ ArgT P n t a ∧ ArgT P n t' b ∧ ArgT P n t'' c := by
  match xs, h with
  | [a, b, c], h => exact ⟨a, b, c, rfl, h.1, h.2.1, h.2.2.1⟩
theorem len2 {α : Type} {l : List α} (h : l.length = 2) : ∃ a b, l = [a, b] := by
  match l, h with
  | [a, b], _ => exact ⟨a, b, rfl⟩
theorem len3 {α : Type} {l : List α} (h : l.length = 3) : ∃ a b c, l = [a, b, c] := by
  match l, h with
  | [a, b, c], _ => exact ⟨a, b, c, rfl⟩

theorem sideKids_args (xs : List V) (h : ArgsT scfg.P 6 Try.f3.params.toList xs) : pcW scfg 3 xs = some (.bool true) := by
  rw [Try.params3] at h
  obtain ⟨a, b, c, rfl, ha, hb, hc⟩ := args3 h
  obtain ⟨l, rfl⟩ := aKids ha
  obtain ⟨m, rfl⟩ := aKids hb
  obtain ⟨c, rfl⟩ := aChanges hc
  exact lawKids l m c

set_option maxRecDepth 100000 in
theorem sideKids_lifted (os : Os) (started : os.Started) (H : Type) (enc : TypeId × Value → H) :
    ReturnsInHanded {} Try.checked os 3 .any (Rows.sideKidsSpec.pre6 enc Try.prog Try.f3 Rows.sideKidsRow.domain false) (Rows.sideKidsSpec.post enc Try.prog Try.f3 false true false false) := by
  refine returnsInHanded_of_change (C := Try.checked) own started (by kernel_rfl) Try.func3
    (ChangeSpec.witness6 (enc := enc) (C := Try.checked) false ⟨#[], #[.slice none 0 0, .slice none 0 0, .slice none 0 0], []⟩ 8 (by kernel_rfl) (by kernel_rfl) (by kernel_rfl) (by kernel_rfl)) ?_
  intro W base args ds gs before hval hW _ _
  exact law_contract hok 6 (by kernel_rfl) (by kernel_rfl) (s := Rows.sideKidsSpec) rfl (by kernel_rfl) (tb := 4) (by kernel_rfl) Try.underlying4
    (fun H ds h => by
      obtain ⟨a, b, c, rfl⟩ := len3 (h.trans (by rw [Try.params3]; rfl))
      rfl) sideKids_args W base args ds gs before hval hW

theorem sideKids_holds : Rows.SideKidsSaid :=
  OpenClaim.holds_of_wide 3 Try.f3 rfl rfl rfl rfl rfl rfl rfl ⟨rfl, rfl, rfl, rfl, rfl⟩ rfl rfl rfl rfl rfl (by kernel_rfl) Try.func3 (by kernel_rfl)
    (of_decide_eq_true (by kernel_rfl)) (by unfold Func.isWrapper; first | (rw [if_pos (by decide +kernel)]; kernel_rfl) | (rw [if_neg (by decide +kernel)]; exact ⟨rfl, rfl⟩))
    (fun os started H enc _ => sideKids_lifted os started H enc)

theorem sideParts_args (xs : List V) (h : ArgsT scfg.P 6 Try.f5.params.toList xs) : pcW scfg 5 xs = some (.bool true) := by
  rw [Try.params5] at h
  obtain ⟨a, b, c, rfl, ha, hb, hc⟩ := args3 h
  obtain ⟨l, rfl⟩ := aKids ha
  obtain ⟨c, rfl⟩ := aChanges hb
  obtain ⟨k, rfl⟩ := aInt hc
  exact lawParts l c k

set_option maxRecDepth 100000 in
theorem sideParts_lifted (os : Os) (started : os.Started) (H : Type) (enc : TypeId × Value → H) :
    ReturnsInHanded {} Try.checked os 5 .any (Rows.sidePartsSpec.pre6 enc Try.prog Try.f5 Rows.sidePartsRow.domain false) (Rows.sidePartsSpec.post enc Try.prog Try.f5 false true false false) := by
  refine returnsInHanded_of_change (C := Try.checked) own started (by kernel_rfl) Try.func5
    (ChangeSpec.witness6 (enc := enc) (C := Try.checked) false ⟨#[], #[.slice none 0 0, .slice none 0 0, .int .i64 0], []⟩ 8 (by kernel_rfl) (by kernel_rfl) (by kernel_rfl) (by kernel_rfl)) ?_
  intro W base args ds gs before hval hW _ _
  exact law_contract hok 6 (by kernel_rfl) (by kernel_rfl) (s := Rows.sidePartsSpec) rfl (by kernel_rfl) (tb := 4) (by kernel_rfl) Try.underlying4
    (fun H ds h => by
      obtain ⟨a, b, c, rfl⟩ := len3 (h.trans (by rw [Try.params5]; rfl))
      rfl) sideParts_args W base args ds gs before hval hW

theorem sideParts_holds : Rows.SidePartsSaid :=
  OpenClaim.holds_of_wide 5 Try.f5 rfl rfl rfl rfl rfl rfl rfl ⟨rfl, rfl, rfl, rfl, rfl⟩ rfl rfl rfl rfl rfl (by kernel_rfl) Try.func5 (by kernel_rfl)
    (of_decide_eq_true (by kernel_rfl)) (by unfold Func.isWrapper; first | (rw [if_pos (by decide +kernel)]; kernel_rfl) | (rw [if_neg (by decide +kernel)]; exact ⟨rfl, rfl⟩))
    (fun os started H enc _ => sideParts_lifted os started H enc)

theorem sideDiff_args (xs : List V) (h : ArgsT scfg.P 6 Try.f6.params.toList xs) : pcW scfg 6 xs = some (.bool true) := by
  rw [Try.params6] at h
  obtain ⟨a, b, rfl, ha, hb⟩ := args2 h
  obtain ⟨l, rfl⟩ := aKids ha
  obtain ⟨m, rfl⟩ := aKids hb
  exact lawDiff l m

set_option maxRecDepth 100000 in
theorem sideDiff_lifted (os : Os) (started : os.Started) (H : Type) (enc : TypeId × Value → H) :
    ReturnsInHanded {} Try.checked os 6 .any (Rows.sideDiffSpec.pre6 enc Try.prog Try.f6 Rows.sideDiffRow.domain false) (Rows.sideDiffSpec.post enc Try.prog Try.f6 false true false false) := by
  refine returnsInHanded_of_change (C := Try.checked) own started (by kernel_rfl) Try.func6
    (ChangeSpec.witness6 (enc := enc) (C := Try.checked) false ⟨#[], #[.slice none 0 0, .slice none 0 0], []⟩ 8 (by kernel_rfl) (by kernel_rfl) (by kernel_rfl) (by kernel_rfl)) ?_
  intro W base args ds gs before hval hW _ _
  exact law_contract hok 6 (by kernel_rfl) (by kernel_rfl) (s := Rows.sideDiffSpec) rfl (by kernel_rfl) (tb := 4) (by kernel_rfl) Try.underlying4
    (fun H ds h => by
      obtain ⟨a, b, rfl⟩ := len2 (h.trans (by rw [Try.params6]; rfl))
      rfl) sideDiff_args W base args ds gs before hval hW

theorem sideDiff_holds : Rows.SideDiffSaid :=
  OpenClaim.holds_of_wide 6 Try.f6 rfl rfl rfl rfl rfl rfl rfl ⟨rfl, rfl, rfl, rfl, rfl⟩ rfl rfl rfl rfl rfl (by kernel_rfl) Try.func6 (by kernel_rfl)
    (of_decide_eq_true (by kernel_rfl)) (by unfold Func.isWrapper; first | (rw [if_pos (by decide +kernel)]; kernel_rfl) | (rw [if_neg (by decide +kernel)]; exact ⟨rfl, rfl⟩))
    (fun os started H enc _ => sideDiff_lifted os started H enc)

theorem sideBack_args (xs : List V) (h : ArgsT scfg.P 6 Try.f8.params.toList xs) : pcW scfg 8 xs = some (.bool true) := by
  rw [Try.params8] at h
  obtain ⟨a, b, c, rfl, ha, hb, hc⟩ := args3 h
  obtain ⟨l, rfl⟩ := aKids ha
  obtain ⟨t, rfl⟩ := aStr hb
  obtain ⟨k, rfl⟩ := aInt hc
  exact lawBack l t k

set_option maxRecDepth 100000 in
theorem sideBack_lifted (os : Os) (started : os.Started) (H : Type) (enc : TypeId × Value → H) :
    ReturnsInHanded {} Try.checked os 8 .any (Rows.sideBackSpec.pre6 enc Try.prog Try.f8 Rows.sideBackRow.domain false) (Rows.sideBackSpec.post enc Try.prog Try.f8 false true false false) := by
  refine returnsInHanded_of_change (C := Try.checked) own started (by kernel_rfl) Try.func8
    (ChangeSpec.witness6 (enc := enc) (C := Try.checked) false ⟨#[], #[.slice none 0 0, .string ⟨#[]⟩, .int .i64 0], []⟩ 8 (by kernel_rfl) (by kernel_rfl) (by kernel_rfl) (by kernel_rfl)) ?_
  intro W base args ds gs before hval hW _ _
  exact law_contract hok 6 (by kernel_rfl) (by kernel_rfl) (s := Rows.sideBackSpec) rfl (by kernel_rfl) (tb := 4) (by kernel_rfl) Try.underlying4
    (fun H ds h => by
      obtain ⟨a, b, c, rfl⟩ := len3 (h.trans (by rw [Try.params8]; rfl))
      rfl) sideBack_args W base args ds gs before hval hW

theorem sideBack_holds : Rows.SideBackSaid :=
  OpenClaim.holds_of_wide 8 Try.f8 rfl rfl rfl rfl rfl rfl rfl ⟨rfl, rfl, rfl, rfl, rfl⟩ rfl rfl rfl rfl rfl (by kernel_rfl) Try.func8 (by kernel_rfl)
    (of_decide_eq_true (by kernel_rfl)) (by unfold Func.isWrapper; first | (rw [if_pos (by decide +kernel)]; kernel_rfl) | (rw [if_neg (by decide +kernel)]; exact ⟨rfl, rfl⟩))
    (fun os started H enc _ => sideBack_lifted os started H enc)

end Go.Proofs.Ytgpgjojejdaibaa
