/-
  The laws of layer 16 (moves): whatever the input, each returns true and leaves its arguments as they were. No condition.
-/
import Derived.Test.YtnaidbmgibmnbaaM18
import Derived.Test.YtnaidbmgibmnbaaMS
import Derived.Test.YtnaidbmgibmnbaaLite26
import Derived.Test.YtnaidbmgibmnbaaRows
import Derived.WalkKit
import Derived.ProofKit
import Derived.OpenShut
import Derived.KernelRfl
import Derived.Handed
import Derived.JoinedOf
import Derived.JoinedCond
namespace Go.Proofs.Ytnaidbmgibmnbaa
open Go Go.Lite Go.ChangeShapes Go.WideShapes Go.ChangeAt Go.RowKit
set_option linter.unusedVariables false
set_option maxRecDepth 100000

theorem hok : CfgOK cfgB := hokB
theorem tInt {n : Nat} {vs : List V} (h : TyC Try.prog n 3 vs) : ∃ m, vs = [.int .i64 m] ∧ (Lit.int .i64 m).wf = true := by
  cases n with
  | zero => cases h
  | succ n => unfold TyC at h; rw [Try.underlying3] at h; exact h
theorem aInt {n : Nat} {x : V} (h : ArgT Try.prog n 3 x) : ∃ m, x = .int .i64 m ∧ (Lit.int .i64 m).wf = true := by
  have h2 := h.leaf (by rw [Try.underlying3]; rfl)
  obtain ⟨m, e, w⟩ := tInt h.1
  exact ⟨m, by rw [h2] at e; simpa using e, w⟩
theorem tBool {n : Nat} {vs : List V} (h : TyC Try.prog n 4 vs) : ∃ m, vs = [.bool m] := by
  cases n with
  | zero => cases h
  | succ n => unfold TyC at h; rw [Try.underlying4] at h; exact h
theorem aBool {n : Nat} {x : V} (h : ArgT Try.prog n 4 x) : ∃ m, x = .bool m := by
  have h2 := h.leaf (by rw [Try.underlying4]; rfl)
  obtain ⟨m, e⟩ := tBool h.1
  exact ⟨m, by rw [h2] at e; simpa using e⟩
theorem aInt' {n : Nat} {x : V} (h : ArgT Try.prog n 3 x) : ∃ m : Int, x = iV m ∧ (fun _ => True) m := let ⟨m, e, _⟩ := aInt h; ⟨m, e, trivial⟩
theorem lInts : ∀ {l : List V}, (∀ x ∈ l, ∃ m : Int, x = (iV) m ∧ (fun _ => True) m) → ∃ ms : List Int, l = ms.map (iV) ∧ ∀ m ∈ ms, (fun _ => True) m
  | [], _ => ⟨[], rfl, by simp⟩
  | x :: l, h => by
    obtain ⟨a, rfl, ha⟩ := h x (by simp)
    obtain ⟨ms, rfl, hb⟩ := lInts (fun y hy => h y (by simp [hy]) : ∀ y ∈ l, _)
    refine ⟨a :: ms, rfl, fun m hm => ?_⟩
    rcases List.mem_cons.1 hm with rfl | hm
    · exact ha
    · exact hb m hm
theorem tInts {n : Nat} {vs : List V} (h : TyC Try.prog n 22 vs) : ∃ ms : List Int, vs = [.sl (ms.map (iV))] ∧ ms.length ≤ maxLen ∧ ∀ m ∈ ms, (fun _ => True) m := by
  cases n with
  | zero => cases h
  | succ n =>
    unfold TyC at h
    rw [Try.underlying22] at h
    obtain ⟨l, rfl, hl, hx⟩ := h
    obtain ⟨ms, rfl, hm⟩ := lInts fun x hm => aInt' (n := n) (hx x hm)
    exact ⟨ms, rfl, by simpa using hl, hm⟩
theorem aInts {n : Nat} {x : V} (h : ArgT Try.prog n 22 x) : ∃ ms : List Int, x = .sl (ms.map (iV)) ∧ ms.length ≤ maxLen ∧ ∀ m ∈ ms, (fun _ => True) m := by
  have h2 := h.leaf (by rw [Try.underlying22]; rfl)
  obtain ⟨m, e, w⟩ := tInts h.1
  exact ⟨m, by rw [h2] at e; simpa using e, w⟩
theorem tStep {n : Nat} {vs : List V} (h : TyC Try.prog n 44 vs) : ∃ p : Sp, vs = [.int .i64 p.1, .int .i64 p.2.1, .bool p.2.2] := by
  cases n with
  | zero => cases h
  | succ n =>
    unfold TyC at h
    rw [Try.underlying44] at h
    obtain ⟨hl, hf⟩ := h
    rw [show Try.prog.cellsOf 44 = 3 by kernel_rfl] at hl
    simp only [List.mem_cons, forall_eq_or_imp, List.not_mem_nil, false_implies, implies_true, and_true, show Try.prog.cellsOf 3 = 1 by kernel_rfl, show Try.prog.cellsOf 4 = 1 by kernel_rfl] at hf
    obtain ⟨h0, h1, h2⟩ := hf
    obtain ⟨f, e0, _⟩ := tInt h0
    obtain ⟨t, e1, _⟩ := tInt h1
    obtain ⟨s, e2⟩ := tBool h2
    match vs, hl, e0, e1, e2 with
    | [b0, b1, b2], _, e0, e1, e2 =>
      simp at e0 e1 e2
      exact ⟨(f, t, s), by rw [e0, e1, e2]⟩
theorem aStep0 {n : Nat} {x : V} (h : ArgT Try.prog n 44 x) : ∃ cs, x = .agg cs ∧ TyC Try.prog n 44 cs := by
  obtain ⟨cs, rfl⟩ := h.agg (by rw [Try.underlying44]; rfl)
  exact ⟨cs, rfl, h.1⟩
theorem aStep' {n : Nat} {x : V} (h : ArgT Try.prog n 44 x) : ∃ p : Sp, x = eSp p ∧ (fun _ => True) p := by
  obtain ⟨cs, rfl, hC⟩ := aStep0 h
  obtain ⟨p, rfl⟩ := tStep hC
  exact ⟨p, rfl, trivial⟩
theorem lSteps : ∀ {l : List V}, (∀ x ∈ l, ∃ m : Sp, x = (eSp) m ∧ (fun _ => True) m) → ∃ ms : List Sp, l = ms.map (eSp) ∧ ∀ m ∈ ms, (fun _ => True) m
  | [], _ => ⟨[], rfl, by simp⟩
  | x :: l, h => by
    obtain ⟨a, rfl, ha⟩ := h x (by simp)
    obtain ⟨ms, rfl, hb⟩ := lSteps (fun y hy => h y (by simp [hy]) : ∀ y ∈ l, _)
    refine ⟨a :: ms, rfl, fun m hm => ?_⟩
    rcases List.mem_cons.1 hm with rfl | hm
    · exact ha
    · exact hb m hm
theorem tSteps {n : Nat} {vs : List V} (h : TyC Try.prog n 23 vs) : ∃ ms : List Sp, vs = [.sl (ms.map (eSp))] ∧ ms.length ≤ maxLen ∧ ∀ m ∈ ms, (fun _ => True) m := by
  cases n with
  | zero => cases h
  | succ n =>
    unfold TyC at h
    rw [Try.underlying23] at h
    obtain ⟨l, rfl, hl, hx⟩ := h
    obtain ⟨ms, rfl, hm⟩ := lSteps fun x hm => aStep' (n := n) (hx x hm)
    exact ⟨ms, rfl, by simpa using hl, hm⟩
theorem aSteps {n : Nat} {x : V} (h : ArgT Try.prog n 23 x) : ∃ ms : List Sp, x = .sl (ms.map (eSp)) ∧ ms.length ≤ maxLen ∧ ∀ m ∈ ms, (fun _ => True) m := by
  have h2 := h.leaf (by rw [Try.underlying23]; rfl)
  obtain ⟨m, e, w⟩ := tSteps h.1
  exact ⟨m, by rw [h2] at e; simpa using e, w⟩
theorem own : ownKnob Try.prog.godebug = none := by kernel_rfl
theorem args1 {P : Program} {n : Nat} {t : TypeId} {xs : List V} (h : ArgsT P n [t] xs) : ∃ a, xs = [a] ∧ ArgT P n t a := by
  match xs, h with
  | [a], h => exact ⟨a, rfl, h.1⟩
theorem args2 {P : Program} {n : Nat} {t t' : TypeId} {xs : List V} (h : ArgsT P n [t, t'] xs) : ∃ a b, xs = [a, b] ∧ ArgT P n t a ∧ ArgT P n t' b := by
  match xs, h with
  | [a, b], h => exact ⟨a, b, rfl, h.1, h.2.1⟩
theorem args3 {P : Program} {n : Nat} {t t' t'' : TypeId} {xs : List V} (h : ArgsT P n [t, t', t''] xs) : ∃ a b c, xs = [a, b, c] ∧ ArgT P n t a ∧ ArgT P n t' b ∧ ArgT P n t'' c := by
  match xs, h with
  | [a, b, c], h => exact ⟨a, b, c, rfl, h.1, h.2.1, h.2.2.1⟩
theorem len1 {α : Type} {l : List α} (h : l.length = 1) : ∃ a, l = [a] := by
  match l, h with
  | [a], _ => exact ⟨a, rfl⟩
theorem len2 {α : Type} {l : List α} (h : l.length = 2) : ∃ a b, l = [a, b] := by
  match l, h with
  | [a, b], _ => exact ⟨a, b, rfl⟩
theorem len3 {α : Type} {l : List α} (h : l.length = 3) : ∃ a b c, l = [a, b, c] := by
  match l, h with
  | [a, b, c], _ => exact ⟨a, b, c, rfl⟩

theorem movesTell_args (xs : List V) (h : ArgsT cfgB.P 6 Try.f3.params.toList xs) : pcW cfgB 3 xs = some (.bool true) := by
  rw [Try.params3] at h
  obtain ⟨a, b, c, rfl, ha, hb, hc⟩ := args3 h
  obtain ⟨p, rfl, _⟩ := aInts ha
  obtain ⟨b, rfl, _⟩ := aInt hb
  obtain ⟨q, rfl, _⟩ := aSteps hc
  exact movesTell_true p b q

set_option maxRecDepth 100000 in
theorem movesTell_lifted (os : Os) (started : os.Started) (H : Type) (enc : TypeId × Value → H) :
    ReturnsInHanded {} Try.checked os 3 .any (Rows.movesTellSpec.pre6 enc Try.prog Try.f3 Rows.movesTellRow.domain false) (Rows.movesTellSpec.post enc Try.prog Try.f3 false true false false) := by
  refine returnsInHanded_of_change (C := Try.checked) own started (by kernel_rfl) Try.func3
    (ChangeSpec.witness6 (enc := enc) (C := Try.checked) false ⟨#[], #[.slice none 0 0, .int .i64 0, .slice none 0 0], []⟩ 8 (by kernel_rfl) (by kernel_rfl) (by kernel_rfl) (by kernel_rfl)) ?_
  intro W base args ds gs before hval hW _ _
  exact law_contract hok 6 (by kernel_rfl) (by kernel_rfl) (s := Rows.movesTellSpec) rfl (by kernel_rfl) (tb := 4) (by kernel_rfl) Try.underlying4
    (fun H ds h => by
      obtain ⟨a, b, c, rfl⟩ := len3 (h.trans (by rw [Try.params3]; rfl))
      rfl) movesTell_args W base args ds gs before hval hW

theorem movesTell_holds : Rows.MovesTellSaid :=
  OpenClaim.holds_of_wide 3 Try.f3 rfl rfl rfl rfl rfl rfl rfl ⟨rfl, rfl, rfl, rfl, rfl⟩ rfl rfl rfl rfl rfl (by kernel_rfl) Try.func3 (by kernel_rfl)
    (of_decide_eq_true (by kernel_rfl)) (by unfold Func.isWrapper; first | (rw [if_pos (by decide +kernel)]; kernel_rfl) | (rw [if_neg (by decide +kernel)]; exact ⟨rfl, rfl⟩))
    (fun os started H enc _ => movesTell_lifted os started H enc)

theorem movesSort_args (xs : List V) (h : ArgsT cfgB.P 6 Try.f4.params.toList xs) : pcW cfgB 4 xs = some (.bool true) := by
  rw [Try.params4] at h
  obtain ⟨a, rfl, ha⟩ := args1 h
  obtain ⟨p, rfl, _⟩ := aInts ha
  exact movesSort_true p

set_option maxRecDepth 100000 in
theorem movesSort_lifted (os : Os) (started : os.Started) (H : Type) (enc : TypeId × Value → H) :
    ReturnsInHanded {} Try.checked os 4 .any (Rows.movesSortSpec.pre6 enc Try.prog Try.f4 Rows.movesSortRow.domain false) (Rows.movesSortSpec.post enc Try.prog Try.f4 false true false false) := by
  refine returnsInHanded_of_change (C := Try.checked) own started (by kernel_rfl) Try.func4
    (ChangeSpec.witness6 (enc := enc) (C := Try.checked) false ⟨#[], #[.slice none 0 0], []⟩ 8 (by kernel_rfl) (by kernel_rfl) (by kernel_rfl) (by kernel_rfl)) ?_
  intro W base args ds gs before hval hW _ _
  exact law_contract hok 6 (by kernel_rfl) (by kernel_rfl) (s := Rows.movesSortSpec) rfl (by kernel_rfl) (tb := 4) (by kernel_rfl) Try.underlying4
    (fun H ds h => by
      obtain ⟨a, rfl⟩ := len1 (h.trans (by rw [Try.params4]; rfl))
      rfl) movesSort_args W base args ds gs before hval hW

theorem movesSort_holds : Rows.MovesSortSaid :=
  OpenClaim.holds_of_wide 4 Try.f4 rfl rfl rfl rfl rfl rfl rfl ⟨rfl, rfl, rfl, rfl, rfl⟩ rfl rfl rfl rfl rfl (by kernel_rfl) Try.func4 (by kernel_rfl)
    (of_decide_eq_true (by kernel_rfl)) (by unfold Func.isWrapper; first | (rw [if_pos (by decide +kernel)]; kernel_rfl) | (rw [if_neg (by decide +kernel)]; exact ⟨rfl, rfl⟩))
    (fun os started H enc _ => movesSort_lifted os started H enc)

theorem movesInto_args (xs : List V) (h : ArgsT cfgB.P 6 Try.f5.params.toList xs) : pcW cfgB 5 xs = some (.bool true) := by
  rw [Try.params5] at h
  obtain ⟨a, b, rfl, ha, hb⟩ := args2 h
  obtain ⟨p, rfl, _⟩ := aInts ha
  obtain ⟨b, rfl, _⟩ := aInt hb
  exact movesInto_true p b

set_option maxRecDepth 100000 in
theorem movesInto_lifted (os : Os) (started : os.Started) (H : Type) (enc : TypeId × Value → H) :
    ReturnsInHanded {} Try.checked os 5 .any (Rows.movesIntoSpec.pre6 enc Try.prog Try.f5 Rows.movesIntoRow.domain false) (Rows.movesIntoSpec.post enc Try.prog Try.f5 false true false false) := by
  refine returnsInHanded_of_change (C := Try.checked) own started (by kernel_rfl) Try.func5
    (ChangeSpec.witness6 (enc := enc) (C := Try.checked) false ⟨#[], #[.slice none 0 0, .int .i64 0], []⟩ 8 (by kernel_rfl) (by kernel_rfl) (by kernel_rfl) (by kernel_rfl)) ?_
  intro W base args ds gs before hval hW _ _
  exact law_contract hok 6 (by kernel_rfl) (by kernel_rfl) (s := Rows.movesIntoSpec) rfl (by kernel_rfl) (tb := 4) (by kernel_rfl) Try.underlying4
    (fun H ds h => by
      obtain ⟨a, b, rfl⟩ := len2 (h.trans (by rw [Try.params5]; rfl))
      rfl) movesInto_args W base args ds gs before hval hW

theorem movesInto_holds : Rows.MovesIntoSaid :=
  OpenClaim.holds_of_wide 5 Try.f5 rfl rfl rfl rfl rfl rfl rfl ⟨rfl, rfl, rfl, rfl, rfl⟩ rfl rfl rfl rfl rfl (by kernel_rfl) Try.func5 (by kernel_rfl)
    (of_decide_eq_true (by kernel_rfl)) (by unfold Func.isWrapper; first | (rw [if_pos (by decide +kernel)]; kernel_rfl) | (rw [if_neg (by decide +kernel)]; exact ⟨rfl, rfl⟩))
    (fun os started H enc _ => movesInto_lifted os started H enc)

theorem movesBack_args (xs : List V) (h : ArgsT cfgB.P 6 Try.f6.params.toList xs) : pcW cfgB 6 xs = some (.bool true) := by
  rw [Try.params6] at h
  obtain ⟨a, b, rfl, ha, hb⟩ := args2 h
  obtain ⟨p, rfl, _⟩ := aInts ha
  obtain ⟨q, rfl, _⟩ := aSteps hb
  exact movesBack_true p q

set_option maxRecDepth 100000 in
theorem movesBack_lifted (os : Os) (started : os.Started) (H : Type) (enc : TypeId × Value → H) :
    ReturnsInHanded {} Try.checked os 6 .any (Rows.movesBackSpec.pre6 enc Try.prog Try.f6 Rows.movesBackRow.domain false) (Rows.movesBackSpec.post enc Try.prog Try.f6 false true false false) := by
  refine returnsInHanded_of_change (C := Try.checked) own started (by kernel_rfl) Try.func6
    (ChangeSpec.witness6 (enc := enc) (C := Try.checked) false ⟨#[], #[.slice none 0 0, .slice none 0 0], []⟩ 8 (by kernel_rfl) (by kernel_rfl) (by kernel_rfl) (by kernel_rfl)) ?_
  intro W base args ds gs before hval hW _ _
  exact law_contract hok 6 (by kernel_rfl) (by kernel_rfl) (s := Rows.movesBackSpec) rfl (by kernel_rfl) (tb := 4) (by kernel_rfl) Try.underlying4
    (fun H ds h => by
      obtain ⟨a, b, rfl⟩ := len2 (h.trans (by rw [Try.params6]; rfl))
      rfl) movesBack_args W base args ds gs before hval hW

theorem movesBack_holds : Rows.MovesBackSaid :=
  OpenClaim.holds_of_wide 6 Try.f6 rfl rfl rfl rfl rfl rfl rfl ⟨rfl, rfl, rfl, rfl, rfl⟩ rfl rfl rfl rfl rfl (by kernel_rfl) Try.func6 (by kernel_rfl)
    (of_decide_eq_true (by kernel_rfl)) (by unfold Func.isWrapper; first | (rw [if_pos (by decide +kernel)]; kernel_rfl) | (rw [if_neg (by decide +kernel)]; exact ⟨rfl, rfl⟩))
    (fun os started H enc _ => movesBack_lifted os started H enc)

theorem movesStill_args (xs : List V) (h : ArgsT cfgB.P 6 Try.f7.params.toList xs) : pcW cfgB 7 xs = some (.bool true) := by
  rw [Try.params7] at h
  obtain ⟨a, rfl, ha⟩ := args1 h
  obtain ⟨p, rfl, _⟩ := aInts ha
  exact movesStill_true p

set_option maxRecDepth 100000 in
theorem movesStill_lifted (os : Os) (started : os.Started) (H : Type) (enc : TypeId × Value → H) :
    ReturnsInHanded {} Try.checked os 7 .any (Rows.movesStillSpec.pre6 enc Try.prog Try.f7 Rows.movesStillRow.domain false) (Rows.movesStillSpec.post enc Try.prog Try.f7 false true false false) := by
  refine returnsInHanded_of_change (C := Try.checked) own started (by kernel_rfl) Try.func7
    (ChangeSpec.witness6 (enc := enc) (C := Try.checked) false ⟨#[], #[.slice none 0 0], []⟩ 8 (by kernel_rfl) (by kernel_rfl) (by kernel_rfl) (by kernel_rfl)) ?_
  intro W base args ds gs before hval hW _ _
  exact law_contract hok 6 (by kernel_rfl) (by kernel_rfl) (s := Rows.movesStillSpec) rfl (by kernel_rfl) (tb := 4) (by kernel_rfl) Try.underlying4
    (fun H ds h => by
      obtain ⟨a, rfl⟩ := len1 (h.trans (by rw [Try.params7]; rfl))
      rfl) movesStill_args W base args ds gs before hval hW

theorem movesStill_holds : Rows.MovesStillSaid :=
  OpenClaim.holds_of_wide 7 Try.f7 rfl rfl rfl rfl rfl rfl rfl ⟨rfl, rfl, rfl, rfl, rfl⟩ rfl rfl rfl rfl rfl (by kernel_rfl) Try.func7 (by kernel_rfl)
    (of_decide_eq_true (by kernel_rfl)) (by unfold Func.isWrapper; first | (rw [if_pos (by decide +kernel)]; kernel_rfl) | (rw [if_neg (by decide +kernel)]; exact ⟨rfl, rfl⟩))
    (fun os started H enc _ => movesStill_lifted os started H enc)

end Go.Proofs.Ytnaidbmgibmnbaa
