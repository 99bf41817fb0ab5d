/-
  The laws of layer 11 (inner): whatever the input, each returns true and leaves its arguments as they were. No condition.
-/
import Derived.Test.YtndkhelglfakfaaQM
import Derived.Test.YtndkhelglfakfaaQS
import Derived.Test.YtndkhelglfakfaaLite26
import Derived.Test.YtndkhelglfakfaaRows
import Derived.WalkKit
import Derived.ProofKit
import Derived.OpenShut
import Derived.KernelRfl
import Derived.Handed
import Derived.JoinedOf
import Derived.JoinedCond
namespace Go.Proofs.Ytndkhelglfakfaa
open Go Go.Lite Go.ChangeShapes Go.WideShapes Go.ChangeAt Go.RowKit
set_option linter.unusedVariables false
set_option maxRecDepth 100000

theorem tInt {n : Nat} {vs : List V} (h : TyC Try.prog n 3 vs) : ∃ m, vs = [.int .i64 m] ∧ (Lit.int .i64 m).wf = true := by
  cases n with
  | zero => cases h
  | succ n => unfold TyC at h; rw [Try.underlying3] at h; exact h
theorem aInt {n : Nat} {x : V} (h : ArgT Try.prog n 3 x) : ∃ m, x = .int .i64 m ∧ (Lit.int .i64 m).wf = true := by
  have h2 := h.leaf (by rw [Try.underlying3]; rfl)
  obtain ⟨m, e, w⟩ := tInt h.1
  exact ⟨m, by rw [h2] at e; simpa using e, w⟩
theorem tBool {n : Nat} {vs : List V} (h : TyC Try.prog n 4 vs) : ∃ m, vs = [.bool m] := by
  cases n with
  | zero => cases h
  | succ n => unfold TyC at h; rw [Try.underlying4] at h; exact h
theorem aBool {n : Nat} {x : V} (h : ArgT Try.prog n 4 x) : ∃ m, x = .bool m := by
  have h2 := h.leaf (by rw [Try.underlying4]; rfl)
  obtain ⟨m, e⟩ := tBool h.1
  exact ⟨m, by rw [h2] at e; simpa using e⟩
theorem tStr {n : Nat} {vs : List V} (h : TyC Try.prog n 9 vs) : ∃ s, vs = [.str s] ∧ s.length ≤ maxLen := by
  cases n with
  | zero => cases h
  | succ n => unfold TyC at h; rw [Try.underlying9] at h; exact h
theorem aStr {n : Nat} {x : V} (h : ArgT Try.prog n 9 x) : ∃ m, x = .str m ∧ m.length ≤ maxLen := by
  have h2 := h.leaf (by rw [Try.underlying9]; rfl)
  obtain ⟨m, e, w⟩ := tStr h.1
  exact ⟨m, by rw [h2] at e; simpa using e, w⟩
theorem aStr' {n : Nat} {x : V} (h : ArgT Try.prog n 9 x) : ∃ m : Bs, x = V.str m ∧ True := let ⟨m, e, _⟩ := aStr h; ⟨m, e, trivial⟩
theorem aInt' {n : Nat} {x : V} (h : ArgT Try.prog n 3 x) : ∃ m : Int, x = V.int .i64 m ∧ True := let ⟨m, e, _⟩ := aInt h; ⟨m, e, trivial⟩
theorem lStrs : ∀ {l : List V}, (∀ x ∈ l, ∃ m : Bs, x = (V.str) m ∧ (fun _ => True) m) → ∃ ms : List Bs, l = ms.map (V.str) ∧ ∀ m ∈ ms, (fun _ => True) m
  | [], _ => ⟨[], rfl, by simp⟩
  | x :: l, h => by
    obtain ⟨a, rfl, ha⟩ := h x (by simp)
    obtain ⟨ms, rfl, hb⟩ := lStrs (fun y hy => h y (by simp [hy]) : ∀ y ∈ l, _)
    refine ⟨a :: ms, rfl, fun m hm => ?_⟩
    rcases List.mem_cons.1 hm with rfl | hm
    · exact ha
    · exact hb m hm
theorem tStrs {n : Nat} {vs : List V} (h : TyC Try.prog n 22 vs) : ∃ ms : List Bs, vs = [.sl (ms.map (V.str))] ∧ ms.length ≤ maxLen ∧ ∀ m ∈ ms, (fun _ => True) m := by
  cases n with
  | zero => cases h
  | succ n =>
    unfold TyC at h
    rw [Try.underlying22] at h
    obtain ⟨l, rfl, hl, hx⟩ := h
    obtain ⟨ms, rfl, hm⟩ := lStrs fun x hm => aStr' (n := n) (hx x hm)
    exact ⟨ms, rfl, by simpa using hl, hm⟩
theorem aStrs {n : Nat} {x : V} (h : ArgT Try.prog n 22 x) : ∃ ms : List Bs, x = .sl (ms.map (V.str)) ∧ ms.length ≤ maxLen ∧ ∀ m ∈ ms, (fun _ => True) m := by
  have h2 := h.leaf (by rw [Try.underlying22]; rfl)
  obtain ⟨m, e, w⟩ := tStrs h.1
  exact ⟨m, by rw [h2] at e; simpa using e, w⟩
theorem lInts : ∀ {l : List V}, (∀ x ∈ l, ∃ m : Int, x = (V.int .i64) m ∧ (fun _ => True) m) → ∃ ms : List Int, l = ms.map (V.int .i64) ∧ ∀ m ∈ ms, (fun _ => True) m
  | [], _ => ⟨[], rfl, by simp⟩
  | x :: l, h => by
    obtain ⟨a, rfl, ha⟩ := h x (by simp)
    obtain ⟨ms, rfl, hb⟩ := lInts (fun y hy => h y (by simp [hy]) : ∀ y ∈ l, _)
    refine ⟨a :: ms, rfl, fun m hm => ?_⟩
    rcases List.mem_cons.1 hm with rfl | hm
    · exact ha
    · exact hb m hm
theorem tInts {n : Nat} {vs : List V} (h : TyC Try.prog n 23 vs) : ∃ ms : List Int, vs = [.sl (ms.map (V.int .i64))] ∧ ms.length ≤ maxLen ∧ ∀ m ∈ ms, (fun _ => True) m := by
  cases n with
  | zero => cases h
  | succ n =>
    unfold TyC at h
    rw [Try.underlying23] at h
    obtain ⟨l, rfl, hl, hx⟩ := h
    obtain ⟨ms, rfl, hm⟩ := lInts fun x hm => aInt' (n := n) (hx x hm)
    exact ⟨ms, rfl, by simpa using hl, hm⟩
theorem aInts {n : Nat} {x : V} (h : ArgT Try.prog n 23 x) : ∃ ms : List Int, x = .sl (ms.map (V.int .i64)) ∧ ms.length ≤ maxLen ∧ ∀ m ∈ ms, (fun _ => True) m := by
  have h2 := h.leaf (by rw [Try.underlying23]; rfl)
  obtain ⟨m, e, w⟩ := tInts h.1
  exact ⟨m, by rw [h2] at e; simpa using e, w⟩
theorem tInn {n : Nat} {vs : List V} (h : TyC Try.prog n 25 vs) : ∃ p : Inn, vs = [.sl (strs p.seps), .sl (ints p.kids), .str p.high, .int .i64 p.next] := by
  cases n with
  | zero => cases h
  | succ n =>
    unfold TyC at h
    rw [Try.underlying25] at h
    obtain ⟨hl, hf⟩ := h
    rw [show Try.prog.cellsOf 25 = 4 by kernel_rfl] at hl
    simp only [List.mem_cons, forall_eq_or_imp, List.not_mem_nil, false_implies, implies_true, and_true, show Try.prog.cellsOf 22 = 1 by kernel_rfl, show Try.prog.cellsOf 23 = 1 by kernel_rfl, show Try.prog.cellsOf 9 = 1 by kernel_rfl, show Try.prog.cellsOf 3 = 1 by kernel_rfl] at hf
    obtain ⟨h0, h1, h2, h3⟩ := hf
    obtain ⟨l, e0, _⟩ := tStrs h0
    obtain ⟨k, e1, _⟩ := tInts h1
    obtain ⟨s, e2, _⟩ := tStr h2
    obtain ⟨m, e3, _⟩ := tInt h3
    match vs, hl, e0, e1, e2, e3 with
    | [b0, b1, b2, b3], _, e0, e1, e2, e3 =>
      simp at e0 e1 e2 e3
      exact ⟨⟨l, k, s, m⟩, by rw [e0, e1, e2, e3]; rfl⟩
theorem aInn0 {n : Nat} {x : V} (h : ArgT Try.prog n 25 x) : ∃ cs, x = .agg cs ∧ TyC Try.prog n 25 cs := by
  obtain ⟨cs, rfl⟩ := h.agg (by rw [Try.underlying25]; rfl)
  exact ⟨cs, rfl, h.1⟩
theorem aInn {n : Nat} {x : V} (h : ArgT Try.prog n 25 x) : ∃ p : Inn, x = eI p := by
  obtain ⟨cs, rfl, hC⟩ := aInn0 h
  obtain ⟨p, rfl⟩ := tInn hC
  exact ⟨p, rfl⟩
theorem tInt2 {n : Nat} {vs : List V} (h : TyC Try.prog n 44 vs) : ∃ a b, vs = [.int .i64 a, .int .i64 b] := by
  cases n with
  | zero => cases h
  | succ n =>
    unfold TyC at h
    rw [Try.underlying44] at h
    obtain ⟨hl, hf⟩ := h
    rw [show Try.prog.cellsOf 44 = 2 by kernel_rfl] at hl
    simp only [show Try.prog.cellsOf 3 = 1 by kernel_rfl] at hf
    obtain ⟨a0, e0, _⟩ := tInt (hf 0 (by decide))
    obtain ⟨a1, e1, _⟩ := tInt (hf 1 (by decide))
    match vs, hl, e0, e1 with
    | [b0, b1], _, e0, e1 =>
      simp at e0 e1
      exact ⟨a0, a1, by rw [e0, e1]⟩
theorem aInt20 {n : Nat} {x : V} (h : ArgT Try.prog n 44 x) : ∃ cs, x = .agg cs ∧ TyC Try.prog n 44 cs := by
  obtain ⟨cs, rfl⟩ := h.agg (by rw [Try.underlying44]; rfl)
  exact ⟨cs, rfl, h.1⟩
theorem tStr2 {n : Nat} {vs : List V} (h : TyC Try.prog n 62 vs) : ∃ a b, vs = [.str a, .str b] := by
  cases n with
  | zero => cases h
  | succ n =>
    unfold TyC at h
    rw [Try.underlying62] at h
    obtain ⟨hl, hf⟩ := h
    rw [show Try.prog.cellsOf 62 = 2 by kernel_rfl] at hl
    simp only [show Try.prog.cellsOf 9 = 1 by kernel_rfl] at hf
    obtain ⟨a0, e0, _⟩ := tStr (hf 0 (by decide))
    obtain ⟨a1, e1, _⟩ := tStr (hf 1 (by decide))
    match vs, hl, e0, e1 with
    | [b0, b1], _, e0, e1 =>
      simp at e0 e1
      exact ⟨a0, a1, by rw [e0, e1]⟩
theorem aStr20 {n : Nat} {x : V} (h : ArgT Try.prog n 62 x) : ∃ cs, x = .agg cs ∧ TyC Try.prog n 62 cs := by
  obtain ⟨cs, rfl⟩ := h.agg (by rw [Try.underlying62]; rfl)
  exact ⟨cs, rfl, h.1⟩
theorem own : ownKnob Try.prog.godebug = none := by kernel_rfl
theorem args1 {P : Program} {n : Nat} {t : TypeId} {xs : List V} (h : ArgsT P n [t] xs) : ∃ a, xs = [a] ∧ ArgT P n t a := by
  match xs, h with
  | [a], h => exact ⟨a, rfl, h.1⟩
theorem args2 {P : Program} {n : Nat} {t t' : TypeId} {xs : List V} (h : ArgsT P n [t, t'] xs) : ∃ a b, xs = [a, b] ∧ ArgT P n t a ∧ ArgT P n t' b := by
  match xs, h with
  | [a, b], h => exact ⟨a, b, rfl, h.1, h.2.1⟩
theorem args3 {P : Program} {n : Nat} {t t' t'' : TypeId} {xs : List V} (h : ArgsT P n [t, t', t''] xs) : ∃ a b c, xs = [a, b, c] ∧ ArgT P n t a ∧ ArgT P n t' b ∧ ArgT P n t'' c := by
  match xs, h with
  | [a, b, c], h => exact ⟨a, b, c, rfl, h.1, h.2.1, h.2.2.1⟩
theorem len1 {α : Type} {l : List α} (h : l.length = 1) : ∃ a, l = [a] := by
  match l, h with
  | [a], _ => exact ⟨a, rfl⟩
theorem len2 {α : Type} {l : List α} (h : l.length = 2) : ∃ a b, l = [a, b] := by
  match l, h with
  | [a, b], _ => exact ⟨a, b, rfl⟩
theorem len3 {α : Type} {l : List α} (h : l.length = 3) : ∃ a b c, l = [a, b, c] := by
  match l, h with
  | [a, b, c], _ => exact ⟨a, b, c, rfl⟩

theorem innerPuts_args (xs : List V) (h : ArgsT qcfg.P 6 Try.f3.params.toList xs) : pcW qcfg 3 xs = some (.bool true) := by
  rw [Try.params3] at h
  obtain ⟨a, b, c, rfl, ha, hb, hc⟩ := args3 h
  obtain ⟨p, rfl⟩ := aInn ha
  obtain ⟨q, rfl⟩ := aInn hb
  obtain ⟨s, rfl, _⟩ := aStr hc
  exact innerPuts_true p q s

set_option maxRecDepth 100000 in
theorem innerPuts_lifted (os : Os) (started : os.Started) (H : Type) (enc : TypeId × Value → H) :
    ReturnsInHanded {} Try.checked os 3 .any (Rows.innerPutsSpec.pre6 enc Try.prog Try.f3 Rows.innerPutsRow.domain false) (Rows.innerPutsSpec.post enc Try.prog Try.f3 false true false false) := by
  refine returnsInHanded_of_change (C := Try.checked) own started (by kernel_rfl) Try.func3
    (ChangeSpec.witness6 (enc := enc) (C := Try.checked) false ⟨#[], #[.agg #[.slice none 0 0, .slice none 0 0, .string ⟨#[]⟩, .int .i64 0], .agg #[.slice none 0 0, .slice none 0 0, .string ⟨#[]⟩, .int .i64 0], .string ⟨#[]⟩], []⟩ 8 (by kernel_rfl) (by kernel_rfl) (by kernel_rfl) (by kernel_rfl)) ?_
  intro W base args ds gs before hval hW _ _
  exact law_contract hok 6 (by kernel_rfl) (by kernel_rfl) (s := Rows.innerPutsSpec) rfl (by kernel_rfl) (tb := 4) (by kernel_rfl) Try.underlying4
    (fun H ds h => by
      obtain ⟨a, b, c, rfl⟩ := len3 (h.trans (by rw [Try.params3]; rfl))
      rfl) innerPuts_args W base args ds gs before hval hW

theorem innerPuts_holds : Rows.InnerPutsSaid :=
  OpenClaim.holds_of_wide 3 Try.f3 rfl rfl rfl rfl rfl rfl rfl ⟨rfl, rfl, rfl, rfl, rfl⟩ rfl rfl rfl rfl rfl (by kernel_rfl) Try.func3 (by kernel_rfl)
    (of_decide_eq_true (by kernel_rfl)) (by unfold Func.isWrapper; first | (rw [if_pos (by decide +kernel)]; kernel_rfl) | (rw [if_neg (by decide +kernel)]; exact ⟨rfl, rfl⟩))
    (fun os started H enc _ => innerPuts_lifted os started H enc)

theorem innerDoes_args (xs : List V) (h : ArgsT qcfg.P 6 Try.f4.params.toList xs) : pcW qcfg 4 xs = some (.bool true) := by
  rw [Try.params4] at h
  obtain ⟨a, b, c, rfl, ha, hb, hc⟩ := args3 h
  obtain ⟨p, rfl⟩ := aInn ha
  obtain ⟨s, rfl, _⟩ := aStr hb
  obtain ⟨cs, rfl, hC⟩ := aInt20 hc
  obtain ⟨i, j, rfl⟩ := tInt2 hC
  exact innerDoes_true p s i j

set_option maxRecDepth 100000 in
theorem innerDoes_lifted (os : Os) (started : os.Started) (H : Type) (enc : TypeId × Value → H) :
    ReturnsInHanded {} Try.checked os 4 .any (Rows.innerDoesSpec.pre6 enc Try.prog Try.f4 Rows.innerDoesRow.domain false) (Rows.innerDoesSpec.post enc Try.prog Try.f4 false true false false) := by
  refine returnsInHanded_of_change (C := Try.checked) own started (by kernel_rfl) Try.func4
    (ChangeSpec.witness6 (enc := enc) (C := Try.checked) false ⟨#[], #[.agg #[.slice none 0 0, .slice none 0 0, .string ⟨#[]⟩, .int .i64 0], .string ⟨#[]⟩, .agg #[.int .i64 0, .int .i64 0]], []⟩ 8 (by kernel_rfl) (by kernel_rfl) (by kernel_rfl) (by kernel_rfl)) ?_
  intro W base args ds gs before hval hW _ _
  exact law_contract hok 6 (by kernel_rfl) (by kernel_rfl) (s := Rows.innerDoesSpec) rfl (by kernel_rfl) (tb := 4) (by kernel_rfl) Try.underlying4
    (fun H ds h => by
      obtain ⟨a, b, c, rfl⟩ := len3 (h.trans (by rw [Try.params4]; rfl))
      rfl) innerDoes_args W base args ds gs before hval hW

theorem innerDoes_holds : Rows.InnerDoesSaid :=
  OpenClaim.holds_of_wide 4 Try.f4 rfl rfl rfl rfl rfl rfl rfl ⟨rfl, rfl, rfl, rfl, rfl⟩ rfl rfl rfl rfl rfl (by kernel_rfl) Try.func4 (by kernel_rfl)
    (of_decide_eq_true (by kernel_rfl)) (by unfold Func.isWrapper; first | (rw [if_pos (by decide +kernel)]; kernel_rfl) | (rw [if_neg (by decide +kernel)]; exact ⟨rfl, rfl⟩))
    (fun os started H enc _ => innerDoes_lifted os started H enc)

theorem innerBack_args (xs : List V) (h : ArgsT qcfg.P 6 Try.f5.params.toList xs) : pcW qcfg 5 xs = some (.bool true) := by
  rw [Try.params5] at h
  obtain ⟨a, b, rfl, ha, hb⟩ := args2 h
  obtain ⟨p, rfl⟩ := aInn ha
  obtain ⟨s, rfl, _⟩ := aStr hb
  exact innerBack_true p s

set_option maxRecDepth 100000 in
theorem innerBack_lifted (os : Os) (started : os.Started) (H : Type) (enc : TypeId × Value → H) :
    ReturnsInHanded {} Try.checked os 5 .any (Rows.innerBackSpec.pre6 enc Try.prog Try.f5 Rows.innerBackRow.domain false) (Rows.innerBackSpec.post enc Try.prog Try.f5 false true false false) := by
  refine returnsInHanded_of_change (C := Try.checked) own started (by kernel_rfl) Try.func5
    (ChangeSpec.witness6 (enc := enc) (C := Try.checked) false ⟨#[], #[.agg #[.slice none 0 0, .slice none 0 0, .string ⟨#[]⟩, .int .i64 0], .string ⟨#[]⟩], []⟩ 8 (by kernel_rfl) (by kernel_rfl) (by kernel_rfl) (by kernel_rfl)) ?_
  intro W base args ds gs before hval hW _ _
  exact law_contract hok 6 (by kernel_rfl) (by kernel_rfl) (s := Rows.innerBackSpec) rfl (by kernel_rfl) (tb := 4) (by kernel_rfl) Try.underlying4
    (fun H ds h => by
      obtain ⟨a, b, rfl⟩ := len2 (h.trans (by rw [Try.params5]; rfl))
      rfl) innerBack_args W base args ds gs before hval hW

theorem innerBack_holds : Rows.InnerBackSaid :=
  OpenClaim.holds_of_wide 5 Try.f5 rfl rfl rfl rfl rfl rfl rfl ⟨rfl, rfl, rfl, rfl, rfl⟩ rfl rfl rfl rfl rfl (by kernel_rfl) Try.func5 (by kernel_rfl)
    (of_decide_eq_true (by kernel_rfl)) (by unfold Func.isWrapper; first | (rw [if_pos (by decide +kernel)]; kernel_rfl) | (rw [if_neg (by decide +kernel)]; exact ⟨rfl, rfl⟩))
    (fun os started H enc _ => innerBack_lifted os started H enc)

theorem innerLeads_args (xs : List V) (h : ArgsT qcfg.P 6 Try.f6.params.toList xs) : pcW qcfg 6 xs = some (.bool true) := by
  rw [Try.params6] at h
  obtain ⟨a, b, c, rfl, ha, hb, hc⟩ := args3 h
  obtain ⟨p, rfl⟩ := aInn ha
  obtain ⟨cs, rfl, hB⟩ := aStr20 hb
  obtain ⟨i, j, rfl⟩ := tStr2 hB
  obtain ⟨m, rfl, _⟩ := aInt hc
  exact innerLeads_true p i j m

set_option maxRecDepth 100000 in
theorem innerLeads_lifted (os : Os) (started : os.Started) (H : Type) (enc : TypeId × Value → H) :
    ReturnsInHanded {} Try.checked os 6 .any (Rows.innerLeadsSpec.pre6 enc Try.prog Try.f6 Rows.innerLeadsRow.domain false) (Rows.innerLeadsSpec.post enc Try.prog Try.f6 false true false false) := by
  refine returnsInHanded_of_change (C := Try.checked) own started (by kernel_rfl) Try.func6
    (ChangeSpec.witness6 (enc := enc) (C := Try.checked) false ⟨#[], #[.agg #[.slice none 0 0, .slice none 0 0, .string ⟨#[]⟩, .int .i64 0], .agg #[.string ⟨#[]⟩, .string ⟨#[]⟩], .int .i64 0], []⟩ 8 (by kernel_rfl) (by kernel_rfl) (by kernel_rfl) (by kernel_rfl)) ?_
  intro W base args ds gs before hval hW _ _
  exact law_contract hok 6 (by kernel_rfl) (by kernel_rfl) (s := Rows.innerLeadsSpec) rfl (by kernel_rfl) (tb := 4) (by kernel_rfl) Try.underlying4
    (fun H ds h => by
      obtain ⟨a, b, c, rfl⟩ := len3 (h.trans (by rw [Try.params6]; rfl))
      rfl) innerLeads_args W base args ds gs before hval hW

theorem innerLeads_holds : Rows.InnerLeadsSaid :=
  OpenClaim.holds_of_wide 6 Try.f6 rfl rfl rfl rfl rfl rfl rfl ⟨rfl, rfl, rfl, rfl, rfl⟩ rfl rfl rfl rfl rfl (by kernel_rfl) Try.func6 (by kernel_rfl)
    (of_decide_eq_true (by kernel_rfl)) (by unfold Func.isWrapper; first | (rw [if_pos (by decide +kernel)]; kernel_rfl) | (rw [if_neg (by decide +kernel)]; exact ⟨rfl, rfl⟩))
    (fun os started H enc _ => innerLeads_lifted os started H enc)

theorem innerSplits_args (xs : List V) (h : ArgsT qcfg.P 6 Try.f7.params.toList xs) : pcW qcfg 7 xs = some (.bool true) := by
  rw [Try.params7] at h
  obtain ⟨a, b, c, rfl, ha, hb, hc⟩ := args3 h
  obtain ⟨p, rfl⟩ := aInn ha
  obtain ⟨s, rfl, _⟩ := aStr hb
  obtain ⟨m, rfl, _⟩ := aInt hc
  exact innerSplits_true p s m

set_option maxRecDepth 100000 in
theorem innerSplits_lifted (os : Os) (started : os.Started) (H : Type) (enc : TypeId × Value → H) :
    ReturnsInHanded {} Try.checked os 7 .any (Rows.innerSplitsSpec.pre6 enc Try.prog Try.f7 Rows.innerSplitsRow.domain false) (Rows.innerSplitsSpec.post enc Try.prog Try.f7 false true false false) := by
  refine returnsInHanded_of_change (C := Try.checked) own started (by kernel_rfl) Try.func7
    (ChangeSpec.witness6 (enc := enc) (C := Try.checked) false ⟨#[], #[.agg #[.slice none 0 0, .slice none 0 0, .string ⟨#[]⟩, .int .i64 0], .string ⟨#[]⟩, .int .i64 0], []⟩ 8 (by kernel_rfl) (by kernel_rfl) (by kernel_rfl) (by kernel_rfl)) ?_
  intro W base args ds gs before hval hW _ _
  exact law_contract hok 6 (by kernel_rfl) (by kernel_rfl) (s := Rows.innerSplitsSpec) rfl (by kernel_rfl) (tb := 4) (by kernel_rfl) Try.underlying4
    (fun H ds h => by
      obtain ⟨a, b, c, rfl⟩ := len3 (h.trans (by rw [Try.params7]; rfl))
      rfl) innerSplits_args W base args ds gs before hval hW

theorem innerSplits_holds : Rows.InnerSplitsSaid :=
  OpenClaim.holds_of_wide 7 Try.f7 rfl rfl rfl rfl rfl rfl rfl ⟨rfl, rfl, rfl, rfl, rfl⟩ rfl rfl rfl rfl rfl (by kernel_rfl) Try.func7 (by kernel_rfl)
    (of_decide_eq_true (by kernel_rfl)) (by unfold Func.isWrapper; first | (rw [if_pos (by decide +kernel)]; kernel_rfl) | (rw [if_neg (by decide +kernel)]; exact ⟨rfl, rfl⟩))
    (fun os started H enc _ => innerSplits_lifted os started H enc)

theorem innerAll_args (xs : List V) (h : ArgsT qcfg.P 6 Try.f8.params.toList xs) : pcW qcfg 8 xs = some (.bool true) := by
  rw [Try.params8] at h
  obtain ⟨a, b, rfl, ha, hb⟩ := args2 h
  obtain ⟨p, rfl⟩ := aInn ha
  obtain ⟨s, rfl, _⟩ := aStr hb
  exact innerAll_true p s

set_option maxRecDepth 100000 in
theorem innerAll_lifted (os : Os) (started : os.Started) (H : Type) (enc : TypeId × Value → H) :
    ReturnsInHanded {} Try.checked os 8 .any (Rows.innerAllSpec.pre6 enc Try.prog Try.f8 Rows.innerAllRow.domain false) (Rows.innerAllSpec.post enc Try.prog Try.f8 false true false false) := by
  refine returnsInHanded_of_change (C := Try.checked) own started (by kernel_rfl) Try.func8
    (ChangeSpec.witness6 (enc := enc) (C := Try.checked) false ⟨#[], #[.agg #[.slice none 0 0, .slice none 0 0, .string ⟨#[]⟩, .int .i64 0], .string ⟨#[]⟩], []⟩ 8 (by kernel_rfl) (by kernel_rfl) (by kernel_rfl) (by kernel_rfl)) ?_
  intro W base args ds gs before hval hW _ _
  exact law_contract hok 6 (by kernel_rfl) (by kernel_rfl) (s := Rows.innerAllSpec) rfl (by kernel_rfl) (tb := 4) (by kernel_rfl) Try.underlying4
    (fun H ds h => by
      obtain ⟨a, b, rfl⟩ := len2 (h.trans (by rw [Try.params8]; rfl))
      rfl) innerAll_args W base args ds gs before hval hW

theorem innerAll_holds : Rows.InnerAllSaid :=
  OpenClaim.holds_of_wide 8 Try.f8 rfl rfl rfl rfl rfl rfl rfl ⟨rfl, rfl, rfl, rfl, rfl⟩ rfl rfl rfl rfl rfl (by kernel_rfl) Try.func8 (by kernel_rfl)
    (of_decide_eq_true (by kernel_rfl)) (by unfold Func.isWrapper; first | (rw [if_pos (by decide +kernel)]; kernel_rfl) | (rw [if_neg (by decide +kernel)]; exact ⟨rfl, rfl⟩))
    (fun os started H enc _ => innerAll_lifted os started H enc)

theorem innerTurns_args (xs : List V) (h : ArgsT qcfg.P 6 Try.f9.params.toList xs) : pcW qcfg 9 xs = some (.bool true) := by
  rw [Try.params9] at h
  obtain ⟨a, b, c, rfl, ha, hb, hc⟩ := args3 h
  obtain ⟨p, rfl⟩ := aInn ha
  obtain ⟨i, rfl, _⟩ := aInt hb
  obtain ⟨m, rfl, _⟩ := aInt hc
  exact innerTurns_true p i m

set_option maxRecDepth 100000 in
theorem innerTurns_lifted (os : Os) (started : os.Started) (H : Type) (enc : TypeId × Value → H) :
    ReturnsInHanded {} Try.checked os 9 .any (Rows.innerTurnsSpec.pre6 enc Try.prog Try.f9 Rows.innerTurnsRow.domain false) (Rows.innerTurnsSpec.post enc Try.prog Try.f9 false true false false) := by
  refine returnsInHanded_of_change (C := Try.checked) own started (by kernel_rfl) Try.func9
    (ChangeSpec.witness6 (enc := enc) (C := Try.checked) false ⟨#[], #[.agg #[.slice none 0 0, .slice none 0 0, .string ⟨#[]⟩, .int .i64 0], .int .i64 0, .int .i64 0], []⟩ 8 (by kernel_rfl) (by kernel_rfl) (by kernel_rfl) (by kernel_rfl)) ?_
  intro W base args ds gs before hval hW _ _
  exact law_contract hok 6 (by kernel_rfl) (by kernel_rfl) (s := Rows.innerTurnsSpec) rfl (by kernel_rfl) (tb := 4) (by kernel_rfl) Try.underlying4
    (fun H ds h => by
      obtain ⟨a, b, c, rfl⟩ := len3 (h.trans (by rw [Try.params9]; rfl))
      rfl) innerTurns_args W base args ds gs before hval hW

theorem innerTurns_holds : Rows.InnerTurnsSaid :=
  OpenClaim.holds_of_wide 9 Try.f9 rfl rfl rfl rfl rfl rfl rfl ⟨rfl, rfl, rfl, rfl, rfl⟩ rfl rfl rfl rfl rfl (by kernel_rfl) Try.func9 (by kernel_rfl)
    (of_decide_eq_true (by kernel_rfl)) (by unfold Func.isWrapper; first | (rw [if_pos (by decide +kernel)]; kernel_rfl) | (rw [if_neg (by decide +kernel)]; exact ⟨rfl, rfl⟩))
    (fun os started H enc _ => innerTurns_lifted os started H enc)

end Go.Proofs.Ytndkhelglfakfaa
