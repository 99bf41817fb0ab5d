/-
  The laws of layer 23 (hist), HistTells, HistMaps, HistOwn, HistOne, HistCuts: whatever the input, each returns true and leaves its arguments as they were. No condition.
-/
import Derived.Test.YthojkngbpcjicaaH12
import Derived.Test.YthojkngbpcjicaaHP
import Derived.Test.YthojkngbpcjicaaLite26
import Derived.Test.YthojkngbpcjicaaRows
import Derived.WalkKit
import Derived.ProofKit
import Derived.OpenShut
import Derived.KernelRfl
import Derived.Handed
import Derived.JoinedOf
import Derived.JoinedCond
namespace Go.Proofs.Ythojkngbpcjicaa
open Go Go.Lite Go.ChangeShapes Go.WideShapes Go.ChangeAt Go.RowKit
set_option linter.unusedVariables false

theorem tInt {n : Nat} {vs : List V} (h : TyC Try.prog n 3 vs) : ∃ m, vs = [.int .i64 m] := by
  cases n with
  | zero => cases h
  | succ n => unfold TyC at h; rw [Try.underlying3] at h; exact let ⟨m, e, _⟩ := h; ⟨m, e⟩
theorem tBool {n : Nat} {vs : List V} (h : TyC Try.prog n 4 vs) : ∃ m, vs = [.bool m] := by
  cases n with
  | zero => cases h
  | succ n => unfold TyC at h; rw [Try.underlying4] at h; exact h
theorem tStr {n : Nat} {vs : List V} (h : TyC Try.prog n 9 vs) : ∃ s, vs = [.str s] := by
  cases n with
  | zero => cases h
  | succ n => unfold TyC at h; rw [Try.underlying9] at h; exact let ⟨m, e, _⟩ := h; ⟨m, e⟩

theorem tPair {n : Nat} {vs : List V} (h : TyC Try.prog n 46 vs) : ∃ p : Pr, vs = [.str p.1, .str p.2] := by
  cases n with
  | zero => cases h
  | succ n =>
    unfold TyC at h
    rw [Try.underlying46] at h
    obtain ⟨hl, hf⟩ := h
    rw [show Try.prog.cellsOf 46 = 2 by kernel_rfl] at hl
    obtain ⟨s, e0⟩ := tStr (hf _ (List.mem_cons_self ..))
    obtain ⟨s', e1⟩ := tStr (hf _ (List.mem_cons_of_mem _ (List.mem_cons_self ..)))
    simp only [show Try.prog.cellsOf 9 = 1 by kernel_rfl] at e0 e1
    match vs, hl, e0, e1 with
    | [a, b], _, e0, e1 =>
      simp at e0 e1
      exact ⟨(s, s'), by rw [e0, e1]⟩

theorem aPair {n : Nat} {x : V} (h : ArgT Try.prog n 46 x) : ∃ p : Pr, x = eP p := by
  obtain ⟨cs, rfl⟩ := h.agg (by rw [Try.underlying46]; rfl)
  have h1 := h.1
  obtain ⟨p, e⟩ := tPair h1
  exact ⟨p, by rw [eP]; exact congrArg V.agg e⟩

theorem list_of {α : Type} {f : α → V} : ∀ {l : List V}, (∀ x ∈ l, ∃ a, x = f a) → ∃ bs : List α, l = bs.map f
  | [], _ => ⟨[], rfl⟩
  | x :: l, h => by
    obtain ⟨a, rfl⟩ := h x (by simp)
    obtain ⟨bs, rfl⟩ := list_of (fun y hy => h y (by simp [hy]) : ∀ y ∈ l, _)
    exact ⟨a :: bs, rfl⟩

theorem tPairs {n : Nat} {vs : List V} (h : TyC Try.prog n 22 vs) : ∃ l : List Pr, vs = [.sl (ePs l)] := by
  cases n with
  | zero => cases h
  | succ n =>
    unfold TyC at h
    rw [Try.underlying22] at h
    obtain ⟨l, rfl, _, hx⟩ := h
    obtain ⟨bs, rfl⟩ := list_of (f := eP) fun x hm => aPair (hx x hm)
    exact ⟨bs, rfl⟩

theorem tEv {n : Nat} {vs : List V} (h : TyC Try.prog n 30 vs) : ∃ e : Ev, .agg vs = eE e := by
  cases n with
  | zero => cases h
  | succ n =>
    unfold TyC at h
    rw [Try.underlying30] at h
    obtain ⟨hl, hf⟩ := h
    rw [show Try.prog.cellsOf 30 = 7 by kernel_rfl] at hl
    simp only [List.mem_cons, forall_eq_or_imp, List.not_mem_nil, false_implies, implies_true, and_true, show Try.prog.cellsOf 9 = 1 by kernel_rfl, show Try.prog.cellsOf 3 = 1 by kernel_rfl, show Try.prog.cellsOf 4 = 1 by kernel_rfl, show Try.prog.cellsOf 22 = 1 by kernel_rfl] at hf
    obtain ⟨h0, h1, h2, h3, h4, h5, h6⟩ := hf
    obtain ⟨a0, e0⟩ := tInt h0
    obtain ⟨a1, e1⟩ := tInt h1
    obtain ⟨a2, e2⟩ := tStr h2
    obtain ⟨a3, e3⟩ := tStr h3
    obtain ⟨a4, e4⟩ := tInt h4
    obtain ⟨a5, e5⟩ := tPairs h5
    obtain ⟨a6, e6⟩ := tBool h6
    match vs, hl, e0, e1, e2, e3, e4, e5, e6 with
    | [b0, b1, b2, b3, b4, b5, b6], _, e0, e1, e2, e3, e4, e5, e6 =>
      simp at e0 e1 e2 e3 e4 e5 e6
      exact ⟨⟨a0, a1, a2, a3, a4, a5, a6⟩, by rw [e0, e1, e2, e3, e4, e5, e6]; rfl⟩

theorem aEv {n : Nat} {x : V} (h : ArgT Try.prog n 30 x) : ∃ p : Ev, x = eE p := by
  obtain ⟨cs, rfl⟩ := h.agg (by rw [Try.underlying30]; rfl)
  have h1 := h.1
  exact tEv h1

theorem aPairs {n : Nat} {x : V} (h : ArgT Try.prog n 22 x) : ∃ l : List Pr, x = .sl (ePs l) := by
  have h2 := h.leaf (by rw [Try.underlying22]; rfl)
  have h1 := h.1
  obtain ⟨l, e⟩ := tPairs h1
  exact ⟨l, by rw [h2] at e; simpa using e⟩

theorem aEvs {n : Nat} {x : V} (h : ArgT Try.prog n 23 x) : ∃ l : List Ev, x = .sl (eEs l) := by
  have h2 := h.leaf (by rw [Try.underlying23]; rfl)
  have h1 := h.1
  cases n with
  | zero => cases h1
  | succ n =>
    unfold TyC at h1
    rw [Try.underlying23] at h1
    obtain ⟨l, e, _, hx⟩ := h1
    obtain ⟨bs, rfl⟩ := list_of (f := eE) fun x hm => aEv (hx x hm)
    exact ⟨bs, by rw [h2] at e; simpa using e⟩

theorem own : ownKnob Try.prog.godebug = none := by kernel_rfl

theorem args2 {P : Program} {n : Nat} {t t' : TypeId} {xs : List V} (h : ArgsT P n [t, t'] xs) : ∃ a b, xs = [a, b] ∧ ArgT P n t a ∧ ArgT P n t' b := by
  match xs, h with
  | [a, b], h => exact ⟨a, b, rfl, h.1, h.2.1⟩
theorem args3 {P : Program} {n : Nat} {t t' t'' : TypeId} {xs : List V} (h : ArgsT P n [t, t', t''] xs) : ∃ a b c, xs = [a, b, c] ∧ ArgT P n t a ∧ ArgT P n t' b ∧ ArgT P n t'' c := by
  match xs, h with
  | [a, b, c], h => exact ⟨a, b, c, rfl, h.1, h.2.1, h.2.2.1⟩
theorem len2 {α : Type} {l : List α} (h : l.length = 2) : ∃ a b, l = [a, b] := by
  match l, h with
  | [a, b], _ => exact ⟨a, b, rfl⟩
theorem len3 {α : Type} {l : List α} (h : l.length = 3) : ∃ a b c, l = [a, b, c] := by
  match l, h with
  | [a, b, c], _ => exact ⟨a, b, c, rfl⟩

theorem histMaps_args (xs : List V) (h : ArgsT hcfg.P 6 Try.f4.params.toList xs) : pcW hcfg 4 xs = some (.bool true) := by
  rw [Try.params4] at h
  obtain ⟨a, b, rfl, ha, hb⟩ := args2 h
  obtain ⟨l, rfl⟩ := aPairs ha
  obtain ⟨p, rfl⟩ := aPair hb
  exact lawMaps l p

set_option maxRecDepth 100000 in
theorem histMaps_lifted (os : Os) (started : os.Started) (H : Type) (enc : TypeId × Value → H) :
    ReturnsInHanded {} Try.checked os 4 .any (Rows.histMapsSpec.pre6 enc Try.prog Try.f4 Rows.histMapsRow.domain false) (Rows.histMapsSpec.post enc Try.prog Try.f4 false true false false) := by
  refine returnsInHanded_of_change (C := Try.checked) own started (by kernel_rfl) Try.func4
    (ChangeSpec.witness6 (enc := enc) (C := Try.checked) false ⟨#[], #[.slice none 0 0, .agg #[.string ⟨#[]⟩, .string ⟨#[]⟩]], []⟩ 8 (by kernel_rfl) (by kernel_rfl) (by kernel_rfl) (by kernel_rfl)) ?_
  intro W base args ds gs before hval hW _ _
  exact law_contract hok 6 (by kernel_rfl) (by kernel_rfl) (s := Rows.histMapsSpec) rfl (by kernel_rfl) (tb := 4) (by kernel_rfl) Try.underlying4
    (fun H ds h => by
      obtain ⟨a, b, rfl⟩ := len2 (h.trans (by rw [Try.params4]; rfl))
      rfl) histMaps_args W base args ds gs before hval hW

theorem histMaps_holds : Rows.HistMapsSaid :=
  OpenClaim.holds_of_wide 4 Try.f4 rfl rfl rfl rfl rfl rfl rfl ⟨rfl, rfl, rfl, rfl, rfl⟩ rfl rfl rfl rfl rfl (by kernel_rfl) Try.func4 (by kernel_rfl)
    (of_decide_eq_true (by kernel_rfl)) (by unfold Func.isWrapper; first | (rw [if_pos (by decide +kernel)]; kernel_rfl) | (rw [if_neg (by decide +kernel)]; exact ⟨rfl, rfl⟩))
    (fun os started H enc _ => histMaps_lifted os started H enc)

theorem histTells_args (xs : List V) (h : ArgsT hcfg.P 6 Try.f3.params.toList xs) : pcW hcfg 3 xs = some (.bool true) := by
  rw [Try.params3] at h
  obtain ⟨a, b, rfl, ha, hb⟩ := args2 h
  obtain ⟨l, rfl⟩ := aPairs ha
  obtain ⟨m, rfl⟩ := aEvs hb
  exact lawTells l m

set_option maxRecDepth 100000 in
theorem histTells_lifted (os : Os) (started : os.Started) (H : Type) (enc : TypeId × Value → H) :
    ReturnsInHanded {} Try.checked os 3 .any (Rows.histTellsSpec.pre6 enc Try.prog Try.f3 Rows.histTellsRow.domain false) (Rows.histTellsSpec.post enc Try.prog Try.f3 false true false false) := by
  refine returnsInHanded_of_change (C := Try.checked) own started (by kernel_rfl) Try.func3
    (ChangeSpec.witness6 (enc := enc) (C := Try.checked) false ⟨#[], #[.slice none 0 0, .slice none 0 0], []⟩ 8 (by kernel_rfl) (by kernel_rfl) (by kernel_rfl) (by kernel_rfl)) ?_
  intro W base args ds gs before hval hW _ _
  exact law_contract hok 6 (by kernel_rfl) (by kernel_rfl) (s := Rows.histTellsSpec) rfl (by kernel_rfl) (tb := 4) (by kernel_rfl) Try.underlying4
    (fun H ds h => by
      obtain ⟨a, b, rfl⟩ := len2 (h.trans (by rw [Try.params3]; rfl))
      rfl) histTells_args W base args ds gs before hval hW

theorem histTells_holds : Rows.HistTellsSaid :=
  OpenClaim.holds_of_wide 3 Try.f3 rfl rfl rfl rfl rfl rfl rfl ⟨rfl, rfl, rfl, rfl, rfl⟩ rfl rfl rfl rfl rfl (by kernel_rfl) Try.func3 (by kernel_rfl)
    (of_decide_eq_true (by kernel_rfl)) (by unfold Func.isWrapper; first | (rw [if_pos (by decide +kernel)]; kernel_rfl) | (rw [if_neg (by decide +kernel)]; exact ⟨rfl, rfl⟩))
    (fun os started H enc _ => histTells_lifted os started H enc)

theorem histCuts_args (xs : List V) (h : ArgsT hcfg.P 6 Try.f7.params.toList xs) : pcW hcfg 7 xs = some (.bool true) := by
  rw [Try.params7] at h
  obtain ⟨a, b, c, rfl, ha, hb, hc⟩ := args3 h
  obtain ⟨l, rfl⟩ := aPairs ha
  obtain ⟨p, rfl⟩ := aPair hb
  obtain ⟨q, rfl⟩ := aPair hc
  exact lawCuts l p q

set_option maxRecDepth 100000 in
theorem histCuts_lifted (os : Os) (started : os.Started) (H : Type) (enc : TypeId × Value → H) :
    ReturnsInHanded {} Try.checked os 7 .any (Rows.histCutsSpec.pre6 enc Try.prog Try.f7 Rows.histCutsRow.domain false) (Rows.histCutsSpec.post enc Try.prog Try.f7 false true false false) := by
  refine returnsInHanded_of_change (C := Try.checked) own started (by kernel_rfl) Try.func7
    (ChangeSpec.witness6 (enc := enc) (C := Try.checked) false ⟨#[], #[.slice none 0 0, .agg #[.string ⟨#[]⟩, .string ⟨#[]⟩], .agg #[.string ⟨#[]⟩, .string ⟨#[]⟩]], []⟩ 8 (by kernel_rfl) (by kernel_rfl) (by kernel_rfl) (by kernel_rfl)) ?_
  intro W base args ds gs before hval hW _ _
  exact law_contract hok 6 (by kernel_rfl) (by kernel_rfl) (s := Rows.histCutsSpec) rfl (by kernel_rfl) (tb := 4) (by kernel_rfl) Try.underlying4
    (fun H ds h => by
      obtain ⟨a, b, c, rfl⟩ := len3 (h.trans (by rw [Try.params7]; rfl))
      rfl) histCuts_args W base args ds gs before hval hW

theorem histCuts_holds : Rows.HistCutsSaid :=
  OpenClaim.holds_of_wide 7 Try.f7 rfl rfl rfl rfl rfl rfl rfl ⟨rfl, rfl, rfl, rfl, rfl⟩ rfl rfl rfl rfl rfl (by kernel_rfl) Try.func7 (by kernel_rfl)
    (of_decide_eq_true (by kernel_rfl)) (by unfold Func.isWrapper; first | (rw [if_pos (by decide +kernel)]; kernel_rfl) | (rw [if_neg (by decide +kernel)]; exact ⟨rfl, rfl⟩))
    (fun os started H enc _ => histCuts_lifted os started H enc)

theorem histOwn_args (xs : List V) (h : ArgsT hcfg.P 6 Try.f5.params.toList xs) : pcW hcfg 5 xs = some (.bool true) := by
  rw [Try.params5] at h
  obtain ⟨a, b, rfl, ha, hb⟩ := args2 h
  obtain ⟨l, rfl⟩ := aPairs ha
  obtain ⟨m, rfl⟩ := aEvs hb
  exact lawOwn l m

set_option maxRecDepth 100000 in
theorem histOwn_lifted (os : Os) (started : os.Started) (H : Type) (enc : TypeId × Value → H) :
    ReturnsInHanded {} Try.checked os 5 .any (Rows.histOwnSpec.pre6 enc Try.prog Try.f5 Rows.histOwnRow.domain false) (Rows.histOwnSpec.post enc Try.prog Try.f5 false true false false) := by
  refine returnsInHanded_of_change (C := Try.checked) own started (by kernel_rfl) Try.func5
    (ChangeSpec.witness6 (enc := enc) (C := Try.checked) false ⟨#[], #[.slice none 0 0, .slice none 0 0], []⟩ 8 (by kernel_rfl) (by kernel_rfl) (by kernel_rfl) (by kernel_rfl)) ?_
  intro W base args ds gs before hval hW _ _
  exact law_contract hok 6 (by kernel_rfl) (by kernel_rfl) (s := Rows.histOwnSpec) rfl (by kernel_rfl) (tb := 4) (by kernel_rfl) Try.underlying4
    (fun H ds h => by
      obtain ⟨a, b, rfl⟩ := len2 (h.trans (by rw [Try.params5]; rfl))
      rfl) histOwn_args W base args ds gs before hval hW

theorem histOwn_holds : Rows.HistOwnSaid :=
  OpenClaim.holds_of_wide 5 Try.f5 rfl rfl rfl rfl rfl rfl rfl ⟨rfl, rfl, rfl, rfl, rfl⟩ rfl rfl rfl rfl rfl (by kernel_rfl) Try.func5 (by kernel_rfl)
    (of_decide_eq_true (by kernel_rfl)) (by unfold Func.isWrapper; first | (rw [if_pos (by decide +kernel)]; kernel_rfl) | (rw [if_neg (by decide +kernel)]; exact ⟨rfl, rfl⟩))
    (fun os started H enc _ => histOwn_lifted os started H enc)

theorem histOne_args (xs : List V) (h : ArgsT hcfg.P 6 Try.f6.params.toList xs) : pcW hcfg 6 xs = some (.bool true) := by
  rw [Try.params6] at h
  obtain ⟨a, b, rfl, ha, hb⟩ := args2 h
  obtain ⟨l, rfl⟩ := aPairs ha
  obtain ⟨m, rfl⟩ := aEvs hb
  exact lawOne l m

set_option maxRecDepth 100000 in
theorem histOne_lifted (os : Os) (started : os.Started) (H : Type) (enc : TypeId × Value → H) :
    ReturnsInHanded {} Try.checked os 6 .any (Rows.histOneSpec.pre6 enc Try.prog Try.f6 Rows.histOneRow.domain false) (Rows.histOneSpec.post enc Try.prog Try.f6 false true false false) := by
  refine returnsInHanded_of_change (C := Try.checked) own started (by kernel_rfl) Try.func6
    (ChangeSpec.witness6 (enc := enc) (C := Try.checked) false ⟨#[], #[.slice none 0 0, .slice none 0 0], []⟩ 8 (by kernel_rfl) (by kernel_rfl) (by kernel_rfl) (by kernel_rfl)) ?_
  intro W base args ds gs before hval hW _ _
  exact law_contract hok 6 (by kernel_rfl) (by kernel_rfl) (s := Rows.histOneSpec) rfl (by kernel_rfl) (tb := 4) (by kernel_rfl) Try.underlying4
    (fun H ds h => by
      obtain ⟨a, b, rfl⟩ := len2 (h.trans (by rw [Try.params6]; rfl))
      rfl) histOne_args W base args ds gs before hval hW

theorem histOne_holds : Rows.HistOneSaid :=
  OpenClaim.holds_of_wide 6 Try.f6 rfl rfl rfl rfl rfl rfl rfl ⟨rfl, rfl, rfl, rfl, rfl⟩ rfl rfl rfl rfl rfl (by kernel_rfl) Try.func6 (by kernel_rfl)
    (of_decide_eq_true (by kernel_rfl)) (by unfold Func.isWrapper; first | (rw [if_pos (by decide +kernel)]; kernel_rfl) | (rw [if_neg (by decide +kernel)]; exact ⟨rfl, rfl⟩))
    (fun os started H enc _ => histOne_lifted os started H enc)

end Go.Proofs.Ythojkngbpcjicaa
