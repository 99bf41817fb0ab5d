/-
  The laws of layer 19 (side), SideFile, SideWaits: whatever the input, each returns true and leaves its arguments as they were. No condition.
-/
import Derived.Test.YtgpgjojejdaibaaS11
import Derived.Test.YtgpgjojejdaibaaS13
namespace Go.Proofs.Ytgpgjojejdaibaa
open Go Go.Lite Go.ChangeShapes Go.WideShapes Go.ChangeAt Go.RowKit
set_option linter.unusedVariables false

theorem aInts {n : Nat} {x : V} (h : ArgT Try.prog n 46 x) : ∃ l : List Int, x = .sl (l.map (V.int .i64)) := by
  have h2 := h.leaf (by rw [Try.underlying46]; rfl)
  have h1 := h.1
  cases n with
  | zero => cases h1
  | succ n =>
    unfold TyC at h1
    rw [Try.underlying46] at h1
    obtain ⟨l, e, _, hx⟩ := h1
    obtain ⟨bs, rfl⟩ := list_of (f := V.int .i64) fun x hm => aInt (hx x hm)
    exact ⟨bs, by rw [h2] at e; simpa using e⟩
theorem aByte {n : Nat} {x : V} (h : ArgT Try.prog n 5 x) : ∃ m : Nat, x = .int .u8 (m : Int) ∧ m < 256 := by
  have h2 := h.leaf (by rw [Try.underlying5]; rfl)
  have h1 := h.1
  cases n with
  | zero => cases h1
  | succ n =>
    unfold TyC at h1
    rw [Try.underlying5] at h1
    obtain ⟨m, e, hw⟩ := h1
    simp only [Lit.wf, Bool.and_eq_true, decide_eq_true_eq] at hw
    obtain ⟨w1, w2⟩ := hw
    have w1 : (0 : Int) ≤ m := w1
    have w2 : m ≤ (255 : Int) := w2
    refine ⟨m.toNat, ?_, by omega⟩
    rw [h2] at e
    have : x = .int .u8 m := by simpa using e
    rw [this]
    congr 1
    omega
theorem bytes_of : ∀ {l : List V}, (∀ x ∈ l, ∃ m : Nat, x = .int .u8 (m : Int) ∧ m < 256) → ∃ bs : List Nat, l = eP bs ∧ ∀ p ∈ bs, p < 256
  | [], _ => ⟨[], rfl, by simp⟩
  | x :: l, h => by
    obtain ⟨a, rfl, ha⟩ := h x (by simp)
    obtain ⟨bs, rfl, hb⟩ := bytes_of (fun y hy => h y (by simp [hy]) : ∀ y ∈ l, _)
    refine ⟨a :: bs, rfl, fun p hp => ?_⟩
    rcases List.mem_cons.1 hp with rfl | hp
    · exact ha
    · exact hb p hp
theorem aBytes {n : Nat} {x : V} (h : ArgT Try.prog n 68 x) : ∃ l : List Nat, x = .sl (eP l) ∧ ∀ p ∈ l, p < 256 := by
  have h2 := h.leaf (by rw [Try.underlying68]; rfl)
  have h1 := h.1
  cases n with
  | zero => cases h1
  | succ n =>
    unfold TyC at h1
    rw [Try.underlying68] at h1
    obtain ⟨l, e, _, hx⟩ := h1
    obtain ⟨bs, rfl, hb⟩ := bytes_of fun x hm => aByte (hx x hm)
    exact ⟨bs, by rw [h2] at e; simpa using e, hb⟩

theorem sideFile_args (xs : List V) (h : ArgsT scfg.P 6 Try.f4.params.toList xs) : pcW scfg 4 xs = some (.bool true) := by
  rw [Try.params4] at h
  obtain ⟨a, b, rfl, ha, hb⟩ := args2 h
  obtain ⟨l, rfl⟩ := aChanges ha
  obtain ⟨m, rfl⟩ := aInts hb
  exact lawFile l m

set_option maxRecDepth 100000 in
theorem sideFile_lifted (os : Os) (started : os.Started) (H : Type) (enc : TypeId × Value → H) :
    ReturnsInHanded {} Try.checked os 4 .any (Rows.sideFileSpec.pre6 enc Try.prog Try.f4 Rows.sideFileRow.domain false) (Rows.sideFileSpec.post enc Try.prog Try.f4 false true false false) := by
  refine returnsInHanded_of_change (C := Try.checked) own started (by kernel_rfl) Try.func4
    (ChangeSpec.witness6 (enc := enc) (C := Try.checked) false ⟨#[], #[.slice none 0 0, .slice none 0 0], []⟩ 8 (by kernel_rfl) (by kernel_rfl) (by kernel_rfl) (by kernel_rfl)) ?_
  intro W base args ds gs before hval hW _ _
  exact law_contract hok 6 (by kernel_rfl) (by kernel_rfl) (s := Rows.sideFileSpec) rfl (by kernel_rfl) (tb := 4) (by kernel_rfl) Try.underlying4
    (fun H ds h => by
      obtain ⟨a, b, rfl⟩ := len2 (h.trans (by rw [Try.params4]; rfl))
      rfl) sideFile_args W base args ds gs before hval hW

theorem sideFile_holds : Rows.SideFileSaid :=
  OpenClaim.holds_of_wide 4 Try.f4 rfl rfl rfl rfl rfl rfl rfl ⟨rfl, rfl, rfl, rfl, rfl⟩ rfl rfl rfl rfl rfl (by kernel_rfl) Try.func4 (by kernel_rfl)
    (of_decide_eq_true (by kernel_rfl)) (by unfold Func.isWrapper; first | (rw [if_pos (by decide +kernel)]; kernel_rfl) | (rw [if_neg (by decide +kernel)]; exact ⟨rfl, rfl⟩))
    (fun os started H enc _ => sideFile_lifted os started H enc)

theorem sideWaits_args (xs : List V) (h : ArgsT scfg.P 6 Try.f7.params.toList xs) : pcW scfg 7 xs = some (.bool true) := by
  rw [Try.params7] at h
  obtain ⟨a, b, rfl, ha, hb⟩ := args2 h
  obtain ⟨l, rfl, hl⟩ := aBytes ha
  obtain ⟨m, rfl, hm⟩ := aByte hb
  exact lawWaits l m hl hm

set_option maxRecDepth 100000 in
theorem sideWaits_lifted (os : Os) (started : os.Started) (H : Type) (enc : TypeId × Value → H) :
    ReturnsInHanded {} Try.checked os 7 .any (Rows.sideWaitsSpec.pre6 enc Try.prog Try.f7 Rows.sideWaitsRow.domain false) (Rows.sideWaitsSpec.post enc Try.prog Try.f7 false true false false) := by
  refine returnsInHanded_of_change (C := Try.checked) own started (by kernel_rfl) Try.func7
    (ChangeSpec.witness6 (enc := enc) (C := Try.checked) false ⟨#[], #[.slice none 0 0, .int .u8 0], []⟩ 8 (by kernel_rfl) (by kernel_rfl) (by kernel_rfl) (by kernel_rfl)) ?_
  intro W base args ds gs before hval hW _ _
  exact law_contract hok 6 (by kernel_rfl) (by kernel_rfl) (s := Rows.sideWaitsSpec) rfl (by kernel_rfl) (tb := 4) (by kernel_rfl) Try.underlying4
    (fun H ds h => by
      obtain ⟨a, b, rfl⟩ := len2 (h.trans (by rw [Try.params7]; rfl))
      rfl) sideWaits_args W base args ds gs before hval hW

theorem sideWaits_holds : Rows.SideWaitsSaid :=
  OpenClaim.holds_of_wide 7 Try.f7 rfl rfl rfl rfl rfl rfl rfl ⟨rfl, rfl, rfl, rfl, rfl⟩ rfl rfl rfl rfl rfl (by kernel_rfl) Try.func7 (by kernel_rfl)
    (of_decide_eq_true (by kernel_rfl)) (by unfold Func.isWrapper; first | (rw [if_pos (by decide +kernel)]; kernel_rfl) | (rw [if_neg (by decide +kernel)]; exact ⟨rfl, rfl⟩))
    (fun os started H enc _ => sideWaits_lifted os started H enc)

end Go.Proofs.Ytgpgjojejdaibaa
