/-
  What slices.AppendSeq lays together, once more.
-/
import Derived.Test.YtnaidbmgibmnbaaM6
import Derived.Test.YtnaidbmgibmnbaaMA
namespace Go.Proofs.Ytnaidbmgibmnbaa
open Go Go.Lite
set_option linter.unusedSimpArgs false
set_option linter.unusedVariables false

/-! ### AppendSeq -/

theorem ap_loop : ∀ (r acc : List Int), acc.length + r.length ≤ 16777216 →
    Go kcB0 true 2 fa44 (.head 0 (T44_0 (r.map fun x => .tup [iV x]) (acc.map iV)))
      (.doneM (.tail 4 0) [.row 3 [] 0, .row 3 [] 0, .box 22 (.tail 4 0) false, .row 3 [] 0, .row 3 ((acc ++ r).map iV) 0]) := by
  intro r
  induction r with
  | nil =>
    intro acc _
    refine s44_0_run _ _ ?_ (.refl _)
    simp [s44_0]
  | cons x r ih =>
    intro acc h
    simp only [List.length_cons] at h
    refine s44_0_run _ _ (o := .head 0 (T44_0 (r.map fun x => .tup [iV x]) ((acc ++ [x]).map iV))) ?_ ?_
    · unfold s44_0
      simp only [List.map_cons, restK_cons, kT_mk, unc_mk]
      rw [show iV x = V.int .i64 x from rfl, kI_mk, unn_mk, gd_dec (by simp; omega)]
      simp [iV]
    · have := ih (acc ++ [x]) (by simp; omega)
      simpa using this
theorem ap_ok (xs : List Int) (h : xs.length ≤ 16777216) : icW cfgB 44 [.nilS, .fn 42 [.ref (.sl (xs.map iV)) 0]] [.row 3 [] 0, .row 3 [] 0] =
    some (.tail 4 0, [.row 3 [] 0, .row 3 [] 0, .box 22 (.tail 4 0) false, .row 3 [] 0, .row 3 (xs.map iV) 0]) := by
  refine e44_run _ ?_ (ap_loop xs [] (by simpa using h))
  simp only [e44, valuesP, intsOf_iV, Option.bind_some, if_pos h, opt_mk, List.map_map]
  rfl

def apK (args : List V) (mem : List O) (k : V → List O → R) : R :=
  match args, mem with
  | [.nilS, .fn g [.ref (.sl l) 0]], [.row 3 [] 0, .row 3 [] 0] => gd (Nat.beq g 42) <| opt (intsOf l) fun xs => gd (decide (xs.length ≤ 16777216)) <|
      k (.tail 4 0) [.row 3 [] 0, .row 3 [] 0, .box 22 (.tail 4 0) false, .row 3 [] 0, .row 3 (xs.map iV) 0]
  | _, _ => none
theorem apK_some {args : List V} {mem : List O} {k : V → List O → R} {r : Out} (h : apK args mem k = some r) : ∃ v m, icW cfgB 44 args mem = some (v, m) ∧ k v m = some r := by
  unfold apK at h
  split at h
  · obtain ⟨hg, h1⟩ := gd_some h
    obtain ⟨xs, hx, h2⟩ := opt_some h1
    obtain ⟨hl, h3⟩ := gd_some h2
    clear h h1 h2
    have hg := Nat.eq_of_beq_eq_true hg
    subst hg
    rw [intsOf_some hx]
    exact ⟨_, _, ap_ok xs (of_decide_eq_true hl), h3⟩
  · cases h
noncomputable def kcB1 : KC := { cfg := cfgB, frs := fun f => !(f == 24), pv := mpv, pvok := kcB0.pvok, ik := fun f args mem k => cond (f == 44) (apK args mem k) (mik0 f args mem k) }
theorem ikB1 : IKOK kcB1 := by
  intro f av mem k r h
  rcases cond_some h with ⟨e, h⟩ | ⟨_, h⟩
  · have e : f = 44 := by simpa using e
    subst e
    exact apK_some h
  · exact mik_some rfl h

end Go.Proofs.Ytnaidbmgibmnbaa
