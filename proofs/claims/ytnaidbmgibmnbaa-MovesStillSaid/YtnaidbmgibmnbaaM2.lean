/-
  What slices.AppendSeq lays together, and what 'right' asks of each page.
-/
import Derived.Test.YtnaidbmgibmnbaaM1
import Derived.Test.YtnaidbmgibmnbaaMA
namespace Go.Proofs.Ytnaidbmgibmnbaa.A
open Go Go.Lite
set_option linter.unusedSimpArgs false
set_option linter.unusedVariables false

/-! ### AppendSeq -/

theorem ap_loop : ∀ (r acc : List Int), acc.length + r.length ≤ 16777216 →
    Go kcA0 true 2 fa44 (.head 0 (T44_0 (r.map fun x => .tup [iV x]) (acc.map iV)))
      (.doneM (.tail 4 0) [.row 3 [] 0, .row 3 [] 0, .box 22 (.tail 4 0) false, .row 3 [] 0, .row 3 ((acc ++ r).map iV) 0]) := by
  intro r
  induction r with
  | nil =>
    intro acc _
    refine s44_0_run _ _ ?_ (.refl _)
    simp [s44_0]
  | cons x r ih =>
    intro acc h
    simp only [List.length_cons] at h
    refine s44_0_run _ _ (o := .head 0 (T44_0 (r.map fun x => .tup [iV x]) ((acc ++ [x]).map iV))) ?_ ?_
    · unfold s44_0
      simp only [List.map_cons, restK_cons, kT_mk, unc_mk]
      rw [show iV x = V.int .i64 x from rfl, kI_mk, unn_mk, gd_dec (by simp; omega)]
      simp [iV]
    · have := ih (acc ++ [x]) (by simp; omega)
      simpa using this
theorem ap_ok (xs : List Int) (h : xs.length ≤ 16777216) : icW cfgA 44 [.nilS, .fn 42 [.ref (.sl (xs.map iV)) 0]] [.row 3 [] 0, .row 3 [] 0] =
    some (.tail 4 0, [.row 3 [] 0, .row 3 [] 0, .box 22 (.tail 4 0) false, .row 3 [] 0, .row 3 (xs.map iV) 0]) := by
  refine e44_run _ ?_ (ap_loop xs [] (by simpa using h))
  simp only [e44, valuesP, intsOf_iV, Option.bind_some, if_pos h, opt_mk, List.map_map]
  rfl

def apK (args : List V) (mem : List O) (k : V → List O → R) : R :=
  match args, mem with
  | [.nilS, .fn g [.ref (.sl l) 0]], [.row 3 [] 0, .row 3 [] 0] => gd (Nat.beq g 42) <| opt (intsOf l) fun xs => gd (decide (xs.length ≤ 16777216)) <|
      k (.tail 4 0) [.row 3 [] 0, .row 3 [] 0, .box 22 (.tail 4 0) false, .row 3 [] 0, .row 3 (xs.map iV) 0]
  | _, _ => none
theorem apK_some {args : List V} {mem : List O} {k : V → List O → R} {r : Out} (h : apK args mem k = some r) : ∃ v m, icW cfgA 44 args mem = some (v, m) ∧ k v m = some r := by
  unfold apK at h
  split at h
  · obtain ⟨hg, h1⟩ := gd_some h
    obtain ⟨xs, hx, h2⟩ := opt_some h1
    obtain ⟨hl, h3⟩ := gd_some h2
    clear h h1 h2
    have hg := Nat.eq_of_beq_eq_true hg
    subst hg
    rw [intsOf_some hx]
    exact ⟨_, _, ap_ok xs (of_decide_eq_true hl), h3⟩
  · cases h
noncomputable def kcA1 : KC := { cfg := cfgA, frs := fun _ => true, pv := mpv, pvok := kcA0.pvok, ik := fun f args mem k => cond (f == 44) (apK args mem k) (mik0 f args mem k) }
theorem ikA1 : IKOK kcA1 := by
  intro f av mem k r h
  rcases cond_some h with ⟨e, h⟩ | ⟨_, h⟩
  · have e : f = 44 := by simpa using e
    subst e
    exact apK_some h
  · exact mik_some rfl h

/-! ### pages -/

theorem page_ok (n : Int) : pcW cfgA 31 [.int .i64 n] = some (.bool (pgB n)) := by
  refine e31_done _ ?_
  unfold e31 pgB
  by_cases h : 0 ≤ n
  · rw [decide_eq_true h]; rfl
  · rw [decide_eq_false h]; rfl
theorem odd_ok (n : Int) : pcW cfgA 37 [.int .i64 n] = some (.bool (!pgB n)) := by
  refine e37_done _ ?_
  unfold e37
  rw [pcK_of (page_ok n), kB_mk]
theorem ixf_loop (l : List Int) (hl : l.length < 4294967296) : ∀ (r : List Int) (k : Nat), l.drop k = r →
    Go kcA0 false 0 fa43 (.head 0 (T43_0 (l.map iV) (l.length : Int) (k : Int))) (.done (.int .i64 (fi (fun n => !pgB n) r k))) := by
  intro r
  induction r with
  | nil =>
    intro k hr
    have h1 := drop_nil hr
    refine s43_0_run _ _ _ ?_ (.refl _)
    unfold s43_0
    rw [decide_eq_false (by omega)]
    rfl
  | cons x r ih =>
    intro k hr
    obtain ⟨h1, h2, h3⟩ := drop_cons hr
    have w : W .i64 ((k : Int) + 1) = ((k + 1 : Nat) : Int) := by rw [W_i64 (by omega)]; omega
    cases hx : pgB x with
    | false =>
      refine s43_0_run _ _ _ ?_ (.refl _)
      unfold s43_0
      rw [decide_eq_true (by omega), cond_true, gd_of (by simp), toNat_cast, idxK_iV h1, kI_mk, pcK_of (odd_ok x), kB_mk, hx]
      simp [fi, hx]
    | true =>
      refine s43_0_run _ _ _ (o := .head 0 (T43_0 (l.map iV) (l.length : Int) ((k + 1 : Nat) : Int))) ?_ ?_
      · unfold s43_0
        rw [decide_eq_true (by omega), cond_true, gd_of (by simp), toNat_cast, idxK_iV h1, kI_mk, pcK_of (odd_ok x), kB_mk, hx, w]
        rfl
      · have := ih (k + 1) h2
        simp only [fi, hx, Bool.not_true, Bool.false_eq_true, if_false]
        exact this
theorem ixf_ok (l : List Int) (hl : l.length < 4294967296) : pcW cfgA 43 [.sl (l.map iV), .fn 37 []] = some (.int .i64 (fi (fun n => !pgB n) l 0)) := by
  refine e43_run _ (o := .head 0 (T43_0 (l.map iV) (l.length : Int) ((0 : Nat) : Int))) ?_ (ixf_loop l hl l 0 rfl)
  unfold e43
  rw [List.length_map]
  rfl
theorem cf_ok (l : List Int) (hl : l.length < 4294967296) : pcW cfgA 38 [.sl (l.map iV), .fn 37 []] = some (.bool (l.any fun n => !pgB n)) := by
  refine e38_done _ ?_
  unfold e38
  rw [pcK_of (ixf_ok l hl), kI_mk, fi_any]
end Go.Proofs.Ytnaidbmgibmnbaa.A
