/-
  What the functions of hist hand back: which events may be, and the map behind them.
-/
import Derived.Test.YthojkngbpcjicaaH5
namespace Go.Proofs.Ythojkngbpcjicaa
open Go Go.Lite
set_option linter.unusedSimpArgs false
set_option linter.unusedVariables false

def back (l : List Ev) (t : Int) : Nat → Option Nat
  | 0 => none
  | k + 1 => match l[k]? with
    | some e => if e.txn = t then some k else back l t k
    | none => back l t k
def begun (l : List Ev) (t : Int) : Nat → Option Nat
  | 0 => none
  | k + 1 => match l[k]? with
    | some e => if e.kind = 1 ∧ e.txn = t then some k else begun l t k
    | none => begun l t k
def closedAt (l : List Ev) (t : Int) (k : Nat) : Bool :=
  match back l t k with
  | none => true
  | some j => match l[j]? with
    | some e => decide (e.kind ≥ 6)
    | none => true
def okAt (l : List Ev) (k : Nat) (e : Ev) : Bool := decide (1 ≤ e.kind) && decide (e.kind ≤ 7) && (closedAt l e.txn k == (e.kind == 1))
def rightF (l : List Ev) : Nat → List Ev → Bool
  | _, [] => true
  | k, e :: r => okAt l k e && rightF l (k + 1) r

theorem closed_succ {l : List Ev} {k : Nat} {e : Ev} (h : l[k]? = some e) (t : Int) : closedAt l t (k + 1) = if e.txn = t then decide (e.kind ≥ 6) else closedAt l t k := by
  unfold closedAt
  simp only [back, h]
  by_cases ht : e.txn = t
  · simp [ht, h]
  · simp [ht]
theorem begun_succ {l : List Ev} {k : Nat} {e : Ev} (h : l[k]? = some e) (t : Int) : begun l t (k + 1) = if e.kind = 1 ∧ e.txn = t then some k else begun l t k := by
  simp only [begun, h]
theorem begun_lt {l : List Ev} {t : Int} : ∀ {k a : Nat}, begun l t k = some a → a < k ∧ ∃ e, l[a]? = some e ∧ e.kind = 1 ∧ e.txn = t := by
  intro k
  induction k with
  | zero => intro a h; cases h
  | succ k ih =>
    intro a h
    simp only [begun] at h
    split at h
    · rename_i e he
      split at h
      · rename_i hc
        cases h
        exact ⟨by omega, e, he, hc.1, hc.2⟩
      · have := ih h
        exact ⟨by omega, this.2⟩
    · have := ih h
      exact ⟨by omega, this.2⟩

theorem rright_inner {l : List Ev} {i : Nat} {e : Ev} (hi : l[i]? = some e) (hl : l.length ≤ 1000000) (hilt : i < l.length) : ∀ (j : Nat), j ≤ i →
    Go hk false 0 fa17 (.head 1 (T17_1 (eEs l) i ((j : Int) - 1))) (if (closedAt l e.txn j == (e.kind == 1)) = true then .head 0 (T17_0 (eEs l) ((i + 1 : Nat) : Int)) else .done (.bool false)) := by
  intro j
  induction j with
  | zero =>
    intro hj
    have e1 : ((0 : Nat) : Int) - 1 = -1 := rfl
    have e2 : closedAt l e.txn 0 = true := rfl
    have n1 : ¬ ((-1 : Int) ≥ 0) := by omega
    have n2 : (-1 : Int) < 0 := by omega
    rw [e1, e2]
    refine s17_1_run _ _ _ ?_ (.refl _)
    cases hk1 : (e.kind == 1) <;> simp (disch := omega) only [s17_1, if_neg n1, if_pos n2, ↓idxK_c hi, hk1, ↓cond_ite, ↓gd_ite, decide_eq_true_eq, Bool.not_eq_true', gd_true, cond_true, cond_false, if_pos, if_neg, if_true, if_false, Bool.false_eq_true, Bool.true_eq_false, toNat_cast, W_i64, List.length_map, List.length_append, List.length_cons, List.length_nil, ↓kB_mk, ↓kI_mk, ↓kS_mk, ↓kL_mk, ↓kA_mk, ↓kT_mk, ↓kF_mk, ↓unc_mk, ↓unn_mk, ↓opt_mk, Bool.not_true, Bool.not_false, Bool.and_true, Bool.true_and, Bool.and_false, Bool.false_and, beq_self_eq_true, Bool.true_beq, Bool.false_beq, Int.natCast_add, Int.natCast_one, Int.cast_ofNat_Int, List.map_append, List.map_cons, List.map_nil, List.append_assoc, List.nil_append, ↓d46_eP, wfl_eP, flat_eP, eP_agg', take_cap, take_self, take_map, wfl_nil, pr_eta, List.append_nil, ↓d30_eE, ↓d28_eE, wfl_eE, ↓d54_mk, ↓d47_mk, ↓d31_mk, ↓d56_eS, eE_agg, ev_eta, kI_eI]
  | succ j ih =>
    intro hj
    have hjl : l[j]? = some l[j] := List.getElem?_eq_getElem (by omega)
    generalize l[j] = ej at hjl
    have e1 : ((j + 1 : Nat) : Int) - 1 = (j : Int) := by omega
    rw [e1, closed_succ hjl]
    by_cases ht : ej.txn = e.txn
    · have hb : (ej.txn != e.txn) = false := by simp [ht]
      rw [if_pos ht]
      refine s17_1_run _ _ _ ?_ (.refl _)
      cases hk1 : (e.kind == 1) <;> cases hk2 : decide (ej.kind ≥ 6) <;> simp (disch := omega) only [s17_1, ↓idxK_c hi, ↓idxK_c hjl, hb, hk1, hk2, ↓cond_ite, ↓gd_ite, decide_eq_true_eq, Bool.not_eq_true', gd_true, cond_true, cond_false, if_pos, if_neg, if_true, if_false, Bool.false_eq_true, Bool.true_eq_false, toNat_cast, W_i64, List.length_map, List.length_append, List.length_cons, List.length_nil, ↓kB_mk, ↓kI_mk, ↓kS_mk, ↓kL_mk, ↓kA_mk, ↓kT_mk, ↓kF_mk, ↓unc_mk, ↓unn_mk, ↓opt_mk, Bool.not_true, Bool.not_false, Bool.and_true, Bool.true_and, Bool.and_false, Bool.false_and, beq_self_eq_true, Bool.true_beq, Bool.false_beq, Int.natCast_add, Int.natCast_one, Int.cast_ofNat_Int, List.map_append, List.map_cons, List.map_nil, List.append_assoc, List.nil_append, ↓d46_eP, wfl_eP, flat_eP, eP_agg', take_cap, take_self, take_map, wfl_nil, pr_eta, List.append_nil, ↓d30_eE, ↓d28_eE, wfl_eE, ↓d54_mk, ↓d47_mk, ↓d31_mk, ↓d56_eS, eE_agg, ev_eta, kI_eI]
    · have hb : (ej.txn != e.txn) = true := by simpa using ht
      rw [if_neg ht]
      refine s17_1_run _ _ _ (o := .head 1 (T17_1 (eEs l) i ((j : Int) - 1))) ?_ (ih (by omega))
      simp (disch := omega) only [s17_1, ↓idxK_c hi, ↓idxK_c hjl, hb, ↓cond_ite, ↓gd_ite, decide_eq_true_eq, Bool.not_eq_true', gd_true, cond_true, cond_false, if_pos, if_neg, if_true, if_false, Bool.false_eq_true, Bool.true_eq_false, toNat_cast, W_i64, List.length_map, List.length_append, List.length_cons, List.length_nil, ↓kB_mk, ↓kI_mk, ↓kS_mk, ↓kL_mk, ↓kA_mk, ↓kT_mk, ↓kF_mk, ↓unc_mk, ↓unn_mk, ↓opt_mk, Bool.not_true, Bool.not_false, Bool.and_true, Bool.true_and, Bool.and_false, Bool.false_and, beq_self_eq_true, Bool.true_beq, Bool.false_beq, Int.natCast_add, Int.natCast_one, Int.cast_ofNat_Int, List.map_append, List.map_cons, List.map_nil, List.append_assoc, List.nil_append, ↓d46_eP, wfl_eP, flat_eP, eP_agg', take_cap, take_self, take_map, wfl_nil, pr_eta, List.append_nil, ↓d30_eE, ↓d28_eE, wfl_eE, ↓d54_mk, ↓d47_mk, ↓d31_mk, ↓d56_eS, eE_agg, ev_eta, kI_eI]

theorem rright_loop (l : List Ev) (hl : l.length ≤ 1000000) : ∀ (r : List Ev) (k : Nat), l.drop k = r → k ≤ l.length →
    Go hk false 0 fa17 (.head 0 (T17_0 (eEs l) k)) (.done (.bool (rightF l k r))) := by
  intro r
  induction r with
  | nil =>
    intro k hr hk
    have h1 := drop_nil hr
    refine s17_0_run _ _ ?_ (.refl _)
    simp (disch := omega) only [s17_0, rightF, ↓cond_ite, ↓gd_ite, decide_eq_true_eq, Bool.not_eq_true', gd_true, cond_true, cond_false, if_pos, if_neg, if_true, if_false, Bool.false_eq_true, Bool.true_eq_false, toNat_cast, W_i64, List.length_map, List.length_append, List.length_cons, List.length_nil, ↓kB_mk, ↓kI_mk, ↓kS_mk, ↓kL_mk, ↓kA_mk, ↓kT_mk, ↓kF_mk, ↓unc_mk, ↓unn_mk, ↓opt_mk, Bool.not_true, Bool.not_false, Bool.and_true, Bool.true_and, Bool.and_false, Bool.false_and, beq_self_eq_true, Bool.true_beq, Bool.false_beq, Int.natCast_add, Int.natCast_one, Int.cast_ofNat_Int, List.map_append, List.map_cons, List.map_nil, List.append_assoc, List.nil_append, ↓d46_eP, wfl_eP, flat_eP, eP_agg', take_cap, take_self, take_map, wfl_nil, pr_eta, List.append_nil, ↓d30_eE, ↓d28_eE, wfl_eE, ↓d54_mk, ↓d47_mk, ↓d31_mk, ↓d56_eS, eE_agg, ev_eta, kI_eI]
  | cons x r ih =>
    intro k hr hk
    obtain ⟨h1, h2, h3⟩ := drop_cons hr
    unfold rightF okAt
    by_cases c1 : 1 ≤ x.kind
    · by_cases c7 : x.kind ≤ 7
      · have hin := rright_inner h1 hl h3 k (Nat.le_refl _)
        rw [decide_eq_true c1, decide_eq_true c7, Bool.true_and, Bool.true_and]
        refine s17_0_run _ _ (o := .head 1 (T17_1 (eEs l) k ((k : Int) - 1))) ?_ (hin.trans ?_)
        · simp (disch := omega) only [s17_0, ↓idxK_c h1, ↓cond_ite, ↓gd_ite, decide_eq_true_eq, Bool.not_eq_true', gd_true, cond_true, cond_false, if_pos, if_neg, if_true, if_false, Bool.false_eq_true, Bool.true_eq_false, toNat_cast, W_i64, List.length_map, List.length_append, List.length_cons, List.length_nil, ↓kB_mk, ↓kI_mk, ↓kS_mk, ↓kL_mk, ↓kA_mk, ↓kT_mk, ↓kF_mk, ↓unc_mk, ↓unn_mk, ↓opt_mk, Bool.not_true, Bool.not_false, Bool.and_true, Bool.true_and, Bool.and_false, Bool.false_and, beq_self_eq_true, Bool.true_beq, Bool.false_beq, Int.natCast_add, Int.natCast_one, Int.cast_ofNat_Int, List.map_append, List.map_cons, List.map_nil, List.append_assoc, List.nil_append, ↓d46_eP, wfl_eP, flat_eP, eP_agg', take_cap, take_self, take_map, wfl_nil, pr_eta, List.append_nil, ↓d30_eE, ↓d28_eE, wfl_eE, ↓d54_mk, ↓d47_mk, ↓d31_mk, ↓d56_eS, eE_agg, ev_eta, kI_eI]
        · cases hc : (closedAt l x.txn k == (x.kind == 1)) with
          | true => rw [if_pos rfl, Bool.true_and]; exact ih (k + 1) h2 (by omega)
          | false => rw [if_neg (by simp), Bool.false_and]; exact .refl _
      · rw [decide_eq_false c7, Bool.and_false, Bool.false_and, Bool.false_and]
        refine s17_0_run _ _ ?_ (.refl _)
        simp (disch := omega) only [s17_0, ↓idxK_c h1, ↓cond_ite, ↓gd_ite, decide_eq_true_eq, Bool.not_eq_true', gd_true, cond_true, cond_false, if_pos, if_neg, if_true, if_false, Bool.false_eq_true, Bool.true_eq_false, toNat_cast, W_i64, List.length_map, List.length_append, List.length_cons, List.length_nil, ↓kB_mk, ↓kI_mk, ↓kS_mk, ↓kL_mk, ↓kA_mk, ↓kT_mk, ↓kF_mk, ↓unc_mk, ↓unn_mk, ↓opt_mk, Bool.not_true, Bool.not_false, Bool.and_true, Bool.true_and, Bool.and_false, Bool.false_and, beq_self_eq_true, Bool.true_beq, Bool.false_beq, Int.natCast_add, Int.natCast_one, Int.cast_ofNat_Int, List.map_append, List.map_cons, List.map_nil, List.append_assoc, List.nil_append, ↓d46_eP, wfl_eP, flat_eP, eP_agg', take_cap, take_self, take_map, wfl_nil, pr_eta, List.append_nil, ↓d30_eE, ↓d28_eE, wfl_eE, ↓d54_mk, ↓d47_mk, ↓d31_mk, ↓d56_eS, eE_agg, ev_eta, kI_eI]
    · rw [decide_eq_false c1, Bool.false_and, Bool.false_and, Bool.false_and]
      refine s17_0_run _ _ ?_ (.refl _)
      simp (disch := omega) only [s17_0, ↓idxK_c h1, ↓cond_ite, ↓gd_ite, decide_eq_true_eq, Bool.not_eq_true', gd_true, cond_true, cond_false, if_pos, if_neg, if_true, if_false, Bool.false_eq_true, Bool.true_eq_false, toNat_cast, W_i64, List.length_map, List.length_append, List.length_cons, List.length_nil, ↓kB_mk, ↓kI_mk, ↓kS_mk, ↓kL_mk, ↓kA_mk, ↓kT_mk, ↓kF_mk, ↓unc_mk, ↓unn_mk, ↓opt_mk, Bool.not_true, Bool.not_false, Bool.and_true, Bool.true_and, Bool.and_false, Bool.false_and, beq_self_eq_true, Bool.true_beq, Bool.false_beq, Int.natCast_add, Int.natCast_one, Int.cast_ofNat_Int, List.map_append, List.map_cons, List.map_nil, List.append_assoc, List.nil_append, ↓d46_eP, wfl_eP, flat_eP, eP_agg', take_cap, take_self, take_map, wfl_nil, pr_eta, List.append_nil, ↓d30_eE, ↓d28_eE, wfl_eE, ↓d54_mk, ↓d47_mk, ↓d31_mk, ↓d56_eS, eE_agg, ev_eta, kI_eI]
theorem rright (l : List Ev) (hl : l.length ≤ 1000000) : pcW hcfg 17 [.sl (eEs l)] = some (.bool (rightF l 0 l)) :=
  e17_run _ rfl (rright_loop l hl l 0 rfl (Nat.zero_le _))

theorem start_loop {l : List Ev} {i : Nat} {e : Ev} (hi : l[i]? = some e) (hl : l.length ≤ 1000000) {s : Nat} : ∀ (j : Nat), j ≤ i → begun l e.txn (j + 1) = some s →
    Go hk false 0 fa33 (.head 0 (T33_0 (eEs l) i j)) (.done (.int .i64 s)) := by
  have hilt : i < l.length := (List.getElem?_eq_some_iff.1 hi).1
  intro j
  induction j with
  | zero =>
    intro hj hs
    have hjl : l[0]? = some l[0] := List.getElem?_eq_getElem (by omega)
    generalize l[0] = ej at hjl
    rw [begun_succ hjl] at hs
    split at hs
    · rename_i hc
      cases hs
      have b1 : (ej.kind != 1) = false := by simp [hc.1]
      have b2 : (ej.txn != e.txn) = false := by simp [hc.2]
      refine s33_0_run _ _ _ ?_ (.refl _)
      simp (disch := omega) only [s33_0, ↓idxK_c hjl, ↓idxK_c hi, b1, b2, ↓cond_ite, ↓gd_ite, decide_eq_true_eq, Bool.not_eq_true', gd_true, cond_true, cond_false, if_pos, if_neg, if_true, if_false, Bool.false_eq_true, Bool.true_eq_false, toNat_cast, W_i64, List.length_map, List.length_append, List.length_cons, List.length_nil, ↓kB_mk, ↓kI_mk, ↓kS_mk, ↓kL_mk, ↓kA_mk, ↓kT_mk, ↓kF_mk, ↓unc_mk, ↓unn_mk, ↓opt_mk, Bool.not_true, Bool.not_false, Bool.and_true, Bool.true_and, Bool.and_false, Bool.false_and, beq_self_eq_true, Bool.true_beq, Bool.false_beq, Int.natCast_add, Int.natCast_one, Int.cast_ofNat_Int, List.map_append, List.map_cons, List.map_nil, List.append_assoc, List.nil_append, ↓d46_eP, wfl_eP, flat_eP, eP_agg', take_cap, take_self, take_map, wfl_nil, pr_eta, List.append_nil, ↓d30_eE, ↓d28_eE, wfl_eE, ↓d54_mk, ↓d47_mk, ↓d31_mk, ↓d56_eS, eE_agg, ev_eta, kI_eI]
    · cases hs
  | succ j ih =>
    intro hj hs
    have hjl : l[j + 1]? = some l[j + 1] := List.getElem?_eq_getElem (by omega)
    generalize l[j + 1] = ej at hjl
    rw [begun_succ hjl] at hs
    have ej1 : ((j + 1 : Nat) : Int) - 1 = (j : Int) := by omega
    split at hs
    · rename_i hc
      cases hs
      have b1 : (ej.kind != 1) = false := by simp [hc.1]
      have b2 : (ej.txn != e.txn) = false := by simp [hc.2]
      refine s33_0_run _ _ _ ?_ (.refl _)
      unfold s33_0
      rw [gd_ok (decide_eq_true (by omega)), idxK_c hjl]
      simp (disch := omega) only [↓idxK_c hjl, ↓idxK_c hi, b1, b2, ↓cond_ite, ↓gd_ite, decide_eq_true_eq, Bool.not_eq_true', gd_true, cond_true, cond_false, if_pos, if_neg, if_true, if_false, Bool.false_eq_true, Bool.true_eq_false, toNat_cast, W_i64, List.length_map, List.length_append, List.length_cons, List.length_nil, ↓kB_mk, ↓kI_mk, ↓kS_mk, ↓kL_mk, ↓kA_mk, ↓kT_mk, ↓kF_mk, ↓unc_mk, ↓unn_mk, ↓opt_mk, Bool.not_true, Bool.not_false, Bool.and_true, Bool.true_and, Bool.and_false, Bool.false_and, beq_self_eq_true, Bool.true_beq, Bool.false_beq, Int.natCast_add, Int.natCast_one, Int.cast_ofNat_Int, List.map_append, List.map_cons, List.map_nil, List.append_assoc, List.nil_append, ↓d46_eP, wfl_eP, flat_eP, eP_agg', take_cap, take_self, take_map, wfl_nil, pr_eta, List.append_nil, ↓d30_eE, ↓d28_eE, wfl_eE, ↓d54_mk, ↓d47_mk, ↓d31_mk, ↓d56_eS, eE_agg, ev_eta, kI_eI]
    · rename_i hc
      refine s33_0_run _ _ _ (o := .head 0 (T33_0 (eEs l) i (j : Int))) ?_ (ih (by omega) hs)
      unfold s33_0
      rw [gd_ok (decide_eq_true (by omega)), idxK_c hjl]
      by_cases hk1 : ej.kind = 1
      · have b1 : (ej.kind != 1) = false := by simp [hk1]
        have b2 : (ej.txn != e.txn) = true := by simpa using fun h => hc ⟨hk1, h⟩
        simp (disch := omega) only [↓idxK_c hjl, ↓idxK_c hi, b1, b2, Int.add_sub_cancel, ↓cond_ite, ↓gd_ite, decide_eq_true_eq, Bool.not_eq_true', gd_true, cond_true, cond_false, if_pos, if_neg, if_true, if_false, Bool.false_eq_true, Bool.true_eq_false, toNat_cast, W_i64, List.length_map, List.length_append, List.length_cons, List.length_nil, ↓kB_mk, ↓kI_mk, ↓kS_mk, ↓kL_mk, ↓kA_mk, ↓kT_mk, ↓kF_mk, ↓unc_mk, ↓unn_mk, ↓opt_mk, Bool.not_true, Bool.not_false, Bool.and_true, Bool.true_and, Bool.and_false, Bool.false_and, beq_self_eq_true, Bool.true_beq, Bool.false_beq, Int.natCast_add, Int.natCast_one, Int.cast_ofNat_Int, List.map_append, List.map_cons, List.map_nil, List.append_assoc, List.nil_append, ↓d46_eP, wfl_eP, flat_eP, eP_agg', take_cap, take_self, take_map, wfl_nil, pr_eta, List.append_nil, ↓d30_eE, ↓d28_eE, wfl_eE, ↓d54_mk, ↓d47_mk, ↓d31_mk, ↓d56_eS, eE_agg, ev_eta, kI_eI]
      · have b1 : (ej.kind != 1) = true := by simpa using hk1
        simp (disch := omega) only [b1, Int.add_sub_cancel, ↓cond_ite, ↓gd_ite, decide_eq_true_eq, Bool.not_eq_true', gd_true, cond_true, cond_false, if_pos, if_neg, if_true, if_false, Bool.false_eq_true, Bool.true_eq_false, toNat_cast, W_i64, List.length_map, List.length_append, List.length_cons, List.length_nil, ↓kB_mk, ↓kI_mk, ↓kS_mk, ↓kL_mk, ↓kA_mk, ↓kT_mk, ↓kF_mk, ↓unc_mk, ↓unn_mk, ↓opt_mk, Bool.not_true, Bool.not_false, Bool.and_true, Bool.true_and, Bool.and_false, Bool.false_and, beq_self_eq_true, Bool.true_beq, Bool.false_beq, Int.natCast_add, Int.natCast_one, Int.cast_ofNat_Int, List.map_append, List.map_cons, List.map_nil, List.append_assoc, List.nil_append, ↓d46_eP, wfl_eP, flat_eP, eP_agg', take_cap, take_self, take_map, wfl_nil, pr_eta, List.append_nil, ↓d30_eE, ↓d28_eE, wfl_eE, ↓d54_mk, ↓d47_mk, ↓d31_mk, ↓d56_eS, eE_agg, ev_eta, kI_eI]
theorem start {l : List Ev} {i : Nat} {e : Ev} (hi : l[i]? = some e) (hl : l.length ≤ 1000000) {s : Nat} (hs : begun l e.txn (i + 1) = some s) : pcW hcfg 33 [.sl (eEs l), .int .i64 i] = some (.int .i64 s) :=
  e33_run _ _ rfl (start_loop hi hl i (Nat.le_refl _) hs)

/-- the transactions that were committed: where each one began, and ended -/
def coms (l : List Ev) : Nat → List Ev → List (Nat × Nat)
  | _, [] => []
  | k, e :: r => if e.kind = 6 then ((begun l e.txn (k + 1)).getD 0, k) :: coms l (k + 1) r else coms l (k + 1) r

structure Inv (l : List Ev) (op : List (Int × Nat)) (k : Nat) : Prop where
  nd : (op.map (·.1)).Nodup
  fd : ∀ t, fnd op t = if closedAt l t k then none else begun l t k
  op : ∀ t, closedAt l t k = false → begun l t k ≠ none

theorem fnd_put (op : List (Int × Nat)) (t t' : Int) (n : Nat) : fnd (put op t n) t' = if t' = t then some n else fnd op t' := by
  induction op with
  | nil => simp only [put, fnd]
  | cons x op ih =>
    obtain ⟨a, y⟩ := x
    simp only [put]
    by_cases h : t = a
    · subst h
      simp only [if_true, fnd]
      by_cases h' : t' = t <;> simp [h']
    · simp only [h, if_false, fnd, ih]
      by_cases h' : t' = a
      · subst h'; simp only [if_true]; rw [if_neg (fun e => h e.symm)]
      · simp only [h', if_false]
theorem put_keys (op : List (Int × Nat)) (t : Int) (n : Nat) (h : fnd op t = none) : (put op t n).map (·.1) = op.map (·.1) ++ [t] := by
  induction op with
  | nil => rfl
  | cons x op ih =>
    obtain ⟨a, y⟩ := x
    simp only [fnd] at h
    by_cases e : t = a
    · simp [e] at h
    · simp only [e, if_false] at h
      simp only [put, e, if_false, List.map_cons, ih h, List.cons_append]
theorem fnd_none (op : List (Int × Nat)) (t : Int) : fnd op t = none ↔ t ∉ op.map (·.1) := by
  induction op with
  | nil => simp [fnd]
  | cons x op ih =>
    obtain ⟨a, y⟩ := x
    simp only [fnd, List.map_cons, List.mem_cons, not_or]
    by_cases e : t = a
    · simp [e]
    · simp [e, ih]
theorem del_keys (op : List (Int × Nat)) (t : Int) : ((del op t).map (·.1)).Sublist (op.map (·.1)) := by
  induction op with
  | nil => exact List.Sublist.refl _
  | cons x op ih =>
    obtain ⟨a, y⟩ := x
    simp only [del]
    by_cases e : t = a
    · simp only [e, if_true, List.map_cons]; exact List.sublist_cons_self _ _
    · simp only [e, if_false, List.map_cons]; exact ih.cons_cons _
theorem fnd_del (op : List (Int × Nat)) (t t' : Int) (hn : (op.map (·.1)).Nodup) : fnd (del op t) t' = if t' = t then none else fnd op t' := by
  induction op with
  | nil => simp [del, fnd]
  | cons x op ih =>
    obtain ⟨a, y⟩ := x
    simp only [List.map_cons, List.nodup_cons] at hn
    simp only [del]
    by_cases e : t = a
    · subst e
      simp only [if_true, fnd]
      by_cases h' : t' = t
      · subst h'; simp only [if_true]; exact (fnd_none op t').2 hn.1
      · simp only [h', if_false]
    · simp only [e, if_false, fnd, ih hn.2]
      by_cases h' : t' = a
      · subst h'; simp only [if_true]; rw [if_neg (fun q => e q.symm)]
      · simp only [h', if_false]

theorem inv_ok {l : List Ev} {op : List (Int × Nat)} {k : Nat} {e : Ev} (hI : Inv l op k) (h1 : l[k]? = some e) (ok : okAt l k e = true) (out : List (Nat × Nat)) :
    ∃ op', step k e out op = some (out ++ (if e.kind = 6 then [((begun l e.txn (k + 1)).getD 0, k)] else []), op') ∧ Inv l op' (k + 1) ∧ ∃ a, begun l e.txn (k + 1) = some a := by
  have hb := begun_succ h1
  have hc := closed_succ h1
  have hfd := hI.fd e.txn
  have hop := hI.op e.txn
  unfold okAt at ok
  simp only [Bool.and_eq_true, decide_eq_true_eq, beq_iff_eq] at ok
  obtain ⟨⟨o1, o7⟩, oc⟩ := ok
  unfold step
  cases hcl : closedAt l e.txn k with
  | true =>
    rw [hcl] at hfd oc
    simp only [if_true] at hfd
    have c1 : e.kind = 1 := by simpa using oc.symm
    rw [hfd]
    refine ⟨put op e.txn k, ?_, ⟨?_, fun t => ?_, fun t => ?_⟩, k, by rw [hb, if_pos ⟨c1, rfl⟩]⟩
    · simp only [c1, if_true]
      rw [if_neg (by decide), List.append_nil]
    · rw [put_keys _ _ _ hfd, List.nodup_append]
      refine ⟨hI.nd, by simp, ?_⟩
      intro a ha b hb' e'
      simp only [List.mem_singleton] at hb'
      subst hb'; subst e'
      exact (fnd_none op _).1 hfd ha
    · rw [fnd_put, hc, hb, hI.fd t]
      by_cases ht : t = e.txn
      · subst ht; simp [c1]
      · rw [if_neg ht, if_neg (show ¬ e.txn = t from fun q => ht q.symm), if_neg (show ¬ (e.kind = 1 ∧ e.txn = t) from fun q => ht q.2.symm)]
    · rw [hc, hb]
      by_cases ht : t = e.txn
      · subst ht; simp [c1]
      · rw [if_neg (show ¬ e.txn = t from fun q => ht q.symm), if_neg (show ¬ (e.kind = 1 ∧ e.txn = t) from fun q => ht q.2.symm)]; exact hI.op t
  | false =>
    rw [hcl] at hfd oc
    simp only [Bool.false_eq_true, if_false] at hfd
    have c1 : ¬ e.kind = 1 := by
      have : (e.kind == 1) = false := oc.symm
      simpa using this
    have hop := hop hcl
    obtain ⟨a, ha⟩ := Option.ne_none_iff_exists'.1 hop
    rw [hfd, ha]
    have same : ∀ t, begun l t (k + 1) = begun l t k := fun t => by rw [hb, if_neg (fun q => c1 q.1)]
    rw [same, ha]
    by_cases c67 : e.kind = 6 ∨ e.kind = 7
    · have h6 : decide (e.kind ≥ 6) = true := decide_eq_true (by omega)
      have hI' : Inv l (del op e.txn) (k + 1) := by
        refine ⟨(del_keys op e.txn).nodup hI.nd, fun t => ?_, fun t => ?_⟩
        · rw [fnd_del _ _ _ hI.nd, hc, same, hI.fd t]
          by_cases ht : t = e.txn
          · subst ht
            simp [h6]
          · rw [if_neg ht, if_neg (show ¬ e.txn = t from fun q => ht q.symm)]
        · rw [hc, same]
          by_cases ht : t = e.txn
          · subst ht
            rw [if_pos rfl, h6]; intro q; cases q
          · rw [if_neg (show ¬ e.txn = t from fun q => ht q.symm)]; exact hI.op t
      refine ⟨del op e.txn, ?_, hI', a, rfl⟩
      by_cases c6 : e.kind = 6
      · simp [c6]
      · have c7 : e.kind = 7 := by omega
        simp [c6, c7]
    · have c25 : e.kind = 2 ∨ e.kind = 3 ∨ e.kind = 4 ∨ e.kind = 5 := by omega
      have c6 : ¬ e.kind = 6 := by omega
      have c7 : ¬ e.kind = 7 := by omega
      have h6 : decide (e.kind ≥ 6) = false := decide_eq_false (by omega)
      have hI' : Inv l op (k + 1) := by
        refine ⟨hI.nd, fun t => ?_, fun t => ?_⟩
        · rw [hc, same, hI.fd t]
          by_cases ht : t = e.txn
          · subst ht
            simp [h6, hcl]
          · rw [if_neg (show ¬ e.txn = t from fun q => ht q.symm)]
        · rw [hc, same]
          by_cases ht : t = e.txn
          · subst ht
            rw [if_pos rfl]; intro _; rw [ha]; simp
          · rw [if_neg (show ¬ e.txn = t from fun q => ht q.symm)]; exact hI.op t
      refine ⟨op, ?_, hI', a, rfl⟩
      simp [c6, c7, c25]
theorem inv_not {l : List Ev} {op : List (Int × Nat)} {k : Nat} {e : Ev} (hI : Inv l op k) (h1 : l[k]? = some e) (ok : okAt l k e = false) (out : List (Nat × Nat)) : step k e out op = none := by
  have hfd := hI.fd e.txn
  unfold okAt at ok
  unfold step
  cases hcl : closedAt l e.txn k with
  | true =>
    rw [hcl] at hfd ok
    simp only [if_true] at hfd
    rw [hfd]
    by_cases c1 : e.kind = 1
    · simp [c1] at ok
    · simp [c1]
  | false =>
    rw [hcl] at hfd ok
    simp only [Bool.false_eq_true, if_false] at hfd
    obtain ⟨a, ha⟩ := Option.ne_none_iff_exists'.1 (hI.op e.txn hcl)
    rw [hfd, ha]
    have : ¬ (2 ≤ e.kind ∧ e.kind ≤ 7) := by
      intro h
      have c1 : (e.kind == 1) = false := by simp; omega
      rw [c1, decide_eq_true (by omega), decide_eq_true h.2] at ok
      cases ok
    have c6 : ¬ e.kind = 6 := by omega
    have c7 : ¬ e.kind = 7 := by omega
    have c25 : ¬ (e.kind = 2 ∨ e.kind = 3 ∨ e.kind = 4 ∨ e.kind = 5) := by omega
    simp only [c6, c7, c25, if_false]

theorem spans_right (l : List Ev) : ∀ (r : List Ev) (k : Nat) (out : List (Nat × Nat)) (op : List (Int × Nat)), l.drop k = r → Inv l op k →
    spansF k r out op = if rightF l k r then some (out ++ coms l k r) else none := by
  intro r
  induction r with
  | nil => intro k out op hr hI; simp [spansF, rightF, coms]
  | cons e r ih =>
    intro k out op hr hI
    obtain ⟨h1, h2, h3⟩ := drop_cons hr
    unfold spansF rightF
    cases ok : okAt l k e with
    | false => rw [inv_not hI h1 ok]; simp
    | true =>
      obtain ⟨op', hs, hI', a, ha⟩ := inv_ok hI h1 ok out
      rw [hs]
      simp only [Bool.true_and]
      rw [ih (k + 1) _ op' h2 hI']
      by_cases c6 : e.kind = 6 <;> simp [coms, c6]
theorem inv0 (l : List Ev) : Inv l [] 0 := ⟨by simp, fun t => by simp [fnd, closedAt, back], fun t h => by simp [closedAt, back] at h⟩
theorem span_eq (l : List Ev) : spanOf l = if rightF l 0 l then some (coms l 0 l) else none := by
  have := spans_right l l 0 [] [] rfl (inv0 l)
  simpa [spanOf] using this

/-- of events that may be: each one has a beginning -/
theorem right_begun (l : List Ev) : ∀ (r : List Ev) (k : Nat) (op : List (Int × Nat)), l.drop k = r → Inv l op k → rightF l k r = true → ∀ i e, k ≤ i → l[i]? = some e → ∃ a, begun l e.txn (i + 1) = some a := by
  intro r
  induction r with
  | nil => intro k op hr hI h i e hi he; have := drop_nil hr; have := (List.getElem?_eq_some_iff.1 he).1; omega
  | cons x r ih =>
    intro k op hr hI h i e hi he
    obtain ⟨h1, h2, h3⟩ := drop_cons hr
    unfold rightF at h
    rw [Bool.and_eq_true] at h
    obtain ⟨op', hs, hI', a, ha⟩ := inv_ok hI h1 h.1 []
    rcases Nat.lt_or_ge k i with q | q
    · exact ih (k + 1) op' h2 hI' h.2 i e q he
    · have : i = k := by omega
      subst this
      rw [h1] at he
      cases he
      exact ⟨a, ha⟩

/-! ### Committed, for the document -/

theorem rcom_loop (l : List Ev) (hl : l.length ≤ 1000000) (hr1 : rightF l 0 l = true) : ∀ (r : List Ev) (k : Nat) (acc : List Nat), l.drop k = r → acc.length ≤ k → k ≤ l.length →
    Go hk false 0 fa20 (.head 0 (T20_0 (eEs l) k (eIs acc))) (.done (.fr 3 (eIs (acc ++ (coms l k r).map (·.1))))) := by
  have hR := rright l hl
  rw [hr1] at hR
  intro r
  induction r with
  | nil =>
    intro k acc hr ha hk
    have h1 := drop_nil hr
    have f : ((eIs acc).all fun x => x.cells.all V.flat1) = true := flat_map fun _ => rfl
    refine s20_0_run _ _ _ ?_ (.refl _)
    simp (disch := omega) only [s20_0, ↓pcK_of hR, coms, f, ↓cond_ite, ↓gd_ite, decide_eq_true_eq, Bool.not_eq_true', gd_true, cond_true, cond_false, if_pos, if_neg, if_true, if_false, Bool.false_eq_true, Bool.true_eq_false, toNat_cast, W_i64, List.length_map, List.length_append, List.length_cons, List.length_nil, ↓kB_mk, ↓kI_mk, ↓kS_mk, ↓kL_mk, ↓kA_mk, ↓kT_mk, ↓kF_mk, ↓unc_mk, ↓unn_mk, ↓opt_mk, Bool.not_true, Bool.not_false, Bool.and_true, Bool.true_and, Bool.and_false, Bool.false_and, beq_self_eq_true, Bool.true_beq, Bool.false_beq, Int.natCast_add, Int.natCast_one, Int.cast_ofNat_Int, List.map_append, List.map_cons, List.map_nil, List.append_assoc, List.nil_append, ↓d46_eP, wfl_eP, flat_eP, eP_agg', take_cap, take_self, take_map, wfl_nil, pr_eta, List.append_nil, ↓d30_eE, ↓d28_eE, wfl_eE, ↓d54_mk, ↓d47_mk, ↓d31_mk, ↓d56_eS, eE_agg, ev_eta, kI_eI]
  | cons x r ih =>
    intro k acc hr ha hk
    obtain ⟨h1, h2, h3⟩ := drop_cons hr
    obtain ⟨a, hb⟩ := right_begun l l 0 [] rfl (inv0 l) hr1 k x (Nat.zero_le _) h1
    by_cases c6 : x.kind = 6
    · refine s20_0_run _ _ _ (o := .head 0 (T20_0 (eEs l) ((k + 1 : Nat) : Int) (eIs (acc ++ [a])))) ?_ ?_
      · simp (disch := omega) only [s20_0, ↓pcK_of hR, ↓idxK_c h1, kindT c6, ↓pcK_of (start h1 hl hb), eI, ↓cond_ite, ↓gd_ite, decide_eq_true_eq, Bool.not_eq_true', gd_true, cond_true, cond_false, if_pos, if_neg, if_true, if_false, Bool.false_eq_true, Bool.true_eq_false, toNat_cast, W_i64, List.length_map, List.length_append, List.length_cons, List.length_nil, ↓kB_mk, ↓kI_mk, ↓kS_mk, ↓kL_mk, ↓kA_mk, ↓kT_mk, ↓kF_mk, ↓unc_mk, ↓unn_mk, ↓opt_mk, Bool.not_true, Bool.not_false, Bool.and_true, Bool.true_and, Bool.and_false, Bool.false_and, beq_self_eq_true, Bool.true_beq, Bool.false_beq, Int.natCast_add, Int.natCast_one, Int.cast_ofNat_Int, List.map_append, List.map_cons, List.map_nil, List.append_assoc, List.nil_append, ↓d46_eP, wfl_eP, flat_eP, eP_agg', take_cap, take_self, take_map, wfl_nil, pr_eta, List.append_nil, ↓d30_eE, ↓d28_eE, wfl_eE, ↓d54_mk, ↓d47_mk, ↓d31_mk, ↓d56_eS, eE_agg, ev_eta, kI_eI]
      · have := ih (k + 1) (acc ++ [a]) h2 (by simp; omega) (by omega)
        simpa [coms, c6, hb] using this
    · refine s20_0_run _ _ _ (o := .head 0 (T20_0 (eEs l) ((k + 1 : Nat) : Int) (eIs acc))) ?_ ?_
      · simp (disch := omega) only [s20_0, ↓pcK_of hR, ↓idxK_c h1, kindF c6, ↓cond_ite, ↓gd_ite, decide_eq_true_eq, Bool.not_eq_true', gd_true, cond_true, cond_false, if_pos, if_neg, if_true, if_false, Bool.false_eq_true, Bool.true_eq_false, toNat_cast, W_i64, List.length_map, List.length_append, List.length_cons, List.length_nil, ↓kB_mk, ↓kI_mk, ↓kS_mk, ↓kL_mk, ↓kA_mk, ↓kT_mk, ↓kF_mk, ↓unc_mk, ↓unn_mk, ↓opt_mk, Bool.not_true, Bool.not_false, Bool.and_true, Bool.true_and, Bool.and_false, Bool.false_and, beq_self_eq_true, Bool.true_beq, Bool.false_beq, Int.natCast_add, Int.natCast_one, Int.cast_ofNat_Int, List.map_append, List.map_cons, List.map_nil, List.append_assoc, List.nil_append, ↓d46_eP, wfl_eP, flat_eP, eP_agg', take_cap, take_self, take_map, wfl_nil, pr_eta, List.append_nil, ↓d30_eE, ↓d28_eE, wfl_eE, ↓d54_mk, ↓d47_mk, ↓d31_mk, ↓d56_eS, eE_agg, ev_eta, kI_eI]
      · have := ih (k + 1) acc h2 (by omega) (by omega)
        simpa [coms, c6] using this
theorem rcommitted (l : List Ev) (hl : l.length ≤ 1000000) : pcW hcfg 20 [.sl (eEs l)] = some (.fr 3 (eIs (comOf l))) := by
  have e0 := span_eq l
  unfold comOf
  cases hr1 : rightF l 0 l with
  | true =>
    rw [hr1, if_pos rfl] at e0
    rw [e0]
    exact e20_run _ rfl (by simpa using rcom_loop l hl hr1 l 0 [] rfl (by simp) (Nat.zero_le _))
  | false =>
    rw [hr1] at e0
    simp only [Bool.false_eq_true, if_false] at e0
    rw [e0]
    have hR := rright l hl
    rw [hr1] at hR
    refine e20_run _ rfl (s20_0_run _ _ _ ?_ (.refl _))
    unfold s20_0
    rw [pcK_of hR]
    rfl

end Go.Proofs.Ythojkngbpcjicaa
