/-
  What the functions of hist hand back: the document's map behind an event; which transactions there are.
-/
import Derived.Test.YthojkngbpcjicaaH4
namespace Go.Proofs.Ythojkngbpcjicaa
open Go Go.Lite
set_option linter.unusedSimpArgs false
set_option linter.unusedVariables false

theorem rdo_loop (m : List Pr) (e : Ev) (L : Nat) (hl : m.length ≤ 1000000) (hep : e.pairs.length ≤ 1000000) : ∀ (r : List Pr) (k : Nat) (acc : List Pr), m.drop k = r → L ≤ k → k ≤ m.length → acc.length = k - L →
    Go hk false 0 fa12 (.head 0 (T12_0 (ePs m) L k e.txn e.kind e.key e.value e.n (ePs e.pairs) e.ok (ePs acc))) (.done (.tup [.sl (ePs m), .bool (e.pairs == acc ++ r.take (e.n - ((k : Int) - L)).toNat)])) := by
  intro r
  induction r with
  | nil =>
    intro k acc hr hL hk ha
    have h1 := drop_nil hr
    refine s12_0_run _ _ _ _ _ _ _ _ _ _ _ ?_ (.refl _)
    simp (disch := omega) only [s12_0, ↓pcK_of (alike e.pairs acc hep), List.take_nil, ↓cond_ite, ↓gd_ite, decide_eq_true_eq, Bool.not_eq_true', gd_true, cond_true, cond_false, if_pos, if_neg, if_true, if_false, Bool.false_eq_true, Bool.true_eq_false, toNat_cast, W_i64, List.length_map, List.length_append, List.length_cons, List.length_nil, ↓kB_mk, ↓kI_mk, ↓kS_mk, ↓kL_mk, ↓kA_mk, ↓kT_mk, ↓kF_mk, ↓unc_mk, ↓unn_mk, ↓opt_mk, Bool.not_true, Bool.not_false, Bool.and_true, Bool.true_and, Bool.and_false, Bool.false_and, beq_self_eq_true, Bool.true_beq, Bool.false_beq, Int.natCast_add, Int.natCast_one, Int.cast_ofNat_Int, List.map_append, List.map_cons, List.map_nil, List.append_assoc, List.nil_append, ↓d46_eP, wfl_eP, flat_eP, eP_agg', take_cap, take_self, take_map, wfl_nil, pr_eta, List.append_nil, ↓d30_eE, ↓d28_eE, wfl_eE, ↓d54_mk, ↓d47_mk, ↓d31_mk, ↓d56_eS, eE_agg, ev_eta, kI_eI]
  | cons x r ih =>
    intro k acc hr hL hk ha
    obtain ⟨h1, h2, h3⟩ := drop_cons hr
    by_cases hn : (k : Int) - L < e.n
    · refine s12_0_run _ _ _ _ _ _ _ _ _ _ _ (o := .head 0 (T12_0 (ePs m) L ((k + 1 : Nat) : Int) e.txn e.kind e.key e.value e.n (ePs e.pairs) e.ok (ePs (acc ++ [x])))) ?_ ?_
      · simp (disch := omega) only [s12_0, idxK_map h1, ↓cond_ite, ↓gd_ite, decide_eq_true_eq, Bool.not_eq_true', gd_true, cond_true, cond_false, if_pos, if_neg, if_true, if_false, Bool.false_eq_true, Bool.true_eq_false, toNat_cast, W_i64, List.length_map, List.length_append, List.length_cons, List.length_nil, ↓kB_mk, ↓kI_mk, ↓kS_mk, ↓kL_mk, ↓kA_mk, ↓kT_mk, ↓kF_mk, ↓unc_mk, ↓unn_mk, ↓opt_mk, Bool.not_true, Bool.not_false, Bool.and_true, Bool.true_and, Bool.and_false, Bool.false_and, beq_self_eq_true, Bool.true_beq, Bool.false_beq, Int.natCast_add, Int.natCast_one, Int.cast_ofNat_Int, List.map_append, List.map_cons, List.map_nil, List.append_assoc, List.nil_append, ↓d46_eP, wfl_eP, flat_eP, eP_agg', take_cap, take_self, take_map, wfl_nil, pr_eta, List.append_nil, ↓d30_eE, ↓d28_eE, wfl_eE, ↓d54_mk, ↓d47_mk, ↓d31_mk, ↓d56_eS, eE_agg, ev_eta, kI_eI]
      · have := ih (k + 1) (acc ++ [x]) h2 (by omega) (by omega) (by simp; omega)
        rw [show (e.n - ((k : Int) - L)).toNat = (e.n - (((k + 1 : Nat) : Int) - L)).toNat + 1 by omega]
        simpa using this
    · refine s12_0_run _ _ _ _ _ _ _ _ _ _ _ ?_ (.refl _)
      have e0 : (e.n - ((k : Int) - L)).toNat = 0 := by omega
      simp (disch := omega) only [s12_0, ↓pcK_of (alike e.pairs acc hep), e0, List.take_zero, ↓cond_ite, ↓gd_ite, decide_eq_true_eq, Bool.not_eq_true', gd_true, cond_true, cond_false, if_pos, if_neg, if_true, if_false, Bool.false_eq_true, Bool.true_eq_false, toNat_cast, W_i64, List.length_map, List.length_append, List.length_cons, List.length_nil, ↓kB_mk, ↓kI_mk, ↓kS_mk, ↓kL_mk, ↓kA_mk, ↓kT_mk, ↓kF_mk, ↓unc_mk, ↓unn_mk, ↓opt_mk, Bool.not_true, Bool.not_false, Bool.and_true, Bool.true_and, Bool.and_false, Bool.false_and, beq_self_eq_true, Bool.true_beq, Bool.false_beq, Int.natCast_add, Int.natCast_one, Int.cast_ofNat_Int, List.map_append, List.map_cons, List.map_nil, List.append_assoc, List.nil_append, ↓d46_eP, wfl_eP, flat_eP, eP_agg', take_cap, take_self, take_map, wfl_nil, pr_eta, List.append_nil, ↓d30_eE, ↓d28_eE, wfl_eE, ↓d54_mk, ↓d47_mk, ↓d31_mk, ↓d56_eS, eE_agg, ev_eta, kI_eI]

theorem doR (m : List Pr) (e : Ev) (hl : m.length ≤ 1000000) (hkl : e.key.length ≤ 20) (hep : e.pairs.length ≤ 1000000) : pcW hcfg 12 [.sl (ePs m), eE e] = some (.tup [.sl (ePs (doE m e).1), .bool (doE m e).2]) := by
  have hle := lb_le m e.key
  have hf := findR m e.key hkl hl
  by_cases h5 : e.kind = 5
  · refine e12_run _ _ _ _ _ _ _ _ (o := .head 0 (T12_0 (ePs m) (lb m e.key) (lb m e.key) e.txn e.kind e.key e.value e.n (ePs e.pairs) e.ok (ePs []))) ?_ ?_
    · have q2 : (e.kind == 2) = false := by rw [h5]; rfl
      have q3 : (e.kind == 3) = false := by rw [h5]; rfl
      have q4 : (e.kind == 4) = false := by rw [h5]; rfl
      have q5 : (e.kind == 5) = true := by rw [h5]; rfl
      simp (disch := omega) only [e12, ↓pcK_of hf, q2, q3, q4, q5, ↓cond_ite, ↓gd_ite, decide_eq_true_eq, Bool.not_eq_true', gd_true, cond_true, cond_false, if_pos, if_neg, if_true, if_false, Bool.false_eq_true, Bool.true_eq_false, toNat_cast, W_i64, List.length_map, List.length_append, List.length_cons, List.length_nil, ↓kB_mk, ↓kI_mk, ↓kS_mk, ↓kL_mk, ↓kA_mk, ↓kT_mk, ↓kF_mk, ↓unc_mk, ↓unn_mk, ↓opt_mk, Bool.not_true, Bool.not_false, Bool.and_true, Bool.true_and, Bool.and_false, Bool.false_and, beq_self_eq_true, Bool.true_beq, Bool.false_beq, Int.natCast_add, Int.natCast_one, Int.cast_ofNat_Int, List.map_append, List.map_cons, List.map_nil, List.append_assoc, List.nil_append, ↓d46_eP, wfl_eP, flat_eP, eP_agg', take_cap, take_self, take_map, wfl_nil, pr_eta, List.append_nil, ↓d30_eE, ↓d28_eE, wfl_eE, ↓d54_mk, ↓d47_mk, ↓d31_mk, ↓d56_eS, eE_agg, ev_eta, kI_eI]
    · have := rdo_loop m e (lb m e.key) hl hep _ (lb m e.key) [] rfl (Nat.le_refl _) hle (by simp)
      have e1 : (doE m e) = (m, e.pairs == (m.drop (lb m e.key)).take e.n.toNat) := by
        unfold doE
        rw [if_neg (by omega), if_neg (by omega), if_neg (by omega), if_pos h5]
        congr 1
        exact BEq.comm
      rw [e1]
      have e2 : (e.n - ((lb m e.key : Int) - (lb m e.key : Int))).toNat = e.n.toNat := by omega
      rw [e2, List.nil_append] at this
      exact this
  refine e12_run _ _ _ _ _ _ _ _ ?_ (.refl _)
  unfold doE
  by_cases h2 : e.kind = 2
  · have q2 : (e.kind == 2) = true := by simpa using h2
    rw [if_pos h2]
    cases hx : has m e.key with
    | true =>
      obtain ⟨p, h1, h3, h4⟩ := has_lt hx
      have hv := valOf_has hx h1
      cases ho : e.ok <;> simp (disch := omega) only [e12, ↓pcK_of hf, q2, hx, ↓idxK_c h1, hv, ho, ↓cond_ite, ↓gd_ite, decide_eq_true_eq, Bool.not_eq_true', gd_true, cond_true, cond_false, if_pos, if_neg, if_true, if_false, Bool.false_eq_true, Bool.true_eq_false, toNat_cast, W_i64, List.length_map, List.length_append, List.length_cons, List.length_nil, ↓kB_mk, ↓kI_mk, ↓kS_mk, ↓kL_mk, ↓kA_mk, ↓kT_mk, ↓kF_mk, ↓unc_mk, ↓unn_mk, ↓opt_mk, Bool.not_true, Bool.not_false, Bool.and_true, Bool.true_and, Bool.and_false, Bool.false_and, beq_self_eq_true, Bool.true_beq, Bool.false_beq, Int.natCast_add, Int.natCast_one, Int.cast_ofNat_Int, List.map_append, List.map_cons, List.map_nil, List.append_assoc, List.nil_append, ↓d46_eP, wfl_eP, flat_eP, eP_agg', take_cap, take_self, take_map, wfl_nil, pr_eta, List.append_nil, ↓d30_eE, ↓d28_eE, wfl_eE, ↓d54_mk, ↓d47_mk, ↓d31_mk, ↓d56_eS, eE_agg, ev_eta, kI_eI]
    | false =>
      have hv := valOf_not hx
      cases ho : e.ok <;> simp (disch := omega) only [e12, ↓pcK_of hf, q2, hx, hv, ho, ↓cond_ite, ↓gd_ite, decide_eq_true_eq, Bool.not_eq_true', gd_true, cond_true, cond_false, if_pos, if_neg, if_true, if_false, Bool.false_eq_true, Bool.true_eq_false, toNat_cast, W_i64, List.length_map, List.length_append, List.length_cons, List.length_nil, ↓kB_mk, ↓kI_mk, ↓kS_mk, ↓kL_mk, ↓kA_mk, ↓kT_mk, ↓kF_mk, ↓unc_mk, ↓unn_mk, ↓opt_mk, Bool.not_true, Bool.not_false, Bool.and_true, Bool.true_and, Bool.and_false, Bool.false_and, beq_self_eq_true, Bool.true_beq, Bool.false_beq, Int.natCast_add, Int.natCast_one, Int.cast_ofNat_Int, List.map_append, List.map_cons, List.map_nil, List.append_assoc, List.nil_append, ↓d46_eP, wfl_eP, flat_eP, eP_agg', take_cap, take_self, take_map, wfl_nil, pr_eta, List.append_nil, ↓d30_eE, ↓d28_eE, wfl_eE, ↓d54_mk, ↓d47_mk, ↓d31_mk, ↓d56_eS, eE_agg, ev_eta, kI_eI]
  have q2 : (e.kind == 2) = false := by simpa using h2
  by_cases h3 : e.kind = 3
  · have q3 : (e.kind == 3) = true := by simpa using h3
    rw [if_neg h2, if_pos h3]
    simp (disch := omega) only [e12, ↓pcK_of hf, q2, q3, ↓pcK_of (layRS m (e.key, e.value) hkl hl), ↓cond_ite, ↓gd_ite, decide_eq_true_eq, Bool.not_eq_true', gd_true, cond_true, cond_false, if_pos, if_neg, if_true, if_false, Bool.false_eq_true, Bool.true_eq_false, toNat_cast, W_i64, List.length_map, List.length_append, List.length_cons, List.length_nil, ↓kB_mk, ↓kI_mk, ↓kS_mk, ↓kL_mk, ↓kA_mk, ↓kT_mk, ↓kF_mk, ↓unc_mk, ↓unn_mk, ↓opt_mk, Bool.not_true, Bool.not_false, Bool.and_true, Bool.true_and, Bool.and_false, Bool.false_and, beq_self_eq_true, Bool.true_beq, Bool.false_beq, Int.natCast_add, Int.natCast_one, Int.cast_ofNat_Int, List.map_append, List.map_cons, List.map_nil, List.append_assoc, List.nil_append, ↓d46_eP, wfl_eP, flat_eP, eP_agg', take_cap, take_self, take_map, wfl_nil, pr_eta, List.append_nil, ↓d30_eE, ↓d28_eE, wfl_eE, ↓d54_mk, ↓d47_mk, ↓d31_mk, ↓d56_eS, eE_agg, ev_eta, kI_eI]
  have q3 : (e.kind == 3) = false := by simpa using h3
  by_cases h4 : e.kind = 4
  · have q4 : (e.kind == 4) = true := by simpa using h4
    rw [if_neg h2, if_neg h3, if_pos h4]
    simp (disch := omega) only [e12, ↓pcK_of hf, q2, q3, q4, ↓pcK_of (cutR m e.key hl), ↓cond_ite, ↓gd_ite, decide_eq_true_eq, Bool.not_eq_true', gd_true, cond_true, cond_false, if_pos, if_neg, if_true, if_false, Bool.false_eq_true, Bool.true_eq_false, toNat_cast, W_i64, List.length_map, List.length_append, List.length_cons, List.length_nil, ↓kB_mk, ↓kI_mk, ↓kS_mk, ↓kL_mk, ↓kA_mk, ↓kT_mk, ↓kF_mk, ↓unc_mk, ↓unn_mk, ↓opt_mk, Bool.not_true, Bool.not_false, Bool.and_true, Bool.true_and, Bool.and_false, Bool.false_and, beq_self_eq_true, Bool.true_beq, Bool.false_beq, Int.natCast_add, Int.natCast_one, Int.cast_ofNat_Int, List.map_append, List.map_cons, List.map_nil, List.append_assoc, List.nil_append, ↓d46_eP, wfl_eP, flat_eP, eP_agg', take_cap, take_self, take_map, wfl_nil, pr_eta, List.append_nil, ↓d30_eE, ↓d28_eE, wfl_eE, ↓d54_mk, ↓d47_mk, ↓d31_mk, ↓d56_eS, eE_agg, ev_eta, kI_eI]
  have q4 : (e.kind == 4) = false := by simpa using h4
  have q5 : (e.kind == 5) = false := by simpa using h5
  rw [if_neg h2, if_neg h3, if_neg h4, if_neg h5]
  simp (disch := omega) only [e12, ↓pcK_of hf, q2, q3, q4, q5, ↓cond_ite, ↓gd_ite, decide_eq_true_eq, Bool.not_eq_true', gd_true, cond_true, cond_false, if_pos, if_neg, if_true, if_false, Bool.false_eq_true, Bool.true_eq_false, toNat_cast, W_i64, List.length_map, List.length_append, List.length_cons, List.length_nil, ↓kB_mk, ↓kI_mk, ↓kS_mk, ↓kL_mk, ↓kA_mk, ↓kT_mk, ↓kF_mk, ↓unc_mk, ↓unn_mk, ↓opt_mk, Bool.not_true, Bool.not_false, Bool.and_true, Bool.true_and, Bool.and_false, Bool.false_and, beq_self_eq_true, Bool.true_beq, Bool.false_beq, Int.natCast_add, Int.natCast_one, Int.cast_ofNat_Int, List.map_append, List.map_cons, List.map_nil, List.append_assoc, List.nil_append, ↓d46_eP, wfl_eP, flat_eP, eP_agg', take_cap, take_self, take_map, wfl_nil, pr_eta, List.append_nil, ↓d30_eE, ↓d28_eE, wfl_eE, ↓d54_mk, ↓d47_mk, ↓d31_mk, ↓d56_eS, eE_agg, ev_eta, kI_eI]

/-! ### spans -/

def eO (o : List (Int × Nat)) : List (V × V) := o.map fun x => (.int .i64 x.1, .int .i64 x.2)
def fnd : List (Int × Nat) → Int → Option Nat
  | [], _ => none
  | (a, x) :: es, k => if k = a then some x else fnd es k
def put : List (Int × Nat) → Int → Nat → List (Int × Nat)
  | [], k, x => [(k, x)]
  | (a, y) :: es, k, x => if k = a then (a, x) :: es else (a, y) :: put es k x
def del : List (Int × Nat) → Int → List (Int × Nat)
  | [], _ => []
  | (a, y) :: es, k => if k = a then es else (a, y) :: del es k
theorem find_eO (o : List (Int × Nat)) (k : Int) : mapFind (eO o) (.int .i64 k) = some ((fnd o k).map fun n => .int .i64 (n : Int)) := by
  induction o with
  | nil => rfl
  | cons x o ih =>
    obtain ⟨a, y⟩ := x
    simp only [eO, List.map_cons, mapFind, eq1, if_true, Option.bind_some, fnd] at ih ⊢
    by_cases h : k = a
    · simp [h]
    · have : (k == a) = false := by simpa using h
      simp only [this, Bool.false_eq_true, if_false, h, ih]
theorem put_eO (o : List (Int × Nat)) (k : Int) (n : Nat) : mapPut (eO o) (.int .i64 k) (.int .i64 n) = some (eO (put o k n)) := by
  induction o with
  | nil => rfl
  | cons x o ih =>
    obtain ⟨a, y⟩ := x
    simp only [eO, List.map_cons, mapPut, eq1, if_true, Option.bind_some, put] at ih ⊢
    by_cases h : k = a
    · simp [h]
    · have : (k == a) = false := by simpa using h
      simp only [this, Bool.false_eq_true, if_false, h, ih, Option.map_some, List.map_cons]
theorem del_eO (o : List (Int × Nat)) (k : Int) : mapDel (eO o) (.int .i64 k) = some (eO (del o k)) := by
  induction o with
  | nil => rfl
  | cons x o ih =>
    obtain ⟨a, y⟩ := x
    simp only [eO, List.map_cons, mapDel, eq1, if_true, Option.bind_some, del] at ih ⊢
    by_cases h : k = a
    · simp [h]
    · have : (k == a) = false := by simpa using h
      simp only [this, Bool.false_eq_true, if_false, h, ih, Option.map_some, List.map_cons]

def step (i : Nat) (e : Ev) (out : List (Nat × Nat)) (op : List (Int × Nat)) : Option (List (Nat × Nat) × List (Int × Nat)) :=
  match fnd op e.txn with
  | none => if e.kind = 1 then some (out, put op e.txn i) else none
  | some a => if e.kind = 6 then some (out ++ [(a, i)], del op e.txn) else if e.kind = 7 then some (out, del op e.txn)
    else if e.kind = 2 ∨ e.kind = 3 ∨ e.kind = 4 ∨ e.kind = 5 then some (out, op) else none
def spansF : Nat → List Ev → List (Nat × Nat) → List (Int × Nat) → Option (List (Nat × Nat))
  | _, [], out, _ => some out
  | i, e :: r, out, op => match step i e out op with
    | some (out, op) => spansF (i + 1) r out op
    | none => none
def spanV : Option (List (Nat × Nat)) → V
  | some out => .tup [.sl (eSs out), .bool true]
  | none => .tup [.sl [], .bool false]
theorem eS_agg (a b : Nat) : V.agg [V.int .i64 (a : Int), V.int .i64 (b : Int)] = eS (a, b) := rfl

theorem kindF {e : Ev} {n : Int} (h : ¬ e.kind = n) : (e.kind == n) = false := by simpa using h
theorem kindT {e : Ev} {n : Int} (h : e.kind = n) : (e.kind == n) = true := by simpa using h

theorem spans_step {l : List Ev} {k : Nat} {e : Ev} (h1 : l[k]? = some e) (hl : l.length ≤ 1000000) (hk : k < l.length) (out : List (Nat × Nat)) (op : List (Int × Nat)) (ho : out.length ≤ k) :
    s32_0 (eEs l) l.length k (eSs out) (eO op) = match step k e out op with
      | some (out, op) => some (.head 0 (T32_0 (eEs l) l.length ((k + 1 : Nat) : Int) (eSs out) (eO op)))
      | none => some (.done (spanV none)) := by
  have hfd := find_eO op e.txn
  unfold step
  cases hf : fnd op e.txn with
  | none =>
    rw [hf] at hfd
    have hm := mfK_none (kn := none) (ks := fun _ => none) hfd
    by_cases c1 : e.kind = 1
    · simp (disch := omega) only [s32_0, ↓idxK_c h1, ↓mfK_none hfd, kindT c1, c1, ↓put_eO, ↓cond_ite, ↓gd_ite, decide_eq_true_eq, Bool.not_eq_true', gd_true, cond_true, cond_false, if_pos, if_neg, if_true, if_false, Bool.false_eq_true, Bool.true_eq_false, toNat_cast, W_i64, List.length_map, List.length_append, List.length_cons, List.length_nil, ↓kB_mk, ↓kI_mk, ↓kS_mk, ↓kL_mk, ↓kA_mk, ↓kT_mk, ↓kF_mk, ↓unc_mk, ↓unn_mk, ↓opt_mk, Bool.not_true, Bool.not_false, Bool.and_true, Bool.true_and, Bool.and_false, Bool.false_and, beq_self_eq_true, Bool.true_beq, Bool.false_beq, Int.natCast_add, Int.natCast_one, Int.cast_ofNat_Int, List.map_append, List.map_cons, List.map_nil, List.append_assoc, List.nil_append, ↓d46_eP, wfl_eP, flat_eP, eP_agg', take_cap, take_self, take_map, wfl_nil, pr_eta, List.append_nil, ↓d30_eE, ↓d28_eE, wfl_eE, ↓d54_mk, ↓d47_mk, ↓d31_mk, ↓d56_eS, eE_agg, ev_eta, kI_eI]
    · simp (disch := omega) only [s32_0, ↓idxK_c h1, ↓mfK_none hfd, kindF c1, c1, spanV, ↓cond_ite, ↓gd_ite, decide_eq_true_eq, Bool.not_eq_true', gd_true, cond_true, cond_false, if_pos, if_neg, if_true, if_false, Bool.false_eq_true, Bool.true_eq_false, toNat_cast, W_i64, List.length_map, List.length_append, List.length_cons, List.length_nil, ↓kB_mk, ↓kI_mk, ↓kS_mk, ↓kL_mk, ↓kA_mk, ↓kT_mk, ↓kF_mk, ↓unc_mk, ↓unn_mk, ↓opt_mk, Bool.not_true, Bool.not_false, Bool.and_true, Bool.true_and, Bool.and_false, Bool.false_and, beq_self_eq_true, Bool.true_beq, Bool.false_beq, Int.natCast_add, Int.natCast_one, Int.cast_ofNat_Int, List.map_append, List.map_cons, List.map_nil, List.append_assoc, List.nil_append, ↓d46_eP, wfl_eP, flat_eP, eP_agg', take_cap, take_self, take_map, wfl_nil, pr_eta, List.append_nil, ↓d30_eE, ↓d28_eE, wfl_eE, ↓d54_mk, ↓d47_mk, ↓d31_mk, ↓d56_eS, eE_agg, ev_eta, kI_eI]
  | some a =>
    rw [hf] at hfd
    simp only [Option.map_some] at hfd
    by_cases c6 : e.kind = 6
    · have c1 : ¬ e.kind = 1 := by omega
      simp (disch := omega) only [s32_0, ↓idxK_c h1, ↓mfK_of hfd, kindF c1, kindT c6, if_pos c6, ↓del_eO, eS_agg, ↓cond_ite, ↓gd_ite, decide_eq_true_eq, Bool.not_eq_true', gd_true, cond_true, cond_false, if_pos, if_neg, if_true, if_false, Bool.false_eq_true, Bool.true_eq_false, toNat_cast, W_i64, List.length_map, List.length_append, List.length_cons, List.length_nil, ↓kB_mk, ↓kI_mk, ↓kS_mk, ↓kL_mk, ↓kA_mk, ↓kT_mk, ↓kF_mk, ↓unc_mk, ↓unn_mk, ↓opt_mk, Bool.not_true, Bool.not_false, Bool.and_true, Bool.true_and, Bool.and_false, Bool.false_and, beq_self_eq_true, Bool.true_beq, Bool.false_beq, Int.natCast_add, Int.natCast_one, Int.cast_ofNat_Int, List.map_append, List.map_cons, List.map_nil, List.append_assoc, List.nil_append, ↓d46_eP, wfl_eP, flat_eP, eP_agg', take_cap, take_self, take_map, wfl_nil, pr_eta, List.append_nil, ↓d30_eE, ↓d28_eE, wfl_eE, ↓d54_mk, ↓d47_mk, ↓d31_mk, ↓d56_eS, eE_agg, ev_eta, kI_eI]
    by_cases c7 : e.kind = 7
    · have c1 : ¬ e.kind = 1 := by omega
      simp (disch := omega) only [s32_0, ↓idxK_c h1, ↓mfK_of hfd, kindF c1, kindF c6, kindT c7, if_neg c6, if_pos c7, ↓del_eO, ↓cond_ite, ↓gd_ite, decide_eq_true_eq, Bool.not_eq_true', gd_true, cond_true, cond_false, if_pos, if_neg, if_true, if_false, Bool.false_eq_true, Bool.true_eq_false, toNat_cast, W_i64, List.length_map, List.length_append, List.length_cons, List.length_nil, ↓kB_mk, ↓kI_mk, ↓kS_mk, ↓kL_mk, ↓kA_mk, ↓kT_mk, ↓kF_mk, ↓unc_mk, ↓unn_mk, ↓opt_mk, Bool.not_true, Bool.not_false, Bool.and_true, Bool.true_and, Bool.and_false, Bool.false_and, beq_self_eq_true, Bool.true_beq, Bool.false_beq, Int.natCast_add, Int.natCast_one, Int.cast_ofNat_Int, List.map_append, List.map_cons, List.map_nil, List.append_assoc, List.nil_append, ↓d46_eP, wfl_eP, flat_eP, eP_agg', take_cap, take_self, take_map, wfl_nil, pr_eta, List.append_nil, ↓d30_eE, ↓d28_eE, wfl_eE, ↓d54_mk, ↓d47_mk, ↓d31_mk, ↓d56_eS, eE_agg, ev_eta, kI_eI]
    by_cases c1 : e.kind = 1
    · have : ¬ (e.kind = 2 ∨ e.kind = 3 ∨ e.kind = 4 ∨ e.kind = 5) := by omega
      simp (disch := omega) only [s32_0, ↓idxK_c h1, ↓mfK_of hfd, kindT c1, if_neg c6, if_neg c7, if_neg this, spanV, ↓cond_ite, ↓gd_ite, decide_eq_true_eq, Bool.not_eq_true', gd_true, cond_true, cond_false, if_pos, if_neg, if_true, if_false, Bool.false_eq_true, Bool.true_eq_false, toNat_cast, W_i64, List.length_map, List.length_append, List.length_cons, List.length_nil, ↓kB_mk, ↓kI_mk, ↓kS_mk, ↓kL_mk, ↓kA_mk, ↓kT_mk, ↓kF_mk, ↓unc_mk, ↓unn_mk, ↓opt_mk, Bool.not_true, Bool.not_false, Bool.and_true, Bool.true_and, Bool.and_false, Bool.false_and, beq_self_eq_true, Bool.true_beq, Bool.false_beq, Int.natCast_add, Int.natCast_one, Int.cast_ofNat_Int, List.map_append, List.map_cons, List.map_nil, List.append_assoc, List.nil_append, ↓d46_eP, wfl_eP, flat_eP, eP_agg', take_cap, take_self, take_map, wfl_nil, pr_eta, List.append_nil, ↓d30_eE, ↓d28_eE, wfl_eE, ↓d54_mk, ↓d47_mk, ↓d31_mk, ↓d56_eS, eE_agg, ev_eta, kI_eI]
    by_cases c2 : e.kind = 2
    · have : (e.kind = 2 ∨ e.kind = 3 ∨ e.kind = 4 ∨ e.kind = 5) := by omega
      simp (disch := omega) only [s32_0, ↓idxK_c h1, ↓mfK_of hfd, kindF c1, kindF c6, kindF c7, kindT c2, if_neg c6, if_neg c7, if_pos this, ↓cond_ite, ↓gd_ite, decide_eq_true_eq, Bool.not_eq_true', gd_true, cond_true, cond_false, if_pos, if_neg, if_true, if_false, Bool.false_eq_true, Bool.true_eq_false, toNat_cast, W_i64, List.length_map, List.length_append, List.length_cons, List.length_nil, ↓kB_mk, ↓kI_mk, ↓kS_mk, ↓kL_mk, ↓kA_mk, ↓kT_mk, ↓kF_mk, ↓unc_mk, ↓unn_mk, ↓opt_mk, Bool.not_true, Bool.not_false, Bool.and_true, Bool.true_and, Bool.and_false, Bool.false_and, beq_self_eq_true, Bool.true_beq, Bool.false_beq, Int.natCast_add, Int.natCast_one, Int.cast_ofNat_Int, List.map_append, List.map_cons, List.map_nil, List.append_assoc, List.nil_append, ↓d46_eP, wfl_eP, flat_eP, eP_agg', take_cap, take_self, take_map, wfl_nil, pr_eta, List.append_nil, ↓d30_eE, ↓d28_eE, wfl_eE, ↓d54_mk, ↓d47_mk, ↓d31_mk, ↓d56_eS, eE_agg, ev_eta, kI_eI]
    by_cases c3 : e.kind = 3
    · have : (e.kind = 2 ∨ e.kind = 3 ∨ e.kind = 4 ∨ e.kind = 5) := by omega
      simp (disch := omega) only [s32_0, ↓idxK_c h1, ↓mfK_of hfd, kindF c1, kindF c6, kindF c7, kindF c2, kindT c3, if_neg c6, if_neg c7, if_pos this, ↓cond_ite, ↓gd_ite, decide_eq_true_eq, Bool.not_eq_true', gd_true, cond_true, cond_false, if_pos, if_neg, if_true, if_false, Bool.false_eq_true, Bool.true_eq_false, toNat_cast, W_i64, List.length_map, List.length_append, List.length_cons, List.length_nil, ↓kB_mk, ↓kI_mk, ↓kS_mk, ↓kL_mk, ↓kA_mk, ↓kT_mk, ↓kF_mk, ↓unc_mk, ↓unn_mk, ↓opt_mk, Bool.not_true, Bool.not_false, Bool.and_true, Bool.true_and, Bool.and_false, Bool.false_and, beq_self_eq_true, Bool.true_beq, Bool.false_beq, Int.natCast_add, Int.natCast_one, Int.cast_ofNat_Int, List.map_append, List.map_cons, List.map_nil, List.append_assoc, List.nil_append, ↓d46_eP, wfl_eP, flat_eP, eP_agg', take_cap, take_self, take_map, wfl_nil, pr_eta, List.append_nil, ↓d30_eE, ↓d28_eE, wfl_eE, ↓d54_mk, ↓d47_mk, ↓d31_mk, ↓d56_eS, eE_agg, ev_eta, kI_eI]
    by_cases c4 : e.kind = 4
    · have : (e.kind = 2 ∨ e.kind = 3 ∨ e.kind = 4 ∨ e.kind = 5) := by omega
      simp (disch := omega) only [s32_0, ↓idxK_c h1, ↓mfK_of hfd, kindF c1, kindF c6, kindF c7, kindF c2, kindF c3, kindT c4, if_neg c6, if_neg c7, if_pos this, ↓cond_ite, ↓gd_ite, decide_eq_true_eq, Bool.not_eq_true', gd_true, cond_true, cond_false, if_pos, if_neg, if_true, if_false, Bool.false_eq_true, Bool.true_eq_false, toNat_cast, W_i64, List.length_map, List.length_append, List.length_cons, List.length_nil, ↓kB_mk, ↓kI_mk, ↓kS_mk, ↓kL_mk, ↓kA_mk, ↓kT_mk, ↓kF_mk, ↓unc_mk, ↓unn_mk, ↓opt_mk, Bool.not_true, Bool.not_false, Bool.and_true, Bool.true_and, Bool.and_false, Bool.false_and, beq_self_eq_true, Bool.true_beq, Bool.false_beq, Int.natCast_add, Int.natCast_one, Int.cast_ofNat_Int, List.map_append, List.map_cons, List.map_nil, List.append_assoc, List.nil_append, ↓d46_eP, wfl_eP, flat_eP, eP_agg', take_cap, take_self, take_map, wfl_nil, pr_eta, List.append_nil, ↓d30_eE, ↓d28_eE, wfl_eE, ↓d54_mk, ↓d47_mk, ↓d31_mk, ↓d56_eS, eE_agg, ev_eta, kI_eI]
    by_cases c5 : e.kind = 5
    · have : (e.kind = 2 ∨ e.kind = 3 ∨ e.kind = 4 ∨ e.kind = 5) := by omega
      simp (disch := omega) only [s32_0, ↓idxK_c h1, ↓mfK_of hfd, kindF c1, kindF c6, kindF c7, kindF c2, kindF c3, kindF c4, kindT c5, if_neg c6, if_neg c7, if_pos this, ↓cond_ite, ↓gd_ite, decide_eq_true_eq, Bool.not_eq_true', gd_true, cond_true, cond_false, if_pos, if_neg, if_true, if_false, Bool.false_eq_true, Bool.true_eq_false, toNat_cast, W_i64, List.length_map, List.length_append, List.length_cons, List.length_nil, ↓kB_mk, ↓kI_mk, ↓kS_mk, ↓kL_mk, ↓kA_mk, ↓kT_mk, ↓kF_mk, ↓unc_mk, ↓unn_mk, ↓opt_mk, Bool.not_true, Bool.not_false, Bool.and_true, Bool.true_and, Bool.and_false, Bool.false_and, beq_self_eq_true, Bool.true_beq, Bool.false_beq, Int.natCast_add, Int.natCast_one, Int.cast_ofNat_Int, List.map_append, List.map_cons, List.map_nil, List.append_assoc, List.nil_append, ↓d46_eP, wfl_eP, flat_eP, eP_agg', take_cap, take_self, take_map, wfl_nil, pr_eta, List.append_nil, ↓d30_eE, ↓d28_eE, wfl_eE, ↓d54_mk, ↓d47_mk, ↓d31_mk, ↓d56_eS, eE_agg, ev_eta, kI_eI]
    · have : ¬ (e.kind = 2 ∨ e.kind = 3 ∨ e.kind = 4 ∨ e.kind = 5) := by omega
      simp (disch := omega) only [s32_0, ↓idxK_c h1, ↓mfK_of hfd, kindF c1, kindF c6, kindF c7, kindF c2, kindF c3, kindF c4, kindF c5, if_neg c6, if_neg c7, if_neg this, spanV, ↓cond_ite, ↓gd_ite, decide_eq_true_eq, Bool.not_eq_true', gd_true, cond_true, cond_false, if_pos, if_neg, if_true, if_false, Bool.false_eq_true, Bool.true_eq_false, toNat_cast, W_i64, List.length_map, List.length_append, List.length_cons, List.length_nil, ↓kB_mk, ↓kI_mk, ↓kS_mk, ↓kL_mk, ↓kA_mk, ↓kT_mk, ↓kF_mk, ↓unc_mk, ↓unn_mk, ↓opt_mk, Bool.not_true, Bool.not_false, Bool.and_true, Bool.true_and, Bool.and_false, Bool.false_and, beq_self_eq_true, Bool.true_beq, Bool.false_beq, Int.natCast_add, Int.natCast_one, Int.cast_ofNat_Int, List.map_append, List.map_cons, List.map_nil, List.append_assoc, List.nil_append, ↓d46_eP, wfl_eP, flat_eP, eP_agg', take_cap, take_self, take_map, wfl_nil, pr_eta, List.append_nil, ↓d30_eE, ↓d28_eE, wfl_eE, ↓d54_mk, ↓d47_mk, ↓d31_mk, ↓d56_eS, eE_agg, ev_eta, kI_eI]

theorem step_len {i : Nat} {e : Ev} {out out' : List (Nat × Nat)} {op op' : List (Int × Nat)} (h : step i e out op = some (out', op')) : out'.length ≤ out.length + 1 := by
  unfold step at h
  split at h
  · split at h
    · cases h; omega
    · cases h
  · split at h
    · cases h; simp
    · split at h
      · cases h; omega
      · split at h
        · cases h; omega
        · cases h

theorem spans_loop (l : List Ev) (hl : l.length ≤ 1000000) : ∀ (r : List Ev) (k : Nat) (out : List (Nat × Nat)) (op : List (Int × Nat)), l.drop k = r → out.length ≤ k → k ≤ l.length →
    Go hk false 0 fa32 (.head 0 (T32_0 (eEs l) l.length k (eSs out) (eO op))) (.done (spanV (spansF k r out op))) := by
  intro r
  induction r with
  | nil =>
    intro k out op hr ho hk
    have h1 := drop_nil hr
    refine s32_0_run _ _ _ _ _ ?_ (.refl _)
    simp (disch := omega) only [s32_0, spansF, spanV, ↓cond_ite, ↓gd_ite, decide_eq_true_eq, Bool.not_eq_true', gd_true, cond_true, cond_false, if_pos, if_neg, if_true, if_false, Bool.false_eq_true, Bool.true_eq_false, toNat_cast, W_i64, List.length_map, List.length_append, List.length_cons, List.length_nil, ↓kB_mk, ↓kI_mk, ↓kS_mk, ↓kL_mk, ↓kA_mk, ↓kT_mk, ↓kF_mk, ↓unc_mk, ↓unn_mk, ↓opt_mk, Bool.not_true, Bool.not_false, Bool.and_true, Bool.true_and, Bool.and_false, Bool.false_and, beq_self_eq_true, Bool.true_beq, Bool.false_beq, Int.natCast_add, Int.natCast_one, Int.cast_ofNat_Int, List.map_append, List.map_cons, List.map_nil, List.append_assoc, List.nil_append, ↓d46_eP, wfl_eP, flat_eP, eP_agg', take_cap, take_self, take_map, wfl_nil, pr_eta, List.append_nil, ↓d30_eE, ↓d28_eE, wfl_eE, ↓d54_mk, ↓d47_mk, ↓d31_mk, ↓d56_eS, eE_agg, ev_eta, kI_eI]
  | cons x r ih =>
    intro k out op hr ho hk
    obtain ⟨h1, h2, h3⟩ := drop_cons hr
    have hst := spans_step h1 hl h3 out op ho
    unfold spansF
    cases hs : step k x out op with
    | none =>
      rw [hs] at hst
      exact s32_0_run _ _ _ _ _ hst (.refl _)
    | some q =>
      obtain ⟨out', op'⟩ := q
      rw [hs] at hst
      have := step_len hs
      exact s32_0_run _ _ _ _ _ hst (ih (k + 1) out' op' h2 (by omega) (by omega))
def spanOf (l : List Ev) : Option (List (Nat × Nat)) := spansF 0 l [] []
theorem spans (l : List Ev) (hl : l.length ≤ 1000000) : pcW hcfg 32 [.sl (eEs l)] = some (spanV (spanOf l)) := by
  refine e32_run _ (o := .head 0 (T32_0 (eEs l) l.length ((0 : Nat) : Int) (eSs []) (eO []))) ?_ (spans_loop l hl l 0 [] [] rfl (by simp) (Nat.zero_le _))
  simp (disch := omega) only [e32, ↓cond_ite, ↓gd_ite, decide_eq_true_eq, Bool.not_eq_true', gd_true, cond_true, cond_false, if_pos, if_neg, if_true, if_false, Bool.false_eq_true, Bool.true_eq_false, toNat_cast, W_i64, List.length_map, List.length_append, List.length_cons, List.length_nil, ↓kB_mk, ↓kI_mk, ↓kS_mk, ↓kL_mk, ↓kA_mk, ↓kT_mk, ↓kF_mk, ↓unc_mk, ↓unn_mk, ↓opt_mk, Bool.not_true, Bool.not_false, Bool.and_true, Bool.true_and, Bool.and_false, Bool.false_and, beq_self_eq_true, Bool.true_beq, Bool.false_beq, Int.natCast_add, Int.natCast_one, Int.cast_ofNat_Int, List.map_append, List.map_cons, List.map_nil, List.append_assoc, List.nil_append, ↓d46_eP, wfl_eP, flat_eP, eP_agg', take_cap, take_self, take_map, wfl_nil, pr_eta, List.append_nil, ↓d30_eE, ↓d28_eE, wfl_eE, ↓d54_mk, ↓d47_mk, ↓d31_mk, ↓d56_eS, eE_agg, ev_eta, kI_eI]
  rfl
theorem right (l : List Ev) (hl : l.length ≤ 1000000) : pcW hcfg 16 [.sl (eEs l)] = some (.bool (spanOf l).isSome) := by
  refine e16_done _ ?_
  have h := spans l hl
  cases hs : spanOf l <;> rw [hs, spanV] at h <;> simp (disch := omega) only [e16, ↓pcK_of h, Option.isSome_none, Option.isSome_some, ↓cond_ite, ↓gd_ite, decide_eq_true_eq, Bool.not_eq_true', gd_true, cond_true, cond_false, if_pos, if_neg, if_true, if_false, Bool.false_eq_true, Bool.true_eq_false, toNat_cast, W_i64, List.length_map, List.length_append, List.length_cons, List.length_nil, ↓kB_mk, ↓kI_mk, ↓kS_mk, ↓kL_mk, ↓kA_mk, ↓kT_mk, ↓kF_mk, ↓unc_mk, ↓unn_mk, ↓opt_mk, Bool.not_true, Bool.not_false, Bool.and_true, Bool.true_and, Bool.and_false, Bool.false_and, beq_self_eq_true, Bool.true_beq, Bool.false_beq, Int.natCast_add, Int.natCast_one, Int.cast_ofNat_Int, List.map_append, List.map_cons, List.map_nil, List.append_assoc, List.nil_append, ↓d46_eP, wfl_eP, flat_eP, eP_agg', take_cap, take_self, take_map, wfl_nil, pr_eta, List.append_nil, ↓d30_eE, ↓d28_eE, wfl_eE, ↓d54_mk, ↓d47_mk, ↓d31_mk, ↓d56_eS, eE_agg, ev_eta, kI_eI]

theorem committed_loop (o : List (Nat × Nat)) (ho : o.length ≤ 1000000) : ∀ (r : List (Nat × Nat)) (k : Nat) (acc : List Nat), o.drop k = r → acc.length = k → k ≤ o.length →
    Go hk false 0 fa19 (.head 0 (T19_0 (eSs o) o.length k (eIs acc))) (.done (.fr 3 (eIs (acc ++ r.map (·.1))))) := by
  intro r
  induction r with
  | nil =>
    intro k acc hr ha hk
    have h1 := drop_nil hr
    have f : ((eIs acc).all fun x => x.cells.all V.flat1) = true := flat_map fun _ => rfl
    refine s19_0_run _ _ _ _ ?_ (.refl _)
    simp (disch := omega) only [s19_0, f, ↓cond_ite, ↓gd_ite, decide_eq_true_eq, Bool.not_eq_true', gd_true, cond_true, cond_false, if_pos, if_neg, if_true, if_false, Bool.false_eq_true, Bool.true_eq_false, toNat_cast, W_i64, List.length_map, List.length_append, List.length_cons, List.length_nil, ↓kB_mk, ↓kI_mk, ↓kS_mk, ↓kL_mk, ↓kA_mk, ↓kT_mk, ↓kF_mk, ↓unc_mk, ↓unn_mk, ↓opt_mk, Bool.not_true, Bool.not_false, Bool.and_true, Bool.true_and, Bool.and_false, Bool.false_and, beq_self_eq_true, Bool.true_beq, Bool.false_beq, Int.natCast_add, Int.natCast_one, Int.cast_ofNat_Int, List.map_append, List.map_cons, List.map_nil, List.append_assoc, List.nil_append, ↓d46_eP, wfl_eP, flat_eP, eP_agg', take_cap, take_self, take_map, wfl_nil, pr_eta, List.append_nil, ↓d30_eE, ↓d28_eE, wfl_eE, ↓d54_mk, ↓d47_mk, ↓d31_mk, ↓d56_eS, eE_agg, ev_eta, kI_eI]
  | cons x r ih =>
    intro k acc hr ha hk
    obtain ⟨h1, h2, h3⟩ := drop_cons hr
    refine s19_0_run _ _ _ _ (o := .head 0 (T19_0 (eSs o) o.length ((k + 1 : Nat) : Int) (eIs (acc ++ [x.1])))) ?_ ?_
    · simp (disch := omega) only [s19_0, ↓idxK_c h1, idxK_map h1, eI, ↓cond_ite, ↓gd_ite, decide_eq_true_eq, Bool.not_eq_true', gd_true, cond_true, cond_false, if_pos, if_neg, if_true, if_false, Bool.false_eq_true, Bool.true_eq_false, toNat_cast, W_i64, List.length_map, List.length_append, List.length_cons, List.length_nil, ↓kB_mk, ↓kI_mk, ↓kS_mk, ↓kL_mk, ↓kA_mk, ↓kT_mk, ↓kF_mk, ↓unc_mk, ↓unn_mk, ↓opt_mk, Bool.not_true, Bool.not_false, Bool.and_true, Bool.true_and, Bool.and_false, Bool.false_and, beq_self_eq_true, Bool.true_beq, Bool.false_beq, Int.natCast_add, Int.natCast_one, Int.cast_ofNat_Int, List.map_append, List.map_cons, List.map_nil, List.append_assoc, List.nil_append, ↓d46_eP, wfl_eP, flat_eP, eP_agg', take_cap, take_self, take_map, wfl_nil, pr_eta, List.append_nil, ↓d30_eE, ↓d28_eE, wfl_eE, ↓d54_mk, ↓d47_mk, ↓d31_mk, ↓d56_eS, eE_agg, ev_eta, kI_eI]
    · have := ih (k + 1) (acc ++ [x.1]) h2 (by simp [ha]) (by omega)
      simpa using this
def comOf (l : List Ev) : List Nat := ((spanOf l).getD []).map (·.1)
theorem spansF_len : ∀ (r : List Ev) (k : Nat) (out out' : List (Nat × Nat)) (op : List (Int × Nat)), spansF k r out op = some out' → out'.length ≤ out.length + r.length := by
  intro r
  induction r with
  | nil => intro k out out' op h; cases h; simp
  | cons x r ih =>
    intro k out out' op h
    unfold spansF at h
    cases hs : step k x out op with
    | none => rw [hs] at h; cases h
    | some q =>
      rw [hs] at h
      have h1 := step_len (out' := q.1) (op' := q.2) hs
      have h2 := ih _ _ _ _ h
      simp only [List.length_cons]; omega
theorem committed (l : List Ev) (hl : l.length ≤ 1000000) : pcW hcfg 19 [.sl (eEs l)] = some (.fr 3 (eIs (comOf l))) := by
  have h := spans l hl
  cases hs : spanOf l with
  | none =>
    rw [hs] at h
    refine e19_run _ (o := .head 0 (T19_0 (eSs []) (([] : List (Nat × Nat)).length : Int) ((0 : Nat) : Int) (eIs []))) ?_ ?_
    · simp (disch := omega) only [e19, ↓pcK_of h, spanV, ↓cond_ite, ↓gd_ite, decide_eq_true_eq, Bool.not_eq_true', gd_true, cond_true, cond_false, if_pos, if_neg, if_true, if_false, Bool.false_eq_true, Bool.true_eq_false, toNat_cast, W_i64, List.length_map, List.length_append, List.length_cons, List.length_nil, ↓kB_mk, ↓kI_mk, ↓kS_mk, ↓kL_mk, ↓kA_mk, ↓kT_mk, ↓kF_mk, ↓unc_mk, ↓unn_mk, ↓opt_mk, Bool.not_true, Bool.not_false, Bool.and_true, Bool.true_and, Bool.and_false, Bool.false_and, beq_self_eq_true, Bool.true_beq, Bool.false_beq, Int.natCast_add, Int.natCast_one, Int.cast_ofNat_Int, List.map_append, List.map_cons, List.map_nil, List.append_assoc, List.nil_append, ↓d46_eP, wfl_eP, flat_eP, eP_agg', take_cap, take_self, take_map, wfl_nil, pr_eta, List.append_nil, ↓d30_eE, ↓d28_eE, wfl_eE, ↓d54_mk, ↓d47_mk, ↓d31_mk, ↓d56_eS, eE_agg, ev_eta, kI_eI]
    · simpa [comOf, hs] using committed_loop [] (by simp) [] 0 [] rfl rfl (Nat.zero_le _)
  | some o =>
    rw [hs] at h
    have ho := spansF_len _ _ _ _ _ hs
    refine e19_run _ (o := .head 0 (T19_0 (eSs o) o.length ((0 : Nat) : Int) (eIs []))) ?_ ?_
    · simp (disch := omega) only [e19, ↓pcK_of h, spanV, ↓cond_ite, ↓gd_ite, decide_eq_true_eq, Bool.not_eq_true', gd_true, cond_true, cond_false, if_pos, if_neg, if_true, if_false, Bool.false_eq_true, Bool.true_eq_false, toNat_cast, W_i64, List.length_map, List.length_append, List.length_cons, List.length_nil, ↓kB_mk, ↓kI_mk, ↓kS_mk, ↓kL_mk, ↓kA_mk, ↓kT_mk, ↓kF_mk, ↓unc_mk, ↓unn_mk, ↓opt_mk, Bool.not_true, Bool.not_false, Bool.and_true, Bool.true_and, Bool.and_false, Bool.false_and, beq_self_eq_true, Bool.true_beq, Bool.false_beq, Int.natCast_add, Int.natCast_one, Int.cast_ofNat_Int, List.map_append, List.map_cons, List.map_nil, List.append_assoc, List.nil_append, ↓d46_eP, wfl_eP, flat_eP, eP_agg', take_cap, take_self, take_map, wfl_nil, pr_eta, List.append_nil, ↓d30_eE, ↓d28_eE, wfl_eE, ↓d54_mk, ↓d47_mk, ↓d31_mk, ↓d56_eS, eE_agg, ev_eta, kI_eI]
    · simp only [List.length_nil] at ho
      simpa [comOf, hs] using committed_loop o (by omega) o 0 [] rfl rfl (Nat.zero_le _)

end Go.Proofs.Ythojkngbpcjicaa
