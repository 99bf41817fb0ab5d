/-
  HistOne, at the interpreter.
-/
import Derived.Test.YthojkngbpcjicaaH8
namespace Go.Proofs.Ythojkngbpcjicaa
open Go Go.Lite
set_option linter.unusedSimpArgs false
set_option linter.unusedVariables false

def begE : Ev := ⟨1, 1, [], [], 0, [], false⟩
def comE : Ev := ⟨1, 6, [], [], 0, [], false⟩

theorem coms_none (l : List Ev) : ∀ (r : List Ev) (k : Nat), (∀ e ∈ r, e.kind ≠ 6) → coms l k r = [] := by
  intro r
  induction r with
  | nil => intro k _; rfl
  | cons e r ih => intro k h; unfold coms; rw [if_neg (h e (by simp))]; exact ih _ fun e he => h e (by simp [he])
theorem coms_append (l : List Ev) : ∀ (r s : List Ev) (k : Nat), coms l k (r ++ s) = coms l k r ++ coms l (k + r.length) s := by
  intro r
  induction r with
  | nil => intro s k; rfl
  | cons e r ih =>
    intro s k
    simp only [List.cons_append, coms, ih, List.length_cons]
    rw [show k + 1 + r.length = k + (r.length + 1) by omega]
    split <;> rfl

/-- a row of one transaction -/
structure OneRow (l : List Ev) : Prop where
  zero : l[0]? = some begE
  txn : ∀ e ∈ l, e.txn = 1
  kind : ∀ k e, 1 ≤ k → l[k]? = some e → 2 ≤ e.kind ∧ e.kind ≤ 7 ∧ (k + 1 < l.length → e.kind ≤ 5)

theorem one_back {l : List Ev} (h : OneRow l) {k : Nat} {e : Ev} (he : l[k]? = some e) : closedAt l 1 (k + 1) = decide (e.kind ≥ 6) := by
  rw [closed_succ he, if_pos (h.txn e (List.mem_of_getElem? he))]

theorem one_right {l : List Ev} (h : OneRow l) : ∀ (r : List Ev) (k : Nat), l.drop k = r → rightF l k r = true := by
  intro r
  induction r with
  | nil => intro k _; rfl
  | cons x r ih =>
    intro k hr
    obtain ⟨h1, h2, h3⟩ := drop_cons hr
    unfold rightF okAt
    rw [ih _ h2, h.txn x (List.mem_of_getElem? h1)]
    cases k with
    | zero =>
      rw [h.zero] at h1
      cases h1
      rfl
    | succ k =>
      obtain ⟨a1, a2, _⟩ := h.kind _ _ (by omega) h1
      have hk : l[k]? = some l[k] := List.getElem?_eq_getElem (by omega)
      rw [one_back h hk]
      have : l[k].kind ≤ 5 := by
        cases k with
        | zero => rw [Option.some.inj (hk.symm.trans h.zero)]; decide
        | succ k => exact (h.kind _ _ (by omega) hk).2.2 (by omega)
      rw [decide_eq_true (show 1 ≤ x.kind by omega), decide_eq_true a2, decide_eq_false (show ¬ l[k].kind ≥ 6 by omega), show (x.kind == 1) = false by simpa using (by omega : ¬ x.kind = 1)]
      rfl

theorem one_begun {l : List Ev} (h : OneRow l) : ∀ k, k + 1 ≤ l.length → begun l 1 (k + 1) = some 0 := by
  intro k
  induction k with
  | zero => intro _; rw [begun_succ h.zero]; rfl
  | succ k ih =>
    intro hk
    have he : l[k + 1]? = some l[k + 1] := List.getElem?_eq_getElem (by omega)
    have := h.kind _ _ (by omega) he
    rw [begun_succ he, if_neg (by omega)]
    exact ih (by omega)

def mid (e : Ev) : Prop := e.txn = 1 ∧ 2 ≤ e.kind ∧ e.kind ≤ 5

theorem oneRow_open {es : List Ev} (h : ∀ e ∈ es, mid e) : OneRow (begE :: es) := by
  refine ⟨rfl, fun e he => ?_, fun k e hk he => ?_⟩
  · simp only [List.mem_cons] at he
    rcases he with rfl | he
    · rfl
    · exact (h e he).1
  · obtain ⟨k, rfl⟩ : ∃ j, k = j + 1 := ⟨k - 1, by omega⟩
    simp only [List.getElem?_cons_succ] at he
    have := h e (List.mem_of_getElem? he)
    exact ⟨this.2.1, by have := this.2.2; omega, fun _ => this.2.2⟩
theorem oneRow_done {es : List Ev} (h : ∀ e ∈ es, mid e) : OneRow (begE :: (es ++ [comE])) := by
  refine ⟨rfl, fun e he => ?_, fun k e hk he => ?_⟩
  · simp only [List.mem_cons, List.mem_append, List.not_mem_nil, or_false] at he
    rcases he with rfl | he | rfl
    · rfl
    · exact (h e he).1
    · rfl
  · obtain ⟨k, rfl⟩ : ∃ j, k = j + 1 := ⟨k - 1, by omega⟩
    simp only [List.getElem?_cons_succ] at he
    by_cases hkl : k < es.length
    · rw [List.getElem?_append_left hkl] at he
      have := h e (List.mem_of_getElem? he)
      exact ⟨this.2.1, by have := this.2.2; omega, fun _ => this.2.2⟩
    · rw [List.getElem?_append_right (by omega)] at he
      have hz : k - es.length = 0 := by
        have := (List.getElem?_eq_some_iff.1 he).1
        simp at this; omega
      rw [hz] at he
      cases he
      exact ⟨by decide, by decide, fun hh => by simp at hh; omega⟩

theorem runE_beg (s : List Pr × Bool) : runE 1 s begE = s := by
  unfold runE doE begE
  simp
theorem runE_com (s : List Pr × Bool) : runE 1 s comE = s := by
  unfold runE doE comE
  simp

theorem one_open {es : List Ev} (h : ∀ e ∈ es, mid e) (m : List Pr) : serV (begE :: es) m = .tup [.sl (ePs m), .bool true] := by
  have hr := oneRow_open h
  unfold serV serL
  rw [if_pos (one_right hr (begE :: es) 0 rfl), coms_none _ _ _ (fun e he => by
    simp only [List.mem_cons] at he
    rcases he with rfl | he
    · decide
    · have := (h e he).2.2; omega)]
  rfl

theorem one_done {es : List Ev} (h : ∀ e ∈ es, mid e) (m : List Pr) : serV (begE :: (es ++ [comE])) m = .tup [.sl (ePs (es.foldl (runE 1) (m, true)).1), .bool (es.foldl (runE 1) (m, true)).2] := by
  have hr := oneRow_done h
  have hc : coms (begE :: (es ++ [comE])) 0 (begE :: (es ++ [comE])) = [(0, es.length + 1)] := by
    generalize hL : begE :: (es ++ [comE]) = L at hr
    have e1 : coms L 0 L = coms L 0 ((begE :: es) ++ [comE]) := by rw [← hL]; rfl
    have hb := one_begun hr (es.length + 1) (by rw [← hL]; simp)
    rw [e1, coms_append, coms_none _ _ _ (fun e he => by
      simp only [List.mem_cons] at he
      rcases he with rfl | he
      · decide
      · have := (h e he).2.2; omega)]
    simp only [List.length_cons, Nat.zero_add, coms, List.nil_append]
    rw [if_pos (by decide), show comE.txn = 1 from rfl, hb]
    rfl
  have hx : rangeOf (begE :: (es ++ [comE])) (0, es.length + 1) = begE :: (es ++ [comE]) := by
    unfold rangeOf
    rw [List.drop_zero]
    exact List.take_of_length_le (by simp)
  have ht : txOf (begE :: (es ++ [comE])) (es.length + 1) = 1 := by
    unfold txOf
    rw [List.getElem?_cons_succ, List.getElem?_append_right (Nat.le_refl _), Nat.sub_self]
    rfl
  have hser : serL (begE :: (es ++ [comE])) m = es.foldl (runE 1) (m, true) := by
    unfold serL
    rw [hc]
    simp only [List.foldl_cons, List.foldl_nil, serE]
    rw [hx, ht, List.foldl_cons, runE_beg, List.foldl_append, List.foldl_cons, List.foldl_nil, runE_com]
  unfold serV
  rw [if_pos (one_right hr (begE :: (es ++ [comE])) 0 rfl), hser]

theorem one_loop (m : List Pr) (hs : Sorted m) (hm : m.length ≤ 20) (l : List Ev) (hl : l.length ≤ 60) : ∀ (r : List Ev) (k : Nat) (es : List Ev), l.drop k = r → k ≤ 58 → k ≤ l.length → (∀ e ∈ es, mid e) → es.length ≤ k →
    Go hk false 0 fa6 (.head 0 (T6_0 (ePs m) (eEs l) (ePs (es.foldl (runE 1) (m, true)).1) (es.foldl (runE 1) (m, true)).2 k (eEs (begE :: es)))) (.done (.bool true)) := by
  have fin : ∀ (k : Nat) (es : List Ev), k ≤ 58 → (∀ e ∈ es, mid e) → es.length ≤ k → (k = 58 ∨ l.length ≤ k) →
      Go hk false 0 fa6 (.head 0 (T6_0 (ePs m) (eEs l) (ePs (es.foldl (runE 1) (m, true)).1) (es.foldl (runE 1) (m, true)).2 k (eEs (begE :: es)))) (.done (.bool true)) := by
    intro k es hk8 hes hle hend
    obtain ⟨f1, f2⟩ := fold_ok 1 es (m, true) hs
    have a1 := serial m (begE :: es) (by simp only [List.length_cons]; omega) hs (by omega)
    have a2 := serial m (begE :: (es ++ [comE])) (by simp only [List.length_cons, List.length_append, List.length_nil]; omega) hs (by omega)
    rw [one_open hes] at a1
    rw [one_done hes] at a2
    simp only at f2
    have a3 := alike m m (by omega)
    have a4 := alike (es.foldl (runE 1) (m, true)).1 (es.foldl (runE 1) (m, true)).1 (by omega)
    rw [beq_self_eq_true] at a3 a4
    have hce : (V.agg [V.int .i64 1, V.int .i64 6, V.str [], V.str [], V.int .i64 0, V.sl [], V.bool false]) = eE comE := rfl
    have hre : eEs (begE :: es) ++ [eE comE] = eEs (begE :: (es ++ [comE])) := by simp
    have hlen : (eEs (begE :: es)).length = es.length + 1 := by simp
    have hb : ((es.foldl (runE 1) (m, true)).2 == (es.foldl (runE 1) (m, true)).2) = true := by simp
    refine s6_0_run _ _ _ _ _ _ ?_ (.refl _)
    generalize es.foldl (runE 1) (m, true) = s at *
    generalize hE : eEs (begE :: es) = E at *
    generalize hE2 : eEs (begE :: (es ++ [comE])) = E2 at *
    rcases hend with rfl | hend
    · simp (disch := omega) only [s6_0, hce, hre, hlen, ↓pcK_of a1, ↓pcK_of a2, ↓pcK_of a3, ↓pcK_of a4, hb, ↓pcK_of fixed, ite_self, ↓cond_ite, ↓gd_ite, decide_eq_true_eq, Bool.not_eq_true', gd_true, cond_true, cond_false, if_pos, if_neg, if_true, if_false, Bool.false_eq_true, Bool.true_eq_false, toNat_cast, W_i64, List.length_map, List.length_append, List.length_cons, List.length_nil, ↓kB_mk, ↓kI_mk, ↓kS_mk, ↓kL_mk, ↓kA_mk, ↓kT_mk, ↓kF_mk, ↓unc_mk, ↓unn_mk, ↓opt_mk, Bool.not_true, Bool.not_false, Bool.and_true, Bool.true_and, Bool.and_false, Bool.false_and, beq_self_eq_true, Bool.true_beq, Bool.false_beq, Int.natCast_add, Int.natCast_one, Int.cast_ofNat_Int, List.map_append, List.map_cons, List.map_nil, List.append_assoc, List.nil_append, ↓d46_eP, wfl_eP, flat_eP, eP_agg', take_cap, take_self, take_map, wfl_nil, pr_eta, List.append_nil, ↓d30_eE, ↓d28_eE, wfl_eE, ↓d54_mk, ↓d47_mk, ↓d31_mk, ↓d56_eS, eE_agg, ev_eta, kI_eI]
    · simp (disch := omega) only [s6_0, hce, hre, hlen, ↓pcK_of a1, ↓pcK_of a2, ↓pcK_of a3, ↓pcK_of a4, hb, ↓pcK_of fixed, ↓cond_ite, ↓gd_ite, decide_eq_true_eq, Bool.not_eq_true', gd_true, cond_true, cond_false, if_pos, if_neg, if_true, if_false, Bool.false_eq_true, Bool.true_eq_false, toNat_cast, W_i64, List.length_map, List.length_append, List.length_cons, List.length_nil, ↓kB_mk, ↓kI_mk, ↓kS_mk, ↓kL_mk, ↓kA_mk, ↓kT_mk, ↓kF_mk, ↓unc_mk, ↓unn_mk, ↓opt_mk, Bool.not_true, Bool.not_false, Bool.and_true, Bool.true_and, Bool.and_false, Bool.false_and, beq_self_eq_true, Bool.true_beq, Bool.false_beq, Int.natCast_add, Int.natCast_one, Int.cast_ofNat_Int, List.map_append, List.map_cons, List.map_nil, List.append_assoc, List.nil_append, ↓d46_eP, wfl_eP, flat_eP, eP_agg', take_cap, take_self, take_map, wfl_nil, pr_eta, List.append_nil, ↓d30_eE, ↓d28_eE, wfl_eE, ↓d54_mk, ↓d47_mk, ↓d31_mk, ↓d56_eS, eE_agg, ev_eta, kI_eI]
  intro r
  induction r with
  | nil =>
    intro k es hr h58 hkl hes hle
    exact fin k es h58 hes hle (.inr (drop_nil hr))
  | cons x r ih =>
    intro k es hr h58 hkl hes hle
    obtain ⟨h1, h2, h3⟩ := drop_cons hr
    by_cases hk58 : k = 58
    · exact fin k es h58 hes hle (.inl hk58)
    · obtain ⟨f1, f2⟩ := fold_ok 1 es (m, true) hs
      simp only at f2
      by_cases hk2 : x.kind < 2
      · refine s6_0_run _ _ _ _ _ _ (o := .head 0 (T6_0 (ePs m) (eEs l) (ePs (es.foldl (runE 1) (m, true)).1) (es.foldl (runE 1) (m, true)).2 ((k + 1 : Nat) : Int) (eEs (begE :: es)))) ?_ (ih (k + 1) es h2 (by omega) (by omega) hes (by omega))
        simp (disch := omega) only [s6_0, ↓idxK_c h1, ↓cond_ite, ↓gd_ite, decide_eq_true_eq, Bool.not_eq_true', gd_true, cond_true, cond_false, if_pos, if_neg, if_true, if_false, Bool.false_eq_true, Bool.true_eq_false, toNat_cast, W_i64, List.length_map, List.length_append, List.length_cons, List.length_nil, ↓kB_mk, ↓kI_mk, ↓kS_mk, ↓kL_mk, ↓kA_mk, ↓kT_mk, ↓kF_mk, ↓unc_mk, ↓unn_mk, ↓opt_mk, Bool.not_true, Bool.not_false, Bool.and_true, Bool.true_and, Bool.and_false, Bool.false_and, beq_self_eq_true, Bool.true_beq, Bool.false_beq, Int.natCast_add, Int.natCast_one, Int.cast_ofNat_Int, List.map_append, List.map_cons, List.map_nil, List.append_assoc, List.nil_append, ↓d46_eP, wfl_eP, flat_eP, eP_agg', take_cap, take_self, take_map, wfl_nil, pr_eta, List.append_nil, ↓d30_eE, ↓d28_eE, wfl_eE, ↓d54_mk, ↓d47_mk, ↓d31_mk, ↓d56_eS, eE_agg, ev_eta, kI_eI]
      · by_cases hk5 : x.kind > 5
        · refine s6_0_run _ _ _ _ _ _ (o := .head 0 (T6_0 (ePs m) (eEs l) (ePs (es.foldl (runE 1) (m, true)).1) (es.foldl (runE 1) (m, true)).2 ((k + 1 : Nat) : Int) (eEs (begE :: es)))) ?_ (ih (k + 1) es h2 (by omega) (by omega) hes (by omega))
          simp (disch := omega) only [s6_0, ↓idxK_c h1, ↓cond_ite, ↓gd_ite, decide_eq_true_eq, Bool.not_eq_true', gd_true, cond_true, cond_false, if_pos, if_neg, if_true, if_false, Bool.false_eq_true, Bool.true_eq_false, toNat_cast, W_i64, List.length_map, List.length_append, List.length_cons, List.length_nil, ↓kB_mk, ↓kI_mk, ↓kS_mk, ↓kL_mk, ↓kA_mk, ↓kT_mk, ↓kF_mk, ↓unc_mk, ↓unn_mk, ↓opt_mk, Bool.not_true, Bool.not_false, Bool.and_true, Bool.true_and, Bool.and_false, Bool.false_and, beq_self_eq_true, Bool.true_beq, Bool.false_beq, Int.natCast_add, Int.natCast_one, Int.cast_ofNat_Int, List.map_append, List.map_cons, List.map_nil, List.append_assoc, List.nil_append, ↓d46_eP, wfl_eP, flat_eP, eP_agg', take_cap, take_self, take_map, wfl_nil, pr_eta, List.append_nil, ↓d30_eE, ↓d28_eE, wfl_eE, ↓d54_mk, ↓d47_mk, ↓d31_mk, ↓d56_eS, eE_agg, ev_eta, kI_eI]
        · have hmid : ∀ e ∈ es ++ [{ x with txn := 1 }], mid e := by
            intro e he
            simp only [List.mem_append, List.mem_cons, List.not_mem_nil, or_false] at he
            rcases he with he | rfl
            · exact hes e he
            · exact ⟨rfl, by simp only; omega, by simp only; omega⟩
          have hnext := ih (k + 1) (es ++ [{ x with txn := 1 }]) h2 (by omega) (by omega) hmid (by simp; omega)
          rw [List.foldl_append, List.foldl_cons, List.foldl_nil] at hnext
          have hrun : runE 1 (es.foldl (runE 1) (m, true)) { x with txn := 1 } = ((doE (es.foldl (runE 1) (m, true)).1 { x with txn := 1 }).1, (es.foldl (runE 1) (m, true)).2 && (doE (es.foldl (runE 1) (m, true)).1 { x with txn := 1 }).2) := by
            unfold runE; rw [if_pos rfl]
          rw [hrun] at hnext
          have hd := doS (es.foldl (runE 1) (m, true)).1 f1 { x with txn := 1 } (by omega)
          have hee : (V.agg [V.int .i64 1, V.int .i64 x.kind, V.str x.key, V.str x.value, V.int .i64 x.n, V.sl (ePs x.pairs), V.bool x.ok]) = eE { x with txn := 1 } := rfl
          have hre : eEs (begE :: es) ++ [eE { x with txn := 1 }] = eEs (begE :: (es ++ [{ x with txn := 1 }])) := by simp
          have hlen : (eEs (begE :: es)).length = es.length + 1 := by simp
          refine s6_0_run _ _ _ _ _ _ ?_ hnext
          generalize es.foldl (runE 1) (m, true) = s at *
          generalize doE s.1 { x with txn := 1 } = d at *
          generalize hE : eEs (begE :: es) = E at *
          generalize hE2 : eEs (begE :: (es ++ [{ x with txn := 1 }])) = E2 at *
          cases hs2 : s.2 <;> simp (disch := omega) only [s6_0, ↓idxK_c h1, hee, hre, hlen, ↓pcK_of hd, ↓cond_ite, ↓gd_ite, decide_eq_true_eq, Bool.not_eq_true', gd_true, cond_true, cond_false, if_pos, if_neg, if_true, if_false, Bool.false_eq_true, Bool.true_eq_false, toNat_cast, W_i64, List.length_map, List.length_append, List.length_cons, List.length_nil, ↓kB_mk, ↓kI_mk, ↓kS_mk, ↓kL_mk, ↓kA_mk, ↓kT_mk, ↓kF_mk, ↓unc_mk, ↓unn_mk, ↓opt_mk, Bool.not_true, Bool.not_false, Bool.and_true, Bool.true_and, Bool.and_false, Bool.false_and, beq_self_eq_true, Bool.true_beq, Bool.false_beq, Int.natCast_add, Int.natCast_one, Int.cast_ofNat_Int, List.map_append, List.map_cons, List.map_nil, List.append_assoc, List.nil_append, ↓d46_eP, wfl_eP, flat_eP, eP_agg', take_cap, take_self, take_map, wfl_nil, pr_eta, List.append_nil, ↓d30_eE, ↓d28_eE, wfl_eE, ↓d54_mk, ↓d47_mk, ↓d31_mk, ↓d56_eS, eE_agg, ev_eta, kI_eI]

theorem lawOne (m : List Pr) (l : List Ev) : pcW hcfg 6 [.sl (ePs m), .sl (eEs l)] = some (.bool true) := by
  obtain ⟨hs, hl⟩ := mapOf_ok m
  obtain ⟨c1, c2⟩ := cutL_ok l
  refine e6_run _ _ (o := .head 0 (T6_0 (ePs (mapOf m)) (eEs (cutL l)) (ePs (mapOf m)) true ((0 : Nat) : Int) (eEs [begE]))) ?_ (one_loop _ hs hl _ c1 (cutL l) 0 [] rfl (by omega) (Nat.zero_le _) (by simp) (Nat.zero_le _))
  simp (disch := omega) only [e6, ↓pcK_of (cutEs l), ↓pcK_of (map_ m), ↓cond_ite, ↓gd_ite, decide_eq_true_eq, Bool.not_eq_true', gd_true, cond_true, cond_false, if_pos, if_neg, if_true, if_false, Bool.false_eq_true, Bool.true_eq_false, toNat_cast, W_i64, List.length_map, List.length_append, List.length_cons, List.length_nil, ↓kB_mk, ↓kI_mk, ↓kS_mk, ↓kL_mk, ↓kA_mk, ↓kT_mk, ↓kF_mk, ↓unc_mk, ↓unn_mk, ↓opt_mk, Bool.not_true, Bool.not_false, Bool.and_true, Bool.true_and, Bool.and_false, Bool.false_and, beq_self_eq_true, Bool.true_beq, Bool.false_beq, Int.natCast_add, Int.natCast_one, Int.cast_ofNat_Int, List.map_append, List.map_cons, List.map_nil, List.append_assoc, List.nil_append, ↓d46_eP, wfl_eP, flat_eP, eP_agg', take_cap, take_self, take_map, wfl_nil, pr_eta, List.append_nil, ↓d30_eE, ↓d28_eE, wfl_eE, ↓d54_mk, ↓d47_mk, ↓d31_mk, ↓d56_eS, eE_agg, ev_eta, kI_eI]
  rfl
end Go.Proofs.Ythojkngbpcjicaa
