/-
  HistOwn, at the interpreter.
-/
import Derived.Test.YthojkngbpcjicaaH11
namespace Go.Proofs.Ythojkngbpcjicaa
open Go Go.Lite
set_option linter.unusedSimpArgs false
set_option linter.unusedVariables false

theorem right_drop (l : List Ev) (h : rightF l 0 l = true) : ∀ k, rightF l k (l.drop k) = true := by
  intro k
  induction k with
  | zero => exact h
  | succ k ih =>
    cases hd : l.drop k with
    | nil =>
      have : l.drop (k + 1) = [] := by
        have := drop_nil hd
        exact List.drop_of_length_le (by omega)
      rw [this]; rfl
    | cons e r =>
      rw [hd] at ih
      obtain ⟨h1, h2, h3⟩ := drop_cons hd
      rw [h2]
      unfold rightF at ih
      rw [Bool.and_eq_true] at ih
      exact ih.2
theorem right_at {l : List Ev} (h : rightF l 0 l = true) {k : Nat} {e : Ev} (h1 : l[k]? = some e) : (1 ≤ e.kind ∧ e.kind ≤ 7) ∧ closedAt l e.txn k = (e.kind == 1) := by
  have hk := (List.getElem?_eq_some_iff.1 h1).1
  have hd : l.drop k = e :: l.drop (k + 1) := by
    rw [List.drop_eq_getElem_cons hk]
    rw [List.getElem?_eq_getElem hk] at h1
    rw [Option.some.inj h1]
  have := right_drop l h k
  rw [hd] at this
  unfold rightF okAt at this
  simp only [Bool.and_eq_true, decide_eq_true_eq, beq_iff_eq] at this
  exact ⟨this.1.1, this.1.2⟩
theorem right_open {l : List Ev} (h : rightF l 0 l = true) {k : Nat} {e : Ev} (h1 : l[k]? = some e) : ∃ a, begun l e.txn (k + 1) = some a :=
  right_begun l l 0 [] rfl (inv0 l) h k e (Nat.zero_le _) h1

theorem early {l : List Ev} (h : rightF l 0 l = true) : ∀ k, k ≤ l.length → (∀ x ∈ coms l 0 (l.take k), x.1 < k) ∧ ∀ t a, closedAt l t k = false → begun l t k = some a → ∀ x ∈ coms l 0 (l.take k), x.1 ≠ a := by
  intro k
  induction k with
  | zero => intro _; exact ⟨fun x hx => by simp [coms] at hx, fun t a _ _ x hx => by simp [coms] at hx⟩
  | succ k ih =>
    intro hk
    obtain ⟨i1, i2⟩ := ih (by omega)
    have h1 : l[k]? = some l[k] := List.getElem?_eq_getElem (by omega)
    generalize l[k] = e at h1
    obtain ⟨⟨o1, o7⟩, oc⟩ := right_at h h1
    have hc := closed_succ h1
    have hb := begun_succ h1
    obtain ⟨b, hbe⟩ := right_open h h1
    have hsp : coms l 0 (l.take (k + 1)) = coms l 0 (l.take k) ++ if e.kind = 6 then [(b, k)] else [] := by
      rw [take_succ' h1, coms_append, len_take h1, Nat.zero_add]
      congr 1
      simp only [coms, hbe, Option.getD_some]
    have hbt := begun_lt hbe
    refine ⟨fun x hx => ?_, fun t a q1 q2 x hx => ?_⟩
    · rw [hsp, List.mem_append] at hx
      rcases hx with hx | hx
      · have := i1 x hx; omega
      · split at hx
        · simp only [List.mem_singleton] at hx; subst hx; exact hbt.1
        · cases hx
    · rw [hsp, List.mem_append] at hx
      rw [hc] at q1
      rw [hb] at q2
      by_cases ht : e.txn = t
      · rw [if_pos ht] at q1
        have h6 : ¬ e.kind ≥ 6 := by simpa using q1
        rw [if_neg (by omega)] at hx
        rcases hx with hx | hx
        · by_cases k1 : e.kind = 1
          · rw [if_pos ⟨k1, ht⟩] at q2
            cases q2
            have := i1 x hx; omega
          · rw [if_neg (fun q => k1 q.1)] at q2
            exact i2 t a (by rw [← ht, oc]; simpa using k1) q2 x hx
        · cases hx
      · rw [if_neg ht] at q1
        rw [if_neg (fun q => ht q.2)] at q2
        rcases hx with hx | hx
        · exact i2 t a q1 q2 x hx
        · split at hx
          · simp only [List.mem_singleton] at hx
            subst hx
            intro e1
            simp only at e1
            subst e1
            obtain ⟨_, ea, g1, _, g3⟩ := hbt
            obtain ⟨_, eb, g4, _, g6⟩ := begun_lt q2
            rw [g1] at g4
            cases g4
            exact ht (g3.symm.trans g6)
          · cases hx

theorem late {l : List Ev} (h : rightF l 0 l = true) {t : Int} {a : Nat} {ea : Ev} (hea : l[a]? = some ea) (hta : ea.txn = t) : ∀ (r : List Ev) (k : Nat), l.drop k = r → a < k → ¬ (closedAt l t k = false ∧ begun l t k = some a) → ∀ x ∈ coms l k r, x.1 ≠ a := by
  intro r
  induction r with
  | nil => intro k _ _ _ x hx; simp [coms] at hx
  | cons e r ih =>
    intro k hr hak hn x hx
    obtain ⟨h1, h2, h3⟩ := drop_cons hr
    obtain ⟨⟨o1, o7⟩, oc⟩ := right_at h h1
    have hc := closed_succ h1
    have hb := begun_succ h1
    obtain ⟨b, hbe⟩ := right_open h h1
    unfold coms at hx
    by_cases ht : e.txn = t
    · subst ht
      have next : ¬ (closedAt l e.txn (k + 1) = false ∧ begun l e.txn (k + 1) = some a) := by
        rintro ⟨q1, q2⟩
        rw [hc, if_pos rfl] at q1
        rw [hb] at q2
        by_cases k1 : e.kind = 1
        · rw [if_pos ⟨k1, rfl⟩] at q2; cases q2; omega
        · rw [if_neg (fun q => k1 q.1)] at q2
          exact hn ⟨by rw [oc]; simpa using k1, q2⟩
      by_cases k6 : e.kind = 6
      · rw [if_pos k6, List.mem_cons] at hx
        rcases hx with rfl | hx
        · intro e1
          rw [hbe] at e1
          simp only [Option.getD_some] at e1
          subst e1
          have k1 : ¬ e.kind = 1 := by omega
          rw [hb, if_neg (fun q => k1 q.1)] at hbe
          exact hn ⟨by rw [oc]; simpa using k1, hbe⟩
        · exact ih (k + 1) h2 (by omega) next x hx
      · rw [if_neg k6] at hx
        exact ih (k + 1) h2 (by omega) next x hx
    · have next : ¬ (closedAt l t (k + 1) = false ∧ begun l t (k + 1) = some a) := by
        rw [hc, hb, if_neg ht, if_neg (fun q => ht q.2)]; exact hn
      split at hx
      · rw [List.mem_cons] at hx
        rcases hx with rfl | hx
        · intro e1
          rw [hbe] at e1
          simp only [Option.getD_some] at e1
          subst e1
          obtain ⟨_, eb, g4, _, g6⟩ := begun_lt hbe
          rw [hea] at g4
          cases g4
          exact ht (g6.symm.trans hta)
        · exact ih (k + 1) h2 (by omega) next x hx
      · exact ih (k + 1) h2 (by omega) next x hx

theorem open_wc {l : List Ev} (h : rightF l 0 l = true) : ∀ (r : List Ev) (k : Nat), l.drop k = r → ∀ t a, closedAt l t k = false → begun l t k = some a → ((coms l k r).map (·.1)).contains a = wc t r := by
  intro r
  induction r with
  | nil => intro k _ t a _ _; rfl
  | cons e r ih =>
    intro k hr t a hcl hba
    obtain ⟨h1, h2, h3⟩ := drop_cons hr
    obtain ⟨⟨o1, o7⟩, oc⟩ := right_at h h1
    have hc := closed_succ h1
    have hb := begun_succ h1
    obtain ⟨b, hbe⟩ := right_open h h1
    obtain ⟨hak, ea, ga, _, gt⟩ := begun_lt hba
    by_cases ht : e.txn = t
    · subst ht
      have k1 : ¬ e.kind = 1 := by
        rw [hcl] at oc
        simpa using oc.symm
      have hb' : begun l e.txn (k + 1) = some a := by rw [hb, if_neg (fun q => k1 q.1), hba]
      by_cases k6 : e.kind = 6
      · conv => lhs; unfold coms
        conv => rhs; unfold wc
        rw [if_pos k6, if_pos rfl, if_pos k6, hb']
        simp
      · conv => lhs; unfold coms
        rw [if_neg k6]
        by_cases k7 : e.kind = 7
        · conv => rhs; unfold wc
          rw [if_pos rfl, if_neg k6, if_pos k7]
          have := late h ga gt r (k + 1) h2 (by omega) (by rintro ⟨q, _⟩; rw [hc, if_pos rfl, decide_eq_true (by omega)] at q; cases q)
          rw [Bool.eq_false_iff]
          intro q
          rw [List.contains_iff_mem, List.mem_map] at q
          obtain ⟨x, hx, e1⟩ := q
          exact this x hx e1
        · rw [wc_mid k6 k7]
          exact ih (k + 1) h2 _ a (by rw [hc, if_pos rfl, decide_eq_false (by omega)]) hb'
    · rw [wc_other ht]
      have := ih (k + 1) h2 t a (by rw [hc, if_neg ht]; exact hcl) (by rw [hb, if_neg (fun q => ht q.2)]; exact hba)
      conv => lhs; unfold coms
      split
      · rw [List.map_cons, List.contains_cons, this, hbe]
        have : (a == b) = false := by
          rw [beq_eq_false_iff_ne]
          intro e1
          subst e1
          obtain ⟨_, eb, g4, _, g6⟩ := begun_lt hbe
          rw [ga] at g4
          cases g4
          exact ht (g6.symm.trans gt)
        simp only [Option.getD_some, this, Bool.false_or]
      · exact this

theorem start_mem {l : List Ev} (h : rightF l 0 l = true) {k a : Nat} {e : Ev} (h1 : l[k]? = some e) (hbe : begun l e.txn (k + 1) = some a) : ((coms l 0 l).map (·.1)).contains a = keepB e (l.drop (k + 1)) := by
  have hk := (List.getElem?_eq_some_iff.1 h1).1
  obtain ⟨⟨o1, o7⟩, oc⟩ := right_at h h1
  have hc := closed_succ h1
  have hb := begun_succ h1
  have hd : l.drop k = e :: l.drop (k + 1) := by
    rw [List.drop_eq_getElem_cons hk]
    rw [List.getElem?_eq_getElem hk] at h1
    rw [Option.some.inj h1]
  have hsp : coms l 0 l = coms l 0 (l.take k) ++ coms l k (e :: l.drop (k + 1)) := by
    conv => lhs; rw [show coms l 0 l = coms l 0 (l.take k ++ l.drop k) by rw [List.take_append_drop], coms_append, len_take h1, Nat.zero_add, hd]
  have hsp2 : coms l 0 l = coms l 0 (l.take (k + 1)) ++ coms l (k + 1) (l.drop (k + 1)) := by
    conv => lhs; rw [show coms l 0 l = coms l 0 (l.take (k + 1) ++ l.drop (k + 1)) by rw [List.take_append_drop], coms_append, show (l.take (k + 1)).length = k + 1 by rw [List.length_take]; omega, Nat.zero_add]
  have none {c : List (Nat × Nat)} (hh : ∀ x ∈ c, x.1 ≠ a) : (c.map (·.1)).contains a = false := by
    rw [Bool.eq_false_iff]
    intro q
    rw [List.contains_iff_mem, List.mem_map] at q
    obtain ⟨x, hx, e1⟩ := q
    exact hh x hx e1
  unfold keepB
  by_cases k6 : e.kind = 6
  · rw [if_pos k6, hsp, List.map_append, List.contains_iff_mem, List.mem_append]
    right
    unfold coms
    rw [if_pos k6, hbe]
    simp
  rw [if_neg k6]
  by_cases k7 : e.kind = 7
  · rw [if_pos k7]
    have k1 : ¬ e.kind = 1 := by omega
    have hb0 : begun l e.txn k = some a := by rw [hb, if_neg (fun q => k1 q.1)] at hbe; exact hbe
    obtain ⟨_, ea, ga, _, gt⟩ := begun_lt hb0
    have c1 := (early h k (by omega)).2 e.txn a (by rw [oc]; simpa using k1) hb0
    have c2 := late h ga gt (l.drop (k + 1)) (k + 1) rfl (by have := (begun_lt hb0).1; omega) (by rintro ⟨q, _⟩; rw [hc, if_pos rfl, decide_eq_true (by omega)] at q; cases q)
    rw [hsp]
    refine none fun x hx => ?_
    rw [List.mem_append] at hx
    rcases hx with hx | hx
    · exact c1 x hx
    · unfold coms at hx
      rw [if_neg k6] at hx
      exact c2 x hx
  · rw [if_neg k7]
    have hcl : closedAt l e.txn (k + 1) = false := by rw [hc, if_pos rfl, decide_eq_false (by omega)]
    have c1 := (early h (k + 1) (by omega)).2 e.txn a hcl hbe
    have c2 := open_wc h (l.drop (k + 1)) (k + 1) rfl e.txn a hcl hbe
    rw [hsp2, List.map_append]
    have : ∀ (xs ys : List Nat), (xs ++ ys).contains a = (xs.contains a || ys.contains a) := fun xs ys => by
      rw [Bool.eq_iff_iff]
      simp
    rw [this, none c1, c2, Bool.false_or]

/-! ### the code -/
section
variable {m a : List Pr} {is : Bool} {l : List Ev} {B : List Nat}

theorem own_back (hl : l.length ≤ 60) {i : Nat} {e : Ev} (hi : l[i]? = some e) (acc : List Ev) {s : Nat} : ∀ (j : Nat), j ≤ i → begun l e.txn (j + 1) = some s →
    Go hk false 0 fa5 (.head 1 (T5_1 (ePs m) (eEs l) (ePs a) is (eIs B) i j (eEs acc))) (.head 2 (T5_2 (ePs m) (eEs l) (ePs a) is (eIs B) i s false 0 (eEs acc))) := by
  have hilt : i < l.length := (List.getElem?_eq_some_iff.1 hi).1
  intro j
  induction j with
  | zero =>
    intro hj hs
    have hjl : l[0]? = some l[0] := List.getElem?_eq_getElem (by omega)
    generalize l[0] = ej at hjl
    rw [begun_succ hjl] at hs
    split at hs
    · rename_i hc
      cases hs
      have b1 : (ej.kind != 1) = false := by simp [hc.1]
      have b2 : (ej.txn != e.txn) = false := by simp [hc.2]
      refine s5_1_run _ _ _ _ _ _ _ _ ?_ (.refl _)
      simp (disch := omega) only [s5_1, ↓idxK_c hjl, ↓idxK_c hi, b1, b2, ↓cond_ite, ↓gd_ite, decide_eq_true_eq, Bool.not_eq_true', gd_true, cond_true, cond_false, if_pos, if_neg, if_true, if_false, Bool.false_eq_true, Bool.true_eq_false, toNat_cast, W_i64, List.length_map, List.length_append, List.length_cons, List.length_nil, ↓kB_mk, ↓kI_mk, ↓kS_mk, ↓kL_mk, ↓kA_mk, ↓kT_mk, ↓kF_mk, ↓unc_mk, ↓unn_mk, ↓opt_mk, Bool.not_true, Bool.not_false, Bool.and_true, Bool.true_and, Bool.and_false, Bool.false_and, beq_self_eq_true, Bool.true_beq, Bool.false_beq, Int.natCast_add, Int.natCast_one, Int.cast_ofNat_Int, List.map_append, List.map_cons, List.map_nil, List.append_assoc, List.nil_append, ↓d46_eP, wfl_eP, flat_eP, eP_agg', take_cap, take_self, take_map, wfl_nil, pr_eta, List.append_nil, ↓d30_eE, ↓d28_eE, wfl_eE, ↓d54_mk, ↓d47_mk, ↓d31_mk, ↓d56_eS, eE_agg, ev_eta, kI_eI]
    · cases hs
  | succ j ih =>
    intro hj hs
    have hjl : l[j + 1]? = some l[j + 1] := List.getElem?_eq_getElem (by omega)
    generalize l[j + 1] = ej at hjl
    rw [begun_succ hjl] at hs
    have ej1 : ((j + 1 : Nat) : Int) - 1 = (j : Int) := by omega
    have nz : decide ((j : Int) < 0) = false := decide_eq_false (by omega)
    split at hs
    · rename_i hc
      cases hs
      have b1 : (ej.kind != 1) = false := by simp [hc.1]
      have b2 : (ej.txn != e.txn) = false := by simp [hc.2]
      refine s5_1_run _ _ _ _ _ _ _ _ ?_ (.refl _)
      unfold s5_1
      rw [gd_ok (decide_eq_true (by omega)), idxK_c hjl]
      simp (disch := omega) only [↓idxK_c hjl, ↓idxK_c hi, b1, b2, ↓cond_ite, ↓gd_ite, decide_eq_true_eq, Bool.not_eq_true', gd_true, cond_true, cond_false, if_pos, if_neg, if_true, if_false, Bool.false_eq_true, Bool.true_eq_false, toNat_cast, W_i64, List.length_map, List.length_append, List.length_cons, List.length_nil, ↓kB_mk, ↓kI_mk, ↓kS_mk, ↓kL_mk, ↓kA_mk, ↓kT_mk, ↓kF_mk, ↓unc_mk, ↓unn_mk, ↓opt_mk, Bool.not_true, Bool.not_false, Bool.and_true, Bool.true_and, Bool.and_false, Bool.false_and, beq_self_eq_true, Bool.true_beq, Bool.false_beq, Int.natCast_add, Int.natCast_one, Int.cast_ofNat_Int, List.map_append, List.map_cons, List.map_nil, List.append_assoc, List.nil_append, ↓d46_eP, wfl_eP, flat_eP, eP_agg', take_cap, take_self, take_map, wfl_nil, pr_eta, List.append_nil, ↓d30_eE, ↓d28_eE, wfl_eE, ↓d54_mk, ↓d47_mk, ↓d31_mk, ↓d56_eS, eE_agg, ev_eta, kI_eI]
    · rename_i hc
      refine s5_1_run _ _ _ _ _ _ _ _ (o := .head 1 (T5_1 (ePs m) (eEs l) (ePs a) is (eIs B) i (j : Int) (eEs acc))) ?_ (ih (by omega) hs)
      unfold s5_1
      rw [gd_ok (decide_eq_true (by omega)), idxK_c hjl]
      by_cases hk1 : ej.kind = 1
      · have b1 : (ej.kind != 1) = false := by simp [hk1]
        have b2 : (ej.txn != e.txn) = true := by simpa using fun h => hc ⟨hk1, h⟩
        simp (disch := omega) only [↓idxK_c hjl, ↓idxK_c hi, b1, b2, Int.add_sub_cancel, nz, ↓cond_ite, ↓gd_ite, decide_eq_true_eq, Bool.not_eq_true', gd_true, cond_true, cond_false, if_pos, if_neg, if_true, if_false, Bool.false_eq_true, Bool.true_eq_false, toNat_cast, W_i64, List.length_map, List.length_append, List.length_cons, List.length_nil, ↓kB_mk, ↓kI_mk, ↓kS_mk, ↓kL_mk, ↓kA_mk, ↓kT_mk, ↓kF_mk, ↓unc_mk, ↓unn_mk, ↓opt_mk, Bool.not_true, Bool.not_false, Bool.and_true, Bool.true_and, Bool.and_false, Bool.false_and, beq_self_eq_true, Bool.true_beq, Bool.false_beq, Int.natCast_add, Int.natCast_one, Int.cast_ofNat_Int, List.map_append, List.map_cons, List.map_nil, List.append_assoc, List.nil_append, ↓d46_eP, wfl_eP, flat_eP, eP_agg', take_cap, take_self, take_map, wfl_nil, pr_eta, List.append_nil, ↓d30_eE, ↓d28_eE, wfl_eE, ↓d54_mk, ↓d47_mk, ↓d31_mk, ↓d56_eS, eE_agg, ev_eta, kI_eI]
      · have b1 : (ej.kind != 1) = true := by simpa using hk1
        simp (disch := omega) only [b1, Int.add_sub_cancel, nz, ↓cond_ite, ↓gd_ite, decide_eq_true_eq, Bool.not_eq_true', gd_true, cond_true, cond_false, if_pos, if_neg, if_true, if_false, Bool.false_eq_true, Bool.true_eq_false, toNat_cast, W_i64, List.length_map, List.length_append, List.length_cons, List.length_nil, ↓kB_mk, ↓kI_mk, ↓kS_mk, ↓kL_mk, ↓kA_mk, ↓kT_mk, ↓kF_mk, ↓unc_mk, ↓unn_mk, ↓opt_mk, Bool.not_true, Bool.not_false, Bool.and_true, Bool.true_and, Bool.and_false, Bool.false_and, beq_self_eq_true, Bool.true_beq, Bool.false_beq, Int.natCast_add, Int.natCast_one, Int.cast_ofNat_Int, List.map_append, List.map_cons, List.map_nil, List.append_assoc, List.nil_append, ↓d46_eP, wfl_eP, flat_eP, eP_agg', take_cap, take_self, take_map, wfl_nil, pr_eta, List.append_nil, ↓d30_eE, ↓d28_eE, wfl_eE, ↓d54_mk, ↓d47_mk, ↓d31_mk, ↓d56_eS, eE_agg, ev_eta, kI_eI]

theorem own_in (hl : l.length ≤ 60) (hB : B.length ≤ 60) {i s : Nat} {e : Ev} (hi : l[i]? = some e) (acc : List Ev) (hacc : acc.length ≤ 60) : ∀ (r : List Nat) (j : Nat) (b : Bool), B.drop j = r → j ≤ B.length →
    Go hk false 0 fa5 (.head 2 (T5_2 (ePs m) (eEs l) (ePs a) is (eIs B) i s b j (eEs acc))) (.head 0 (T5_0 (ePs m) (eEs l) (ePs a) is (eIs B) ((i + 1 : Nat) : Int) (eEs (if b || r.contains s then acc ++ [e] else acc)))) := by
  have hilt : i < l.length := (List.getElem?_eq_some_iff.1 hi).1
  intro r
  induction r with
  | nil =>
    intro j b hr hj
    have h1 := drop_nil hr
    refine s5_2_run _ _ _ _ _ _ _ _ _ _ ?_ (.refl _)
    have hre : eEs acc ++ [eE e] = eEs (acc ++ [e]) := by simp
    have hlen : (eEs acc).length = acc.length := by simp
    have hlb : (eIs B).length = B.length := by simp
    simp only [List.contains_nil, Bool.or_false]
    generalize hE : eEs acc = E at *
    generalize hE2 : eEs (acc ++ [e]) = E2 at *
    cases b
    · simp only [Bool.false_eq_true, if_false]
      rw [hE]
      simp (disch := omega) only [s5_2, hlb, ↓cond_ite, ↓gd_ite, decide_eq_true_eq, Bool.not_eq_true', gd_true, cond_true, cond_false, if_pos, if_neg, if_true, if_false, Bool.false_eq_true, Bool.true_eq_false, toNat_cast, W_i64, List.length_map, List.length_append, List.length_cons, List.length_nil, ↓kB_mk, ↓kI_mk, ↓kS_mk, ↓kL_mk, ↓kA_mk, ↓kT_mk, ↓kF_mk, ↓unc_mk, ↓unn_mk, ↓opt_mk, Bool.not_true, Bool.not_false, Bool.and_true, Bool.true_and, Bool.and_false, Bool.false_and, beq_self_eq_true, Bool.true_beq, Bool.false_beq, Int.natCast_add, Int.natCast_one, Int.cast_ofNat_Int, List.map_append, List.map_cons, List.map_nil, List.append_assoc, List.nil_append, ↓d46_eP, wfl_eP, flat_eP, eP_agg', take_cap, take_self, take_map, wfl_nil, pr_eta, List.append_nil, ↓d30_eE, ↓d28_eE, wfl_eE, ↓d54_mk, ↓d47_mk, ↓d31_mk, ↓d56_eS, eE_agg, ev_eta, kI_eI]
    · simp only [if_true]
      rw [hE2]
      simp (disch := omega) only [s5_2, hlb, ↓idxK_c hi, hre, hlen, ↓cond_ite, ↓gd_ite, decide_eq_true_eq, Bool.not_eq_true', gd_true, cond_true, cond_false, if_pos, if_neg, if_true, if_false, Bool.false_eq_true, Bool.true_eq_false, toNat_cast, W_i64, List.length_map, List.length_append, List.length_cons, List.length_nil, ↓kB_mk, ↓kI_mk, ↓kS_mk, ↓kL_mk, ↓kA_mk, ↓kT_mk, ↓kF_mk, ↓unc_mk, ↓unn_mk, ↓opt_mk, Bool.not_true, Bool.not_false, Bool.and_true, Bool.true_and, Bool.and_false, Bool.false_and, beq_self_eq_true, Bool.true_beq, Bool.false_beq, Int.natCast_add, Int.natCast_one, Int.cast_ofNat_Int, List.map_append, List.map_cons, List.map_nil, List.append_assoc, List.nil_append, ↓d46_eP, wfl_eP, flat_eP, eP_agg', take_cap, take_self, take_map, wfl_nil, pr_eta, List.append_nil, ↓d30_eE, ↓d28_eE, wfl_eE, ↓d54_mk, ↓d47_mk, ↓d31_mk, ↓d56_eS, eE_agg, ev_eta, kI_eI]
  | cons x r ih =>
    intro j b hr hj
    obtain ⟨h1, h2, h3⟩ := drop_cons hr
    have hlb : (eIs B).length = B.length := by simp
    cases b with
    | true =>
      have := ih (j + 1) true h2 (by omega)
      simp only [Bool.true_or, if_true] at this ⊢
      refine s5_2_run _ _ _ _ _ _ _ _ _ _ ?_ this
      simp (disch := omega) only [s5_2, hlb, ↓cond_ite, ↓gd_ite, decide_eq_true_eq, Bool.not_eq_true', gd_true, cond_true, cond_false, if_pos, if_neg, if_true, if_false, Bool.false_eq_true, Bool.true_eq_false, toNat_cast, W_i64, List.length_map, List.length_append, List.length_cons, List.length_nil, ↓kB_mk, ↓kI_mk, ↓kS_mk, ↓kL_mk, ↓kA_mk, ↓kT_mk, ↓kF_mk, ↓unc_mk, ↓unn_mk, ↓opt_mk, Bool.not_true, Bool.not_false, Bool.and_true, Bool.true_and, Bool.and_false, Bool.false_and, beq_self_eq_true, Bool.true_beq, Bool.false_beq, Int.natCast_add, Int.natCast_one, Int.cast_ofNat_Int, List.map_append, List.map_cons, List.map_nil, List.append_assoc, List.nil_append, ↓d46_eP, wfl_eP, flat_eP, eP_agg', take_cap, take_self, take_map, wfl_nil, pr_eta, List.append_nil, ↓d30_eE, ↓d28_eE, wfl_eE, ↓d54_mk, ↓d47_mk, ↓d31_mk, ↓d56_eS, eE_agg, ev_eta, kI_eI]
    | false =>
      have := ih (j + 1) (s == x) h2 (by omega)
      rw [List.contains_cons, Bool.false_or]
      refine s5_2_run _ _ _ _ _ _ _ _ _ _ ?_ this
      have hx : ((x : Int) == (s : Int)) = (s == x) := by
        rw [Bool.eq_iff_iff, beq_iff_eq, beq_iff_eq]; omega
      simp (disch := omega) only [s5_2, hlb, ↓idxK_c h1, hx, ↓cond_ite, ↓gd_ite, decide_eq_true_eq, Bool.not_eq_true', gd_true, cond_true, cond_false, if_pos, if_neg, if_true, if_false, Bool.false_eq_true, Bool.true_eq_false, toNat_cast, W_i64, List.length_map, List.length_append, List.length_cons, List.length_nil, ↓kB_mk, ↓kI_mk, ↓kS_mk, ↓kL_mk, ↓kA_mk, ↓kT_mk, ↓kF_mk, ↓unc_mk, ↓unn_mk, ↓opt_mk, Bool.not_true, Bool.not_false, Bool.and_true, Bool.true_and, Bool.and_false, Bool.false_and, beq_self_eq_true, Bool.true_beq, Bool.false_beq, Int.natCast_add, Int.natCast_one, Int.cast_ofNat_Int, List.map_append, List.map_cons, List.map_nil, List.append_assoc, List.nil_append, ↓d46_eP, wfl_eP, flat_eP, eP_agg', take_cap, take_self, take_map, wfl_nil, pr_eta, List.append_nil, ↓d30_eE, ↓d28_eE, wfl_eE, ↓d54_mk, ↓d47_mk, ↓d31_mk, ↓d56_eS, eE_agg, ev_eta, kI_eI]

theorem own_loop (hs : Sorted m) (hm : m.length ≤ 20) (hl : l.length ≤ 60) (hok : rightF l 0 l = true) (hB : B = (coms l 0 l).map (·.1)) (ha : a = (serR l m).1) (hi : is = (serR l m).2) :
    ∀ (r : List Ev) (k : Nat) (acc : List Ev), l.drop k = r → k ≤ l.length → acc.length ≤ k → acc ++ keepF r = keepF l →
    Go hk false 0 fa5 (.head 0 (T5_0 (ePs m) (eEs l) (ePs a) is (eIs B) k (eEs acc))) (.done (.bool true)) := by
  have hBl : B.length ≤ 60 := by rw [hB, List.length_map]; have := coms_len l l 0; omega
  intro r
  induction r with
  | nil =>
    intro k acc hr hk hacc hf
    have h1 := drop_nil hr
    simp only [keepF, List.append_nil] at hf
    obtain ⟨g1, g2, g3⟩ := keep_same hok m
    rw [← hf] at g1 g2 g3
    have a1 := serial m acc (by omega) hs (by omega)
    rw [serV_R, g2, ← ha, ← hi] at a1
    obtain ⟨s1, s2⟩ := serR_ok l (by omega) m hs (by omega)
    rw [← ha] at s1 s2
    have a2 := alike a a s2
    rw [beq_self_eq_true] at a2
    have a3 := committed acc (by omega)
    have hcb : (comOf l).length = B.length := by
      rw [hB]
      unfold comOf
      rw [span_eq, if_pos hok]
      rfl
    have hlen : (((eIs (comOf acc)).length : Int) == ((eIs B).length : Int)) = true := by
      rw [List.length_map, List.length_map, g3, hcb]
      simp
    have hle : decide ((k : Int) < ((eEs l).length : Int)) = false := by
      rw [List.length_map]; exact decide_eq_false (by omega)
    have hbb : (is == is) = true := by simp
    refine s5_0_run _ _ _ _ _ _ _ ?_ (.refl _)
    unfold s5_0
    rw [hle]
    simp only [cond_false, ↓pcK_of a1, d31_mk, ↓pcK_of a2, hbb, ↓pcK_of a3, kB_mk, cond_true, kF_mk, hlen, ↓pcK_of fixed]
  | cons x r ih =>
    intro k acc hr hk hacc hf
    obtain ⟨h1, h2, h3⟩ := drop_cons hr
    obtain ⟨s, hbe⟩ := right_open hok h1
    have hmem := start_mem hok h1 hbe
    rw [h2, ← hB] at hmem
    refine s5_0_run _ _ _ _ _ _ _ (o := .head 1 (T5_1 (ePs m) (eEs l) (ePs a) is (eIs B) k k (eEs acc))) ?_ ((own_back hl h1 acc k (Nat.le_refl _) hbe).trans ((own_in hl hBl h1 acc (by omega) B 0 false rfl (Nat.zero_le _)).trans ?_))
    · simp (disch := omega) only [s5_0, ↓cond_ite, ↓gd_ite, decide_eq_true_eq, Bool.not_eq_true', gd_true, cond_true, cond_false, if_pos, if_neg, if_true, if_false, Bool.false_eq_true, Bool.true_eq_false, toNat_cast, W_i64, List.length_map, List.length_append, List.length_cons, List.length_nil, ↓kB_mk, ↓kI_mk, ↓kS_mk, ↓kL_mk, ↓kA_mk, ↓kT_mk, ↓kF_mk, ↓unc_mk, ↓unn_mk, ↓opt_mk, Bool.not_true, Bool.not_false, Bool.and_true, Bool.true_and, Bool.and_false, Bool.false_and, beq_self_eq_true, Bool.true_beq, Bool.false_beq, Int.natCast_add, Int.natCast_one, Int.cast_ofNat_Int, List.map_append, List.map_cons, List.map_nil, List.append_assoc, List.nil_append, ↓d46_eP, wfl_eP, flat_eP, eP_agg', take_cap, take_self, take_map, wfl_nil, pr_eta, List.append_nil, ↓d30_eE, ↓d28_eE, wfl_eE, ↓d54_mk, ↓d47_mk, ↓d31_mk, ↓d56_eS, eE_agg, ev_eta, kI_eI]
    · rw [Bool.false_or, hmem]
      refine ih (k + 1) _ h2 (by omega) ?_ ?_
      · split
        · simp; omega
        · omega
      · rw [← hf]
        conv => rhs; unfold keepF
        split <;> simp
end

theorem lawOwn (m : List Pr) (l : List Ev) : pcW hcfg 5 [.sl (ePs m), .sl (eEs l)] = some (.bool true) := by
  obtain ⟨hs, hl⟩ := mapOf_ok m
  obtain ⟨c1, c2⟩ := cutL_ok l
  have a1 := serial (mapOf m) (cutL l) (by omega) hs (by omega)
  rw [serV_R] at a1
  have a4 := right (cutL l) (by omega)
  have a6 := committed (cutL l) (by omega)
  have e1 : (spanOf (cutL l)).isSome = rightF (cutL l) 0 (cutL l) := by rw [span_eq]; cases rightF (cutL l) 0 (cutL l) <;> rfl
  rw [e1] at a4
  cases hok : rightF (cutL l) 0 (cutL l) with
  | false =>
    rw [hok] at a4
    have e2 : serR (cutL l) (mapOf m) = ([], false) := by unfold serR; rw [hok]; rfl
    rw [e2] at a1
    refine e5_run _ _ (o := .done (.bool true)) ?_ (.refl _)
    simp (disch := omega) only [e5, ↓pcK_of (cutEs l), ↓pcK_of (map_ m), ↓pcK_of a1, ↓pcK_of a4, ↓pcK_of fixed, ↓cond_ite, ↓gd_ite, decide_eq_true_eq, Bool.not_eq_true', gd_true, cond_true, cond_false, if_pos, if_neg, if_true, if_false, Bool.false_eq_true, Bool.true_eq_false, toNat_cast, W_i64, List.length_map, List.length_append, List.length_cons, List.length_nil, ↓kB_mk, ↓kI_mk, ↓kS_mk, ↓kL_mk, ↓kA_mk, ↓kT_mk, ↓kF_mk, ↓unc_mk, ↓unn_mk, ↓opt_mk, Bool.not_true, Bool.not_false, Bool.and_true, Bool.true_and, Bool.and_false, Bool.false_and, beq_self_eq_true, Bool.true_beq, Bool.false_beq, Int.natCast_add, Int.natCast_one, Int.cast_ofNat_Int, List.map_append, List.map_cons, List.map_nil, List.append_assoc, List.nil_append, ↓d46_eP, wfl_eP, flat_eP, eP_agg', take_cap, take_self, take_map, wfl_nil, pr_eta, List.append_nil, ↓d30_eE, ↓d28_eE, wfl_eE, ↓d54_mk, ↓d47_mk, ↓d31_mk, ↓d56_eS, eE_agg, ev_eta, kI_eI]
  | true =>
    rw [hok] at a4
    have e3 : comOf (cutL l) = (coms (cutL l) 0 (cutL l)).map (·.1) := by
      unfold comOf
      rw [span_eq, if_pos hok]
      rfl
    rw [e3] at a6
    refine e5_run _ _ (o := .head 0 (T5_0 (ePs (mapOf m)) (eEs (cutL l)) (ePs (serR (cutL l) (mapOf m)).1) (serR (cutL l) (mapOf m)).2 (eIs ((coms (cutL l) 0 (cutL l)).map (·.1))) ((0 : Nat) : Int) (eEs []))) ?_ (own_loop hs hl c1 hok rfl rfl rfl (cutL l) 0 [] rfl (Nat.zero_le _) (by simp) rfl)
    simp (disch := omega) only [e5, ↓pcK_of (cutEs l), ↓pcK_of (map_ m), ↓pcK_of a1, ↓pcK_of a4, ↓pcK_of a6, ↓cond_ite, ↓gd_ite, decide_eq_true_eq, Bool.not_eq_true', gd_true, cond_true, cond_false, if_pos, if_neg, if_true, if_false, Bool.false_eq_true, Bool.true_eq_false, toNat_cast, W_i64, List.length_map, List.length_append, List.length_cons, List.length_nil, ↓kB_mk, ↓kI_mk, ↓kS_mk, ↓kL_mk, ↓kA_mk, ↓kT_mk, ↓kF_mk, ↓unc_mk, ↓unn_mk, ↓opt_mk, Bool.not_true, Bool.not_false, Bool.and_true, Bool.true_and, Bool.and_false, Bool.false_and, beq_self_eq_true, Bool.true_beq, Bool.false_beq, Int.natCast_add, Int.natCast_one, Int.cast_ofNat_Int, List.map_append, List.map_cons, List.map_nil, List.append_assoc, List.nil_append, ↓d46_eP, wfl_eP, flat_eP, eP_agg', take_cap, take_self, take_map, wfl_nil, pr_eta, List.append_nil, ↓d30_eE, ↓d28_eE, wfl_eE, ↓d54_mk, ↓d47_mk, ↓d31_mk, ↓d56_eS, eE_agg, ev_eta, kI_eI]
end Go.Proofs.Ythojkngbpcjicaa
