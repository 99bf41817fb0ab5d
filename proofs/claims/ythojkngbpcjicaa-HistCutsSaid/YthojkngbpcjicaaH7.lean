/-
  What the functions of hist hand back: the map behind all that was committed.
-/
import Derived.Test.YthojkngbpcjicaaH6
namespace Go.Proofs.Ythojkngbpcjicaa
open Go Go.Lite
set_option linter.unusedSimpArgs false
set_option linter.unusedVariables false

/-- one event of a transaction -/
def runE (t : Int) (s : List Pr × Bool) (e : Ev) : List Pr × Bool := if e.txn = t then ((doE s.1 e).1, s.2 && (doE s.1 e).2) else s
def txOf (l : List Ev) (a : Nat) : Int := match l[a]? with | some e => e.txn | none => 0
def rangeOf (l : List Ev) (s : Nat × Nat) : List Ev := (l.take (s.2 + 1)).drop s.1
def serE (l : List Ev) (s : List Pr × Bool) (x : Nat × Nat) : List Pr × Bool := (rangeOf l x).foldl (runE (txOf l x.2)) s
def serL (l : List Ev) (m : List Pr) : List Pr × Bool := (coms l 0 l).foldl (serE l) (m, true)

theorem doE_ok {m : List Pr} (hs : Sorted m) (e : Ev) : Sorted (doE m e).1 ∧ (doE m e).1.length ≤ m.length + 1 := by
  unfold doE
  split
  · exact ⟨hs, Nat.le_succ _⟩
  · split
    · exact ⟨layR_sorted hs _, layR_len m _⟩
    · split
      · refine ⟨sorted_filter hs _, ?_⟩
        have := List.length_filter_le (fun q : Pr => !(q.1 == e.key)) m
        simp only; omega
      · split
        · exact ⟨hs, Nat.le_succ _⟩
        · exact ⟨hs, Nat.le_succ _⟩
theorem runE_ok {s : List Pr × Bool} (hs : Sorted s.1) (t : Int) (e : Ev) : Sorted (runE t s e).1 ∧ (runE t s e).1.length ≤ s.1.length + 1 := by
  unfold runE
  split
  · exact doE_ok hs e
  · exact ⟨hs, by omega⟩
theorem fold_ok (t : Int) : ∀ (r : List Ev) (s : List Pr × Bool), Sorted s.1 → Sorted (r.foldl (runE t) s).1 ∧ (r.foldl (runE t) s).1.length ≤ s.1.length + r.length := by
  intro r
  induction r with
  | nil => intro s hs; exact ⟨hs, by simp⟩
  | cons e r ih =>
    intro s hs
    obtain ⟨h1, h2⟩ := runE_ok hs t e
    obtain ⟨h3, h4⟩ := ih _ h1
    exact ⟨h3, by simp only [List.foldl_cons, List.length_cons]; omega⟩

section
variable {l : List Ev} {sp : List (Nat × Nat)} {q : Nat} {a i : Nat} {ea : Ev}

theorem serial_inB (hl : l.length ≤ 100) (ha : l[a]? = some ea) (X : List Ev) (hX : X.length ≤ 100) (hq : q < 1000) : ∀ (r : List Ev) (j : Nat) (m : List Pr) (ok : Bool), X.drop j = r → j ≤ X.length → Sorted m → m.length + r.length ≤ 1000000 →
    Go hk false 0 fa14 (.head 1 (T14_1b (eEs l) ok (ePs m) (eSs sp) sp.length q (eEs X) X.length j a i)) (.head 0 (T14_0b (eEs l) (r.foldl (runE ea.txn) (m, ok)).2 (ePs (r.foldl (runE ea.txn) (m, ok)).1) (eSs sp) sp.length ((q + 1 : Nat) : Int))) := by
  intro r
  induction r with
  | nil =>
    intro j m ok hr hj hs hm
    have h1 := drop_nil hr
    refine s14_1b_run _ _ _ _ _ _ _ _ _ _ _ ?_ (.refl _)
    simp (disch := omega) only [s14_1b, List.foldl_nil, ↓cond_ite, ↓gd_ite, decide_eq_true_eq, Bool.not_eq_true', gd_true, cond_true, cond_false, if_pos, if_neg, if_true, if_false, Bool.false_eq_true, Bool.true_eq_false, toNat_cast, W_i64, List.length_map, List.length_append, List.length_cons, List.length_nil, ↓kB_mk, ↓kI_mk, ↓kS_mk, ↓kL_mk, ↓kA_mk, ↓kT_mk, ↓kF_mk, ↓unc_mk, ↓unn_mk, ↓opt_mk, Bool.not_true, Bool.not_false, Bool.and_true, Bool.true_and, Bool.and_false, Bool.false_and, beq_self_eq_true, Bool.true_beq, Bool.false_beq, Int.natCast_add, Int.natCast_one, Int.cast_ofNat_Int, List.map_append, List.map_cons, List.map_nil, List.append_assoc, List.nil_append, ↓d46_eP, wfl_eP, flat_eP, eP_agg', take_cap, take_self, take_map, wfl_nil, pr_eta, List.append_nil, ↓d30_eE, ↓d28_eE, wfl_eE, ↓d54_mk, ↓d47_mk, ↓d31_mk, ↓d56_eS, eE_agg, ev_eta, kI_eI]
  | cons e r ih =>
    intro j m ok hr hj hs hm
    obtain ⟨h1, h2, h3⟩ := drop_cons hr
    simp only [List.length_cons] at hm
    by_cases ht : e.txn = ea.txn
    · have hb : (e.txn == ea.txn) = true := by simpa using ht
      have hd := doS m hs e (by omega)
      obtain ⟨k1, k2⟩ := doE_ok hs e
      have er : runE ea.txn (m, ok) e = ((doE m e).1, ok && (doE m e).2) := by unfold runE; rw [if_pos ht]
      rw [List.foldl_cons, er]
      refine s14_1b_run _ _ _ _ _ _ _ _ _ _ _ (o := .head 1 (T14_1b (eEs l) (ok && (doE m e).2) (ePs (doE m e).1) (eSs sp) sp.length q (eEs X) X.length ((j + 1 : Nat) : Int) a i)) ?_ (ih (j + 1) _ _ h2 (by omega) k1 (by omega))
      cases ok <;> simp (disch := omega) only [s14_1b, ↓idxK_c h1, ↓idxK_c ha, hb, ↓pcK_of hd, ↓cond_ite, ↓gd_ite, decide_eq_true_eq, Bool.not_eq_true', gd_true, cond_true, cond_false, if_pos, if_neg, if_true, if_false, Bool.false_eq_true, Bool.true_eq_false, toNat_cast, W_i64, List.length_map, List.length_append, List.length_cons, List.length_nil, ↓kB_mk, ↓kI_mk, ↓kS_mk, ↓kL_mk, ↓kA_mk, ↓kT_mk, ↓kF_mk, ↓unc_mk, ↓unn_mk, ↓opt_mk, Bool.not_true, Bool.not_false, Bool.and_true, Bool.true_and, Bool.and_false, Bool.false_and, beq_self_eq_true, Bool.true_beq, Bool.false_beq, Int.natCast_add, Int.natCast_one, Int.cast_ofNat_Int, List.map_append, List.map_cons, List.map_nil, List.append_assoc, List.nil_append, ↓d46_eP, wfl_eP, flat_eP, eP_agg', take_cap, take_self, take_map, wfl_nil, pr_eta, List.append_nil, ↓d30_eE, ↓d28_eE, wfl_eE, ↓d54_mk, ↓d47_mk, ↓d31_mk, ↓d56_eS, eE_agg, ev_eta, kI_eI]
    · have hb : (e.txn == ea.txn) = false := by simpa using ht
      have er : runE ea.txn (m, ok) e = (m, ok) := by unfold runE; rw [if_neg ht]
      rw [List.foldl_cons, er]
      refine s14_1b_run _ _ _ _ _ _ _ _ _ _ _ (o := .head 1 (T14_1b (eEs l) ok (ePs m) (eSs sp) sp.length q (eEs X) X.length ((j + 1 : Nat) : Int) a i)) ?_ (ih (j + 1) _ _ h2 (by omega) hs (by omega))
      simp (disch := omega) only [s14_1b, ↓idxK_c h1, ↓idxK_c ha, hb, ↓cond_ite, ↓gd_ite, decide_eq_true_eq, Bool.not_eq_true', gd_true, cond_true, cond_false, if_pos, if_neg, if_true, if_false, Bool.false_eq_true, Bool.true_eq_false, toNat_cast, W_i64, List.length_map, List.length_append, List.length_cons, List.length_nil, ↓kB_mk, ↓kI_mk, ↓kS_mk, ↓kL_mk, ↓kA_mk, ↓kT_mk, ↓kF_mk, ↓unc_mk, ↓unn_mk, ↓opt_mk, Bool.not_true, Bool.not_false, Bool.and_true, Bool.true_and, Bool.and_false, Bool.false_and, beq_self_eq_true, Bool.true_beq, Bool.false_beq, Int.natCast_add, Int.natCast_one, Int.cast_ofNat_Int, List.map_append, List.map_cons, List.map_nil, List.append_assoc, List.nil_append, ↓d46_eP, wfl_eP, flat_eP, eP_agg', take_cap, take_self, take_map, wfl_nil, pr_eta, List.append_nil, ↓d30_eE, ↓d28_eE, wfl_eE, ↓d54_mk, ↓d47_mk, ↓d31_mk, ↓d56_eS, eE_agg, ev_eta, kI_eI]
theorem serial_inA (hl : l.length ≤ 100) (ha : l[a]? = some ea) (X : List Ev) (hX : X.length ≤ 100) (hq : q < 1000) {Q : Out} : ∀ (r : List Ev) (j : Nat) (m : List Pr) (ok : Bool), X.drop j = r → j ≤ X.length → Sorted m → m.length + r.length ≤ 1000000 →
    Go hk false 0 fa14 (.head 0 (T14_0 (eEs l) (r.foldl (runE ea.txn) (m, ok)).2 (eSs sp) sp.length ((q + 1 : Nat) : Int) (ePs (r.foldl (runE ea.txn) (m, ok)).1))) Q →
    Go hk false 0 fa14 (.head 0 (T14_0b (eEs l) (r.foldl (runE ea.txn) (m, ok)).2 (ePs (r.foldl (runE ea.txn) (m, ok)).1) (eSs sp) sp.length ((q + 1 : Nat) : Int))) Q →
    Go hk false 0 fa14 (.head 1 (T14_1 (eEs l) ok (eSs sp) sp.length q (eEs X) X.length j (ePs m) a i)) Q := by
  intro r
  induction r with
  | nil =>
    intro j m ok hr hj hs hm g1 g2
    have h1 := drop_nil hr
    refine s14_1_run _ _ _ _ _ _ _ _ _ _ _ ?_ g1
    simp (disch := omega) only [s14_1, List.foldl_nil, ↓cond_ite, ↓gd_ite, decide_eq_true_eq, Bool.not_eq_true', gd_true, cond_true, cond_false, if_pos, if_neg, if_true, if_false, Bool.false_eq_true, Bool.true_eq_false, toNat_cast, W_i64, List.length_map, List.length_append, List.length_cons, List.length_nil, ↓kB_mk, ↓kI_mk, ↓kS_mk, ↓kL_mk, ↓kA_mk, ↓kT_mk, ↓kF_mk, ↓unc_mk, ↓unn_mk, ↓opt_mk, Bool.not_true, Bool.not_false, Bool.and_true, Bool.true_and, Bool.and_false, Bool.false_and, beq_self_eq_true, Bool.true_beq, Bool.false_beq, Int.natCast_add, Int.natCast_one, Int.cast_ofNat_Int, List.map_append, List.map_cons, List.map_nil, List.append_assoc, List.nil_append, ↓d46_eP, wfl_eP, flat_eP, eP_agg', take_cap, take_self, take_map, wfl_nil, pr_eta, List.append_nil, ↓d30_eE, ↓d28_eE, wfl_eE, ↓d54_mk, ↓d47_mk, ↓d31_mk, ↓d56_eS, eE_agg, ev_eta, kI_eI]
  | cons e r ih =>
    intro j m ok hr hj hs hm g1 g2
    obtain ⟨h1, h2, h3⟩ := drop_cons hr
    simp only [List.length_cons] at hm
    by_cases ht : e.txn = ea.txn
    · have hb : (e.txn == ea.txn) = true := by simpa using ht
      have hd := doS m hs e (by omega)
      obtain ⟨k1, k2⟩ := doE_ok hs e
      have er : runE ea.txn (m, ok) e = ((doE m e).1, ok && (doE m e).2) := by unfold runE; rw [if_pos ht]
      rw [List.foldl_cons, er] at g2
      refine s14_1_run _ _ _ _ _ _ _ _ _ _ _ (o := .head 1 (T14_1b (eEs l) (ok && (doE m e).2) (ePs (doE m e).1) (eSs sp) sp.length q (eEs X) X.length ((j + 1 : Nat) : Int) a i)) ?_ ((serial_inB hl ha X hX hq r (j + 1) _ _ h2 (by omega) k1 (by omega)).trans g2)
      cases ok <;> simp (disch := omega) only [s14_1, ↓idxK_c h1, ↓idxK_c ha, hb, ↓pcK_of hd, ↓cond_ite, ↓gd_ite, decide_eq_true_eq, Bool.not_eq_true', gd_true, cond_true, cond_false, if_pos, if_neg, if_true, if_false, Bool.false_eq_true, Bool.true_eq_false, toNat_cast, W_i64, List.length_map, List.length_append, List.length_cons, List.length_nil, ↓kB_mk, ↓kI_mk, ↓kS_mk, ↓kL_mk, ↓kA_mk, ↓kT_mk, ↓kF_mk, ↓unc_mk, ↓unn_mk, ↓opt_mk, Bool.not_true, Bool.not_false, Bool.and_true, Bool.true_and, Bool.and_false, Bool.false_and, beq_self_eq_true, Bool.true_beq, Bool.false_beq, Int.natCast_add, Int.natCast_one, Int.cast_ofNat_Int, List.map_append, List.map_cons, List.map_nil, List.append_assoc, List.nil_append, ↓d46_eP, wfl_eP, flat_eP, eP_agg', take_cap, take_self, take_map, wfl_nil, pr_eta, List.append_nil, ↓d30_eE, ↓d28_eE, wfl_eE, ↓d54_mk, ↓d47_mk, ↓d31_mk, ↓d56_eS, eE_agg, ev_eta, kI_eI]
    · have hb : (e.txn == ea.txn) = false := by simpa using ht
      have er : runE ea.txn (m, ok) e = (m, ok) := by unfold runE; rw [if_neg ht]
      rw [List.foldl_cons, er] at g1 g2
      refine s14_1_run _ _ _ _ _ _ _ _ _ _ _ (o := .head 1 (T14_1 (eEs l) ok (eSs sp) sp.length q (eEs X) X.length ((j + 1 : Nat) : Int) (ePs m) a i)) ?_ (ih (j + 1) _ _ h2 (by omega) hs (by omega) g1 g2)
      simp (disch := omega) only [s14_1, ↓idxK_c h1, ↓idxK_c ha, hb, ↓cond_ite, ↓gd_ite, decide_eq_true_eq, Bool.not_eq_true', gd_true, cond_true, cond_false, if_pos, if_neg, if_true, if_false, Bool.false_eq_true, Bool.true_eq_false, toNat_cast, W_i64, List.length_map, List.length_append, List.length_cons, List.length_nil, ↓kB_mk, ↓kI_mk, ↓kS_mk, ↓kL_mk, ↓kA_mk, ↓kT_mk, ↓kF_mk, ↓unc_mk, ↓unn_mk, ↓opt_mk, Bool.not_true, Bool.not_false, Bool.and_true, Bool.true_and, Bool.and_false, Bool.false_and, beq_self_eq_true, Bool.true_beq, Bool.false_beq, Int.natCast_add, Int.natCast_one, Int.cast_ofNat_Int, List.map_append, List.map_cons, List.map_nil, List.append_assoc, List.nil_append, ↓d46_eP, wfl_eP, flat_eP, eP_agg', take_cap, take_self, take_map, wfl_nil, pr_eta, List.append_nil, ↓d30_eE, ↓d28_eE, wfl_eE, ↓d54_mk, ↓d47_mk, ↓d31_mk, ↓d56_eS, eE_agg, ev_eta, kI_eI]
end

def serA (l : List Ev) (s : List Pr × Bool) (x : Nat × Nat) : List Pr × Bool := (rangeOf l x).foldl (runE (txOf l x.1)) s

theorem serial_loop (l : List Ev) (hl : l.length ≤ 100) (sp : List (Nat × Nat)) (hsp : ∀ x ∈ sp, x.1 ≤ x.2 ∧ x.2 < l.length) (hspl : sp.length ≤ 100) : ∀ (r : List (Nat × Nat)) (q : Nat) (m : List Pr) (ok : Bool), sp.drop q = r → q ≤ sp.length → Sorted m → m.length + r.length * 100 ≤ 1000000 →
    Go hk false 0 fa14 (.head 0 (T14_0 (eEs l) ok (eSs sp) sp.length q (ePs m))) (.done (.tup [.sl (ePs (r.foldl (serA l) (m, ok)).1), .bool (r.foldl (serA l) (m, ok)).2])) ∧
    Go hk false 0 fa14 (.head 0 (T14_0b (eEs l) ok (ePs m) (eSs sp) sp.length q)) (.done (.tup [.sl (ePs (r.foldl (serA l) (m, ok)).1), .bool (r.foldl (serA l) (m, ok)).2])) := by
  intro r
  induction r with
  | nil =>
    intro q m ok hr hq hs hm
    have h1 := drop_nil hr
    constructor
    · refine s14_0_run _ _ _ _ _ _ ?_ (.refl _)
      simp (disch := omega) only [s14_0, List.foldl_nil, ↓cond_ite, ↓gd_ite, decide_eq_true_eq, Bool.not_eq_true', gd_true, cond_true, cond_false, if_pos, if_neg, if_true, if_false, Bool.false_eq_true, Bool.true_eq_false, toNat_cast, W_i64, List.length_map, List.length_append, List.length_cons, List.length_nil, ↓kB_mk, ↓kI_mk, ↓kS_mk, ↓kL_mk, ↓kA_mk, ↓kT_mk, ↓kF_mk, ↓unc_mk, ↓unn_mk, ↓opt_mk, Bool.not_true, Bool.not_false, Bool.and_true, Bool.true_and, Bool.and_false, Bool.false_and, beq_self_eq_true, Bool.true_beq, Bool.false_beq, Int.natCast_add, Int.natCast_one, Int.cast_ofNat_Int, List.map_append, List.map_cons, List.map_nil, List.append_assoc, List.nil_append, ↓d46_eP, wfl_eP, flat_eP, eP_agg', take_cap, take_self, take_map, wfl_nil, pr_eta, List.append_nil, ↓d30_eE, ↓d28_eE, wfl_eE, ↓d54_mk, ↓d47_mk, ↓d31_mk, ↓d56_eS, eE_agg, ev_eta, kI_eI]
    · refine s14_0b_run _ _ _ _ _ _ ?_ (.refl _)
      simp (disch := omega) only [s14_0b, List.foldl_nil, ↓cond_ite, ↓gd_ite, decide_eq_true_eq, Bool.not_eq_true', gd_true, cond_true, cond_false, if_pos, if_neg, if_true, if_false, Bool.false_eq_true, Bool.true_eq_false, toNat_cast, W_i64, List.length_map, List.length_append, List.length_cons, List.length_nil, ↓kB_mk, ↓kI_mk, ↓kS_mk, ↓kL_mk, ↓kA_mk, ↓kT_mk, ↓kF_mk, ↓unc_mk, ↓unn_mk, ↓opt_mk, Bool.not_true, Bool.not_false, Bool.and_true, Bool.true_and, Bool.and_false, Bool.false_and, beq_self_eq_true, Bool.true_beq, Bool.false_beq, Int.natCast_add, Int.natCast_one, Int.cast_ofNat_Int, List.map_append, List.map_cons, List.map_nil, List.append_assoc, List.nil_append, ↓d46_eP, wfl_eP, flat_eP, eP_agg', take_cap, take_self, take_map, wfl_nil, pr_eta, List.append_nil, ↓d30_eE, ↓d28_eE, wfl_eE, ↓d54_mk, ↓d47_mk, ↓d31_mk, ↓d56_eS, eE_agg, ev_eta, kI_eI]
  | cons x r ih =>
    intro q m ok hr hq hs hm
    obtain ⟨h1, h2, h3⟩ := drop_cons hr
    obtain ⟨b1, b2⟩ := hsp x (List.mem_of_getElem? h1)
    simp only [List.length_cons] at hm
    have hax : l[x.1]? = some l[x.1] := List.getElem?_eq_getElem (by omega)
    generalize l[x.1] = ea at hax
    have htx : txOf l x.1 = ea.txn := by unfold txOf; rw [hax]
    have hX : (rangeOf l x).length ≤ 100 := by unfold rangeOf; simp; omega
    have tn : ((x.2 : Int) + 1).toNat = x.2 + 1 := by omega
    have hlen : (rangeOf l x).length = x.2 + 1 - x.1 := by unfold rangeOf; simp; omega
    have eX : ((eEs l).take (x.2 + 1)).drop x.1 = eEs (rangeOf l x) := by unfold rangeOf eEs; rw [List.map_drop, List.map_take]
    obtain ⟨f1, f2⟩ := fold_ok ea.txn (rangeOf l x) (m, ok) hs
    have eS : serA l (m, ok) x = (rangeOf l x).foldl (runE ea.txn) (m, ok) := by unfold serA; rw [htx]
    have next := ih (q + 1) (serA l (m, ok) x).1 (serA l (m, ok) x).2 h2 (by omega) (by rw [eS]; exact f1) (by rw [eS]; simp only at f2; omega)
    rw [List.foldl_cons]
    rw [eS] at next ⊢
    constructor
    · refine s14_0_run _ _ _ _ _ _ (o := .head 1 (T14_1 (eEs l) ok (eSs sp) sp.length q (eEs (rangeOf l x)) (rangeOf l x).length ((0 : Nat) : Int) (ePs m) x.1 x.2)) ?_ (serial_inA hl hax (rangeOf l x) hX (by omega) (rangeOf l x) 0 m ok rfl (Nat.zero_le _) hs (by omega) next.1 next.2)
      simp (disch := omega) only [s14_0, ↓idxK_c h1, tn, eX, ↓cond_ite, ↓gd_ite, decide_eq_true_eq, Bool.not_eq_true', gd_true, cond_true, cond_false, if_pos, if_neg, if_true, if_false, Bool.false_eq_true, Bool.true_eq_false, toNat_cast, W_i64, List.length_map, List.length_append, List.length_cons, List.length_nil, ↓kB_mk, ↓kI_mk, ↓kS_mk, ↓kL_mk, ↓kA_mk, ↓kT_mk, ↓kF_mk, ↓unc_mk, ↓unn_mk, ↓opt_mk, Bool.not_true, Bool.not_false, Bool.and_true, Bool.true_and, Bool.and_false, Bool.false_and, beq_self_eq_true, Bool.true_beq, Bool.false_beq, Int.natCast_add, Int.natCast_one, Int.cast_ofNat_Int, List.map_append, List.map_cons, List.map_nil, List.append_assoc, List.nil_append, ↓d46_eP, wfl_eP, flat_eP, eP_agg', take_cap, take_self, take_map, wfl_nil, pr_eta, List.append_nil, ↓d30_eE, ↓d28_eE, wfl_eE, ↓d54_mk, ↓d47_mk, ↓d31_mk, ↓d56_eS, eE_agg, ev_eta, kI_eI]
    · refine s14_0b_run _ _ _ _ _ _ (o := .head 1 (T14_1b (eEs l) ok (ePs m) (eSs sp) sp.length q (eEs (rangeOf l x)) (rangeOf l x).length ((0 : Nat) : Int) x.1 x.2)) ?_ ((serial_inB hl hax (rangeOf l x) hX (by omega) (rangeOf l x) 0 m ok rfl (Nat.zero_le _) hs (by omega)).trans next.2)
      simp (disch := omega) only [s14_0b, ↓idxK_c h1, tn, eX, ↓cond_ite, ↓gd_ite, decide_eq_true_eq, Bool.not_eq_true', gd_true, cond_true, cond_false, if_pos, if_neg, if_true, if_false, Bool.false_eq_true, Bool.true_eq_false, toNat_cast, W_i64, List.length_map, List.length_append, List.length_cons, List.length_nil, ↓kB_mk, ↓kI_mk, ↓kS_mk, ↓kL_mk, ↓kA_mk, ↓kT_mk, ↓kF_mk, ↓unc_mk, ↓unn_mk, ↓opt_mk, Bool.not_true, Bool.not_false, Bool.and_true, Bool.true_and, Bool.and_false, Bool.false_and, beq_self_eq_true, Bool.true_beq, Bool.false_beq, Int.natCast_add, Int.natCast_one, Int.cast_ofNat_Int, List.map_append, List.map_cons, List.map_nil, List.append_assoc, List.nil_append, ↓d46_eP, wfl_eP, flat_eP, eP_agg', take_cap, take_self, take_map, wfl_nil, pr_eta, List.append_nil, ↓d30_eE, ↓d28_eE, wfl_eE, ↓d54_mk, ↓d47_mk, ↓d31_mk, ↓d56_eS, eE_agg, ev_eta, kI_eI]

theorem coms_mem (l : List Ev) (hr1 : rightF l 0 l = true) : ∀ (r : List Ev) (k : Nat), l.drop k = r → ∀ x ∈ coms l k r, x.1 ≤ x.2 ∧ x.2 < l.length ∧ txOf l x.1 = txOf l x.2 ∧ begun l (txOf l x.2) (x.2 + 1) = some x.1 := by
  intro r
  induction r with
  | nil => intro k hr x hx; simp [coms] at hx
  | cons e r ih =>
    intro k hr x hx
    obtain ⟨h1, h2, h3⟩ := drop_cons hr
    obtain ⟨a, hb⟩ := right_begun l l 0 [] rfl (inv0 l) hr1 k e (Nat.zero_le _) h1
    unfold coms at hx
    split at hx
    · simp only [List.mem_cons] at hx
      rcases hx with rfl | hx
      · obtain ⟨g1, e2, g2, g3, g4⟩ := begun_lt hb
        rw [hb]
        simp only [Option.getD_some]
        refine ⟨by omega, h3, ?_, ?_⟩
        · unfold txOf; rw [g2, h1]; exact g4
        · unfold txOf; rw [h1]; exact hb
      · exact ih (k + 1) h2 x hx
    · exact ih (k + 1) h2 x hx
theorem coms_len (l : List Ev) : ∀ (r : List Ev) (k : Nat), (coms l k r).length ≤ r.length := by
  intro r
  induction r with
  | nil => intro k; simp [coms]
  | cons e r ih => intro k; have := ih (k + 1); unfold coms; split <;> simp <;> omega
theorem foldl_congr' {α β : Type} {f g : β → α → β} : ∀ (l : List α) (b : β), (∀ a ∈ l, ∀ b, f b a = g b a) → l.foldl f b = l.foldl g b := by
  intro l
  induction l with
  | nil => intro b _; rfl
  | cons a l ih => intro b h; rw [List.foldl_cons, List.foldl_cons, h a (by simp), ih _ (fun a ha => h a (by simp [ha]))]

def serV (l : List Ev) (m : List Pr) : V := if rightF l 0 l then .tup [.sl (ePs (serL l m).1), .bool (serL l m).2] else .tup [.sl [], .bool false]

theorem serial (m : List Pr) (l : List Ev) (hl : l.length ≤ 100) (hs : Sorted m) (hm : m.length ≤ 10000) : pcW hcfg 14 [.sl (ePs m), .sl (eEs l)] = some (serV l m) := by
  have h := spans l (by omega)
  rw [span_eq l] at h
  unfold serV
  cases hr1 : rightF l 0 l with
  | false =>
    rw [hr1] at h
    simp only [Bool.false_eq_true, if_false, spanV] at h ⊢
    refine e14_run _ _ ?_ (.refl _)
    simp (disch := omega) only [e14, ↓pcK_of h, ↓cond_ite, ↓gd_ite, decide_eq_true_eq, Bool.not_eq_true', gd_true, cond_true, cond_false, if_pos, if_neg, if_true, if_false, Bool.false_eq_true, Bool.true_eq_false, toNat_cast, W_i64, List.length_map, List.length_append, List.length_cons, List.length_nil, ↓kB_mk, ↓kI_mk, ↓kS_mk, ↓kL_mk, ↓kA_mk, ↓kT_mk, ↓kF_mk, ↓unc_mk, ↓unn_mk, ↓opt_mk, Bool.not_true, Bool.not_false, Bool.and_true, Bool.true_and, Bool.and_false, Bool.false_and, beq_self_eq_true, Bool.true_beq, Bool.false_beq, Int.natCast_add, Int.natCast_one, Int.cast_ofNat_Int, List.map_append, List.map_cons, List.map_nil, List.append_assoc, List.nil_append, ↓d46_eP, wfl_eP, flat_eP, eP_agg', take_cap, take_self, take_map, wfl_nil, pr_eta, List.append_nil, ↓d30_eE, ↓d28_eE, wfl_eE, ↓d54_mk, ↓d47_mk, ↓d31_mk, ↓d56_eS, eE_agg, ev_eta, kI_eI]
  | true =>
    rw [hr1] at h
    simp only [if_true, spanV] at h ⊢
    have hcl := coms_len l l 0
    have hcm := coms_mem l hr1 l 0 rfl
    have e1 : (coms l 0 l).foldl (serA l) (m, true) = serL l m := by
      unfold serL
      apply foldl_congr'
      intro x hx b
      unfold serA serE
      rw [(hcm x hx).2.2.1]
    have hg := (serial_loop l hl (coms l 0 l) (fun x hx => ⟨(hcm x hx).1, (hcm x hx).2.1⟩) (by omega) (coms l 0 l) 0 m true rfl (Nat.zero_le _) hs (by omega)).1
    rw [e1] at hg
    refine e14_run _ _ (o := .head 0 (T14_0 (eEs l) true (eSs (coms l 0 l)) (coms l 0 l).length ((0 : Nat) : Int) (ePs m))) ?_ hg
    simp (disch := omega) only [e14, ↓pcK_of h, ↓pcK_of (clone m (by omega)), ↓cond_ite, ↓gd_ite, decide_eq_true_eq, Bool.not_eq_true', gd_true, cond_true, cond_false, if_pos, if_neg, if_true, if_false, Bool.false_eq_true, Bool.true_eq_false, toNat_cast, W_i64, List.length_map, List.length_append, List.length_cons, List.length_nil, ↓kB_mk, ↓kI_mk, ↓kS_mk, ↓kL_mk, ↓kA_mk, ↓kT_mk, ↓kF_mk, ↓unc_mk, ↓unn_mk, ↓opt_mk, Bool.not_true, Bool.not_false, Bool.and_true, Bool.true_and, Bool.and_false, Bool.false_and, beq_self_eq_true, Bool.true_beq, Bool.false_beq, Int.natCast_add, Int.natCast_one, Int.cast_ofNat_Int, List.map_append, List.map_cons, List.map_nil, List.append_assoc, List.nil_append, ↓d46_eP, wfl_eP, flat_eP, eP_agg', take_cap, take_self, take_map, wfl_nil, pr_eta, List.append_nil, ↓d30_eE, ↓d28_eE, wfl_eE, ↓d54_mk, ↓d47_mk, ↓d31_mk, ↓d56_eS, eE_agg, ev_eta, kI_eI]

/-! ### Serial, for the document -/

def short (e : Ev) : Prop := e.key.length ≤ 20 ∧ e.pairs.length ≤ 1000000

theorem rserial_in {l : List Ev} (hl : l.length ≤ 100) (hsh : ∀ e ∈ l, short e) {i : Nat} {ei : Ev} (hi : l[i]? = some ei) (hilt : i < l.length) : ∀ (r : List Ev) (j : Nat) (m : List Pr) (ok : Bool), (l.take (i + 1)).drop j = r → j ≤ i + 1 → Sorted m → m.length + r.length ≤ 1000000 →
    Go hk false 0 fa15 (.head 1 (T15_1 (eEs l) (ePs m) ok i j)) (.head 0 (T15_0 (eEs l) (ePs (r.foldl (runE ei.txn) (m, ok)).1) (r.foldl (runE ei.txn) (m, ok)).2 ((i + 1 : Nat) : Int))) := by
  intro r
  induction r with
  | nil =>
    intro j m ok hr hj hs hm
    have h1 := drop_nil hr
    have : j = i + 1 := by simp at h1; omega
    subst this
    refine s15_1_run _ _ _ _ _ ?_ (.refl _)
    simp (disch := omega) only [s15_1, List.foldl_nil, ↓cond_ite, ↓gd_ite, decide_eq_true_eq, Bool.not_eq_true', gd_true, cond_true, cond_false, if_pos, if_neg, if_true, if_false, Bool.false_eq_true, Bool.true_eq_false, toNat_cast, W_i64, List.length_map, List.length_append, List.length_cons, List.length_nil, ↓kB_mk, ↓kI_mk, ↓kS_mk, ↓kL_mk, ↓kA_mk, ↓kT_mk, ↓kF_mk, ↓unc_mk, ↓unn_mk, ↓opt_mk, Bool.not_true, Bool.not_false, Bool.and_true, Bool.true_and, Bool.and_false, Bool.false_and, beq_self_eq_true, Bool.true_beq, Bool.false_beq, Int.natCast_add, Int.natCast_one, Int.cast_ofNat_Int, List.map_append, List.map_cons, List.map_nil, List.append_assoc, List.nil_append, ↓d46_eP, wfl_eP, flat_eP, eP_agg', take_cap, take_self, take_map, wfl_nil, pr_eta, List.append_nil, ↓d30_eE, ↓d28_eE, wfl_eE, ↓d54_mk, ↓d47_mk, ↓d31_mk, ↓d56_eS, eE_agg, ev_eta, kI_eI]
  | cons e r ih =>
    intro j m ok hr hj hs hm
    obtain ⟨h1', h2, h3⟩ := drop_cons hr
    have hjl : j < i + 1 := by simp at h3; omega
    have h1 : l[j]? = some e := by rw [List.getElem?_take_of_lt hjl] at h1'; exact h1'
    simp only [List.length_cons] at hm
    by_cases ht : e.txn = ei.txn
    · have hb : (e.txn == ei.txn) = true := by simpa using ht
      obtain ⟨q1, q2⟩ := hsh e (List.mem_of_getElem? h1)
      have hd := doR m e (by omega) q1 q2
      obtain ⟨k1, k2⟩ := doE_ok hs e
      have er : runE ei.txn (m, ok) e = ((doE m e).1, ok && (doE m e).2) := by unfold runE; rw [if_pos ht]
      rw [List.foldl_cons, er]
      refine s15_1_run _ _ _ _ _ (o := .head 1 (T15_1 (eEs l) (ePs (doE m e).1) (ok && (doE m e).2) i ((j + 1 : Nat) : Int))) ?_ (ih (j + 1) _ _ h2 (by omega) k1 (by omega))
      cases ok <;> simp (disch := omega) only [s15_1, ↓idxK_c h1, ↓idxK_c hi, hb, ↓pcK_of hd, ↓cond_ite, ↓gd_ite, decide_eq_true_eq, Bool.not_eq_true', gd_true, cond_true, cond_false, if_pos, if_neg, if_true, if_false, Bool.false_eq_true, Bool.true_eq_false, toNat_cast, W_i64, List.length_map, List.length_append, List.length_cons, List.length_nil, ↓kB_mk, ↓kI_mk, ↓kS_mk, ↓kL_mk, ↓kA_mk, ↓kT_mk, ↓kF_mk, ↓unc_mk, ↓unn_mk, ↓opt_mk, Bool.not_true, Bool.not_false, Bool.and_true, Bool.true_and, Bool.and_false, Bool.false_and, beq_self_eq_true, Bool.true_beq, Bool.false_beq, Int.natCast_add, Int.natCast_one, Int.cast_ofNat_Int, List.map_append, List.map_cons, List.map_nil, List.append_assoc, List.nil_append, ↓d46_eP, wfl_eP, flat_eP, eP_agg', take_cap, take_self, take_map, wfl_nil, pr_eta, List.append_nil, ↓d30_eE, ↓d28_eE, wfl_eE, ↓d54_mk, ↓d47_mk, ↓d31_mk, ↓d56_eS, eE_agg, ev_eta, kI_eI]
    · have hb : (e.txn == ei.txn) = false := by simpa using ht
      have er : runE ei.txn (m, ok) e = (m, ok) := by unfold runE; rw [if_neg ht]
      rw [List.foldl_cons, er]
      refine s15_1_run _ _ _ _ _ (o := .head 1 (T15_1 (eEs l) (ePs m) ok i ((j + 1 : Nat) : Int))) ?_ (ih (j + 1) _ _ h2 (by omega) hs (by omega))
      simp (disch := omega) only [s15_1, ↓idxK_c h1, ↓idxK_c hi, hb, ↓cond_ite, ↓gd_ite, decide_eq_true_eq, Bool.not_eq_true', gd_true, cond_true, cond_false, if_pos, if_neg, if_true, if_false, Bool.false_eq_true, Bool.true_eq_false, toNat_cast, W_i64, List.length_map, List.length_append, List.length_cons, List.length_nil, ↓kB_mk, ↓kI_mk, ↓kS_mk, ↓kL_mk, ↓kA_mk, ↓kT_mk, ↓kF_mk, ↓unc_mk, ↓unn_mk, ↓opt_mk, Bool.not_true, Bool.not_false, Bool.and_true, Bool.true_and, Bool.and_false, Bool.false_and, beq_self_eq_true, Bool.true_beq, Bool.false_beq, Int.natCast_add, Int.natCast_one, Int.cast_ofNat_Int, List.map_append, List.map_cons, List.map_nil, List.append_assoc, List.nil_append, ↓d46_eP, wfl_eP, flat_eP, eP_agg', take_cap, take_self, take_map, wfl_nil, pr_eta, List.append_nil, ↓d30_eE, ↓d28_eE, wfl_eE, ↓d54_mk, ↓d47_mk, ↓d31_mk, ↓d56_eS, eE_agg, ev_eta, kI_eI]
theorem rserial_loop (l : List Ev) (hl : l.length ≤ 100) (hsh : ∀ e ∈ l, short e) (hr1 : rightF l 0 l = true) : ∀ (r : List Ev) (k : Nat) (m : List Pr) (ok : Bool), l.drop k = r → k ≤ l.length → Sorted m → m.length + r.length * 100 ≤ 1000000 →
    Go hk false 0 fa15 (.head 0 (T15_0 (eEs l) (ePs m) ok k)) (.done (.tup [.sl (ePs ((coms l k r).foldl (serE l) (m, ok)).1), .bool ((coms l k r).foldl (serE l) (m, ok)).2])) := by
  intro r
  induction r with
  | nil =>
    intro k m ok hr hk hs hm
    have h1 := drop_nil hr
    refine s15_0_run _ _ _ _ ?_ (.refl _)
    simp (disch := omega) only [s15_0, coms, List.foldl_nil, ↓cond_ite, ↓gd_ite, decide_eq_true_eq, Bool.not_eq_true', gd_true, cond_true, cond_false, if_pos, if_neg, if_true, if_false, Bool.false_eq_true, Bool.true_eq_false, toNat_cast, W_i64, List.length_map, List.length_append, List.length_cons, List.length_nil, ↓kB_mk, ↓kI_mk, ↓kS_mk, ↓kL_mk, ↓kA_mk, ↓kT_mk, ↓kF_mk, ↓unc_mk, ↓unn_mk, ↓opt_mk, Bool.not_true, Bool.not_false, Bool.and_true, Bool.true_and, Bool.and_false, Bool.false_and, beq_self_eq_true, Bool.true_beq, Bool.false_beq, Int.natCast_add, Int.natCast_one, Int.cast_ofNat_Int, List.map_append, List.map_cons, List.map_nil, List.append_assoc, List.nil_append, ↓d46_eP, wfl_eP, flat_eP, eP_agg', take_cap, take_self, take_map, wfl_nil, pr_eta, List.append_nil, ↓d30_eE, ↓d28_eE, wfl_eE, ↓d54_mk, ↓d47_mk, ↓d31_mk, ↓d56_eS, eE_agg, ev_eta, kI_eI]
  | cons e r ih =>
    intro k m ok hr hk hs hm
    obtain ⟨h1, h2, h3⟩ := drop_cons hr
    simp only [List.length_cons] at hm
    by_cases c6 : e.kind = 6
    · obtain ⟨a, hb⟩ := right_begun l l 0 [] rfl (inv0 l) hr1 k e (Nat.zero_le _) h1
      have hbl := (begun_lt hb).1
      have b6 : (e.kind != 6) = false := by simp [c6]
      have htx : txOf l k = e.txn := by unfold txOf; rw [h1]
      have ec : coms l k (e :: r) = (a, k) :: coms l (k + 1) r := by simp [coms, c6, hb]
      have eS : serE l (m, ok) (a, k) = ((l.take (k + 1)).drop a).foldl (runE e.txn) (m, ok) := by unfold serE rangeOf; rw [htx]
      obtain ⟨f1, f2⟩ := fold_ok e.txn ((l.take (k + 1)).drop a) (m, ok) hs
      have f3 : ((l.take (k + 1)).drop a).length ≤ 100 := by simp; omega
      rw [ec, List.foldl_cons, eS]
      simp only at f2
      refine s15_0_run _ _ _ _ (o := .head 1 (T15_1 (eEs l) (ePs m) ok k a)) ?_ ((rserial_in hl hsh h1 h3 _ a m ok rfl (by omega) hs (by omega)).trans (ih (k + 1) _ _ h2 (by omega) f1 (by omega)))
      simp (disch := omega) only [s15_0, ↓idxK_c h1, b6, ↓pcK_of (start h1 (by omega) hb), ↓cond_ite, ↓gd_ite, decide_eq_true_eq, Bool.not_eq_true', gd_true, cond_true, cond_false, if_pos, if_neg, if_true, if_false, Bool.false_eq_true, Bool.true_eq_false, toNat_cast, W_i64, List.length_map, List.length_append, List.length_cons, List.length_nil, ↓kB_mk, ↓kI_mk, ↓kS_mk, ↓kL_mk, ↓kA_mk, ↓kT_mk, ↓kF_mk, ↓unc_mk, ↓unn_mk, ↓opt_mk, Bool.not_true, Bool.not_false, Bool.and_true, Bool.true_and, Bool.and_false, Bool.false_and, beq_self_eq_true, Bool.true_beq, Bool.false_beq, Int.natCast_add, Int.natCast_one, Int.cast_ofNat_Int, List.map_append, List.map_cons, List.map_nil, List.append_assoc, List.nil_append, ↓d46_eP, wfl_eP, flat_eP, eP_agg', take_cap, take_self, take_map, wfl_nil, pr_eta, List.append_nil, ↓d30_eE, ↓d28_eE, wfl_eE, ↓d54_mk, ↓d47_mk, ↓d31_mk, ↓d56_eS, eE_agg, ev_eta, kI_eI]
    · have b6 : (e.kind != 6) = true := by simpa using c6
      have ec : coms l k (e :: r) = coms l (k + 1) r := by simp [coms, c6]
      rw [ec]
      refine s15_0_run _ _ _ _ (o := .head 0 (T15_0 (eEs l) (ePs m) ok ((k + 1 : Nat) : Int))) ?_ (ih (k + 1) m ok h2 (by omega) hs (by omega))
      simp (disch := omega) only [s15_0, ↓idxK_c h1, b6, ↓cond_ite, ↓gd_ite, decide_eq_true_eq, Bool.not_eq_true', gd_true, cond_true, cond_false, if_pos, if_neg, if_true, if_false, Bool.false_eq_true, Bool.true_eq_false, toNat_cast, W_i64, List.length_map, List.length_append, List.length_cons, List.length_nil, ↓kB_mk, ↓kI_mk, ↓kS_mk, ↓kL_mk, ↓kA_mk, ↓kT_mk, ↓kF_mk, ↓unc_mk, ↓unn_mk, ↓opt_mk, Bool.not_true, Bool.not_false, Bool.and_true, Bool.true_and, Bool.and_false, Bool.false_and, beq_self_eq_true, Bool.true_beq, Bool.false_beq, Int.natCast_add, Int.natCast_one, Int.cast_ofNat_Int, List.map_append, List.map_cons, List.map_nil, List.append_assoc, List.nil_append, ↓d46_eP, wfl_eP, flat_eP, eP_agg', take_cap, take_self, take_map, wfl_nil, pr_eta, List.append_nil, ↓d30_eE, ↓d28_eE, wfl_eE, ↓d54_mk, ↓d47_mk, ↓d31_mk, ↓d56_eS, eE_agg, ev_eta, kI_eI]
theorem rserial (m : List Pr) (l : List Ev) (hl : l.length ≤ 100) (hsh : ∀ e ∈ l, short e) (hs : Sorted m) (hm : m.length ≤ 10000) : pcW hcfg 15 [.sl (ePs m), .sl (eEs l)] = some (serV l m) := by
  have h := rright l (by omega)
  unfold serV
  cases hr1 : rightF l 0 l with
  | false =>
    rw [hr1] at h
    simp only [Bool.false_eq_true, if_false]
    refine e15_run _ _ ?_ (.refl _)
    simp (disch := omega) only [e15, ↓pcK_of h, ↓cond_ite, ↓gd_ite, decide_eq_true_eq, Bool.not_eq_true', gd_true, cond_true, cond_false, if_pos, if_neg, if_true, if_false, Bool.false_eq_true, Bool.true_eq_false, toNat_cast, W_i64, List.length_map, List.length_append, List.length_cons, List.length_nil, ↓kB_mk, ↓kI_mk, ↓kS_mk, ↓kL_mk, ↓kA_mk, ↓kT_mk, ↓kF_mk, ↓unc_mk, ↓unn_mk, ↓opt_mk, Bool.not_true, Bool.not_false, Bool.and_true, Bool.true_and, Bool.and_false, Bool.false_and, beq_self_eq_true, Bool.true_beq, Bool.false_beq, Int.natCast_add, Int.natCast_one, Int.cast_ofNat_Int, List.map_append, List.map_cons, List.map_nil, List.append_assoc, List.nil_append, ↓d46_eP, wfl_eP, flat_eP, eP_agg', take_cap, take_self, take_map, wfl_nil, pr_eta, List.append_nil, ↓d30_eE, ↓d28_eE, wfl_eE, ↓d54_mk, ↓d47_mk, ↓d31_mk, ↓d56_eS, eE_agg, ev_eta, kI_eI]
  | true =>
    rw [hr1] at h
    simp only [if_true]
    refine e15_run _ _ (o := .head 0 (T15_0 (eEs l) (ePs m) true ((0 : Nat) : Int))) ?_ (rserial_loop l hl hsh hr1 l 0 m true rfl (Nat.zero_le _) hs (by omega))
    simp (disch := omega) only [e15, ↓pcK_of h, ↓cond_ite, ↓gd_ite, decide_eq_true_eq, Bool.not_eq_true', gd_true, cond_true, cond_false, if_pos, if_neg, if_true, if_false, Bool.false_eq_true, Bool.true_eq_false, toNat_cast, W_i64, List.length_map, List.length_append, List.length_cons, List.length_nil, ↓kB_mk, ↓kI_mk, ↓kS_mk, ↓kL_mk, ↓kA_mk, ↓kT_mk, ↓kF_mk, ↓unc_mk, ↓unn_mk, ↓opt_mk, Bool.not_true, Bool.not_false, Bool.and_true, Bool.true_and, Bool.and_false, Bool.false_and, beq_self_eq_true, Bool.true_beq, Bool.false_beq, Int.natCast_add, Int.natCast_one, Int.cast_ofNat_Int, List.map_append, List.map_cons, List.map_nil, List.append_assoc, List.nil_append, ↓d46_eP, wfl_eP, flat_eP, eP_agg', take_cap, take_self, take_map, wfl_nil, pr_eta, List.append_nil, ↓d30_eE, ↓d28_eE, wfl_eE, ↓d54_mk, ↓d47_mk, ↓d31_mk, ↓d56_eS, eE_agg, ev_eta, kI_eI]

end Go.Proofs.Ythojkngbpcjicaa
