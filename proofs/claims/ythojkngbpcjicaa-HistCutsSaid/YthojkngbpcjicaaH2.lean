/-
  What the functions of hist hand back: maps.
-/
import Derived.Test.YthojkngbpcjicaaLite23
import Derived.Test.YthojkngbpcjicaaH1
namespace Go.Proofs.Ythojkngbpcjicaa
open Go Go.Lite
set_option linter.unusedSimpArgs false
set_option linter.unusedVariables false

abbrev Bs := List UInt8
abbrev Pr := Bs × Bs
def eP (p : Pr) : V := .agg [.str p.1, .str p.2]
abbrev ePs (l : List Pr) : List V := l.map eP
theorem d46_eP (p : Pr) (k : Bs → Bs → R) : d46 (eP p) k = k p.1 p.2 := rfl
theorem wfl_eP (l : List Pr) : wfl 2 (l.map eP) = true := wfl_map fun _ => rfl
theorem flat_eP (l : List Pr) : ((l.map eP).all fun x => x.cells.all V.flat1) = true := flat_map fun _ => rfl
theorem eP_agg' (a b : Bs) : V.agg [V.str a, V.str b] = eP (a, b) := rfl
theorem take_cap {α : Type} (s : List α) : s.take (if (20 : Int) < (s.length : Int) then 20 else (s.length : Int)).toNat = s.take 20 := by
  by_cases h : 20 < s.length
  · rw [if_pos (by omega)]; rfl
  · rw [if_neg (by omega), toNat_cast, List.take_length, List.take_of_length_le (by omega)]
theorem take_map {α : Type} (l : List α) (f : α → V) : (l.map f).take l.length = l.map f := by rw [← List.map_take, List.take_length]
theorem wfl_nil {c : Nat} : wfl c [] = true := rfl
theorem pr_eta (p : Pr) : (p.1, p.2) = p := rfl
theorem take_self {α : Type} (s : List α) : s.take s.length = s := List.take_length

def cutP (p : Pr) : Pr := (p.1.take 20, p.2.take 20)

/-! ### the order of texts -/

abbrev lt (a b : Bs) : Bool := Op.bytesLess a b
theorem lt_irr (a : Bs) : lt a a = false := by
  induction a with
  | nil => rfl
  | cons x a ih => simp only [lt, Op.bytesLess] at ih ⊢; simp [ih]
theorem lt_trans {a b c : Bs} (h : lt a b = true) (h' : lt b c = true) : lt a c = true := by
  induction a generalizing b c with
  | nil =>
    cases c with
    | nil => cases b <;> simp [Op.bytesLess] at h'
    | cons y c => rfl
  | cons x a ih =>
    cases b with
    | nil => simp [Op.bytesLess] at h
    | cons y b =>
      cases c with
      | nil => simp [Op.bytesLess] at h'
      | cons z c =>
        simp only [lt, Op.bytesLess, Bool.or_eq_true, decide_eq_true_eq, Bool.and_eq_true, beq_iff_eq] at h h' ⊢
        rcases h with h | ⟨rfl, h⟩
        · rcases h' with h' | ⟨rfl, h'⟩
          · exact .inl (UInt8.lt_trans h h')
          · exact .inl h
        · rcases h' with h' | ⟨rfl, h'⟩
          · exact .inl h'
          · exact .inr ⟨rfl, ih h h'⟩
theorem lt_tri {a b : Bs} (h : lt a b = false) (hn : a ≠ b) : lt b a = true := by
  induction a generalizing b with
  | nil =>
    cases b with
    | nil => exact (hn rfl).elim
    | cons y b => simp [Op.bytesLess] at h
  | cons x a ih =>
    cases b with
    | nil => rfl
    | cons y b =>
      simp only [lt, Op.bytesLess, Bool.or_eq_false_iff, decide_eq_false_iff_not, Bool.and_eq_false_imp, beq_iff_eq, Bool.or_eq_true, decide_eq_true_eq, Bool.and_eq_true] at h ⊢
      by_cases e : x = y
      · subst e
        exact .inr ⟨rfl, ih (h.2 rfl) (fun e => hn (by rw [e]))⟩
      · left
        rcases UInt8.lt_or_lt_of_ne e with h1 | h1
        · exact (h.1 h1).elim
        · exact h1
theorem lt_ne {a b : Bs} (h : lt a b = true) : a ≠ b := by
  intro e; subst e; rw [lt_irr] at h; cases h
theorem lt_asymm {a b : Bs} (h : lt a b = true) : lt b a = false := by
  cases h' : lt b a with
  | false => rfl
  | true => have := lt_trans h h'; rw [lt_irr] at this; cases this

/-! ### Less -/

theorem less_loop (a b : Bs) (hl : b.length < 4611686018427387904) : ∀ (r s : Bs) (k : Nat), a.drop k = r → b.drop k = s → k ≤ a.length → k ≤ b.length →
    Go hk false 0 fa37 (.head 0 (T37_0 a b k)) (.done (.bool (lt r s))) := by
  intro r
  induction r with
  | nil =>
    intro s k hr hs ha hb
    have h1 := drop_nil hr
    refine s37_0_run _ _ _ ?_ (.refl _)
    cases s with
    | nil =>
      have h2 := drop_nil hs
      have e : decide ((a.length : Int) < (b.length : Int)) = false := decide_eq_false (by omega)
      simp (disch := omega) only [s37_0, lt, Op.bytesLess, e, ↓cond_ite, ↓gd_ite, decide_eq_true_eq, Bool.not_eq_true', gd_true, cond_true, cond_false, if_pos, if_neg, if_true, if_false, Bool.false_eq_true, Bool.true_eq_false, toNat_cast, W_i64, List.length_map, List.length_append, List.length_cons, List.length_nil, ↓kB_mk, ↓kI_mk, ↓kS_mk, ↓kL_mk, ↓kA_mk, ↓kT_mk, ↓kF_mk, ↓unc_mk, ↓unn_mk, ↓opt_mk, Bool.not_true, Bool.not_false, Bool.and_true, Bool.true_and, Bool.and_false, Bool.false_and, beq_self_eq_true, Bool.true_beq, Bool.false_beq, Int.natCast_add, Int.natCast_one, Int.cast_ofNat_Int, List.map_append, List.map_cons, List.map_nil, List.append_assoc, List.nil_append, ↓d46_eP, wfl_eP, flat_eP, eP_agg', take_cap, take_self, take_map, wfl_nil, pr_eta, List.append_nil]
    | cons y s =>
      obtain ⟨_, _, h3⟩ := drop_cons hs
      have e : decide ((a.length : Int) < (b.length : Int)) = true := decide_eq_true (by omega)
      simp (disch := omega) only [s37_0, lt, Op.bytesLess, e, ↓cond_ite, ↓gd_ite, decide_eq_true_eq, Bool.not_eq_true', gd_true, cond_true, cond_false, if_pos, if_neg, if_true, if_false, Bool.false_eq_true, Bool.true_eq_false, toNat_cast, W_i64, List.length_map, List.length_append, List.length_cons, List.length_nil, ↓kB_mk, ↓kI_mk, ↓kS_mk, ↓kL_mk, ↓kA_mk, ↓kT_mk, ↓kF_mk, ↓unc_mk, ↓unn_mk, ↓opt_mk, Bool.not_true, Bool.not_false, Bool.and_true, Bool.true_and, Bool.and_false, Bool.false_and, beq_self_eq_true, Bool.true_beq, Bool.false_beq, Int.natCast_add, Int.natCast_one, Int.cast_ofNat_Int, List.map_append, List.map_cons, List.map_nil, List.append_assoc, List.nil_append, ↓d46_eP, wfl_eP, flat_eP, eP_agg', take_cap, take_self, take_map, wfl_nil, pr_eta, List.append_nil]
  | cons x r ih =>
    intro s k hr hs ha hb
    obtain ⟨h1, h2, h3⟩ := drop_cons hr
    cases s with
    | nil =>
      have h4 := drop_nil hs
      refine s37_0_run _ _ _ ?_ (.refl _)
      have e : decide ((a.length : Int) < (b.length : Int)) = false := decide_eq_false (by omega)
      simp (disch := omega) only [s37_0, lt, Op.bytesLess, e, ↓cond_ite, ↓gd_ite, decide_eq_true_eq, Bool.not_eq_true', gd_true, cond_true, cond_false, if_pos, if_neg, if_true, if_false, Bool.false_eq_true, Bool.true_eq_false, toNat_cast, W_i64, List.length_map, List.length_append, List.length_cons, List.length_nil, ↓kB_mk, ↓kI_mk, ↓kS_mk, ↓kL_mk, ↓kA_mk, ↓kT_mk, ↓kF_mk, ↓unc_mk, ↓unn_mk, ↓opt_mk, Bool.not_true, Bool.not_false, Bool.and_true, Bool.true_and, Bool.and_false, Bool.false_and, beq_self_eq_true, Bool.true_beq, Bool.false_beq, Int.natCast_add, Int.natCast_one, Int.cast_ofNat_Int, List.map_append, List.map_cons, List.map_nil, List.append_assoc, List.nil_append, ↓d46_eP, wfl_eP, flat_eP, eP_agg', take_cap, take_self, take_map, wfl_nil, pr_eta, List.append_nil]
    | cons y s =>
      obtain ⟨h4, h5, h6⟩ := drop_cons hs
      by_cases e : x = y
      · subst e
        refine s37_0_run _ _ _ (o := .head 0 (T37_0 a b ((k + 1 : Nat) : Int))) ?_ ?_
        · simp (disch := omega) only [s37_0, idxK_of h1, idxK_of h4, bne_self_eq_false, ↓cond_ite, ↓gd_ite, decide_eq_true_eq, Bool.not_eq_true', gd_true, cond_true, cond_false, if_pos, if_neg, if_true, if_false, Bool.false_eq_true, Bool.true_eq_false, toNat_cast, W_i64, List.length_map, List.length_append, List.length_cons, List.length_nil, ↓kB_mk, ↓kI_mk, ↓kS_mk, ↓kL_mk, ↓kA_mk, ↓kT_mk, ↓kF_mk, ↓unc_mk, ↓unn_mk, ↓opt_mk, Bool.not_true, Bool.not_false, Bool.and_true, Bool.true_and, Bool.and_false, Bool.false_and, beq_self_eq_true, Bool.true_beq, Bool.false_beq, Int.natCast_add, Int.natCast_one, Int.cast_ofNat_Int, List.map_append, List.map_cons, List.map_nil, List.append_assoc, List.nil_append, ↓d46_eP, wfl_eP, flat_eP, eP_agg', take_cap, take_self, take_map, wfl_nil, pr_eta, List.append_nil]
        · have := ih s (k + 1) h2 h5 (by omega) (by omega)
          have e : lt (x :: r) (x :: s) = lt r s := by simp [lt, Op.bytesLess]
          rw [e]; exact this
      · refine s37_0_run _ _ _ ?_ (.refl _)
        have e2 : ((x.toNat : Int) != (y.toNat : Int)) = true := by
          simp only [bne_iff_ne, ne_eq, Int.natCast_inj]
          exact fun h => e (UInt8.toNat_inj.1 h)
        have e3 : lt (x :: r) (y :: s) = decide ((x.toNat : Int) < (y.toNat : Int)) := by
          simp [lt, Op.bytesLess, e, UInt8.lt_iff_toNat_lt]
        simp (disch := omega) only [s37_0, idxK_of h1, idxK_of h4, e2, e3, ↓cond_ite, ↓gd_ite, decide_eq_true_eq, Bool.not_eq_true', gd_true, cond_true, cond_false, if_pos, if_neg, if_true, if_false, Bool.false_eq_true, Bool.true_eq_false, toNat_cast, W_i64, List.length_map, List.length_append, List.length_cons, List.length_nil, ↓kB_mk, ↓kI_mk, ↓kS_mk, ↓kL_mk, ↓kA_mk, ↓kT_mk, ↓kF_mk, ↓unc_mk, ↓unn_mk, ↓opt_mk, Bool.not_true, Bool.not_false, Bool.and_true, Bool.true_and, Bool.and_false, Bool.false_and, beq_self_eq_true, Bool.true_beq, Bool.false_beq, Int.natCast_add, Int.natCast_one, Int.cast_ofNat_Int, List.map_append, List.map_cons, List.map_nil, List.append_assoc, List.nil_append, ↓d46_eP, wfl_eP, flat_eP, eP_agg', take_cap, take_self, take_map, wfl_nil, pr_eta, List.append_nil]
theorem less (a b : Bs) (hl : b.length < 4611686018427387904) : pcW hcfg 37 [.str a, .str b] = some (.bool (lt a b)) :=
  e37_run a b rfl (less_loop a b hl a b 0 rfl rfl (Nat.zero_le _) (Nat.zero_le _))

/-! ### rows of pairs -/

theorem pairs_loop (l : List Pr) : ∀ (r : List Pr) (k : Nat) (acc : List Pr), l.drop k = r → acc.length = k → k ≤ 20 →
    Go hk false 0 fa28 (.head 0 (T28_0 (ePs l) k (ePs acc))) (.done (.fr 46 (ePs (acc ++ (r.take (20 - k)).map cutP)))) := by
  intro r
  induction r with
  | nil =>
    intro k acc hr ha hk
    have h1 := drop_nil hr
    refine s28_0_run _ _ _ ?_ (.refl _)
    simp (disch := omega) only [s28_0, List.take_nil, List.append_nil, ↓cond_ite, ↓gd_ite, decide_eq_true_eq, Bool.not_eq_true', gd_true, cond_true, cond_false, if_pos, if_neg, if_true, if_false, Bool.false_eq_true, Bool.true_eq_false, toNat_cast, W_i64, List.length_map, List.length_append, List.length_cons, List.length_nil, ↓kB_mk, ↓kI_mk, ↓kS_mk, ↓kL_mk, ↓kA_mk, ↓kT_mk, ↓kF_mk, ↓unc_mk, ↓unn_mk, ↓opt_mk, Bool.not_true, Bool.not_false, Bool.and_true, Bool.true_and, Bool.and_false, Bool.false_and, beq_self_eq_true, Bool.true_beq, Bool.false_beq, Int.natCast_add, Int.natCast_one, Int.cast_ofNat_Int, List.map_append, List.map_cons, List.map_nil, List.append_assoc, List.nil_append, ↓d46_eP, wfl_eP, flat_eP, eP_agg', take_cap, take_self, take_map, wfl_nil, pr_eta, List.append_nil]
  | cons x r ih =>
    intro k acc hr ha hk
    obtain ⟨h1, h2, h3⟩ := drop_cons hr
    by_cases hk2 : k < 20
    · refine s28_0_run _ _ _ (o := .head 0 (T28_0 (ePs l) ((k + 1 : Nat) : Int) (ePs (acc ++ [cutP x])))) ?_ ?_
      · simp (disch := omega) only [s28_0, idxK_map h1, cutP, ↓cond_ite, ↓gd_ite, decide_eq_true_eq, Bool.not_eq_true', gd_true, cond_true, cond_false, if_pos, if_neg, if_true, if_false, Bool.false_eq_true, Bool.true_eq_false, toNat_cast, W_i64, List.length_map, List.length_append, List.length_cons, List.length_nil, ↓kB_mk, ↓kI_mk, ↓kS_mk, ↓kL_mk, ↓kA_mk, ↓kT_mk, ↓kF_mk, ↓unc_mk, ↓unn_mk, ↓opt_mk, Bool.not_true, Bool.not_false, Bool.and_true, Bool.true_and, Bool.and_false, Bool.false_and, beq_self_eq_true, Bool.true_beq, Bool.false_beq, Int.natCast_add, Int.natCast_one, Int.cast_ofNat_Int, List.map_append, List.map_cons, List.map_nil, List.append_assoc, List.nil_append, ↓d46_eP, wfl_eP, flat_eP, eP_agg', take_cap, take_self, take_map, wfl_nil, pr_eta, List.append_nil]
      · have := ih (k + 1) (acc ++ [cutP x]) h2 (by simp [ha]) (by omega)
        rw [show 20 - k = (20 - (k + 1)) + 1 by omega]
        simpa using this
    · have : k = 20 := by omega
      refine s28_0_run _ _ _ ?_ (.refl _)
      simp (disch := omega) only [s28_0, this, Nat.sub_self, List.take_zero, List.append_nil, ↓cond_ite, ↓gd_ite, decide_eq_true_eq, Bool.not_eq_true', gd_true, cond_true, cond_false, if_pos, if_neg, if_true, if_false, Bool.false_eq_true, Bool.true_eq_false, toNat_cast, W_i64, List.length_map, List.length_append, List.length_cons, List.length_nil, ↓kB_mk, ↓kI_mk, ↓kS_mk, ↓kL_mk, ↓kA_mk, ↓kT_mk, ↓kF_mk, ↓unc_mk, ↓unn_mk, ↓opt_mk, Bool.not_true, Bool.not_false, Bool.and_true, Bool.true_and, Bool.and_false, Bool.false_and, beq_self_eq_true, Bool.true_beq, Bool.false_beq, Int.natCast_add, Int.natCast_one, Int.cast_ofNat_Int, List.map_append, List.map_cons, List.map_nil, List.append_assoc, List.nil_append, ↓d46_eP, wfl_eP, flat_eP, eP_agg', take_cap, take_self, take_map, wfl_nil, pr_eta, List.append_nil]
theorem pairs (l : List Pr) : pcW hcfg 28 [.sl (ePs l)] = some (.fr 46 (ePs ((l.take 20).map cutP))) :=
  e28_run _ rfl (by simpa using pairs_loop l l 0 [] rfl rfl (by omega))

theorem without_loop (l : List Pr) (key : Bs) (hl : l.length ≤ 1000000) : ∀ (r : List Pr) (k : Nat) (acc : List Pr), l.drop k = r → acc.length ≤ k → k ≤ l.length →
    Go hk false 0 fa40 (.head 0 (T40_0 (ePs l) key k (ePs acc))) (.done (.fr 46 (ePs (acc ++ r.filter fun p => !(p.1 == key))))) := by
  intro r
  induction r with
  | nil =>
    intro k acc hr ha hk
    have h1 := drop_nil hr
    refine s40_0_run _ _ _ _ ?_ (.refl _)
    simp (disch := omega) only [s40_0, List.filter_nil, List.append_nil, ↓cond_ite, ↓gd_ite, decide_eq_true_eq, Bool.not_eq_true', gd_true, cond_true, cond_false, if_pos, if_neg, if_true, if_false, Bool.false_eq_true, Bool.true_eq_false, toNat_cast, W_i64, List.length_map, List.length_append, List.length_cons, List.length_nil, ↓kB_mk, ↓kI_mk, ↓kS_mk, ↓kL_mk, ↓kA_mk, ↓kT_mk, ↓kF_mk, ↓unc_mk, ↓unn_mk, ↓opt_mk, Bool.not_true, Bool.not_false, Bool.and_true, Bool.true_and, Bool.and_false, Bool.false_and, beq_self_eq_true, Bool.true_beq, Bool.false_beq, Int.natCast_add, Int.natCast_one, Int.cast_ofNat_Int, List.map_append, List.map_cons, List.map_nil, List.append_assoc, List.nil_append, ↓d46_eP, wfl_eP, flat_eP, eP_agg', take_cap, take_self, take_map, wfl_nil, pr_eta, List.append_nil]
  | cons x r ih =>
    intro k acc hr ha hk
    obtain ⟨h1, h2, h3⟩ := drop_cons hr
    cases hx : (x.1 == key) with
    | true =>
      refine s40_0_run _ _ _ _ (o := .head 0 (T40_0 (ePs l) key ((k + 1 : Nat) : Int) (ePs acc))) ?_ ?_
      · simp (disch := omega) only [s40_0, idxK_map h1, hx, ↓cond_ite, ↓gd_ite, decide_eq_true_eq, Bool.not_eq_true', gd_true, cond_true, cond_false, if_pos, if_neg, if_true, if_false, Bool.false_eq_true, Bool.true_eq_false, toNat_cast, W_i64, List.length_map, List.length_append, List.length_cons, List.length_nil, ↓kB_mk, ↓kI_mk, ↓kS_mk, ↓kL_mk, ↓kA_mk, ↓kT_mk, ↓kF_mk, ↓unc_mk, ↓unn_mk, ↓opt_mk, Bool.not_true, Bool.not_false, Bool.and_true, Bool.true_and, Bool.and_false, Bool.false_and, beq_self_eq_true, Bool.true_beq, Bool.false_beq, Int.natCast_add, Int.natCast_one, Int.cast_ofNat_Int, List.map_append, List.map_cons, List.map_nil, List.append_assoc, List.nil_append, ↓d46_eP, wfl_eP, flat_eP, eP_agg', take_cap, take_self, take_map, wfl_nil, pr_eta, List.append_nil]
      · have := ih (k + 1) acc h2 (by omega) (by omega)
        simpa [hx] using this
    | false =>
      refine s40_0_run _ _ _ _ (o := .head 0 (T40_0 (ePs l) key ((k + 1 : Nat) : Int) (ePs (acc ++ [x])))) ?_ ?_
      · simp (disch := omega) only [s40_0, idxK_map h1, hx, ↓cond_ite, ↓gd_ite, decide_eq_true_eq, Bool.not_eq_true', gd_true, cond_true, cond_false, if_pos, if_neg, if_true, if_false, Bool.false_eq_true, Bool.true_eq_false, toNat_cast, W_i64, List.length_map, List.length_append, List.length_cons, List.length_nil, ↓kB_mk, ↓kI_mk, ↓kS_mk, ↓kL_mk, ↓kA_mk, ↓kT_mk, ↓kF_mk, ↓unc_mk, ↓unn_mk, ↓opt_mk, Bool.not_true, Bool.not_false, Bool.and_true, Bool.true_and, Bool.and_false, Bool.false_and, beq_self_eq_true, Bool.true_beq, Bool.false_beq, Int.natCast_add, Int.natCast_one, Int.cast_ofNat_Int, List.map_append, List.map_cons, List.map_nil, List.append_assoc, List.nil_append, ↓d46_eP, wfl_eP, flat_eP, eP_agg', take_cap, take_self, take_map, wfl_nil, pr_eta, List.append_nil]
      · have := ih (k + 1) (acc ++ [x]) h2 (by simp; omega) (by omega)
        simpa [hx] using this
theorem without (l : List Pr) (key : Bs) (hl : l.length ≤ 1000000) : pcW hcfg 40 [.sl (ePs l), .str key] = some (.fr 46 (ePs (l.filter fun p => !(p.1 == key)))) :=
  e40_run _ _ rfl (by simpa using without_loop l key hl l 0 [] rfl (by simp) (by omega))

theorem cutR_loop (l : List Pr) (key : Bs) (hl : l.length ≤ 1000000) : ∀ (r : List Pr) (k : Nat) (acc : List Pr), l.drop k = r → acc.length ≤ k → k ≤ l.length →
    Go hk false 0 fa27 (.head 0 (T27_0 (ePs l) key k (ePs acc))) (.done (.fr 46 (ePs (acc ++ r.filter fun p => !(p.1 == key))))) := by
  intro r
  induction r with
  | nil =>
    intro k acc hr ha hk
    have h1 := drop_nil hr
    refine s27_0_run _ _ _ _ ?_ (.refl _)
    simp (disch := omega) only [s27_0, List.filter_nil, List.append_nil, ↓cond_ite, ↓gd_ite, decide_eq_true_eq, Bool.not_eq_true', gd_true, cond_true, cond_false, if_pos, if_neg, if_true, if_false, Bool.false_eq_true, Bool.true_eq_false, toNat_cast, W_i64, List.length_map, List.length_append, List.length_cons, List.length_nil, ↓kB_mk, ↓kI_mk, ↓kS_mk, ↓kL_mk, ↓kA_mk, ↓kT_mk, ↓kF_mk, ↓unc_mk, ↓unn_mk, ↓opt_mk, Bool.not_true, Bool.not_false, Bool.and_true, Bool.true_and, Bool.and_false, Bool.false_and, beq_self_eq_true, Bool.true_beq, Bool.false_beq, Int.natCast_add, Int.natCast_one, Int.cast_ofNat_Int, List.map_append, List.map_cons, List.map_nil, List.append_assoc, List.nil_append, ↓d46_eP, wfl_eP, flat_eP, eP_agg', take_cap, take_self, take_map, wfl_nil, pr_eta, List.append_nil]
  | cons x r ih =>
    intro k acc hr ha hk
    obtain ⟨h1, h2, h3⟩ := drop_cons hr
    cases hx : (x.1 == key) with
    | true =>
      refine s27_0_run _ _ _ _ (o := .head 0 (T27_0 (ePs l) key ((k + 1 : Nat) : Int) (ePs acc))) ?_ ?_
      · simp (disch := omega) only [s27_0, idxK_map h1, hx, ↓cond_ite, ↓gd_ite, decide_eq_true_eq, Bool.not_eq_true', gd_true, cond_true, cond_false, if_pos, if_neg, if_true, if_false, Bool.false_eq_true, Bool.true_eq_false, toNat_cast, W_i64, List.length_map, List.length_append, List.length_cons, List.length_nil, ↓kB_mk, ↓kI_mk, ↓kS_mk, ↓kL_mk, ↓kA_mk, ↓kT_mk, ↓kF_mk, ↓unc_mk, ↓unn_mk, ↓opt_mk, Bool.not_true, Bool.not_false, Bool.and_true, Bool.true_and, Bool.and_false, Bool.false_and, beq_self_eq_true, Bool.true_beq, Bool.false_beq, Int.natCast_add, Int.natCast_one, Int.cast_ofNat_Int, List.map_append, List.map_cons, List.map_nil, List.append_assoc, List.nil_append, ↓d46_eP, wfl_eP, flat_eP, eP_agg', take_cap, take_self, take_map, wfl_nil, pr_eta, List.append_nil]
      · have := ih (k + 1) acc h2 (by omega) (by omega)
        simpa [hx] using this
    | false =>
      refine s27_0_run _ _ _ _ (o := .head 0 (T27_0 (ePs l) key ((k + 1 : Nat) : Int) (ePs (acc ++ [x])))) ?_ ?_
      · simp (disch := omega) only [s27_0, idxK_map h1, hx, ↓cond_ite, ↓gd_ite, decide_eq_true_eq, Bool.not_eq_true', gd_true, cond_true, cond_false, if_pos, if_neg, if_true, if_false, Bool.false_eq_true, Bool.true_eq_false, toNat_cast, W_i64, List.length_map, List.length_append, List.length_cons, List.length_nil, ↓kB_mk, ↓kI_mk, ↓kS_mk, ↓kL_mk, ↓kA_mk, ↓kT_mk, ↓kF_mk, ↓unc_mk, ↓unn_mk, ↓opt_mk, Bool.not_true, Bool.not_false, Bool.and_true, Bool.true_and, Bool.and_false, Bool.false_and, beq_self_eq_true, Bool.true_beq, Bool.false_beq, Int.natCast_add, Int.natCast_one, Int.cast_ofNat_Int, List.map_append, List.map_cons, List.map_nil, List.append_assoc, List.nil_append, ↓d46_eP, wfl_eP, flat_eP, eP_agg', take_cap, take_self, take_map, wfl_nil, pr_eta, List.append_nil]
      · have := ih (k + 1) (acc ++ [x]) h2 (by simp; omega) (by omega)
        simpa [hx] using this
theorem cutR (l : List Pr) (key : Bs) (hl : l.length ≤ 1000000) : pcW hcfg 27 [.sl (ePs l), .str key] = some (.fr 46 (ePs (l.filter fun p => !(p.1 == key)))) :=
  e27_run _ _ rfl (by simpa using cutR_loop l key hl l 0 [] rfl (by simp) (by omega))

/-- where a key stands, or would -/
def lb (m : List Pr) (k : Bs) : Nat := (m.takeWhile fun p => lt p.1 k).length
def has (m : List Pr) (k : Bs) : Bool := match m[lb m k]? with | some p => p.1 == k | none => false

theorem with_loop (l : List Pr) (p : Pr) (hp : p.1.length ≤ 20) (hl : l.length ≤ 1000000) : ∀ (r : List Pr) (k : Nat) (acc : List Pr), l.drop k = r → acc.length = k → k ≤ l.length →
    Go hk false 0 fa29 (.head 0 (T29_0 (ePs l) k p.1 p.2 (ePs acc))) (.done (.fr 46 (ePs (acc ++ r.takeWhile (fun q => lt q.1 p.1) ++ [p] ++ r.dropWhile fun q => lt q.1 p.1)))) := by
  intro r
  induction r with
  | nil =>
    intro k acc hr ha hk
    have h1 := drop_nil hr
    have e : (ePs l).drop k = [] := by rw [ePs, ← List.map_drop, hr]; rfl
    refine s29_0_run _ _ _ _ _ ?_ (.refl _)
    have f := flat_eP (acc ++ [p])
    simp only [List.map_append, List.map_cons, List.map_nil] at f
    simp (disch := omega) only [s29_0, List.takeWhile_nil, List.dropWhile_nil, List.append_nil, e, f, wfl_eP [], ↓cond_ite, ↓gd_ite, decide_eq_true_eq, Bool.not_eq_true', gd_true, cond_true, cond_false, if_pos, if_neg, if_true, if_false, Bool.false_eq_true, Bool.true_eq_false, toNat_cast, W_i64, List.length_map, List.length_append, List.length_cons, List.length_nil, ↓kB_mk, ↓kI_mk, ↓kS_mk, ↓kL_mk, ↓kA_mk, ↓kT_mk, ↓kF_mk, ↓unc_mk, ↓unn_mk, ↓opt_mk, Bool.not_true, Bool.not_false, Bool.and_true, Bool.true_and, Bool.and_false, Bool.false_and, beq_self_eq_true, Bool.true_beq, Bool.false_beq, Int.natCast_add, Int.natCast_one, Int.cast_ofNat_Int, List.map_append, List.map_cons, List.map_nil, List.append_assoc, List.nil_append, ↓d46_eP, wfl_eP, flat_eP, eP_agg', take_cap, take_self, take_map, wfl_nil, pr_eta, List.append_nil]
  | cons x r ih =>
    intro k acc hr ha hk
    obtain ⟨h1, h2, h3⟩ := drop_cons hr
    have hless := less x.1 p.1 (by omega)
    have e : (ePs l).drop k = eP x :: ePs r := by rw [ePs, ← List.map_drop, hr]; rfl
    have hrl : r.length ≤ 1000000 := by rw [← h2]; simp; omega
    cases hx : lt x.1 p.1 with
    | true =>
      refine s29_0_run _ _ _ _ _ (o := .head 0 (T29_0 (ePs l) ((k + 1 : Nat) : Int) p.1 p.2 (ePs (acc ++ [x])))) ?_ ?_
      · simp (disch := omega) only [s29_0, idxK_map h1, pcK_of hless, hx, ↓cond_ite, ↓gd_ite, decide_eq_true_eq, Bool.not_eq_true', gd_true, cond_true, cond_false, if_pos, if_neg, if_true, if_false, Bool.false_eq_true, Bool.true_eq_false, toNat_cast, W_i64, List.length_map, List.length_append, List.length_cons, List.length_nil, ↓kB_mk, ↓kI_mk, ↓kS_mk, ↓kL_mk, ↓kA_mk, ↓kT_mk, ↓kF_mk, ↓unc_mk, ↓unn_mk, ↓opt_mk, Bool.not_true, Bool.not_false, Bool.and_true, Bool.true_and, Bool.and_false, Bool.false_and, beq_self_eq_true, Bool.true_beq, Bool.false_beq, Int.natCast_add, Int.natCast_one, Int.cast_ofNat_Int, List.map_append, List.map_cons, List.map_nil, List.append_assoc, List.nil_append, ↓d46_eP, wfl_eP, flat_eP, eP_agg', take_cap, take_self, take_map, wfl_nil, pr_eta, List.append_nil]
      · have := ih (k + 1) (acc ++ [x]) h2 (by simp; omega) (by omega)
        simpa [hx] using this
    | false =>
      refine s29_0_run _ _ _ _ _ ?_ (.refl _)
      have f := flat_eP (acc ++ p :: x :: r)
      have w := wfl_eP (x :: r)
      simp only [List.map_append, List.map_cons, List.map_nil] at f w
      have e1 : (x :: r).takeWhile (fun q => lt q.1 p.1) = [] := by simp [hx]
      have e2 : (x :: r).dropWhile (fun q => lt q.1 p.1) = x :: r := by simp [hx]
      simp (disch := omega) only [s29_0, idxK_map h1, pcK_of hless, hx, e, e1, e2, f, w, List.append_nil, List.cons_append, ↓cond_ite, ↓gd_ite, decide_eq_true_eq, Bool.not_eq_true', gd_true, cond_true, cond_false, if_pos, if_neg, if_true, if_false, Bool.false_eq_true, Bool.true_eq_false, toNat_cast, W_i64, List.length_map, List.length_append, List.length_cons, List.length_nil, ↓kB_mk, ↓kI_mk, ↓kS_mk, ↓kL_mk, ↓kA_mk, ↓kT_mk, ↓kF_mk, ↓unc_mk, ↓unn_mk, ↓opt_mk, Bool.not_true, Bool.not_false, Bool.and_true, Bool.true_and, Bool.and_false, Bool.false_and, beq_self_eq_true, Bool.true_beq, Bool.false_beq, Int.natCast_add, Int.natCast_one, Int.cast_ofNat_Int, List.map_append, List.map_cons, List.map_nil, List.append_assoc, List.nil_append, ↓d46_eP, wfl_eP, flat_eP, eP_agg', take_cap, take_self, take_map, wfl_nil, pr_eta, List.append_nil]

/-- a map with one more pair, as the statements make it -/
def withP (m : List Pr) (p : Pr) : List Pr :=
  (m.filter fun q => !(q.1 == p.1)).takeWhile (fun q => lt q.1 p.1) ++ [p] ++ (m.filter fun q => !(q.1 == p.1)).dropWhile fun q => lt q.1 p.1
theorem with_ (m : List Pr) (p : Pr) (hp : p.1.length ≤ 20) (hl : m.length ≤ 1000000) : pcW hcfg 29 [.sl (ePs m), eP p] = some (.fr 46 (ePs (withP m p))) := by
  refine e29_run _ _ _ (o := .head 0 (T29_0 (ePs (m.filter fun q => !(q.1 == p.1))) ((0 : Nat) : Int) p.1 p.2 (ePs []))) ?_ ?_
  · simp (disch := omega) only [e29, pcK_of (without m p.1 hl), ↓cond_ite, ↓gd_ite, decide_eq_true_eq, Bool.not_eq_true', gd_true, cond_true, cond_false, if_pos, if_neg, if_true, if_false, Bool.false_eq_true, Bool.true_eq_false, toNat_cast, W_i64, List.length_map, List.length_append, List.length_cons, List.length_nil, ↓kB_mk, ↓kI_mk, ↓kS_mk, ↓kL_mk, ↓kA_mk, ↓kT_mk, ↓kF_mk, ↓unc_mk, ↓unn_mk, ↓opt_mk, Bool.not_true, Bool.not_false, Bool.and_true, Bool.true_and, Bool.and_false, Bool.false_and, beq_self_eq_true, Bool.true_beq, Bool.false_beq, Int.natCast_add, Int.natCast_one, Int.cast_ofNat_Int, List.map_append, List.map_cons, List.map_nil, List.append_assoc, List.nil_append, ↓d46_eP, wfl_eP, flat_eP, eP_agg', take_cap, take_self, take_map, wfl_nil, pr_eta, List.append_nil]
  · have := with_loop (m.filter fun q => !(q.1 == p.1)) p hp (Nat.le_trans (List.length_filter_le _ _) hl) _ 0 [] rfl rfl (by omega)
    simpa [withP] using this

/-! ### where a key stands -/

def Sorted (m : List Pr) : Prop := m.Pairwise fun p q => lt p.1 q.1 = true

theorem lb_le (m : List Pr) (k : Bs) : lb m k ≤ m.length := (List.takeWhile_sublist _).length_le
theorem lb_cons (p : Pr) (m : List Pr) (k : Bs) : lb (p :: m) k = if lt p.1 k then lb m k + 1 else 0 := by
  unfold lb
  by_cases h : lt p.1 k = true <;> simp [h]
/-- of a sorted row: the elements below the key are those ahead of its place -/
theorem lb_iff {m : List Pr} (hs : Sorted m) (k : Bs) : ∀ {i : Nat} {p : Pr}, m[i]? = some p → (lt p.1 k = true ↔ i < lb m k) := by
  induction m with
  | nil => intro i p h; simp at h
  | cons q m ih =>
    intro i p h
    have hs' := List.pairwise_cons.1 hs
    rw [lb_cons]
    cases i with
    | zero =>
      simp only [List.getElem?_cons_zero, Option.some.injEq] at h
      subst h
      by_cases e : lt q.1 k = true <;> simp [e]
    | succ i =>
      simp only [List.getElem?_cons_succ] at h
      have hq := hs'.1 p (List.mem_of_getElem? h)
      have := ih hs'.2 h
      by_cases e : lt q.1 k = true
      · simp [e, this]
      · constructor
        · intro h'; exact (e (lt_trans hq h')).elim
        · intro h'; simp [e] at h'

def cmpI (a b : Bs) : Int := if a == b then 0 else if lt a b then -1 else 1
theorem cmp_spec (a b : Bs) : pcW hcfg 36 [.str a, .str b] = some (.int .i64 (cmpI a b)) := pcW_prim (g := cmpPr) rfl rfl
theorem cmpP (p : Pr) (k : Bs) : pcW hcfg 35 [eP p, .str k] = some (.int .i64 (cmpI p.1 k)) :=
  e35_done _ _ _ (by simp (disch := omega) only [e35, pcK_of (cmp_spec p.1 k), ↓cond_ite, ↓gd_ite, decide_eq_true_eq, Bool.not_eq_true', gd_true, cond_true, cond_false, if_pos, if_neg, if_true, if_false, Bool.false_eq_true, Bool.true_eq_false, toNat_cast, W_i64, List.length_map, List.length_append, List.length_cons, List.length_nil, ↓kB_mk, ↓kI_mk, ↓kS_mk, ↓kL_mk, ↓kA_mk, ↓kT_mk, ↓kF_mk, ↓unc_mk, ↓unn_mk, ↓opt_mk, Bool.not_true, Bool.not_false, Bool.and_true, Bool.true_and, Bool.and_false, Bool.false_and, beq_self_eq_true, Bool.true_beq, Bool.false_beq, Int.natCast_add, Int.natCast_one, Int.cast_ofNat_Int, List.map_append, List.map_cons, List.map_nil, List.append_assoc, List.nil_append, ↓d46_eP, wfl_eP, flat_eP, eP_agg', take_cap, take_self, take_map, wfl_nil, pr_eta, List.append_nil])
theorem cmp_lt (a k : Bs) : cmpI a k < 0 ↔ lt a k = true := by
  unfold cmpI
  cases h : (a == k) with
  | true => have : a = k := by simpa using h
            subst this; simp [lt_irr]
  | false => cases h2 : lt a k <;> simp
theorem cmp_eq (a k : Bs) : (cmpI a k == 0) = (a == k) := by
  unfold cmpI
  cases h : (a == k) with
  | true => simp
  | false => cases h2 : lt a k <;> simp

theorem half {i j : Nat} (h : i + j < 4611686018427387904) : W .i64 ((W .u64 ((i : Int) + (j : Int))).fdiv (2 ^ (min 1 (IntKind.bits .u64)))) = ((i + j) / 2 : Nat) := by
  rw [W_u64 (by omega)]
  have e : (2 : Int) ^ (min 1 (IntKind.bits .u64)) = 2 := rfl
  rw [e, Int.fdiv_eq_ediv_of_nonneg _ (by omega)]
  have e2 : ((i : Int) + (j : Int)) / 2 = ((i + j) / 2 : Nat) := by omega
  rw [e2]
  exact W_i64 (by omega)

theorem search_loop (m : List Pr) (hs : Sorted m) (k : Bs) (hl : m.length ≤ 1000000) : ∀ (d i j : Nat), j - i ≤ d → i ≤ lb m k → lb m k ≤ j → j ≤ m.length →
    Go hk false 0 fa34 (.head 0 (T34_0 (ePs m) k m.length i j)) (.done (.tup [.int .i64 (lb m k), .bool (has m k)])) := by
  intro d
  induction d with
  | zero =>
    intro i j hd hi hj hn
    have e : i = lb m k := by omega
    refine s34_0_run _ _ _ _ _ ?_ (.refl _)
    by_cases hlt : i < m.length
    · have h1 : m[i]? = some m[i] := List.getElem?_eq_getElem hlt
      have e2 : has m k = (m[i].1 == k) := by unfold has; rw [← e, h1]
      rw [← e]
      simp (disch := omega) only [s34_0, idxK_map h1, pcK_of (cmpP m[i] k), cmp_eq, e2, ↓cond_ite, ↓gd_ite, decide_eq_true_eq, Bool.not_eq_true', gd_true, cond_true, cond_false, if_pos, if_neg, if_true, if_false, Bool.false_eq_true, Bool.true_eq_false, toNat_cast, W_i64, List.length_map, List.length_append, List.length_cons, List.length_nil, ↓kB_mk, ↓kI_mk, ↓kS_mk, ↓kL_mk, ↓kA_mk, ↓kT_mk, ↓kF_mk, ↓unc_mk, ↓unn_mk, ↓opt_mk, Bool.not_true, Bool.not_false, Bool.and_true, Bool.true_and, Bool.and_false, Bool.false_and, beq_self_eq_true, Bool.true_beq, Bool.false_beq, Int.natCast_add, Int.natCast_one, Int.cast_ofNat_Int, List.map_append, List.map_cons, List.map_nil, List.append_assoc, List.nil_append, ↓d46_eP, wfl_eP, flat_eP, eP_agg', take_cap, take_self, take_map, wfl_nil, pr_eta, List.append_nil]
    · have e2 : has m k = false := by unfold has; rw [← e, List.getElem?_eq_none (by omega)]
      rw [← e]
      simp (disch := omega) only [s34_0, e2, ↓cond_ite, ↓gd_ite, decide_eq_true_eq, Bool.not_eq_true', gd_true, cond_true, cond_false, if_pos, if_neg, if_true, if_false, Bool.false_eq_true, Bool.true_eq_false, toNat_cast, W_i64, List.length_map, List.length_append, List.length_cons, List.length_nil, ↓kB_mk, ↓kI_mk, ↓kS_mk, ↓kL_mk, ↓kA_mk, ↓kT_mk, ↓kF_mk, ↓unc_mk, ↓unn_mk, ↓opt_mk, Bool.not_true, Bool.not_false, Bool.and_true, Bool.true_and, Bool.and_false, Bool.false_and, beq_self_eq_true, Bool.true_beq, Bool.false_beq, Int.natCast_add, Int.natCast_one, Int.cast_ofNat_Int, List.map_append, List.map_cons, List.map_nil, List.append_assoc, List.nil_append, ↓d46_eP, wfl_eP, flat_eP, eP_agg', take_cap, take_self, take_map, wfl_nil, pr_eta, List.append_nil]
  | succ d ih =>
    intro i j hd hi hj hn
    by_cases hij : i < j
    · have hh := half (i := i) (j := j) (by omega)
      generalize hg : (i + j) / 2 = h at hh
      have hb : i ≤ h ∧ h < j := by omega
      have h1 : m[h]? = some m[h] := List.getElem?_eq_getElem (by omega)
      have hlb := lb_iff hs k h1
      cases hx : lt m[h].1 k with
      | true =>
        refine s34_0_run _ _ _ _ _ (o := .head 0 (T34_0 (ePs m) k m.length ((h + 1 : Nat) : Int) j)) ?_ (ih (h + 1) j (by omega) (by have := hlb.1 hx; omega) hj hn)
        simp (disch := omega) only [s34_0, hh, idxK_map h1, pcK_of (cmpP m[h] k), cmp_lt, hx, ↓cond_ite, ↓gd_ite, decide_eq_true_eq, Bool.not_eq_true', gd_true, cond_true, cond_false, if_pos, if_neg, if_true, if_false, Bool.false_eq_true, Bool.true_eq_false, toNat_cast, W_i64, List.length_map, List.length_append, List.length_cons, List.length_nil, ↓kB_mk, ↓kI_mk, ↓kS_mk, ↓kL_mk, ↓kA_mk, ↓kT_mk, ↓kF_mk, ↓unc_mk, ↓unn_mk, ↓opt_mk, Bool.not_true, Bool.not_false, Bool.and_true, Bool.true_and, Bool.and_false, Bool.false_and, beq_self_eq_true, Bool.true_beq, Bool.false_beq, Int.natCast_add, Int.natCast_one, Int.cast_ofNat_Int, List.map_append, List.map_cons, List.map_nil, List.append_assoc, List.nil_append, ↓d46_eP, wfl_eP, flat_eP, eP_agg', take_cap, take_self, take_map, wfl_nil, pr_eta, List.append_nil]
      | false =>
        have hge : lb m k ≤ h := by
          rcases Nat.lt_or_ge h (lb m k) with q | q
          · rw [hlb.2 q] at hx; cases hx
          · exact q
        refine s34_0_run _ _ _ _ _ (o := .head 0 (T34_0 (ePs m) k m.length i h)) ?_ (ih i h (by omega) hi hge (by omega))
        simp (disch := omega) only [s34_0, hh, idxK_map h1, pcK_of (cmpP m[h] k), cmp_lt, hx, ↓cond_ite, ↓gd_ite, decide_eq_true_eq, Bool.not_eq_true', gd_true, cond_true, cond_false, if_pos, if_neg, if_true, if_false, Bool.false_eq_true, Bool.true_eq_false, toNat_cast, W_i64, List.length_map, List.length_append, List.length_cons, List.length_nil, ↓kB_mk, ↓kI_mk, ↓kS_mk, ↓kL_mk, ↓kA_mk, ↓kT_mk, ↓kF_mk, ↓unc_mk, ↓unn_mk, ↓opt_mk, Bool.not_true, Bool.not_false, Bool.and_true, Bool.true_and, Bool.and_false, Bool.false_and, beq_self_eq_true, Bool.true_beq, Bool.false_beq, Int.natCast_add, Int.natCast_one, Int.cast_ofNat_Int, List.map_append, List.map_cons, List.map_nil, List.append_assoc, List.nil_append, ↓d46_eP, wfl_eP, flat_eP, eP_agg', take_cap, take_self, take_map, wfl_nil, pr_eta, List.append_nil]
    · exact ih i j (by omega) hi hj hn
theorem search (m : List Pr) (hs : Sorted m) (k : Bs) (hl : m.length ≤ 1000000) : pcW hcfg 34 [.sl (ePs m), .str k, .fn 35 []] = some (.tup [.int .i64 (lb m k), .bool (has m k)]) := by
  refine e34_run _ _ (o := .head 0 (T34_0 (ePs m) k m.length ((0 : Nat) : Int) m.length)) ?_ (search_loop m hs k hl _ 0 m.length (Nat.le_refl _) (Nat.zero_le _) (lb_le m k) (Nat.le_refl _))
  simp (disch := omega) only [e34, ↓cond_ite, ↓gd_ite, decide_eq_true_eq, Bool.not_eq_true', gd_true, cond_true, cond_false, if_pos, if_neg, if_true, if_false, Bool.false_eq_true, Bool.true_eq_false, toNat_cast, W_i64, List.length_map, List.length_append, List.length_cons, List.length_nil, ↓kB_mk, ↓kI_mk, ↓kS_mk, ↓kL_mk, ↓kA_mk, ↓kT_mk, ↓kF_mk, ↓unc_mk, ↓unn_mk, ↓opt_mk, Bool.not_true, Bool.not_false, Bool.and_true, Bool.true_and, Bool.and_false, Bool.false_and, beq_self_eq_true, Bool.true_beq, Bool.false_beq, Int.natCast_add, Int.natCast_one, Int.cast_ofNat_Int, List.map_append, List.map_cons, List.map_nil, List.append_assoc, List.nil_append, ↓d46_eP, wfl_eP, flat_eP, eP_agg', take_cap, take_self, take_map, wfl_nil, pr_eta, List.append_nil]
theorem find (m : List Pr) (hs : Sorted m) (k : Bs) (hl : m.length ≤ 1000000) : pcW hcfg 22 [.sl (ePs m), .str k] = some (.tup [.int .i64 (lb m k), .bool (has m k)]) :=
  e22_done _ _ (by simp (disch := omega) only [e22, pcK_of (search m hs k hl), d47_mk, ↓cond_ite, ↓gd_ite, decide_eq_true_eq, Bool.not_eq_true', gd_true, cond_true, cond_false, if_pos, if_neg, if_true, if_false, Bool.false_eq_true, Bool.true_eq_false, toNat_cast, W_i64, List.length_map, List.length_append, List.length_cons, List.length_nil, ↓kB_mk, ↓kI_mk, ↓kS_mk, ↓kL_mk, ↓kA_mk, ↓kT_mk, ↓kF_mk, ↓unc_mk, ↓unn_mk, ↓opt_mk, Bool.not_true, Bool.not_false, Bool.and_true, Bool.true_and, Bool.and_false, Bool.false_and, beq_self_eq_true, Bool.true_beq, Bool.false_beq, Int.natCast_add, Int.natCast_one, Int.cast_ofNat_Int, List.map_append, List.map_cons, List.map_nil, List.append_assoc, List.nil_append, ↓d46_eP, wfl_eP, flat_eP, eP_agg', take_cap, take_self, take_map, wfl_nil, pr_eta, List.append_nil])

theorem findR_loop (m : List Pr) (key : Bs) (hkl : key.length ≤ 20) (hl : m.length ≤ 1000000) : ∀ (r : List Pr) (k : Nat), m.drop k = r → k ≤ m.length → lb m key = k + lb r key →
    Go hk false 0 fa23 (.head 0 (T23_0 (ePs m) key k)) (.done (.tup [.int .i64 (lb m key), .bool (has m key)])) := by
  intro r
  induction r with
  | nil =>
    intro k hr hk hb
    have h1 := drop_nil hr
    have e : lb m key = k := by rw [hb]; rfl
    have e2 : has m key = false := by unfold has; rw [e, List.getElem?_eq_none (by omega)]
    refine s23_0_run _ _ _ ?_ (.refl _)
    simp (disch := omega) only [s23_0, e, e2, ↓cond_ite, ↓gd_ite, decide_eq_true_eq, Bool.not_eq_true', gd_true, cond_true, cond_false, if_pos, if_neg, if_true, if_false, Bool.false_eq_true, Bool.true_eq_false, toNat_cast, W_i64, List.length_map, List.length_append, List.length_cons, List.length_nil, ↓kB_mk, ↓kI_mk, ↓kS_mk, ↓kL_mk, ↓kA_mk, ↓kT_mk, ↓kF_mk, ↓unc_mk, ↓unn_mk, ↓opt_mk, Bool.not_true, Bool.not_false, Bool.and_true, Bool.true_and, Bool.and_false, Bool.false_and, beq_self_eq_true, Bool.true_beq, Bool.false_beq, Int.natCast_add, Int.natCast_one, Int.cast_ofNat_Int, List.map_append, List.map_cons, List.map_nil, List.append_assoc, List.nil_append, ↓d46_eP, wfl_eP, flat_eP, eP_agg', take_cap, take_self, take_map, wfl_nil, pr_eta, List.append_nil]
  | cons x r ih =>
    intro k hr hk hb
    obtain ⟨h1, h2, h3⟩ := drop_cons hr
    have hless := less x.1 key (by omega)
    rw [lb_cons] at hb
    cases hx : lt x.1 key with
    | true =>
      rw [hx] at hb
      refine s23_0_run _ _ _ (o := .head 0 (T23_0 (ePs m) key ((k + 1 : Nat) : Int))) ?_ (ih (k + 1) h2 (by omega) (by simp at hb; omega))
      simp (disch := omega) only [s23_0, idxK_map h1, pcK_of hless, hx, ↓cond_ite, ↓gd_ite, decide_eq_true_eq, Bool.not_eq_true', gd_true, cond_true, cond_false, if_pos, if_neg, if_true, if_false, Bool.false_eq_true, Bool.true_eq_false, toNat_cast, W_i64, List.length_map, List.length_append, List.length_cons, List.length_nil, ↓kB_mk, ↓kI_mk, ↓kS_mk, ↓kL_mk, ↓kA_mk, ↓kT_mk, ↓kF_mk, ↓unc_mk, ↓unn_mk, ↓opt_mk, Bool.not_true, Bool.not_false, Bool.and_true, Bool.true_and, Bool.and_false, Bool.false_and, beq_self_eq_true, Bool.true_beq, Bool.false_beq, Int.natCast_add, Int.natCast_one, Int.cast_ofNat_Int, List.map_append, List.map_cons, List.map_nil, List.append_assoc, List.nil_append, ↓d46_eP, wfl_eP, flat_eP, eP_agg', take_cap, take_self, take_map, wfl_nil, pr_eta, List.append_nil]
    | false =>
      rw [hx] at hb
      have e : lb m key = k := by simpa using hb
      have e2 : has m key = (x.1 == key) := by unfold has; rw [e, h1]
      refine s23_0_run _ _ _ ?_ (.refl _)
      simp (disch := omega) only [s23_0, idxK_map h1, pcK_of hless, hx, e, e2, ↓cond_ite, ↓gd_ite, decide_eq_true_eq, Bool.not_eq_true', gd_true, cond_true, cond_false, if_pos, if_neg, if_true, if_false, Bool.false_eq_true, Bool.true_eq_false, toNat_cast, W_i64, List.length_map, List.length_append, List.length_cons, List.length_nil, ↓kB_mk, ↓kI_mk, ↓kS_mk, ↓kL_mk, ↓kA_mk, ↓kT_mk, ↓kF_mk, ↓unc_mk, ↓unn_mk, ↓opt_mk, Bool.not_true, Bool.not_false, Bool.and_true, Bool.true_and, Bool.and_false, Bool.false_and, beq_self_eq_true, Bool.true_beq, Bool.false_beq, Int.natCast_add, Int.natCast_one, Int.cast_ofNat_Int, List.map_append, List.map_cons, List.map_nil, List.append_assoc, List.nil_append, ↓d46_eP, wfl_eP, flat_eP, eP_agg', take_cap, take_self, take_map, wfl_nil, pr_eta, List.append_nil]
theorem findR (m : List Pr) (k : Bs) (hkl : k.length ≤ 20) (hl : m.length ≤ 1000000) : pcW hcfg 23 [.sl (ePs m), .str k] = some (.tup [.int .i64 (lb m k), .bool (has m k)]) :=
  e23_run _ _ rfl (findR_loop m k hkl hl m 0 rfl (Nat.zero_le _) (by omega))

theorem clone (m : List Pr) (hl : m.length ≤ 1000000) : pcW hcfg 30 [.sl (ePs m)] = some (.fr 46 (ePs m)) := by
  refine pcW_prim (g := cloneP 46 2) rfl ?_
  exact if_pos ⟨wfl_eP m, flat_eP m, by simp only [List.length_map]; omega⟩

def layH (m : List Pr) (p : Pr) : List Pr := if has m p.1 then m.set (lb m p.1) p else m.take (lb m p.1) ++ [p] ++ m.drop (lb m p.1)
def layR (m : List Pr) (p : Pr) : List Pr := m.take (lb m p.1) ++ [p] ++ (m.drop (lb m p.1)).filter fun q => !(q.1 == p.1)
def cutH (m : List Pr) (k : Bs) : List Pr := if has m k then m.take (lb m k) ++ m.drop (lb m k + 1) else m

theorem has_lt {m : List Pr} {k : Bs} (h : has m k = true) : ∃ p, m[lb m k]? = some p ∧ p.1 = k ∧ lb m k < m.length := by
  unfold has at h
  split at h
  · rename_i p hp
    exact ⟨p, hp, by simpa using h, (List.getElem?_eq_some_iff.1 hp).1⟩
  · cases h

theorem layS (m : List Pr) (hs : Sorted m) (p : Pr) (hl : m.length ≤ 1000000) : pcW hcfg 24 [.sl (ePs m), eP p] = some (.fr 46 (ePs (layH m p))) := by
  refine e24_done _ _ _ ?_
  have hle := lb_le m p.1
  unfold layH
  cases hx : has m p.1 with
  | true =>
    obtain ⟨q, h1, h2, h3⟩ := has_lt hx
    have f := flat_eP (m.set (lb m p.1) p)
    rw [List.map_set] at f
    simp (disch := omega) only [e24, pcK_of (find m hs p.1 hl), pcK_of (clone m hl), hx, d47_mk, idxK_map h1, List.map_set, f, ↓cond_ite, ↓gd_ite, decide_eq_true_eq, Bool.not_eq_true', gd_true, cond_true, cond_false, if_pos, if_neg, if_true, if_false, Bool.false_eq_true, Bool.true_eq_false, toNat_cast, W_i64, List.length_map, List.length_append, List.length_cons, List.length_nil, ↓kB_mk, ↓kI_mk, ↓kS_mk, ↓kL_mk, ↓kA_mk, ↓kT_mk, ↓kF_mk, ↓unc_mk, ↓unn_mk, ↓opt_mk, Bool.not_true, Bool.not_false, Bool.and_true, Bool.true_and, Bool.and_false, Bool.false_and, beq_self_eq_true, Bool.true_beq, Bool.false_beq, Int.natCast_add, Int.natCast_one, Int.cast_ofNat_Int, List.map_append, List.map_cons, List.map_nil, List.append_assoc, List.nil_append, ↓d46_eP, wfl_eP, flat_eP, eP_agg', take_cap, take_self, take_map, wfl_nil, pr_eta, List.append_nil]
  | false =>
    have f := flat_eP (m.take (lb m p.1) ++ p :: m.drop (lb m p.1))
    simp only [List.map_append, List.map_cons, List.map_nil, List.map_take, List.map_drop] at f
    simp (disch := omega) only [e24, pcK_of (find m hs p.1 hl), pcK_of (clone m hl), hx, d47_mk, f, Bool.false_eq_true, List.map_take, List.map_drop, List.cons_append, ↓cond_ite, ↓gd_ite, decide_eq_true_eq, Bool.not_eq_true', gd_true, cond_true, cond_false, if_pos, if_neg, if_true, if_false, Bool.false_eq_true, Bool.true_eq_false, toNat_cast, W_i64, List.length_map, List.length_append, List.length_cons, List.length_nil, ↓kB_mk, ↓kI_mk, ↓kS_mk, ↓kL_mk, ↓kA_mk, ↓kT_mk, ↓kF_mk, ↓unc_mk, ↓unn_mk, ↓opt_mk, Bool.not_true, Bool.not_false, Bool.and_true, Bool.true_and, Bool.and_false, Bool.false_and, beq_self_eq_true, Bool.true_beq, Bool.false_beq, Int.natCast_add, Int.natCast_one, Int.cast_ofNat_Int, List.map_append, List.map_cons, List.map_nil, List.append_assoc, List.nil_append, ↓d46_eP, wfl_eP, flat_eP, eP_agg', take_cap, take_self, take_map, wfl_nil, pr_eta, List.append_nil]
theorem layRS (m : List Pr) (p : Pr) (hp : p.1.length ≤ 20) (hl : m.length ≤ 1000000) : pcW hcfg 25 [.sl (ePs m), eP p] = some (.fr 46 (ePs (layR m p))) := by
  refine e25_done _ _ _ ?_
  have hle := lb_le m p.1
  have hc := cutR (m.drop (lb m p.1)) p.1 (by simp; omega)
  have hfl := List.length_filter_le (fun q : Pr => !(q.1 == p.1)) (m.drop (lb m p.1))
  have f := flat_eP (layR m p)
  have w := wfl_eP (m.take (lb m p.1))
  unfold layR at f ⊢
  rw [ePs, List.map_drop] at hc
  simp only [List.map_append, List.map_cons, List.map_nil, List.map_take, List.append_assoc, List.nil_append, List.cons_append, List.length_drop] at f w hfl
  simp (disch := omega) only [e25, pcK_of (findR m p.1 hp hl), d47_mk, pcK_of hc, f, w, List.map_take, List.length_take, List.cons_append, Nat.zero_add, ↓cond_ite, ↓gd_ite, decide_eq_true_eq, Bool.not_eq_true', gd_true, cond_true, cond_false, if_pos, if_neg, if_true, if_false, Bool.false_eq_true, Bool.true_eq_false, toNat_cast, W_i64, List.length_map, List.length_append, List.length_cons, List.length_nil, ↓kB_mk, ↓kI_mk, ↓kS_mk, ↓kL_mk, ↓kA_mk, ↓kT_mk, ↓kF_mk, ↓unc_mk, ↓unn_mk, ↓opt_mk, Bool.not_true, Bool.not_false, Bool.and_true, Bool.true_and, Bool.and_false, Bool.false_and, beq_self_eq_true, Bool.true_beq, Bool.false_beq, Int.natCast_add, Int.natCast_one, Int.cast_ofNat_Int, List.map_append, List.map_cons, List.map_nil, List.append_assoc, List.nil_append, ↓d46_eP, wfl_eP, flat_eP, eP_agg', take_cap, take_self, take_map, wfl_nil, pr_eta, List.append_nil]

theorem cutS (m : List Pr) (hs : Sorted m) (k : Bs) (hl : m.length ≤ 1000000) : pcW hcfg 26 [.sl (ePs m), .str k] = some (.fr 46 (ePs (cutH m k))) := by
  refine e26_done _ _ ?_
  have hle := lb_le m k
  unfold cutH
  cases hx : has m k with
  | true =>
    obtain ⟨q, h1, h2, h3⟩ := has_lt hx
    have f := flat_eP (m.take (lb m k) ++ m.drop (lb m k + 1))
    simp only [List.map_append, List.map_take, List.map_drop] at f
    simp (disch := omega) only [e26, pcK_of (find m hs k hl), pcK_of (clone m hl), hx, d47_mk, f, List.map_take, List.map_drop, min_len (((lb m k : Nat) : Int) + 1) (lb m k + 1) (by omega), ↓cond_ite, ↓gd_ite, decide_eq_true_eq, Bool.not_eq_true', gd_true, cond_true, cond_false, if_pos, if_neg, if_true, if_false, Bool.false_eq_true, Bool.true_eq_false, toNat_cast, W_i64, List.length_map, List.length_append, List.length_cons, List.length_nil, ↓kB_mk, ↓kI_mk, ↓kS_mk, ↓kL_mk, ↓kA_mk, ↓kT_mk, ↓kF_mk, ↓unc_mk, ↓unn_mk, ↓opt_mk, Bool.not_true, Bool.not_false, Bool.and_true, Bool.true_and, Bool.and_false, Bool.false_and, beq_self_eq_true, Bool.true_beq, Bool.false_beq, Int.natCast_add, Int.natCast_one, Int.cast_ofNat_Int, List.map_append, List.map_cons, List.map_nil, List.append_assoc, List.nil_append, ↓d46_eP, wfl_eP, flat_eP, eP_agg', take_cap, take_self, take_map, wfl_nil, pr_eta, List.append_nil]
  | false => simp (disch := omega) only [e26, pcK_of (find m hs k hl), pcK_of (clone m hl), hx, d47_mk, Bool.false_eq_true, ↓cond_ite, ↓gd_ite, decide_eq_true_eq, Bool.not_eq_true', gd_true, cond_true, cond_false, if_pos, if_neg, if_true, if_false, Bool.false_eq_true, Bool.true_eq_false, toNat_cast, W_i64, List.length_map, List.length_append, List.length_cons, List.length_nil, ↓kB_mk, ↓kI_mk, ↓kS_mk, ↓kL_mk, ↓kA_mk, ↓kT_mk, ↓kF_mk, ↓unc_mk, ↓unn_mk, ↓opt_mk, Bool.not_true, Bool.not_false, Bool.and_true, Bool.true_and, Bool.and_false, Bool.false_and, beq_self_eq_true, Bool.true_beq, Bool.false_beq, Int.natCast_add, Int.natCast_one, Int.cast_ofNat_Int, List.map_append, List.map_cons, List.map_nil, List.append_assoc, List.nil_append, ↓d46_eP, wfl_eP, flat_eP, eP_agg', take_cap, take_self, take_map, wfl_nil, pr_eta, List.append_nil]

/-! ### alike -/

theorem alike_loop (a b : List Pr) (hab : a.length = b.length) (hl : a.length ≤ 1000000) : ∀ (r s : List Pr) (k : Nat), a.drop k = r → b.drop k = s → k ≤ a.length →
    Go hk false 0 fa13 (.head 0 (T13_0 (ePs a) (ePs b) k)) (.done (.bool (r == s))) := by
  intro r
  induction r with
  | nil =>
    intro s k hr hs' hk
    have h1 := drop_nil hr
    have : s = [] := by rw [← hs', List.drop_eq_nil_of_le (by omega)]
    subst this
    refine s13_0_run _ _ _ ?_ (.refl _)
    simp (disch := omega) only [s13_0, ↓cond_ite, ↓gd_ite, decide_eq_true_eq, Bool.not_eq_true', gd_true, cond_true, cond_false, if_pos, if_neg, if_true, if_false, Bool.false_eq_true, Bool.true_eq_false, toNat_cast, W_i64, List.length_map, List.length_append, List.length_cons, List.length_nil, ↓kB_mk, ↓kI_mk, ↓kS_mk, ↓kL_mk, ↓kA_mk, ↓kT_mk, ↓kF_mk, ↓unc_mk, ↓unn_mk, ↓opt_mk, Bool.not_true, Bool.not_false, Bool.and_true, Bool.true_and, Bool.and_false, Bool.false_and, beq_self_eq_true, Bool.true_beq, Bool.false_beq, Int.natCast_add, Int.natCast_one, Int.cast_ofNat_Int, List.map_append, List.map_cons, List.map_nil, List.append_assoc, List.nil_append, ↓d46_eP, wfl_eP, flat_eP, eP_agg', take_cap, take_self, take_map, wfl_nil, pr_eta, List.append_nil]
  | cons x r ih =>
    intro s k hr hs' hk
    obtain ⟨h1, h2, h3⟩ := drop_cons hr
    cases s with
    | nil => have := drop_nil hs'; omega
    | cons y s =>
      obtain ⟨h4, h5, h6⟩ := drop_cons hs'
      have e : ((x.1 == y.1) && (x.2 == y.2)) = (x == y) := rfl
      cases hx : (x == y) with
      | true =>
        refine s13_0_run _ _ _ (o := .head 0 (T13_0 (ePs a) (ePs b) ((k + 1 : Nat) : Int))) ?_ ?_
        · simp (disch := omega) only [s13_0, idxK_map h1, idxK_map h4, e, hx, ↓cond_ite, ↓gd_ite, decide_eq_true_eq, Bool.not_eq_true', gd_true, cond_true, cond_false, if_pos, if_neg, if_true, if_false, Bool.false_eq_true, Bool.true_eq_false, toNat_cast, W_i64, List.length_map, List.length_append, List.length_cons, List.length_nil, ↓kB_mk, ↓kI_mk, ↓kS_mk, ↓kL_mk, ↓kA_mk, ↓kT_mk, ↓kF_mk, ↓unc_mk, ↓unn_mk, ↓opt_mk, Bool.not_true, Bool.not_false, Bool.and_true, Bool.true_and, Bool.and_false, Bool.false_and, beq_self_eq_true, Bool.true_beq, Bool.false_beq, Int.natCast_add, Int.natCast_one, Int.cast_ofNat_Int, List.map_append, List.map_cons, List.map_nil, List.append_assoc, List.nil_append, ↓d46_eP, wfl_eP, flat_eP, eP_agg', take_cap, take_self, take_map, wfl_nil, pr_eta, List.append_nil]
        · have := ih s (k + 1) h2 h5 (by omega)
          simpa [List.cons_beq_cons, hx] using this
      | false =>
        refine s13_0_run _ _ _ ?_ (.refl _)
        simp (disch := omega) only [s13_0, idxK_map h1, idxK_map h4, e, hx, List.cons_beq_cons, ↓cond_ite, ↓gd_ite, decide_eq_true_eq, Bool.not_eq_true', gd_true, cond_true, cond_false, if_pos, if_neg, if_true, if_false, Bool.false_eq_true, Bool.true_eq_false, toNat_cast, W_i64, List.length_map, List.length_append, List.length_cons, List.length_nil, ↓kB_mk, ↓kI_mk, ↓kS_mk, ↓kL_mk, ↓kA_mk, ↓kT_mk, ↓kF_mk, ↓unc_mk, ↓unn_mk, ↓opt_mk, Bool.not_true, Bool.not_false, Bool.and_true, Bool.true_and, Bool.and_false, Bool.false_and, beq_self_eq_true, Bool.true_beq, Bool.false_beq, Int.natCast_add, Int.natCast_one, Int.cast_ofNat_Int, List.map_append, List.map_cons, List.map_nil, List.append_assoc, List.nil_append, ↓d46_eP, wfl_eP, flat_eP, eP_agg', take_cap, take_self, take_map, wfl_nil, pr_eta, List.append_nil]
theorem alike (a b : List Pr) (hl : a.length ≤ 1000000) : pcW hcfg 13 [.sl (ePs a), .sl (ePs b)] = some (.bool (a == b)) := by
  by_cases h : a.length = b.length
  · refine e13_run _ _ (o := .head 0 (T13_0 (ePs a) (ePs b) ((0 : Nat) : Int))) ?_ (alike_loop a b h hl a b 0 rfl rfl (Nat.zero_le _))
    simp (disch := omega) only [e13, h, bne_self_eq_false, ↓cond_ite, ↓gd_ite, decide_eq_true_eq, Bool.not_eq_true', gd_true, cond_true, cond_false, if_pos, if_neg, if_true, if_false, Bool.false_eq_true, Bool.true_eq_false, toNat_cast, W_i64, List.length_map, List.length_append, List.length_cons, List.length_nil, ↓kB_mk, ↓kI_mk, ↓kS_mk, ↓kL_mk, ↓kA_mk, ↓kT_mk, ↓kF_mk, ↓unc_mk, ↓unn_mk, ↓opt_mk, Bool.not_true, Bool.not_false, Bool.and_true, Bool.true_and, Bool.and_false, Bool.false_and, beq_self_eq_true, Bool.true_beq, Bool.false_beq, Int.natCast_add, Int.natCast_one, Int.cast_ofNat_Int, List.map_append, List.map_cons, List.map_nil, List.append_assoc, List.nil_append, ↓d46_eP, wfl_eP, flat_eP, eP_agg', take_cap, take_self, take_map, wfl_nil, pr_eta, List.append_nil]
  · refine e13_run _ _ ?_ (.refl _)
    have e : (a == b) = false := by simpa using fun e => h (by rw [e])
    have e2 : ((a.length : Int) != (b.length : Int)) = true := by simp; omega
    simp (disch := omega) only [e13, e, e2, ↓cond_ite, ↓gd_ite, decide_eq_true_eq, Bool.not_eq_true', gd_true, cond_true, cond_false, if_pos, if_neg, if_true, if_false, Bool.false_eq_true, Bool.true_eq_false, toNat_cast, W_i64, List.length_map, List.length_append, List.length_cons, List.length_nil, ↓kB_mk, ↓kI_mk, ↓kS_mk, ↓kL_mk, ↓kA_mk, ↓kT_mk, ↓kF_mk, ↓unc_mk, ↓unn_mk, ↓opt_mk, Bool.not_true, Bool.not_false, Bool.and_true, Bool.true_and, Bool.and_false, Bool.false_and, beq_self_eq_true, Bool.true_beq, Bool.false_beq, Int.natCast_add, Int.natCast_one, Int.cast_ofNat_Int, List.map_append, List.map_cons, List.map_nil, List.append_assoc, List.nil_append, ↓d46_eP, wfl_eP, flat_eP, eP_agg', take_cap, take_self, take_map, wfl_nil, pr_eta, List.append_nil]

theorem equal_loop (a b : List Pr) (hab : a.length = b.length) (hl : a.length ≤ 1000000) : ∀ (r s : List Pr) (k : Nat), a.drop k = r → b.drop k = s → k ≤ a.length →
    Go hk false 0 fa31 (.head 0 (T31_0 (ePs a) (ePs b) a.length k)) (.done (.bool (r == s))) := by
  intro r
  induction r with
  | nil =>
    intro s k hr hs' hk
    have h1 := drop_nil hr
    have : s = [] := by rw [← hs', List.drop_eq_nil_of_le (by omega)]
    subst this
    refine s31_0_run _ _ _ _ ?_ (.refl _)
    simp (disch := omega) only [s31_0, ↓cond_ite, ↓gd_ite, decide_eq_true_eq, Bool.not_eq_true', gd_true, cond_true, cond_false, if_pos, if_neg, if_true, if_false, Bool.false_eq_true, Bool.true_eq_false, toNat_cast, W_i64, List.length_map, List.length_append, List.length_cons, List.length_nil, ↓kB_mk, ↓kI_mk, ↓kS_mk, ↓kL_mk, ↓kA_mk, ↓kT_mk, ↓kF_mk, ↓unc_mk, ↓unn_mk, ↓opt_mk, Bool.not_true, Bool.not_false, Bool.and_true, Bool.true_and, Bool.and_false, Bool.false_and, beq_self_eq_true, Bool.true_beq, Bool.false_beq, Int.natCast_add, Int.natCast_one, Int.cast_ofNat_Int, List.map_append, List.map_cons, List.map_nil, List.append_assoc, List.nil_append, ↓d46_eP, wfl_eP, flat_eP, eP_agg', take_cap, take_self, take_map, wfl_nil, pr_eta, List.append_nil]
  | cons x r ih =>
    intro s k hr hs' hk
    obtain ⟨h1, h2, h3⟩ := drop_cons hr
    cases s with
    | nil => have := drop_nil hs'; omega
    | cons y s =>
      obtain ⟨h4, h5, h6⟩ := drop_cons hs'
      have e : ((x.1 == y.1) && (x.2 == y.2)) = (x == y) := rfl
      cases hx : (x == y) with
      | true =>
        refine s31_0_run _ _ _ _ (o := .head 0 (T31_0 (ePs a) (ePs b) a.length ((k + 1 : Nat) : Int))) ?_ ?_
        · simp (disch := omega) only [s31_0, idxK_map h1, idxK_map h4, e, hx, ↓cond_ite, ↓gd_ite, decide_eq_true_eq, Bool.not_eq_true', gd_true, cond_true, cond_false, if_pos, if_neg, if_true, if_false, Bool.false_eq_true, Bool.true_eq_false, toNat_cast, W_i64, List.length_map, List.length_append, List.length_cons, List.length_nil, ↓kB_mk, ↓kI_mk, ↓kS_mk, ↓kL_mk, ↓kA_mk, ↓kT_mk, ↓kF_mk, ↓unc_mk, ↓unn_mk, ↓opt_mk, Bool.not_true, Bool.not_false, Bool.and_true, Bool.true_and, Bool.and_false, Bool.false_and, beq_self_eq_true, Bool.true_beq, Bool.false_beq, Int.natCast_add, Int.natCast_one, Int.cast_ofNat_Int, List.map_append, List.map_cons, List.map_nil, List.append_assoc, List.nil_append, ↓d46_eP, wfl_eP, flat_eP, eP_agg', take_cap, take_self, take_map, wfl_nil, pr_eta, List.append_nil]
        · have := ih s (k + 1) h2 h5 (by omega)
          simpa [List.cons_beq_cons, hx] using this
      | false =>
        refine s31_0_run _ _ _ _ ?_ (.refl _)
        simp (disch := omega) only [s31_0, idxK_map h1, idxK_map h4, e, hx, List.cons_beq_cons, ↓cond_ite, ↓gd_ite, decide_eq_true_eq, Bool.not_eq_true', gd_true, cond_true, cond_false, if_pos, if_neg, if_true, if_false, Bool.false_eq_true, Bool.true_eq_false, toNat_cast, W_i64, List.length_map, List.length_append, List.length_cons, List.length_nil, ↓kB_mk, ↓kI_mk, ↓kS_mk, ↓kL_mk, ↓kA_mk, ↓kT_mk, ↓kF_mk, ↓unc_mk, ↓unn_mk, ↓opt_mk, Bool.not_true, Bool.not_false, Bool.and_true, Bool.true_and, Bool.and_false, Bool.false_and, beq_self_eq_true, Bool.true_beq, Bool.false_beq, Int.natCast_add, Int.natCast_one, Int.cast_ofNat_Int, List.map_append, List.map_cons, List.map_nil, List.append_assoc, List.nil_append, ↓d46_eP, wfl_eP, flat_eP, eP_agg', take_cap, take_self, take_map, wfl_nil, pr_eta, List.append_nil]
theorem equal (a b : List Pr) (hl : a.length ≤ 1000000) : pcW hcfg 31 [.sl (ePs a), .sl (ePs b)] = some (.bool (a == b)) := by
  by_cases h : a.length = b.length
  · refine e31_run _ _ (o := .head 0 (T31_0 (ePs a) (ePs b) a.length ((0 : Nat) : Int))) ?_ (equal_loop a b h hl a b 0 rfl rfl (Nat.zero_le _))
    simp (disch := omega) only [e31, h, bne_self_eq_false, ↓cond_ite, ↓gd_ite, decide_eq_true_eq, Bool.not_eq_true', gd_true, cond_true, cond_false, if_pos, if_neg, if_true, if_false, Bool.false_eq_true, Bool.true_eq_false, toNat_cast, W_i64, List.length_map, List.length_append, List.length_cons, List.length_nil, ↓kB_mk, ↓kI_mk, ↓kS_mk, ↓kL_mk, ↓kA_mk, ↓kT_mk, ↓kF_mk, ↓unc_mk, ↓unn_mk, ↓opt_mk, Bool.not_true, Bool.not_false, Bool.and_true, Bool.true_and, Bool.and_false, Bool.false_and, beq_self_eq_true, Bool.true_beq, Bool.false_beq, Int.natCast_add, Int.natCast_one, Int.cast_ofNat_Int, List.map_append, List.map_cons, List.map_nil, List.append_assoc, List.nil_append, ↓d46_eP, wfl_eP, flat_eP, eP_agg', take_cap, take_self, take_map, wfl_nil, pr_eta, List.append_nil]
  · refine e31_run _ _ ?_ (.refl _)
    have e : (a == b) = false := by simpa using fun e => h (by rw [e])
    have e2 : ((a.length : Int) != (b.length : Int)) = true := by simp; omega
    simp (disch := omega) only [e31, e, e2, ↓cond_ite, ↓gd_ite, decide_eq_true_eq, Bool.not_eq_true', gd_true, cond_true, cond_false, if_pos, if_neg, if_true, if_false, Bool.false_eq_true, Bool.true_eq_false, toNat_cast, W_i64, List.length_map, List.length_append, List.length_cons, List.length_nil, ↓kB_mk, ↓kI_mk, ↓kS_mk, ↓kL_mk, ↓kA_mk, ↓kT_mk, ↓kF_mk, ↓unc_mk, ↓unn_mk, ↓opt_mk, Bool.not_true, Bool.not_false, Bool.and_true, Bool.true_and, Bool.and_false, Bool.false_and, beq_self_eq_true, Bool.true_beq, Bool.false_beq, Int.natCast_add, Int.natCast_one, Int.cast_ofNat_Int, List.map_append, List.map_cons, List.map_nil, List.append_assoc, List.nil_append, ↓d46_eP, wfl_eP, flat_eP, eP_agg', take_cap, take_self, take_map, wfl_nil, pr_eta, List.append_nil]

end Go.Proofs.Ythojkngbpcjicaa
