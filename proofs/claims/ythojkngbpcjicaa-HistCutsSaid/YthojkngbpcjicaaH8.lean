/-
  The statements of hist, at the interpreter.
-/
import Derived.Test.YthojkngbpcjicaaH3
import Derived.Test.YthojkngbpcjicaaH7
namespace Go.Proofs.Ythojkngbpcjicaa
open Go Go.Lite
set_option linter.unusedSimpArgs false
set_option linter.unusedVariables false

theorem fixed : pcW hcfg 21 [] = some (.bool true) := pcW_of 40 (by kernel_rfl)

theorem len_filter (m : List Pr) (k : Bs) : (m.filter fun q => !(q.1 == k)).length ≤ m.length := List.length_filter_le _ _

/-! ### HistMaps -/

theorem lawMaps (l : List Pr) (p : Pr) : pcW hcfg 4 [.sl (ePs l), eP p] = some (.bool true) := by
  obtain ⟨hs, hl⟩ := mapOf_ok l
  generalize hm : mapOf l = m at hs hl
  have hM := map_ l
  rw [hm] at hM
  have h20 : (p.1.take 20).length ≤ 20 := by rw [List.length_take]; omega
  have hl6 : m.length ≤ 1000000 := by omega
  have h1 := find m hs (p.1.take 20) hl6
  have h2 := findR m (p.1.take 20) h20 hl6
  have h3 := lay m hs (p.1.take 20, p.2.take 20) hl6
  have h4 := layRS m (p.1.take 20, p.2.take 20) h20 hl6
  have h5 := cut m hs (p.1.take 20) hl6
  have h6 := cutR m (p.1.take 20) hl6
  have n1 := layR_len m (p.1.take 20, p.2.take 20)
  have n2 := len_filter m (p.1.take 20)
  have a1 := alike (layR m (p.1.take 20, p.2.take 20)) (layR m (p.1.take 20, p.2.take 20)) (by omega)
  have a2 := alike (m.filter fun q => !(q.1 == p.1.take 20)) (m.filter fun q => !(q.1 == p.1.take 20)) (by omega)
  have a3 := alike m m hl6
  rw [beq_self_eq_true] at a1 a2 a3
  exact e4_done _ _ _ (by simp (disch := omega) only [e4, ↓pcK_of hM, pcK_of h1, pcK_of h2, pcK_of h3, pcK_of h4, pcK_of h5, pcK_of h6, ↓pcK_of a1, ↓pcK_of a2, ↓pcK_of a3, ↓pcK_of fixed, ↓cond_ite, ↓gd_ite, decide_eq_true_eq, Bool.not_eq_true', gd_true, cond_true, cond_false, if_pos, if_neg, if_true, if_false, Bool.false_eq_true, Bool.true_eq_false, toNat_cast, W_i64, List.length_map, List.length_append, List.length_cons, List.length_nil, ↓kB_mk, ↓kI_mk, ↓kS_mk, ↓kL_mk, ↓kA_mk, ↓kT_mk, ↓kF_mk, ↓unc_mk, ↓unn_mk, ↓opt_mk, Bool.not_true, Bool.not_false, Bool.and_true, Bool.true_and, Bool.and_false, Bool.false_and, beq_self_eq_true, Bool.true_beq, Bool.false_beq, Int.natCast_add, Int.natCast_one, Int.cast_ofNat_Int, List.map_append, List.map_cons, List.map_nil, List.append_assoc, List.nil_append, ↓d46_eP, wfl_eP, flat_eP, eP_agg', take_cap, take_self, take_map, wfl_nil, pr_eta, List.append_nil, ↓d30_eE, ↓d28_eE, wfl_eE, ↓d54_mk, ↓d47_mk, ↓d31_mk, ↓d56_eS, eE_agg, ev_eta, kI_eI])

/-! ### HistTells -/

theorem cutL_ok (l : List Ev) : (cutL l).length ≤ 60 ∧ ∀ e ∈ cutL l, short e := by
  constructor
  · simp only [cutL, List.length_map, List.length_take]; omega
  · intro e he
    simp only [cutL, List.mem_map] at he
    obtain ⟨x, _, rfl⟩ := he
    refine ⟨?_, ?_⟩
    · simp only [cutE, List.length_take]; omega
    · simp only [cutE, List.length_map, List.length_take]; omega

theorem serV_tup (l : List Ev) (m : List Pr) : ∃ x b, serV l m = .tup [.sl (ePs x), .bool b] ∧ (x.length ≤ 1000000 → True) := by
  unfold serV
  split
  · exact ⟨_, _, rfl, fun _ => trivial⟩
  · exact ⟨[], false, rfl, fun _ => trivial⟩
theorem serFold_len (l : List Ev) (hl : l.length ≤ 100) : ∀ (r : List (Nat × Nat)) (s : List Pr × Bool), Sorted s.1 → Sorted (r.foldl (serE l) s).1 ∧ (r.foldl (serE l) s).1.length ≤ s.1.length + r.length * 100 := by
  intro r
  induction r with
  | nil => intro s hs; exact ⟨hs, by simp⟩
  | cons x r ih =>
    intro s hs
    obtain ⟨f1, f2⟩ := fold_ok (txOf l x.2) (rangeOf l x) s hs
    have : (rangeOf l x).length ≤ 100 := by unfold rangeOf; simp; omega
    obtain ⟨g1, g2⟩ := ih (serE l s x) f1
    refine ⟨g1, ?_⟩
    simp only [List.foldl_cons, List.length_cons]
    have : (serE l s x).1.length ≤ s.1.length + 100 := by unfold serE; omega
    omega
/-- what Serial hands back -/
def serR (l : List Ev) (m : List Pr) : List Pr × Bool := if rightF l 0 l then serL l m else ([], false)
theorem serV_R (l : List Ev) (m : List Pr) : serV l m = .tup [.sl (ePs (serR l m).1), .bool (serR l m).2] := by
  unfold serV serR
  split <;> rfl
theorem serR_ok (l : List Ev) (hl : l.length ≤ 100) (m : List Pr) (hs : Sorted m) (hm : m.length ≤ 10000) : Sorted (serR l m).1 ∧ (serR l m).1.length ≤ 1000000 := by
  unfold serR
  split
  · have h := serFold_len l hl (coms l 0 l) (m, true) hs
    have hc := coms_len l l 0
    exact ⟨h.1, by have := h.2; unfold serL; simp only at this; omega⟩
  · exact ⟨List.Pairwise.nil, by simp⟩
theorem comOf_len (l : List Ev) : (comOf l).length ≤ l.length := by
  unfold comOf
  rw [span_eq]
  split
  · simp only [Option.getD_some, List.length_map]; exact coms_len l l 0
  · simp

theorem tells_loop (m : List Pr) (hs : Sorted m) (hm : m.length ≤ 20) (l : List Ev) (hl : l.length ≤ 60) (hsh : ∀ e ∈ l, short e) : ∀ (r : List Ev) (k : Nat), l.drop k = r → k ≤ l.length →
    Go hk false 0 fa3 (.head 0 (T3_0 (ePs m) (eEs l) k (eEs (l.take k)))) (.done (.bool true)) := by
  intro r
  induction r with
  | nil =>
    intro k hr hk
    have h1 := drop_nil hr
    have e0 : l.take k = l := List.take_of_length_le h1
    rw [e0]
    obtain ⟨s1, s2⟩ := serR_ok l (by omega) m hs (by omega)
    have a1 := serial m l (by omega) hs (by omega)
    have a2 := rserial m l (by omega) hsh hs (by omega)
    rw [serV_R] at a1 a2
    have a3 := alike (serR l m).1 (serR l m).1 s2
    have a4 := right l (by omega)
    have a5 := rright l (by omega)
    have e1 : (spanOf l).isSome = rightF l 0 l := by rw [span_eq]; cases rightF l 0 l <;> rfl
    rw [e1] at a4
    have a6 := committed l (by omega)
    have a7 := rcommitted l (by omega)
    have hc := comOf_len l
    have a8 := ints (comOf l) (comOf l) (by omega)
    rw [beq_self_eq_true] at a3 a8
    refine s3_0_run _ _ _ _ ?_ (.refl _)
    simp (disch := omega) only [s3_0, ↓pcK_of a1, ↓pcK_of a2, ↓pcK_of a3, ↓pcK_of a4, ↓pcK_of a5, ↓pcK_of a6, ↓pcK_of a7, ↓pcK_of a8, ↓pcK_of fixed, ↓cond_ite, ↓gd_ite, decide_eq_true_eq, Bool.not_eq_true', gd_true, cond_true, cond_false, if_pos, if_neg, if_true, if_false, Bool.false_eq_true, Bool.true_eq_false, toNat_cast, W_i64, List.length_map, List.length_append, List.length_cons, List.length_nil, ↓kB_mk, ↓kI_mk, ↓kS_mk, ↓kL_mk, ↓kA_mk, ↓kT_mk, ↓kF_mk, ↓unc_mk, ↓unn_mk, ↓opt_mk, Bool.not_true, Bool.not_false, Bool.and_true, Bool.true_and, Bool.and_false, Bool.false_and, beq_self_eq_true, Bool.true_beq, Bool.false_beq, Int.natCast_add, Int.natCast_one, Int.cast_ofNat_Int, List.map_append, List.map_cons, List.map_nil, List.append_assoc, List.nil_append, ↓d46_eP, wfl_eP, flat_eP, eP_agg', take_cap, take_self, take_map, wfl_nil, pr_eta, List.append_nil, ↓d30_eE, ↓d28_eE, wfl_eE, ↓d54_mk, ↓d47_mk, ↓d31_mk, ↓d56_eS, eE_agg, ev_eta, kI_eI]
  | cons x r ih =>
    intro k hr hk
    obtain ⟨h1, h2, h3⟩ := drop_cons hr
    obtain ⟨q1, q2⟩ := hsh x (List.mem_of_getElem? h1)
    obtain ⟨k1, k2⟩ := doE_ok hs x
    have a1 := doS m hs x (by omega)
    have a2 := doR m x (by omega) q1 q2
    have a3 := alike (doE m x).1 (doE m x).1 (by omega)
    rw [beq_self_eq_true] at a3
    have hlast : (l.take k ++ [x])[k]? = some x := by
      rw [List.getElem?_append_right (by simp; omega)]
      simp only [List.length_take]
      rw [show k - min k l.length = 0 by omega]
      rfl
    have hidx : idxK (eEs (l.take k) ++ [eE x]) k = fun (kk : V → R) => kk (eE x) := by
      funext kk
      have := idxK_map (f := eE) (k := kk) hlast
      rw [List.map_append] at this
      exact this
    have hidx2 : ∀ kk : V → R, idxK (eEs (l.take k) ++ [eE x]) k kk = kk (eE x) := fun kk => by rw [hidx]
    have hlen : (l.take k).length = k := by rw [List.length_take]; omega
    have e1 : l.take (k + 1) = l.take k ++ [x] := by rw [List.take_add_one, h1]; rfl
    refine s3_0_run _ _ _ _ (o := .head 0 (T3_0 (ePs m) (eEs l) ((k + 1 : Nat) : Int) (eEs (l.take (k + 1))))) ?_ (ih (k + 1) h2 (by omega))
    rw [e1]
    simp (disch := omega) only [s3_0, ↓idxK_c h1, ↓pcK_of (ref x), hlen, ↓pcK_of a1, hidx2, ↓pcK_of a2, ↓pcK_of a3, ↓cond_ite, ↓gd_ite, decide_eq_true_eq, Bool.not_eq_true', gd_true, cond_true, cond_false, if_pos, if_neg, if_true, if_false, Bool.false_eq_true, Bool.true_eq_false, toNat_cast, W_i64, List.length_map, List.length_append, List.length_cons, List.length_nil, ↓kB_mk, ↓kI_mk, ↓kS_mk, ↓kL_mk, ↓kA_mk, ↓kT_mk, ↓kF_mk, ↓unc_mk, ↓unn_mk, ↓opt_mk, Bool.not_true, Bool.not_false, Bool.and_true, Bool.true_and, Bool.and_false, Bool.false_and, beq_self_eq_true, Bool.true_beq, Bool.false_beq, Int.natCast_add, Int.natCast_one, Int.cast_ofNat_Int, List.map_append, List.map_cons, List.map_nil, List.append_assoc, List.nil_append, ↓d46_eP, wfl_eP, flat_eP, eP_agg', take_cap, take_self, take_map, wfl_nil, pr_eta, List.append_nil, ↓d30_eE, ↓d28_eE, wfl_eE, ↓d54_mk, ↓d47_mk, ↓d31_mk, ↓d56_eS, eE_agg, ev_eta, kI_eI]
theorem lawTells (m : List Pr) (l : List Ev) : pcW hcfg 3 [.sl (ePs m), .sl (eEs l)] = some (.bool true) := by
  obtain ⟨hs, hl⟩ := mapOf_ok m
  obtain ⟨c1, c2⟩ := cutL_ok l
  refine e3_run _ _ (o := .head 0 (T3_0 (ePs (mapOf m)) (eEs (cutL l)) ((0 : Nat) : Int) (eEs ((cutL l).take 0)))) ?_ (tells_loop _ hs hl _ c1 c2 (cutL l) 0 rfl (Nat.zero_le _))
  simp (disch := omega) only [e3, ↓pcK_of (cutEs l), ↓pcK_of (map_ m), List.take_zero, ↓cond_ite, ↓gd_ite, decide_eq_true_eq, Bool.not_eq_true', gd_true, cond_true, cond_false, if_pos, if_neg, if_true, if_false, Bool.false_eq_true, Bool.true_eq_false, toNat_cast, W_i64, List.length_map, List.length_append, List.length_cons, List.length_nil, ↓kB_mk, ↓kI_mk, ↓kS_mk, ↓kL_mk, ↓kA_mk, ↓kT_mk, ↓kF_mk, ↓unc_mk, ↓unn_mk, ↓opt_mk, Bool.not_true, Bool.not_false, Bool.and_true, Bool.true_and, Bool.and_false, Bool.false_and, beq_self_eq_true, Bool.true_beq, Bool.false_beq, Int.natCast_add, Int.natCast_one, Int.cast_ofNat_Int, List.map_append, List.map_cons, List.map_nil, List.append_assoc, List.nil_append, ↓d46_eP, wfl_eP, flat_eP, eP_agg', take_cap, take_self, take_map, wfl_nil, pr_eta, List.append_nil, ↓d30_eE, ↓d28_eE, wfl_eE, ↓d54_mk, ↓d47_mk, ↓d31_mk, ↓d56_eS, eE_agg, ev_eta, kI_eI]

/-! ### HistCuts -/

theorem mem_cut (m : List Pr) (k : Bs) (x : Pr) : x ∈ m.filter (fun q => !(q.1 == k)) ↔ x ∈ m ∧ x.1 ≠ k := by
  simp only [List.mem_filter, Bool.not_eq_true', beq_eq_false_iff_ne, ne_eq]
theorem cut_lay_new {m : List Pr} (hs : Sorted m) (p : Pr) (h : has m p.1 = false) : (layR m p).filter (fun q => !(q.1 == p.1)) = m := by
  refine sorted_ext (sorted_filter (layR_sorted hs p) _) hs (fun x => ?_)
  rw [mem_cut, mem_layR hs]
  have hn : ∀ x ∈ m, x.1 ≠ p.1 := fun x hx e => by rw [(has_iff hs p.1).2 ⟨x, hx, e⟩] at h; cases h
  constructor
  · rintro ⟨rfl | ⟨h1, _⟩, h2⟩
    · exact (h2 rfl).elim
    · exact h1
  · intro hx; exact ⟨.inr ⟨hx, hn x hx⟩, hn x hx⟩
theorem cut_lay_old {m : List Pr} (hs : Sorted m) (p : Pr) : (layR m p).filter (fun q => !(q.1 == p.1)) = m.filter (fun q => !(q.1 == p.1)) := by
  refine sorted_ext (sorted_filter (layR_sorted hs p) _) (sorted_filter hs _) (fun x => ?_)
  rw [mem_cut, mem_layR hs, mem_cut]
  constructor
  · rintro ⟨rfl | ⟨h1, _⟩, h2⟩
    · exact (h2 rfl).elim
    · exact ⟨h1, h2⟩
  · rintro ⟨h1, h2⟩; exact ⟨.inr ⟨h1, h2⟩, h2⟩
theorem cut_len {m : List Pr} (hs : Sorted m) (k : Bs) (h : has m k = true) : (m.filter fun q => !(q.1 == k)).length = m.length - 1 ∧ 1 ≤ m.length := by
  rw [← cut_filter hs]
  obtain ⟨p, h1, h2, h3⟩ := has_lt h
  unfold cutH
  rw [if_pos h]
  simp only [List.length_append, List.length_take, List.length_drop]
  omega
theorem lay_lay {m : List Pr} (hs : Sorted m) (p q : Pr) (h : p.1 = q.1) : layR (layR m q) p = layR m p := by
  refine sorted_ext (layR_sorted (layR_sorted hs q) p) (layR_sorted hs p) (fun x => ?_)
  rw [mem_layR (layR_sorted hs q), mem_layR hs, mem_layR hs]
  constructor
  · rintro (h1 | ⟨rfl | ⟨h1, h2⟩, h3⟩)
    · exact .inl h1
    · exact (h3 h.symm).elim
    · exact .inr ⟨h1, h3⟩
  · rintro (h1 | ⟨h1, h2⟩)
    · exact .inl h1
    · exact .inr ⟨.inr ⟨h1, by rw [← h]; exact h2⟩, h2⟩
theorem lay_swap {m : List Pr} (hs : Sorted m) (p q : Pr) (h : p.1 ≠ q.1) : layR (layR m p) q = layR (layR m q) p := by
  refine sorted_ext (layR_sorted (layR_sorted hs p) q) (layR_sorted (layR_sorted hs q) p) (fun x => ?_)
  rw [mem_layR (layR_sorted hs p), mem_layR (layR_sorted hs q), mem_layR hs, mem_layR hs]
  constructor
  · rintro (rfl | ⟨rfl | ⟨h1, h2⟩, h3⟩)
    · exact .inr ⟨.inl rfl, fun e => h e.symm⟩
    · exact .inl rfl
    · exact .inr ⟨.inr ⟨h1, h3⟩, h2⟩
  · rintro (rfl | ⟨rfl | ⟨h1, h2⟩, h3⟩)
    · exact .inr ⟨.inl rfl, h⟩
    · exact .inl rfl
    · exact .inr ⟨.inr ⟨h1, h3⟩, h2⟩
theorem cut_lay {m : List Pr} (hs : Sorted m) (p : Pr) (k : Bs) (h : p.1 ≠ k) : (layR m p).filter (fun q => !(q.1 == k)) = layR (m.filter fun q => !(q.1 == k)) p := by
  refine sorted_ext (sorted_filter (layR_sorted hs p) _) (layR_sorted (sorted_filter hs _) p) (fun x => ?_)
  rw [mem_cut, mem_layR hs, mem_layR (sorted_filter hs _), mem_cut]
  constructor
  · rintro ⟨rfl | ⟨h1, h2⟩, h3⟩
    · exact .inl rfl
    · exact .inr ⟨⟨h1, h3⟩, h2⟩
  · rintro (rfl | ⟨⟨h1, h2⟩, h3⟩)
    · exact ⟨.inl rfl, h⟩
    · exact ⟨.inr ⟨h1, h3⟩, h2⟩

theorem lawCuts (l : List Pr) (p0 q0 : Pr) : pcW hcfg 7 [.sl (ePs l), eP p0, eP q0] = some (.bool true) := by
  obtain ⟨hs, hl⟩ := mapOf_ok l
  generalize hm : mapOf l = m at hs hl
  have hM := map_ l
  rw [hm] at hM
  have hl6 : m.length ≤ 1000000 := by omega
  refine e7_done _ _ _ _ _ ?_
  unfold e7
  rw [pcK_of hM]
  simp only [kF_mk, take_cap, eP_agg']
  obtain ⟨p, hp⟩ : ∃ p : Pr, p = (p0.1.take 20, p0.2.take 20) := ⟨_, rfl⟩
  obtain ⟨q, hq⟩ : ∃ q : Pr, q = (q0.1.take 20, q0.2.take 20) := ⟨_, rfl⟩
  have ep1 : p0.1.take 20 = p.1 := by rw [hp]
  have ep2 : p0.2.take 20 = p.2 := by rw [hp]
  have eq1 : q0.1.take 20 = q.1 := by rw [hq]
  have eq2 : q0.2.take 20 = q.2 := by rw [hq]
  simp only [ep1, ep2, eq1, eq2, pr_eta]
  have n1 := layR_len m p
  have n2 := layR_len m q
  have sp := layR_sorted hs p
  have sq := layR_sorted hs q
  have h1 := find m hs p.1 hl6
  have h2 := lay m hs p hl6
  have h3 := cut (layR m p) sp p.1 (by omega)
  have h4 := lay m hs q hl6
  have h5 := lay (layR m q) sq p (by omega)
  have h6 := lay (layR m p) sp q (by omega)
  have h7 := cut (layR m p) sp q.1 (by omega)
  have h8 := cut m hs q.1 hl6
  have h9 := lay (m.filter fun x => !(x.1 == q.1)) (sorted_filter hs _) p (by have := len_filter m q.1; omega)
  have a0 := alike m m hl6
  have a1 := alike (layR m p) (layR m p) (by omega)
  have n3 := layR_len (layR m q) p
  have a2 := alike (layR (layR m q) p) (layR (layR m q) p) (by omega)
  have n4 := layR_len (m.filter fun x => !(x.1 == q.1)) p
  have n5 := len_filter m q.1
  have a3 := alike (layR (m.filter fun x => !(x.1 == q.1)) p) (layR (m.filter fun x => !(x.1 == q.1)) p) (by omega)
  rw [beq_self_eq_true] at a0 a1 a2 a3
  cases hx : has m p.1 with
  | true =>
    obtain ⟨b1, b2⟩ := cut_len hs p.1 hx
    rw [cut_lay_old hs] at h3
    have e1 : (((m.filter fun x => !(x.1 == p.1)).length : Int) != ((m.length : Int) - 1)) = false := by simp; omega
    cases hk : (p.1 == q.1) with
    | true =>
      have hk' : p.1 = q.1 := by simpa using hk
      rw [lay_lay hs p q hk'] at h5
      simp (disch := omega) only [↓pcK_of h1, ↓pcK_of h2, ↓pcK_of h3, hx, e1, hk, ↓pcK_of h4, ↓pcK_of h5, ↓pcK_of h4, ↓pcK_of h5, ↓pcK_of a1, ↓pcK_of fixed, ↓cond_ite, ↓gd_ite, decide_eq_true_eq, Bool.not_eq_true', gd_true, cond_true, cond_false, if_pos, if_neg, if_true, if_false, Bool.false_eq_true, Bool.true_eq_false, toNat_cast, W_i64, List.length_map, List.length_append, List.length_cons, List.length_nil, ↓kB_mk, ↓kI_mk, ↓kS_mk, ↓kL_mk, ↓kA_mk, ↓kT_mk, ↓kF_mk, ↓unc_mk, ↓unn_mk, ↓opt_mk, Bool.not_true, Bool.not_false, Bool.and_true, Bool.true_and, Bool.and_false, Bool.false_and, beq_self_eq_true, Bool.true_beq, Bool.false_beq, Int.natCast_add, Int.natCast_one, Int.cast_ofNat_Int, List.map_append, List.map_cons, List.map_nil, List.append_assoc, List.nil_append, ↓d46_eP, wfl_eP, flat_eP, eP_agg', take_cap, take_self, take_map, wfl_nil, pr_eta, List.append_nil, ↓d30_eE, ↓d28_eE, wfl_eE, ↓d54_mk, ↓d47_mk, ↓d31_mk, ↓d56_eS, eE_agg, ev_eta, kI_eI]
    | false =>
      have hk' : p.1 ≠ q.1 := by simpa using hk
      rw [lay_swap hs p q hk'] at h6
      rw [cut_lay hs p q.1 hk'] at h7
      simp (disch := omega) only [↓pcK_of h1, ↓pcK_of h2, ↓pcK_of h3, hx, e1, hk, ↓pcK_of h4, ↓pcK_of h5, ↓pcK_of h6, ↓pcK_of h7, ↓pcK_of h8, ↓pcK_of h9, ↓pcK_of a2, ↓pcK_of a3, ↓pcK_of fixed, ↓cond_ite, ↓gd_ite, decide_eq_true_eq, Bool.not_eq_true', gd_true, cond_true, cond_false, if_pos, if_neg, if_true, if_false, Bool.false_eq_true, Bool.true_eq_false, toNat_cast, W_i64, List.length_map, List.length_append, List.length_cons, List.length_nil, ↓kB_mk, ↓kI_mk, ↓kS_mk, ↓kL_mk, ↓kA_mk, ↓kT_mk, ↓kF_mk, ↓unc_mk, ↓unn_mk, ↓opt_mk, Bool.not_true, Bool.not_false, Bool.and_true, Bool.true_and, Bool.and_false, Bool.false_and, beq_self_eq_true, Bool.true_beq, Bool.false_beq, Int.natCast_add, Int.natCast_one, Int.cast_ofNat_Int, List.map_append, List.map_cons, List.map_nil, List.append_assoc, List.nil_append, ↓d46_eP, wfl_eP, flat_eP, eP_agg', take_cap, take_self, take_map, wfl_nil, pr_eta, List.append_nil, ↓d30_eE, ↓d28_eE, wfl_eE, ↓d54_mk, ↓d47_mk, ↓d31_mk, ↓d56_eS, eE_agg, ev_eta, kI_eI]
  | false =>
    rw [cut_lay_new hs p hx] at h3
    cases hk : (p.1 == q.1) with
    | true =>
      have hk' : p.1 = q.1 := by simpa using hk
      rw [lay_lay hs p q hk'] at h5
      simp (disch := omega) only [↓pcK_of h1, ↓pcK_of h2, ↓pcK_of h3, hx, ↓pcK_of a0, hk, ↓pcK_of h4, ↓pcK_of h5, ↓pcK_of a1, ↓pcK_of fixed, ↓cond_ite, ↓gd_ite, decide_eq_true_eq, Bool.not_eq_true', gd_true, cond_true, cond_false, if_pos, if_neg, if_true, if_false, Bool.false_eq_true, Bool.true_eq_false, toNat_cast, W_i64, List.length_map, List.length_append, List.length_cons, List.length_nil, ↓kB_mk, ↓kI_mk, ↓kS_mk, ↓kL_mk, ↓kA_mk, ↓kT_mk, ↓kF_mk, ↓unc_mk, ↓unn_mk, ↓opt_mk, Bool.not_true, Bool.not_false, Bool.and_true, Bool.true_and, Bool.and_false, Bool.false_and, beq_self_eq_true, Bool.true_beq, Bool.false_beq, Int.natCast_add, Int.natCast_one, Int.cast_ofNat_Int, List.map_append, List.map_cons, List.map_nil, List.append_assoc, List.nil_append, ↓d46_eP, wfl_eP, flat_eP, eP_agg', take_cap, take_self, take_map, wfl_nil, pr_eta, List.append_nil, ↓d30_eE, ↓d28_eE, wfl_eE, ↓d54_mk, ↓d47_mk, ↓d31_mk, ↓d56_eS, eE_agg, ev_eta, kI_eI]
    | false =>
      have hk' : p.1 ≠ q.1 := by simpa using hk
      rw [lay_swap hs p q hk'] at h6
      rw [cut_lay hs p q.1 hk'] at h7
      simp (disch := omega) only [↓pcK_of h1, ↓pcK_of h2, ↓pcK_of h3, hx, ↓pcK_of a0, hk, ↓pcK_of h4, ↓pcK_of h5, ↓pcK_of h6, ↓pcK_of h7, ↓pcK_of h8, ↓pcK_of h9, ↓pcK_of a2, ↓pcK_of a3, ↓pcK_of fixed, ↓cond_ite, ↓gd_ite, decide_eq_true_eq, Bool.not_eq_true', gd_true, cond_true, cond_false, if_pos, if_neg, if_true, if_false, Bool.false_eq_true, Bool.true_eq_false, toNat_cast, W_i64, List.length_map, List.length_append, List.length_cons, List.length_nil, ↓kB_mk, ↓kI_mk, ↓kS_mk, ↓kL_mk, ↓kA_mk, ↓kT_mk, ↓kF_mk, ↓unc_mk, ↓unn_mk, ↓opt_mk, Bool.not_true, Bool.not_false, Bool.and_true, Bool.true_and, Bool.and_false, Bool.false_and, beq_self_eq_true, Bool.true_beq, Bool.false_beq, Int.natCast_add, Int.natCast_one, Int.cast_ofNat_Int, List.map_append, List.map_cons, List.map_nil, List.append_assoc, List.nil_append, ↓d46_eP, wfl_eP, flat_eP, eP_agg', take_cap, take_self, take_map, wfl_nil, pr_eta, List.append_nil, ↓d30_eE, ↓d28_eE, wfl_eE, ↓d54_mk, ↓d47_mk, ↓d31_mk, ↓d56_eS, eE_agg, ev_eta, kI_eI]

end Go.Proofs.Ythojkngbpcjicaa
