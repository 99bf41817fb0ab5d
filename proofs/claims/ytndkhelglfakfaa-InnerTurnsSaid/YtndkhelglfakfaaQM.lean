/-
  The statements of inner pages, at the interpreter.
-/
import Derived.Test.YtndkhelglfakfaaQN
namespace Go.Proofs.Ytndkhelglfakfaa
open Go Go.Lite
set_option linter.unusedSimpArgs false
set_option linter.unusedVariables false

theorem small_take (s : Bs) {k : Nat} (hk : k ≤ 1000) : small (s.take k) := by
  unfold small
  simp
  omega
theorem take_le (s : Bs) (k : Nat) : (s.take k).length ≤ k := by simp; omega
theorem capT (c : Int) (k : Nat) (hc : c = (k : Int)) (s : Bs) : s.take (if c < (s.length : Int) then c else (s.length : Int)).toNat = s.take k := by subst hc; exact take_capN k s
theorem cap_ok1 (c : Int) (hc : 0 ≤ c) (s : Bs) : decide (0 ≤ (if c < (s.length : Int) then c else (s.length : Int))) = true := decide_eq_true (by split <;> omega)
theorem cap_ok2 (c : Int) (hc : 0 ≤ c) (s : Bs) : decide ((if c < (s.length : Int) then c else (s.length : Int)).toNat ≤ s.length) = true := decide_eq_true (by split <;> omega)
theorem and_page (a : Int) : ∃ k : Nat, k < 1024 ∧ W .i64 (((BitVec.ofInt (IntKind.bits .i64) a &&& BitVec.ofInt (IntKind.bits .i64) 1023).toNat : Nat) : Int) = (k : Int) := by
  have h := and_bound a 1023 (by decide)
  refine ⟨(BitVec.ofInt 64 a &&& BitVec.ofInt 64 ((1023 : Nat) : Int)).toNat, by omega, ?_⟩
  show W .i64 (((BitVec.ofInt 64 a &&& BitVec.ofInt 64 ((1023 : Nat) : Int)).toNat : Nat) : Int) = _
  exact W_i64 (by constructor <;> omega)
theorem and_many (a : Int) : ∃ k : Nat, k < 65536 ∧ W .i64 (((BitVec.ofInt (IntKind.bits .i64) a &&& BitVec.ofInt (IntKind.bits .i64) 65535).toNat : Nat) : Int) = (k : Int) := by
  have h := and_bound a 65535 (by decide)
  refine ⟨(BitVec.ofInt 64 a &&& BitVec.ofInt 64 ((65535 : Nat) : Int)).toNat, by omega, ?_⟩
  show W .i64 (((BitVec.ofInt 64 a &&& BitVec.ofInt 64 ((65535 : Nat) : Int)).toNat : Nat) : Int) = _
  exact W_i64 (by constructor <;> omega)
theorem fixK {k : V → R} : pcK qcfg 22 [] k = k (.bool true) := pcK_of fixed_ok
theorem sameB_self (n : Inn) : sameB n n = true := sameB_iff.2 rfl

theorem innerPuts_true (a b : Inn) (s : Bs) : pcW qcfg 3 [eI a, eI b, .str s] = some (.bool true) := by
  refine e3_done _ _ _ _ _ _ _ _ _ ?_
  have ha := (cut_sm a).1
  have hb := (cut_sm b).1
  unfold e3
  rw [pcK_of (cut_ok a), d25_mk, pcK_of (cut_ok b), d25_mk, gd_of (cap_ok1 300 (by decide) s), gd_of (cap_ok2 300 (by decide) s), capT 300 300 rfl s]
  rw [pcK_of (dec_eq rfl (small_take s (by decide))), d28_mk]
  have hd : pcW qcfg 12 [.str (s.take 300)] = some (.tup [eI ((parseB (s.take 300)).getD n00), .int .i64 (if (parseB (s.take 300)).isSome then 0 else 4)]) := by
    rw [decR_ok _ (small_take s (by decide)), decO_eq]
  rw [pcK_of hd, d31_mk]
  generalize hx : (parseB (s.take 300)).getD n00 = x
  have hxs : Sm x := by rw [← hx]; exact parse_sm _
  rw [pcK_of (right_ok _ ha), kB_mk, pcK_of (ref_ok _), d30_mk, pcK_of (rightR_ok _ ha), kB_mk, beq_self_eq_true, cond_true]
  rw [pcK_of (size_ok _ ha), kI_mk, pcK_of (ref_ok _), d30_mk, pcK_of (sizeR_ok _ ha), kI_mk, beq_self_eq_true, cond_true]
  rw [pcK_of (enc_ok _ ha), kS_mk, pcK_of (ref_ok _), d30_mk, pcK_of (encR_ok _ ha), kS_mk, beq_self_eq_true, cond_true]
  rw [pcK_of (same_ok _ _ ha), kB_mk, pcK_of (ref_ok _), d30_mk, pcK_of (ref_ok _), d30_mk, pcK_of (sameR_ok _ _ ha), kB_mk, beq_self_eq_true, cond_true]
  rw [pcK_of (ref_ok x), d30_mk, pcK_of (sameR_ok x x hxs), kB_mk, sameB_self, cond_true, beq_self_eq_true, cond_true, fixK, kB_mk]

theorem innerDoes_true (n : Inn) (key : Bs) (i j : Int) : pcW qcfg 4 [eI n, .str key, .agg [.int .i64 i, .int .i64 j]] = some (.bool true) := by
  refine e4_done _ _ _ _ _ _ _ ?_
  obtain ⟨hn, hs60, hk60⟩ := cut_sm n
  have hkl := take_le key 40
  unfold e4
  rw [pcK_of (cut_ok n), d25_mk, gd_of (cap_ok1 40 (by decide) key), gd_of (cap_ok2 40 (by decide) key), capT 40 40 rfl key]
  rw [pcK_of (find_ok _ _ hn), d45_mk, pcK_of (ref_ok _), d30_mk, pcK_of (findR_ok _ _ hn (by omega)), d45_mk]
  rw [pcK_of (putI_ok _ _ j hn (by omega)), d28_mk, pcK_of (ref_ok _), d30_mk, pcK_of (putR_ok _ _ j hn (by omega)), d31_mk]
  rw [pcK_of (delI_ok _ i hn), d28_mk, pcK_of (ref_ok _), d30_mk, pcK_of (delR_ok _ i hn), d31_mk]
  rw [pcK_of (turnI_ok _ i j hn), d28_mk, pcK_of (ref_ok _), d30_mk, pcK_of (turnR_ok _ i j hn), d31_mk]
  rw [pcK_of (splI_ok _ j hn), d54_mk, pcK_of (ref_ok _), d30_mk, pcK_of (splR_ok _ j hn), d56_mk]
  have h0 : Sm n00 := s00
  have hp : Sm (putI (cutI n) (key.take 40) j).1 := by
    unfold putI
    split
    · split
      · exact h0
      · split
        · exact putN_sm hn (by omega) (by omega) (by omega)
        · exact h0
    · exact h0
  have hd : Sm (delI (cutI n) i).1 := by
    unfold delI
    split
    · refine ⟨by simp; omega, ?_, by simp; omega, hn.high⟩
      intro s hs
      rcases List.mem_append.1 hs with hs | hs
      · exact hn.sep s (List.mem_of_mem_take hs)
      · exact hn.sep s (List.mem_of_mem_drop hs)
    · exact h0
  have ht : Sm (turnI (cutI n) i j).1 := by
    unfold turnI
    split
    · exact ⟨hn.seps, hn.sep, by simp; omega, hn.high⟩
    · exact h0
  have hs : Sm (splO (cutI n) j).1 ∧ Sm (splO (cutI n) j).2.1 := by
    unfold splO
    split
    · refine ⟨⟨by simp; omega, fun s hs => hn.sep s (List.mem_of_mem_take hs), by simp; omega, ?_⟩, ⟨by simp; omega, fun s hs => hn.sep s (List.mem_of_mem_drop hs), by simp; omega, hn.high⟩⟩
      show ((cutI n).seps.getD _ []).length ≤ 1000
      generalize (cutI n).seps.length / 2 = m
      cases hq : (cutI n).seps[m]? with
      | none => simp [List.getD, hq]
      | some x =>
        have := hn.sep x (List.mem_of_getElem? hq)
        simpa [List.getD, hq] using this
    · exact ⟨h0, h0⟩
  rw [beq_self_eq_true, cond_true, beq_self_eq_true, cond_true]
  rw [pcK_of (ref_ok _), d30_mk, pcK_of (sameR_ok _ _ hp), kB_mk, sameB_self, cond_true, beq_self_eq_true, cond_true]
  rw [pcK_of (ref_ok _), d30_mk, pcK_of (sameR_ok _ _ hd), kB_mk, sameB_self, cond_true, beq_self_eq_true, cond_true]
  rw [pcK_of (ref_ok _), d30_mk, pcK_of (sameR_ok _ _ ht), kB_mk, sameB_self, cond_true, beq_self_eq_true, cond_true]
  rw [pcK_of (ref_ok _), d30_mk, pcK_of (sameR_ok _ _ hs.1), kB_mk, sameB_self, cond_true]
  rw [pcK_of (ref_ok _), d30_mk, pcK_of (sameR_ok _ _ hs.2), kB_mk, sameB_self, cond_true]
  rw [beq_self_eq_true, cond_true, beq_self_eq_true, cond_true, fixK, kB_mk]

theorem isS (x : Inn) : (if (some x).isSome = true then (0 : Int) else 4) = 0 := rfl
theorem innerBack_true (n : Inn) (s : Bs) : pcW qcfg 5 [eI n, .str s] = some (.bool true) := by
  refine e5_done _ _ _ _ _ ?_
  obtain ⟨hn, hs60, hk60⟩ := cut_sm n
  have hsl := take_le s 252
  unfold e5
  rw [pcK_of (cut_ok n), d25_mk, gd_of (cap_ok1 252 (by decide) s), gd_of (cap_ok2 252 (by decide) s), capT 252 252 rfl s, pcK_of (enc_ok _ hn), kS_mk, pcK_of (right_ok _ hn), kB_mk]
  obtain ⟨t, ht⟩ : ∃ t, t = s.take 252 := ⟨_, rfl⟩
  rw [← ht] at hsl ⊢
  have hts : small t := by rw [ht]; exact small_take s (by decide)
  cases hp : parseB t with
  | none =>
    have hd := dec_eq hp hts
    cases hr : rightB (cutI n) with
    | true =>
      obtain ⟨h1, h2, h3, h4, h5, h6, h7⟩ := right_facts hr
      have hl := enc_len hr
      have hz : sizeN (cutI n) = 7 + (cutI n).high.length + szR (cutI n).seps := rfl
      have hpad : padB (encB (cutI n)) 252 = (encB (cutI n) ++ zer (252 - sizeN (cutI n)), 0) := by
        unfold padB
        rw [if_neg (by omega), if_neg (by omega), hl]
        rfl
      have hp1 : parseB (encB (cutI n)) = some (cutI n) := by
        have := parse_of hr 0 (by omega)
        simpa using this
      have hp2 := parse_of hr (252 - sizeN (cutI n)) (by omega)
      have hpr : pcW qcfg 33 [.str (encB (cutI n)), .int .i64 252] = some (.tup [.str (encB (cutI n) ++ zer (252 - sizeN (cutI n))), .int .i64 0]) := by
        rw [padR_ok _ _ (enc_small _ hn), hpad]
      rw [cond_true, pcK_of (size_ok _ hn), kI_mk, ibne_f (by omega), cond_false, decide_eq_false (by omega), cond_false, pcK_of hpr, d59_mk, pcK_of (dec_eq hp1 (enc_small _ hn)), d28_mk, pcK_of (dec_eq hp2 (by simp only [small, List.length_append, hl, List.length_replicate]; omega)), d28_mk]
      rw [isS, ibne_f rfl, cond_false, cond_false]
      rw [show (some (cutI n)).getD n00 = cutI n from rfl, pcK_of (same_ok _ _ hn), kB_mk, sameB_self, Bool.not_true, cond_false, pcK_of (same_ok _ _ hn), kB_mk, sameB_self, Bool.not_true, cond_false, pcK_of hd, d28_mk]
      rw [ibne_t (by decide), cond_true, pcK_of (right_ok _ hn), kB_mk, hr, cond_true, fixK, kB_mk]
    | false =>
      have he : encB (cutI n) = [] := by unfold encB; rw [hr]; rfl
      rw [cond_false, pcK_of hd, d28_mk, ibne_t (by decide), cond_true, pcK_of (right_ok _ hn), kB_mk, hr, cond_false, he, beq_self_eq_true, cond_true, fixK, kB_mk]
  | some x =>
    have hd := dec_eq hp hts
    obtain ⟨hxr, hxp, _⟩ := parse_some hp
    have hxs := right_sm hxr
    have hpx : pcW qcfg 33 [.str (encB x), .int .i64 (t.length : Int)] = some (.tup [.str t, .int .i64 0]) := by
      rw [padR_ok _ _ (enc_small _ hxs), hxp]
    cases hr : rightB (cutI n) with
    | true =>
      obtain ⟨h1, h2, h3, h4, h5, h6, h7⟩ := right_facts hr
      have hl := enc_len hr
      have hz : sizeN (cutI n) = 7 + (cutI n).high.length + szR (cutI n).seps := rfl
      have hpad : padB (encB (cutI n)) 252 = (encB (cutI n) ++ zer (252 - sizeN (cutI n)), 0) := by
        unfold padB
        rw [if_neg (by omega), if_neg (by omega), hl]
        rfl
      have hp1 : parseB (encB (cutI n)) = some (cutI n) := by
        have := parse_of hr 0 (by omega)
        simpa using this
      have hp2 := parse_of hr (252 - sizeN (cutI n)) (by omega)
      have hpr : pcW qcfg 33 [.str (encB (cutI n)), .int .i64 252] = some (.tup [.str (encB (cutI n) ++ zer (252 - sizeN (cutI n))), .int .i64 0]) := by
        rw [padR_ok _ _ (enc_small _ hn), hpad]
      rw [cond_true, pcK_of (size_ok _ hn), kI_mk, ibne_f (by omega), cond_false, decide_eq_false (by omega), cond_false, pcK_of hpr, d59_mk, pcK_of (dec_eq hp1 (enc_small _ hn)), d28_mk, pcK_of (dec_eq hp2 (by simp only [small, List.length_append, hl, List.length_replicate]; omega)), d28_mk]
      rw [isS, ibne_f rfl, cond_false, cond_false]
      rw [show (some (cutI n)).getD n00 = cutI n from rfl, pcK_of (same_ok _ _ hn), kB_mk, sameB_self, Bool.not_true, cond_false, pcK_of (same_ok _ _ hn), kB_mk, sameB_self, Bool.not_true, cond_false, pcK_of hd, d28_mk]
      rw [isS, ibne_f rfl, cond_false, show (some x).getD n00 = x from rfl, pcK_of (enc_ok _ hxs), kS_mk, pcK_of hpx, d59_mk, pcK_of (right_ok _ hxs), kB_mk, hxr, cond_true, beq_self_eq_true, cond_true, pcK_of (right_ok _ hn), kB_mk, hr, cond_true, fixK, kB_mk]
    | false =>
      have he : encB (cutI n) = [] := by unfold encB; rw [hr]; rfl
      rw [cond_false, pcK_of hd, d28_mk, isS, ibne_f rfl, cond_false, show (some x).getD n00 = x from rfl, pcK_of (enc_ok _ hxs), kS_mk, pcK_of hpx, d59_mk, pcK_of (right_ok _ hxs), kB_mk, hxr, cond_true, beq_self_eq_true, cond_true, pcK_of (right_ok _ hn), kB_mk, hr, cond_false, he, beq_self_eq_true, cond_true, fixK, kB_mk]

theorem find_parts {n : Inn} {key : Bs} (h : (findB n key).2 = 0) : findB n key = (((atB n.seps key : Nat) : Int), 0) ∧ rightB n = true ∧ keyB key = true ∧ (n.high == [] || lt key n.high) = true := by
  obtain ⟨h1, h2⟩ := find_at h
  unfold findB at h
  split at h
  · rename_i hc
    simp only [Bool.and_eq_true] at hc
    exact ⟨h1, h2, hc.1.2, hc.2⟩
  · cases h
theorem find_is {n : Inn} {key : Bs} (h1 : rightB n = true) (h2 : keyB key = true) (h3 : (n.high == [] || lt key n.high) = true) : findB n key = (((atB n.seps key : Nat) : Int), 0) := by
  unfold findB
  rw [h1, h2, h3]
  rfl
theorem innerLeads_true (n : Inn) (k1 k2 : Bs) (kid : Int) : pcW qcfg 6 [eI n, .agg [.str k1, .str k2], .int .i64 kid] = some (.bool true) := by
  refine e6_done _ _ _ _ _ _ _ ?_
  obtain ⟨hn, hs60, hk60⟩ := cut_sm n
  have hl1 := take_le k1 40
  have hl2 := take_le k2 40
  obtain ⟨p, hp, hpe⟩ := and_page kid
  have hpg : pgB (p : Int) = true := by unfold pgB; simp; omega
  unfold e6
  rw [hpe, pcK_of (cut_ok n), d25_mk, gd_of (cap_ok1 40 (by decide) k1), gd_of (cap_ok2 40 (by decide) k1), gd_of (cap_ok1 40 (by decide) k2), gd_of (cap_ok2 40 (by decide) k2), capT 40 40 rfl k1, capT 40 40 rfl k2]
  obtain ⟨key, hkey⟩ : ∃ key, key = k1.take 40 := ⟨_, rfl⟩
  obtain ⟨oth, hoth⟩ : ∃ oth, oth = k2.take 40 := ⟨_, rfl⟩
  rw [← hkey, ← hoth]
  rw [← hkey] at hl1
  rw [← hoth] at hl2
  generalize cutI n = m at hn hs60 hk60
  obtain ⟨q, e, hq⟩ : ∃ q e, putI m key (p : Int) = (q, e) := ⟨_, _, rfl⟩
  have hput : pcW qcfg 25 [eI m, .str key, .int .i64 (p : Int)] = some (.tup [eI q, .int .i64 e]) := putI_eq hq hn (by omega)
  by_cases f1 : (findB m oth).2 = 0
  rotate_left
  · rw [pcK_of (find_eq (find_no f1) hn), d45_mk, pcK_of (find_ok m key hn), d45_mk, pcK_of hput, d28_mk, ibne_t (by decide), cond_true, fixK, kB_mk]
  obtain ⟨f1e, hr, hko, hho⟩ := find_parts f1
  by_cases f2 : (findB m key).2 = 0
  rotate_left
  · rw [pcK_of (find_eq f1e hn), d45_mk, pcK_of (find_eq (find_no f2) hn), d45_mk, pcK_of hput, d28_mk, ibne_f (by decide), cond_false, ibne_t (by decide), cond_true, fixK, kB_mk]
  obtain ⟨f2e, _, hkk, hhk⟩ := find_parts f2
  by_cases f3 : e = 0
  rotate_left
  · rw [pcK_of (find_eq f1e hn), d45_mk, pcK_of (find_eq f2e hn), d45_mk, pcK_of hput, d28_mk, ibne_f (by decide), cond_false, cond_false, ibne_t f3, cond_true, fixK, kB_mk]
  subst f3
  have hF : PutF m key (p : Int) ∧ q = putN m key (p : Int) (atB m.seps key) := by
    unfold putI at hq
    rw [if_pos ⟨f2, hpg⟩] at hq
    split at hq
    · cases hq
    · rename_i hnew
      split at hq
      · rename_i hfit
        exact ⟨⟨hr, hkk, hhk, hpg, hnew, hfit⟩, (congrArg Prod.fst hq).symm⟩
      · cases hq
  obtain ⟨hF, rfl⟩ := hF
  have hqr := put_right hF
  have hqs := right_sm hqr
  obtain ⟨r1, _⟩ := right_iff.1 hr
  obtain ⟨L1, L2, L3, L4⟩ := put_leads hF oth
  have hai := at_le m.seps key
  have f4 : findB (putN m key (p : Int) (atB m.seps key)) oth = (((atB (putN m key (p : Int) (atB m.seps key)).seps oth : Nat) : Int), 0) := find_is hqr hko hho
  have hdel : delI (putN m key (p : Int) (atB m.seps key)) (((atB m.seps key + 1 : Nat) : Int)) = (m, 0) := by
    unfold delI
    have hqk : (putN m key (p : Int) (atB m.seps key)).kids.length = m.kids.length + 1 := by
      show (m.kids.take _ ++ [_] ++ m.kids.drop _).length = _
      simp; omega
    rw [if_pos ⟨hqr, by omega, by omega, by omega⟩, toNat_cast, put_del hai r1]
  generalize hQ : putN m key (p : Int) (atB m.seps key) = Q at hqr hqs L1 L2 L3 f4 hdel hput ⊢
  generalize hA : atB m.seps key = A at L1 L2 L3 hai hdel hF f2e ⊢
  generalize hW : atB m.seps oth = w at L1 L2 L4 f1e ⊢
  generalize hN : atB Q.seps oth = N at L1 L2 L3 f4 ⊢
  have wA : W .i64 ((A : Int) + 1) = ((A + 1 : Nat) : Int) := by rw [W_i64 (by omega)]; omega
  have hqk : Q.kids.length ≤ 1000 := hqs.kids
  have finA : ∀ {kf : R}, (pcK qcfg 27 [V.agg [V.sl (strs Q.seps), V.sl (ints Q.kids), V.str Q.high, V.int .i64 Q.next], V.int .i64 ((A + 1 : Nat) : Int)] fun r_9 =>
      d28 r_9 fun r27_0 r27_1 r27_2 r27_3 r27_4 => cond (r27_4 == (0 : Int)) (pcK qcfg 20 [V.agg [V.sl r27_0, V.sl r27_1, V.str r27_2, V.int .i64 r27_3], V.agg [V.sl (strs m.seps), V.sl (ints m.kids), V.str m.high, V.int .i64 m.next]] fun r_10 =>
        kB r_10 fun r20 => cond r20 (pcK qcfg 22 [] fun r_11 => kB r_11 fun r22_3 => some (.done (V.bool r22_3))) kf) kf) = some (.done (.bool true)) := by
    intro kf
    rw [pcK_of (delI_eq hdel hqs), d28_mk, ibeq_t rfl, cond_true, pcK_of (same_ok m m hn), kB_mk, sameB_self, cond_true, fixK, kB_mk]
  rw [pcK_of (find_eq f1e hn), d45_mk, pcK_of (find_eq f2e hn), d45_mk, pcK_of hput, d28_mk, ibne_f rfl, cond_false, cond_false, cond_false, pcK_of (find_eq f4 hqs), d45_mk, ibne_f rfl, cond_false]
  have hmin : (if (A : Int) < (if (w : Int) < (N : Int) then (w : Int) else (N : Int)) then (A : Int) else (if (w : Int) < (N : Int) then (w : Int) else (N : Int))) < 0 ↔ False := by
    constructor
    · intro h
      split at h
      · omega
      · split at h <;> omega
    · exact False.elim
  rw [decide_eq_false (fun h => hmin.1 h), cond_false, ints_len, ints_len, decide_eq_false (by omega), cond_false, decide_eq_false (by omega), cond_false, decide_eq_false (by omega), cond_false, wA]
  by_cases hc : w = A ∧ lt oth key = false
  · obtain ⟨g1, g2⟩ := L1 hc
    subst g1
    rw [ibeq_t (by omega), cond_true, pcK_of (less_ok oth key (by omega)), kB_mk, hc.2, Bool.not_false, cond_true, gd_of (decide_eq_true (by omega)), toNat_cast, idxK_ints g2, kI_mk, ibne_f rfl, cond_false, ibne_f rfl, cond_false, finA]
  · have g := L2 hc
    obtain ⟨x, hx⟩ : ∃ x, m.kids[w]? = some x := ⟨_, List.getElem?_eq_getElem L4⟩
    rw [hx] at g
    by_cases hwA : w = A
    · have hlt : lt oth key = true := by
        cases h : lt oth key with
        | true => rfl
        | false => exact (hc ⟨hwA, h⟩).elim
      rw [ibeq_t (by omega), cond_true, pcK_of (less_ok oth key (by omega)), kB_mk, hlt, Bool.not_true, cond_false, gd_of (by simp), toNat_cast, idxK_ints g, kI_mk, gd_of (by simp), toNat_cast, idxK_ints hx, kI_mk, ibne_f rfl, cond_false, finA]
    · rw [ibeq_f (by omega), cond_false, gd_of (by simp), toNat_cast, idxK_ints g, kI_mk, gd_of (by simp), toNat_cast, idxK_ints hx, kI_mk, ibne_f rfl, cond_false, finA]

theorem innerSplits_true (n : Inn) (key : Bs) (page : Int) : pcW qcfg 7 [eI n, .str key, .int .i64 page] = some (.bool true) := by
  refine e7_done _ _ _ _ _ _ ?_
  obtain ⟨hn, hs60, hk60⟩ := cut_sm n
  have hl1 := take_le key 40
  obtain ⟨p, hp, hpe⟩ := and_page page
  have hpg : pgB (p : Int) = true := by unfold pgB; simp; omega
  unfold e7
  rw [hpe, pcK_of (cut_ok n), d25_mk, gd_of (cap_ok1 40 (by decide) key), gd_of (cap_ok2 40 (by decide) key), capT 40 40 rfl key]
  obtain ⟨k, hk⟩ : ∃ k, k = key.take 40 := ⟨_, rfl⟩
  rw [← hk]
  rw [← hk] at hl1
  generalize cutI n = m at hn hs60 hk60
  cases hr : rightB m with
  | false =>
    have hsp : splO m (p : Int) = (n00, n00, [], 1) := by unfold splO; rw [if_neg (by rw [hr]; rintro ⟨h, _⟩; cases h)]
    rw [pcK_of (splI_eq hsp hn), d54_mk, pcK_of (right_ok m hn), kB_mk, hr, Bool.not_false, cond_true, ibeq_t rfl, cond_true, fixK, kB_mk]
  | true =>
    obtain ⟨r1, r2, r3, r4, r5⟩ := right_iff.1 hr
    by_cases h3 : 3 ≤ m.kids.length
    rotate_left
    · have hsp : splO m (p : Int) = (n00, n00, [], 1) := by unfold splO; rw [if_neg (by omega)]
      rw [pcK_of (splI_eq hsp hn), d54_mk, pcK_of (right_ok m hn), kB_mk, hr, Bool.not_true, cond_false, ints_len, decide_eq_true (by omega), cond_true, ibeq_t rfl, cond_true, fixK, kB_mk]
    have hsp : splO m (p : Int) = (splA m (p : Int), splB m, m.seps.getD (m.seps.length / 2) [], 0) := by unfold splO; rw [if_pos ⟨hr, h3, hpg⟩]
    obtain ⟨ra, rb⟩ := split_right (to := (p : Int)) hr h3 hpg
    obtain ⟨S1, S2⟩ := split_leads (to := (p : Int)) hr h3 k
    have sa := right_sm ra
    have sb := right_sm rb
    obtain ⟨ra1, _⟩ := right_iff.1 ra
    obtain ⟨rb1, _⟩ := right_iff.1 rb
    have hla := at_le (splA m (p : Int)).seps k
    have hlb := at_le (splB m).seps k
    have hlm := at_le m.seps k
    have w1 : W .i64 (((splA m (p : Int)).kids.length : Int) + ((splB m).kids.length : Int)) = (m.kids.length : Int) := by
      have : (splA m (p : Int)).kids.length + (splB m).kids.length = m.kids.length := by
        show (m.kids.take _).length + (m.kids.drop _).length = _
        simp; omega
      rw [W_i64 (by omega)]; omega
    have w2 : W .i64 ((p : Int) + 1) = (p : Int) + 1 := W_i64 (by omega)
    obtain ⟨mid, hmid⟩ : ∃ mid, mid = m.seps.getD (m.seps.length / 2) [] := ⟨_, rfl⟩
    have hah : (splA m (p : Int)).high = mid := hmid.symm
    have han : (splA m (p : Int)).next = (p : Int) + 1 := rfl
    have hbh : (splB m).high = m.high := rfl
    have hbn : (splB m).next = m.next := rfl
    rw [← hmid] at hsp S1 S2
    have hml : mid.length ≤ 1000 := by
      rw [← hah]; exact sa.high
    generalize splA m (p : Int) = a at *
    generalize splB m = b at *
    rw [pcK_of (splI_eq hsp hn), d54_mk, pcK_of (right_ok m hn), kB_mk, hr, Bool.not_true, cond_false, ints_len, ints_len, ints_len, decide_eq_false (by omega), cond_false, ibne_f rfl, cond_false, pcK_of (right_ok a sa), kB_mk, ra, Bool.not_true, cond_false, pcK_of (right_ok b sb), kB_mk, rb, Bool.not_true, cond_false]
    rw [w1, w2, ibne_f rfl, cond_false, hah, beq_self_eq_true, Bool.not_true, cond_false, han, ibne_f rfl, cond_false, hbh, beq_self_eq_true, Bool.not_true, cond_false, hbn, ibne_f rfl, cond_false]
    by_cases f1 : (findB m k).2 = 0
    rotate_left
    · rw [pcK_of (find_eq (find_no f1) hn), d45_mk, ibne_t (by decide), cond_true, fixK, kB_mk]
    obtain ⟨f1e, _, hkk, hhk⟩ := find_parts f1
    obtain ⟨x, hx⟩ : ∃ x, m.kids[atB m.seps k]? = some x := ⟨_, List.getElem?_eq_getElem (by omega)⟩
    rw [hx] at S1 S2
    rw [pcK_of (find_eq f1e hn), d45_mk, ibne_f rfl, cond_false, pcK_of (less_ok k mid (by omega)), kB_mk]
    cases hlt : lt k mid with
    | true =>
      have fa : findB a k = (((atB a.seps k : Nat) : Int), 0) := find_is ra hkk (by rw [hah, hlt]; simp)
      have fa' : pcW qcfg 23 [V.agg [V.sl (strs a.seps), V.sl (ints a.kids), V.str mid, V.int .i64 ((p : Int) + 1)], .str k] = some (.tup [.int .i64 (atB a.seps k : Nat), .int .i64 0]) := by
        have := find_eq fa sa
        rwa [eI, hah, han] at this
      have g := S1 hlt
      rw [cond_true, pcK_of fa', d45_mk, ibeq_t rfl, cond_true, decide_eq_true (by split <;> omega), cond_true, decide_eq_true (by omega), cond_true, decide_eq_true (by omega), cond_true, gd_of (by simp), toNat_cast, idxK_ints g, kI_mk, gd_of (by simp), toNat_cast, idxK_ints hx, kI_mk, ibeq_t rfl, cond_true, fixK, kB_mk]
    | false =>
      have fb : findB b k = (((atB b.seps k : Nat) : Int), 0) := find_is rb hkk (by rw [hbh]; exact hhk)
      have fb' : pcW qcfg 23 [V.agg [V.sl (strs b.seps), V.sl (ints b.kids), V.str m.high, V.int .i64 m.next], .str k] = some (.tup [.int .i64 (atB b.seps k : Nat), .int .i64 0]) := by
        have := find_eq fb sb
        rwa [eI, hbh, hbn] at this
      have g := S2 hlt
      rw [cond_false, pcK_of fb', d45_mk, ibeq_t rfl, cond_true, decide_eq_true (by split <;> omega), cond_true, decide_eq_true (by omega), cond_true, decide_eq_true (by omega), cond_true, gd_of (by simp), toNat_cast, idxK_ints g, kI_mk, gd_of (by simp), toNat_cast, idxK_ints hx, kI_mk, ibeq_t rfl, cond_true, fixK, kB_mk]

theorem innerTurns_true (n : Inn) (i page : Int) : pcW qcfg 9 [eI n, .int .i64 i, .int .i64 page] = some (.bool true) := by
  refine e9_done _ _ _ _ _ _ ?_
  obtain ⟨hn, hs60, hk60⟩ := cut_sm n
  obtain ⟨p, hp, hpe⟩ := and_page page
  obtain ⟨q, hq, hqe⟩ := and_many i
  have hpg : pgB (p : Int) = true := by unfold pgB; simp; omega
  unfold e9
  rw [hpe, hqe, pcK_of (cut_ok n), d25_mk, pcK_of (ref_ok _), d30_mk, pcK_of (rightR_ok _ hn), kB_mk]
  generalize cutI n = m at hn hs60 hk60
  cases hr : rightB m with
  | false =>
    have he : encB m = [] := by unfold encB; rw [hr]; rfl
    rw [Bool.not_false, cond_true, pcK_of (enc_ok _ hn), kS_mk, he, beq_self_eq_true, cond_true, fixK, kB_mk]
  | true =>
    obtain ⟨r1, r2, r3, r4, r5⟩ := right_iff.1 hr
    rw [Bool.not_true, cond_false, ints_len, gd_of (by rw [decide_eq_false (by omega)]; rfl)]
    have hmod : ((q : Int)).tmod (m.kids.length : Int) = ((q % m.kids.length : Nat) : Int) := rfl
    rw [hmod]
    have hlt : q % m.kids.length < m.kids.length := Nat.mod_lt _ (by omega)
    generalize q % m.kids.length = a at hlt
    obtain ⟨x, hx⟩ : ∃ x, m.kids[a]? = some x := ⟨_, List.getElem?_eq_getElem hlt⟩
    have hxg : pgB x = true := r2 x (List.mem_of_getElem? hx)
    have t1 : turnI m (a : Int) (p : Int) = (turnN m a (p : Int), 0) := by unfold turnI; rw [if_pos ⟨hr, by omega, by omega, hpg⟩, toNat_cast]
    have hr2 := turn_right (i := a) hr hpg
    have hs2 := right_sm hr2
    have hback : turnN (turnN m a (p : Int)) a x = m := by
      have : (m.kids.set a (p : Int)).set a x = m.kids := by
        rw [List.set_set]
        apply List.ext_getElem?
        intro j
        rw [List.getElem?_set]
        by_cases hj : a = j
        · rw [if_pos hj, if_pos hlt, ← hj, hx]
        · rw [if_neg hj]
      show (⟨m.seps, (m.kids.set a (p : Int)).set a x, m.high, m.next⟩ : Inn) = m
      rw [this]
    have hlen2 : (turnN m a (p : Int)).kids.length = m.kids.length := by show (m.kids.set _ _).length = _; simp
    have t2 : turnI (turnN m a (p : Int)) (a : Int) x = (m, 0) := by unfold turnI; rw [if_pos ⟨hr2, by omega, by omega, hxg⟩, toNat_cast, hback]
    have hget : (turnN m a (p : Int)).kids[a]? = some (p : Int) := by
      show (m.kids.set a _)[a]? = _
      rw [List.getElem?_set, if_pos rfl, if_pos hlt]
    have hsz : sizeN (turnN m a (p : Int)) = sizeN m := rfl
    generalize turnN m a (p : Int) = u at *
    rw [pcK_of (turnI_eq t1 hn), d28_mk, ibne_f rfl, cond_false, ints_len, ibne_f (by omega), cond_false, gd_of (by simp), toNat_cast, idxK_ints hget, kI_mk, ibne_f rfl, cond_false, gd_of (by simp), idxK_ints hx, kI_mk, pcK_of (turnI_eq t2 hs2), d28_mk, ibeq_t rfl, cond_true, pcK_of (same_ok m m hn), kB_mk, sameB_self, cond_true]
    rw [pcK_of (size_ok _ hs2), kI_mk, pcK_of (size_ok _ hn), kI_mk, hsz, ibeq_t rfl, cond_true, pcK_of (right_ok _ hs2), kB_mk, hr2, cond_true, fixK, kB_mk]

theorem all_end (m : Inn) (hn : Sm m) (hr : rightB m = true) (key : Bs) (hk : m.kids.length ≤ 60) (i : Int) (hi : (m.kids.length : Int) ≤ i) : s8_0 key i (strs m.seps) (ints m.kids) m.high m.next = some (.done (.bool true)) := by
  obtain ⟨r1, r2, r3, r4, r5⟩ := right_iff.1 hr
  have hkl := take_le key 16
  have hs := hn.seps
  unfold s8_0
  rw [decide_eq_false (by rw [ints_len]; omega), cond_false, gd_of (cap_ok1 16 (by decide) key), gd_of (cap_ok2 16 (by decide) key), capT 16 16 rfl key]
  generalize key.take 16 = k at hkl
  by_cases h0 : k = []
  · subst h0
    have hf : findB m [] = (0, 1) := by
      unfold findB
      rw [if_neg (by rw [show keyB [] = false from rfl]; simp)]
    rw [pcK_of (find_eq hf hn), d45_mk, beq_self_eq_true, cond_true, ibeq_t rfl, cond_true, fixK, kB_mk]
  have h0b : (k == []) = false := by simpa using h0
  have hkk : keyB k = true := by unfold keyB; rw [h0b, decide_eq_true hkl]; rfl
  have hle := at_le m.seps k
  have good : ∀ (hhk : (m.high == [] || lt k m.high) = true), ∀ {kf : R}, (cond ((atB m.seps k : Int) == (0 : Int))
      (cond ((atB m.seps k : Int) == (m.seps.length : Int)) (some (.done (V.bool true))) (gd (decide (0 ≤ (atB m.seps k : Int))) <| idxK (strs m.seps) ((atB m.seps k : Int)).toNat fun v_1 => kS v_1 fun s_1 => cond (Op.bytesLess k s_1) (some (.done (V.bool true))) kf))
      (gd (decide (0 ≤ W .i64 ((atB m.seps k : Int) - 1))) <| idxK (strs m.seps) ((W .i64 ((atB m.seps k : Int) - 1)).toNat) fun v_2 => kS v_2 fun s_2 => cond (Op.bytesLess s_2 k || s_2 == k)
        (cond ((atB m.seps k : Int) == (m.seps.length : Int)) (some (.done (V.bool true))) (gd (decide (0 ≤ (atB m.seps k : Int))) <| idxK (strs m.seps) ((atB m.seps k : Int)).toNat fun v_3 => kS v_3 fun s_3 => cond (Op.bytesLess k s_3) (some (.done (V.bool true))) kf)) kf))
      = some (.done (.bool true)) := by
    intro hhk kf
    have second : (cond ((atB m.seps k : Int) == (m.seps.length : Int)) (some (.done (V.bool true))) (gd (decide (0 ≤ (atB m.seps k : Int))) <| idxK (strs m.seps) ((atB m.seps k : Int)).toNat fun v_1 => kS v_1 fun s_1 => cond (Op.bytesLess k s_1) (some (.done (V.bool true))) kf)) = some (.done (.bool true)) := by
      by_cases h2 : atB m.seps k = m.seps.length
      · rw [ibeq_t (by omega)]; rfl
      · have hg : m.seps[atB m.seps k]? = some m.seps[atB m.seps k] := List.getElem?_eq_getElem (by omega)
        have hlt := at_spec2 hg
        rw [ibeq_f (by omega), cond_false, gd_of (by simp), toNat_cast, idxK_strs hg, kS_mk]
        rw [show Op.bytesLess k m.seps[atB m.seps k] = true from hlt]
        rfl
    by_cases h1 : atB m.seps k = 0
    · rw [ibeq_t (by omega), cond_true, second]
    · have w : W .i64 ((atB m.seps k : Int) - 1) = ((atB m.seps k - 1 : Nat) : Int) := by rw [W_i64 (by omega)]; omega
      have hg : m.seps[atB m.seps k - 1]? = some m.seps[atB m.seps k - 1] := List.getElem?_eq_getElem (by omega)
      have hlt := at_spec1 (k := k) (by omega) hg
      rw [ibeq_f (by omega), cond_false, w, gd_of (by simp), toNat_cast, idxK_strs hg, kS_mk, le_not, hlt, Bool.not_false, cond_true, second]
  cases hh : m.high == [] with
  | true =>
    have hhk : (m.high == [] || lt k m.high) = true := by rw [hh]; rfl
    have hf := find_is hr hkk hhk
    rw [pcK_of (find_eq hf hn), d45_mk, h0b, cond_false, Bool.not_true, cond_false, ibeq_t rfl, cond_true, decide_eq_true (by omega), cond_true, ints_len, decide_eq_true (by omega), cond_true, strs_len]
    simp only [fixK, kB_mk]
    exact good hhk
  | false =>
    cases hl : lt k m.high with
    | false =>
      have hf : findB m k = (0, 1) := by
        unfold findB
        rw [if_neg (by rw [hh, hl]; simp)]
      rw [pcK_of (find_eq hf hn), d45_mk, h0b, cond_false, Bool.not_false, cond_true]
      rw [show Op.bytesLess k m.high = false from hl, Bool.not_false, cond_true, ibeq_t rfl, cond_true, fixK, kB_mk]
    | true =>
      have hhk : (m.high == [] || lt k m.high) = true := by rw [hl]; simp
      have hf := find_is hr hkk hhk
      rw [pcK_of (find_eq hf hn), d45_mk, h0b, cond_false, Bool.not_false, cond_true]
      rw [show Op.bytesLess k m.high = true from hl, Bool.not_true, cond_false, ibeq_t rfl, cond_true, decide_eq_true (by omega), cond_true, ints_len, decide_eq_true (by omega), cond_true, strs_len]
      simp only [fixK, kB_mk]
      exact good hhk
theorem all_loop (m : Inn) (hn : Sm m) (hr : rightB m = true) (key : Bs) (hk : m.kids.length ≤ 60) : ∀ (d i : Nat), i + d = m.kids.length → 1 ≤ i →
    Go qk false 0 fa8 (.head 0 (T8_0 key (i : Int) (strs m.seps) (ints m.kids) m.high m.next)) (.done (.bool true)) := by
  intro d
  obtain ⟨r1, r2, r3, r4, r5⟩ := right_iff.1 hr
  induction d with
  | zero =>
    intro i hi _
    exact s8_0_run _ _ _ _ _ _ (all_end m hn hr key hk _ (by omega)) (.refl _)
  | succ d ih =>
    intro i hi h1
    have w : W .i64 ((i : Int) + 1) = ((i + 1 : Nat) : Int) := by rw [W_i64 (by omega)]; omega
    have w2 : W .i64 ((i : Int) - 1) = ((i - 1 : Nat) : Int) := by rw [W_i64 (by omega)]; omega
    have hg : m.seps[i - 1]? = some m.seps[i - 1] := List.getElem?_eq_getElem (by omega)
    have hf := at_self hr hg
    rw [show i - 1 + 1 = i by omega] at hf
    refine s8_0_run _ _ _ _ _ _ (o := .head 0 (T8_0 key ((i + 1 : Nat) : Int) (strs m.seps) (ints m.kids) m.high m.next)) ?_ (ih (i + 1) (by omega) (by omega))
    unfold s8_0
    rw [decide_eq_true (by rw [ints_len]; omega), cond_true, w2, gd_of (by simp), toNat_cast, idxK_strs hg, kS_mk, pcK_of (find_eq hf hn), d45_mk, ibne_f rfl, cond_false, ibne_f rfl, cond_false, w]
theorem innerAll_true (n : Inn) (key : Bs) : pcW qcfg 8 [eI n, .str key] = some (.bool true) := by
  obtain ⟨hn, hs60, hk60⟩ := cut_sm n
  cases hr : rightB (cutI n) with
  | false =>
    refine e8_run _ _ _ _ _ ?_ (.refl _)
    unfold e8
    have he : encB (cutI n) = [] := by unfold encB; rw [hr]; rfl
    rw [pcK_of (cut_ok n), d25_mk, pcK_of (ref_ok _), d30_mk, pcK_of (rightR_ok _ hn), kB_mk, hr, Bool.not_false, cond_true, pcK_of (enc_ok _ hn), kS_mk, he, beq_self_eq_true, cond_true, fixK, kB_mk]
  | true =>
    obtain ⟨r1, r2, r3, r4, r5⟩ := right_iff.1 hr
    refine e8_run _ _ _ _ _ ?_ (all_loop (cutI n) hn hr key hk60 ((cutI n).kids.length - 1) 1 (by omega) (by omega))
    unfold e8
    rw [pcK_of (cut_ok n), d25_mk, pcK_of (ref_ok _), d30_mk, pcK_of (rightR_ok _ hn), kB_mk, hr]
    rfl
end Go.Proofs.Ytndkhelglfakfaa
