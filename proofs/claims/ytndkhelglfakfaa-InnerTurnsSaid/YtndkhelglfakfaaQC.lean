/-
  Inner pages: the cut ones; the fixed calls; what decoding and encoding have to do with one another.
-/
import Derived.Test.YtndkhelglfakfaaQL
import Derived.Test.YtndkhelglfakfaaQ3
namespace Go.Proofs.Ytndkhelglfakfaa
open Go Go.Lite
set_option linter.unusedSimpArgs false
set_option linter.unusedVariables false

def cutI (n : Inn) : Inn := ⟨(n.seps.take 60).map (·.take 40), n.kids.take 60, n.high.take 40, n.next⟩
theorem cut_sm (n : Inn) : Sm (cutI n) ∧ (cutI n).seps.length ≤ 60 ∧ (cutI n).kids.length ≤ 60 := by
  unfold cutI
  refine ⟨⟨by simp; omega, ?_, by simp; omega, by simp; omega⟩, by simp; omega, by simp; omega⟩
  intro s hs
  simp only [List.mem_map] at hs
  obtain ⟨t, _, rfl⟩ := hs
  simp; omega
theorem cap_len (c n : Nat) : (if (c : Int) < (n : Int) then (c : Int) else (n : Int)) = ((min c n : Nat) : Int) := by
  split <;> omega
theorem take_min {α : Type} (l : List α) (c : Nat) : l.take (min c l.length) = l.take c := by
  rcases Nat.le_total c l.length with h | h
  · rw [Nat.min_eq_left h]
  · rw [Nat.min_eq_right h, List.take_length, List.take_of_length_le h]
theorem cut_end (n : Inn) (k : Int) (acc : List Bs) (hk : (n.seps.length : Int) ≤ k ∨ 60 ≤ k) : s10_0 k (strs n.seps) (ints n.kids) n.high n.next (strs acc) = some (.done (eI ⟨acc, n.kids.take 60, n.high.take 40, n.next⟩)) := by
  have e1 := cap_len 60 n.kids.length
  have e2 := cap_len 40 n.high.length
  have e3 : (ints n.kids).take (min 60 n.kids.length) = ints (n.kids.take 60) := by rw [ints_take, take_min]
  have e4 : n.high.take (min 40 n.high.length) = n.high.take 40 := take_min _ _
  have fin : (gd (wfl 1 (ints n.kids)) <| gd (decide (0 ≤ (if 60 < ((ints n.kids).length : Int) then 60 else ((ints n.kids).length : Int)))) <|
      gd (decide ((if 60 < ((ints n.kids).length : Int) then 60 else ((ints n.kids).length : Int)).toNat ≤ (ints n.kids).length)) <|
      gd (wfl 1 ((ints n.kids).take ((if 60 < ((ints n.kids).length : Int) then 60 else ((ints n.kids).length : Int)).toNat))) <|
      gd (decide (0 + ((ints n.kids).take ((if 60 < ((ints n.kids).length : Int) then 60 else ((ints n.kids).length : Int)).toNat)).length ≤ 16777216)) <|
      gd (decide (0 ≤ (if 40 < (n.high.length : Int) then 40 else (n.high.length : Int)))) <|
      gd (decide ((if 40 < (n.high.length : Int) then 40 else (n.high.length : Int)).toNat ≤ n.high.length)) <|
      some (.done (V.agg [V.sl (strs acc), V.sl ((ints n.kids).take ((if 60 < ((ints n.kids).length : Int) then 60 else ((ints n.kids).length : Int)).toNat)), V.str (n.high.take ((if 40 < (n.high.length : Int) then 40 else (n.high.length : Int)).toNat)), V.int .i64 n.next])))
      = some (.done (eI ⟨acc, n.kids.take 60, n.high.take 40, n.next⟩)) := by
    rw [ints_len]
    erw [e1, e2]
    rw [toNat_cast, toNat_cast, e3, e4]
    simp (disch := first | exact wfl_strs _ | exact wfl_ints _ | exact decide_eq_true (by first | omega | (simp only [strs_len, ints_len, List.length_append, List.length_take, List.length_drop, List.length_cons, List.length_nil, List.length_set]; omega))) only [gd_of]
  unfold s10_0
  rw [fin, strs_len]
  by_cases h : k < (n.seps.length : Int)
  · rw [decide_eq_true h, cond_true, decide_eq_false (by omega), cond_false]
  · rw [decide_eq_false h, cond_false]
theorem cut_loop (n : Inn) : ∀ (d k : Nat), k + d = min 60 n.seps.length →
    Go qk false 0 fa10 (.head 0 (T10_0 (k : Int) (strs n.seps) (ints n.kids) n.high n.next (strs ((n.seps.take k).map (·.take 40))))) (.done (eI (cutI n))) := by
  intro d
  induction d with
  | zero =>
    intro k hk
    have e : (n.seps.take k).map (·.take 40) = (cutI n).seps := by
      unfold cutI
      rw [show k = min 60 n.seps.length by omega, take_min]
    refine s10_0_run _ _ _ _ _ _ (o := .done (eI (cutI n))) ?_ (.refl _)
    rw [cut_end n k _ (by omega), e]
    rfl
  | succ d ih =>
    intro k hk
    have hlt : k < n.seps.length := by omega
    have h1 : n.seps[k]? = some n.seps[k] := List.getElem?_eq_getElem hlt
    have w : W .i64 ((k : Int) + 1) = ((k + 1 : Nat) : Int) := by rw [W_i64 (by omega)]; omega
    have e1 := cap_len 40 n.seps[k].length
    have e2 : (n.seps.take (k + 1)).map (·.take 40) = (n.seps.take k).map (·.take 40) ++ [n.seps[k].take 40] := by
      rw [List.take_add_one, h1, List.map_append]
      rfl
    refine s10_0_run _ _ _ _ _ _ (o := .head 0 (T10_0 ((k + 1 : Nat) : Int) (strs n.seps) (ints n.kids) n.high n.next (strs ((n.seps.take (k + 1)).map (·.take 40))))) ?_ (ih (k + 1) (by omega))
    unfold s10_0
    rw [decide_eq_true (by rw [strs_len]; omega), cond_true, decide_eq_true (by omega), cond_true, gd_of (by simp), toNat_cast, idxK_strs h1, kS_mk, gd_of (by simp), idxK_strs h1, kS_mk]
    erw [e1]
    rw [toNat_cast, take_min, gd_of (decide_eq_true (by omega)), gd_of (decide_eq_true (by omega)), gd_of (by simp [strs_len]; omega), w, strs_app1, e2]
theorem cut_ok (n : Inn) : pcW qcfg 10 [eI n] = some (eI (cutI n)) := by
  have := cut_loop n (min 60 n.seps.length) 0 (by omega)
  exact e10_run _ _ _ _ rfl this
theorem ref_ok (n : Inn) : pcW qcfg 15 [eI n] = some (eI n) := e15_done _ _ _ _ rfl

/-! ### what is decoded -/

theorem parse_some {s : Bs} {n : Inn} (h : parseB s = some n) : rightB n = true ∧ padB (encB n) (s.length : Int) = (s, 0) ∧ s.length ≤ 252 := by
  unfold parseB at h
  split at h
  · cases h
  rename_i hc
  have hl : 4 < s.length := by
    rcases Nat.lt_or_ge 4 s.length with h1 | h1
    · exact h1
    · exact (hc (.inl h1)).elim
  have hs : s.length ≤ 252 := by
    rcases Nat.lt_or_ge 252 s.length with h1 | h1
    · exact (hc (.inr (.inl h1))).elim
    · exact h1
  have hh : s.head? = some 78 := by
    by_cases h1 : s.head? = some 78
    · exact h1
    · exact (hc (.inr (.inr h1))).elim
  obtain ⟨c0, hc0⟩ : ∃ c, s[0]? = some c := ⟨_, List.getElem?_eq_getElem (by omega)⟩
  obtain ⟨c, hc1⟩ : ∃ c, s[1]? = some c := ⟨_, List.getElem?_eq_getElem (by omega)⟩
  have h78 : c0 = 78 := by
    rw [List.head?_eq_getElem?, hc0] at hh
    exact Option.some.inj hh
  rw [getD_one hc1] at h
  simp only [Option.bind_eq_some_iff] at h
  obtain ⟨⟨⟨t, k⟩, r⟩, h1, ⟨y, rest⟩, h2, h3⟩ := h
  have hfin := finR_eq hs hl hc0 hc1 h1 h2
  rw [if_pos h78, h3] at hfin
  have hn : n = ⟨y.map (·.1), k :: y.map (·.2), t, ((unle ((s.drop 2).take 2) : Nat) : Int)⟩ := by
    unfold finB at h3
    split at h3
    · exact (Option.some.inj h3).symm
    · cases h3
  rw [← hn] at hfin
  unfold finR at hfin
  split at hfin
  · rename_i hq
    simp only [Bool.and_eq_true, beq_iff_eq] at hq
    exact ⟨hq.1, hq.2, hs⟩
  · cases hfin
theorem parse_of {n : Inn} (h : rightB n = true) (k : Nat) (hk : sizeN n + k ≤ 252) : parseB (encB n ++ zer k) = some n := by
  obtain ⟨h1, h2, h3, h4, h5, h6, h7⟩ := right_facts h
  have hg := szR_ge h3
  have hlen : (encB n ++ zer k).length = sizeN n + k := by simp [enc_len h]
  obtain ⟨nn, hnn⟩ : ∃ nn : Nat, n.next = (nn : Int) := ⟨n.next.toNat, by omega⟩
  obtain ⟨k0, ks, hks⟩ : ∃ k ks, n.kids = k :: ks := by
    cases hk : n.kids with
    | nil => rw [hk] at h1; simp at h1
    | cons k ks => exact ⟨k, ks, rfl⟩
  have hk0 := pg_lt (h2 k0 (by rw [hks]; simp))
  obtain ⟨kn, rfl⟩ : ∃ kn : Nat, k0 = (kn : Int) := ⟨k0.toNat, by omega⟩
  have hkl : ks.length = n.seps.length := by rw [hks] at h1; simpa using h1
  have hz := zip_mem h
  rw [hks, List.tail_cons] at hz
  have e0 : encB n ++ zer k = 78 :: UInt8.ofNat n.seps.length :: (leN 2 nn ++ (txB n.high ++ leN 2 kn ++ (rowsB (n.seps.zip ks) ++ zer k))) := by
    unfold encB bodyB headB
    rw [if_pos h, hks, hnn]
    simp
  have hl2 := leN_len 2 nn
  obtain ⟨b2, b3, hb⟩ : ∃ b2 b3, leN 2 nn = [b2, b3] := ⟨_, _, rfl⟩
  have hun : unle (leN 2 nn) = nn := unle_leN 2 nn (by have : (256 : Nat) ^ 2 = 65536 := by decide
                                                       omega)
  have e1 : (encB n ++ zer k).drop 4 = txB n.high ++ leN 2 kn ++ (rowsB (n.seps.zip ks) ++ zer k) := by rw [e0, hb]; rfl
  have e2 : ((encB n ++ zer k).drop 2).take 2 = leN 2 nn := by rw [e0, hb]; rfl
  have e3 : (encB n ++ zer k).getD 1 0 = UInt8.ofNat n.seps.length := by rw [e0]; rfl
  have e4 : (UInt8.ofNat n.seps.length).toNat = (n.seps.zip ks).length := by simp; omega
  have e5 : (encB n ++ zer k).head? = some 78 := by rw [e0]; rfl
  have hmin : sizeN n = 7 + n.high.length + szR n.seps := rfl
  unfold parseB
  rw [if_neg (by rw [hlen, e5]; simp; omega), e1, pRow_of (by omega) (by omega), Option.bind_some]
  simp only
  rw [e3, e4, pRows_of _ _ hz, Option.bind_some, e2, hun]
  have e6 : (n.seps.zip ks).map (·.1) = n.seps := List.map_fst_zip (by omega)
  have e7 : (n.seps.zip ks).map (·.2) = ks := List.map_snd_zip (by omega)
  simp only [e6, e7]
  have e8 : (⟨n.seps, (kn : Int) :: ks, n.high, (nn : Int)⟩ : Inn) = n := by
    rw [← hks, ← hnn]
  rw [e8]
  unfold finB
  rw [h, bare_nil_iff.2 (by simp)]
  rfl
theorem decO_eq (o : Option Inn) : decO o = .tup [eI (o.getD n00), .int .i64 (if o.isSome then 0 else 4)] := by
  cases o <;> rfl
theorem parse_sm (s : Bs) : Sm ((parseB s).getD n00) := by
  cases h : parseB s with
  | none => exact ⟨by simp, by simp, by simp, by simp⟩
  | some n => exact right_sm (parse_some h).1

/-! ### the fixed calls -/

abbrev f0 : Inn := ⟨[], [3], [], 0⟩
abbrev f1 : Inn := ⟨[[109]], [3, 4], [], 0⟩
abbrev f2 : Inn := ⟨[[109], [112]], [3, 4, 513], [], 0⟩
abbrev fp : Inn := ⟨[[109]], [3, 4], [112], 7⟩
abbrev fq : Inn := ⟨[], [513], [], 0⟩
abbrev fd : Inn := ⟨[[112]], [4, 513], [], 0⟩
abbrev ft : Inn := ⟨[[109], [112]], [3, 4, 9], [], 0⟩
theorem sm_lit {n : Inn} (h : decide (n.seps.length ≤ 1000) && (n.seps.all fun s => decide (s.length ≤ 1000)) && decide (n.kids.length ≤ 1000) && decide (n.high.length ≤ 1000) = true) : Sm n := by
  simp only [Bool.and_eq_true, decide_eq_true_eq, List.all_eq_true] at h
  exact ⟨h.1.1.1, h.1.1.2, h.1.2, h.2⟩
theorem g_put0 : putI f0 [109] 4 = (f1, 0) := by kernel_rfl
theorem g_find1 : findB f1 [108, 122] = (0, 0) := by kernel_rfl
theorem g_find2 : findB f1 [109] = (1, 0) := by kernel_rfl
theorem g_put1 : putI f1 [109] 5 = (n00, 8) := by kernel_rfl
theorem g_put2 : putI f1 [112] 513 = (f2, 0) := by kernel_rfl
theorem g_spl : splO f2 6 = (fp, fq, [112], 0) := by kernel_rfl
theorem g_del : delI f2 0 = (fd, 0) := by kernel_rfl
theorem g_turn : turnI f2 2 9 = (ft, 0) := by kernel_rfl
theorem g_enc : encB f2 = [78, 2, 0, 0, 0, 3, 0, 1, 109, 4, 0, 1, 112, 1, 2] := by kernel_rfl
theorem g_dec0 : parseB [78, 2, 0, 0, 0, 3, 0, 1, 109, 4, 0, 1, 112, 1, 2, 0] = some f2 := by kernel_rfl
theorem g_dec1 : parseB [78, 2, 0, 0, 0, 3, 0, 1, 109, 4, 0, 1, 112, 1, 2, 1] = none := by kernel_rfl
theorem g_del0 : delI f0 0 = (n00, 1) := by kernel_rfl
theorem g_find3 : findB fp [109] = (1, 0) := by kernel_rfl
theorem g_right : rightB f2 = true := by kernel_rfl
theorem g_right0 : rightB n00 = false := by kernel_rfl
theorem g_size : sizeN f2 = 15 := by kernel_rfl
theorem g_same : sameB f2 f2 = true := by kernel_rfl
theorem putI_eq {n m : Inn} {key : Bs} {kid e : Int} (h : putI n key kid = (m, e)) (hn : Sm n) (hk : key.length ≤ 1000) : pcW qcfg 25 [eI n, .str key, .int .i64 kid] = some (.tup [eI m, .int .i64 e]) := by
  rw [putI_ok n key kid hn hk, h]
theorem find_eq {n : Inn} {key : Bs} {i e : Int} (h : findB n key = (i, e)) (hn : Sm n) : pcW qcfg 23 [eI n, .str key] = some (.tup [.int .i64 i, .int .i64 e]) := by
  rw [find_ok n key hn, h]
theorem delI_eq {n m : Inn} {i e : Int} (h : delI n i = (m, e)) (hn : Sm n) : pcW qcfg 27 [eI n, .int .i64 i] = some (.tup [eI m, .int .i64 e]) := by
  rw [delI_ok n i hn, h]
theorem turnI_eq {n m : Inn} {i kid e : Int} (h : turnI n i kid = (m, e)) (hn : Sm n) : pcW qcfg 29 [eI n, .int .i64 i, .int .i64 kid] = some (.tup [eI m, .int .i64 e]) := by
  rw [turnI_ok n i kid hn, h]
theorem splI_eq {n a b : Inn} {to : Int} {key : Bs} {e : Int} (h : splO n to = (a, b, key, e)) (hn : Sm n) : pcW qcfg 31 [eI n, .int .i64 to] = some (.tup [eI a, eI b, .str key, .int .i64 e]) := by
  rw [splI_ok n to hn, h]
theorem dec_eq {s : Bs} {o : Option Inn} (h : parseB s = o) (hs : small s) : pcW qcfg 11 [.str s] = some (.tup [eI (o.getD n00), .int .i64 (if o.isSome then 0 else 4)]) := by
  rw [dec_ok s hs, h, decO_eq]
theorem s0 : Sm f0 := sm_lit (by decide)
theorem s1 : Sm f1 := sm_lit (by decide)
theorem s2 : Sm f2 := sm_lit (by decide)
theorem sp : Sm fp := sm_lit (by decide)
theorem s00 : Sm n00 := sm_lit (by decide)
theorem fixed_ok : pcW qcfg 22 [] = some (.bool true) := by
  refine e22_run (o := .head 0 (T22_0 0 0 0 1 0 8 0 [112] 0 (strs f2.seps) (ints f2.kids) [] 0 (strs fp.seps) (ints fp.kids) [112] 7 (strs fq.seps) (ints fq.kids) [] 0)) ?_ ?_
  · unfold e22
    have a0 : pcW qcfg 25 [V.agg [V.sl [], V.sl [V.int .i64 3], V.str [], V.int .i64 0], V.str [109], V.int .i64 4] = some (.tup [eI f1, .int .i64 0]) := putI_eq g_put0 s0 (by decide)
    rw [pcK_of a0, d28_mk, pcK_of (find_eq g_find1 s1), d45_mk, pcK_of (find_eq g_find2 s1), d45_mk, pcK_of (putI_eq g_put1 s1 (by decide)), d28_mk, pcK_of (putI_eq g_put2 s1 (by decide)), d28_mk, pcK_of (splI_eq g_spl s2), d54_mk]
  refine s22_0_run _ _ _ _ _ _ _ _ _ _ _ _ _ _ _ _ _ _ _ _ _ (o := .head 1 (T22_1 0 0 0 1 0 8 0 [112] 0 0 0 0 4 1 0 (strs f2.seps) (ints f2.kids) [] 0 (strs fp.seps) (ints fp.kids) [112] 7 (strs fq.seps) (ints fq.kids) [] 0
      (strs fd.seps) (ints fd.kids) [] 0 (strs ft.seps) (ints ft.kids) [] 0 (strs f2.seps) (ints f2.kids) [] 0)) ?_ ?_
  · unfold s22_0
    have a0 : pcW qcfg 27 [V.agg [V.sl [], V.sl [V.int .i64 3], V.str [], V.int .i64 0], V.int .i64 0] = some (.tup [eI n00, .int .i64 1]) := delI_eq g_del0 s0
    have en : pcW qcfg 18 [eI f2] = some (.str [78, 2, 0, 0, 0, 3, 0, 1, 109, 4, 0, 1, 112, 1, 2]) := by rw [enc_ok f2 s2, g_enc]
    rw [pcK_of (delI_eq g_del s2), d28_mk, pcK_of (turnI_eq g_turn s2), d28_mk, pcK_of en, kS_mk, gd_of (by decide)]
    rw [show ([78, 2, 0, 0, 0, 3, 0, 1, 109, 4, 0, 1, 112, 1, 2] ++ [0] : Bs) = [78, 2, 0, 0, 0, 3, 0, 1, 109, 4, 0, 1, 112, 1, 2, 0] from rfl, pcK_of (dec_eq g_dec0 (by decide)), d28_mk, pcK_of en, kS_mk, gd_of (by decide)]
    rw [show ([78, 2, 0, 0, 0, 3, 0, 1, 109, 4, 0, 1, 112, 1, 2] ++ [1] : Bs) = [78, 2, 0, 0, 0, 3, 0, 1, 109, 4, 0, 1, 112, 1, 2, 1] from rfl, pcK_of (dec_eq g_dec1 (by decide)), d28_mk, pcK_of a0, d28_mk, pcK_of (find_eq g_find3 sp), d45_mk]
    rfl
  refine s22_1_run _ _ _ _ _ _ _ _ _ _ _ _ _ _ _ _ _ _ _ _ _ _ _ _ _ _ _ _ _ _ _ _ _ _ _ _ _ _ _ rfl ?_
  refine s22_2_run _ _ _ _ _ _ _ _ _ _ _ _ _ _ _ _ _ _ _ _ _ ?_ (.refl _)
  unfold s22_2
  have en : pcW qcfg 18 [eI f2] = some (.str [78, 2, 0, 0, 0, 3, 0, 1, 109, 4, 0, 1, 112, 1, 2]) := by rw [enc_ok f2 s2, g_enc]
  have sz : pcW qcfg 16 [eI f2] = some (.int .i64 15) := by rw [size_ok f2 s2, g_size]; rfl
  have i1 : (ints fd.kids)[0]? = some (V.int .i64 4) := rfl
  have i2 : (ints ft.kids)[2]? = some (V.int .i64 9) := rfl
  have r1 : pcW qcfg 13 [eI f2] = some (.bool true) := by rw [right_ok f2 s2, g_right]
  have r0 : pcW qcfg 13 [V.agg [V.sl [], V.sl [], V.str [], V.int .i64 0]] = some (.bool false) := by
    have := right_ok n00 s00
    rwa [g_right0] at this
  have sm : pcW qcfg 20 [eI f2, eI f2] = some (.bool true) := by rw [same_ok f2 f2 s2, g_same]
  rw [pcK_of en, kS_mk, beq_self_eq_true, cond_true, pcK_of sz, kI_mk, ibeq_t rfl, cond_true, beq_self_eq_true, cond_true, cond_true, beq_self_eq_true, cond_true, idxK_of i1, kI_mk, ibeq_t rfl, cond_true, idxK_of i2, kI_mk, ibeq_t rfl, cond_true, pcK_of sm, kB_mk, cond_true, pcK_of r1, kB_mk, cond_true, pcK_of r0, kB_mk]
  rfl
end Go.Proofs.Ytndkhelglfakfaa
