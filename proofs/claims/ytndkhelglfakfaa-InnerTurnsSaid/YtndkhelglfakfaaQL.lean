/-
  Inner pages: one with another kid, without one, with another page, as two.
-/
import Derived.Test.YtndkhelglfakfaaQK
namespace Go.Proofs.Ytndkhelglfakfaa
open Go Go.Lite
set_option linter.unusedSimpArgs false
set_option linter.unusedVariables false

theorem cloneS_ok (l : List Bs) (h : l.length ≤ 1000000) : pcW qcfg 57 [.sl (strs l)] = some (.fr 9 (strs l)) := by
  refine pcW_prim (g := cloneP 9 1) rfl ?_
  show (if wfl 1 (strs l) = true ∧ ((strs l).all fun x => x.cells.all V.flat1) = true ∧ (strs l).length ≤ 16777216 then some (V.fr 9 (strs l)) else none) = _
  rw [if_pos ⟨wfl_strs l, flat_map fun _ => rfl, by rw [strs_len]; omega⟩]
theorem cloneI_ok (l : List Int) (h : l.length ≤ 1000000) : pcW qcfg 59 [.sl (ints l)] = some (.fr 3 (ints l)) := by
  refine pcW_prim (g := cloneP 3 1) rfl ?_
  show (if wfl 1 (ints l) = true ∧ ((ints l).all fun x => x.cells.all V.flat1) = true ∧ (ints l).length ≤ 16777216 then some (V.fr 3 (ints l)) else none) = _
  rw [if_pos ⟨wfl_ints l, flat_map fun _ => rfl, by rw [ints_len]; omega⟩]
theorem strs_take (l : List Bs) (k : Nat) : (strs l).take k = strs (l.take k) := by simp [strs]
theorem strs_drop (l : List Bs) (k : Nat) : (strs l).drop k = strs (l.drop k) := by simp [strs]
theorem strs_app (a b : List Bs) : strs a ++ strs b = strs (a ++ b) := by simp [strs]
theorem strs_one (a : Bs) : [V.str a] = strs [a] := rfl
theorem ints_take (l : List Int) (k : Nat) : (ints l).take k = ints (l.take k) := by simp [ints]
theorem ints_drop (l : List Int) (k : Nat) : (ints l).drop k = ints (l.drop k) := by simp [ints]
theorem ints_app (a b : List Int) : ints a ++ ints b = ints (a ++ b) := by simp [ints]
theorem ints_one (a : Int) : [V.int .i64 a] = ints [a] := rfl
theorem ints_app1 (a : List Int) (b : Int) : ints a ++ [V.int .i64 b] = ints (a ++ [b]) := by simp [ints]
theorem strs_app1 (a : List Bs) (b : Bs) : strs a ++ [V.str b] = strs (a ++ [b]) := by simp [strs]
theorem ints_set (l : List Int) (k : Nat) (a : Int) : (ints l).set k (V.int .i64 a) = ints (l.set k a) := by simp [ints, List.map_set]

abbrev outN (p : Inn × Int) : V := .tup [eI p.1, .int .i64 p.2]

/-! ### Put -/

abbrev putN (n : Inn) (key : Bs) (kid : Int) (i : Nat) : Inn := ⟨n.seps.take i ++ [key] ++ n.seps.drop i, n.kids.take (i + 1) ++ [kid] ++ n.kids.drop (i + 1), n.high, n.next⟩
def putI (n : Inn) (key : Bs) (kid : Int) : Inn × Int :=
  if (findB n key).2 = 0 ∧ pgB kid = true then
    if 0 < atB n.seps key ∧ n.seps[atB n.seps key - 1]? = some key then (n00, 8) else
    if fitB (putN n key kid (atB n.seps key)) then (putN n key kid (atB n.seps key), 0) else (n00, 6)
  else (n00, 1)
theorem putN_sm {n : Inn} (h : Sm n) (hl : n.seps.length ≤ 900) (hk : n.kids.length ≤ 900) {key : Bs} (hkey : key.length ≤ 1000) {kid : Int} {i : Nat} : Sm (putN n key kid i) := by
  refine ⟨by simp; omega, ?_, by simp; omega, h.high⟩
  intro s hs
  rcases List.mem_append.1 hs with hs | hs
  · rcases List.mem_append.1 hs with hs | hs
    · exact h.sep s (List.mem_of_mem_take hs)
    · simp at hs; rw [hs]; exact hkey
  · exact h.sep s (List.mem_of_mem_drop hs)
theorem find_at {n : Inn} {key : Bs} (h : (findB n key).2 = 0) : findB n key = (((atB n.seps key : Nat) : Int), 0) ∧ rightB n = true := by
  unfold findB at h ⊢
  split at h
  · rename_i hc
    rw [if_pos hc]
    simp only [Bool.and_eq_true] at hc
    exact ⟨rfl, hc.1.1⟩
  · cases h
theorem find_no {n : Inn} {key : Bs} (h : (findB n key).2 ≠ 0) : findB n key = (0, 1) := by
  unfold findB at h ⊢
  split
  · rename_i hc; rw [if_pos hc] at h; exact (h rfl).elim
  · rfl
noncomputable def tailP (n : Inn) (key : Bs) (kid i : Int) : R :=
  pcK qcfg 57 [V.sl (strs n.seps)] fun r_2 => kF 9 r_2 fun r57 =>
  gd (decide (0 ≤ i ∧ i.toNat ≤ r57.length ∧ r57.length + ([V.str key] : List V).length ≤ 16777216)) <|
  pcK qcfg 59 [V.sl (ints n.kids)] fun r_3 => kF 3 r_3 fun r59 =>
  gd (decide (0 ≤ W .i64 (i + 1) ∧ (W .i64 (i + 1)).toNat ≤ r59.length ∧ r59.length + ([V.int .i64 kid] : List V).length ≤ 16777216)) <|
  pcK qcfg 43 [V.agg [V.sl (((r57.take i.toNat) ++ [V.str key]) ++ (r57.drop i.toNat)), V.sl (((r59.take ((W .i64 (i + 1)).toNat)) ++ [V.int .i64 kid]) ++ (r59.drop ((W .i64 (i + 1)).toNat))), V.str n.high, V.int .i64 n.next]] fun r_4 =>
  kB r_4 fun r43 => cond (!r43) (some (.done (V.tup [V.agg [V.sl [], V.sl [], V.str [], V.int .i64 0], V.int .i64 6])))
    (some (.done (V.tup [V.agg [V.sl (((r57.take i.toNat) ++ [V.str key]) ++ (r57.drop i.toNat)), V.sl (((r59.take ((W .i64 (i + 1)).toNat)) ++ [V.int .i64 kid]) ++ (r59.drop ((W .i64 (i + 1)).toNat))), V.str n.high, V.int .i64 n.next], V.int .i64 0])))
theorem tailP_eq (n : Inn) (key : Bs) (kid : Int) (i : Nat) (h : Sm n) (hl : n.seps.length ≤ 900) (hk : n.kids.length ≤ 900) (hkey : key.length ≤ 1000) (hi : i ≤ n.seps.length) (hik : i + 1 ≤ n.kids.length) :
    tailP n key kid (i : Int) = some (.done (outN (if fitB (putN n key kid i) then (putN n key kid i, 0) else (n00, 6)))) := by
  have w : W .i64 ((i : Int) + 1) = ((i + 1 : Nat) : Int) := by rw [W_i64 (by omega)]; omega
  unfold tailP
  rw [w, toNat_cast, toNat_cast, pcK_of (cloneS_ok n.seps (by omega)), kF_mk, gd_of (by rw [strs_len]; simp; omega), pcK_of (cloneI_ok n.kids (by omega)), kF_mk, gd_of (by rw [ints_len]; simp; omega)]
  rw [strs_one, ints_one, strs_take, strs_drop, strs_app, strs_app, ints_take, ints_drop, ints_app, ints_app, pcK_of (fits_ok (putN n key kid i) (putN_sm h hl hk hkey)), kB_mk]
  cases fitB (putN n key kid i) <;> rfl
theorem putI_ok (n : Inn) (key : Bs) (kid : Int) (h : Sm n) (hkey : key.length ≤ 1000) : pcW qcfg 25 [eI n, .str key, .int .i64 kid] = some (outN (putI n key kid)) := by
  refine e25_done _ _ _ _ _ _ ?_
  unfold e25 putI
  rw [pcK_of (find_ok n key h), d45_mk]
  by_cases hf : (findB n key).2 = 0
  rotate_left
  · rw [find_no hf, ibne_t (by decide), if_neg (by rintro ⟨hq, _⟩; cases hq)]; rfl
  obtain ⟨hfa, hr⟩ := find_at hf
  obtain ⟨h1, _, h3, _, _, _, h7⟩ := right_facts hr
  have hg := szR_ge h3
  have hle := at_le n.seps key
  rw [hfa, ibne_f rfl, cond_false, pcK_of (page_ok kid), kB_mk]
  cases hp : pgB kid with
  | false => rw [if_neg (by rintro ⟨_, hq⟩; cases hq)]; rfl
  | true =>
    rw [Bool.not_true, cond_false, if_pos ⟨rfl, rfl⟩]
    generalize hi : atB n.seps key = i at hle
    have ht := tailP_eq n key kid i h (by omega) (by omega) hkey hle (by omega)
    by_cases h0 : 0 < i
    · have w1 : W .i64 ((i : Int) - 1) = ((i - 1 : Nat) : Int) := by rw [W_i64 (by omega)]; omega
      have hlt : i - 1 < n.seps.length := by omega
      have hget : n.seps[i - 1]? = some n.seps[i - 1] := List.getElem?_eq_getElem hlt
      rw [decide_eq_true (show (i : Int) > 0 by omega), cond_true, w1, gd_of (by simp), toNat_cast, idxK_strs hget, kS_mk]
      by_cases he : n.seps[i - 1] = key
      · rw [he, beq_self_eq_true, if_pos ⟨h0, by rw [hget, he]⟩]; rfl
      · have he2 : (n.seps[i - 1] == key) = false := by simpa using he
        rw [he2, cond_false, if_neg (by rintro ⟨_, hq⟩; rw [hget] at hq; exact he (Option.some.inj hq))]
        exact ht
    · rw [decide_eq_false (show ¬ (i : Int) > 0 by omega), cond_false, if_neg (by rintro ⟨hq, _⟩; exact h0 hq)]
      exact ht
noncomputable def tailQ (n : Inn) (key : Bs) (kid i : Int) : R :=
  gd (wfl 1 (strs n.seps)) <| gd (decide (0 ≤ i)) <| gd (decide (i.toNat ≤ (strs n.seps).length)) <| gd (wfl 1 ((strs n.seps).take i.toNat)) <|
  gd (decide (0 + ((strs n.seps).take i.toNat).length ≤ 16777216)) <| gd (decide (((strs n.seps).take i.toNat).length + ([V.str key] : List V).length ≤ 16777216)) <|
  gd (wfl 1 (strs n.seps)) <| gd (decide (0 ≤ i)) <| gd (decide (i.toNat ≤ (strs n.seps).length)) <| gd (wfl 1 (((strs n.seps).take (strs n.seps).length).drop i.toNat)) <|
  gd (decide ((((strs n.seps).take i.toNat) ++ [V.str key]).length + (((strs n.seps).take (strs n.seps).length).drop i.toNat).length ≤ 16777216)) <|
  gd (wfl 1 (ints n.kids)) <| gd (decide (0 ≤ W .i64 (i + 1))) <| gd (decide ((W .i64 (i + 1)).toNat ≤ (ints n.kids).length)) <| gd (wfl 1 ((ints n.kids).take ((W .i64 (i + 1)).toNat))) <|
  gd (decide (0 + ((ints n.kids).take ((W .i64 (i + 1)).toNat)).length ≤ 16777216)) <| gd (decide (((ints n.kids).take ((W .i64 (i + 1)).toNat)).length + ([V.int .i64 kid] : List V).length ≤ 16777216)) <|
  gd (wfl 1 (ints n.kids)) <| gd (decide (0 ≤ W .i64 (i + 1))) <| gd (decide ((W .i64 (i + 1)).toNat ≤ (ints n.kids).length)) <| gd (wfl 1 (((ints n.kids).take (ints n.kids).length).drop ((W .i64 (i + 1)).toNat))) <|
  gd (decide ((((ints n.kids).take ((W .i64 (i + 1)).toNat)) ++ [V.int .i64 kid]).length + (((ints n.kids).take (ints n.kids).length).drop ((W .i64 (i + 1)).toNat)).length ≤ 16777216)) <|
  pcK qcfg 17 [V.agg [V.sl ((((strs n.seps).take i.toNat) ++ [V.str key]) ++ (((strs n.seps).take (strs n.seps).length).drop i.toNat)), V.sl ((((ints n.kids).take ((W .i64 (i + 1)).toNat)) ++ [V.int .i64 kid]) ++ (((ints n.kids).take (ints n.kids).length).drop ((W .i64 (i + 1)).toNat))), V.str n.high, V.int .i64 n.next]] fun r_2 =>
  kI .i64 r_2 fun r17 => cond (decide (W .i64 (r17 - (n.high.length : Int)) > 236)) (some (.done (V.tup [V.agg [V.sl [], V.sl [], V.str [], V.int .i64 0], V.int .i64 6])))
    (some (.done (V.tup [V.agg [V.sl ((((strs n.seps).take i.toNat) ++ [V.str key]) ++ (((strs n.seps).take (strs n.seps).length).drop i.toNat)), V.sl ((((ints n.kids).take ((W .i64 (i + 1)).toNat)) ++ [V.int .i64 kid]) ++ (((ints n.kids).take (ints n.kids).length).drop ((W .i64 (i + 1)).toNat))), V.str n.high, V.int .i64 n.next], V.int .i64 0])))
theorem tailQ_eq (n : Inn) (key : Bs) (kid : Int) (i : Nat) (h : Sm n) (hl : n.seps.length ≤ 900) (hk : n.kids.length ≤ 900) (hkey : key.length ≤ 1000) (hi : i ≤ n.seps.length) (hik : i + 1 ≤ n.kids.length) :
    tailQ n key kid (i : Int) = some (.done (outN (if fitB (putN n key kid i) then (putN n key kid i, 0) else (n00, 6)))) := by
  have w : W .i64 ((i : Int) + 1) = ((i + 1 : Nat) : Int) := by rw [W_i64 (by omega)]; omega
  have hsm := putN_sm (n := n) (key := key) (kid := kid) (i := i) h hl hk hkey
  have hsz := sizeN_le hsm
  have hh := h.high
  unfold tailQ
  rw [w, toNat_cast, toNat_cast, List.take_length, List.take_length]
  simp (disch := first | exact wfl_strs _ | exact wfl_ints _ | exact decide_eq_true (by first | omega | (simp only [strs_len, ints_len, List.length_append, List.length_take, List.length_drop, List.length_cons, List.length_nil, List.length_set]; omega))) only [gd_of, strs_app1, ints_app1, strs_take, strs_drop, strs_app, ints_take, ints_drop, ints_app]
  rw [pcK_of (sizeR_ok (putN n key kid i) hsm), kI_mk, W_i64 (by omega)]
  have hsz' : sizeN (putN n key kid i) = 7 + n.high.length + szR (putN n key kid i).seps := rfl
  unfold fitB
  by_cases hf : 16 + 7 + szR (putN n key kid i).seps ≤ 252
  · rw [decide_eq_false (by omega), decide_eq_true hf]; rfl
  · rw [decide_eq_true (by omega), decide_eq_false hf]; rfl
theorem putR_ok (n : Inn) (key : Bs) (kid : Int) (h : Sm n) (hkey : key.length ≤ 1000) : pcW qcfg 26 [eI n, .str key, .int .i64 kid] = some (outN (putI n key kid)) := by
  refine e26_done _ _ _ _ _ _ ?_
  unfold e26 putI
  rw [pcK_of (findR_ok n key h hkey), d45_mk]
  by_cases hf : (findB n key).2 = 0
  rotate_left
  · rw [find_no hf, ibne_t (by decide), if_neg (by rintro ⟨hq, _⟩; cases hq)]; rfl
  obtain ⟨hfa, hr⟩ := find_at hf
  obtain ⟨h1, _, h3, _, _, _, h7⟩ := right_facts hr
  have hg := szR_ge h3
  have hle := at_le n.seps key
  rw [hfa, ibne_f rfl, cond_false, pcK_of (pageR_ok kid), kB_mk]
  cases hp : pgB kid with
  | false => rw [if_neg (by rintro ⟨_, hq⟩; cases hq)]; rfl
  | true =>
    rw [Bool.not_true, cond_false, if_pos ⟨rfl, rfl⟩]
    generalize hi : atB n.seps key = i at hle
    have ht := tailQ_eq n key kid i h (by omega) (by omega) hkey hle (by omega)
    by_cases h0 : 0 < i
    · have w1 : W .i64 ((i : Int) - 1) = ((i - 1 : Nat) : Int) := by rw [W_i64 (by omega)]; omega
      have hlt : i - 1 < n.seps.length := by omega
      have hget : n.seps[i - 1]? = some n.seps[i - 1] := List.getElem?_eq_getElem hlt
      rw [decide_eq_true (show (i : Int) > 0 by omega), cond_true, w1, gd_of (by simp), toNat_cast, idxK_strs hget, kS_mk]
      by_cases he : n.seps[i - 1] = key
      · rw [he, beq_self_eq_true, if_pos ⟨h0, by rw [hget, he]⟩]; rfl
      · have he2 : (n.seps[i - 1] == key) = false := by simpa using he
        rw [he2, cond_false, if_neg (by rintro ⟨_, hq⟩; rw [hget] at hq; exact he (Option.some.inj hq))]
        exact ht
    · rw [decide_eq_false (show ¬ (i : Int) > 0 by omega), cond_false, if_neg (by rintro ⟨hq, _⟩; exact h0 hq)]
      exact ht

/-! ### Del -/

abbrev delN (n : Inn) (i : Nat) : Inn := ⟨n.seps.take (i - 1) ++ n.seps.drop (i - 1 + 1), n.kids.take i ++ n.kids.drop (i + 1), n.high, n.next⟩
def delI (n : Inn) (i : Int) : Inn × Int := if rightB n = true ∧ 0 ≤ i ∧ i < (n.kids.length : Int) ∧ 2 ≤ n.kids.length then (delN n i.toNat, 0) else (n00, 1)
theorem delI_ok (n : Inn) (i : Int) (h : Sm n) : pcW qcfg 27 [eI n, .int .i64 i] = some (outN (delI n i)) := by
  refine e27_done _ _ _ _ _ ?_
  unfold e27
  rw [pcK_of (right_ok n h), kB_mk, ints_len]
  cases hr : rightB n with
  | false =>
    have hd : delI n i = (n00, 1) := by unfold delI; exact if_neg (by rw [hr]; rintro ⟨hq, _⟩; cases hq)
    rw [hd]; rfl
  | true =>
    obtain ⟨h1, _, h3, _, _, _, h7⟩ := right_facts hr
    have hg := szR_ge h3
    rw [Bool.not_true, cond_false]
    by_cases g1 : i < 0
    · have hd : delI n i = (n00, 1) := by unfold delI; exact if_neg (by omega)
      rw [hd, decide_eq_true g1]; rfl
    rw [decide_eq_false g1, cond_false]
    by_cases g2 : i ≥ (n.kids.length : Int)
    · have hd : delI n i = (n00, 1) := by unfold delI; exact if_neg (by omega)
      rw [hd, decide_eq_true g2]; rfl
    rw [decide_eq_false g2, cond_false]
    by_cases g3 : n.kids.length = 1
    · have hd : delI n i = (n00, 1) := by unfold delI; exact if_neg (by omega)
      rw [hd, ibeq_t (by omega)]; rfl
    rw [ibeq_f (by omega), cond_false]
    have hd : delI n i = (delN n i.toNat, 0) := by unfold delI; exact if_pos ⟨hr, by omega, by omega, by omega⟩
    rw [hd]
    obtain ⟨k, rfl⟩ : ∃ k : Nat, i = (k : Int) := ⟨i.toNat, by omega⟩
    have w1 : W .i64 ((k : Int) - 1) = (k : Int) - 1 := W_i64 (by omega)
    have w2 : W .i64 ((k : Int) + 1) = ((k + 1 : Nat) : Int) := by rw [W_i64 (by omega)]; omega
    have hm : (if 0 < (k : Int) - 1 then (k : Int) - 1 else 0) = ((k - 1 : Nat) : Int) := by split <;> omega
    have w3 : W .i64 (((k - 1 : Nat) : Int) + 1) = ((k - 1 + 1 : Nat) : Int) := by rw [W_i64 (by omega)]; omega
    rw [w1, w2, hm, w3, toNat_cast, toNat_cast, toNat_cast, toNat_cast, pcK_of (cloneS_ok n.seps (by omega)), kF_mk, gd_of (by rw [strs_len]; simp; omega), pcK_of (cloneI_ok n.kids (by omega)), kF_mk, gd_of (by rw [ints_len]; simp; omega)]
    rw [strs_take, strs_drop, strs_app, ints_take, ints_drop, ints_app]
theorem delR_ok (n : Inn) (i : Int) (h : Sm n) : pcW qcfg 28 [eI n, .int .i64 i] = some (outN (delI n i)) := by
  refine e28_done _ _ _ _ _ ?_
  unfold e28
  rw [pcK_of (rightR_ok n h), kB_mk, ints_len]
  cases hr : rightB n with
  | false =>
    have hd : delI n i = (n00, 1) := by unfold delI; exact if_neg (by rw [hr]; rintro ⟨hq, _⟩; cases hq)
    rw [hd]; rfl
  | true =>
    obtain ⟨h1, _, h3, _, _, _, h7⟩ := right_facts hr
    have hg := szR_ge h3
    rw [Bool.not_true, cond_false]
    by_cases g1 : i < 0
    · have hd : delI n i = (n00, 1) := by unfold delI; exact if_neg (by omega)
      rw [hd, decide_eq_true g1]; rfl
    rw [decide_eq_false g1, cond_false]
    by_cases g2 : i ≥ (n.kids.length : Int)
    · have hd : delI n i = (n00, 1) := by unfold delI; exact if_neg (by omega)
      rw [hd, decide_eq_true g2]; rfl
    rw [decide_eq_false g2, cond_false]
    by_cases g3 : (n.kids.length : Int) < 2
    · have hd : delI n i = (n00, 1) := by unfold delI; exact if_neg (by omega)
      rw [hd, decide_eq_true g3]; rfl
    rw [decide_eq_false g3, cond_false]
    have hd : delI n i = (delN n i.toNat, 0) := by unfold delI; exact if_pos ⟨hr, by omega, by omega, by omega⟩
    rw [hd]
    obtain ⟨k, rfl⟩ : ∃ k : Nat, i = (k : Int) := ⟨i.toNat, by omega⟩
    have w2 : W .i64 ((k : Int) + 1) = ((k + 1 : Nat) : Int) := by rw [W_i64 (by omega)]; omega
    rw [w2, toNat_cast, toNat_cast, List.take_length, strs_len]
    have et : (ints n.kids).take n.kids.length = ints n.kids := by rw [← ints_len, List.take_length]
    have es : (strs n.seps).take n.seps.length = strs n.seps := by rw [← strs_len, List.take_length]
    rw [et]
    by_cases g4 : (k : Int) = 0
    · have : k = 0 := by omega
      rw [ibeq_t g4, cond_true]
      subst this
      simp (disch := first | exact wfl_strs _ | exact wfl_ints _ | exact decide_eq_true (by first | omega | (simp only [strs_len, ints_len, List.length_append, List.length_take, List.length_drop, List.length_cons, List.length_nil, List.length_set]; omega))) only [gd_of, strs_take, strs_drop, strs_app, ints_take, ints_drop, ints_app]
    · have w1 : W .i64 ((k : Int) - 1) = ((k - 1 : Nat) : Int) := by rw [W_i64 (by omega)]; omega
      have w3 : W .i64 (((k - 1 : Nat) : Int) + 1) = ((k - 1 + 1 : Nat) : Int) := by rw [W_i64 (by omega)]; omega
      rw [ibeq_f g4, cond_false, w1, w3, toNat_cast, toNat_cast]
      simp (disch := first | exact wfl_strs _ | exact wfl_ints _ | exact decide_eq_true (by first | omega | (simp only [strs_len, ints_len, List.length_append, List.length_take, List.length_drop, List.length_cons, List.length_nil, List.length_set]; omega))) only [gd_of, strs_take, strs_drop, strs_app, ints_take, ints_drop, ints_app]

/-! ### Turn -/

abbrev turnN (n : Inn) (i : Nat) (kid : Int) : Inn := ⟨n.seps, n.kids.set i kid, n.high, n.next⟩
def turnI (n : Inn) (i kid : Int) : Inn × Int := if rightB n = true ∧ 0 ≤ i ∧ i < (n.kids.length : Int) ∧ pgB kid = true then (turnN n i.toNat kid, 0) else (n00, 1)
theorem turnI_ok (n : Inn) (i kid : Int) (h : Sm n) : pcW qcfg 29 [eI n, .int .i64 i, .int .i64 kid] = some (outN (turnI n i kid)) := by
  refine e29_done _ _ _ _ _ _ ?_
  have hs := h.seps
  have hk := h.kids
  unfold e29 turnI
  rw [pcK_of (right_ok n h), kB_mk, ints_len]
  cases hr : rightB n with
  | false => rw [if_neg (by rintro ⟨hq, _⟩; cases hq)]; rfl
  | true =>
    rw [Bool.not_true, cond_false]
    by_cases g1 : i < 0
    · rw [decide_eq_true g1, if_neg (by omega)]; rfl
    rw [decide_eq_false g1, cond_false]
    by_cases g2 : i ≥ (n.kids.length : Int)
    · rw [decide_eq_true g2, if_neg (by omega)]; rfl
    rw [decide_eq_false g2, cond_false, pcK_of (page_ok kid), kB_mk]
    cases hp : pgB kid with
    | false => rw [if_neg (by rintro ⟨_, _, _, hq⟩; cases hq)]; rfl
    | true =>
      rw [Bool.not_true, cond_false, if_pos ⟨rfl, by omega, by omega, rfl⟩]
      obtain ⟨k, rfl⟩ : ∃ k : Nat, i = (k : Int) := ⟨i.toNat, by omega⟩
      have hget : n.kids[k]? = some n.kids[k] := List.getElem?_eq_getElem (by omega)
      rw [toNat_cast, Nat.zero_add, pcK_of (cloneS_ok n.seps (by omega)), kF_mk, pcK_of (cloneI_ok n.kids (by omega)), kF_mk, gd_of (by simp), gd_of (by rw [ints_len]; simp; omega), idxK_ints hget, kI_mk, ints_set]
theorem turnR_ok (n : Inn) (i kid : Int) (h : Sm n) : pcW qcfg 30 [eI n, .int .i64 i, .int .i64 kid] = some (outN (turnI n i kid)) := by
  refine e30_done _ _ _ _ _ _ ?_
  have hs := h.seps
  have hk := h.kids
  unfold e30 turnI
  rw [pcK_of (rightR_ok n h), kB_mk, ints_len]
  cases hr : rightB n with
  | false => rw [if_neg (by rintro ⟨hq, _⟩; cases hq)]; rfl
  | true =>
    rw [Bool.not_true, cond_false]
    by_cases g1 : i < 0
    · rw [decide_eq_true g1, if_neg (by omega)]; rfl
    rw [decide_eq_false g1, cond_false]
    by_cases g2 : i ≥ (n.kids.length : Int)
    · rw [decide_eq_true g2, if_neg (by omega)]; rfl
    rw [decide_eq_false g2, cond_false, pcK_of (pageR_ok kid), kB_mk]
    cases hp : pgB kid with
    | false => rw [if_neg (by rintro ⟨_, _, _, hq⟩; cases hq)]; rfl
    | true =>
      rw [Bool.not_true, cond_false, if_pos ⟨rfl, by omega, by omega, rfl⟩]
      obtain ⟨k, rfl⟩ : ∃ k : Nat, i = (k : Int) := ⟨i.toNat, by omega⟩
      have hget : n.kids[k]? = some n.kids[k] := List.getElem?_eq_getElem (by omega)
      rw [toNat_cast, gd_of (wfl_ints _), gd_of (by simp; omega), gd_of (by simp), gd_of (by simp; omega), idxK_ints hget, kI_mk, ints_set]

/-! ### Split -/

abbrev splA (n : Inn) (to : Int) : Inn := ⟨n.seps.take (n.seps.length / 2), n.kids.take (n.seps.length / 2 + 1), n.seps.getD (n.seps.length / 2) [], to + 1⟩
abbrev splB (n : Inn) : Inn := ⟨n.seps.drop (n.seps.length / 2 + 1), n.kids.drop (n.seps.length / 2 + 1), n.high, n.next⟩
def splO (n : Inn) (to : Int) : Inn × Inn × Bs × Int :=
  if rightB n = true ∧ 3 ≤ n.kids.length ∧ pgB to = true then (splA n to, splB n, n.seps.getD (n.seps.length / 2) [], 0) else (n00, n00, [], 1)
abbrev outS (p : Inn × Inn × Bs × Int) : V := .tup [eI p.1, eI p.2.1, .str p.2.2.1, .int .i64 p.2.2.2]
theorem splI_ok (n : Inn) (to : Int) (h : Sm n) : pcW qcfg 31 [eI n, .int .i64 to] = some (outS (splO n to)) := by
  refine e31_done _ _ _ _ _ ?_
  have hs := h.seps
  have hk := h.kids
  unfold e31 splO
  rw [pcK_of (right_ok n h), kB_mk, ints_len, strs_len]
  cases hr : rightB n with
  | false => rw [if_neg (by rintro ⟨hq, _⟩; cases hq)]; rfl
  | true =>
    obtain ⟨h1, _⟩ := right_facts hr
    rw [Bool.not_true, cond_false]
    by_cases g1 : (n.kids.length : Int) < 3
    · rw [decide_eq_true g1, if_neg (by omega)]; rfl
    rw [decide_eq_false g1, cond_false, pcK_of (page_ok to), kB_mk]
    cases hp : pgB to with
    | false => rw [if_neg (by rintro ⟨_, _, hq⟩; cases hq)]; rfl
    | true =>
      have hto := pg_lt hp
      rw [Bool.not_true, cond_false, if_pos ⟨rfl, by omega, rfl⟩]
      have wd : W .i64 ((n.seps.length : Int).tdiv 2) = ((n.seps.length / 2 : Nat) : Int) := by
        rw [show ((n.seps.length : Int)).tdiv 2 = ((n.seps.length / 2 : Nat) : Int) from rfl]
        exact W_i64 (by omega)
      rw [wd]
      obtain ⟨m, hm⟩ : ∃ m, n.seps.length / 2 = m := ⟨_, rfl⟩
      have hm2 : m < n.seps.length := by omega
      rw [hm]
      have w1 : W .i64 ((m : Int) + 1) = ((m + 1 : Nat) : Int) := by rw [W_i64 (by omega)]; omega
      have w2 : W .i64 (to + 1) = to + 1 := W_i64 (by omega)
      have hget : n.seps[m]? = some n.seps[m] := List.getElem?_eq_getElem hm2
      have hd : n.seps.getD m [] = n.seps[m] := by simp [List.getD, hget]
      have e1 : splA n to = ⟨n.seps.take m, n.kids.take (m + 1), n.seps[m], to + 1⟩ := by unfold splA; rw [hm, hd]
      have e2 : splB n = ⟨n.seps.drop (m + 1), n.kids.drop (m + 1), n.high, n.next⟩ := by unfold splB; rw [hm]
      rw [e1, e2]
      have et : (ints n.kids).take n.kids.length = ints n.kids := by rw [← ints_len, List.take_length]
      have es : (strs n.seps).take n.seps.length = strs n.seps := by rw [← strs_len, List.take_length]
      rw [hd, w1, w2, toNat_cast, toNat_cast, et, es, strs_take, strs_drop, ints_take, ints_drop]
      have q1 := cloneS_ok (n.seps.take m) (by simp; omega)
      have q2 := cloneS_ok (n.seps.drop (m + 1)) (by simp; omega)
      have q3 := cloneI_ok (n.kids.take (m + 1)) (by simp; omega)
      have q4 := cloneI_ok (n.kids.drop (m + 1)) (by simp; omega)
      simp (disch := first | exact wfl_strs _ | exact wfl_ints _ | exact decide_eq_true (by first | omega | (simp only [strs_len, ints_len, List.length_append, List.length_take, List.length_drop, List.length_cons, List.length_nil, List.length_set]; omega))) only [gd_of, idxK_strs hget, kS_mk, pcK_of q1, pcK_of q2, pcK_of q3, pcK_of q4, kF_mk]
theorem splR_ok (n : Inn) (to : Int) (h : Sm n) : pcW qcfg 32 [eI n, .int .i64 to] = some (outS (splO n to)) := by
  refine e32_done _ _ _ _ _ ?_
  have hs := h.seps
  have hk := h.kids
  unfold e32 splO
  rw [pcK_of (rightR_ok n h), kB_mk, ints_len, strs_len]
  cases hr : rightB n with
  | false => rw [if_neg (by rintro ⟨hq, _⟩; cases hq)]; rfl
  | true =>
    obtain ⟨h1, _⟩ := right_facts hr
    rw [Bool.not_true, cond_false]
    by_cases g1 : (n.kids.length : Int) < 3
    · rw [decide_eq_true g1, if_neg (by omega)]; rfl
    rw [decide_eq_false g1, cond_false, pcK_of (pageR_ok to), kB_mk]
    cases hp : pgB to with
    | false => rw [if_neg (by rintro ⟨_, _, hq⟩; cases hq)]; rfl
    | true =>
      have hto := pg_lt hp
      rw [Bool.not_true, cond_false, if_pos ⟨rfl, by omega, rfl⟩]
      have wd : W .i64 ((n.seps.length : Int).tdiv 2) = ((n.seps.length / 2 : Nat) : Int) := by
        rw [show ((n.seps.length : Int)).tdiv 2 = ((n.seps.length / 2 : Nat) : Int) from rfl]
        exact W_i64 (by omega)
      rw [wd]
      obtain ⟨m, hm⟩ : ∃ m, n.seps.length / 2 = m := ⟨_, rfl⟩
      have hm2 : m < n.seps.length := by omega
      rw [hm]
      have w1 : W .i64 ((m : Int) + 1) = ((m + 1 : Nat) : Int) := by rw [W_i64 (by omega)]; omega
      have w2 : W .i64 (to + 1) = to + 1 := W_i64 (by omega)
      have hget : n.seps[m]? = some n.seps[m] := List.getElem?_eq_getElem hm2
      have hd : n.seps.getD m [] = n.seps[m] := by simp [List.getD, hget]
      have e1 : splA n to = ⟨n.seps.take m, n.kids.take (m + 1), n.seps[m], to + 1⟩ := by unfold splA; rw [hm, hd]
      have e2 : splB n = ⟨n.seps.drop (m + 1), n.kids.drop (m + 1), n.high, n.next⟩ := by unfold splB; rw [hm]
      rw [e1, e2]
      have et : (ints n.kids).take n.kids.length = ints n.kids := by rw [← ints_len, List.take_length]
      have es : (strs n.seps).take n.seps.length = strs n.seps := by rw [← strs_len, List.take_length]
      rw [hd, w1, w2, toNat_cast, toNat_cast, et, es, strs_take, strs_drop, ints_take, ints_drop]
      simp (disch := first | exact wfl_strs _ | exact wfl_ints _ | exact decide_eq_true (by first | omega | (simp only [strs_len, ints_len, List.length_append, List.length_take, List.length_drop, List.length_cons, List.length_nil, List.length_set]; omega))) only [gd_of, idxK_strs hget, kS_mk]
end Go.Proofs.Ytndkhelglfakfaa
