/-
  Sort, Into, and what the statements call.
-/
import Derived.Test.YtnaidbmgibmnbaaM15
import Derived.Test.YtnaidbmgibmnbaaMC
namespace Go.Proofs.Ytnaidbmgibmnbaa
open Go Go.Lite
set_option linter.unusedSimpArgs false
set_option linter.unusedVariables false

theorem sort_ok (l : List Int) (hl : l.length ≤ 65536) : pcW cfgB 8 [.sl (l.map iV)] = some (.tup [.sl ((sortS l).1.map eSp), .int .i64 (sortS l).2]) := by
  refine e8_done _ ?_
  unfold e8 sortS
  rw [pcK_of (right_ok l hl), kB_mk]
  cases h : okB l with
  | false => rfl
  | true =>
    rw [Bool.not_true, cond_false, pcK_of (sorted_ok l hl), kL_mk, pcK_of (clone_ok l hl), kF_mk, intsOf_iV, opt_mk, intsOf_iV, opt_mk, gd_dec ⟨srt_len l, hl⟩]
    rfl
theorem into_ok (l : List Int) (b : Int) (hl : l.length ≤ 65536) : pcW cfgB 10 [.sl (l.map iV), .int .i64 b] = some (.tup [.sl ((intoS l b).1.map eSp), .int .i64 (intoS l b).2]) := by
  refine e10_done _ _ ?_
  unfold e10 intoS intoOk
  rw [pcK_of (right_ok l hl), kB_mk]
  cases h : okB l with
  | false => rfl
  | true =>
    rw [Bool.not_true, cond_false, pcK_of (page_ok b), kB_mk]
    cases hb : pgB b with
    | false => rfl
    | true =>
      have hb' : 0 ≤ b ∧ b < 1024 := by simpa [pgB] using hb
      rw [Bool.not_true, cond_false, List.length_map, W_i64 (by omega)]
      by_cases hs : b + (l.length : Int) > 1024
      · rw [decide_eq_true hs, cond_true, decide_eq_false (show ¬ b + (l.length : Int) ≤ 1024 by omega)]
        rfl
      · rw [decide_eq_false hs, cond_false, decide_eq_true (show b + (l.length : Int) ≤ 1024 by omega), pcK_of (clone_ok l hl), kF_mk, intsOf_iV, opt_mk, gd_dec ⟨hb', hl⟩]
        rfl

/-! ### the fixed calls -/

theorem srt534 : srt [5, 3, 4] = [3, 4, 5] := (srt_of_perm (m := [3, 4, 5]) (by decide)).trans (srt_self (by decide))
theorem srt354 : srt [3, 5, 4] = [3, 4, 5] := (srt_of_perm (m := [3, 4, 5]) (by decide)).trans (srt_self (by decide))
theorem f1 : sortS [5, 3, 4] = ([(5, 3, true), (5, 4, true)], 0) := by unfold sortS; rw [srt534]; decide
theorem f2 : intoS [5, 3] 4 = ([(5, 4, false), (3, 5, false)], 0) := by decide
theorem f3 : sortS [5, 5] = ([], 1) := by unfold sortS; rw [if_neg (by decide)]
theorem f4 : intoS [5] 1024 = ([], 1) := by decide
theorem f5 : applyS [5, 3, 4] [(5, 3, true), (5, 4, true)] = (0, [3, 4, 5]) := by decide
theorem f6 : applyS [5, 3] [(5, 4, false), (3, 5, false)] = (0, [4, 5]) := by decide
theorem f7 : applyS [5, 3] [(4, 6, false)] = (7, []) := by decide
theorem f8 : applyS [5, 3] [(5, 3, false)] = (8, []) := by decide
theorem f9 : applyS [5, 3] [(5, 1024, false)] = (1, []) := by decide
theorem f10 : cyc [5, 3, 4] = 1 := by unfold cyc cycS; rw [srt534]; decide
theorem f11 : cyc [3, 5, 4] = 2 := by unfold cyc cycS; rw [srt354]; decide
theorem f12 : brk [5, 3, 4] = 1 := by decide
theorem fixed_ok : pcW cfgB 21 [] = some (.bool true) := by
  refine e21_done ?_
  have a1 : pcW cfgB 8 [.sl [.int .i64 5, .int .i64 3, .int .i64 4]] = _ := sort_ok [5, 3, 4] (by decide)
  have a2 : pcW cfgB 10 [.sl [.int .i64 5, .int .i64 3], .int .i64 4] = _ := into_ok [5, 3] 4 (by decide)
  have a3 : pcW cfgB 8 [.sl [.int .i64 5, .int .i64 5]] = _ := sort_ok [5, 5] (by decide)
  have a4 : pcW cfgB 10 [.sl [.int .i64 5], .int .i64 1024] = _ := into_ok [5] 1024 (by decide)
  rw [f1] at a1
  rw [f2] at a2
  rw [f3] at a3
  rw [f4] at a4
  have a5 : pcW cfgB 12 [.sl [.int .i64 5, .int .i64 3, .int .i64 4], .sl ([(5, 3, true), (5, 4, true)].map eSp)] = _ := apply_ok [5, 3, 4] [(5, 3, true), (5, 4, true)] (by decide) (by decide)
  have a6 : pcW cfgB 12 [.sl [.int .i64 5, .int .i64 3], .sl ([(5, 4, false), (3, 5, false)].map eSp)] = _ := apply_ok [5, 3] [(5, 4, false), (3, 5, false)] (by decide) (by decide)
  have a7 : pcW cfgB 12 [.sl [.int .i64 5, .int .i64 3], .sl [.agg [.int .i64 4, .int .i64 6, .bool false]]] = _ := apply_ok [5, 3] [(4, 6, false)] (by decide) (by decide)
  have a8 : pcW cfgB 12 [.sl [.int .i64 5, .int .i64 3], .sl [.agg [.int .i64 5, .int .i64 3, .bool false]]] = _ := apply_ok [5, 3] [(5, 3, false)] (by decide) (by decide)
  have a9 : pcW cfgB 12 [.sl [.int .i64 5, .int .i64 3], .sl [.agg [.int .i64 5, .int .i64 1024, .bool false]]] = _ := apply_ok [5, 3] [(5, 1024, false)] (by decide) (by decide)
  rw [f5] at a5
  rw [f6] at a6
  rw [f7] at a7
  rw [f8] at a8
  rw [f9] at a9
  have b1 := stL_ok [(5, 3, true), (5, 4, true)] (by decide)
  have b2 := stL_ok [(5, 4, false), (3, 5, false)] (by decide)
  have b3 : pcW cfgB 15 [.sl ([(5, 3, true), (5, 4, true)].map eSp), .sl [.agg [.int .i64 5, .int .i64 3, .bool true], .agg [.int .i64 5, .int .i64 4, .bool true]]] = some (.bool true) := same_ok [(5, 3, true), (5, 4, true)] [(5, 3, true), (5, 4, true)] (by decide)
  have b4 : pcW cfgB 15 [.sl ([(5, 4, false), (3, 5, false)].map eSp), .sl [.agg [.int .i64 5, .int .i64 4, .bool false], .agg [.int .i64 3, .int .i64 5, .bool false]]] = some (.bool true) := same_ok [(5, 4, false), (3, 5, false)] [(5, 4, false), (3, 5, false)] (by decide)
  have b5 : pcW cfgB 16 [.sl ([3, 4, 5].map iV), .sl [.int .i64 3, .int .i64 4, .int .i64 5]] = some (.bool true) := ints_ok [3, 4, 5] [3, 4, 5] (by decide)
  have b6 : pcW cfgB 16 [.sl ([4, 5].map iV), .sl [.int .i64 4, .int .i64 5]] = some (.bool true) := ints_ok [4, 5] [4, 5] (by decide)
  have b7 : pcW cfgB 17 [.sl [.int .i64 5, .int .i64 3, .int .i64 4]] = _ := cycles_ok [5, 3, 4] (by decide)
  have b8 : pcW cfgB 17 [.sl [.int .i64 3, .int .i64 5, .int .i64 4]] = _ := cycles_ok [3, 5, 4] (by decide)
  have b9 : pcW cfgB 19 [.sl [.int .i64 5, .int .i64 3, .int .i64 4]] = _ := breaks_ok [5, 3, 4] (by decide)
  rw [f10] at b7
  rw [f11] at b8
  rw [f12] at b9
  unfold e21
  rw [pcK_of a1, d25_mk, pcK_of a2, d25_mk, pcK_of a3, d25_mk, pcK_of a4, d25_mk, pcK_of a5, d32_mk, pcK_of a6, d32_mk, pcK_of a7, d32_mk, pcK_of a8, d32_mk, pcK_of a9, d32_mk, pcK_of b1, kF_mk, pcK_of b3, kB_mk, cond_true, ibeq_t rfl, cond_true,
    pcK_of b2, kF_mk, pcK_of b4, kB_mk, cond_true, cond_true, ibeq_t rfl, cond_true, cond_true, pcK_of b5, kB_mk, cond_true, cond_true, pcK_of b6, kB_mk, cond_true, cond_true, ibeq_t rfl, cond_true, ibeq_t rfl, cond_true, cond_true, pcK_of b7, kI_mk, show ((1 : Int) == 1) = true from rfl, cond_true, pcK_of b8, kI_mk, show ((2 : Int) == 2) = true from rfl, cond_true, pcK_of b9, kI_mk]
  rfl
end Go.Proofs.Ytnaidbmgibmnbaa

/-
  The statements, one by one.
-/
namespace Go.Proofs.Ytnaidbmgibmnbaa
open Go Go.Lite
set_option linter.unusedSimpArgs false
set_option linter.unusedVariables false

theorem take60 {α : Type} (s : List α) : s.take (if (60 : Int) < (s.length : Int) then 60 else (s.length : Int)).toNat = s.take 60 := take_capN 60 s
theorem cap0 {α : Type} (s : List α) {k : R} : gd (decide (0 ≤ (if (60 : Int) < (s.length : Int) then 60 else (s.length : Int)))) k = k := gd_dec (by split <;> omega)
theorem cap1 {α : Type} (s : List α) {k : R} : gd (decide ((if (60 : Int) < (s.length : Int) then 60 else (s.length : Int)).toNat ≤ s.length)) k = k := gd_dec (by split <;> omega)
theorem eSp_wfl (l : List Sp) : wfl 3 (l.map eSp) = true := wfl_map fun _ => rfl
theorem mt {α : Type} (l : List α) (f : α → V) : (l.map f).take 60 = (l.take 60).map f := (List.map_take).symm

theorem sortS_len (l : List Int) : (sortS l).1.length ≤ l.length := by
  unfold sortS
  split
  · exact (rgo_len _ _ _ _).2
  · simp
theorem intoS_len (l : List Int) (b : Int) : (intoS l b).1.length ≤ l.length := by
  unfold intoS
  split
  · exact (rgo_len _ _ _ _).2
  · simp
theorem applyS_len (l : List Int) (st : List Sp) : (applyS l st).2.length ≤ l.length := by
  unfold applyS
  split
  · rcases Classical.em ((appS l st).1 = 0) with h | h
    · have : appS l st = (0, (appS l st).2) := by rw [← h]
      rw [appS_len this]; exact Nat.le_refl _
    · rw [appS_err h]; simp
  · simp

theorem movesTell_true (l : List Int) (b : Int) (st : List Sp) : pcW cfgB 3 [.sl (l.map iV), .int .i64 b, .sl (st.map eSp)] = some (.bool true) := by
  refine e3_done _ _ _ ?_
  have hp : (l.take 60).length ≤ 60 := by simp; omega
  have hq : (st.take 60).length ≤ 60 := by simp; omega
  unfold e3
  rw [gd_of (iV_wfl l), cap0, cap1, gd_of (eSp_wfl st), cap0, cap1, take60, take60, mt, mt]
  generalize l.take 60 = p at hp
  generalize st.take 60 = q at hq
  have h1 := sortS_len p
  have h2 := intoS_len p b
  have h3 := applyS_len p q
  rw [pcK_of (sort_ok p (by omega)), d25_mk, pcK_of (sortR_ok p (by omega)), d28_mk, pcK_of (into_ok p b (by omega)), d25_mk, pcK_of (intoR_ok p b (by omega)), d28_mk, pcK_of (apply_ok p q (by omega) (by omega)), d32_mk, pcK_of (stL_ok q (by omega)), kF_mk, pcK_of (applyR_ok p q (by omega) (by omega)), d32_mk,
    pcK_of (stL_ok (sortS p).1 (by omega)), kF_mk, pcK_of (same_ok (sortS p).1 (sortS p).1 (by omega)), kB_mk, beq_self_eq_true, cond_true, ibeq_t rfl, cond_true,
    pcK_of (stL_ok (intoS p b).1 (by omega)), kF_mk, pcK_of (same_ok (intoS p b).1 (intoS p b).1 (by omega)), kB_mk, beq_self_eq_true, cond_true, ibeq_t rfl, cond_true,
    pcK_of (ints_ok (applyS p q).2 (applyS p q).2 (by omega)), kB_mk, beq_self_eq_true, cond_true, ibeq_t rfl, cond_true, pcK_of (cycles_ok p (by omega)), kI_mk, pcK_of (cyclesR_ok p (by omega)), kI_mk, ibeq_t rfl, cond_true,
    pcK_of (breaks_ok p (by omega)), kI_mk, pcK_of (breaksR_ok p (by omega)), kI_mk, ibeq_t rfl, cond_true, pcK_of fixed_ok, kB_mk]
end Go.Proofs.Ytnaidbmgibmnbaa
