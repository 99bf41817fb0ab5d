/-
  Whether pages may be.
-/
import Derived.Test.YtnaidbmgibmnbaaM3
namespace Go.Proofs.Ytnaidbmgibmnbaa.A
open Go Go.Lite
set_option linter.unusedSimpArgs false
set_option linter.unusedVariables false

theorem right_okA (l : List Int) (hl : l.length ≤ 65536) : pcW cfgA 23 [.sl (l.map iV)] = some (.bool (okB l)) := by
  refine e23_done _ ?_
  have hs := srt_len l
  unfold e23
  rw [intsOf_iV, opt_mk, gd_dec (by omega), gd_dec (by rw [List.length_map]; omega), intsOf_iV, opt_mk, List.length_map, hs]
  unfold okB
  by_cases h1 : l.length ≤ 512
  · rw [decide_eq_true (show (l.length : Int) ≤ 512 by omega), decide_eq_true h1, cond_true, pcK_of (cf_ok (srt l) (by omega)), kB_mk, Bool.true_and]
    have e1 : ((srt l).any fun n => !pgB n) = !(l.all pgB) := by
      rw [(srt_perm l).any_eq, List.not_all_eq_any_not]
    rw [e1, Bool.not_not]
    cases h2 : l.all pgB with
    | false => rfl
    | true =>
      have hc := compact_le (srt l)
      rw [cond_true, gd_dec (by omega), intsOf_iV, opt_mk, gd_dec (by simp [cpt]), Bool.true_and]
      have e2 : (((((cpt (srt l)).map iV).drop 0).take (Go.Lib.compact (srt l)).length).length : Int) = ((Go.Lib.compact (srt l)).length : Int) := by
        simp [cpt]
      have e3 : ((((((cpt (srt l)).map iV).drop 0).take (Go.Lib.compact (srt l)).length).length : Int) == ((l.map iV).length : Int)) = decide l.Nodup := by
        rw [e2, List.length_map, Bool.eq_iff_iff, beq_iff_eq, decide_eq_true_eq, ← compact_len l]
        omega
      rw [e3]
  · rw [decide_eq_false (show ¬ (l.length : Int) ≤ 512 by omega), decide_eq_false h1]
    rfl
end Go.Proofs.Ytnaidbmgibmnbaa.A
