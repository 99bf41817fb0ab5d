/-
  The graph of 'right' (printed by walk.py).
-/
import Derived.Test.YtnaidbmgibmnbaaM2
namespace Go.Proofs.Ytnaidbmgibmnbaa.A
open Go Go.Lite
set_option maxRecDepth 100000
set_option linter.unusedVariables false
/-! ### slices.Collect(int) -/
noncomputable def fa40 : FA := ⟨1, 5, [.tmp 2], [22],
 (.seq
 (.ops false [o1 2 (.assign (.const (.slice none 0 0))) 22])
 (.seq
 (.ops false [mv 3 0 48, o1 4 (.call ⟨(.value (.func 44)), #[(.const (.slice none 0 0)), (t' 3)], #[22, 48]⟩) 22, asg 2 4 22])
 (.ret)))⟩
theorem fa40_eq : fnA cfgA.P (cfgA.rxf 40) 40 = some fa40 := by kernel_rfl
noncomputable def hkI1 : KC := kcA1.inl [(40, fa40)]
theorem hikI1 : IKOK hkI1 := inl_ok ikA1 (by
  intro x hx
  simp only [List.mem_cons, List.not_mem_nil, or_false] at hx
  rcases hx with rfl
  · exact ⟨rfl, fa40_eq, rfl⟩)
/-! ### slices.Sorted(int) -/
noncomputable def fa24 : FA := ⟨1, 9, [.tmp 2], [22],
 (.seq
 (.ops false [o1 2 (.assign (.const (.slice none 0 0))) 22])
 (.seq
 (.ops false [mv 4 0 48, o1 5 (.call ⟨(.value (.func 40)), #[(t' 4)], #[48]⟩) 22, asg 3 5 22])
 (.seq
 (.ops false [mv 6 3 22, o1 7 (.call ⟨(.value (.func 41)), #[(t' 6)], #[22]⟩) 0])
 (.seq
 (.ops false [mv 8 3 22, asg 2 8 22])
 (.ret)))))⟩
theorem fa24_eq : fnA cfgA.P (cfgA.rxf 24) 24 = some fa24 := by kernel_rfl
noncomputable def kcA : KC := hkI1.inl [(24, fa24)]
theorem ikA : IKOK kcA := inl_ok hikI1 (by
  intro x hx
  simp only [List.mem_cons, List.not_mem_nil, or_false] at hx
  rcases hx with rfl
  · exact ⟨rfl, fa24_eq, rfl⟩)
/-! ### budwood/moves.right -/
noncomputable def fa23 : FA := ⟨1, 25, [.tmp 2], [4],
 (.seq
 (.ops false [o1 2 (.assign (.const (.bool false))) 4])
 (.seq
 (.ops false [mv 5 0 22, o1 6 (.call ⟨(.value (.func 25)), #[(t' 5)], #[22]⟩) 48, o1 7 (.call ⟨(.value (.func 24)), #[(t' 6)], #[48]⟩) 22, asg 3 7 22])
 (.seq
 (.ops false [o1 4 (.assign (.func 37)) 56])
 (.seq
 (.ops false [mv 8 3 22, o1 9 (.call ⟨(.builtin .len), #[(t' 8)], #[22]⟩) 3, o1 10 (.binOp .leq 3 (t' 9) (.const (.int .i64 (512))) 3) 4, mv 11 10 4, o2 12 (.move (t' 3)) 22 11 true, o2 13 (.move (t' 4)) 56 11 true, o2 14 (.call ⟨(.value (.func 38)), #[(t' 12), (t' 13)], #[22, 56]⟩) 4 11 true, o2 15 (.unOp .not 4 (t' 14)) 4 11 true, o1 16 (.pick (t' 11) (t' 15) (.const (.bool false))) 4, mv 17 16 4, o2 18 (.move (t' 3)) 22 17 true, o2 19 (.call ⟨(.value (.func 39)), #[(t' 18)], #[22]⟩) 22 17 true, o2 20 (.call ⟨(.builtin .len), #[(t' 19)], #[22]⟩) 3 17 true, o2 21 (.move (t' 0)) 22 17 true, o2 22 (.call ⟨(.builtin .len), #[(t' 21)], #[22]⟩) 3 17 true, o2 23 (.binOp .eql 3 (t' 20) (t' 22) 3) 4 17 true, o1 24 (.pick (t' 17) (t' 23) (.const (.bool false))) 4, asg 2 24 4])
 (.ret)))))⟩
theorem fa23_eq : fnA cfgA.P (cfgA.rxf 23) 23 = some fa23 := by kernel_rfl
noncomputable def e23 (a0 : List V) : R :=
  opt (intsOf a0) fun xs =>
  gd (decide (xs.length ≤ 16777216)) <|
  gd (decide ((xs.map iV).length ≤ 16777216)) <|
  opt (intsOf (xs.map iV)) fun xs_1 =>
  cond (decide ((((srt xs_1).map iV).length : Int) ≤ 512))
 (pcK cfgA 38 [V.sl ((srt xs_1).map iV), V.fn 37 []] fun r =>
  kB r fun r38 =>
  cond (!r38)
 (gd (decide (((srt xs_1).map iV).length ≤ 16777216)) <|
  opt (intsOf ((srt xs_1).map iV)) fun xs_2 =>
  gd (decide (0 + ((Go.Lib.compact xs_2).length) ≤ ((cpt xs_2).map iV).length)) <|
  some (.done (V.bool ((((((cpt xs_2).map iV).drop 0).take ((Go.Lib.compact xs_2).length)).length : Int) == (a0.length : Int)))))
 (some (.done (V.bool false))))
 (some (.done (V.bool false)))
theorem e23_eq (a0 : List V) : enterK kcA false fa23 [V.sl a0] [] = e23 a0 := by kernel_rfl
theorem e23_run (a0 : List V) {o : Out} {v : V} (h : e23 a0 = some o) (hg : Go kcA false 0 fa23 o (.done v)) : pcW cfgA 23 [V.sl a0] = some v := pcW_go ikA rfl fa23_eq ((e23_eq a0).trans h) hg
theorem e23_done (a0 : List V) {v : V} (h : e23 a0 = some (.done v)) : pcW cfgA 23 [V.sl a0] = some v := e23_run a0 h (.refl _)
end Go.Proofs.Ytnaidbmgibmnbaa.A
