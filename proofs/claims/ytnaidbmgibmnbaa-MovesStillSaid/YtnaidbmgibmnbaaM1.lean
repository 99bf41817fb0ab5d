/-
  Graphs: what 'right' leans on (printed by walk.py).
-/
import Derived.Test.YtnaidbmgibmnbaaM0
namespace Go.Proofs.Ytnaidbmgibmnbaa.A
open Go Go.Lite
set_option maxRecDepth 100000
set_option linter.unusedVariables false
/-! ### slices.AppendSeq(()int,int) -/
noncomputable def fa44 : FA := ⟨2, 13, [.tmp 4], [22],
 (.seq
 (.ops false [o1 2 (.box 22 (t' 0)) 0, o1 4 (.assign (.const (.slice none 0 0))) 22])
 (.seq
 (.seq
 (.ops false [mv 6 1 48])
 (.block 0
 (.seq
 (.start 6)
 (.block 1000006
 (.loop ([0, 1, 3, 5] ++ List.range' 7 6)
 (.uncons 6 [7] ([7, 5] ++ List.range' 8 4)
 (.seq
 (.ops false [asg 5 7 3])
 (.block 1
 (.ops false [o1 8 (.load 22 (t' 2)) 22, mv 9 5 3, o1 10 (.buildSlice 22 1 #[(0, (t' 9))]) 22, o1 11 (.call ⟨(.builtin .append), #[(t' 8), (t' 10)], #[22, 22]⟩) 22, o0 (.store 22 (t' 2) (t' 11)) 0])))
 (.exit 1000006)))))))
 (.seq
 (.ops false [o1 12 (.load 22 (t' 2)) 22, asg 4 12 22])
 (.ret))))⟩
theorem fa44_eq : fnA cfgA.P (cfgA.rxf 44) 44 = some fa44 := by kernel_rfl
def T44_0 (x6 : List V) (m4 : List V) : S := ⟨[V.junk, V.junk, V.ptr 2 0 0, V.junk, V.own 3, V.junk, V.rest [3] x6] ++ (JU 6), [O.row 3 [] 0, O.row 3 [] 0, O.box 22 (V.tail 4 0) false, O.row 3 [] 0, O.row 3 m4 0]⟩
noncomputable def e44 (l : List V) : R :=
  opt (valuesP [V.ref (V.sl l) 0]) fun rs =>
  some (.head 0 (T44_0 (rs.map V.tup) []))
theorem e44_eq (l : List V) : enterK kcA0 true fa44 [V.nilS, V.fn 42 [V.ref (V.sl l) 0]] [O.row 3 [] 0, O.row 3 [] 0] = e44 l := by kernel_rfl
theorem e44_run (l : List V) {o : Out} {v : V} {m : List O} (h : e44 l = some o) (hg : Go kcA0 true 2 fa44 o (.doneM v m)) : icW cfgA 44 [V.nilS, V.fn 42 [V.ref (V.sl l) 0]] [O.row 3 [] 0, O.row 3 [] 0] = some (v, m) := icW_go ikA0 rfl fa44_eq ((e44_eq l).trans h) hg
noncomputable def s44_0 (x6 : List V) (m4 : List V) : R :=
  restK x6
 (some (.doneM (V.tail 4 0) [O.row 3 [] 0, O.row 3 [] 0, O.box 22 (V.tail 4 0) false, O.row 3 [] 0, O.row 3 m4 0])) fun x0 l =>
  kT x0 fun vs => unc vs fun c vs => kI .i64 c fun n =>
  unn vs <| gd (decide (m4.length + ([V.int .i64 n] : List V).length ≤ 16777216)) <|
  some (.head 0 (T44_0 l (m4 ++ [V.int .i64 n])))
theorem s44_0_eq (x6 : List V) (m4 : List V) : goK kcA0 true 2 fa44 0 (T44_0 x6 m4) = s44_0 x6 m4 := by kernel_rfl
theorem s44_0_run (x6 : List V) (m4 : List V) {o o' : Out} (h : s44_0 x6 m4 = some o) (hg : Go kcA0 true 2 fa44 o o') : Go kcA0 true 2 fa44 (.head 0 (T44_0 x6 m4)) o' := .step ((s44_0_eq x6 m4).trans h) hg
/-! ### budwood/moves.page -/
noncomputable def fa31 : FA := ⟨1, 9, [.tmp 2], [4],
 (.seq
 (.ops false [o1 2 (.assign (.const (.bool false))) 4])
 (.seq
 (.ops false [mv 3 0 3, o1 4 (.binOp .geq 3 (t' 3) (.const (.int .i64 (0))) 3) 4, mv 5 4 4, o2 6 (.move (t' 0)) 3 5 true, o2 7 (.binOp .lss 3 (t' 6) (.const (.int .i64 (1024))) 3) 4 5 true, o1 8 (.pick (t' 5) (t' 7) (.const (.bool false))) 4, asg 2 8 4])
 (.ret)))⟩
theorem fa31_eq : fnA cfgA.P (cfgA.rxf 31) 31 = some fa31 := by kernel_rfl
noncomputable def e31 (a0 : Int) : R :=
  cond (decide (a0 ≥ 0))
 (some (.done (V.bool (decide (a0 < 1024)))))
 (some (.done (V.bool false)))
theorem e31_eq (a0 : Int) : enterK kcA0 false fa31 [V.int .i64 a0] [] = e31 a0 := by kernel_rfl
theorem e31_run (a0 : Int) {o : Out} {v : V} (h : e31 a0 = some o) (hg : Go kcA0 false 0 fa31 o (.done v)) : pcW cfgA 31 [V.int .i64 a0] = some v := pcW_go ikA0 rfl fa31_eq ((e31_eq a0).trans h) hg
theorem e31_done (a0 : Int) {v : V} (h : e31 a0 = some (.done v)) : pcW cfgA 31 [V.int .i64 a0] = some v := e31_run a0 h (.refl _)
/-! ### budwood/moves.right$1 -/
noncomputable def fa37 : FA := ⟨1, 6, [.tmp 2], [4],
 (.seq
 (.ops false [o1 2 (.assign (.const (.bool false))) 4])
 (.seq
 (.ops false [mv 3 0 3, o1 4 (.call ⟨(.value (.func 31)), #[(t' 3)], #[3]⟩) 4, o1 5 (.unOp .not 4 (t' 4)) 4, asg 2 5 4])
 (.ret)))⟩
theorem fa37_eq : fnA cfgA.P (cfgA.rxf 37) 37 = some fa37 := by kernel_rfl
noncomputable def e37 (a0 : Int) : R :=
  pcK cfgA 31 [V.int .i64 a0] fun r =>
  kB r fun r31 =>
  some (.done (V.bool (!r31)))
theorem e37_eq (a0 : Int) : enterK kcA0 false fa37 [V.int .i64 a0] [] = e37 a0 := by kernel_rfl
theorem e37_run (a0 : Int) {o : Out} {v : V} (h : e37 a0 = some o) (hg : Go kcA0 false 0 fa37 o (.done v)) : pcW cfgA 37 [V.int .i64 a0] = some v := pcW_go ikA0 rfl fa37_eq ((e37_eq a0).trans h) hg
theorem e37_done (a0 : Int) {v : V} (h : e37 a0 = some (.done v)) : pcW cfgA 37 [V.int .i64 a0] = some v := e37_run a0 h (.refl _)
/-! ### slices.IndexFunc(()int,int) -/
noncomputable def fa43 : FA := ⟨2, 19, [.tmp 4], [3],
 (.seq
 (.ops false [o1 4 (.assign (.const (.int .i64 (0)))) 3])
 (.seq
 (.seq
 (.ops false [mv 6 0 22, o1 7 (.call ⟨(.builtin .len), #[(t' 6)], #[22]⟩) 3, o1 8 (.move (.const (.int .i64 (0)))) 3])
 (.block 0
 (.loop ([2, 3, 5, 6] ++ List.range' 9 10)
 (.seq
 (.ops false [o1 9 (.binOp .lss 3 (t' 8) (t' 7) 3) 0])
 (.seq
 (.cond (t' 9)
 (.skip)
 (.exit 0))
 (.seq
 (.block 1
 (.seq
 (.ops false [mv 10 8 3, asg 5 10 3])
 (.seq
 (.ops false [mv 11 1 56, mv 12 0 22, mv 13 5 3, o1 14 (.indexAddr 22 (t' 12) (t' 13)) 0, o1 15 (.load 3 (t' 14)) 3, o1 16 (.call ⟨(.value (t' 11)), #[(t' 15)], #[3]⟩) 4])
 (.cond (t' 16)
 (.seq
 (.ops false [mv 17 5 3, asg 4 17 3])
 (.ret))
 (.skip)))))
 (.ops false [o1 18 (.binOp .add 3 (t' 8) (.const (.int .i64 (1))) 3) 3, mv 8 18 3])))))))
 (.seq
 (.ops false [o1 4 (.assign (.const (.int .i64 (-1)))) 3])
 (.ret))))⟩
theorem fa43_eq : fnA cfgA.P (cfgA.rxf 43) 43 = some fa43 := by kernel_rfl
def T43_0 (x0 : List V) (x7 : Int) (x8 : Int) : S := ⟨[V.sl x0, V.fn 37 [], V.junk, V.junk, V.int .i64 0, V.junk, V.junk, V.int .i64 x7, V.int .i64 x8] ++ (JU 10), []⟩
noncomputable def e43 (a0 : List V) : R :=
  some (.head 0 (T43_0 a0 (a0.length : Int) 0))
theorem e43_eq (a0 : List V) : enterK kcA0 false fa43 [V.sl a0, V.fn 37 []] [] = e43 a0 := by kernel_rfl
theorem e43_run (a0 : List V) {o : Out} {v : V} (h : e43 a0 = some o) (hg : Go kcA0 false 0 fa43 o (.done v)) : pcW cfgA 43 [V.sl a0, V.fn 37 []] = some v := pcW_go ikA0 rfl fa43_eq ((e43_eq a0).trans h) hg
noncomputable def s43_0 (x0 : List V) (x7 : Int) (x8 : Int) : R :=
  cond (decide (x8 < x7))
 (gd (decide (0 ≤ x8)) <|
  idxK x0 x8.toNat fun v =>
  kI .i64 v fun n =>
  pcK cfgA 37 [V.int .i64 n] fun r =>
  kB r fun r37 =>
  cond r37
 (some (.done (V.int .i64 x8)))
 (some (.head 0 (T43_0 x0 x7 (W .i64 (x8 + 1))))))
 (some (.done (V.int .i64 (-1))))
theorem s43_0_eq (x0 : List V) (x7 : Int) (x8 : Int) : goK kcA0 false 0 fa43 0 (T43_0 x0 x7 x8) = s43_0 x0 x7 x8 := by kernel_rfl
theorem s43_0_run (x0 : List V) (x7 : Int) (x8 : Int) {o o' : Out} (h : s43_0 x0 x7 x8 = some o) (hg : Go kcA0 false 0 fa43 o o') : Go kcA0 false 0 fa43 (.head 0 (T43_0 x0 x7 x8)) o' := .step ((s43_0_eq x0 x7 x8).trans h) hg
/-! ### slices.ContainsFunc(()int,int) -/
noncomputable def fa38 : FA := ⟨2, 9, [.tmp 4], [4],
 (.seq
 (.ops false [o1 4 (.assign (.const (.bool false))) 4])
 (.seq
 (.ops false [mv 5 0 22, mv 6 1 56, o1 7 (.call ⟨(.value (.func 43)), #[(t' 5), (t' 6)], #[22, 56]⟩) 3, o1 8 (.binOp .geq 3 (t' 7) (.const (.int .i64 (0))) 3) 4, asg 4 8 4])
 (.ret)))⟩
theorem fa38_eq : fnA cfgA.P (cfgA.rxf 38) 38 = some fa38 := by kernel_rfl
noncomputable def e38 (a0 : List V) : R :=
  pcK cfgA 43 [V.sl a0, V.fn 37 []] fun r =>
  kI .i64 r fun r43 =>
  some (.done (V.bool (decide (r43 ≥ 0))))
theorem e38_eq (a0 : List V) : enterK kcA0 false fa38 [V.sl a0, V.fn 37 []] [] = e38 a0 := by kernel_rfl
theorem e38_run (a0 : List V) {o : Out} {v : V} (h : e38 a0 = some o) (hg : Go kcA0 false 0 fa38 o (.done v)) : pcW cfgA 38 [V.sl a0, V.fn 37 []] = some v := pcW_go ikA0 rfl fa38_eq ((e38_eq a0).trans h) hg
theorem e38_done (a0 : List V) {v : V} (h : e38 a0 = some (.done v)) : pcW cfgA 38 [V.sl a0, V.fn 37 []] = some v := e38_run a0 h (.refl _)
end Go.Proofs.Ytnaidbmgibmnbaa.A
