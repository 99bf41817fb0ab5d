/-
  Graphs: what 'right' leans on (printed by walk.py).
-/
import Derived.Test.YtnaidbmgibmnbaaM5
namespace Go.Proofs.Ytnaidbmgibmnbaa
open Go Go.Lite
set_option maxRecDepth 100000
set_option linter.unusedVariables false
/-! ### slices.AppendSeq(()int,int) -/
noncomputable def fa44 : FA := ⟨2, 13, [.tmp 4], [22],
 (.seq
 (.ops false [o1 2 (.box 22 (t' 0)) 0, o1 4 (.assign (.const (.slice none 0 0))) 22])
 (.seq
 (.seq
 (.ops false [mv 6 1 48])
 (.block 0
 (.seq
 (.start 6)
 (.block 1000006
 (.loop ([0, 1, 3, 5] ++ List.range' 7 6)
 (.uncons 6 [7] ([7, 5] ++ List.range' 8 4)
 (.seq
 (.ops false [asg 5 7 3])
 (.block 1
 (.ops false [o1 8 (.load 22 (t' 2)) 22, mv 9 5 3, o1 10 (.buildSlice 22 1 #[(0, (t' 9))]) 22, o1 11 (.call ⟨(.builtin .append), #[(t' 8), (t' 10)], #[22, 22]⟩) 22, o0 (.store 22 (t' 2) (t' 11)) 0])))
 (.exit 1000006)))))))
 (.seq
 (.ops false [o1 12 (.load 22 (t' 2)) 22, asg 4 12 22])
 (.ret))))⟩
theorem fa44_eq : fnA cfgB.P (cfgB.rxf 44) 44 = some fa44 := by kernel_rfl
def T44_0 (x6 : List V) (m4 : List V) : S := ⟨[V.junk, V.junk, V.ptr 2 0 0, V.junk, V.own 3, V.junk, V.rest [3] x6] ++ (JU 6), [O.row 3 [] 0, O.row 3 [] 0, O.box 22 (V.tail 4 0) false, O.row 3 [] 0, O.row 3 m4 0]⟩
noncomputable def e44 (l : List V) : R :=
  opt (valuesP [V.ref (V.sl l) 0]) fun rs =>
  some (.head 0 (T44_0 (rs.map V.tup) []))
theorem e44_eq (l : List V) : enterK kcB0 true fa44 [V.nilS, V.fn 42 [V.ref (V.sl l) 0]] [O.row 3 [] 0, O.row 3 [] 0] = e44 l := by kernel_rfl
theorem e44_run (l : List V) {o : Out} {v : V} {m : List O} (h : e44 l = some o) (hg : Go kcB0 true 2 fa44 o (.doneM v m)) : icW cfgB 44 [V.nilS, V.fn 42 [V.ref (V.sl l) 0]] [O.row 3 [] 0, O.row 3 [] 0] = some (v, m) := icW_go ikB0 rfl fa44_eq ((e44_eq l).trans h) hg
noncomputable def s44_0 (x6 : List V) (m4 : List V) : R :=
  restK x6
 (some (.doneM (V.tail 4 0) [O.row 3 [] 0, O.row 3 [] 0, O.box 22 (V.tail 4 0) false, O.row 3 [] 0, O.row 3 m4 0])) fun x0 l =>
  kT x0 fun vs => unc vs fun c vs => kI .i64 c fun n =>
  unn vs <| gd (decide (m4.length + ([V.int .i64 n] : List V).length ≤ 16777216)) <|
  some (.head 0 (T44_0 l (m4 ++ [V.int .i64 n])))
theorem s44_0_eq (x6 : List V) (m4 : List V) : goK kcB0 true 2 fa44 0 (T44_0 x6 m4) = s44_0 x6 m4 := by kernel_rfl
theorem s44_0_run (x6 : List V) (m4 : List V) {o o' : Out} (h : s44_0 x6 m4 = some o) (hg : Go kcB0 true 2 fa44 o o') : Go kcB0 true 2 fa44 (.head 0 (T44_0 x6 m4)) o' := .step ((s44_0_eq x6 m4).trans h) hg
end Go.Proofs.Ytnaidbmgibmnbaa
