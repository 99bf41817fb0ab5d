/-
  A law of layer 9 (lock): whatever the input, it returns true and leaves its arguments as0 they were. No condition.
-/
import Derived.Test.YtpkeiaeaonmacaaZ6
import Derived.Test.YtpkeiaeaonmacaaRows
import Derived.WalkKit
import Derived.ProofKit
import Derived.OpenShut
import Derived.KernelRfl
import Derived.Handed
import Derived.JoinedOf
import Derived.JoinedCond
namespace Go.Proofs.Ytpkeiaeaonmacaa
open Go Go.Lite
set_option maxRecDepth 100000
set_option linter.unusedVariables false
noncomputable def fa6 : FA := ⟨1, 88, [.tmp 2], [4],
 (.seq
 (.ops false [o1 2 (.assign (.const (.bool false))) 4])
 (.seq
 (.ops false [o1 11 (.call ⟨(.value (.func 9)), #[], #[]⟩) 23, asg 3 11 23])
 (.seq
 (.seq
 (.ops false [mv 12 3 23, o1 13 (.binOp .eql 23 (t' 12) (.const (.pointer none)) 23) 4, mv 14 13 4, o2 15 (.move (t' 3)) 23 14 false, o2 16 (.call ⟨(.value (.func 20)), #[(t' 15), (.const (.int .i64 (0))), (.const (.string ⟨⟨[110]⟩⟩)), (.const (.int .i64 (6)))], #[23, 3, 9, 3]⟩) 42 14 false, o2 17 (.binOp .neq 42 (t' 16) (.const (.int .i64 (0))) 42) 4 14 false, o1 18 (.pick (t' 14) (.const (.bool true)) (t' 17)) 4])
 (.cond (t' 18)
 (.seq
 (.ops false [o1 2 (.assign (.const (.bool false))) 4])
 (.ret))
 (.skip)))
 (.seq
 (.ops false [o1 4 (.assign (.const (.int .i64 (0)))) 3])
 (.seq
 (.seq
 (.ops false [o1 5 (.assign (.const (.int .i64 (0)))) 3])
 (.block 0
 (.loop ([1] ++ List.range' 6 82)
 (.seq
 (.seq
 (.ops false [mv 19 5 3, mv 20 0 28, o1 21 (.call ⟨(.builtin .len), #[(t' 20)], #[28]⟩) 3, o1 22 (.binOp .lss 3 (t' 19) (t' 21) 3) 4, mv 23 22 4, o2 24 (.move (t' 5)) 3 23 true, o2 25 (.binOp .lss 3 (t' 24) (.const (.int .i64 (20))) 3) 4 23 true, o1 26 (.pick (t' 23) (t' 25) (.const (.bool false))) 4])
 (.cond (t' 26)
 (.skip)
 (.exit 0)))
 (.seq
 (.block 1
 (.seq
 (.ops false [mv 29 4 3, o1 30 (.binOp .add 3 (t' 29) (.const (.int .i64 (1))) 3) 3, asg 4 30 3])
 (.seq
 (.ops false [mv 31 3 23, mv 32 4 3, mv 33 0 28, mv 34 5 3, o1 35 (.indexAddr 28 (t' 33) (t' 34)) 0, o1 36 (.load 3 (t' 35)) 3, o1 37 (.binOp .and 3 (t' 36) (.const (.int .i64 (255))) 3) 3, o1 38 (.binOp .rem 3 (t' 37) (.const (.int .i64 (6))) 3) 3, o1 39 (.binOp .add 3 (.const (.int .i64 (1))) (t' 38) 3) 3, o1 40 (.call ⟨(.value (.func 20)), #[(t' 31), (t' 32), (.const (.string ⟨⟨[110]⟩⟩)), (t' 39)], #[23, 3, 9, 3]⟩) 42, o1 41 (.binOp .neq 42 (t' 40) (.const (.int .i64 (10))) 42) 4])
 (.cond (t' 41)
 (.seq
 (.ops false [o1 2 (.assign (.const (.bool false))) 4])
 (.ret))
 (.skip)))))
 (.ops false [mv 27 5 3, o1 28 (.binOp .add 3 (t' 27) (.const (.int .i64 (1))) 3) 3, asg 5 28 3]))))))
 (.seq
 (.ops false [o1 6 (.assign (.const (.int .i64 (1)))) 3])
 (.seq
 (.ops false [mv 42 3 23, o1 43 (.call ⟨(.value (.func 18)), #[(t' 42), (.const (.int .i64 (0)))], #[23, 3]⟩) 28, asg 7 43 28])
 (.seq
 (.block 2
 (.loop ([0, 1, 5] ++ List.range' 8 80)
 (.seq
 (.seq
 (.ops false [mv 44 6 3, mv 45 4 3, o1 46 (.binOp .leq 3 (t' 44) (t' 45) 3) 4])
 (.cond (t' 46)
 (.skip)
 (.exit 2)))
 (.block 3
 (.seq
 (.seq
 (.ops false [mv 47 7 28, o1 48 (.call ⟨(.builtin .len), #[(t' 47)], #[28]⟩) 3, o1 49 (.binOp .eql 3 (t' 48) (.const (.int .i64 (0))) 3) 4])
 (.cond (t' 49)
 (.seq
 (.ops false [o1 2 (.assign (.const (.bool false))) 4])
 (.ret))
 (.skip)))
 (.seq
 (.seq
 (.ops false [o1 8 (.assign (.const (.int .i64 (0)))) 3])
 (.block 4
 (.loop ([0, 1, 5] ++ List.range' 9 79)
 (.seq
 (.seq
 (.ops false [mv 50 8 3, mv 51 7 28, o1 52 (.call ⟨(.builtin .len), #[(t' 51)], #[28]⟩) 3, o1 53 (.binOp .lss 3 (t' 50) (t' 52) 3) 4])
 (.cond (t' 53)
 (.skip)
 (.exit 4)))
 (.seq
 (.block 5
 (.seq
 (.seq
 (.ops false [mv 56 7 28, mv 57 8 3, o1 58 (.indexAddr 28 (t' 56) (t' 57)) 0, o1 59 (.load 3 (t' 58)) 3, mv 60 6 3, o1 61 (.binOp .neq 3 (t' 59) (t' 60) 3) 4])
 (.cond (t' 61)
 (.seq
 (.ops false [o1 2 (.assign (.const (.bool false))) 4])
 (.ret))
 (.skip)))
 (.ops false [mv 62 6 3, o1 63 (.binOp .add 3 (t' 62) (.const (.int .i64 (1))) 3) 3, asg 6 63 3])))
 (.ops false [mv 54 8 3, o1 55 (.binOp .add 3 (t' 54) (.const (.int .i64 (1))) 3) 3, asg 8 55 3]))))))
 (.seq
 (.ops false [o1 64 (.buildSlice 28 0 #[]) 28, asg 7 64 28])
 (.seq
 (.ops false [mv 65 3 23, o1 66 (.call ⟨(.value (.func 11)), #[(t' 65), (.const (.string ⟨⟨[110]⟩⟩))], #[23, 9]⟩) 28, asg 9 66 28])
 (.seq
 (.ops false [o1 10 (.assign (.const (.int .i64 (0)))) 3])
 (.block 6
 (.loop ([0, 1, 5, 8] ++ List.range' 11 77)
 (.seq
 (.seq
 (.ops false [mv 67 10 3, mv 68 9 28, o1 69 (.call ⟨(.builtin .len), #[(t' 68)], #[28]⟩) 3, o1 70 (.binOp .lss 3 (t' 67) (t' 69) 3) 4])
 (.cond (t' 70)
 (.skip)
 (.exit 6)))
 (.seq
 (.block 7
 (.ops false [mv 73 7 28, mv 74 3 23, mv 75 9 28, mv 76 10 3, o1 77 (.indexAddr 28 (t' 75) (t' 76)) 0, o1 78 (.load 3 (t' 77)) 3, o1 79 (.call ⟨(.value (.func 18)), #[(t' 74), (t' 78)], #[23, 3]⟩) 28, o1 80 (.call ⟨(.builtin .append), #[(t' 73), (t' 79)], #[28, 28]⟩) 28, asg 7 80 28]))
 (.ops false [mv 71 10 3, o1 72 (.binOp .add 3 (t' 71) (.const (.int .i64 (1))) 3) 3, asg 10 72 3]))))))))))))))
 (.seq
 (.ops false [mv 81 3 23, o1 82 (.call ⟨(.value (.func 12)), #[(t' 81), (.const (.string ⟨⟨[110]⟩⟩))], #[23, 9]⟩) 28, o1 83 (.call ⟨(.builtin .len), #[(t' 82)], #[28]⟩) 3, o1 84 (.binOp .eql 3 (t' 83) (.const (.int .i64 (0))) 3) 4, mv 85 84 4, o2 86 (.call ⟨(.value (.func 17)), #[], #[]⟩) 4 85 true, o1 87 (.pick (t' 85) (t' 86) (.const (.bool false))) 4, asg 2 87 4])
 (.ret))))))))))⟩
theorem fa6_eq : fnA cfgB.P (cfgB.rxf 6) 6 = some fa6 := by kernel_rfl
def T6_0 (x0 : List V) (x4 : Int) (x5 : Int) (m0 : List V) (m1 : List (List (V × V))) (m3 : List (V × V)) (m4 : List (V × V)) : S := ⟨[V.sl x0, V.junk, V.bool false, V.ptr 2 0 0, V.int .i64 x4, V.int .i64 x5] ++ (JU 82), (tm m0 m1 m3 m4)⟩
def T6_1 (x4 : Int) (x6 : Int) (m0 : List V) (m1 : List (List (V × V))) (m3 : List V) (m4 : List (V × V)) (m5 : List (V × V)) : S := ⟨[V.junk, V.junk, V.bool false, V.ptr 2 0 0, V.int .i64 x4, V.junk, V.int .i64 x6, V.own 3] ++ (JU 80), [O.arena 61 m0, O.marena 58 m1, O.box 50 (V.agg [V.mp 4, V.mp 5]) false, O.row 3 m3 0, O.map m4, O.map m5]⟩
def T6_2 (x4 : Int) (x6 : Int) (x8 : Int) (m0 : List V) (m1 : List (List (V × V))) (m3 : List V) (m4 : List (V × V)) (m5 : List (V × V)) : S := ⟨[V.junk, V.junk, V.bool false, V.ptr 2 0 0, V.int .i64 x4, V.junk, V.int .i64 x6, V.own 3, V.int .i64 x8] ++ (JU 79), [O.arena 61 m0, O.marena 58 m1, O.box 50 (V.agg [V.mp 4, V.mp 5]) false, O.row 3 m3 0, O.map m4, O.map m5]⟩
def T6_3 (x4 : Int) (x6 : Int) (x10 : Int) (m0 : List V) (m1 : List (List (V × V))) (m3 : List V) (m4 : List V) (m5 : List (V × V)) (m6 : List (V × V)) : S := ⟨[V.junk, V.junk, V.bool false, V.ptr 2 0 0, V.int .i64 x4, V.junk, V.int .i64 x6, V.own 3, V.junk, V.own 4, V.int .i64 x10] ++ (JU 77), [O.arena 61 m0, O.marena 58 m1, O.box 50 (V.agg [V.mp 5, V.mp 6]) false, O.row 3 m3 0, O.row 3 m4 0, O.map m5, O.map m6]⟩
noncomputable def e6 (sc : List V) : R :=
  icM cfgB ⟨true, false⟩ mk20 20 [V.ptr 2 0 0, V.int .i64 0, V.str [110], V.int .i64 6] (tm [] [] [] []) fun L =>
  cond (L.1 != (0 : Int))
 (some (.doneM (V.bool false) [O.arena 61 L.2.1, O.marena 58 L.2.2.1, O.map L.2.2.2.1, O.map L.2.2.2.2, O.box 50 (V.agg [V.mp 2, V.mp 3]) false]))
 (some (.head 0 (T6_0 sc 0 0 L.2.1 L.2.2.1 L.2.2.2.1 L.2.2.2.2)))
theorem e6_eq (sc : List V) : enterK kcB true fa6 [V.sl sc] [O.arena 61 [], O.marena 58 []] = e6 sc := by kernel_rfl
noncomputable def s6_0 (x0 : List V) (x4 : Int) (x5 : Int) (m0 : List V) (m1 : List (List (V × V))) (m3 : List (V × V)) (m4 : List (V × V)) : R :=
  cond (decide (x5 < (x0.length : Int)))
 (cond (decide (x5 < 20))
 (gd (decide (0 ≤ x5)) <|
  idxK x0 x5.toNat fun v =>
  kI .i64 v fun n =>
  icM cfgB ⟨true, false⟩ mk20 20 [V.ptr 2 0 0, V.int .i64 (W .i64 (x4 + 1)), V.str [110], V.int .i64 (W .i64 (1 + ((W .i64 (((BitVec.ofInt (IntKind.bits .i64) n &&& BitVec.ofInt (IntKind.bits .i64) 255).toNat : Int))).tmod 6)))] (tm m0 m1 m3 m4) fun L =>
  cond (L.1 != (10 : Int))
 (some (.doneM (V.bool false) (tm L.2.1 L.2.2.1 L.2.2.2.1 L.2.2.2.2)))
 (some (.head 0 (T6_0 x0 (W .i64 (x4 + 1)) (W .i64 (x5 + 1)) L.2.1 L.2.2.1 L.2.2.2.1 L.2.2.2.2))))
 (icM cfgB ⟨true, false⟩ mk18 18 [V.ptr 2 0 0, V.int .i64 0] (tm m0 m1 m3 m4) fun L_1 =>
  some (.head 1 (T6_1 x4 1 L_1.1 L_1.2.1 L_1.2.2.2.2 L_1.2.2.1 L_1.2.2.2.1))))
 (icM cfgB ⟨true, false⟩ mk18 18 [V.ptr 2 0 0, V.int .i64 0] (tm m0 m1 m3 m4) fun L_2 =>
  some (.head 1 (T6_1 x4 1 L_2.1 L_2.2.1 L_2.2.2.2.2 L_2.2.2.1 L_2.2.2.2.1)))
theorem s6_0_eq (x0 : List V) (x4 : Int) (x5 : Int) (m0 : List V) (m1 : List (List (V × V))) (m3 : List (V × V)) (m4 : List (V × V)) : goK kcB true 2 fa6 0 (T6_0 x0 x4 x5 m0 m1 m3 m4) = s6_0 x0 x4 x5 m0 m1 m3 m4 := by kernel_rfl
theorem s6_0_run (x0 : List V) (x4 : Int) (x5 : Int) (m0 : List V) (m1 : List (List (V × V))) (m3 : List (V × V)) (m4 : List (V × V)) {o o' : Out} (h : s6_0 x0 x4 x5 m0 m1 m3 m4 = some o) (hg : Go kcB true 2 fa6 o o') : Go kcB true 2 fa6 (.head 0 (T6_0 x0 x4 x5 m0 m1 m3 m4)) o' := .step ((s6_0_eq x0 x4 x5 m0 m1 m3 m4).trans h) hg
noncomputable def s6_1 (x4 : Int) (x6 : Int) (m0 : List V) (m1 : List (List (V × V))) (m3 : List V) (m4 : List (V × V)) (m5 : List (V × V)) : R :=
  cond (decide (x6 ≤ x4))
 (cond ((m3.length : Int) == (0 : Int))
 (some (.doneM (V.bool false) [O.arena 61 m0, O.marena 58 m1, O.box 50 (V.agg [V.mp 4, V.mp 5]) false, O.row 3 m3 0, O.map m4, O.map m5]))
 (some (.head 2 (T6_2 x4 x6 0 m0 m1 m3 m4 m5))))
 (icM cfgB ⟨true, false⟩ mk12 12 [V.ptr 2 0 0, V.str [110]] (tm m0 m1 m4 m5) fun L =>
  cond ((L.2.2.2.2.length : Int) == (0 : Int))
 (pcK cfgB 17 [] fun r =>
  kB r fun r17 =>
  some (.doneM (V.bool r17) [O.arena 61 L.1, O.marena 58 L.2.1, O.box 50 (V.agg [V.mp 4, V.mp 5]) false, O.row 3 m3 0, O.map L.2.2.1, O.map L.2.2.2.1, O.row 3 L.2.2.2.2 0]))
 (some (.doneM (V.bool false) [O.arena 61 L.1, O.marena 58 L.2.1, O.box 50 (V.agg [V.mp 4, V.mp 5]) false, O.row 3 m3 0, O.map L.2.2.1, O.map L.2.2.2.1, O.row 3 L.2.2.2.2 0])))
theorem s6_1_eq (x4 : Int) (x6 : Int) (m0 : List V) (m1 : List (List (V × V))) (m3 : List V) (m4 : List (V × V)) (m5 : List (V × V)) : goK kcB true 2 fa6 1 (T6_1 x4 x6 m0 m1 m3 m4 m5) = s6_1 x4 x6 m0 m1 m3 m4 m5 := by kernel_rfl
theorem s6_1_run (x4 : Int) (x6 : Int) (m0 : List V) (m1 : List (List (V × V))) (m3 : List V) (m4 : List (V × V)) (m5 : List (V × V)) {o o' : Out} (h : s6_1 x4 x6 m0 m1 m3 m4 m5 = some o) (hg : Go kcB true 2 fa6 o o') : Go kcB true 2 fa6 (.head 1 (T6_1 x4 x6 m0 m1 m3 m4 m5)) o' := .step ((s6_1_eq x4 x6 m0 m1 m3 m4 m5).trans h) hg
noncomputable def s6_2 (x4 : Int) (x6 : Int) (x8 : Int) (m0 : List V) (m1 : List (List (V × V))) (m3 : List V) (m4 : List (V × V)) (m5 : List (V × V)) : R :=
  cond (decide (x8 < (m3.length : Int)))
 (gd (decide (0 ≤ x8)) <|
  gd (decide (x8.toNat < m3.length)) <|
  idxK m3 x8.toNat fun v =>
  kI .i64 v fun n =>
  cond (n != x6)
 (some (.doneM (V.bool false) [O.arena 61 m0, O.marena 58 m1, O.box 50 (V.agg [V.mp 4, V.mp 5]) false, O.row 3 m3 0, O.map m4, O.map m5]))
 (some (.head 2 (T6_2 x4 (W .i64 (x6 + 1)) (W .i64 (x8 + 1)) m0 m1 m3 m4 m5))))
 (icM cfgB ⟨true, false⟩ mk11 11 [V.ptr 2 0 0, V.str [110]] (tm m0 m1 m4 m5) fun L =>
  some (.head 3 (T6_3 x4 x6 0 L.1 L.2.1 [] L.2.2.2.2 L.2.2.1 L.2.2.2.1)))
theorem s6_2_eq (x4 : Int) (x6 : Int) (x8 : Int) (m0 : List V) (m1 : List (List (V × V))) (m3 : List V) (m4 : List (V × V)) (m5 : List (V × V)) : goK kcB true 2 fa6 2 (T6_2 x4 x6 x8 m0 m1 m3 m4 m5) = s6_2 x4 x6 x8 m0 m1 m3 m4 m5 := by kernel_rfl
theorem s6_2_run (x4 : Int) (x6 : Int) (x8 : Int) (m0 : List V) (m1 : List (List (V × V))) (m3 : List V) (m4 : List (V × V)) (m5 : List (V × V)) {o o' : Out} (h : s6_2 x4 x6 x8 m0 m1 m3 m4 m5 = some o) (hg : Go kcB true 2 fa6 o o') : Go kcB true 2 fa6 (.head 2 (T6_2 x4 x6 x8 m0 m1 m3 m4 m5)) o' := .step ((s6_2_eq x4 x6 x8 m0 m1 m3 m4 m5).trans h) hg
noncomputable def s6_3 (x4 : Int) (x6 : Int) (x10 : Int) (m0 : List V) (m1 : List (List (V × V))) (m3 : List V) (m4 : List V) (m5 : List (V × V)) (m6 : List (V × V)) : R :=
  cond (decide (x10 < (m4.length : Int)))
 (gd (decide (0 ≤ x10)) <|
  gd (decide (x10.toNat < m4.length)) <|
  idxK m4 x10.toNat fun v =>
  kI .i64 v fun n =>
  icM cfgB ⟨true, false⟩ mk18 18 [V.ptr 2 0 0, V.int .i64 n] (tm m0 m1 m5 m6) fun L =>
  gd (wfl 1 L.2.2.2.2) <|
  gd (decide (m3.length + L.2.2.2.2.length ≤ 16777216)) <|
  some (.head 3 (T6_3 x4 x6 (W .i64 (x10 + 1)) L.1 L.2.1 (m3 ++ L.2.2.2.2) m4 L.2.2.1 L.2.2.2.1)))
 (some (.head 1 (T6_1 x4 x6 m0 m1 m3 m5 m6)))
theorem s6_3_eq (x4 : Int) (x6 : Int) (x10 : Int) (m0 : List V) (m1 : List (List (V × V))) (m3 : List V) (m4 : List V) (m5 : List (V × V)) (m6 : List (V × V)) : goK kcB true 2 fa6 3 (T6_3 x4 x6 x10 m0 m1 m3 m4 m5 m6) = s6_3 x4 x6 x10 m0 m1 m3 m4 m5 m6 := by kernel_rfl
theorem s6_3_run (x4 : Int) (x6 : Int) (x10 : Int) (m0 : List V) (m1 : List (List (V × V))) (m3 : List V) (m4 : List V) (m5 : List (V × V)) (m6 : List (V × V)) {o o' : Out} (h : s6_3 x4 x6 x10 m0 m1 m3 m4 m5 m6 = some o) (hg : Go kcB true 2 fa6 o o') : Go kcB true 2 fa6 (.head 3 (T6_3 x4 x6 x10 m0 m1 m3 m4 m5 m6)) o' := .step ((s6_3_eq x4 x6 x10 m0 m1 m3 m4 m5 m6).trans h) hg
end Go.Proofs.Ytpkeiaeaonmacaa
namespace Go.Proofs.Ytpkeiaeaonmacaa
open Go Go.Lite
set_option linter.unusedSimpArgs false
set_option linter.unusedVariables false
set_option linter.unnecessarySimpa false
set_option maxRecDepth 10000
theorem wI1 (m : Int) (h : 0 ≤ m ∧ m < 100) : W .i64 (m + 1) = m + 1 := W_i64 (by omega)
structure Op where
  kind : Int
  owner : Int
  name : Bs
  mode : Int
def opV (o : Op) : V := .agg [.int .i64 o.kind, .int .i64 o.owner, .str o.name, .int .i64 o.mode]
theorem dO (o : Op) (k : Int → Int → Bs → Int → R) : d27 (opV o) k = k o.kind o.owner o.name o.mode := rfl
def cutN (s : Bs) : Bs := s.take ((if 2 < (s.length : Int) then 2 else (s.length : Int)).toNat)
theorem cut_nm (s : Bs) : Nm (cutN s) := by
  unfold cutN Nm
  rw [List.length_take]
  split <;> omega
theorem cut_fold (s : Bs) : s.take ((if 2 < (s.length : Int) then 2 else (s.length : Int)).toNat) = cutN s := rfl
theorem gc1 (s : Bs) : decide (0 ≤ (if 2 < (s.length : Int) then 2 else (s.length : Int))) = true := decide_eq_true (by split <;> omega)
theorem gc2 (s : Bs) : decide ((if 2 < (s.length : Int) then 2 else (s.length : Int)).toNat ≤ s.length) = true := decide_eq_true (by split <;> omega)
theorem and7 (x : Int) : ∃ q : Int, (0 ≤ q ∧ q < 8) ∧ W .i64 (((BitVec.ofInt (IntKind.bits .i64) x &&& BitVec.ofInt (IntKind.bits .i64) 7).toNat : Int)) = q := by
  refine ⟨((BitVec.ofInt 64 x &&& BitVec.ofInt 64 7).toNat : Nat), ⟨by omega, ?_⟩, ?_⟩
  · rw [BitVec.toNat_and]
    have := Nat.lt_of_le_of_lt (@Nat.and_le_right (BitVec.ofInt 64 x).toNat (BitVec.ofInt 64 7).toNat) (show (BitVec.ofInt 64 7).toNat < 8 by decide)
    omega
  · change W .i64 (((BitVec.ofInt 64 x &&& BitVec.ofInt 64 7).toNat : Int)) = _
    have : (BitVec.ofInt 64 x &&& BitVec.ofInt 64 7).toNat < 8 := by
      rw [BitVec.toNat_and]
      exact Nat.lt_of_le_of_lt Nat.and_le_right (by decide)
    exact W_i64 (by omega)
theorem op_get {ops : List Op} {i : Nat} {o : Op} (h : ops[i]? = some o) (q : V → R) : idxK (ops.map opV) ((i : Int)).toNat q = q (opV o) := idxK_c h
noncomputable def playA (L : List Lk) (W : WL) (k : Int) (o : Int) (nm : Bs) (m : Int) : List Lk × WL :=
  if k = 0 then (askA L W o nm m).2 else if k = 1 then ((freeA L W o nm).2.1, (freeA L W o nm).2.2.1) else ((dropA L W o).1, (dropA L W o).2.1)
section
variable {els : List V} {ms : List (List (V × V))} {lk ws : List (V × V)} {ix : Bs → Nat} {L : List Lk} {W : WL} {b : Int} {n N : Nat} {nm : Bs} {e : Lk} {o : Int}
theorem Good.play (g : Good b n L W) (ho : o < b) (k : Int) (nm : Bs) (m : Int) : Good b (n + 1) (playA L W k o nm m).1 (playA L W k o nm m).2 := by
  unfold playA
  split
  · exact g.ask ho nm m
  · split
    · exact (Good.free g o nm).more (by omega)
    · exact (Good.drop g o).more (by omega)
theorem wait_none (g : Good b n L W) (h : waitA L W o = none) : getA W o = none := by
  cases hg : getA W o with
  | none => rfl
  | some n2 =>
    obtain ⟨e, m, h1, h2⟩ := g.wok o n2 hg
    unfold waitA at h
    rw [hg, Option.bind_some, h1, Option.bind_some, h2] at h
    cases h
theorem wait_some {p : Bs × Int} (h : waitA L W o = some p) : getA W o = some p.1 ∧ ∃ e, getL L p.1 = some e ∧ getA e.q o = some p.2 := by
  unfold waitA at h
  simp only [Option.bind_eq_some_iff, Option.map_eq_some_iff] at h
  obtain ⟨n2, h1, e, h2, m, h3, rfl⟩ := h
  exact ⟨h1, e, h2, h3⟩
theorem wait_of (h : getA W o = none) : waitA L W o = none := by unfold waitA; rw [h]; rfl
theorem mode_get (g : Good b n L W) (h : modeA L o nm ≠ 0) : ∃ e, getL L nm = some e ∧ getA e.held o = some (modeA L o nm) ∧ 1 ≤ modeA L o nm ∧ modeA L o nm ≤ 6 := by
  obtain ⟨e, he⟩ := modeA_some h
  refine ⟨e, he, ?_⟩
  unfold modeA at h ⊢
  rw [he, Option.bind_some] at h ⊢
  cases hg : getA e.held o with
  | none => rw [hg] at h; exact absurd rfl h
  | some m =>
    rw [Option.getD_some]
    exact ⟨rfl, g.hm e (getL_some he).1 _ (getA_mem hg)⟩
theorem mode_eq (he : getL L nm = some e) : modeA L o nm = (getA e.held o).getD 0 := by unfold modeA; rw [he]; rfl
theorem ask_again (g : Good b n L W) (ho : 0 ≤ o) {m : Int} (hm : 1 ≤ m ∧ m ≤ 6) (h0 : modeA L o nm ≠ 0) (hw : getA W o = none) (hc : coversB (modeA L o nm) m = true) : askA L W o nm m = (0, L, W) := by
  obtain ⟨e, he, h1, h2⟩ := mode_get g h0
  unfold askA
  rw [if_neg (by omega), if_neg (by rw [hw]; simp), atL_some he, he]
  dsimp only
  rw [h1]
  exact if_pos ⟨rfl, cov_join h2 hm hc⟩
end
theorem plain_sc (ops : List Op) : plainL [.sl (ops.map opV)] = true := by
  have : ∀ l : List Op, plainL (l.map opV) = true := by
    intro l
    induction l with
    | nil => rfl
    | cons o l ih =>
      rw [List.map_cons]
      unfold plainL
      rw [ih]
      rfl
  simp only [plainL, V.plain, this, Bool.and_true]
end Go.Proofs.Ytpkeiaeaonmacaa
namespace Go.Proofs.Ytpkeiaeaonmacaa
open Go Go.Lite
set_option linter.unusedSimpArgs false
set_option linter.unusedVariables false
set_option linter.unnecessarySimpa false
set_option maxRecDepth 10000
section
variable {els : List V} {ms : List (List (V × V))} {lk ws : List (V × V)} {ix : Bs → Nat} {L : List Lk} {W : WL} {b : Int} {n N : Nat} {S : Bs → Prop} {nm : Bs} {e : Lk} {o x : Int}
theorem keys_put_old {α : Type} {l : List (Int × α)} {a : α} (h : x ∈ keys l) : x ∈ keys (putA l o a) := by
  rw [keys_put]
  split
  · exact h
  · exact List.mem_append.2 (.inl h)
theorem keys_put_new {α : Type} {l : List (Int × α)} {a : α} : o ∈ keys (putA l o a) := List.mem_map.2 ⟨_, put_mem, rfl⟩
theorem comeQ_keys : ∀ (q hs : HQ), (∀ x ∈ keys hs, x ∈ keys (comeQ q hs).1) ∧ (∀ x ∈ (comeQ q hs).2.2, x ∈ keys (comeQ q hs).1 ∧ x ∈ keys q) ∧ (∀ p ∈ (comeQ q hs).1, p ∈ hs ∨ p ∈ q) ∧ ∀ p ∈ (comeQ q hs).2.1, p ∈ q
  | [], hs => ⟨fun _ h => h, fun _ h => (by cases h), fun _ h => .inl h, fun _ h => (by cases h)⟩
  | p :: q, hs => by
    unfold comeQ
    split
    · obtain ⟨h1, h2, h3, h4⟩ := comeQ_keys q (putA hs p.1 p.2)
      refine ⟨fun x hx => h1 x (keys_put_old hx), fun x hx => ?_, fun y hy => ?_, fun y hy => List.mem_cons_of_mem _ (h4 y hy)⟩
      · rcases List.mem_cons.1 hx with rfl | hx
        · exact ⟨h1 _ keys_put_new, by simp⟩
        · exact ⟨(h2 x hx).1, List.mem_cons_of_mem _ (h2 x hx).2⟩
      · rcases h3 y hy with h | h
        · rcases putA_mem h with h | rfl
          · exact .inl h
          · exact .inr (by simp)
        · exact .inr (List.mem_cons_of_mem _ h)
    · exact ⟨fun _ h => h, fun _ h => (by cases h), fun _ h => .inl h, fun _ h => h⟩
theorem getA_del_none {α : Type} {l : List (Int × α)} (h : getA l x = none) : getA (delA l o) x = none := by
  refine getA_out fun hm => ?_
  have := getA_none h
  exact this (((delA_sub l o).map _).subset hm)
theorem delAll_none : ∀ (l : List Int) (W : WL), getA W x = none → getA (delAll W l) x = none
  | [], W, h => h
  | c :: l, W, h => delAll_none l _ (getA_del_none h)
theorem delAll_in : ∀ (l : List Int) (W : WL), (keys W).Nodup → x ∈ l → getA (delAll W l) x = none
  | c :: l, W, hn, h => by
    rcases List.mem_cons.1 h with rfl | h
    · exact delAll_none l _ (getA_del_self hn)
    · exact delAll_in l _ (nodup_del hn) h
theorem tidy_sub {x : Lk} (h : x ∈ tidyL L nm) : x ∈ L := by
  unfold tidyL at h
  split at h
  · split at h
    · exact (List.mem_filter.1 h).1
    · exact h
  · exact h
theorem tidy_in {x : Lk} (hn : (nms L).Nodup) (h : x ∈ L) (hh : x.held ≠ []) : x ∈ tidyL L nm := by
  unfold tidyL
  split
  · rename_i e he
    split
    · rename_i hb
      refine List.mem_filter.2 ⟨h, ?_⟩
      have : x.nm ≠ nm := fun e1 => by
        have := getL_of hn h
        rw [e1, he] at this
        cases this
        exact hh hb.1
      simpa using this
    · exact h
  · exact h
structure DI (o : Int) (L : List Lk) (W : WL) (out : List Int) : Prop where
  no : ∀ e ∈ L, o ∉ keys e.held ∧ o ∉ keys e.q
  nw : getA W o = none
  got : ∀ x ∈ out, x ≠ o ∧ getA W x = none ∧ ∃ e ∈ L, x ∈ keys e.held
theorem DI.come {out : List Int} (h : DI o L W out) (g : WG b n S L W) (nm : Bs) : DI o (comeL L W nm).1 (comeL L W nm).2.1 (out ++ (comeL L W nm).2.2) := by
  cases he : getL L nm with
  | none => rw [come_none he, List.append_nil]; exact h
  | some e =>
    obtain ⟨hm, hnm⟩ := getL_some he
    obtain ⟨k1, k2, k3, k4⟩ := comeQ_keys e.q e.held
    have hnd : (nms (setL L nm (comeQ e.q e.held).1 (comeQ e.q e.held).2.1)).Nodup := by rw [nms_set]; exact g.nd
    rw [come_some he]
    refine ⟨fun y hy => ?_, delAll_none _ _ h.nw, fun x hx => ?_⟩
    · rcases mem_set (tidy_sub hy) with rfl | ⟨hy, _⟩
      · refine ⟨fun ho => ?_, fun ho => ?_⟩ <;> obtain ⟨p, hp, e1⟩ := List.mem_map.1 ho
        · rcases k3 p hp with hp | hp
          · exact (h.no e hm).1 (List.mem_map.2 ⟨p, hp, e1⟩)
          · exact (h.no e hm).2 (List.mem_map.2 ⟨p, hp, e1⟩)
        · exact (h.no e hm).2 (List.mem_map.2 ⟨p, k4 p hp, e1⟩)
      · exact h.no y hy
    · have key : ∀ y ∈ L, x ∈ keys y.held → ∃ e' ∈ tidyL (setL L nm (comeQ e.q e.held).1 (comeQ e.q e.held).2.1) nm, x ∈ keys e'.held := by
        intro y hy hxx
        by_cases hyn : y.nm = nm
        · have : y = e := by
            have := getL_of g.nd hy
            rw [hyn, he] at this
            exact (Option.some.inj this).symm
          subst this
          have hk := k1 x hxx
          refine ⟨_, tidy_in hnd (set_in he _ _) (fun h0 => ?_), hk⟩
          have h0 : (comeQ y.q y.held).1 = [] := h0
          rw [h0] at hk; cases hk
        · exact ⟨y, tidy_in hnd (set_other hy hyn _ _) (fun h0 => by rw [h0] at hxx; cases hxx), hxx⟩
      rcases List.mem_append.1 hx with hx | hx
      · obtain ⟨h1, h2, y, hy, h3⟩ := h.got x hx
        exact ⟨h1, delAll_none _ _ h2, key y hy h3⟩
      · obtain ⟨h1, h2⟩ := k2 x hx
        refine ⟨?_, delAll_in _ _ g.wn hx, ?_⟩
        · rintro rfl
          exact (h.no e hm).2 h2
        · refine ⟨_, tidy_in hnd (set_in he _ _) (fun h0 => ?_), h1⟩
          have h0 : (comeQ e.q e.held).1 = [] := h0
          rw [h0] at h1; cases h1
theorem DI.comeAll : ∀ (ks : List Bs) (L : List Lk) (W : WL) (out : List Int), WG b n (fun x => x ∈ ks) L W → DI o L W out → DI o (comeAll ks L W).1 (comeAll ks L W).2.1 (out ++ (comeAll ks L W).2.2)
  | [], L, W, out, _, h => by show DI o L W (out ++ []); rw [List.append_nil]; exact h
  | c :: ks, L, W, out, g, h => by
    have := DI.comeAll ks _ _ _ ((g.come c).weak (fun x hx => (List.mem_cons.1 hx.1).resolve_left hx.2) (Nat.le_refl _)) (h.come g c)
    rw [List.append_assoc] at this
    exact this
theorem Good.di (g : Good b n L W) (o : Int) : DI o (dropA L W o).1 (dropA L W o).2.1 (dropA L W o).2.2 := by
  have h1 := WG.drop g o
  have h2 : ∀ e ∈ dropL L o, e.nm ∈ srtS (nms L) := fun e he => srtS_mem.2 (by rw [← nms_drop (L := L) o]; exact List.mem_map.2 ⟨e, he, rfl⟩)
  have h3 : WG b n (fun x => x ∈ srtS (nms L)) (dropL L o) (delA W o) := ⟨h1.bb, h1.nd, h1.hn, h1.qn, h1.wn, h1.wq, h1.wok, h1.tot, h1.rh, h1.rq, h1.hm, h1.qm, h1.fit, h1.nb, h1.acy, fun e he hs => absurd (h2 e he) hs, fun e he hs => absurd (h2 e he) hs⟩
  have h4 : DI o (dropL L o) (delA W o) [] := by
    refine ⟨fun e he => ?_, getA_del_self g.wn, fun x hx => (by cases hx)⟩
    obtain ⟨y, hy, rfl⟩ := dropL_mem he
    refine ⟨fun ho => ?_, fun ho => ?_⟩
    · exact getA_none (getA_del_self (g.hn y hy)) ho
    · obtain ⟨p, hp, e1⟩ := List.mem_map.1 ho
      have := (List.mem_filter.1 hp).2
      simp [e1] at this
  exact DI.comeAll _ _ _ [] h3 h4
theorem held_ne (hn : (nms L).Nodup) {e : Lk} (he : e ∈ L) (hx : x ∈ keys e.held) : heldA L x ≠ [] := by
  obtain ⟨p, hp, e1⟩ := List.mem_map.1 hx
  cases hg : getA e.held x with
  | none => exact absurd hx (getA_none hg)
  | some m =>
    have : (e.nm, m) ∈ heldA L x := by
      unfold heldA heldN
      rw [List.mem_filterMap]
      refine ⟨e.nm, srtS_mem.2 (List.mem_map.2 ⟨e, he, rfl⟩), ?_⟩
      rw [getL_of hn he, Option.bind_some, hg, Option.map_some]
    exact List.ne_nil_of_mem this
theorem held_nil (h : ∀ e ∈ L, o ∉ keys e.held) : heldA L o = [] := by
  unfold heldA heldN
  rw [List.filterMap_eq_nil_iff]
  intro nm _
  cases hg : getL L nm with
  | none => rfl
  | some e => rw [Option.bind_some, getA_out (h e (getL_some hg).1)]; rfl
theorem hold_out (h : ∀ e ∈ L, o ∉ keys e.held) : o ∉ holdA L nm := by
  unfold holdA
  split
  · simp
  · rename_i e he
    rw [srt_mem]
    exact h e (getL_some he).1
end
end Go.Proofs.Ytpkeiaeaonmacaa
namespace Go.Proofs.Ytpkeiaeaonmacaa
open Go Go.Lite
set_option linter.unusedSimpArgs false
set_option linter.unusedVariables false
set_option linter.unnecessarySimpa false
set_option maxRecDepth 10000
def up (a c : Nat) : List Int := (List.range' a c).map fun (k : Nat) => (k : Int)
theorem up_len (a c : Nat) : (up a c).length = c := by simp [up]
theorem up_get {a c i : Nat} (h : i < c) : (up a c)[i]? = some ((a + i : Nat) : Int) := by simp [up, h]
theorem up_mem {a c : Nat} {x : Int} (h : x ∈ up a c) : (a : Int) ≤ x ∧ x < (a : Int) + c := by
  unfold up at h
  obtain ⟨k, hk, rfl⟩ := List.mem_map.1 h
  have := List.mem_range'_1.1 hk
  omega
theorem up_nodup (a c : Nat) : (up a c).Nodup := by
  rw [up]
  refine List.Pairwise.map _ (fun x y (h : x ≠ y) => ?_) (List.nodup_range' (step := 1))
  show (x : Int) ≠ y
  omega
theorem up_split {a c : Nat} {l r : List Int} (h : up a c = l ++ r) : l = up a l.length ∧ r = up (a + l.length) (c - l.length) ∧ l.length ≤ c := by
  have hl : l.length ≤ c := by have := congrArg List.length h; rw [up_len] at this; simp at this; omega
  have h1 : up a c = up a l.length ++ up (a + l.length) (c - l.length) := by
    unfold up
    rw [← List.map_append, List.range'_append_1, show l.length + (c - l.length) = c by omega]
  rw [h1] at h
  obtain ⟨e1, e2⟩ := List.append_inj h (up_len _ _)
  exact ⟨e1.symm, e2.symm, hl⟩
theorem up_snoc (a c : Nat) : up a (c + 1) = up a c ++ [((a + c : Nat) : Int)] := by
  unfold up
  rw [List.range'_concat, List.map_append]; simp
abbrev nN : Bs := [110]
def one (hs q : HQ) : List Lk := if hs = [] ∧ q = [] then [] else [⟨nN, hs, q⟩]
def wq (q : HQ) : WL := q.map fun p => (p.1, nN)
theorem one_ne {hs q : HQ} (h : hs ≠ [] ∨ q ≠ []) : one hs q = [⟨nN, hs, q⟩] := if_neg fun h' => h.elim (fun f => f h'.1) fun f => f h'.2
theorem get_one (hs q : HQ) : getL [⟨nN, hs, q⟩] nN = some ⟨nN, hs, q⟩ := rfl
theorem set_one (hs q hs' q' : HQ) : setL [⟨nN, hs, q⟩] nN hs' q' = [⟨nN, hs', q'⟩] := rfl
theorem tidy_one (hs q : HQ) : tidyL [⟨nN, hs, q⟩] nN = one hs q := rfl
theorem comeQ_split : ∀ (q hs : HQ), (keys hs ++ keys q).Nodup → ∃ pre, q = pre ++ (comeQ q hs).2.1 ∧ (comeQ q hs).2.2 = keys pre ∧ keys (comeQ q hs).1 = keys hs ++ keys pre
  | [], hs, _ => ⟨[], rfl, rfl, by simp [comeQ]⟩
  | p :: q, hs, hn => by
    have hp : p.1 ∉ keys hs := fun h => by
      rw [List.nodup_append] at hn
      exact hn.2.2 _ h p.1 (by simp) rfl
    have hk : keys (putA hs p.1 p.2) = keys hs ++ [p.1] := by rw [keys_put, if_neg hp]
    unfold comeQ
    split
    · obtain ⟨pre, h1, h2, h3⟩ := comeQ_split q (putA hs p.1 p.2) (by rw [hk, List.append_assoc]; exact hn)
      refine ⟨p :: pre, by rw [List.cons_append, ← h1], by show p.1 :: _ = _; rw [h2]; rfl, ?_⟩
      show keys (comeQ q (putA hs p.1 p.2)).1 = _
      rw [h3, hk, List.append_assoc]; rfl
    · exact ⟨[], rfl, rfl, by simp⟩
theorem delAll_wq : ∀ (pre q : HQ), delAll (wq (pre ++ q)) (keys pre) = wq q
  | [], q => rfl
  | p :: pre, q => by
    show delAll (delA (wq (p :: pre ++ q)) p.1) (keys pre) = wq q
    have : delA (wq (p :: pre ++ q)) p.1 = wq (pre ++ q) := by
      show delA ((p.1, nN) :: wq (pre ++ q)) p.1 = _
      unfold delA
      rw [if_pos (by simp)]
    rw [this]
    exact delAll_wq pre q
theorem keys_wq (q : HQ) : keys (wq q) = keys q := by simp [keys, wq]
theorem drop_one {hs q : HQ} {o : Int} (ho : o ∈ keys hs) (hn : (keys hs ++ keys q).Nodup) :
    dropA (one hs q) (wq q) o = (one (comeQ q (delA hs o)).1 (comeQ q (delA hs o)).2.1, wq (comeQ q (delA hs o)).2.1, (comeQ q (delA hs o)).2.2) := by
  have hne : hs ≠ [] := fun h => by rw [h] at ho; cases ho
  have hoq : o ∉ keys q := fun h => by rw [List.nodup_append] at hn; exact hn.2.2 o ho o h rfl
  have hsub : (keys (delA hs o) ++ keys q).Nodup := hn.sublist (List.Sublist.append ((delA_sub hs o).map _) (List.Sublist.refl _))
  obtain ⟨pre, h1, h2, h3⟩ := comeQ_split q (delA hs o) hsub
  have hd : dropL [⟨nN, hs, q⟩] o = [⟨nN, delA hs o, q⟩] := by
    show [(⟨nN, delA hs o, q.filter (·.1 != o)⟩ : Lk)] = _
    rw [List.filter_eq_self.2 fun p hp => by
      have : p.1 ≠ o := fun e => hoq (List.mem_map.2 ⟨p, hp, e⟩)
      simpa using this]
  have hw : delA (wq q) o = wq q := delA_none (getA_out (by rw [keys_wq]; exact hoq))
  rw [one_ne (.inl hne)]
  unfold dropA
  rw [hd, hw, show srtS (nms [⟨nN, hs, q⟩]) = [nN] by unfold srtS; exact List.mergeSort_singleton _]
  show ((comeL [⟨nN, delA hs o, q⟩] (wq q) nN).1, (comeL [⟨nN, delA hs o, q⟩] (wq q) nN).2.1, (comeL [⟨nN, delA hs o, q⟩] (wq q) nN).2.2 ++ []) = _
  rw [come_some (get_one _ _), List.append_nil, set_one, tidy_one]
  dsimp only
  have : delAll (wq q) (comeQ q (delA hs o)).2.2 = wq (comeQ q (delA hs o)).2.1 := by
    rw [h2]
    conv => lhs; rw [h1]
    exact delAll_wq _ _
  rw [this]
theorem queue_one (hs q : HQ) : queueA (one hs q) nN = keys q := by
  by_cases h : hs = [] ∧ q = []
  · rw [one, if_pos h, h.2]; rfl
  · rw [one, if_neg h]; rfl
theorem hold_one (hs q : HQ) : holdA (one hs q) nN = srt (keys hs) := by
  by_cases h : hs = [] ∧ q = []
  · rw [one, if_pos h, h.1]
    show [] = srt []
    unfold srt
    simp
  · rw [one, if_neg h]; rfl
theorem keys_del {l : HQ} {o : Int} (hn : (keys l).Nodup) : keys (delA l o) = (keys l).erase o := by
  induction l with
  | nil => rfl
  | cons p l ih =>
    unfold delA
    by_cases h : (o == p.1) = true
    · have h' : o = p.1 := by simpa using h
      rw [if_pos h, h']
      show keys l = (p.1 :: keys l).erase p.1
      rw [List.erase_cons_head]
    · have h' : o ≠ p.1 := by simpa using h
      rw [if_neg h]
      show p.1 :: keys (delA l o) = (p.1 :: keys l).erase o
      rw [ih (List.nodup_cons.1 hn).2, List.erase_cons_tail (by simpa using Ne.symm h')]
theorem desc {B : Int → List Int} (h : ∀ o x, x ∈ B o → x < o) {a b : Int} (hr : Rch B a b) : b < a := by
  induction hr with
  | one hx => exact h _ _ hx
  | step hx _ ih => have := h _ _ hx; omega
theorem fits6 {m : Int} (h : 1 ≤ m ∧ m ≤ 6) : fitsB 6 m = false := by rcases six h with rfl | rfl | rfl | rfl | rfl | rfl <;> rfl
theorem join0 {m : Int} (h : 1 ≤ m ∧ m ≤ 6) : joinB 0 m = m := by rcases six h with rfl | rfl | rfl | rfl | rfl | rfl <;> decide
theorem putA_new {α : Type} {l : List (Int × α)} {o : Int} {a : α} (h : o ∉ keys l) : putA l o a = l ++ [(o, a)] := by
  induction l with
  | nil => rfl
  | cons p l ih =>
    have h1 : ¬ (o == p.1) = true := by
      have : o ≠ p.1 := fun e => h (by simp [e])
      simpa using this
    unfold putA
    rw [if_neg h1, ih fun hh => h (List.mem_cons_of_mem _ hh)]; rfl
theorem ask_turn {b : Int} {n k : Nat} {q : HQ} (hk : keys q = up 1 k) {m : Int} (hm : 1 ≤ m ∧ m ≤ 6) (g : Good b n (one [(0, 6)] q) (wq q)) :
    askA (one [(0, 6)] q) (wq q) ((k + 1 : Nat) : Int) nN m = (10, one [(0, 6)] (q ++ [(((k + 1 : Nat) : Int), m)]), wq (q ++ [(((k + 1 : Nat) : Int), m)])) := by
  have ho : ((k + 1 : Nat) : Int) ∉ keys q := fun h => by rw [hk] at h; have := up_mem h; omega
  have hg : getA (wq q) ((k + 1 : Nat) : Int) = none := getA_out (by rw [keys_wq]; exact ho)
  have hh : getA ([(0, 6)] : HQ) ((k + 1 : Nat) : Int) = none := getA_out (by simp [keys]; omega)
  have e1 : one [(0, 6)] q = [⟨nN, [(0, 6)], q⟩] := one_ne (.inl (by simp))
  rw [e1] at g ⊢
  have e2 : ∀ x, one [(0, 6)] (q ++ [x]) = [⟨nN, [(0, 6)], q ++ [x]⟩] := fun x => one_ne (.inl (by simp))
  rw [e2]
  have hc : canB ([(0, 6)] : HQ) ((k + 1 : Nat) : Int) m = false := canB_not.2 ⟨(0, 6), by simp, by simp; omega, fits6 hm⟩
  have hat : atL [⟨nN, [(0, 6)], q⟩] nN = [⟨nN, [(0, 6)], q⟩] := rfl
  have hins : insQ ⟨nN, [(0, 6)], q⟩ ((k + 1 : Nat) : Int) m = q ++ [(((k + 1 : Nat) : Int), m)] := by
    unfold insQ placeN
    dsimp only
    rw [hh]
    dsimp only
    rw [List.take_length, List.drop_length]
  have hput : putA (wq q) ((k + 1 : Nat) : Int) nN = wq (q ++ [(((k + 1 : Nat) : Int), m)]) := by
    rw [putA_new (by rw [keys_wq]; exact ho)]
    simp [wq]
  have ha := WG.at g nN
  rw [hat] at ha
  obtain ⟨s1, s2, s3, s4, _⟩ := stay_pre (m := m) ha (get_one _ _) hg
  dsimp only at s1 s2 s3 s4
  rw [hins, set_one, hput] at s3 s4
  rw [hins, set_one] at s1 s2
  have hd : deadB [⟨nN, [(0, 6)], q ++ [(((k + 1 : Nat) : Int), m)]⟩] (wq (q ++ [(((k + 1 : Nat) : Int), m)])) ((k + 1 : Nat) : Int) = false := by
    refine @decide_eq_false _ (Classical.propDecidable _) fun hr => ?_
    have := desc (fun o x hx => ?_) hr
    · omega
    · rw [behA_iff s1 s2 s3 s4] at hx
      obtain ⟨e, he, i, m', h1, h2⟩ := hx
      simp only [List.mem_singleton] at he
      subst he
      dsimp only at h1 h2
      have hkk : keys (q ++ [(((k + 1 : Nat) : Int), m)]) = up 1 (k + 1) := by
        rw [up_snoc]
        simp only [keys, List.map_append, List.map_cons, List.map_nil] at hk ⊢
        rw [hk, Nat.add_comm k 1]
      have hoi : (keys (q ++ [(((k + 1 : Nat) : Int), m)]))[i]? = some o := by simp only [keys, List.getElem?_map, h1, Option.map_some]
      have hi : i < k + 1 := by
        have := (List.getElem?_eq_some_iff.1 hoi).1
        rw [hkk, up_len] at this; exact this
      rw [hkk, up_get hi] at hoi
      cases hoi
      rcases h2 with h2 | ⟨p, hp, rfl, _⟩
      · rw [List.map_take] at h2
        have h2 : x ∈ (keys (q ++ [(((k + 1 : Nat) : Int), m)])).take i := h2
        rw [hkk] at h2
        have : (up 1 (k + 1)).take i = up 1 i := by
          have := (up_split (List.take_append_drop i (up 1 (k + 1))).symm).1
          rw [this, List.length_take, up_len, Nat.min_eq_left (by omega)]
        rw [this] at h2
        have := up_mem h2
        omega
      · simp only [List.mem_singleton] at hp
        rw [hp]
        show (0 : Int) < _
        omega
  unfold askA
  rw [if_neg (by omega), if_neg (by rw [hg]; simp), hat, get_one]
  dsimp only
  rw [hh]
  have hj : joinB ((none : Option Int).getD 0) m = m := join0 hm
  refine (if_neg (by rintro ⟨h, _⟩; cases h)).trans ((if_neg (by rw [hj, hc]; rintro ⟨h, _⟩; cases h)).trans ?_)
  rw [hj]
  unfold stayA
  rw [hat, get_one]
  dsimp only
  rw [hins, set_one, hput, hd]
  rfl
theorem and255 (x : Int) : ∃ m : Int, (1 ≤ m ∧ m ≤ 6) ∧ W .i64 (1 + ((W .i64 (((BitVec.ofInt (IntKind.bits .i64) x &&& BitVec.ofInt (IntKind.bits .i64) 255).toNat : Int))).tmod 6)) = m := by
  have h : (BitVec.ofInt 64 x &&& BitVec.ofInt 64 255).toNat < 256 := by
    rw [BitVec.toNat_and]
    exact Nat.lt_of_le_of_lt Nat.and_le_right (by decide)
  have h1 : W .i64 (((BitVec.ofInt (IntKind.bits .i64) x &&& BitVec.ofInt (IntKind.bits .i64) 255).toNat : Int)) = ((BitVec.ofInt 64 x &&& BitVec.ofInt 64 255).toNat : Nat) := by
    change W .i64 (((BitVec.ofInt 64 x &&& BitVec.ofInt 64 255).toNat : Int)) = _
    exact W_i64 (by omega)
  rw [h1]
  generalize (BitVec.ofInt 64 x &&& BitVec.ofInt 64 255).toNat = c at h
  have h2 : ((c : Int)).tmod 6 = ((c % 6 : Nat) : Int) := (Int.ofNat_tmod c 6).symm
  rw [h2]
  have := Nat.mod_lt c (show 0 < 6 by decide)
  exact ⟨1 + ((c % 6 : Nat) : Int), by omega, W_i64 (by omega)⟩
abbrev U0 (sc : List V) (n i : Nat) (els : List V) (ms : List (List (V × V))) (lk ws : List (V × V)) : Out := .head 0 (T6_0 sc (n : Int) (i : Int) els ms lk ws)
abbrev U1 (n nx : Nat) (els : List V) (ms : List (List (V × V))) (out : List Int) (lk ws : List (V × V)) : Out := .head 1 (T6_1 (n : Int) (nx : Int) els ms (ints out) lk ws)
abbrev U2 (n nx k : Nat) (els : List V) (ms : List (List (V × V))) (out : List Int) (lk ws : List (V × V)) : Out := .head 2 (T6_2 (n : Int) (nx : Int) (k : Int) els ms (ints out) lk ws)
abbrev U3 (n nx k : Nat) (els : List V) (ms : List (List (V × V))) (out h : List Int) (lk ws : List (V × V)) : Out := .head 3 (T6_3 (n : Int) (nx : Int) (k : Int) els ms (ints out) (ints h) lk ws)
theorem t_ask (sc : List Int) : ∀ (d i : Nat) (q : HQ) (els : List V) (ms : List (List (V × V))) (lk ws : List (V × V)) (ix : Bs → Nat), i + d = 20 → Rep els ms lk ws ix (one [(0, 6)] q) (wq q) → keys q = up 1 i → Good 30 (i + 1) (one [(0, 6)] q) (wq q) →
    ∃ i' q' els' ms' lk' ws' ix', (i' = 20 ∨ sc.length ≤ i') ∧ i' ≤ 20 ∧ Rep els' ms' lk' ws' ix' (one [(0, 6)] q') (wq q') ∧ keys q' = up 1 i' ∧ Good 30 (i' + 1) (one [(0, 6)] q') (wq q') ∧
      ∀ o, Go kcB true 2 fa6 (U0 (ints sc) i' i' els' ms' lk' ws') o → Go kcB true 2 fa6 (U0 (ints sc) i i els ms lk ws) o := by
  intro d
  induction d with
  | zero => intro i q els ms lk ws ix hi r hk g; exact ⟨i, q, els, ms, lk, ws, ix, .inl (by omega), by omega, r, hk, g, fun o ho => ho⟩
  | succ d ih =>
    intro i q els ms lk ws ix hi r hk g
    by_cases hl : i < sc.length
    · obtain ⟨x, hx⟩ : ∃ x, sc[i]? = some x := ⟨_, List.getElem?_eq_getElem hl⟩
      obtain ⟨m, hm, em⟩ := and255 x
      obtain ⟨els', ms', lk', ix', k1, r'⟩ := ask_at r g (by omega) ((i + 1 : Nat) : Int) (by unfold I64; omega) nN m
      have g' := g.ask (o := ((i + 1 : Nat) : Int)) (by omega) nN m
      have ha := ask_turn hk hm g
      rw [ha] at k1 r' g'
      have hk' : keys (q ++ [(((i + 1 : Nat) : Int), m)]) = up 1 (i + 1) := by
        rw [up_snoc]
        simp only [keys, List.map_append, List.map_cons, List.map_nil] at hk ⊢
        rw [hk, Nat.add_comm i 1]
      obtain ⟨i2, q2, els2, ms2, lk2, ws2, ix2, a1, a2, a3, a4, a5, a6⟩ := ih (i + 1) _ els' ms' lk' _ ix' (by omega) r' hk' g'
      refine ⟨i2, q2, els2, ms2, lk2, ws2, ix2, a1, a2, a3, a4, a5, fun o ho => s6_0_run _ _ _ _ _ _ _ ?_ (a6 o ho)⟩
      unfold s6_0
      rw [decide_eq_true (by rw [ints_len]; omega), cond_true, decide_eq_true (by omega), cond_true, gd_of (by simp), toNat_cast, ints_get hx, kI_mk, em, wi i (by omega), icM_of mk20_inj k1]
      dsimp only
      rw [ibne_f rfl, cond_false]
    · exact ⟨i, q, els, ms, lk, ws, ix, .inr (by omega), by omega, r, hk, g, fun o ho => ho⟩
structure TI (n nx : Nat) (h out : List Int) (hs q : HQ) : Prop where
  eo : out = up nx out.length
  q : keys q = up (nx + out.length) (n + 1 - (nx + out.length))
  le : nx + out.length ≤ n + 1
  px : 1 ≤ nx
  hs : (keys hs).Perm (h ++ out)
  lt : ∀ x ∈ h, 0 ≤ x ∧ x < nx
  nd : h.Nodup
theorem TI.nodup {n nx : Nat} {h out : List Int} {hs q : HQ} (t : TI n nx h out hs q) : (keys hs ++ keys q).Nodup := by
  refine (t.hs.append_right _).nodup_iff.2 ?_
  rw [List.nodup_append, List.nodup_append]
  refine ⟨⟨t.nd, by rw [t.eo]; exact up_nodup _ _, fun a ha b hb => ?_⟩, by rw [t.q]; exact up_nodup _ _, fun a ha b hb => ?_⟩
  · rw [t.eo] at hb
    have := (t.lt a ha).2
    have := (up_mem hb).1
    omega
  · rw [t.q] at hb
    have h1 := (up_mem hb).1
    rcases List.mem_append.1 ha with ha | ha
    · have := (t.lt a ha).2; omega
    · rw [t.eo] at ha; have := (up_mem ha).2; omega
theorem TI.step {n nx : Nat} {o : Int} {h out : List Int} {hs q : HQ} (t : TI n nx (o :: h) out hs q) :
    TI n nx h (out ++ (comeQ q (delA hs o)).2.2) (comeQ q (delA hs o)).1 (comeQ q (delA hs o)).2.1 := by
  have hn := t.nodup
  have hsub : (keys (delA hs o) ++ keys q).Nodup := hn.sublist (List.Sublist.append ((delA_sub hs o).map _) (List.Sublist.refl _))
  obtain ⟨pre, h1, h2, h3⟩ := comeQ_split q (delA hs o) hsub
  have hkq : up (nx + out.length) (n + 1 - (nx + out.length)) = keys pre ++ keys (comeQ q (delA hs o)).2.1 := by
    rw [← t.q]
    conv => lhs; rw [h1]
    simp [keys]
  obtain ⟨u1, u2, u3⟩ := up_split hkq
  have hpl : (out ++ keys pre).length = out.length + (keys pre).length := List.length_append
  have hle := t.le
  refine ⟨?_, ?_, by rw [h2, hpl]; omega, t.px, ?_, fun x hx => t.lt x (by simp [hx]), (List.nodup_cons.1 t.nd).2⟩
  · rw [h2, hpl]
    conv => lhs; rw [t.eo, u1]
    unfold up
    rw [← List.map_append, List.range'_append_1]
  · rw [h2, hpl, u2, Nat.add_assoc]
    congr 1
    omega
  · rw [h3, h2, keys_del (List.nodup_append.1 hn).1, ← List.append_assoc]
    refine List.Perm.append_right _ ?_
    have := t.hs.erase o
    rwa [List.cons_append, List.erase_cons_head] at this
theorem t_drop (n nx : Nat) (hn : n ≤ 20) (hx : nx ≤ 21) (h : List Int) (hl : h.length ≤ 100) : ∀ (r : List Int) (k : Nat) (out : List Int) (hs q : HQ) (els : List V) (ms : List (List (V × V))) (lk ws : List (V × V)) (ix : Bs → Nat), h.drop k = r → k ≤ h.length →
    TI n nx r out hs q → Rep els ms lk ws ix (one hs q) (wq q) → Good 30 21 (one hs q) (wq q) →
    ∃ out' hs' q' els' ms' lk' ws' ix', TI n nx [] out' hs' q' ∧ Rep els' ms' lk' ws' ix' (one hs' q') (wq q') ∧ Good 30 21 (one hs' q') (wq q') ∧
      ∀ o, Go kcB true 2 fa6 (U1 n nx els' ms' out' lk' ws') o → Go kcB true 2 fa6 (U3 n nx k els ms out h lk ws) o
  | [], k, out, hs, q, els, ms, lk, ws, ix, hd, hk, t, r, g => by
    refine ⟨out, hs, q, els, ms, lk, ws, ix, t, r, g, fun o ho => s6_3_run _ _ _ _ _ _ _ _ _ ?_ ho⟩
    have := List.drop_eq_nil_iff.1 hd
    unfold s6_3
    rw [decide_eq_false (by rw [ints_len]; omega), cond_false]
  | c :: r', k, out, hs, q, els, ms, lk, ws, ix, hd, hk, t, r, g => by
    obtain ⟨h1, h2, h3⟩ := drop_cons hd
    have ho : c ∈ keys hs := t.hs.mem_iff.2 (by simp)
    obtain ⟨els', ms', lk', ix', k1, r2⟩ := drop_at r g (by omega) c
    have g2 := Good.drop g c
    rw [drop_one ho t.nodup] at k1 r2 g2
    have t2 := t.step
    obtain ⟨out2, hs2, q2, els2, ms2, lk2, ws2, ix2, a1, a2, a3, a4⟩ := t_drop n nx hn hx h hl r' (k + 1) _ _ _ els' ms' lk' _ ix' h2 (by omega) t2 r2 g2
    refine ⟨out2, hs2, q2, els2, ms2, lk2, ws2, ix2, a1, a2, a3, fun o ho => s6_3_run _ _ _ _ _ _ _ _ _ ?_ (a4 o ho)⟩
    have hle := t2.le
    unfold s6_3
    rw [decide_eq_true (by rw [ints_len]; omega), cond_true, gd_of (by simp), gd_of (decide_eq_true (by rw [ints_len]; omega)), toNat_cast, ints_get h1, kI_mk, icM_of mk18_inj k1]
    dsimp only
    rw [gd_of (wfl1 _), gd_of (decide_eq_true (by rw [ints_len, ints_len]; rw [List.length_append] at hle; omega)), wi k (by omega)]
    have : ints out ++ ints (comeQ q (delA hs c)).2.2 = ints (out ++ (comeQ q (delA hs c)).2.2) := by simp [ints]
    rw [this]
theorem t_out (n : Nat) (out : List Int) (hs q : HQ) (hl : out.length ≤ 30) (els : List V) (ms : List (List (V × V))) (lk ws : List (V × V)) (ix : Bs → Nat) (r : Rep els ms lk ws ix (one hs q) (wq q)) (g : Good 30 21 (one hs q) (wq q)) (nx0 : Nat) (hout : out = up nx0 out.length) (hx : nx0 ≤ 30) :
    ∀ (d k : Nat), k + d = out.length → ∀ o, Go kcB true 2 fa6 (U3 n (nx0 + out.length) 0 els ms [] (srt (keys hs)) lk ws) o → Go kcB true 2 fa6 (U2 n (nx0 + k) k els ms out lk ws) o := by
  intro d
  induction d with
  | zero =>
    intro k hk o ho
    have hk : k = out.length := by omega
    subst hk
    have k1 := holders_at r g (by omega) nN
    rw [hold_one] at k1
    refine s6_2_run _ _ _ _ _ _ _ _ ?_ ho
    unfold s6_2
    rw [decide_eq_false (by rw [ints_len]; omega), cond_false, icM_of mk11_inj k1]
    rfl
  | succ d ih =>
    intro k hk o ho
    have hg : out[k]? = some ((nx0 + k : Nat) : Int) := by rw [hout]; exact up_get (by omega)
    refine s6_2_run _ _ _ _ _ _ _ _ ?_ (ih (k + 1) (by omega) o ho)
    unfold s6_2
    rw [decide_eq_true (by rw [ints_len]; omega), cond_true, gd_of (by simp), gd_of (decide_eq_true (by rw [ints_len]; omega)), toNat_cast, ints_get hg, kI_mk, ibne_f rfl, cond_false, wi _ (by omega), wi k (by omega)]
    rfl
theorem t_rounds (n : Nat) (hn : n ≤ 20) : ∀ (d nx : Nat) (out : List Int) (hs q : HQ) (els : List V) (ms : List (List (V × V))) (lk ws : List (V × V)) (ix : Bs → Nat), n + 1 - nx ≤ d →
    TI n nx [] out hs q → Rep els ms lk ws ix (one hs q) (wq q) → Good 30 21 (one hs q) (wq q) →
    ∃ m, Go kcB true 2 fa6 (U1 n nx els ms out lk ws) (.doneM (.bool true) m) := by
  intro d
  induction d with
  | zero =>
    intro nx out hs q els ms lk ws ix hd t r g
    have := t.le
    have k1 := queue_at r g (by omega) nN
    have hq : keys q = [] := by rw [t.q, show n + 1 - (nx + out.length) = 0 by omega]; rfl
    rw [queue_one, hq] at k1
    apply Exists.intro
    refine s6_1_run _ _ _ _ _ _ _ ?_ (.refl _)
    unfold s6_1
    rw [decide_eq_false (by omega), cond_false, icM_of mk12_inj k1]
    dsimp only
    rw [show (((ints []).length : Int) == 0) = true from rfl, cond_true, pcK_of fixed_ok, kB_mk]
  | succ d ih =>
    intro nx out hs q els ms lk ws ix hd t r g
    have hle := t.le
    by_cases hx : nx ≤ n
    · have hne : out ≠ [] := by
        intro h0
        have hs0 : hs = [] := by
          have := t.hs.length_eq
          rw [h0] at this
          simpa using this
        have hql : (keys q).length = n + 1 - nx := by rw [t.q, up_len, h0]; rfl
        cases hq : q with
        | nil => rw [hq] at hql; simp at hql; omega
        | cons p q' =>
          have := g.first ⟨nN, hs, q⟩ (by rw [one_ne (.inr (by rw [hq]; simp))]; simp) (fun f => f) p q' hq
          dsimp only at this
          rw [hs0, canB_nil] at this
          cases this
      have hpos := List.length_pos_iff.2 hne
      have hperm : (srt (keys hs)).Perm (keys hs) := List.mergeSort_perm _ _
      have t2 : TI n (nx + out.length) (srt (keys hs)) [] hs q := by
        refine ⟨rfl, by simpa using t.q, by simpa using t.le, by have := t.px; omega, by rw [List.append_nil]; exact hperm.symm, fun x hx => ?_, ?_⟩
        · have hx := (hperm.trans t.hs).mem_iff.1 hx
          rw [List.nil_append, t.eo] at hx
          have := up_mem hx
          omega
        · refine (hperm.trans t.hs).nodup_iff.2 ?_
          rw [List.nil_append, t.eo]; exact up_nodup _ _
      have hsl : (srt (keys hs)).length = out.length := by rw [(hperm.trans t.hs).length_eq]; simp
      obtain ⟨out2, hs2, q2, els2, ms2, lk2, ws2, ix2, a1, a2, a3, a4⟩ := t_drop n (nx + out.length) hn (by omega) (srt (keys hs)) (by omega) (srt (keys hs)) 0 [] hs q els ms lk ws ix rfl (by omega) t2 r g
      obtain ⟨m, c⟩ := ih (nx + out.length) out2 hs2 q2 els2 ms2 lk2 ws2 ix2 (by omega) a1 a2 a3
      have c2 := t_out n out hs q (by omega) els ms lk ws ix r g nx t.eo (by omega) out.length 0 (by omega) _ (a4 _ c)
      refine ⟨m, s6_1_run _ _ _ _ _ _ _ ?_ c2⟩
      unfold s6_1
      rw [decide_eq_true (by omega), cond_true, ibeq_f (by rw [ints_len]; omega), cond_false]; rfl
    · have k1 := queue_at r g (by omega) nN
      have hq : keys q = [] := by rw [t.q, show n + 1 - (nx + out.length) = 0 by omega]; rfl
      rw [queue_one, hq] at k1
      apply Exists.intro
      refine s6_1_run _ _ _ _ _ _ _ ?_ (.refl _)
      unfold s6_1
      rw [decide_eq_false (by omega), cond_false, icM_of mk12_inj k1]
      dsimp only
      rw [show (((ints []).length : Int) == 0) = true from rfl, cond_true, pcK_of fixed_ok, kB_mk]
theorem f0 : askA [] [] 0 nN 6 = (0, one [(0, 6)] [], wq []) := by kernel_rfl
theorem plain_is (sc : List Int) : plainL [.sl (ints sc)] = true := by
  have : ∀ l : List Int, plainL (ints l) = true := by
    intro l
    induction l with
    | nil => rfl
    | cons o l ih =>
      show plainL (iV o :: ints l) = true
      unfold plainL
      rw [ih]
      rfl
  simp only [plainL, V.plain, this, Bool.and_true]
theorem lockTurn_ok (sc : List Int) : pcW cfgB 6 [.sl (ints sc)] = some (.bool true) := by
  obtain ⟨els, ms, lk, ix, k1, r⟩ := ask_at (ix := fun _ => 0) (b := 30) Rep.mt (Good.mt (by decide)) (by omega) 0 (by decide) nN 6
  have g := (Good.mt (b := 30) (by decide)).ask (o := 0) (by decide) nN 6
  rw [f0] at k1 r g
  obtain ⟨n, q, els', ms', lk', ws', ix', h1, h2, r', hk, g', q0⟩ := t_ask sc 20 0 [] els ms lk _ ix rfl r rfl g
  obtain ⟨els2, ms2, lk2, ix2, k2, r2⟩ := drop_at r' g' (by omega) 0
  have g2 := Good.drop g' 0
  have t0 : TI n 1 [0] [] [(0, 6)] q := ⟨rfl, by simpa using hk, by simp, by omega, by simp [keys], by simp, by simp⟩
  have hd := drop_one (o := 0) (hs := [(0, 6)]) (q := q) (by simp [keys]) t0.nodup
  rw [hd] at k2 r2 g2
  have t1 := t0.step
  obtain ⟨m, c⟩ := t_rounds n h2 30 1 _ _ _ els2 ms2 lk2 _ ix2 (by omega) t1 r2 (g2.more (by omega))
  have c2 := q0 (.doneM (.bool true) m) (s6_0_run _ _ _ _ _ _ _ (by
    unfold s6_0
    by_cases hl : n < sc.length
    · rw [decide_eq_true (by rw [ints_len]; omega), cond_true, decide_eq_false (by omega), cond_false, icM_of mk18_inj k2]
      rfl
    · rw [decide_eq_false (by rw [ints_len]; omega), cond_false, icM_of mk18_inj k2]
      rfl) c)
  refine law_run rfl fa6_eq rfl rfl ?_ rfl ((e6_eq _).trans ?_) c2
  · unfold arsOk
    rw [plain_is]; rfl
  · unfold e6
    rw [icM_of mk20_inj k1]
    rfl
end Go.Proofs.Ytpkeiaeaonmacaa
namespace Go.Proofs.Ytpkeiaeaonmacaa
open Go Go.Lite Go.ChangeShapes Go.WideShapes Go.ChangeAt Go.RowKit
set_option linter.unusedVariables false
set_option linter.unnecessarySimpa false
set_option maxRecDepth 100000
theorem hok : CfgOK cfgB := hokB
theorem tInt {n : Nat} {vs : List V} (h : TyC Try.prog n 3 vs) : ∃ m, vs = [.int .i64 m] ∧ (Lit.int .i64 m).wf = true := by
  cases n with
  | zero => cases h
  | succ n => unfold TyC at h; rw [Try.underlying3] at h; exact h
theorem aInt {n : Nat} {x : V} (h : ArgT Try.prog n 3 x) : ∃ m, x = .int .i64 m ∧ (Lit.int .i64 m).wf = true := by
  have h2 := h.leaf (by rw [Try.underlying3]; rfl)
  obtain ⟨m, e, w⟩ := tInt h.1
  exact ⟨m, by rw [h2] at e; simpa using e, w⟩
theorem aInt' {n : Nat} {x : V} (h : ArgT Try.prog n 3 x) : ∃ m : Int, x = iV m ∧ (fun _ => True) m := let ⟨m, e, _⟩ := aInt h; ⟨m, e, trivial⟩
theorem lInts : ∀ {l : List V}, (∀ x ∈ l, ∃ m : Int, x = (iV) m ∧ (fun _ => True) m) → ∃ ms : List Int, l = ms.map (iV) ∧ ∀ m ∈ ms, (fun _ => True) m
  | [], _ => ⟨[], rfl, by simp⟩
  | x :: l, h => by
    obtain ⟨a, rfl, ha⟩ := h x (by simp)
    obtain ⟨ms, rfl, hb⟩ := lInts (fun y hy => h y (by simp [hy]) : ∀ y ∈ l, _)
    refine ⟨a :: ms, rfl, fun m hm => ?_⟩
    rcases List.mem_cons.1 hm with rfl | hm
    · exact ha
    · exact hb m hm
theorem tInts {n : Nat} {vs : List V} (h : TyC Try.prog n 28 vs) : ∃ ms : List Int, vs = [.sl (ms.map (iV))] ∧ ms.length ≤ maxLen ∧ ∀ m ∈ ms, (fun _ => True) m := by
  cases n with
  | zero => cases h
  | succ n =>
    unfold TyC at h
    rw [Try.underlying28] at h
    obtain ⟨l, rfl, hl, hx⟩ := h
    obtain ⟨ms, rfl, hm⟩ := lInts fun x hm => aInt' (n := n) (hx x hm)
    exact ⟨ms, rfl, by simpa using hl, hm⟩
theorem aInts {n : Nat} {x : V} (h : ArgT Try.prog n 28 x) : ∃ ms : List Int, x = .sl (ms.map (iV)) ∧ ms.length ≤ maxLen ∧ ∀ m ∈ ms, (fun _ => True) m := by
  have h2 := h.leaf (by rw [Try.underlying28]; rfl)
  obtain ⟨m, e, w⟩ := tInts h.1
  exact ⟨m, by rw [h2] at e; simpa using e, w⟩
theorem own : ownKnob Try.prog.godebug = none := by kernel_rfl
theorem args1 {P : Program} {n : Nat} {t : TypeId} {xs : List V} (h : ArgsT P n [t] xs) : ∃ a, xs = [a] ∧ ArgT P n t a := by
  match xs, h with
  | [a], h => exact ⟨a, rfl, h.1⟩
theorem args2 {P : Program} {n : Nat} {t t' : TypeId} {xs : List V} (h : ArgsT P n [t, t'] xs) : ∃ a b, xs = [a, b] ∧ ArgT P n t a ∧ ArgT P n t' b := by
  match xs, h with
  | [a, b], h => exact ⟨a, b, rfl, h.1, h.2.1⟩
theorem len1 {α : Type} {l : List α} (h : l.length = 1) : ∃ a, l = [a] := by
  match l, h with
  | [a], _ => exact ⟨a, rfl⟩
theorem len2 {α : Type} {l : List α} (h : l.length = 2) : ∃ a b, l = [a, b] := by
  match l, h with
  | [a, b], _ => exact ⟨a, b, rfl⟩
theorem lockTurn_args (xs : List V) (h : ArgsT cfgB.P 6 Try.f6.params.toList xs) : pcW cfgB 6 xs = some (.bool true) := by
  rw [Try.params6] at h
  obtain ⟨a, rfl, ha⟩ := args1 h
  obtain ⟨p, rfl, _⟩ := aInts ha
  exact lockTurn_ok p
set_option maxRecDepth 100000 in
theorem lockTurn_lifted (os : Os) (started : os.Started) (H : Type) (enc : TypeId × Value → H) :
    ReturnsInHanded {} Try.checked os 6 .any (Rows.lockTurnSpec.pre6 enc Try.prog Try.f6 Rows.lockTurnRow.domain false) (Rows.lockTurnSpec.post enc Try.prog Try.f6 false true false false) := by
  refine returnsInHanded_of_change (C := Try.checked) own started (by kernel_rfl) Try.func6
    (ChangeSpec.witness6 (enc := enc) (C := Try.checked) false ⟨#[], #[.slice none 0 0], []⟩ 8 (by kernel_rfl) (by kernel_rfl) (by kernel_rfl) (by kernel_rfl)) ?_
  intro W base args ds gs before hval hW _ _
  exact law_contract hok 6 (by kernel_rfl) (by kernel_rfl) (s := Rows.lockTurnSpec) rfl (by kernel_rfl) (tb := 4) (by kernel_rfl) Try.underlying4
    (fun H ds h => by
      obtain ⟨a, rfl⟩ := len1 (h.trans (by rw [Try.params6]; rfl))
      rfl) lockTurn_args W base args ds gs before hval hW
theorem lockTurn_holds : Rows.LockTurnSaid :=
  OpenClaim.holds_of_wide 6 Try.f6 rfl rfl rfl rfl rfl rfl rfl ⟨rfl, rfl, rfl, rfl, rfl⟩ rfl rfl rfl rfl rfl (by kernel_rfl) Try.func6 (by kernel_rfl)
    (of_decide_eq_true (by kernel_rfl)) (by unfold Func.isWrapper; first | (rw [if_pos (by decide +kernel)]; kernel_rfl) | (rw [if_neg (by decide +kernel)]; exact ⟨rfl, rfl⟩))
    (fun os started H enc _ => lockTurn_lifted os started H enc)
end Go.Proofs.Ytpkeiaeaonmacaa
