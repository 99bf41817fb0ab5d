/-
  A law of layer 9 (lock): whatever the input, it returns true and leaves its arguments as0 they were. No condition.
-/
import Derived.Test.YtpkeiaeaonmacaaZ6
import Derived.Test.YtpkeiaeaonmacaaRows
import Derived.WalkKit
import Derived.ProofKit
import Derived.OpenShut
import Derived.KernelRfl
import Derived.Handed
import Derived.JoinedOf
import Derived.JoinedCond
namespace Go.Proofs.Ytpkeiaeaonmacaa
open Go Go.Lite
set_option maxRecDepth 100000
set_option linter.unusedVariables false
noncomputable def fa4 : FA := ⟨1, 122, [.tmp 2], [4],
 (.seq
 (.ops false [o1 2 (.assign (.const (.bool false))) 4])
 (.seq
 (.ops false [o1 17 (.call ⟨(.value (.func 9)), #[], #[]⟩) 23, asg 3 17 23])
 (.seq
 (.seq
 (.ops false [o1 4 (.assign (.const (.int .i64 (0)))) 3])
 (.block 0
 (.loop ([1] ++ List.range' 5 117)
 (.seq
 (.seq
 (.ops false [mv 18 4 3, mv 19 0 22, o1 20 (.call ⟨(.builtin .len), #[(t' 19)], #[22]⟩) 3, o1 21 (.binOp .lss 3 (t' 18) (t' 20) 3) 4, mv 22 21 4, o2 23 (.move (t' 4)) 3 22 true, o2 24 (.binOp .lss 3 (t' 23) (.const (.int .i64 (60))) 3) 4 22 true, o1 25 (.pick (t' 22) (t' 24) (.const (.bool false))) 4])
 (.cond (t' 25)
 (.skip)
 (.exit 0)))
 (.seq
 (.block 1
 (.seq
 (.seq
 (.ops false [mv 28 3 23, o1 29 (.binOp .eql 23 (t' 28) (.const (.pointer none)) 23) 4])
 (.cond (t' 29)
 (.seq
 (.ops false [o1 2 (.assign (.const (.bool false))) 4])
 (.ret))
 (.skip)))
 (.seq
 (.ops false [mv 30 3 23, mv 31 0 22, mv 32 4 3, o1 33 (.indexAddr 22 (t' 31) (t' 32)) 0, o1 34 (.load 27 (t' 33)) 27, o1 35 (.call ⟨(.value (.func 10)), #[(t' 30), (t' 34)], #[23, 27]⟩) 0])
 (.seq
 (.ops false [o1 5 (.assign (.const (.int .i64 (0)))) 3])
 (.block 2
 (.loop ([1] ++ List.range' 6 116)
 (.seq
 (.seq
 (.ops false [mv 36 5 3, o1 37 (.binOp .lss 3 (t' 36) (.const (.int .i64 (8))) 3) 4])
 (.cond (t' 37)
 (.skip)
 (.exit 2)))
 (.seq
 (.block 3
 (.seq
 (.ops false [o1 40 (.makeSlice 39 (.const (.int .i64 (8))) (.const (.int .i64 (8)))) 39, asg 6 40 39])
 (.seq
 (.ops false [mv 41 3 23, mv 42 5 3, o1 43 (.call ⟨(.value (.func 16)), #[(t' 41), (t' 42)], #[23, 3]⟩) 28, asg 7 43 28])
 (.seq
 (.ops false [o1 8 (.assign (.const (.int .i64 (0)))) 3])
 (.block 4
 (.loop ([1] ++ List.range' 9 113)
 (.seq
 (.seq
 (.ops false [mv 44 8 3, mv 45 7 28, o1 46 (.call ⟨(.builtin .len), #[(t' 45)], #[28]⟩) 3, o1 47 (.binOp .lss 3 (t' 44) (t' 46) 3) 4, mv 48 47 4, o2 49 (.move (t' 8)) 3 48 true, o2 50 (.binOp .lss 3 (t' 49) (.const (.int .i64 (200))) 3) 4 48 true, o1 51 (.pick (t' 48) (t' 50) (.const (.bool false))) 4])
 (.cond (t' 51)
 (.skip)
 (.exit 4)))
 (.seq
 (.block 5
 (.seq
 (.ops false [mv 54 7 28, mv 55 8 3, o1 56 (.indexAddr 28 (t' 54) (t' 55)) 0, o1 57 (.load 3 (t' 56)) 3, asg 9 57 3])
 (.seq
 (.seq
 (.ops false [mv 58 9 3, mv 59 5 3, o1 60 (.binOp .eql 3 (t' 58) (t' 59) 3) 4, mv 61 60 4, o2 62 (.move (t' 9)) 3 61 false, o2 63 (.binOp .lss 3 (t' 62) (.const (.int .i64 (0))) 3) 4 61 false, o1 64 (.pick (t' 61) (.const (.bool true)) (t' 63)) 4, mv 65 64 4, o2 66 (.move (t' 9)) 3 65 false, o2 67 (.binOp .gtr 3 (t' 66) (.const (.int .i64 (7))) 3) 4 65 false, o1 68 (.pick (t' 65) (.const (.bool true)) (t' 67)) 4])
 (.cond (t' 68)
 (.seq
 (.ops false [o1 2 (.assign (.const (.bool false))) 4])
 (.ret))
 (.skip)))
 (.seq
 (.ops false [mv 69 6 39, mv 70 9 3, o1 71 (.indexAddr 39 (t' 69) (t' 70)) 0, o1 72 (.load 4 (t' 71)) 4, o1 73 (.unOp .not 4 (t' 72)) 4])
 (.cond (t' 73)
 (.seq
 (.ops false [mv 74 6 39, mv 75 9 3, o1 76 (.indexAddr 39 (t' 74) (t' 75)) 0, o0 (.store 4 (t' 76) (.const (.bool true))) 0])
 (.ops false [mv 77 7 28, mv 78 3 23, mv 79 9 3, o1 80 (.call ⟨(.value (.func 16)), #[(t' 78), (t' 79)], #[23, 3]⟩) 28, o1 81 (.call ⟨(.builtin .append), #[(t' 77), (t' 80)], #[28, 28]⟩) 28, asg 7 81 28]))
 (.skip))))))
 (.ops false [mv 52 8 3, o1 53 (.binOp .add 3 (t' 52) (.const (.int .i64 (1))) 3) 3, asg 8 53 3])))))))))
 (.ops false [mv 38 5 3, o1 39 (.binOp .add 3 (t' 38) (.const (.int .i64 (1))) 3) 3, asg 5 39 3])))))))))
 (.ops false [mv 26 4 3, o1 27 (.binOp .add 3 (t' 26) (.const (.int .i64 (1))) 3) 3, asg 4 27 3]))))))
 (.seq
 (.seq
 (.ops false [mv 82 3 23, o1 83 (.binOp .eql 23 (t' 82) (.const (.pointer none)) 23) 4])
 (.cond (t' 83)
 (.seq
 (.ops false [o1 2 (.assign (.const (.bool false))) 4])
 (.ret))
 (.skip)))
 (.seq
 (.seq
 (.ops false [o1 10 (.assign (.const (.int .i64 (0)))) 3])
 (.block 6
 (.loop ([0, 1] ++ List.range' 4 6 ++ List.range' 11 111)
 (.seq
 (.seq
 (.ops false [mv 84 10 3, o1 85 (.binOp .lss 3 (t' 84) (.const (.int .i64 (8))) 3) 4])
 (.cond (t' 85)
 (.skip)
 (.exit 6)))
 (.seq
 (.block 7
 (.seq
 (.ops false [o1 11 (.assign (.const (.int .i64 (0)))) 3])
 (.block 8
 (.loop ([0, 1] ++ List.range' 4 6 ++ List.range' 12 110)
 (.seq
 (.seq
 (.ops false [mv 88 11 3, o1 89 (.binOp .lss 3 (t' 88) (.const (.int .i64 (8))) 3) 4])
 (.cond (t' 89)
 (.skip)
 (.exit 8)))
 (.seq
 (.block 9
 (.seq
 (.ops false [mv 93 3 23, mv 94 11 3, o1 95 (.call ⟨(.value (.func 15)), #[(t' 93), (t' 94)], #[23, 3]⟩) 34, mv 92 95 34, o1 96 (.extract (t' 92) 0) 33, o1 97 (.extract (t' 92) 1) 4, o1 12 (.alloc 33) 0, o0 (.store 33 (t' 12) (t' 96)) 0, asg 13 97 4])
 (.seq
 (.ops false [mv 98 13 4, o1 99 (.unOp .not 4 (t' 98)) 4])
 (.cond (t' 99)
 (.ops false [mv 100 3 23, mv 101 11 3, o1 102 (.call ⟨(.value (.func 18)), #[(t' 100), (t' 101)], #[23, 3]⟩) 28])
 (.skip)))))
 (.ops false [mv 90 11 3, o1 91 (.binOp .add 3 (t' 90) (.const (.int .i64 (1))) 3) 3, asg 11 91 3])))))))
 (.ops false [mv 86 10 3, o1 87 (.binOp .add 3 (t' 86) (.const (.int .i64 (1))) 3) 3, asg 10 87 3]))))))
 (.seq
 (.seq
 (.ops false [o1 14 (.assign (.const (.int .i64 (0)))) 3])
 (.block 10
 (.loop ([0, 1] ++ List.range' 4 10 ++ List.range' 15 107)
 (.seq
 (.seq
 (.ops false [mv 103 14 3, o1 104 (.binOp .lss 3 (t' 103) (.const (.int .i64 (8))) 3) 4])
 (.cond (t' 104)
 (.skip)
 (.exit 10)))
 (.seq
 (.block 11
 (.seq
 (.ops false [mv 108 3 23, mv 109 14 3, o1 110 (.call ⟨(.value (.func 15)), #[(t' 108), (t' 109)], #[23, 3]⟩) 34, mv 107 110 34, o1 111 (.extract (t' 107) 0) 33, o1 112 (.extract (t' 107) 1) 4, o1 15 (.alloc 33) 0, o0 (.store 33 (t' 15) (t' 111)) 0, asg 16 112 4])
 (.seq
 (.ops false [mv 113 16 4, mv 114 113 4, o2 115 (.move (t' 3)) 23 114 false, o2 116 (.move (t' 14)) 3 114 false, o2 117 (.call ⟨(.value (.func 19)), #[(t' 115), (t' 116)], #[23, 3]⟩) 40 114 false, o2 118 (.call ⟨(.builtin .len), #[(t' 117)], #[40]⟩) 3 114 false, o2 119 (.binOp .neq 3 (t' 118) (.const (.int .i64 (0))) 3) 4 114 false, o1 120 (.pick (t' 114) (.const (.bool true)) (t' 119)) 4])
 (.cond (t' 120)
 (.seq
 (.ops false [o1 2 (.assign (.const (.bool false))) 4])
 (.ret))
 (.skip)))))
 (.ops false [mv 105 14 3, o1 106 (.binOp .add 3 (t' 105) (.const (.int .i64 (1))) 3) 3, asg 14 106 3]))))))
 (.seq
 (.ops false [o1 121 (.call ⟨(.value (.func 17)), #[], #[]⟩) 4, asg 2 121 4])
 (.ret))))))))⟩
theorem fa4_eq : fnA cfgB.P (cfgB.rxf 4) 4 = some fa4 := by kernel_rfl
def T4_0 (x0 : List V) (x4 : Int) (m0 : List V) (m1 : List (List (V × V))) (m3 : List (V × V)) (m4 : List (V × V)) : S := ⟨[V.sl x0, V.junk, V.bool false, V.ptr 2 0 0, V.int .i64 x4] ++ (JU 117), (tm m0 m1 m3 m4)⟩
def T4_1 (x0 : List V) (x4 : Int) (x5 : Int) (m0 : List V) (m1 : List (List (V × V))) (m3 : List (V × V)) (m4 : List (V × V)) : S := ⟨[V.sl x0, V.junk, V.bool false, V.ptr 2 0 0, V.int .i64 x4, V.int .i64 x5] ++ (JU 116), (tm m0 m1 m3 m4)⟩
def T4_3 (x10 : Int) (m0 : List V) (m1 : List (List (V × V))) (m3 : List (V × V)) (m4 : List (V × V)) : S := ⟨[V.junk, V.junk, V.bool false, V.ptr 2 0 0] ++ (JU 6) ++ [V.int .i64 x10] ++ (JU 111), (tm m0 m1 m3 m4)⟩
def T4_2 (x0 : List V) (x4 : Int) (x5 : Int) (x8 : Int) (m0 : List V) (m1 : List (List (V × V))) (m3 : List V) (m4 : List V) (m5 : List (V × V)) (m6 : List (V × V)) : S := ⟨[V.sl x0, V.junk, V.bool false, V.ptr 2 0 0, V.int .i64 x4, V.int .i64 x5, V.own 3, V.own 4, V.int .i64 x8] ++ (JU 113), [O.arena 61 m0, O.marena 58 m1, O.box 50 (V.agg [V.mp 5, V.mp 6]) false, O.row 4 m3 0, O.row 3 m4 0, O.map m5, O.map m6]⟩
def T4_4 (x10 : Int) (x11 : Int) (m0 : List V) (m1 : List (List (V × V))) (m3 : List (V × V)) (m4 : List (V × V)) : S := ⟨[V.junk, V.junk, V.bool false, V.ptr 2 0 0] ++ (JU 6) ++ [V.int .i64 x10, V.int .i64 x11] ++ (JU 110), (tm m0 m1 m3 m4)⟩
def T4_5 (x14 : Int) (m0 : List V) (m1 : List (List (V × V))) (m3 : List (V × V)) (m4 : List (V × V)) : S := ⟨[V.junk, V.junk, V.bool false, V.ptr 2 0 0] ++ (JU 10) ++ [V.int .i64 x14] ++ (JU 107), (tm m0 m1 m3 m4)⟩
noncomputable def e4 (sc : List V) : R :=
  some (.head 0 (T4_0 sc 0 [] [] [] []))
theorem e4_eq (sc : List V) : enterK kcB true fa4 [V.sl sc] [O.arena 61 [], O.marena 58 []] = e4 sc := by kernel_rfl
noncomputable def s4_0 (x0 : List V) (x4 : Int) (m0 : List V) (m1 : List (List (V × V))) (m3 : List (V × V)) (m4 : List (V × V)) : R :=
  cond (decide (x4 < (x0.length : Int)))
 (cond (decide (x4 < 60))
 (gd (decide (0 ≤ x4)) <|
  idxK x0 x4.toNat fun v =>
  d27 v fun kind0 owner name mode =>
  gd (decide (0 ≤ (if 2 < (name.length : Int) then 2 else (name.length : Int)))) <|
  gd (decide ((if 2 < (name.length : Int) then 2 else (name.length : Int)).toNat ≤ name.length)) <|
  cond (kind0 == (0 : Int))
 (icM cfgB ⟨true, false⟩ mk20 20 [V.ptr 2 0 0, V.int .i64 (W .i64 (((BitVec.ofInt (IntKind.bits .i64) owner &&& BitVec.ofInt (IntKind.bits .i64) 7).toNat : Int))), V.str (name.take ((if 2 < (name.length : Int) then 2 else (name.length : Int)).toNat)), V.int .i64 mode] (tm m0 m1 m3 m4) fun L =>
  some (.head 1 (T4_1 x0 x4 0 L.2.1 L.2.2.1 L.2.2.2.1 L.2.2.2.2)))
 (cond (kind0 == (1 : Int))
 (icM cfgB ⟨true, false⟩ mk24 24 [V.ptr 2 0 0, V.int .i64 (W .i64 (((BitVec.ofInt (IntKind.bits .i64) owner &&& BitVec.ofInt (IntKind.bits .i64) 7).toNat : Int))), V.str (name.take ((if 2 < (name.length : Int) then 2 else (name.length : Int)).toNat))] (tm m0 m1 m3 m4) fun L_1 =>
  some (.head 1 (T4_1 x0 x4 0 L_1.2.1 L_1.2.2.1 L_1.2.2.2.1 L_1.2.2.2.2.1)))
 (icM cfgB ⟨true, false⟩ mk18 18 [V.ptr 2 0 0, V.int .i64 (W .i64 (((BitVec.ofInt (IntKind.bits .i64) owner &&& BitVec.ofInt (IntKind.bits .i64) 7).toNat : Int)))] (tm m0 m1 m3 m4) fun L_2 =>
  some (.head 1 (T4_1 x0 x4 0 L_2.1 L_2.2.1 L_2.2.2.1 L_2.2.2.2.1)))))
 (some (.head 3 (T4_3 0 m0 m1 m3 m4))))
 (some (.head 3 (T4_3 0 m0 m1 m3 m4)))
theorem s4_0_eq (x0 : List V) (x4 : Int) (m0 : List V) (m1 : List (List (V × V))) (m3 : List (V × V)) (m4 : List (V × V)) : goK kcB true 2 fa4 0 (T4_0 x0 x4 m0 m1 m3 m4) = s4_0 x0 x4 m0 m1 m3 m4 := by kernel_rfl
theorem s4_0_run (x0 : List V) (x4 : Int) (m0 : List V) (m1 : List (List (V × V))) (m3 : List (V × V)) (m4 : List (V × V)) {o o' : Out} (h : s4_0 x0 x4 m0 m1 m3 m4 = some o) (hg : Go kcB true 2 fa4 o o') : Go kcB true 2 fa4 (.head 0 (T4_0 x0 x4 m0 m1 m3 m4)) o' := .step ((s4_0_eq x0 x4 m0 m1 m3 m4).trans h) hg
noncomputable def s4_1 (x0 : List V) (x4 : Int) (x5 : Int) (m0 : List V) (m1 : List (List (V × V))) (m3 : List (V × V)) (m4 : List (V × V)) : R :=
  cond (decide (x5 < 8))
 (opt (behindX m0 m1 m3 m4 x5) fun l =>
  some (.head 2 (T4_2 x0 x4 x5 0 m0 m1 (List.replicate 8 (V.bool false)) (l.map iV) m3 m4)))
 (some (.head 0 (T4_0 x0 (W .i64 (x4 + 1)) m0 m1 m3 m4)))
theorem s4_1_eq (x0 : List V) (x4 : Int) (x5 : Int) (m0 : List V) (m1 : List (List (V × V))) (m3 : List (V × V)) (m4 : List (V × V)) : goK kcB true 2 fa4 1 (T4_1 x0 x4 x5 m0 m1 m3 m4) = s4_1 x0 x4 x5 m0 m1 m3 m4 := by kernel_rfl
theorem s4_1_run (x0 : List V) (x4 : Int) (x5 : Int) (m0 : List V) (m1 : List (List (V × V))) (m3 : List (V × V)) (m4 : List (V × V)) {o o' : Out} (h : s4_1 x0 x4 x5 m0 m1 m3 m4 = some o) (hg : Go kcB true 2 fa4 o o') : Go kcB true 2 fa4 (.head 1 (T4_1 x0 x4 x5 m0 m1 m3 m4)) o' := .step ((s4_1_eq x0 x4 x5 m0 m1 m3 m4).trans h) hg
noncomputable def s4_3 (x10 : Int) (m0 : List V) (m1 : List (List (V × V))) (m3 : List (V × V)) (m4 : List (V × V)) : R :=
  cond (decide (x10 < 8))
 (some (.head 4 (T4_4 x10 0 m0 m1 m3 m4)))
 (some (.head 5 (T4_5 0 m0 m1 m3 m4)))
theorem s4_3_eq (x10 : Int) (m0 : List V) (m1 : List (List (V × V))) (m3 : List (V × V)) (m4 : List (V × V)) : goK kcB true 2 fa4 3 (T4_3 x10 m0 m1 m3 m4) = s4_3 x10 m0 m1 m3 m4 := by kernel_rfl
theorem s4_3_run (x10 : Int) (m0 : List V) (m1 : List (List (V × V))) (m3 : List (V × V)) (m4 : List (V × V)) {o o' : Out} (h : s4_3 x10 m0 m1 m3 m4 = some o) (hg : Go kcB true 2 fa4 o o') : Go kcB true 2 fa4 (.head 3 (T4_3 x10 m0 m1 m3 m4)) o' := .step ((s4_3_eq x10 m0 m1 m3 m4).trans h) hg
noncomputable def s4_2 (x0 : List V) (x4 : Int) (x5 : Int) (x8 : Int) (m0 : List V) (m1 : List (List (V × V))) (m3 : List V) (m4 : List V) (m5 : List (V × V)) (m6 : List (V × V)) : R :=
  cond (decide (x8 < (m4.length : Int)))
 (cond (decide (x8 < 200))
 (gd (decide (0 ≤ x8)) <|
  gd (decide (x8.toNat < m4.length)) <|
  idxK m4 x8.toNat fun v =>
  kI .i64 v fun n =>
  cond (n == x5)
 (some (.doneM (V.bool false) (tm m0 m1 m5 m6)))
 (cond (decide (n < 0))
 (some (.doneM (V.bool false) (tm m0 m1 m5 m6)))
 (cond (decide (n > 7))
 (some (.doneM (V.bool false) (tm m0 m1 m5 m6)))
 (gd (decide (0 ≤ n)) <|
  gd (decide (n.toNat < m3.length)) <|
  idxK m3 n.toNat fun v_1 =>
  kB v_1 fun b =>
  cond (!b)
 (gd (decide (0 ≤ n)) <|
  gd (decide (n.toNat < m3.length)) <|
  idxK m3 n.toNat fun v_2 =>
  kB v_2 fun b_1 =>
  opt (behindX m0 m1 m5 m6 n) fun l =>
  gd (wfl 1 (l.map iV)) <|
  gd (decide (m4.length + (l.map iV).length ≤ 16777216)) <|
  some (.head 2 (T4_2 x0 x4 x5 (W .i64 (x8 + 1)) m0 m1 ((m3).set n.toNat (V.bool true)) (m4 ++ (l.map iV)) m5 m6)))
 (some (.head 2 (T4_2 x0 x4 x5 (W .i64 (x8 + 1)) m0 m1 m3 m4 m5 m6)))))))
 (some (.head 1 (T4_1 x0 x4 (W .i64 (x5 + 1)) m0 m1 m5 m6))))
 (some (.head 1 (T4_1 x0 x4 (W .i64 (x5 + 1)) m0 m1 m5 m6)))
theorem s4_2_eq (x0 : List V) (x4 : Int) (x5 : Int) (x8 : Int) (m0 : List V) (m1 : List (List (V × V))) (m3 : List V) (m4 : List V) (m5 : List (V × V)) (m6 : List (V × V)) : goK kcB true 2 fa4 2 (T4_2 x0 x4 x5 x8 m0 m1 m3 m4 m5 m6) = s4_2 x0 x4 x5 x8 m0 m1 m3 m4 m5 m6 := by kernel_rfl
theorem s4_2_run (x0 : List V) (x4 : Int) (x5 : Int) (x8 : Int) (m0 : List V) (m1 : List (List (V × V))) (m3 : List V) (m4 : List V) (m5 : List (V × V)) (m6 : List (V × V)) {o o' : Out} (h : s4_2 x0 x4 x5 x8 m0 m1 m3 m4 m5 m6 = some o) (hg : Go kcB true 2 fa4 o o') : Go kcB true 2 fa4 (.head 2 (T4_2 x0 x4 x5 x8 m0 m1 m3 m4 m5 m6)) o' := .step ((s4_2_eq x0 x4 x5 x8 m0 m1 m3 m4 m5 m6).trans h) hg
noncomputable def s4_4 (x10 : Int) (x11 : Int) (m0 : List V) (m1 : List (List (V × V))) (m3 : List (V × V)) (m4 : List (V × V)) : R :=
  cond (decide (x11 < 8))
 (icM cfgB ⟨true, false⟩ mk15 15 [V.ptr 2 0 0, V.int .i64 x11] (tm m0 m1 m3 m4) fun L =>
  cond (!L.2.2.1)
 (icM cfgB ⟨true, false⟩ mk18 18 [V.ptr 2 0 0, V.int .i64 x11] (tm L.2.2.2.1 L.2.2.2.2.1 L.2.2.2.2.2.1 L.2.2.2.2.2.2) fun L_1 =>
  some (.head 4 (T4_4 x10 (W .i64 (x11 + 1)) L_1.1 L_1.2.1 L_1.2.2.1 L_1.2.2.2.1)))
 (some (.head 4 (T4_4 x10 (W .i64 (x11 + 1)) L.2.2.2.1 L.2.2.2.2.1 L.2.2.2.2.2.1 L.2.2.2.2.2.2))))
 (some (.head 3 (T4_3 (W .i64 (x10 + 1)) m0 m1 m3 m4)))
theorem s4_4_eq (x10 : Int) (x11 : Int) (m0 : List V) (m1 : List (List (V × V))) (m3 : List (V × V)) (m4 : List (V × V)) : goK kcB true 2 fa4 4 (T4_4 x10 x11 m0 m1 m3 m4) = s4_4 x10 x11 m0 m1 m3 m4 := by kernel_rfl
theorem s4_4_run (x10 : Int) (x11 : Int) (m0 : List V) (m1 : List (List (V × V))) (m3 : List (V × V)) (m4 : List (V × V)) {o o' : Out} (h : s4_4 x10 x11 m0 m1 m3 m4 = some o) (hg : Go kcB true 2 fa4 o o') : Go kcB true 2 fa4 (.head 4 (T4_4 x10 x11 m0 m1 m3 m4)) o' := .step ((s4_4_eq x10 x11 m0 m1 m3 m4).trans h) hg
noncomputable def s4_5 (x14 : Int) (m0 : List V) (m1 : List (List (V × V))) (m3 : List (V × V)) (m4 : List (V × V)) : R :=
  cond (decide (x14 < 8))
 (icM cfgB ⟨true, false⟩ mk15 15 [V.ptr 2 0 0, V.int .i64 x14] (tm m0 m1 m3 m4) fun L =>
  cond L.2.2.1
 (some (.doneM (V.bool false) (tm L.2.2.2.1 L.2.2.2.2.1 L.2.2.2.2.2.1 L.2.2.2.2.2.2)))
 (icM cfgB ⟨true, false⟩ mk19 19 [V.ptr 2 0 0, V.int .i64 x14] (tm L.2.2.2.1 L.2.2.2.2.1 L.2.2.2.2.2.1 L.2.2.2.2.2.2) fun L_1 =>
  cond ((L_1.2.2.2.2.length : Int) != (0 : Int))
 (some (.doneM (V.bool false) (tm L_1.1 L_1.2.1 L_1.2.2.1 L_1.2.2.2.1)))
 (some (.head 5 (T4_5 (W .i64 (x14 + 1)) L_1.1 L_1.2.1 L_1.2.2.1 L_1.2.2.2.1)))))
 (pcK cfgB 17 [] fun r =>
  kB r fun r17 =>
  some (.doneM (V.bool r17) (tm m0 m1 m3 m4)))
theorem s4_5_eq (x14 : Int) (m0 : List V) (m1 : List (List (V × V))) (m3 : List (V × V)) (m4 : List (V × V)) : goK kcB true 2 fa4 5 (T4_5 x14 m0 m1 m3 m4) = s4_5 x14 m0 m1 m3 m4 := by kernel_rfl
theorem s4_5_run (x14 : Int) (m0 : List V) (m1 : List (List (V × V))) (m3 : List (V × V)) (m4 : List (V × V)) {o o' : Out} (h : s4_5 x14 m0 m1 m3 m4 = some o) (hg : Go kcB true 2 fa4 o o') : Go kcB true 2 fa4 (.head 5 (T4_5 x14 m0 m1 m3 m4)) o' := .step ((s4_5_eq x14 m0 m1 m3 m4).trans h) hg
end Go.Proofs.Ytpkeiaeaonmacaa
namespace Go.Proofs.Ytpkeiaeaonmacaa
open Go Go.Lite
set_option linter.unusedSimpArgs false
set_option linter.unusedVariables false
set_option linter.unnecessarySimpa false
set_option maxRecDepth 10000
theorem wI1 (m : Int) (h : 0 ≤ m ∧ m < 100) : W .i64 (m + 1) = m + 1 := W_i64 (by omega)
structure Op where
  kind : Int
  owner : Int
  name : Bs
  mode : Int
def opV (o : Op) : V := .agg [.int .i64 o.kind, .int .i64 o.owner, .str o.name, .int .i64 o.mode]
theorem dO (o : Op) (k : Int → Int → Bs → Int → R) : d27 (opV o) k = k o.kind o.owner o.name o.mode := rfl
def cutN (s : Bs) : Bs := s.take ((if 2 < (s.length : Int) then 2 else (s.length : Int)).toNat)
theorem cut_nm (s : Bs) : Nm (cutN s) := by
  unfold cutN Nm
  rw [List.length_take]
  split <;> omega
theorem cut_fold (s : Bs) : s.take ((if 2 < (s.length : Int) then 2 else (s.length : Int)).toNat) = cutN s := rfl
theorem gc1 (s : Bs) : decide (0 ≤ (if 2 < (s.length : Int) then 2 else (s.length : Int))) = true := decide_eq_true (by split <;> omega)
theorem gc2 (s : Bs) : decide ((if 2 < (s.length : Int) then 2 else (s.length : Int)).toNat ≤ s.length) = true := decide_eq_true (by split <;> omega)
theorem and7 (x : Int) : ∃ q : Int, (0 ≤ q ∧ q < 8) ∧ W .i64 (((BitVec.ofInt (IntKind.bits .i64) x &&& BitVec.ofInt (IntKind.bits .i64) 7).toNat : Int)) = q := by
  refine ⟨((BitVec.ofInt 64 x &&& BitVec.ofInt 64 7).toNat : Nat), ⟨by omega, ?_⟩, ?_⟩
  · rw [BitVec.toNat_and]
    have := Nat.lt_of_le_of_lt (@Nat.and_le_right (BitVec.ofInt 64 x).toNat (BitVec.ofInt 64 7).toNat) (show (BitVec.ofInt 64 7).toNat < 8 by decide)
    omega
  · change W .i64 (((BitVec.ofInt 64 x &&& BitVec.ofInt 64 7).toNat : Int)) = _
    have : (BitVec.ofInt 64 x &&& BitVec.ofInt 64 7).toNat < 8 := by
      rw [BitVec.toNat_and]
      exact Nat.lt_of_le_of_lt Nat.and_le_right (by decide)
    exact W_i64 (by omega)
theorem op_get {ops : List Op} {i : Nat} {o : Op} (h : ops[i]? = some o) (q : V → R) : idxK (ops.map opV) ((i : Int)).toNat q = q (opV o) := idxK_c h
noncomputable def playA (L : List Lk) (W : WL) (k : Int) (o : Int) (nm : Bs) (m : Int) : List Lk × WL :=
  if k = 0 then (askA L W o nm m).2 else if k = 1 then ((freeA L W o nm).2.1, (freeA L W o nm).2.2.1) else ((dropA L W o).1, (dropA L W o).2.1)
section
variable {els : List V} {ms : List (List (V × V))} {lk ws : List (V × V)} {ix : Bs → Nat} {L : List Lk} {W : WL} {b : Int} {n N : Nat} {nm : Bs} {e : Lk} {o : Int}
theorem Good.play (g : Good b n L W) (ho : o < b) (k : Int) (nm : Bs) (m : Int) : Good b (n + 1) (playA L W k o nm m).1 (playA L W k o nm m).2 := by
  unfold playA
  split
  · exact g.ask ho nm m
  · split
    · exact (Good.free g o nm).more (by omega)
    · exact (Good.drop g o).more (by omega)
theorem wait_none (g : Good b n L W) (h : waitA L W o = none) : getA W o = none := by
  cases hg : getA W o with
  | none => rfl
  | some n2 =>
    obtain ⟨e, m, h1, h2⟩ := g.wok o n2 hg
    unfold waitA at h
    rw [hg, Option.bind_some, h1, Option.bind_some, h2] at h
    cases h
theorem wait_some {p : Bs × Int} (h : waitA L W o = some p) : getA W o = some p.1 ∧ ∃ e, getL L p.1 = some e ∧ getA e.q o = some p.2 := by
  unfold waitA at h
  simp only [Option.bind_eq_some_iff, Option.map_eq_some_iff] at h
  obtain ⟨n2, h1, e, h2, m, h3, rfl⟩ := h
  exact ⟨h1, e, h2, h3⟩
theorem wait_of (h : getA W o = none) : waitA L W o = none := by unfold waitA; rw [h]; rfl
theorem mode_get (g : Good b n L W) (h : modeA L o nm ≠ 0) : ∃ e, getL L nm = some e ∧ getA e.held o = some (modeA L o nm) ∧ 1 ≤ modeA L o nm ∧ modeA L o nm ≤ 6 := by
  obtain ⟨e, he⟩ := modeA_some h
  refine ⟨e, he, ?_⟩
  unfold modeA at h ⊢
  rw [he, Option.bind_some] at h ⊢
  cases hg : getA e.held o with
  | none => rw [hg] at h; exact absurd rfl h
  | some m =>
    rw [Option.getD_some]
    exact ⟨rfl, g.hm e (getL_some he).1 _ (getA_mem hg)⟩
theorem mode_eq (he : getL L nm = some e) : modeA L o nm = (getA e.held o).getD 0 := by unfold modeA; rw [he]; rfl
theorem ask_again (g : Good b n L W) (ho : 0 ≤ o) {m : Int} (hm : 1 ≤ m ∧ m ≤ 6) (h0 : modeA L o nm ≠ 0) (hw : getA W o = none) (hc : coversB (modeA L o nm) m = true) : askA L W o nm m = (0, L, W) := by
  obtain ⟨e, he, h1, h2⟩ := mode_get g h0
  unfold askA
  rw [if_neg (by omega), if_neg (by rw [hw]; simp), atL_some he, he]
  dsimp only
  rw [h1]
  exact if_pos ⟨rfl, cov_join h2 hm hc⟩
end
theorem plain_sc (ops : List Op) : plainL [.sl (ops.map opV)] = true := by
  have : ∀ l : List Op, plainL (l.map opV) = true := by
    intro l
    induction l with
    | nil => rfl
    | cons o l ih =>
      rw [List.map_cons]
      unfold plainL
      rw [ih]
      rfl
  simp only [plainL, V.plain, this, Bool.and_true]
end Go.Proofs.Ytpkeiaeaonmacaa
namespace Go.Proofs.Ytpkeiaeaonmacaa
open Go Go.Lite
set_option linter.unusedSimpArgs false
set_option linter.unusedVariables false
set_option linter.unnecessarySimpa false
set_option maxRecDepth 10000
section
variable {els : List V} {ms : List (List (V × V))} {lk ws : List (V × V)} {ix : Bs → Nat} {L : List Lk} {W : WL} {b : Int} {n N : Nat} {S : Bs → Prop} {nm : Bs} {e : Lk} {o x : Int}
theorem keys_put_old {α : Type} {l : List (Int × α)} {a : α} (h : x ∈ keys l) : x ∈ keys (putA l o a) := by
  rw [keys_put]
  split
  · exact h
  · exact List.mem_append.2 (.inl h)
theorem keys_put_new {α : Type} {l : List (Int × α)} {a : α} : o ∈ keys (putA l o a) := List.mem_map.2 ⟨_, put_mem, rfl⟩
theorem comeQ_keys : ∀ (q hs : HQ), (∀ x ∈ keys hs, x ∈ keys (comeQ q hs).1) ∧ (∀ x ∈ (comeQ q hs).2.2, x ∈ keys (comeQ q hs).1 ∧ x ∈ keys q) ∧ (∀ p ∈ (comeQ q hs).1, p ∈ hs ∨ p ∈ q) ∧ ∀ p ∈ (comeQ q hs).2.1, p ∈ q
  | [], hs => ⟨fun _ h => h, fun _ h => (by cases h), fun _ h => .inl h, fun _ h => (by cases h)⟩
  | p :: q, hs => by
    unfold comeQ
    split
    · obtain ⟨h1, h2, h3, h4⟩ := comeQ_keys q (putA hs p.1 p.2)
      refine ⟨fun x hx => h1 x (keys_put_old hx), fun x hx => ?_, fun y hy => ?_, fun y hy => List.mem_cons_of_mem _ (h4 y hy)⟩
      · rcases List.mem_cons.1 hx with rfl | hx
        · exact ⟨h1 _ keys_put_new, by simp⟩
        · exact ⟨(h2 x hx).1, List.mem_cons_of_mem _ (h2 x hx).2⟩
      · rcases h3 y hy with h | h
        · rcases putA_mem h with h | rfl
          · exact .inl h
          · exact .inr (by simp)
        · exact .inr (List.mem_cons_of_mem _ h)
    · exact ⟨fun _ h => h, fun _ h => (by cases h), fun _ h => .inl h, fun _ h => h⟩
theorem getA_del_none {α : Type} {l : List (Int × α)} (h : getA l x = none) : getA (delA l o) x = none := by
  refine getA_out fun hm => ?_
  have := getA_none h
  exact this (((delA_sub l o).map _).subset hm)
theorem delAll_none : ∀ (l : List Int) (W : WL), getA W x = none → getA (delAll W l) x = none
  | [], W, h => h
  | c :: l, W, h => delAll_none l _ (getA_del_none h)
theorem delAll_in : ∀ (l : List Int) (W : WL), (keys W).Nodup → x ∈ l → getA (delAll W l) x = none
  | c :: l, W, hn, h => by
    rcases List.mem_cons.1 h with rfl | h
    · exact delAll_none l _ (getA_del_self hn)
    · exact delAll_in l _ (nodup_del hn) h
theorem tidy_sub {x : Lk} (h : x ∈ tidyL L nm) : x ∈ L := by
  unfold tidyL at h
  split at h
  · split at h
    · exact (List.mem_filter.1 h).1
    · exact h
  · exact h
theorem tidy_in {x : Lk} (hn : (nms L).Nodup) (h : x ∈ L) (hh : x.held ≠ []) : x ∈ tidyL L nm := by
  unfold tidyL
  split
  · rename_i e he
    split
    · rename_i hb
      refine List.mem_filter.2 ⟨h, ?_⟩
      have : x.nm ≠ nm := fun e1 => by
        have := getL_of hn h
        rw [e1, he] at this
        cases this
        exact hh hb.1
      simpa using this
    · exact h
  · exact h
structure DI (o : Int) (L : List Lk) (W : WL) (out : List Int) : Prop where
  no : ∀ e ∈ L, o ∉ keys e.held ∧ o ∉ keys e.q
  nw : getA W o = none
  got : ∀ x ∈ out, x ≠ o ∧ getA W x = none ∧ ∃ e ∈ L, x ∈ keys e.held
theorem DI.come {out : List Int} (h : DI o L W out) (g : WG b n S L W) (nm : Bs) : DI o (comeL L W nm).1 (comeL L W nm).2.1 (out ++ (comeL L W nm).2.2) := by
  cases he : getL L nm with
  | none => rw [come_none he, List.append_nil]; exact h
  | some e =>
    obtain ⟨hm, hnm⟩ := getL_some he
    obtain ⟨k1, k2, k3, k4⟩ := comeQ_keys e.q e.held
    have hnd : (nms (setL L nm (comeQ e.q e.held).1 (comeQ e.q e.held).2.1)).Nodup := by rw [nms_set]; exact g.nd
    rw [come_some he]
    refine ⟨fun y hy => ?_, delAll_none _ _ h.nw, fun x hx => ?_⟩
    · rcases mem_set (tidy_sub hy) with rfl | ⟨hy, _⟩
      · refine ⟨fun ho => ?_, fun ho => ?_⟩ <;> obtain ⟨p, hp, e1⟩ := List.mem_map.1 ho
        · rcases k3 p hp with hp | hp
          · exact (h.no e hm).1 (List.mem_map.2 ⟨p, hp, e1⟩)
          · exact (h.no e hm).2 (List.mem_map.2 ⟨p, hp, e1⟩)
        · exact (h.no e hm).2 (List.mem_map.2 ⟨p, k4 p hp, e1⟩)
      · exact h.no y hy
    · have key : ∀ y ∈ L, x ∈ keys y.held → ∃ e' ∈ tidyL (setL L nm (comeQ e.q e.held).1 (comeQ e.q e.held).2.1) nm, x ∈ keys e'.held := by
        intro y hy hxx
        by_cases hyn : y.nm = nm
        · have : y = e := by
            have := getL_of g.nd hy
            rw [hyn, he] at this
            exact (Option.some.inj this).symm
          subst this
          have hk := k1 x hxx
          refine ⟨_, tidy_in hnd (set_in he _ _) (fun h0 => ?_), hk⟩
          have h0 : (comeQ y.q y.held).1 = [] := h0
          rw [h0] at hk; cases hk
        · exact ⟨y, tidy_in hnd (set_other hy hyn _ _) (fun h0 => by rw [h0] at hxx; cases hxx), hxx⟩
      rcases List.mem_append.1 hx with hx | hx
      · obtain ⟨h1, h2, y, hy, h3⟩ := h.got x hx
        exact ⟨h1, delAll_none _ _ h2, key y hy h3⟩
      · obtain ⟨h1, h2⟩ := k2 x hx
        refine ⟨?_, delAll_in _ _ g.wn hx, ?_⟩
        · rintro rfl
          exact (h.no e hm).2 h2
        · refine ⟨_, tidy_in hnd (set_in he _ _) (fun h0 => ?_), h1⟩
          have h0 : (comeQ e.q e.held).1 = [] := h0
          rw [h0] at h1; cases h1
theorem DI.comeAll : ∀ (ks : List Bs) (L : List Lk) (W : WL) (out : List Int), WG b n (fun x => x ∈ ks) L W → DI o L W out → DI o (comeAll ks L W).1 (comeAll ks L W).2.1 (out ++ (comeAll ks L W).2.2)
  | [], L, W, out, _, h => by show DI o L W (out ++ []); rw [List.append_nil]; exact h
  | c :: ks, L, W, out, g, h => by
    have := DI.comeAll ks _ _ _ ((g.come c).weak (fun x hx => (List.mem_cons.1 hx.1).resolve_left hx.2) (Nat.le_refl _)) (h.come g c)
    rw [List.append_assoc] at this
    exact this
theorem Good.di (g : Good b n L W) (o : Int) : DI o (dropA L W o).1 (dropA L W o).2.1 (dropA L W o).2.2 := by
  have h1 := WG.drop g o
  have h2 : ∀ e ∈ dropL L o, e.nm ∈ srtS (nms L) := fun e he => srtS_mem.2 (by rw [← nms_drop (L := L) o]; exact List.mem_map.2 ⟨e, he, rfl⟩)
  have h3 : WG b n (fun x => x ∈ srtS (nms L)) (dropL L o) (delA W o) := ⟨h1.bb, h1.nd, h1.hn, h1.qn, h1.wn, h1.wq, h1.wok, h1.tot, h1.rh, h1.rq, h1.hm, h1.qm, h1.fit, h1.nb, h1.acy, fun e he hs => absurd (h2 e he) hs, fun e he hs => absurd (h2 e he) hs⟩
  have h4 : DI o (dropL L o) (delA W o) [] := by
    refine ⟨fun e he => ?_, getA_del_self g.wn, fun x hx => (by cases hx)⟩
    obtain ⟨y, hy, rfl⟩ := dropL_mem he
    refine ⟨fun ho => ?_, fun ho => ?_⟩
    · exact getA_none (getA_del_self (g.hn y hy)) ho
    · obtain ⟨p, hp, e1⟩ := List.mem_map.1 ho
      have := (List.mem_filter.1 hp).2
      simp [e1] at this
  exact DI.comeAll _ _ _ [] h3 h4
theorem held_ne (hn : (nms L).Nodup) {e : Lk} (he : e ∈ L) (hx : x ∈ keys e.held) : heldA L x ≠ [] := by
  obtain ⟨p, hp, e1⟩ := List.mem_map.1 hx
  cases hg : getA e.held x with
  | none => exact absurd hx (getA_none hg)
  | some m =>
    have : (e.nm, m) ∈ heldA L x := by
      unfold heldA heldN
      rw [List.mem_filterMap]
      refine ⟨e.nm, srtS_mem.2 (List.mem_map.2 ⟨e, he, rfl⟩), ?_⟩
      rw [getL_of hn he, Option.bind_some, hg, Option.map_some]
    exact List.ne_nil_of_mem this
theorem held_nil (h : ∀ e ∈ L, o ∉ keys e.held) : heldA L o = [] := by
  unfold heldA heldN
  rw [List.filterMap_eq_nil_iff]
  intro nm _
  cases hg : getL L nm with
  | none => rfl
  | some e => rw [Option.bind_some, getA_out (h e (getL_some hg).1)]; rfl
theorem hold_out (h : ∀ e ∈ L, o ∉ keys e.held) : o ∉ holdA L nm := by
  unfold holdA
  split
  · simp
  · rename_i e he
    rw [srt_mem]
    exact h e (getL_some he).1
end
end Go.Proofs.Ytpkeiaeaonmacaa
namespace Go.Proofs.Ytpkeiaeaonmacaa
open Go Go.Lite
set_option linter.unusedSimpArgs false
set_option linter.unusedVariables false
set_option linter.unnecessarySimpa false
set_option maxRecDepth 10000
section
variable {els : List V} {ms : List (List (V × V))} {lk ws : List (V × V)} {ix : Bs → Nat} {L : List Lk} {W : WL} {b : Int} {n N : Nat} {S : Bs → Prop} {nm : Bs} {e : Lk} {o x : Int}
def Busy (L : List Lk) (o : Int) : Prop := ∃ e ∈ L, o ∈ keys e.held ∨ o ∈ keys e.q
theorem Good.busy (g : Good b n L W) (h : Busy L o) : 0 ≤ o ∧ o < b := by
  obtain ⟨e, he, h | h⟩ := h <;> obtain ⟨p, hp, rfl⟩ := List.mem_map.1 h
  · exact g.rh e he p hp
  · exact g.rq e he p hp
theorem Good.waits_busy (g : Good b n L W) (h : getA W o ≠ none) : Busy L o := by
  cases hg : getA W o with
  | none => exact absurd hg h
  | some n2 =>
    obtain ⟨e, m, h1, h2⟩ := g.wok o n2 hg
    exact ⟨e, (getL_some h1).1, .inr (List.mem_map.2 ⟨_, getA_mem h2, rfl⟩)⟩
theorem comeL_idle (g : Good b n L W) (nm : Bs) : comeL L W nm = (L, W, []) := by
  cases he : getL L nm with
  | none => exact come_none he
  | some e =>
    obtain ⟨hm, hnm⟩ := getL_some he
    have hq : comeQ e.q e.held = (e.held, e.q, []) := by
      cases hq : e.q with
      | nil => rfl
      | cons p r =>
        have := g.first e hm (fun f => f) p r hq
        unfold comeQ
        rw [if_neg (by rw [this]; simp)]
    rw [come_some he, hq]
    dsimp only
    rw [set_same g.nd he]
    have ht : tidyL L nm = L := by
      unfold tidyL
      rw [he]
      dsimp only
      rw [if_neg fun h => (g.ne e hm fun f => f).elim (fun f => f h.1) fun f => f h.2]
    rw [ht]; rfl
theorem comeAll_idle (g : Good b n L W) : ∀ ks : List Bs, comeAll ks L W = (L, W, [])
  | [] => rfl
  | c :: ks => by
    unfold comeAll
    rw [comeL_idle g c]
    dsimp only
    rw [comeAll_idle g ks]; rfl
theorem drop_idle (g : Good b n L W) (h : ¬ Busy L o) : dropA L W o = (L, W, []) := by
  have h1 : dropL L o = L := by
    unfold dropL
    conv => rhs; rw [← List.map_id L]
    apply List.map_congr_left
    intro e he
    refine dropE_id (getA_out fun hk => h ⟨e, he, .inl hk⟩) fun p hp e1 => h ⟨e, he, .inr (List.mem_map.2 ⟨p, hp, e1⟩)⟩
  have h2 : delA W o = W := by
    refine delA_none ?_
    cases hg : getA W o with
    | none => rfl
    | some n2 => exact absurd (g.waits_busy (o := o) (by rw [hg]; simp)) h
  unfold dropA
  rw [h1, h2]
  exact comeAll_idle g _
theorem come_busy (h : Busy (comeL L W nm).1 x) : Busy L x := by
  cases he : getL L nm with
  | none => rw [come_none he] at h; exact h
  | some e =>
    rw [come_some he] at h
    obtain ⟨y, hy, h⟩ := h
    obtain ⟨k1, k2, k3, k4⟩ := comeQ_keys e.q e.held
    rcases mem_set (tidy_sub hy) with rfl | ⟨hy, _⟩
    · refine ⟨e, (getL_some he).1, ?_⟩
      rcases h with h | h <;> obtain ⟨p, hp, rfl⟩ := List.mem_map.1 h
      · rcases k3 p hp with hp | hp
        · exact .inl (List.mem_map.2 ⟨p, hp, rfl⟩)
        · exact .inr (List.mem_map.2 ⟨p, hp, rfl⟩)
      · exact .inr (List.mem_map.2 ⟨p, k4 p hp, rfl⟩)
    · exact ⟨y, hy, h⟩
theorem comeAll_busy : ∀ (ks : List Bs) (L : List Lk) (W : WL), Busy (comeAll ks L W).1 x → Busy L x
  | [], L, W, h => h
  | c :: ks, L, W, h => come_busy (comeAll_busy ks _ _ h)
theorem drop_busy (h : Busy (dropA L W o).1 x) : Busy L x := by
  obtain ⟨y, hy, h⟩ := comeAll_busy _ _ _ h
  obtain ⟨e, he, rfl⟩ := dropL_mem hy
  refine ⟨e, he, ?_⟩
  rcases h with h | h
  · exact .inl (((delA_sub e.held o).map _).subset h)
  · exact .inr ((List.filter_sublist.map _).subset h)
theorem drop_done (g : Good b n L W) : ¬ Busy (dropA L W o).1 o := by
  have := Good.di g o
  rintro ⟨e, he, h | h⟩
  · exact (this.no e he).1 h
  · exact (this.no e he).2 h
theorem Good.edge_wait (g : Good b n L W) (h : getA W o ≠ none) : ∃ x, x ∈ behA L W o ∧ Busy L x := by
  cases hg : getA W o with
  | none => exact absurd hg h
  | some n2 =>
    obtain ⟨e, m, h1, h2⟩ := g.wok o n2 hg
    have hm := (getL_some h1).1
    obtain ⟨i, hi⟩ := List.getElem?_of_mem (getA_mem h2)
    have key : ∃ x, (x ∈ (e.q.take i).map (·.1) ∨ ∃ p ∈ e.held, p.1 = x ∧ p.1 ≠ o ∧ fitsB p.2 m = false) := by
      cases i with
      | zero =>
        cases hq : e.q with
        | nil => rw [hq] at hi; simp at hi
        | cons p r =>
          rw [hq] at hi
          have hp : p = (o, m) := by simpa using hi
          have := g.first e hm (fun f => f) p r hq
          rw [hp] at this
          obtain ⟨p', hp', h3, h4⟩ := canB_not.1 this
          exact ⟨p'.1, .inr ⟨p', hp', rfl, h3, h4⟩⟩
      | succ i =>
        cases hq : e.q with
        | nil => rw [hq] at hi; simp at hi
        | cons p r => exact ⟨p.1, .inl (by simp)⟩
    obtain ⟨x, hx⟩ := key
    refine ⟨x, g.edge.2 ⟨e, hm, i, m, hi, hx⟩, e, hm, ?_⟩
    rcases hx with hx | ⟨p, hp, h3, _⟩
    · obtain ⟨p, hp, rfl⟩ := List.mem_map.1 hx
      exact .inr (List.mem_map.2 ⟨p, List.mem_of_mem_take hp, rfl⟩)
    · exact .inl (List.mem_map.2 ⟨p, hp, h3⟩)
noncomputable def cntP (P : Int → Prop) : Nat := ((List.range 8).filter fun (k : Nat) => @decide (P (k : Int)) (Classical.propDecidable _)).length
theorem filter_le {α : Type} {f g : α → Bool} : ∀ (l : List α), (∀ x ∈ l, f x = true → g x = true) → (l.filter f).length ≤ (l.filter g).length
  | [], _ => Nat.le_refl _
  | x :: l, h => by
    have ih := filter_le l fun y hy => h y (List.mem_cons_of_mem _ hy)
    have hx := h x (by simp)
    rw [List.filter_cons, List.filter_cons]
    cases hf : f x
    · simp only [Bool.false_eq_true, if_false]
      split
      · simp only [List.length_cons]; omega
      · exact ih
    · rw [hx hf]
      simp only [if_true, List.length_cons]; omega
theorem filter_lt {α : Type} {f g : α → Bool} : ∀ (l : List α), (∀ x ∈ l, f x = true → g x = true) → (∃ x ∈ l, f x = false ∧ g x = true) → (l.filter f).length < (l.filter g).length
  | [], _, ⟨x, hx, _⟩ => by cases hx
  | x :: l, h, ⟨y, hy, h1, h2⟩ => by
    have hl := fun z hz => h z (List.mem_cons_of_mem x hz)
    have hx := h x (by simp)
    rw [List.filter_cons, List.filter_cons]
    rcases List.mem_cons.1 hy with rfl | hy
    · rw [h1, h2]
      have := filter_le l hl
      simp only [Bool.false_eq_true, if_false, if_true, List.length_cons]; omega
    · have ih := filter_lt l hl ⟨y, hy, h1, h2⟩
      cases hf : f x
      · simp only [Bool.false_eq_true, if_false]
        split
        · simp only [List.length_cons]; omega
        · exact ih
      · rw [hx hf]
        simp only [if_true, List.length_cons]; omega
theorem cntP_lt {P Q : Int → Prop} (h : ∀ x, P x → Q x) {x : Int} (h0 : 0 ≤ x ∧ x < 8) (h1 : ¬ P x) (h2 : Q x) : cntP P < cntP Q := by
  refine filter_lt _ (fun x _ hx => @decide_eq_true _ (Classical.propDecidable _) (h _ (@of_decide_eq_true _ (Classical.propDecidable _) hx))) ⟨x.toNat, List.mem_range.2 (by omega), ?_, ?_⟩
  · exact @decide_eq_false _ (Classical.propDecidable _) (by rw [Int.toNat_of_nonneg h0.1]; exact h1)
  · exact @decide_eq_true _ (Classical.propDecidable _) (by rw [Int.toNat_of_nonneg h0.1]; exact h2)
theorem cntP_zero {P : Int → Prop} (h : cntP P = 0) {x : Int} (h0 : 0 ≤ x ∧ x < 8) : ¬ P x := by
  intro hx
  have := List.length_eq_zero_iff.1 h
  rw [List.filter_eq_nil_iff] at this
  refine this x.toNat (List.mem_range.2 (by omega)) ?_
  exact @decide_eq_true _ (Classical.propDecidable _) (by rw [Int.toNat_of_nonneg h0.1]; exact hx)
theorem cntP_max (P : Int → Prop) : cntP P ≤ 8 := by
  have := List.length_filter_le (fun (k : Nat) => @decide (P (k : Int)) (Classical.propDecidable _)) (List.range 8)
  rw [List.length_range] at this
  exact this
theorem all_wait (g : Good 8 n L W) (h : ∀ x, Busy L x → getA W x ≠ none) : ∀ (k : Nat) (x : Int), cntP (fun y => Rch (behA L W) x y) ≤ k → ¬ Busy L x := by
  intro k
  induction k with
  | zero =>
    intro x hk hb
    obtain ⟨y, hy, hb2⟩ := g.edge_wait (h x hb)
    exact cntP_zero (P := fun y => Rch (behA L W) x y) (by omega) (g.busy hb2) (.one hy)
  | succ k ih =>
    intro x hk hb
    obtain ⟨y, hy, hb2⟩ := g.edge_wait (h x hb)
    refine ih y ?_ hb2
    have : cntP (fun z => Rch (behA L W) y z) < cntP (fun z => Rch (behA L W) x z) := cntP_lt (fun z hz => .step hy hz) (g.busy hb2) (fun hh => g.acy y hh) (.one hy)
    omega
theorem no_wait (g : Good 8 n L W) (h : ∀ x, Busy L x → getA W x ≠ none) (x : Int) : ¬ Busy L x := all_wait g h 8 x (cntP_max _)
noncomputable def cnt (L : List Lk) : Nat := cntP (Busy L)
end
section
variable {els : List V} {ms : List (List (V × V))} {lk ws : List (V × V)} {ix : Bs → Nat} {L : List Lk} {W : WL}
abbrev L0 (sc : List V) (i : Nat) (els : List V) (ms : List (List (V × V))) (lk ws : List (V × V)) : Out := .head 0 (T4_0 sc (i : Int) els ms lk ws)
abbrev L1 (sc : List V) (i o : Nat) (els : List V) (ms : List (List (V × V))) (lk ws : List (V × V)) : Out := .head 1 (T4_1 sc (i : Int) (o : Int) els ms lk ws)
abbrev L2 (sc : List V) (i o k : Nat) (sv : List Bool) (row : List Int) (els : List V) (ms : List (List (V × V))) (lk ws : List (V × V)) : Out := .head 2 (T4_2 sc (i : Int) (o : Int) (k : Int) els ms (sv.map V.bool) (ints row) lk ws)
theorem beh_rng {n : Nat} (g : Good 8 n L W) {o x : Int} (h : x ∈ behA L W o) : 0 ≤ x ∧ x < 8 := by
  obtain ⟨e, he, i, m, h1, h2⟩ := g.edge.1 h
  rcases h2 with h2 | ⟨p, hp, rfl, _⟩
  · obtain ⟨p, hp, rfl⟩ := List.mem_map.1 h2
    exact g.rq e he p (List.mem_of_mem_take hp)
  · exact g.rh e he p hp
theorem rch_rng {n : Nat} (g : Good 8 n L W) {o x : Int} (h : Rch (behA L W) o x) : 0 ≤ x ∧ x < 8 := by
  induction h with
  | one hx => exact beh_rng g hx
  | step _ _ ih => exact ih
theorem l_row (sc : List V) (i o : Nat) (ho : o < 8) (r : Rep els ms lk ws ix L W) {n : Nat} (g : Good 8 n L W) (hn : n ≤ 3000) : ∀ (d k : Nat) (sv : List Bool) (row : List Int), k + d = 200 → sv.length = 8 → row.length ≤ (k + 1) * 4000 → (∀ x ∈ row, Rch (behA L W) (o : Int) x) →
    ∀ q, Go kcB true 2 fa4 (L1 sc i (o + 1) els ms lk ws) q → Go kcB true 2 fa4 (L2 sc i o k sv row els ms lk ws) q := by
  intro d
  induction d with
  | zero =>
    intro k sv row hk hsv hl hr q hq
    refine s4_2_run _ _ _ _ _ _ _ _ _ _ ?_ hq
    unfold s4_2
    by_cases h : k < row.length
    · rw [decide_eq_true (by rw [ints_len]; omega), cond_true, decide_eq_false (by omega), cond_false, wi o (by omega)]
    · rw [decide_eq_false (by rw [ints_len]; omega), cond_false, wi o (by omega)]
  | succ d ih =>
    intro k sv row hk hsv hl hr q hq
    by_cases h : k < row.length
    · obtain ⟨x, hx⟩ : ∃ x, row[k]? = some x := ⟨_, List.getElem?_eq_getElem h⟩
      have hxr := hr x (List.mem_of_getElem? hx)
      have hxn := rch_rng g hxr
      have hxo : x ≠ (o : Int) := fun e => g.acy x (by rw [← e] at hxr; exact hxr)
      obtain ⟨c, hc⟩ : ∃ c, sv[x.toNat]? = some c := ⟨_, List.getElem?_eq_getElem (by omega)⟩
      have hbl := behA_len (W := W) (g.szN (N := 4000) (by omega) (by omega)) x
      have hbig : row.length + (behA L W x).length ≤ 16777216 := Nat.le_trans (Nat.add_le_add hl hbl) (by have := Nat.mul_le_mul_right 4000 (show k + 1 ≤ 200 by omega); omega)
      cases c with
      | true =>
        have c1 := ih (k + 1) sv row (by omega) hsv (Nat.le_trans hl (Nat.mul_le_mul_right _ (by omega))) hr q hq
        refine s4_2_run _ _ _ _ _ _ _ _ _ _ ?_ c1
        unfold s4_2
        rw [decide_eq_true (by rw [ints_len]; omega), cond_true, decide_eq_true (by omega), cond_true, gd_of (by simp), gd_of (decide_eq_true (by rw [ints_len]; omega)), toNat_cast, ints_get hx, kI_mk, ibeq_f hxo, cond_false, decide_eq_false (by omega), cond_false, decide_eq_false (by omega), cond_false,
          gd_of (decide_eq_true (by omega)), gd_of (decide_eq_true (by rw [List.length_map]; omega)), idxK_map hc, kB_mk, Bool.not_true, cond_false, wi k (by omega)]
      | false =>
        have c1 := ih (k + 1) (sv.set x.toNat true) (row ++ behA L W x) (by omega) (by simpa using hsv) (by rw [List.length_append, Nat.succ_mul (k + 1)]; exact Nat.add_le_add hl hbl) (fun y hy => by
          rcases List.mem_append.1 hy with hy | hy
          · exact hr y hy
          · exact hxr.trans (.one hy)) q hq
        refine s4_2_run _ _ _ _ _ _ _ _ _ _ ?_ c1
        · have hg : ∀ q : R, gd (decide (x.toNat < (sv.map V.bool).length)) q = q := fun q => gd_of (decide_eq_true (by rw [List.length_map]; omega))
          unfold s4_2
          rw [decide_eq_true (by rw [ints_len]; omega), cond_true, decide_eq_true (by omega), cond_true, gd_of (by simp), gd_of (decide_eq_true (by rw [ints_len]; omega)), toNat_cast, ints_get hx, kI_mk, ibeq_f hxo, cond_false, decide_eq_false (by omega), cond_false, decide_eq_false (by omega), cond_false,
            gd_of (decide_eq_true (by omega)), hg, idxK_map hc, kB_mk, Bool.not_false, cond_true, gd_of (decide_eq_true (by omega)), hg, idxK_map hc, kB_mk, beh_at r g hn x, opt_mk, gd_of (show wfl 1 ((behA L W x).map iV) = true from wfl1 _), gd_of (decide_eq_true (by rw [ints_len, List.length_map]; exact hbig)), wi k (by omega)]
          have e1 : ints row ++ (behA L W x).map iV = ints (row ++ behA L W x) := by simp [ints]
          have e2 : (sv.map V.bool).set x.toNat (V.bool true) = (sv.set x.toNat true).map V.bool := by rw [List.map_set]
          rw [e1, e2]
    · refine s4_2_run _ _ _ _ _ _ _ _ _ _ ?_ hq
      unfold s4_2
      rw [decide_eq_false (by rw [ints_len]; omega), cond_false, wi o (by omega)]
theorem l_owners (sc : List V) (i : Nat) (hi : i ≤ 100) (r : Rep els ms lk ws ix L W) {n : Nat} (g : Good 8 n L W) (hn : n ≤ 3000) : ∀ (d o : Nat), o + d = 8 →
    ∀ q, Go kcB true 2 fa4 (L0 sc (i + 1) els ms lk ws) q → Go kcB true 2 fa4 (L1 sc i o els ms lk ws) q := by
  intro d
  induction d with
  | zero =>
    intro o ho q hq
    refine s4_1_run _ _ _ _ _ _ _ ?_ hq
    unfold s4_1
    rw [decide_eq_false (by omega), cond_false, wi i (by omega)]
  | succ d ih =>
    intro o ho q hq
    have hbl := behA_len (W := W) (g.szN (N := 4000) (by omega) (by omega)) (o : Int)
    refine s4_1_run _ _ _ _ _ _ _ ?_ (l_row sc i o (by omega) r g hn 200 0 (List.replicate 8 false) (behA L W (o : Int)) rfl (by simp) (by omega) (fun x hx => .one hx) q (ih (o + 1) (by omega) q hq))
    unfold s4_1
    rw [decide_eq_true (by omega), cond_true, beh_at r g hn (o : Int), opt_mk]
    rfl
theorem l_drops (n : Nat) (hn : n ≤ 100) : ∀ (d o : Nat) (els : List V) (ms : List (List (V × V))) (lk ws : List (V × V)) (ix : Bs → Nat) (L : List Lk) (W : WL), o + d = 8 → Rep els ms lk ws ix L W → Good 8 60 L W →
    ∃ els' ms' lk' ws' ix' L' W', Rep els' ms' lk' ws' ix' L' W' ∧ Good 8 60 L' W' ∧ ((L' = L ∧ W' = W ∧ ∀ x : Int, (o : Int) ≤ x → x < 8 → getA W x ≠ none ∨ ¬ Busy L x) ∨ cnt L' < cnt L) ∧
      ∀ q, Go kcB true 2 fa4 (.head 3 (T4_3 ((n + 1 : Nat) : Int) els' ms' lk' ws')) q → Go kcB true 2 fa4 (.head 4 (T4_4 (n : Int) (o : Int) els ms lk ws)) q := by
  intro d
  induction d with
  | zero =>
    intro o els ms lk ws ix L W ho r g
    refine ⟨els, ms, lk, ws, ix, L, W, r, g, .inl ⟨rfl, rfl, fun x h1 h2 => by omega⟩, fun q hq => s4_4_run _ _ _ _ _ _ ?_ hq⟩
    unfold s4_4
    rw [decide_eq_false (by omega), cond_false, wi n (by omega)]
  | succ d ih =>
    intro o els ms lk ws ix L W ho r g
    have k1 := waits_at r g (by omega) (o : Int)
    cases hw : waitA L W (o : Int) with
    | some p =>
      rw [hw] at k1
      obtain ⟨els', ms', lk', ws', ix', L', W', a1, a2, a3, a4⟩ := ih (o + 1) els ms lk ws ix L W (by omega) r g
      refine ⟨els', ms', lk', ws', ix', L', W', a1, a2, ?_, fun q hq => s4_4_run _ _ _ _ _ _ ?_ (a4 q hq)⟩
      · rcases a3 with ⟨h1, h2, h3⟩ | a3
        · refine .inl ⟨h1, h2, fun x hx1 hx2 => ?_⟩
          by_cases hxo : x = (o : Int)
          · left
            rw [hxo, (wait_some hw).1]; simp
          · exact h3 x (by omega) hx2
        · exact .inr a3
      · unfold s4_4
        rw [decide_eq_true (by omega), cond_true, icM_of mk15_inj k1]
        dsimp only
        rw [Option.isSome_some, Bool.not_true, cond_false, wi o (by omega)]
    | none =>
      rw [hw] at k1
      have hwn := wait_none g hw
      obtain ⟨els2, ms2, lk2, ix2, k2, r2⟩ := drop_at r g (by omega) (o : Int)
      have g2 := Good.drop g (o : Int)
      obtain ⟨els', ms', lk', ws', ix', L', W', a1, a2, a3, a4⟩ := ih (o + 1) els2 ms2 lk2 _ ix2 _ _ (by omega) r2 g2
      refine ⟨els', ms', lk', ws', ix', L', W', a1, a2, ?_, fun q hq => s4_4_run _ _ _ _ _ _ ?_ (a4 q hq)⟩
      · by_cases hb : Busy L (o : Int)
        · right
          have h1 : cnt (dropA L W (o : Int)).1 < cnt L := cntP_lt (fun x hx => drop_busy hx) ⟨by omega, by omega⟩ (drop_done g) hb
          rcases a3 with ⟨h2, _, _⟩ | a3
          · rw [h2]; exact h1
          · omega
        · have hd := drop_idle g hb
          rw [hd] at a3
          rcases a3 with ⟨h1, h2, h3⟩ | a3
          · refine .inl ⟨h1, h2, fun x hx1 hx2 => ?_⟩
            by_cases hxo : x = (o : Int)
            · right; rw [hxo]; exact hb
            · exact h3 x (by omega) hx2
          · exact .inr a3
      · unfold s4_4
        rw [decide_eq_true (by omega), cond_true, icM_of mk15_inj k1]
        dsimp only
        rw [Option.isSome_none, Bool.not_false, cond_true, icM_of mk18_inj k2]
        dsimp only
        rw [wi o (by omega)]
theorem l_end (r : Rep els ms lk ws ix L W) (g : Good 8 60 L W) (hb : ∀ x, ¬ Busy L x) : ∀ (d o : Nat), o + d = 8 → ∃ m, Go kcB true 2 fa4 (.head 5 (T4_5 (o : Int) els ms lk ws)) (.doneM (.bool true) m) := by
  intro d
  induction d with
  | zero =>
    intro o ho
    apply Exists.intro
    refine s4_5_run _ _ _ _ _ ?_ (.refl _)
    unfold s4_5
    rw [decide_eq_false (by omega), cond_false, pcK_of fixed_ok, kB_mk]
  | succ d ih =>
    intro o ho
    obtain ⟨m, c⟩ := ih (o + 1) (by omega)
    have hwn : getA W (o : Int) = none := by
      cases hg : getA W (o : Int) with
      | none => rfl
      | some x => exact absurd (g.waits_busy (by rw [hg]; simp)) (hb o)
    have k1 := waits_at r g (by omega) (o : Int)
    rw [wait_of hwn] at k1
    have k2 := held_at r g (by omega) (o : Int)
    rw [held_nil fun e he hk => hb o ⟨e, he, .inl hk⟩] at k2
    refine ⟨m, s4_5_run _ _ _ _ _ ?_ c⟩
    unfold s4_5
    rw [decide_eq_true (by omega), cond_true, icM_of mk15_inj k1]
    dsimp only
    rw [Option.isSome_none, cond_false, icM_of mk19_inj k2]
    dsimp only
    rw [show (((([] : List (Bs × Int)).map hoV).length : Int) != 0) = false from rfl, cond_false, wi o (by omega)]
theorem l_rounds : ∀ (d n : Nat) (els : List V) (ms : List (List (V × V))) (lk ws : List (V × V)) (ix : Bs → Nat) (L : List Lk) (W : WL), n + d = 8 → cnt L ≤ d → Rep els ms lk ws ix L W → Good 8 60 L W →
    ∃ m, Go kcB true 2 fa4 (.head 3 (T4_3 (n : Int) els ms lk ws)) (.doneM (.bool true) m) := by
  intro d
  induction d with
  | zero =>
    intro n els ms lk ws ix L W hn hc r g
    have hb : ∀ x, ¬ Busy L x := fun x hx => cntP_zero (show cnt L = 0 by omega) (g.busy hx) hx
    obtain ⟨m, c⟩ := l_end r g hb 8 0 rfl
    refine ⟨m, s4_3_run _ _ _ _ _ ?_ c⟩
    unfold s4_3
    rw [decide_eq_false (by omega), cond_false]; rfl
  | succ d ih =>
    intro n els ms lk ws ix L W hn hc r g
    obtain ⟨els', ms', lk', ws', ix', L', W', a1, a2, a3, a4⟩ := l_drops n (by omega) 8 0 els ms lk ws ix L W rfl r g
    have hc' : cnt L' ≤ d := by
      rcases a3 with ⟨h1, h2, h3⟩ | a3
      · have hb := no_wait g (fun x hx => (h3 x (g.busy hx).1 (g.busy hx).2).resolve_right fun f => f hx)
        have : cnt L' = 0 := by
          rw [h1]
          unfold cnt cntP
          rw [List.length_eq_zero_iff, List.filter_eq_nil_iff]
          intro k _ hk
          exact hb _ (@of_decide_eq_true _ (Classical.propDecidable _) hk)
        omega
      · omega
    obtain ⟨m, c⟩ := ih (n + 1) els' ms' lk' ws' ix' L' W' (by omega) hc' a1 a2
    refine ⟨m, s4_3_run _ _ _ _ _ ?_ (a4 _ c)⟩
    unfold s4_3
    rw [decide_eq_true (by omega), cond_true]; rfl
end
theorem l_play (ops : List Op) : ∀ (d i : Nat) (els : List V) (ms : List (List (V × V))) (lk ws : List (V × V)) (ix : Bs → Nat) (L : List Lk) (W : WL), i + d = 60 → Rep els ms lk ws ix L W → Good 8 i L W →
    ∃ m, Go kcB true 2 fa4 (L0 (ops.map opV) i els ms lk ws) (.doneM (.bool true) m) := by
  intro d
  induction d with
  | zero =>
    intro i els ms lk ws ix L W hi r g
    obtain ⟨m, c⟩ := l_rounds 8 0 els ms lk ws ix L W rfl (cntP_max _) r (g.more (by omega))
    refine ⟨m, s4_0_run _ _ _ _ _ _ ?_ c⟩
    unfold s4_0
    by_cases hl : i < ops.length
    · rw [decide_eq_true (by simp; omega), cond_true, decide_eq_false (by omega), cond_false]; rfl
    · rw [decide_eq_false (by simp; omega), cond_false]; rfl
  | succ d ih =>
    intro i els ms lk ws ix L W hi r g
    by_cases hl : i < ops.length
    · obtain ⟨o, ho⟩ : ∃ o, ops[i]? = some o := ⟨_, List.getElem?_eq_getElem hl⟩
      obtain ⟨w, hw, ew⟩ := and7 o.owner
      have hcn := cut_nm o.name
      have g2 := g.play (o := w) hw.2 o.kind (cutN o.name) o.mode
      have hdec : decide ((i : Int) < ((ops.map opV).length : Int)) = true := decide_eq_true (by simp; omega)
      have hget := fun q => op_get ho q
      suffices hs : ∃ els' ms' lk' ix', Rep els' ms' lk' ((playA L W o.kind w (cutN o.name) o.mode).2.map wE) ix' (playA L W o.kind w (cutN o.name) o.mode).1 (playA L W o.kind w (cutN o.name) o.mode).2 ∧
          ∀ q, Go kcB true 2 fa4 (L1 (ops.map opV) i 0 els' ms' lk' ((playA L W o.kind w (cutN o.name) o.mode).2.map wE)) q → Go kcB true 2 fa4 (L0 (ops.map opV) i els ms lk ws) q by
        obtain ⟨els', ms', lk', ix', r', q'⟩ := hs
        obtain ⟨m, c⟩ := ih (i + 1) els' ms' lk' _ ix' _ _ (by omega) r' g2
        exact ⟨m, q' _ (l_owners (ops.map opV) i (by omega) r' g2 (by omega) 8 0 rfl _ c)⟩
      by_cases h0 : o.kind = 0
      · have hp : playA L W o.kind w (cutN o.name) o.mode = (askA L W w (cutN o.name) o.mode).2 := if_pos h0
        rw [hp] at g2 ⊢
        obtain ⟨els', ms', lk', ix', k1, r'⟩ := ask_at r g (by omega) w (by unfold I64; omega) (cutN o.name) o.mode
        refine ⟨els', ms', lk', ix', r', fun q hq => s4_0_run _ _ _ _ _ _ ?_ hq⟩
        unfold s4_0
        rw [hdec, cond_true, decide_eq_true (by omega), cond_true, gd_of (by simp), hget, dO, gc1, gd_true, gc2, gd_true, ibeq_t h0, cond_true, cut_fold, ew, icM_of mk20_inj k1]
        rfl
      by_cases h1 : o.kind = 1
      · have hp : playA L W o.kind w (cutN o.name) o.mode = ((freeA L W w (cutN o.name)).2.1, (freeA L W w (cutN o.name)).2.2.1) := (if_neg h0).trans (if_pos h1)
        rw [hp] at g2 ⊢
        obtain ⟨els', ms', lk', ix', k1, r'⟩ := free_at r g (by omega) w (cutN o.name)
        refine ⟨els', ms', lk', ix', r', fun q hq => s4_0_run _ _ _ _ _ _ ?_ hq⟩
        unfold s4_0
        rw [hdec, cond_true, decide_eq_true (by omega), cond_true, gd_of (by simp), hget, dO, gc1, gd_true, gc2, gd_true, ibeq_f h0, cond_false, ibeq_t h1, cond_true, cut_fold, ew, icM_of mk24_inj k1]
        rfl
      · have hp : playA L W o.kind w (cutN o.name) o.mode = ((dropA L W w).1, (dropA L W w).2.1) := (if_neg h0).trans (if_neg h1)
        rw [hp] at g2 ⊢
        obtain ⟨els', ms', lk', ix', k1, r'⟩ := drop_at r g (by omega) w
        refine ⟨els', ms', lk', ix', r', fun q hq => s4_0_run _ _ _ _ _ _ ?_ hq⟩
        unfold s4_0
        rw [hdec, cond_true, decide_eq_true (by omega), cond_true, gd_of (by simp), hget, dO, gc1, gd_true, gc2, gd_true, ibeq_f h0, cond_false, ibeq_f h1, cond_false, ew, icM_of mk18_inj k1]
        rfl
    · obtain ⟨m, c⟩ := l_rounds 8 0 els ms lk ws ix L W rfl (cntP_max _) r (g.more (by omega))
      refine ⟨m, s4_0_run _ _ _ _ _ _ ?_ c⟩
      unfold s4_0
      rw [decide_eq_false (by simp; omega), cond_false]; rfl
theorem lockLives_ok (ops : List Op) : pcW cfgB 4 [.sl (ops.map opV)] = some (.bool true) := by
  obtain ⟨m, c⟩ := l_play ops 60 0 [] [] [] [] (fun _ => 0) [] [] rfl Rep.mt (Good.mt (by decide))
  refine law_run rfl fa4_eq rfl rfl ?_ rfl ((e4_eq _).trans ?_) c
  · unfold arsOk
    rw [plain_sc]; rfl
  · rfl
end Go.Proofs.Ytpkeiaeaonmacaa
namespace Go.Proofs.Ytpkeiaeaonmacaa
open Go Go.Lite Go.ChangeShapes Go.WideShapes Go.ChangeAt Go.RowKit
set_option linter.unusedVariables false
set_option linter.unnecessarySimpa false
set_option maxRecDepth 100000
theorem hok : CfgOK cfgB := hokB
theorem tInt {n : Nat} {vs : List V} (h : TyC Try.prog n 3 vs) : ∃ m, vs = [.int .i64 m] ∧ (Lit.int .i64 m).wf = true := by
  cases n with
  | zero => cases h
  | succ n => unfold TyC at h; rw [Try.underlying3] at h; exact h
theorem aInt {n : Nat} {x : V} (h : ArgT Try.prog n 3 x) : ∃ m, x = .int .i64 m ∧ (Lit.int .i64 m).wf = true := by
  have h2 := h.leaf (by rw [Try.underlying3]; rfl)
  obtain ⟨m, e, w⟩ := tInt h.1
  exact ⟨m, by rw [h2] at e; simpa using e, w⟩
theorem tStr {n : Nat} {vs : List V} (h : TyC Try.prog n 9 vs) : ∃ s, vs = [.str s] ∧ s.length ≤ maxLen := by
  cases n with
  | zero => cases h
  | succ n => unfold TyC at h; rw [Try.underlying9] at h; exact h
theorem tOp {n : Nat} {vs : List V} (h : TyC Try.prog n 27 vs) : ∃ o : Op, vs = [.int .i64 o.kind, .int .i64 o.owner, .str o.name, .int .i64 o.mode] := by
  cases n with
  | zero => cases h
  | succ n =>
    unfold TyC at h
    rw [Try.underlying27] at h
    obtain ⟨hl, hf⟩ := h
    rw [show Try.prog.cellsOf 27 = 4 by kernel_rfl] at hl
    simp only [List.mem_cons, forall_eq_or_imp, List.not_mem_nil, false_implies, implies_true, and_true, show Try.prog.cellsOf 3 = 1 by kernel_rfl, show Try.prog.cellsOf 9 = 1 by kernel_rfl] at hf
    obtain ⟨h0, h1, h2, h3⟩ := hf
    obtain ⟨k, e0, _⟩ := tInt h0
    obtain ⟨p, e1, _⟩ := tInt h1
    obtain ⟨s, e2, _⟩ := tStr h2
    obtain ⟨m, e3, _⟩ := tInt h3
    match vs, hl, e0, e1, e2, e3 with
    | [b0, b1, b2, b3], _, e0, e1, e2, e3 =>
      simp at e0 e1 e2 e3
      exact ⟨⟨k, p, s, m⟩, by rw [e0, e1, e2, e3]⟩
theorem aOp0 {n : Nat} {x : V} (h : ArgT Try.prog n 27 x) : ∃ cs, x = .agg cs ∧ TyC Try.prog n 27 cs := by
  obtain ⟨cs, rfl⟩ := h.agg (by rw [Try.underlying27]; rfl)
  exact ⟨cs, rfl, h.1⟩
theorem aOp' {n : Nat} {x : V} (h : ArgT Try.prog n 27 x) : ∃ o : Op, x = opV o ∧ (fun _ => True) o := by
  obtain ⟨cs, rfl, hC⟩ := aOp0 h
  obtain ⟨o, rfl⟩ := tOp hC
  exact ⟨o, rfl, trivial⟩
theorem lOps : ∀ {l : List V}, (∀ x ∈ l, ∃ m : Op, x = (opV) m ∧ (fun _ => True) m) → ∃ ms : List Op, l = ms.map (opV) ∧ ∀ m ∈ ms, (fun _ => True) m
  | [], _ => ⟨[], rfl, by simp⟩
  | x :: l, h => by
    obtain ⟨a, rfl, ha⟩ := h x (by simp)
    obtain ⟨ms, rfl, hb⟩ := lOps (fun y hy => h y (by simp [hy]) : ∀ y ∈ l, _)
    refine ⟨a :: ms, rfl, fun m hm => ?_⟩
    rcases List.mem_cons.1 hm with rfl | hm
    · exact ha
    · exact hb m hm
theorem tOps {n : Nat} {vs : List V} (h : TyC Try.prog n 22 vs) : ∃ ms : List Op, vs = [.sl (ms.map (opV))] ∧ ms.length ≤ maxLen ∧ ∀ m ∈ ms, (fun _ => True) m := by
  cases n with
  | zero => cases h
  | succ n =>
    unfold TyC at h
    rw [Try.underlying22] at h
    obtain ⟨l, rfl, hl, hx⟩ := h
    obtain ⟨ms, rfl, hm⟩ := lOps fun x hm => aOp' (n := n) (hx x hm)
    exact ⟨ms, rfl, by simpa using hl, hm⟩
theorem aOps {n : Nat} {x : V} (h : ArgT Try.prog n 22 x) : ∃ ms : List Op, x = .sl (ms.map (opV)) ∧ ms.length ≤ maxLen ∧ ∀ m ∈ ms, (fun _ => True) m := by
  have h2 := h.leaf (by rw [Try.underlying22]; rfl)
  obtain ⟨m, e, w⟩ := tOps h.1
  exact ⟨m, by rw [h2] at e; simpa using e, w⟩
theorem own : ownKnob Try.prog.godebug = none := by kernel_rfl
theorem args1 {P : Program} {n : Nat} {t : TypeId} {xs : List V} (h : ArgsT P n [t] xs) : ∃ a, xs = [a] ∧ ArgT P n t a := by
  match xs, h with
  | [a], h => exact ⟨a, rfl, h.1⟩
theorem args2 {P : Program} {n : Nat} {t t' : TypeId} {xs : List V} (h : ArgsT P n [t, t'] xs) : ∃ a b, xs = [a, b] ∧ ArgT P n t a ∧ ArgT P n t' b := by
  match xs, h with
  | [a, b], h => exact ⟨a, b, rfl, h.1, h.2.1⟩
theorem len1 {α : Type} {l : List α} (h : l.length = 1) : ∃ a, l = [a] := by
  match l, h with
  | [a], _ => exact ⟨a, rfl⟩
theorem len2 {α : Type} {l : List α} (h : l.length = 2) : ∃ a b, l = [a, b] := by
  match l, h with
  | [a, b], _ => exact ⟨a, b, rfl⟩
theorem lockLives_args (xs : List V) (h : ArgsT cfgB.P 6 Try.f4.params.toList xs) : pcW cfgB 4 xs = some (.bool true) := by
  rw [Try.params4] at h
  obtain ⟨a, rfl, ha⟩ := args1 h
  obtain ⟨p, rfl, _⟩ := aOps ha
  exact lockLives_ok p
set_option maxRecDepth 100000 in
theorem lockLives_lifted (os : Os) (started : os.Started) (H : Type) (enc : TypeId × Value → H) :
    ReturnsInHanded {} Try.checked os 4 .any (Rows.lockLivesSpec.pre6 enc Try.prog Try.f4 Rows.lockLivesRow.domain false) (Rows.lockLivesSpec.post enc Try.prog Try.f4 false true false false) := by
  refine returnsInHanded_of_change (C := Try.checked) own started (by kernel_rfl) Try.func4
    (ChangeSpec.witness6 (enc := enc) (C := Try.checked) false ⟨#[], #[.slice none 0 0], []⟩ 8 (by kernel_rfl) (by kernel_rfl) (by kernel_rfl) (by kernel_rfl)) ?_
  intro W base args ds gs before hval hW _ _
  exact law_contract hok 6 (by kernel_rfl) (by kernel_rfl) (s := Rows.lockLivesSpec) rfl (by kernel_rfl) (tb := 4) (by kernel_rfl) Try.underlying4
    (fun H ds h => by
      obtain ⟨a, rfl⟩ := len1 (h.trans (by rw [Try.params4]; rfl))
      rfl) lockLives_args W base args ds gs before hval hW
theorem lockLives_holds : Rows.LockLivesSaid :=
  OpenClaim.holds_of_wide 4 Try.f4 rfl rfl rfl rfl rfl rfl rfl ⟨rfl, rfl, rfl, rfl, rfl⟩ rfl rfl rfl rfl rfl (by kernel_rfl) Try.func4 (by kernel_rfl)
    (of_decide_eq_true (by kernel_rfl)) (by unfold Func.isWrapper; first | (rw [if_pos (by decide +kernel)]; kernel_rfl) | (rw [if_neg (by decide +kernel)]; exact ⟨rfl, rfl⟩))
    (fun os started H enc _ => lockLives_lifted os started H enc)
end Go.Proofs.Ytpkeiaeaonmacaa
