/-
  A law of layer 9 (lock): whatever the input, it returns true and leaves its arguments as they were. No condition.
-/
import Derived.Test.YtpkeiaeaonmacaaZ6
import Derived.Test.YtpkeiaeaonmacaaRows
import Derived.WalkKit
import Derived.ProofKit
import Derived.OpenShut
import Derived.KernelRfl
import Derived.Handed
import Derived.JoinedOf
import Derived.JoinedCond
namespace Go.Proofs.Ytpkeiaeaonmacaa
open Go Go.Lite
set_option maxRecDepth 100000
set_option linter.unusedVariables false
noncomputable def fa3 : FA := ⟨1, 124, [.tmp 2], [4],
 (.seq
 (.ops false [o1 2 (.assign (.const (.bool false))) 4])
 (.seq
 (.ops false [o1 13 (.call ⟨(.value (.func 9)), #[], #[]⟩) 23, asg 3 13 23])
 (.seq
 (.seq
 (.ops false [o1 4 (.assign (.const (.int .i64 (0)))) 3])
 (.block 0
 (.loop ([1] ++ List.range' 5 119)
 (.seq
 (.seq
 (.ops false [mv 14 4 3, mv 15 0 22, o1 16 (.call ⟨(.builtin .len), #[(t' 15)], #[22]⟩) 3, o1 17 (.binOp .lss 3 (t' 14) (t' 16) 3) 4, mv 18 17 4, o2 19 (.move (t' 4)) 3 18 true, o2 20 (.binOp .lss 3 (t' 19) (.const (.int .i64 (60))) 3) 4 18 true, o1 21 (.pick (t' 18) (t' 20) (.const (.bool false))) 4])
 (.cond (t' 21)
 (.skip)
 (.exit 0)))
 (.seq
 (.block 1
 (.seq
 (.seq
 (.ops false [mv 24 3 23, o1 25 (.binOp .eql 23 (t' 24) (.const (.pointer none)) 23) 4])
 (.cond (t' 25)
 (.seq
 (.ops false [o1 2 (.assign (.const (.bool false))) 4])
 (.ret))
 (.skip)))
 (.seq
 (.ops false [mv 26 3 23, mv 27 0 22, mv 28 4 3, o1 29 (.indexAddr 22 (t' 27) (t' 28)) 0, o1 30 (.load 27 (t' 29)) 27, o1 31 (.call ⟨(.value (.func 10)), #[(t' 26), (t' 30)], #[23, 27]⟩) 0])
 (.seq
 (.ops true [mv 32 0 22, mv 33 4 3, o1 34 (.indexAddr 22 (t' 32) (t' 33)) 0, o1 35 (.fieldAddr 27 (t' 34) 2) 0, o1 36 (.load 9 (t' 35)) 9, mv 37 0 22, mv 38 4 3, o1 39 (.indexAddr 22 (t' 37) (t' 38)) 0, o1 40 (.fieldAddr 27 (t' 39) 2) 0, o1 41 (.load 9 (t' 40)) 9, o1 42 (.call ⟨(.builtin .len), #[(t' 41)], #[9]⟩) 3, o1 43 (.call ⟨(.builtin .min), #[(t' 42), (.const (.int .i64 (2)))], #[3, 3]⟩) 3, o1 44 (.slice 9 (t' 36) none (some (t' 43)) none) 9, asg 5 44 9])
 (.seq
 (.ops false [mv 45 3 23, mv 46 5 9, o1 47 (.call ⟨(.value (.func 11)), #[(t' 45), (t' 46)], #[23, 9]⟩) 28, mv 48 3 23, mv 49 5 9, o1 50 (.call ⟨(.value (.func 12)), #[(t' 48), (t' 49)], #[23, 9]⟩) 28, asg 6 47 28, asg 7 50 28])
 (.seq
 (.seq
 (.ops false [o1 8 (.assign (.const (.int .i64 (0)))) 3])
 (.block 2
 (.loop ([1] ++ List.range' 9 115)
 (.seq
 (.seq
 (.ops false [mv 51 8 3, mv 52 6 28, o1 53 (.call ⟨(.builtin .len), #[(t' 52)], #[28]⟩) 3, o1 54 (.binOp .lss 3 (t' 51) (t' 53) 3) 4])
 (.cond (t' 54)
 (.skip)
 (.exit 2)))
 (.seq
 (.block 3
 (.seq
 (.ops false [o1 9 (.assign (.const (.int .i64 (0)))) 3])
 (.block 4
 (.loop ([1] ++ List.range' 10 114)
 (.seq
 (.seq
 (.ops false [mv 57 9 3, mv 58 8 3, o1 59 (.binOp .lss 3 (t' 57) (t' 58) 3) 4])
 (.cond (t' 59)
 (.skip)
 (.exit 4)))
 (.seq
 (.block 5
 (.seq
 (.ops true [mv 62 3 23, mv 63 6 28, mv 64 8 3, o1 65 (.indexAddr 28 (t' 63) (t' 64)) 0, o1 66 (.load 3 (t' 65)) 3, mv 67 5 9, ⟨(some 68), .call ⟨(.value (.func 14)), #[(t' 62), (t' 66), (t' 67)], #[23, 3, 9]⟩, 3, none, true, true, false⟩, mv 69 3 23, mv 70 6 28, mv 71 9 3, ⟨(some 72), .indexAddr 28 (t' 70) (t' 71), 0, none, true, true, false⟩, ⟨(some 73), .load 3 (t' 72), 3, none, true, true, false⟩, mv 74 5 9, ⟨(some 75), .call ⟨(.value (.func 14)), #[(t' 69), (t' 73), (t' 74)], #[23, 3, 9]⟩, 3, none, false, true, false⟩, ⟨(some 76), .call ⟨(.value (.func 13)), #[(t' 68), (t' 75)], #[3, 3]⟩, 4, none, false, true, false⟩, o1 77 (.unOp .not 4 (t' 76)) 4])
 (.cond (t' 77)
 (.seq
 (.ops false [o1 2 (.assign (.const (.bool false))) 4])
 (.ret))
 (.skip))))
 (.ops false [mv 60 9 3, o1 61 (.binOp .add 3 (t' 60) (.const (.int .i64 (1))) 3) 3, asg 9 61 3])))))))
 (.ops false [mv 55 8 3, o1 56 (.binOp .add 3 (t' 55) (.const (.int .i64 (1))) 3) 3, asg 8 56 3]))))))
 (.seq
 (.ops false [o1 10 (.assign (.const (.int .i64 (0)))) 3])
 (.block 6
 (.loop ([1, 6, 8, 9] ++ List.range' 11 113)
 (.seq
 (.seq
 (.ops false [mv 78 10 3, mv 79 7 28, o1 80 (.call ⟨(.builtin .len), #[(t' 79)], #[28]⟩) 3, o1 81 (.binOp .lss 3 (t' 78) (t' 80) 3) 4])
 (.cond (t' 81)
 (.skip)
 (.exit 6)))
 (.seq
 (.block 7
 (.seq
 (.ops false [mv 85 3 23, mv 86 7 28, mv 87 10 3, o1 88 (.indexAddr 28 (t' 86) (t' 87)) 0, o1 89 (.load 3 (t' 88)) 3, o1 90 (.call ⟨(.value (.func 15)), #[(t' 85), (t' 89)], #[23, 3]⟩) 34, mv 84 90 34, o1 91 (.extract (t' 84) 0) 33, o1 92 (.extract (t' 84) 1) 4, o1 11 (.alloc 33) 0, o0 (.store 33 (t' 11) (t' 91)) 0, asg 12 92 4])
 (.seq
 (.ops true [mv 93 12 4, o1 94 (.unOp .not 4 (t' 93)) 4, mv 95 94 4, o2 96 (.fieldAddr 33 (t' 11) 0) 0 95 false, o2 97 (.load 9 (t' 96)) 9 95 false, o2 98 (.move (t' 5)) 9 95 false, o2 99 (.binOp .neq 9 (t' 97) (t' 98) 9) 4 95 false, o1 100 (.pick (t' 95) (.const (.bool true)) (t' 99)) 4, mv 101 100 4, o2 102 (.move (t' 3)) 23 101 false, o2 103 (.move (t' 7)) 28 101 false, o2 104 (.move (t' 10)) 3 101 false, o2 105 (.indexAddr 28 (t' 103) (t' 104)) 0 101 false, o2 106 (.load 3 (t' 105)) 3 101 false, o2 107 (.move (t' 5)) 9 101 false, ⟨(some 108), .call ⟨(.value (.func 14)), #[(t' 102), (t' 106), (t' 107)], #[23, 3, 9]⟩, 3, (some (101, false)), true, true, false⟩, o2 109 (.fieldAddr 33 (t' 11) 1) 0 101 false, ⟨(some 110), .load 3 (t' 109), 3, (some (101, false)), true, true, false⟩, o2 111 (.binOp .eql 3 (t' 108) (t' 110) 3) 4 101 false, o1 112 (.pick (t' 101) (.const (.bool true)) (t' 111)) 4, mv 113 112 4, o2 114 (.move (t' 3)) 23 113 false, o2 115 (.move (t' 7)) 28 113 false, o2 116 (.move (t' 10)) 3 113 false, o2 117 (.indexAddr 28 (t' 115) (t' 116)) 0 113 false, o2 118 (.load 3 (t' 117)) 3 113 false, ⟨(some 119), .call ⟨(.value (.func 16)), #[(t' 114), (t' 118)], #[23, 3]⟩, 28, (some (113, false)), false, true, false⟩, o2 120 (.call ⟨(.builtin .len), #[(t' 119)], #[28]⟩) 3 113 false, o2 121 (.binOp .eql 3 (t' 120) (.const (.int .i64 (0))) 3) 4 113 false, o1 122 (.pick (t' 113) (.const (.bool true)) (t' 121)) 4])
 (.cond (t' 122)
 (.seq
 (.ops false [o1 2 (.assign (.const (.bool false))) 4])
 (.ret))
 (.skip)))))
 (.ops false [mv 82 10 3, o1 83 (.binOp .add 3 (t' 82) (.const (.int .i64 (1))) 3) 3, asg 10 83 3]))))))))))))
 (.ops false [mv 22 4 3, o1 23 (.binOp .add 3 (t' 22) (.const (.int .i64 (1))) 3) 3, asg 4 23 3]))))))
 (.seq
 (.ops false [o1 123 (.call ⟨(.value (.func 17)), #[], #[]⟩) 4, asg 2 123 4])
 (.ret)))))⟩
theorem fa3_eq : fnA cfgB.P (cfgB.rxf 3) 3 = some fa3 := by kernel_rfl
def T3_0 (x0 : List V) (x4 : Int) (m0 : List V) (m1 : List (List (V × V))) (m3 m4 : List (V × V)) : S := ⟨[V.sl x0, V.junk, V.bool false, V.ptr 2 0 0, V.int .i64 x4] ++ (JU 119), (tm m0 m1 m3 m4)⟩
def T3_1 (x0 : List V) (x4 : Int) (x5 : List UInt8) (x8 : Int) (m0 : List V) (m1 : List (List (V × V))) (m3 m4 : List V) (m5 m6 : List (V × V)) : S := ⟨[V.sl x0, V.junk, V.bool false, V.ptr 2 0 0, V.int .i64 x4, V.str x5, V.own 3, V.own 4, V.int .i64 x8] ++ (JU 115), [O.arena 61 m0, O.marena 58 m1, O.box 50 (V.agg [V.mp 5, V.mp 6]) false, O.row 3 m3 0, O.row 3 m4 0, O.map m5, O.map m6]⟩
def T3_2 (x0 : List V) (x4 : Int) (x5 : List UInt8) (x8 x9 : Int) (m0 : List V) (m1 : List (List (V × V))) (m3 m4 : List V) (m5 m6 : List (V × V)) : S := ⟨[V.sl x0, V.junk, V.bool false, V.ptr 2 0 0, V.int .i64 x4, V.str x5, V.own 3, V.own 4, V.int .i64 x8, V.int .i64 x9] ++ (JU 114), [O.arena 61 m0, O.marena 58 m1, O.box 50 (V.agg [V.mp 5, V.mp 6]) false, O.row 3 m3 0, O.row 3 m4 0, O.map m5, O.map m6]⟩
def T3_3 (x0 : List V) (x4 : Int) (x5 : List UInt8) (x10 : Int) (m0 : List V) (m1 : List (List (V × V))) (m3 : List V) (m4 m5 : List (V × V)) : S := ⟨[V.sl x0, V.junk, V.bool false, V.ptr 2 0 0, V.int .i64 x4, V.str x5, V.junk, V.own 3, V.junk, V.junk, V.int .i64 x10] ++ (JU 113), [O.arena 61 m0, O.marena 58 m1, O.box 50 (V.agg [V.mp 4, V.mp 5]) false, O.row 3 m3 0, O.map m4, O.map m5]⟩
noncomputable def e3 (sc : List V) : R :=
  some (.head 0 (T3_0 sc 0 [] [] [] []))
theorem e3_eq (sc : List V) : enterK kcB true fa3 [V.sl sc] [O.arena 61 [], O.marena 58 []] = e3 sc := by kernel_rfl
noncomputable def s3_0 (x0 : List V) (x4 : Int) (m0 : List V) (m1 : List (List (V × V))) (m3 m4 : List (V × V)) : R :=
  cond (decide (x4 < (x0.length : Int)))
 (cond (decide (x4 < 60))
 (gd (decide (0 <= x4)) <|
  idxK x0 x4.toNat fun v =>
  d27 v fun kind0 owner name mode =>
  gd (decide (0 <= (if 2 < (name.length : Int) then 2 else (name.length : Int)))) <|
  gd (decide ((if 2 < (name.length : Int) then 2 else (name.length : Int)).toNat <= name.length)) <|
  cond (kind0 == (0 : Int))
 (icM cfgB ⟨true, false⟩ mk20 20 [V.ptr 2 0 0, V.int .i64 (W .i64 (((BitVec.ofInt (IntKind.bits .i64) owner &&& BitVec.ofInt (IntKind.bits .i64) 7).toNat : Int))), V.str (name.take ((if 2 < (name.length : Int) then 2 else (name.length : Int)).toNat)), V.int .i64 mode] (tm m0 m1 m3 m4) fun L =>
  gd (decide (0 <= x4)) <|
  idxK x0 x4.toNat fun v_1 =>
  d27 v_1 fun kind0_1 owner_1 name_1 mode_1 =>
  gd (decide (0 <= x4)) <|
  idxK x0 x4.toNat fun v_2 =>
  d27 v_2 fun kind0_2 owner_2 name_2 mode_2 =>
  gd (decide (0 <= (if 2 < (name_2.length : Int) then 2 else (name_2.length : Int)))) <|
  gd (decide ((if 2 < (name_2.length : Int) then 2 else (name_2.length : Int)).toNat <= name_1.length)) <|
  icM cfgB ⟨true, false⟩ mk11 11 [V.ptr 2 0 0, V.str (name_1.take ((if 2 < (name_2.length : Int) then 2 else (name_2.length : Int)).toNat))] (tm L.2.1 L.2.2.1 L.2.2.2.1 L.2.2.2.2) fun L_1 =>
  icM cfgB ⟨true, false⟩ mk12 12 [V.ptr 2 0 0, V.str (name_1.take ((if 2 < (name_2.length : Int) then 2 else (name_2.length : Int)).toNat))] (tm L_1.1 L_1.2.1 L_1.2.2.1 L_1.2.2.2.1) fun L_2 =>
  some (.head 1 (T3_1 x0 x4 (name_1.take ((if 2 < (name_2.length : Int) then 2 else (name_2.length : Int)).toNat)) 0 L_2.1 L_2.2.1 L_1.2.2.2.2 L_2.2.2.2.2 L_2.2.2.1 L_2.2.2.2.1)))
 (cond (kind0 == (1 : Int))
 (icM cfgB ⟨true, false⟩ mk24 24 [V.ptr 2 0 0, V.int .i64 (W .i64 (((BitVec.ofInt (IntKind.bits .i64) owner &&& BitVec.ofInt (IntKind.bits .i64) 7).toNat : Int))), V.str (name.take ((if 2 < (name.length : Int) then 2 else (name.length : Int)).toNat))] (tm m0 m1 m3 m4) fun L_3 =>
  gd (decide (0 <= x4)) <|
  idxK x0 x4.toNat fun v_3 =>
  d27 v_3 fun kind0_3 owner_3 name_3 mode_3 =>
  gd (decide (0 <= x4)) <|
  idxK x0 x4.toNat fun v_4 =>
  d27 v_4 fun kind0_4 owner_4 name_4 mode_4 =>
  gd (decide (0 <= (if 2 < (name_4.length : Int) then 2 else (name_4.length : Int)))) <|
  gd (decide ((if 2 < (name_4.length : Int) then 2 else (name_4.length : Int)).toNat <= name_3.length)) <|
  icM cfgB ⟨true, false⟩ mk11 11 [V.ptr 2 0 0, V.str (name_3.take ((if 2 < (name_4.length : Int) then 2 else (name_4.length : Int)).toNat))] (tm L_3.2.1 L_3.2.2.1 L_3.2.2.2.1 L_3.2.2.2.2.1) fun L_4 =>
  icM cfgB ⟨true, false⟩ mk12 12 [V.ptr 2 0 0, V.str (name_3.take ((if 2 < (name_4.length : Int) then 2 else (name_4.length : Int)).toNat))] (tm L_4.1 L_4.2.1 L_4.2.2.1 L_4.2.2.2.1) fun L_5 =>
  some (.head 1 (T3_1 x0 x4 (name_3.take ((if 2 < (name_4.length : Int) then 2 else (name_4.length : Int)).toNat)) 0 L_5.1 L_5.2.1 L_4.2.2.2.2 L_5.2.2.2.2 L_5.2.2.1 L_5.2.2.2.1)))
 (icM cfgB ⟨true, false⟩ mk18 18 [V.ptr 2 0 0, V.int .i64 (W .i64 (((BitVec.ofInt (IntKind.bits .i64) owner &&& BitVec.ofInt (IntKind.bits .i64) 7).toNat : Int)))] (tm m0 m1 m3 m4) fun L_6 =>
  gd (decide (0 <= x4)) <|
  idxK x0 x4.toNat fun v_5 =>
  d27 v_5 fun kind0_5 owner_5 name_5 mode_5 =>
  gd (decide (0 <= x4)) <|
  idxK x0 x4.toNat fun v_6 =>
  d27 v_6 fun kind0_6 owner_6 name_6 mode_6 =>
  gd (decide (0 <= (if 2 < (name_6.length : Int) then 2 else (name_6.length : Int)))) <|
  gd (decide ((if 2 < (name_6.length : Int) then 2 else (name_6.length : Int)).toNat <= name_5.length)) <|
  icM cfgB ⟨true, false⟩ mk11 11 [V.ptr 2 0 0, V.str (name_5.take ((if 2 < (name_6.length : Int) then 2 else (name_6.length : Int)).toNat))] (tm L_6.1 L_6.2.1 L_6.2.2.1 L_6.2.2.2.1) fun L_7 =>
  icM cfgB ⟨true, false⟩ mk12 12 [V.ptr 2 0 0, V.str (name_5.take ((if 2 < (name_6.length : Int) then 2 else (name_6.length : Int)).toNat))] (tm L_7.1 L_7.2.1 L_7.2.2.1 L_7.2.2.2.1) fun L_8 =>
  some (.head 1 (T3_1 x0 x4 (name_5.take ((if 2 < (name_6.length : Int) then 2 else (name_6.length : Int)).toNat)) 0 L_8.1 L_8.2.1 L_7.2.2.2.2 L_8.2.2.2.2 L_8.2.2.1 L_8.2.2.2.1)))))
 (pcK cfgB 17 [] fun r =>
  kB r fun r17 =>
  some (.doneM (V.bool r17) (tm m0 m1 m3 m4))))
 (pcK cfgB 17 [] fun r_1 =>
  kB r_1 fun r17_1 =>
  some (.doneM (V.bool r17_1) (tm m0 m1 m3 m4)))
theorem s3_0_eq (x0 : List V) (x4 : Int) (m0 : List V) (m1 : List (List (V × V))) (m3 m4 : List (V × V)) : goK kcB true 2 fa3 0 (T3_0 x0 x4 m0 m1 m3 m4) = s3_0 x0 x4 m0 m1 m3 m4 := by kernel_rfl
theorem s3_0_run (x0 : List V) (x4 : Int) (m0 : List V) (m1 : List (List (V × V))) (m3 m4 : List (V × V)) {o o' : Out} (h : s3_0 x0 x4 m0 m1 m3 m4 = some o) (hg : Go kcB true 2 fa3 o o') : Go kcB true 2 fa3 (.head 0 (T3_0 x0 x4 m0 m1 m3 m4)) o' := .step ((s3_0_eq ..).trans h) hg
noncomputable def s3_1 (x0 : List V) (x4 : Int) (x5 : List UInt8) (x8 : Int) (m0 : List V) (m1 : List (List (V × V))) (m3 m4 : List V) (m5 m6 : List (V × V)) : R :=
  cond (decide (x8 < (m3.length : Int)))
 (some (.head 2 (T3_2 x0 x4 x5 x8 0 m0 m1 m3 m4 m5 m6)))
 (some (.head 3 (T3_3 x0 x4 x5 0 m0 m1 m4 m5 m6)))
theorem s3_1_eq (x0 : List V) (x4 : Int) (x5 : List UInt8) (x8 : Int) (m0 : List V) (m1 : List (List (V × V))) (m3 m4 : List V) (m5 m6 : List (V × V)) : goK kcB true 2 fa3 1 (T3_1 x0 x4 x5 x8 m0 m1 m3 m4 m5 m6) = s3_1 x0 x4 x5 x8 m0 m1 m3 m4 m5 m6 := by kernel_rfl
theorem s3_1_run (x0 : List V) (x4 : Int) (x5 : List UInt8) (x8 : Int) (m0 : List V) (m1 : List (List (V × V))) (m3 m4 : List V) (m5 m6 : List (V × V)) {o o' : Out} (h : s3_1 x0 x4 x5 x8 m0 m1 m3 m4 m5 m6 = some o) (hg : Go kcB true 2 fa3 o o') : Go kcB true 2 fa3 (.head 1 (T3_1 x0 x4 x5 x8 m0 m1 m3 m4 m5 m6)) o' := .step ((s3_1_eq ..).trans h) hg
noncomputable def s3_2 (x0 : List V) (x4 : Int) (x5 : List UInt8) (x8 x9 : Int) (m0 : List V) (m1 : List (List (V × V))) (m3 m4 : List V) (m5 m6 : List (V × V)) : R :=
  cond (decide (x9 < x8))
 (gd (decide (0 <= x8)) <|
  gd (decide (x8.toNat < m3.length)) <|
  idxK m3 x8.toNat fun v =>
  kI .i64 v fun n =>
  icM cfgB ⟨true, false⟩ mk14 14 [V.ptr 2 0 0, V.int .i64 n, V.str x5] (tm m0 m1 m5 m6) fun L =>
  gd (decide (0 <= x9)) <|
  gd (decide (x9.toNat < m3.length)) <|
  idxK m3 x9.toNat fun v_1 =>
  kI .i64 v_1 fun n_1 =>
  icM cfgB ⟨true, false⟩ mk14 14 [V.ptr 2 0 0, V.int .i64 n_1, V.str x5] (tm L.2.1 L.2.2.1 L.2.2.2.1 L.2.2.2.2) fun L_1 =>
  pcK cfgB 13 [V.int .i64 L.1, V.int .i64 L_1.1] fun r =>
  kB r fun r13 =>
  cond (!r13)
 (some (.doneM (V.bool false) (tm L_1.2.1 L_1.2.2.1 L_1.2.2.2.1 L_1.2.2.2.2)))
 (some (.head 2 (T3_2 x0 x4 x5 x8 (W .i64 (x9 + 1)) L_1.2.1 L_1.2.2.1 m3 m4 L_1.2.2.2.1 L_1.2.2.2.2))))
 (some (.head 1 (T3_1 x0 x4 x5 (W .i64 (x8 + 1)) m0 m1 m3 m4 m5 m6)))
theorem s3_2_eq (x0 : List V) (x4 : Int) (x5 : List UInt8) (x8 x9 : Int) (m0 : List V) (m1 : List (List (V × V))) (m3 m4 : List V) (m5 m6 : List (V × V)) : goK kcB true 2 fa3 2 (T3_2 x0 x4 x5 x8 x9 m0 m1 m3 m4 m5 m6) = s3_2 x0 x4 x5 x8 x9 m0 m1 m3 m4 m5 m6 := by kernel_rfl
theorem s3_2_run (x0 : List V) (x4 : Int) (x5 : List UInt8) (x8 x9 : Int) (m0 : List V) (m1 : List (List (V × V))) (m3 m4 : List V) (m5 m6 : List (V × V)) {o o' : Out} (h : s3_2 x0 x4 x5 x8 x9 m0 m1 m3 m4 m5 m6 = some o) (hg : Go kcB true 2 fa3 o o') : Go kcB true 2 fa3 (.head 2 (T3_2 x0 x4 x5 x8 x9 m0 m1 m3 m4 m5 m6)) o' := .step ((s3_2_eq ..).trans h) hg
noncomputable def s3_3 (x0 : List V) (x4 : Int) (x5 : List UInt8) (x10 : Int) (m0 : List V) (m1 : List (List (V × V))) (m3 : List V) (m4 m5 : List (V × V)) : R :=
  cond (decide (x10 < (m3.length : Int)))
 (gd (decide (0 <= x10)) <|
  gd (decide (x10.toNat < m3.length)) <|
  idxK m3 x10.toNat fun v =>
  kI .i64 v fun n =>
  icM cfgB ⟨true, false⟩ mk15 15 [V.ptr 2 0 0, V.int .i64 n] (tm m0 m1 m4 m5) fun L =>
  cond (!L.2.2.1)
 (some (.doneM (V.bool false) (tm L.2.2.2.1 L.2.2.2.2.1 L.2.2.2.2.2.1 L.2.2.2.2.2.2)))
 (cond (!(L.1 == x5))
 (some (.doneM (V.bool false) (tm L.2.2.2.1 L.2.2.2.2.1 L.2.2.2.2.2.1 L.2.2.2.2.2.2)))
 (gd (decide (0 <= x10)) <|
  gd (decide (x10.toNat < m3.length)) <|
  idxK m3 x10.toNat fun v_1 =>
  kI .i64 v_1 fun n_1 =>
  icM cfgB ⟨true, false⟩ mk14 14 [V.ptr 2 0 0, V.int .i64 n_1, V.str x5] (tm L.2.2.2.1 L.2.2.2.2.1 L.2.2.2.2.2.1 L.2.2.2.2.2.2) fun L_1 =>
  cond (L_1.1 == L.2.1)
 (some (.doneM (V.bool false) (tm L_1.2.1 L_1.2.2.1 L_1.2.2.2.1 L_1.2.2.2.2)))
 (gd (decide (0 <= x10)) <|
  gd (decide (x10.toNat < m3.length)) <|
  idxK m3 x10.toNat fun v_2 =>
  kI .i64 v_2 fun n_2 =>
  opt (behindX L_1.2.1 L_1.2.2.1 L_1.2.2.2.1 L_1.2.2.2.2 n_2) fun l =>
  cond (((l.map iV).length : Int) == (0 : Int))
 (some (.doneM (V.bool false) (tm L_1.2.1 L_1.2.2.1 L_1.2.2.2.1 L_1.2.2.2.2)))
 (some (.head 3 (T3_3 x0 x4 x5 (W .i64 (x10 + 1)) L_1.2.1 L_1.2.2.1 m3 L_1.2.2.2.1 L_1.2.2.2.2)))))))
 (some (.head 0 (T3_0 x0 (W .i64 (x4 + 1)) m0 m1 m4 m5)))
theorem s3_3_eq (x0 : List V) (x4 : Int) (x5 : List UInt8) (x10 : Int) (m0 : List V) (m1 : List (List (V × V))) (m3 : List V) (m4 m5 : List (V × V)) : goK kcB true 2 fa3 3 (T3_3 x0 x4 x5 x10 m0 m1 m3 m4 m5) = s3_3 x0 x4 x5 x10 m0 m1 m3 m4 m5 := by kernel_rfl
theorem s3_3_run (x0 : List V) (x4 : Int) (x5 : List UInt8) (x10 : Int) (m0 : List V) (m1 : List (List (V × V))) (m3 : List V) (m4 m5 : List (V × V)) {o o' : Out} (h : s3_3 x0 x4 x5 x10 m0 m1 m3 m4 m5 = some o) (hg : Go kcB true 2 fa3 o o') : Go kcB true 2 fa3 (.head 3 (T3_3 x0 x4 x5 x10 m0 m1 m3 m4 m5)) o' := .step ((s3_3_eq ..).trans h) hg
set_option linter.unusedSimpArgs false
set_option linter.unnecessarySimpa false
set_option maxRecDepth 10000
structure Op where
  kind : Int
  owner : Int
  name : Bs
  mode : Int
def opV (o : Op) : V := .agg [.int .i64 o.kind, .int .i64 o.owner, .str o.name, .int .i64 o.mode]
theorem dO (o : Op) (k : Int -> Int -> Bs -> Int -> R) : d27 (opV o) k = k o.kind o.owner o.name o.mode := rfl
def cutN (s : Bs) : Bs := s.take ((if 2 < (s.length : Int) then 2 else (s.length : Int)).toNat)
theorem cut_nm (s : Bs) : Nm (cutN s) := by
  unfold cutN Nm
  rw [List.length_take]
  split <;> omega
theorem cut_fold (s : Bs) : s.take ((if 2 < (s.length : Int) then 2 else (s.length : Int)).toNat) = cutN s := rfl
theorem gc1 (s : Bs) : decide (0 <= (if 2 < (s.length : Int) then 2 else (s.length : Int))) = true := decide_eq_true (by split <;> omega)
theorem gc2 (s : Bs) : decide ((if 2 < (s.length : Int) then 2 else (s.length : Int)).toNat <= s.length) = true := decide_eq_true (by split <;> omega)
theorem and7 (x : Int) : ∃ q : Int, (0 <= q /\ q < 8) /\ W .i64 (((BitVec.ofInt (IntKind.bits .i64) x &&& BitVec.ofInt (IntKind.bits .i64) 7).toNat : Int)) = q := by
  refine ⟨((BitVec.ofInt 64 x &&& BitVec.ofInt 64 7).toNat : Nat), ⟨by omega, ?_⟩, ?_⟩
  · rw [BitVec.toNat_and]
    have := Nat.lt_of_le_of_lt (@Nat.and_le_right (BitVec.ofInt 64 x).toNat (BitVec.ofInt 64 7).toNat) (show (BitVec.ofInt 64 7).toNat < 8 by decide)
    omega
  · change W .i64 (((BitVec.ofInt 64 x &&& BitVec.ofInt 64 7).toNat : Int)) = _
    have : (BitVec.ofInt 64 x &&& BitVec.ofInt 64 7).toNat < 8 := by
      rw [BitVec.toNat_and]
      exact Nat.lt_of_le_of_lt Nat.and_le_right (by decide)
    exact W_i64 (by omega)
theorem op_get {ops : List Op} {i : Nat} {o : Op} (h : ops[i]? = some o) (q : V -> R) : idxK (ops.map opV) ((i : Int)).toNat q = q (opV o) := idxK_c h
noncomputable def playA (L : List Lk) (W : WL) (k : Int) (o : Int) (nm : Bs) (m : Int) : List Lk × WL :=
  if k = 0 then (askA L W o nm m).2 else if k = 1 then ((freeA L W o nm).2.1, (freeA L W o nm).2.2.1) else ((dropA L W o).1, (dropA L W o).2.1)
section
variable {els : List V} {ms : List (List (V × V))} {lk ws : List (V × V)} {ix : Bs -> Nat} {L : List Lk} {W : WL} {b : Int} {n N : Nat} {nm : Bs} {e : Lk} {o : Int}
theorem Good.play (g : Good b n L W) (ho : o < b) (k : Int) (nm : Bs) (m : Int) : Good b (n + 1) (playA L W k o nm m).1 (playA L W k o nm m).2 := by
  unfold playA
  split
  · exact g.ask ho nm m
  · split
    · exact (Good.free g o nm).more (by omega)
    · exact (Good.drop g o).more (by omega)
end
theorem plain_sc (ops : List Op) : plainL [.sl (ops.map opV)] = true := by
  have : ∀ l : List Op, plainL (l.map opV) = true := by
    intro l
    induction l with
    | nil => rfl
    | cons o l ih =>
      rw [List.map_cons]
      unfold plainL
      rw [ih]
      rfl
  simp only [plainL, V.plain, this, Bool.and_true]
section
variable {els : List V} {ms : List (List (V × V))} {lk ws : List (V × V)} {ix : Bs -> Nat} {L : List Lk} {W : WL} {b : Int} {n : Nat} {nm : Bs} {e : Lk} {o x y : Int}
theorem hold_nodup (g : Good b n L W) : (holdA L nm).Nodup := by
  unfold holdA
  split
  · exact List.nodup_nil
  · rename_i e he
    exact srt_nodup (g.hn e (getL_some he).1)
theorem hold_mode (g : Good b n L W) (h : x ∈ holdA L nm) : ∃ e, getL L nm = some e /\ e ∈ L /\ (x, modeA L x nm) ∈ e.held := by
  unfold holdA at h
  split at h
  · cases h
  · rename_i e he
    have hm := srt_mem.1 h
    obtain ⟨p, hp, rfl⟩ := List.mem_map.1 hm
    have := getA_of (g.hn e (getL_some he).1) hp
    refine ⟨e, he, (getL_some he).1, ?_⟩
    unfold modeA
    rw [he, Option.bind_some, this]
    exact hp
theorem hold_fit (g : Good b n L W) (hx : x ∈ holdA L nm) (hy : y ∈ holdA L nm) (hne : x ≠ y) : fitsB (modeA L x nm) (modeA L y nm) = true := by
  obtain ⟨e, h1, h2, h3⟩ := hold_mode g hx
  obtain ⟨e', h1', _, h3'⟩ := hold_mode g hy
  rw [h1] at h1'
  cases h1'
  exact g.fit e h2 _ h3 _ h3' hne
theorem hold_le (g : Good b n L W) (hn : n <= 3000) : (holdA L nm).length <= 100000 := by
  unfold holdA
  split
  · simp
  · rename_i e he
    rw [srt_len, List.length_map]
    have := tot_mem (getL_some he).1
    have := g.tot
    omega
theorem queue_le (g : Good b n L W) (hn : n <= 3000) : (queueA L nm).length <= 100000 := by
  unfold queueA
  split
  · simp
  · rename_i e he
    rw [List.length_map]
    have := tot_mem (getL_some he).1
    have := g.tot
    omega
theorem queue_of (g : Good b n L W) (h : x ∈ queueA L nm) : ∃ m, waitA L W x = some (nm, m) /\ (modeA L x nm == m) = false /\ behA L W x ≠ [] := by
  unfold queueA at h
  split at h
  · cases h
  · rename_i e he
    obtain ⟨he1, he2⟩ := getL_some he
    obtain ⟨⟨x', m⟩, hp, rfl⟩ := List.mem_map.1 h
    have hq := getA_of (g.qn e he1) hp
    have hw := g.wq e he1 _ hp
    refine ⟨m, ?_, ?_, ?_⟩
    · unfold waitA
      rw [hw, Option.bind_some, he2, he, Option.bind_some, hq]; rfl
    · have h1 := g.nb e he1 _ hp
      have h2 := g.qm e he1 _ hp
      unfold modeA
      rw [he, Option.bind_some]
      simp only at h1 h2 |-
      cases hh : getA e.held x' with
      | none => simp; omega
      | some q => rw [hh] at h1; simp; exact fun e => h1 (by rw [e])
    · obtain ⟨i, hi⟩ := List.getElem?_of_mem hp
      have key : ∃ z, (z ∈ (e.q.take i).map (·.1) ∨ ∃ p ∈ e.held, p.1 = z /\ p.1 ≠ x' /\ fitsB p.2 m = false) := by
        cases i with
        | zero =>
          cases hq2 : e.q with
          | nil => rw [hq2] at hi; simp at hi
          | cons p r =>
            rw [hq2] at hi
            have hp : p = (x', m) := by simpa using hi
            have := g.first e he1 (fun f => f) p r hq2
            rw [hp] at this
            obtain ⟨p', hp', h3, h4⟩ := canB_not.1 this
            exact ⟨p'.1, .inr ⟨p', hp', rfl, h3, h4⟩⟩
        | succ i =>
          cases hq2 : e.q with
          | nil => rw [hq2] at hi; simp at hi
          | cons p r => exact ⟨p.1, .inl (by simp)⟩
      obtain ⟨z, hz⟩ := key
      have : z ∈ behA L W x' := g.edge.2 ⟨e, he1, i, m, hi, hz⟩
      intro e0
      rw [e0] at this
      cases this
abbrev F0 (sc : List V) (i : Nat) (els : List V) (ms : List (List (V × V))) (lk ws : List (V × V)) : Out := .head 0 (T3_0 sc (i : Int) els ms lk ws)
abbrev F1 (sc : List V) (i : Nat) (nm : Bs) (a : Nat) (h q : List Int) (els : List V) (ms : List (List (V × V))) (lk ws : List (V × V)) : Out := .head 1 (T3_1 sc (i : Int) nm (a : Int) els ms (ints h) (ints q) lk ws)
abbrev F2 (sc : List V) (i : Nat) (nm : Bs) (a k : Nat) (h q : List Int) (els : List V) (ms : List (List (V × V))) (lk ws : List (V × V)) : Out := .head 2 (T3_2 sc (i : Int) nm (a : Int) (k : Int) els ms (ints h) (ints q) lk ws)
abbrev F3 (sc : List V) (i : Nat) (nm : Bs) (a : Nat) (q : List Int) (els : List V) (ms : List (List (V × V))) (lk ws : List (V × V)) : Out := .head 3 (T3_3 sc (i : Int) nm (a : Int) els ms (ints q) lk ws)
theorem f_in (sc : List V) (i : Nat) (hi : i <= 100) (r : Rep els ms lk ws ix L W) (g : Good b n L W) (Q : List Int) (hl : (holdA L nm).length <= 100000) (a : Nat) (ha : a < (holdA L nm).length) : ∀ (d k : Nat), k + d = a ->
    ∀ q, Go kcB true 2 fa3 (F1 sc i nm (a + 1) (holdA L nm) Q els ms lk ws) q -> Go kcB true 2 fa3 (F2 sc i nm a k (holdA L nm) Q els ms lk ws) q := by
  intro d
  induction d with
  | zero =>
    intro k hk q hq
    refine s3_2_run _ _ _ _ _ _ _ _ _ _ _ ?_ hq
    unfold s3_2
    rw [decide_eq_false (by omega), cond_false, wi a (by omega)]
  | succ d ih =>
    intro k hk q hq
    obtain ⟨x, hx⟩ : ∃ x, (holdA L nm)[a]? = some x := ⟨_, List.getElem?_eq_getElem ha⟩
    obtain ⟨y, hy⟩ : ∃ y, (holdA L nm)[k]? = some y := ⟨_, List.getElem?_eq_getElem (by omega)⟩
    have hne : x ≠ y := by
      intro e
      rw [e] at hx
      have := (List.getElem?_inj ha (hold_nodup g)).1 (hx.trans hy.symm)
      omega
    have hf := hold_fit g (List.mem_of_getElem? hx) (List.mem_of_getElem? hy) hne
    refine s3_2_run _ _ _ _ _ _ _ _ _ _ _ ?_ (ih (k + 1) (by omega) q hq)
    unfold s3_2
    rw [decide_eq_true (by omega), cond_true, gd_of (by simp), gd_of (decide_eq_true (by rw [ints_len]; omega)), toNat_cast, ints_get hx, kI_mk, icM_of mk14_inj (mode_ok r x nm)]
    dsimp only
    rw [gd_of (by simp), gd_of (decide_eq_true (by rw [ints_len]; omega)), toNat_cast, ints_get hy, kI_mk, icM_of mk14_inj (mode_ok r y nm)]
    dsimp only
    rw [pcK_of (rfitsW _ _), kB_mk, hf, Bool.not_true, cond_false, wi k (by omega)]
theorem f_queue (sc : List V) (i : Nat) (hi : i <= 100) (r : Rep els ms lk ws ix L W) (g : Good b n L W) (hn : n <= 3000) (hl : (queueA L nm).length <= 100000) : ∀ (d a : Nat), a + d = (queueA L nm).length ->
    ∀ q, Go kcB true 2 fa3 (F0 sc (i + 1) els ms lk ws) q -> Go kcB true 2 fa3 (F3 sc i nm a (queueA L nm) els ms lk ws) q := by
  intro d
  induction d with
  | zero =>
    intro a ha q hq
    refine s3_3_run _ _ _ _ _ _ _ _ _ ?_ hq
    unfold s3_3
    rw [decide_eq_false (by rw [ints_len]; omega), cond_false, wi i (by omega)]
  | succ d ih =>
    intro a ha q hq
    obtain ⟨x, hx⟩ : ∃ x, (queueA L nm)[a]? = some x := ⟨_, List.getElem?_eq_getElem (by omega)⟩
    obtain ⟨m, h1, h2, h3⟩ := queue_of g (List.mem_of_getElem? hx)
    have k1 := waits_at r g hn x
    rw [h1] at k1
    refine s3_3_run _ _ _ _ _ _ _ _ _ ?_ (ih (a + 1) (by omega) q hq)
    unfold s3_3
    rw [decide_eq_true (by rw [ints_len]; omega), cond_true, gd_of (by simp), gd_of (decide_eq_true (by rw [ints_len]; omega)), toNat_cast, ints_get hx, kI_mk, icM_of mk15_inj k1]
    dsimp only
    rw [Option.isSome_some, Bool.not_true, cond_false, show (((some (nm, m)).getD ([], 0)).1 == nm) = true from beq_self_eq_true nm, Bool.not_true, cond_false,
      gd_of (by simp), gd_of (decide_eq_true (by rw [ints_len]; omega)), ints_get hx, kI_mk, icM_of mk14_inj (mode_ok r x nm)]
    dsimp only
    rw [show (modeA L x nm == ((some (nm, m)).getD ([], 0)).2) = false from h2, cond_false,
      gd_of (by simp), gd_of (decide_eq_true (by rw [ints_len]; omega)), ints_get hx, kI_mk, beh_at r g hn x, opt_mk,
      show ((((behA L W x).map iV).length : Int) == 0) = false by
        cases hb : behA L W x with
        | nil => exact (h3 hb).elim
        | cons _ _ => simp; omega, cond_false, wi a (by omega)]
theorem f_hold (sc : List V) (i : Nat) (hi : i <= 100) (r : Rep els ms lk ws ix L W) (g : Good b n L W) (hn : n <= 3000) (hl : (holdA L nm).length <= 100000) (hl2 : (queueA L nm).length <= 100000) : ∀ (d a : Nat), a + d = (holdA L nm).length ->
    ∀ q, Go kcB true 2 fa3 (F0 sc (i + 1) els ms lk ws) q -> Go kcB true 2 fa3 (F1 sc i nm a (holdA L nm) (queueA L nm) els ms lk ws) q := by
  intro d
  induction d with
  | zero =>
    intro a ha q hq
    refine s3_1_run _ _ _ _ _ _ _ _ _ _ ?_ (f_queue sc i hi r g hn hl2 _ 0 (Nat.zero_add _) q hq)
    unfold s3_1
    rw [decide_eq_false (by rw [ints_len]; omega), cond_false]; rfl
  | succ d ih =>
    intro a ha q hq
    refine s3_1_run _ _ _ _ _ _ _ _ _ _ ?_ (f_in sc i hi r g _ hl a (by omega) a 0 (Nat.zero_add _) q (ih (a + 1) (by omega) q hq))
    unfold s3_1
    rw [decide_eq_true (by rw [ints_len]; omega), cond_true]; rfl
end
theorem f_play (ops : List Op) : ∀ (d i : Nat) (els : List V) (ms : List (List (V × V))) (lk ws : List (V × V)) (ix : Bs -> Nat) (L : List Lk) (W : WL), i + d = 60 -> Rep els ms lk ws ix L W -> Good 8 i L W ->
    ∃ m, Go kcB true 2 fa3 (F0 (ops.map opV) i els ms lk ws) (.doneM (.bool true) m) := by
  intro d
  induction d with
  | zero =>
    intro i els ms lk ws ix L W hi r g
    apply Exists.intro
    refine s3_0_run _ _ _ _ _ _ ?_ (.refl _)
    unfold s3_0
    by_cases hl : i < ops.length
    · rw [decide_eq_true (by simp; omega), cond_true, decide_eq_false (by omega), cond_false, pcK_of fixed_ok, kB_mk]
    · rw [decide_eq_false (by simp; omega), cond_false, pcK_of fixed_ok, kB_mk]
  | succ d ih =>
    intro i els ms lk ws ix L W hi r g
    by_cases hl : i < ops.length
    · obtain ⟨o, ho⟩ : ∃ o, ops[i]? = some o := ⟨_, List.getElem?_eq_getElem hl⟩
      obtain ⟨w, hw, ew⟩ := and7 o.owner
      have hcn := cut_nm o.name
      have g2 := g.play (o := w) hw.2 o.kind (cutN o.name) o.mode
      have hdec : decide ((i : Int) < ((ops.map opV).length : Int)) = true := decide_eq_true (by simp; omega)
      have hget := fun q => op_get ho q
      have fin : ∀ (els' : List V) (ms' : List (List (V × V))) (lk' : List (V × V)) (ix' : Bs -> Nat), Rep els' ms' lk' ((playA L W o.kind w (cutN o.name) o.mode).2.map wE) ix' (playA L W o.kind w (cutN o.name) o.mode).1 (playA L W o.kind w (cutN o.name) o.mode).2 ->
          ∃ m, Go kcB true 2 fa3 (F1 (ops.map opV) i (cutN o.name) 0 (holdA (playA L W o.kind w (cutN o.name) o.mode).1 (cutN o.name)) (queueA (playA L W o.kind w (cutN o.name) o.mode).1 (cutN o.name)) els' ms' lk' ((playA L W o.kind w (cutN o.name) o.mode).2.map wE)) (.doneM (.bool true) m) := by
        intro els' ms' lk' ix' r'
        obtain ⟨m, c⟩ := ih (i + 1) els' ms' lk' _ ix' _ _ (by omega) r' g2
        exact ⟨m, f_hold (ops.map opV) i (by omega) r' g2 (by omega) (hold_le g2 (by omega)) (queue_le g2 (by omega)) _ 0 (Nat.zero_add _) _ c⟩
      by_cases h0 : o.kind = 0
      · have hp : playA L W o.kind w (cutN o.name) o.mode = (askA L W w (cutN o.name) o.mode).2 := if_pos h0
        rw [hp] at g2 fin
        obtain ⟨els', ms', lk', ix', k1, r'⟩ := ask_at r g (by omega) w (by unfold I64; omega) (cutN o.name) o.mode
        obtain ⟨m, c⟩ := fin els' ms' lk' ix' r'
        refine ⟨m, s3_0_run _ _ _ _ _ _ ?_ c⟩
        unfold s3_0
        rw [hdec, cond_true, decide_eq_true (by omega), cond_true, gd_of (by simp), hget, dO, gc1, gd_true, gc2, gd_true, ibeq_t h0, cond_true, cut_fold, ew, icM_of mk20_inj k1]
        dsimp only
        rw [gd_of (by simp), hget, dO, gd_of (by simp), hget, dO, gc1, gd_true, gc2, gd_true, cut_fold, icM_of mk11_inj (holders_at r' g2 (by omega) _)]
        dsimp only
        rw [icM_of mk12_inj (queue_at r' g2 (by omega) _)]
        rfl
      by_cases h1 : o.kind = 1
      · have hp : playA L W o.kind w (cutN o.name) o.mode = ((freeA L W w (cutN o.name)).2.1, (freeA L W w (cutN o.name)).2.2.1) := (if_neg h0).trans (if_pos h1)
        rw [hp] at g2 fin
        obtain ⟨els', ms', lk', ix', k1, r'⟩ := free_at r g (by omega) w (cutN o.name)
        obtain ⟨m, c⟩ := fin els' ms' lk' ix' r'
        refine ⟨m, s3_0_run _ _ _ _ _ _ ?_ c⟩
        unfold s3_0
        rw [hdec, cond_true, decide_eq_true (by omega), cond_true, gd_of (by simp), hget, dO, gc1, gd_true, gc2, gd_true, ibeq_f h0, cond_false, ibeq_t h1, cond_true, cut_fold, ew, icM_of mk24_inj k1]
        dsimp only
        rw [gd_of (by simp), hget, dO, gd_of (by simp), hget, dO, gc1, gd_true, gc2, gd_true, cut_fold, icM_of mk11_inj (holders_at r' g2 (by omega) _)]
        dsimp only
        rw [icM_of mk12_inj (queue_at r' g2 (by omega) _)]
        rfl
      · have hp : playA L W o.kind w (cutN o.name) o.mode = ((dropA L W w).1, (dropA L W w).2.1) := (if_neg h0).trans (if_neg h1)
        rw [hp] at g2 fin
        obtain ⟨els', ms', lk', ix', k1, r'⟩ := drop_at r g (by omega) w
        obtain ⟨m, c⟩ := fin els' ms' lk' ix' r'
        refine ⟨m, s3_0_run _ _ _ _ _ _ ?_ c⟩
        unfold s3_0
        rw [hdec, cond_true, decide_eq_true (by omega), cond_true, gd_of (by simp), hget, dO, gc1, gd_true, gc2, gd_true, ibeq_f h0, cond_false, ibeq_f h1, cond_false, ew, icM_of mk18_inj k1]
        dsimp only
        rw [gd_of (by simp), hget, dO, gd_of (by simp), hget, dO, gc1, gd_true, gc2, gd_true, cut_fold, icM_of mk11_inj (holders_at r' g2 (by omega) _)]
        dsimp only
        rw [icM_of mk12_inj (queue_at r' g2 (by omega) _)]
        rfl
    · apply Exists.intro
      refine s3_0_run _ _ _ _ _ _ ?_ (.refl _)
      unfold s3_0
      rw [decide_eq_false (by simp; omega), cond_false, pcK_of fixed_ok, kB_mk]
theorem lockFits_ok (ops : List Op) : pcW cfgB 3 [.sl (ops.map opV)] = some (.bool true) := by
  obtain ⟨m, c⟩ := f_play ops 60 0 [] [] [] [] (fun _ => 0) [] [] rfl Rep.mt (Good.mt (by decide))
  refine law_run rfl fa3_eq rfl rfl ?_ rfl ((e3_eq _).trans ?_) c
  · unfold arsOk
    rw [plain_sc]; rfl
  · rfl
open Go Go.Lite Go.ChangeShapes Go.WideShapes Go.ChangeAt Go.RowKit
set_option maxRecDepth 100000
theorem hok : CfgOK cfgB := hokB
theorem tInt {n : Nat} {vs : List V} (h : TyC Try.prog n 3 vs) : ∃ m, vs = [.int .i64 m] /\ (Lit.int .i64 m).wf = true := by
  cases n with
  | zero => cases h
  | succ n => unfold TyC at h; rw [Try.underlying3] at h; exact h
theorem tStr {n : Nat} {vs : List V} (h : TyC Try.prog n 9 vs) : ∃ s, vs = [.str s] /\ s.length <= maxLen := by
  cases n with
  | zero => cases h
  | succ n => unfold TyC at h; rw [Try.underlying9] at h; exact h
theorem tOp {n : Nat} {vs : List V} (h : TyC Try.prog n 27 vs) : ∃ o : Op, vs = [.int .i64 o.kind, .int .i64 o.owner, .str o.name, .int .i64 o.mode] := by
  cases n with
  | zero => cases h
  | succ n =>
    unfold TyC at h
    rw [Try.underlying27] at h
    obtain ⟨hl, hf⟩ := h
    rw [show Try.prog.cellsOf 27 = 4 by kernel_rfl] at hl
    simp only [List.mem_cons, forall_eq_or_imp, List.not_mem_nil, false_implies, implies_true, and_true, show Try.prog.cellsOf 3 = 1 by kernel_rfl, show Try.prog.cellsOf 9 = 1 by kernel_rfl] at hf
    obtain ⟨h0, h1, h2, h3⟩ := hf
    obtain ⟨k, e0, _⟩ := tInt h0
    obtain ⟨p, e1, _⟩ := tInt h1
    obtain ⟨s, e2, _⟩ := tStr h2
    obtain ⟨m, e3, _⟩ := tInt h3
    match vs, hl, e0, e1, e2, e3 with
    | [b0, b1, b2, b3], _, e0, e1, e2, e3 =>
      simp at e0 e1 e2 e3
      exact ⟨⟨k, p, s, m⟩, by rw [e0, e1, e2, e3]⟩
theorem aOp0 {n : Nat} {x : V} (h : ArgT Try.prog n 27 x) : ∃ cs, x = .agg cs /\ TyC Try.prog n 27 cs := by
  obtain ⟨cs, rfl⟩ := h.agg (by rw [Try.underlying27]; rfl)
  exact ⟨cs, rfl, h.1⟩
theorem aOp' {n : Nat} {x : V} (h : ArgT Try.prog n 27 x) : ∃ o : Op, x = opV o /\ (fun _ => True) o := by
  obtain ⟨cs, rfl, hC⟩ := aOp0 h
  obtain ⟨o, rfl⟩ := tOp hC
  exact ⟨o, rfl, trivial⟩
theorem lOps : ∀ {l : List V}, (∀ x ∈ l, ∃ m : Op, x = (opV) m /\ (fun _ => True) m) -> ∃ ms : List Op, l = ms.map (opV) /\ ∀ m ∈ ms, (fun _ => True) m
  | [], _ => ⟨[], rfl, by simp⟩
  | x :: l, h => by
    obtain ⟨a, rfl, ha⟩ := h x (by simp)
    obtain ⟨ms, rfl, hb⟩ := lOps (fun y hy => h y (by simp [hy]) : ∀ y ∈ l, _)
    refine ⟨a :: ms, rfl, fun m hm => ?_⟩
    rcases List.mem_cons.1 hm with rfl | hm
    · exact ha
    · exact hb m hm
theorem tOps {n : Nat} {vs : List V} (h : TyC Try.prog n 22 vs) : ∃ ms : List Op, vs = [.sl (ms.map (opV))] /\ ms.length <= maxLen /\ ∀ m ∈ ms, (fun _ => True) m := by
  cases n with
  | zero => cases h
  | succ n =>
    unfold TyC at h
    rw [Try.underlying22] at h
    obtain ⟨l, rfl, hl, hx⟩ := h
    obtain ⟨ms, rfl, hm⟩ := lOps fun x hm => aOp' (n := n) (hx x hm)
    exact ⟨ms, rfl, by simpa using hl, hm⟩
theorem aOps {n : Nat} {x : V} (h : ArgT Try.prog n 22 x) : ∃ ms : List Op, x = .sl (ms.map (opV)) /\ ms.length <= maxLen /\ ∀ m ∈ ms, (fun _ => True) m := by
  have h2 := h.leaf (by rw [Try.underlying22]; rfl)
  obtain ⟨m, e, w⟩ := tOps h.1
  exact ⟨m, by rw [h2] at e; simpa using e, w⟩
theorem own : ownKnob Try.prog.godebug = none := by kernel_rfl
theorem args1 {P : Program} {n : Nat} {t : TypeId} {xs : List V} (h : ArgsT P n [t] xs) : ∃ a, xs = [a] /\ ArgT P n t a := by
  match xs, h with
  | [a], h => exact ⟨a, rfl, h.1⟩
theorem len1 {α : Type} {l : List α} (h : l.length = 1) : ∃ a, l = [a] := by
  match l, h with
  | [a], _ => exact ⟨a, rfl⟩
theorem lockFits_args (xs : List V) (h : ArgsT cfgB.P 6 Try.f3.params.toList xs) : pcW cfgB 3 xs = some (.bool true) := by
  rw [Try.params3] at h
  obtain ⟨a, rfl, ha⟩ := args1 h
  obtain ⟨p, rfl, _⟩ := aOps ha
  exact lockFits_ok p
set_option maxRecDepth 100000 in
theorem lockFits_lifted (os : Os) (started : os.Started) (H : Type) (enc : TypeId × Value -> H) :
    ReturnsInHanded {} Try.checked os 3 .any (Rows.lockFitsSpec.pre6 enc Try.prog Try.f3 Rows.lockFitsRow.domain false) (Rows.lockFitsSpec.post enc Try.prog Try.f3 false true false false) := by
  refine returnsInHanded_of_change (C := Try.checked) own started (by kernel_rfl) Try.func3
    (ChangeSpec.witness6 (enc := enc) (C := Try.checked) false ⟨#[], #[.slice none 0 0], []⟩ 8 (by kernel_rfl) (by kernel_rfl) (by kernel_rfl) (by kernel_rfl)) ?_
  intro W base args ds gs before hval hW _ _
  exact law_contract hok 6 (by kernel_rfl) (by kernel_rfl) (s := Rows.lockFitsSpec) rfl (by kernel_rfl) (tb := 4) (by kernel_rfl) Try.underlying4
    (fun H ds h => by
      obtain ⟨a, rfl⟩ := len1 (h.trans (by rw [Try.params3]; rfl))
      rfl) lockFits_args W base args ds gs before hval hW
theorem lockFits_holds : Rows.LockFitsSaid :=
  OpenClaim.holds_of_wide 3 Try.f3 rfl rfl rfl rfl rfl rfl rfl ⟨rfl, rfl, rfl, rfl, rfl⟩ rfl rfl rfl rfl rfl (by kernel_rfl) Try.func3 (by kernel_rfl)
    (of_decide_eq_true (by kernel_rfl)) (by unfold Func.isWrapper; first | (rw [if_pos (by decide +kernel)]; kernel_rfl) | (rw [if_neg (by decide +kernel)]; exact ⟨rfl, rfl⟩))
    (fun os started H enc _ => lockFits_lifted os started H enc)
end Go.Proofs.Ytpkeiaeaonmacaa
