/-
  A law of layer 9 (lock): whatever the input, it returns true and leaves its arguments as0 they were. No condition.
-/
import Derived.Test.YtpkeiaeaonmacaaZ6
import Derived.Test.YtpkeiaeaonmacaaRows
import Derived.WalkKit
import Derived.ProofKit
import Derived.OpenShut
import Derived.KernelRfl
import Derived.Handed
import Derived.JoinedOf
import Derived.JoinedCond
namespace Go.Proofs.Ytpkeiaeaonmacaa
open Go Go.Lite
set_option maxRecDepth 100000
set_option linter.unusedVariables false
noncomputable def fa7 : FA := ⟨1, 95, [.tmp 2], [4],
 (.seq
 (.ops false [o1 2 (.assign (.const (.bool false))) 4])
 (.seq
 (.ops false [o1 11 (.call ⟨(.value (.func 9)), #[], #[]⟩) 23, asg 3 11 23])
 (.seq
 (.seq
 (.ops false [o1 4 (.assign (.const (.int .i64 (0)))) 3])
 (.block 0
 (.loop ([1] ++ List.range' 5 90)
 (.seq
 (.seq
 (.ops false [mv 12 4 3, mv 13 0 22, o1 14 (.call ⟨(.builtin .len), #[(t' 13)], #[22]⟩) 3, o1 15 (.binOp .lss 3 (t' 12) (t' 14) 3) 4, mv 16 15 4, o2 17 (.move (t' 4)) 3 16 true, o2 18 (.binOp .lss 3 (t' 17) (.const (.int .i64 (60))) 3) 4 16 true, o1 19 (.pick (t' 16) (t' 18) (.const (.bool false))) 4])
 (.cond (t' 19)
 (.skip)
 (.exit 0)))
 (.seq
 (.block 1
 (.seq
 (.seq
 (.ops false [mv 22 3 23, o1 23 (.binOp .eql 23 (t' 22) (.const (.pointer none)) 23) 4])
 (.cond (t' 23)
 (.seq
 (.ops false [o1 2 (.assign (.const (.bool false))) 4])
 (.ret))
 (.skip)))
 (.seq
 (.ops false [mv 24 3 23, mv 25 0 22, mv 26 4 3, o1 27 (.indexAddr 22 (t' 25) (t' 26)) 0, o1 28 (.load 27 (t' 27)) 27, o1 29 (.call ⟨(.value (.func 10)), #[(t' 24), (t' 28)], #[23, 27]⟩) 0])
 (.seq
 (.ops true [mv 30 0 22, mv 31 4 3, o1 32 (.indexAddr 22 (t' 30) (t' 31)) 0, o1 33 (.fieldAddr 27 (t' 32) 1) 0, o1 34 (.load 3 (t' 33)) 3, o1 35 (.binOp .and 3 (t' 34) (.const (.int .i64 (7))) 3) 3, mv 36 0 22, mv 37 4 3, o1 38 (.indexAddr 22 (t' 36) (t' 37)) 0, o1 39 (.fieldAddr 27 (t' 38) 2) 0, o1 40 (.load 9 (t' 39)) 9, mv 41 0 22, mv 42 4 3, o1 43 (.indexAddr 22 (t' 41) (t' 42)) 0, o1 44 (.fieldAddr 27 (t' 43) 2) 0, o1 45 (.load 9 (t' 44)) 9, o1 46 (.call ⟨(.builtin .len), #[(t' 45)], #[9]⟩) 3, o1 47 (.call ⟨(.builtin .min), #[(t' 46), (.const (.int .i64 (2)))], #[3, 3]⟩) 3, o1 48 (.slice 9 (t' 40) none (some (t' 47)) none) 9, asg 5 35 3, asg 6 48 9])
 (.seq
 (.ops false [mv 49 3 23, mv 50 5 3, mv 51 6 9, o1 52 (.call ⟨(.value (.func 14)), #[(t' 49), (t' 50), (t' 51)], #[23, 3, 9]⟩) 3, asg 7 52 3])
 (.seq
 (.ops false [mv 54 3 23, mv 55 5 3, o1 56 (.call ⟨(.value (.func 15)), #[(t' 54), (t' 55)], #[23, 3]⟩) 34, mv 53 56 34, o1 57 (.extract (t' 53) 0) 33, o1 58 (.extract (t' 53) 1) 4, o1 8 (.alloc 33) 0, o0 (.store 33 (t' 8) (t' 57)) 0, asg 9 58 4])
 (.seq
 (.ops false [o1 10 (.assign (.const (.int .i64 (1)))) 3])
 (.block 2
 (.loop ([1, 8] ++ List.range' 11 84)
 (.seq
 (.seq
 (.ops false [mv 59 10 3, o1 60 (.binOp .lss 3 (t' 59) (.const (.int .i64 (7))) 3) 4, mv 61 60 4, o2 62 (.move (t' 7)) 3 61 true, o2 63 (.binOp .neq 3 (t' 62) (.const (.int .i64 (0))) 3) 4 61 true, o1 64 (.pick (t' 61) (t' 63) (.const (.bool false))) 4, mv 65 64 4, o2 66 (.move (t' 9)) 4 65 true, o2 67 (.unOp .not 4 (t' 66)) 4 65 true, o1 68 (.pick (t' 65) (t' 67) (.const (.bool false))) 4])
 (.cond (t' 68)
 (.skip)
 (.exit 2)))
 (.seq
 (.block 3
 (.seq
 (.ops false [mv 71 7 3, mv 72 10 3, o1 73 (.call ⟨(.value (.func 23)), #[(t' 71), (t' 72)], #[3, 3]⟩) 4, mv 74 73 4, o2 75 (.move (t' 3)) 23 74 true, o2 76 (.move (t' 5)) 3 74 true, o2 77 (.move (t' 6)) 9 74 true, o2 78 (.move (t' 10)) 3 74 true, o2 79 (.call ⟨(.value (.func 20)), #[(t' 75), (t' 76), (t' 77), (t' 78)], #[23, 3, 9, 3]⟩) 42 74 true, o2 80 (.binOp .neq 42 (t' 79) (.const (.int .i64 (0))) 42) 4 74 true, o2 81 (.move (t' 80)) 4 74 true, o2 82 (.move (t' 3)) 23 81 false, o2 83 (.move (t' 5)) 3 81 false, o2 84 (.move (t' 6)) 9 81 false, o2 85 (.call ⟨(.value (.func 14)), #[(t' 82), (t' 83), (t' 84)], #[23, 3, 9]⟩) 3 81 false, o2 86 (.move (t' 7)) 3 81 false, o2 87 (.binOp .neq 3 (t' 85) (t' 86) 3) 4 81 false, o2 88 (.pick (t' 81) (.const (.bool true)) (t' 87)) 4 74 true, o1 89 (.pick (t' 74) (t' 88) (.const (.bool false))) 4])
 (.cond (t' 89)
 (.seq
 (.ops false [o1 2 (.assign (.const (.bool false))) 4])
 (.ret))
 (.skip))))
 (.ops false [mv 69 10 3, o1 70 (.binOp .add 3 (t' 69) (.const (.int .i64 (1))) 3) 3, asg 10 70 3]))))))))))))
 (.ops false [mv 20 4 3, o1 21 (.binOp .add 3 (t' 20) (.const (.int .i64 (1))) 3) 3, asg 4 21 3]))))))
 (.seq
 (.ops false [mv 90 3 23, o1 91 (.binOp .neq 23 (t' 90) (.const (.pointer none)) 23) 4, mv 92 91 4, o2 93 (.call ⟨(.value (.func 17)), #[], #[]⟩) 4 92 true, o1 94 (.pick (t' 92) (t' 93) (.const (.bool false))) 4, asg 2 94 4])
 (.ret)))))⟩
theorem fa7_eq : fnA cfgB.P (cfgB.rxf 7) 7 = some fa7 := by kernel_rfl
def T7_0 (x0 : List V) (x4 : Int) (m0 : List V) (m1 : List (List (V × V))) (m3 : List (V × V)) (m4 : List (V × V)) : S := ⟨[V.sl x0, V.junk, V.bool false, V.ptr 2 0 0, V.int .i64 x4] ++ (JU 90), (tm m0 m1 m3 m4)⟩
def T7_1 (x0 : List V) (x4 : Int) (x5 : Int) (x6 : List UInt8) (x7 : Int) (x9 : Bool) (x10 : Int) (m0 : List V) (m1 : List (List (V × V))) (m3 : List (V × V)) (m4 : List (V × V)) : S := ⟨[V.sl x0, V.junk, V.bool false, V.ptr 2 0 0, V.int .i64 x4, V.int .i64 x5, V.str x6, V.int .i64 x7, V.junk, V.bool x9, V.int .i64 x10] ++ (JU 84), (tm m0 m1 m3 m4)⟩
noncomputable def e7 (sc : List V) : R :=
  some (.head 0 (T7_0 sc 0 [] [] [] []))
theorem e7_eq (sc : List V) : enterK kcB true fa7 [V.sl sc] [O.arena 61 [], O.marena 58 []] = e7 sc := by kernel_rfl
noncomputable def s7_0 (x0 : List V) (x4 : Int) (m0 : List V) (m1 : List (List (V × V))) (m3 : List (V × V)) (m4 : List (V × V)) : R :=
  cond (decide (x4 < (x0.length : Int)))
 (cond (decide (x4 < 60))
 (gd (decide (0 ≤ x4)) <|
  idxK x0 x4.toNat fun v =>
  d27 v fun kind0 owner name mode =>
  gd (decide (0 ≤ (if 2 < (name.length : Int) then 2 else (name.length : Int)))) <|
  gd (decide ((if 2 < (name.length : Int) then 2 else (name.length : Int)).toNat ≤ name.length)) <|
  cond (kind0 == (0 : Int))
 (icM cfgB ⟨true, false⟩ mk20 20 [V.ptr 2 0 0, V.int .i64 (W .i64 (((BitVec.ofInt (IntKind.bits .i64) owner &&& BitVec.ofInt (IntKind.bits .i64) 7).toNat : Int))), V.str (name.take ((if 2 < (name.length : Int) then 2 else (name.length : Int)).toNat)), V.int .i64 mode] (tm m0 m1 m3 m4) fun L =>
  gd (decide (0 ≤ x4)) <|
  idxK x0 x4.toNat fun v_1 =>
  d27 v_1 fun kind0_1 owner_1 name_1 mode_1 =>
  gd (decide (0 ≤ x4)) <|
  idxK x0 x4.toNat fun v_2 =>
  d27 v_2 fun kind0_2 owner_2 name_2 mode_2 =>
  gd (decide (0 ≤ x4)) <|
  idxK x0 x4.toNat fun v_3 =>
  d27 v_3 fun kind0_3 owner_3 name_3 mode_3 =>
  gd (decide (0 ≤ (if 2 < (name_3.length : Int) then 2 else (name_3.length : Int)))) <|
  gd (decide ((if 2 < (name_3.length : Int) then 2 else (name_3.length : Int)).toNat ≤ name_2.length)) <|
  icM cfgB ⟨true, false⟩ mk14 14 [V.ptr 2 0 0, V.int .i64 (W .i64 (((BitVec.ofInt (IntKind.bits .i64) owner_1 &&& BitVec.ofInt (IntKind.bits .i64) 7).toNat : Int))), V.str (name_2.take ((if 2 < (name_3.length : Int) then 2 else (name_3.length : Int)).toNat))] (tm L.2.1 L.2.2.1 L.2.2.2.1 L.2.2.2.2) fun L_1 =>
  icM cfgB ⟨true, false⟩ mk15 15 [V.ptr 2 0 0, V.int .i64 (W .i64 (((BitVec.ofInt (IntKind.bits .i64) owner_1 &&& BitVec.ofInt (IntKind.bits .i64) 7).toNat : Int)))] (tm L_1.2.1 L_1.2.2.1 L_1.2.2.2.1 L_1.2.2.2.2) fun L_2 =>
  some (.head 1 (T7_1 x0 x4 (W .i64 (((BitVec.ofInt (IntKind.bits .i64) owner_1 &&& BitVec.ofInt (IntKind.bits .i64) 7).toNat : Int))) (name_2.take ((if 2 < (name_3.length : Int) then 2 else (name_3.length : Int)).toNat)) L_1.1 L_2.2.2.1 1 L_2.2.2.2.1 L_2.2.2.2.2.1 L_2.2.2.2.2.2.1 L_2.2.2.2.2.2.2)))
 (cond (kind0 == (1 : Int))
 (icM cfgB ⟨true, false⟩ mk24 24 [V.ptr 2 0 0, V.int .i64 (W .i64 (((BitVec.ofInt (IntKind.bits .i64) owner &&& BitVec.ofInt (IntKind.bits .i64) 7).toNat : Int))), V.str (name.take ((if 2 < (name.length : Int) then 2 else (name.length : Int)).toNat))] (tm m0 m1 m3 m4) fun L_3 =>
  gd (decide (0 ≤ x4)) <|
  idxK x0 x4.toNat fun v_4 =>
  d27 v_4 fun kind0_4 owner_4 name_4 mode_4 =>
  gd (decide (0 ≤ x4)) <|
  idxK x0 x4.toNat fun v_5 =>
  d27 v_5 fun kind0_5 owner_5 name_5 mode_5 =>
  gd (decide (0 ≤ x4)) <|
  idxK x0 x4.toNat fun v_6 =>
  d27 v_6 fun kind0_6 owner_6 name_6 mode_6 =>
  gd (decide (0 ≤ (if 2 < (name_6.length : Int) then 2 else (name_6.length : Int)))) <|
  gd (decide ((if 2 < (name_6.length : Int) then 2 else (name_6.length : Int)).toNat ≤ name_5.length)) <|
  icM cfgB ⟨true, false⟩ mk14 14 [V.ptr 2 0 0, V.int .i64 (W .i64 (((BitVec.ofInt (IntKind.bits .i64) owner_4 &&& BitVec.ofInt (IntKind.bits .i64) 7).toNat : Int))), V.str (name_5.take ((if 2 < (name_6.length : Int) then 2 else (name_6.length : Int)).toNat))] (tm L_3.2.1 L_3.2.2.1 L_3.2.2.2.1 L_3.2.2.2.2.1) fun L_4 =>
  icM cfgB ⟨true, false⟩ mk15 15 [V.ptr 2 0 0, V.int .i64 (W .i64 (((BitVec.ofInt (IntKind.bits .i64) owner_4 &&& BitVec.ofInt (IntKind.bits .i64) 7).toNat : Int)))] (tm L_4.2.1 L_4.2.2.1 L_4.2.2.2.1 L_4.2.2.2.2) fun L_5 =>
  some (.head 1 (T7_1 x0 x4 (W .i64 (((BitVec.ofInt (IntKind.bits .i64) owner_4 &&& BitVec.ofInt (IntKind.bits .i64) 7).toNat : Int))) (name_5.take ((if 2 < (name_6.length : Int) then 2 else (name_6.length : Int)).toNat)) L_4.1 L_5.2.2.1 1 L_5.2.2.2.1 L_5.2.2.2.2.1 L_5.2.2.2.2.2.1 L_5.2.2.2.2.2.2)))
 (icM cfgB ⟨true, false⟩ mk18 18 [V.ptr 2 0 0, V.int .i64 (W .i64 (((BitVec.ofInt (IntKind.bits .i64) owner &&& BitVec.ofInt (IntKind.bits .i64) 7).toNat : Int)))] (tm m0 m1 m3 m4) fun L_6 =>
  gd (decide (0 ≤ x4)) <|
  idxK x0 x4.toNat fun v_7 =>
  d27 v_7 fun kind0_7 owner_7 name_7 mode_7 =>
  gd (decide (0 ≤ x4)) <|
  idxK x0 x4.toNat fun v_8 =>
  d27 v_8 fun kind0_8 owner_8 name_8 mode_8 =>
  gd (decide (0 ≤ x4)) <|
  idxK x0 x4.toNat fun v_9 =>
  d27 v_9 fun kind0_9 owner_9 name_9 mode_9 =>
  gd (decide (0 ≤ (if 2 < (name_9.length : Int) then 2 else (name_9.length : Int)))) <|
  gd (decide ((if 2 < (name_9.length : Int) then 2 else (name_9.length : Int)).toNat ≤ name_8.length)) <|
  icM cfgB ⟨true, false⟩ mk14 14 [V.ptr 2 0 0, V.int .i64 (W .i64 (((BitVec.ofInt (IntKind.bits .i64) owner_7 &&& BitVec.ofInt (IntKind.bits .i64) 7).toNat : Int))), V.str (name_8.take ((if 2 < (name_9.length : Int) then 2 else (name_9.length : Int)).toNat))] (tm L_6.1 L_6.2.1 L_6.2.2.1 L_6.2.2.2.1) fun L_7 =>
  icM cfgB ⟨true, false⟩ mk15 15 [V.ptr 2 0 0, V.int .i64 (W .i64 (((BitVec.ofInt (IntKind.bits .i64) owner_7 &&& BitVec.ofInt (IntKind.bits .i64) 7).toNat : Int)))] (tm L_7.2.1 L_7.2.2.1 L_7.2.2.2.1 L_7.2.2.2.2) fun L_8 =>
  some (.head 1 (T7_1 x0 x4 (W .i64 (((BitVec.ofInt (IntKind.bits .i64) owner_7 &&& BitVec.ofInt (IntKind.bits .i64) 7).toNat : Int))) (name_8.take ((if 2 < (name_9.length : Int) then 2 else (name_9.length : Int)).toNat)) L_7.1 L_8.2.2.1 1 L_8.2.2.2.1 L_8.2.2.2.2.1 L_8.2.2.2.2.2.1 L_8.2.2.2.2.2.2)))))
 (pcK cfgB 17 [] fun r =>
  kB r fun r17 =>
  some (.doneM (V.bool r17) (tm m0 m1 m3 m4))))
 (pcK cfgB 17 [] fun r_1 =>
  kB r_1 fun r17_1 =>
  some (.doneM (V.bool r17_1) (tm m0 m1 m3 m4)))
theorem s7_0_eq (x0 : List V) (x4 : Int) (m0 : List V) (m1 : List (List (V × V))) (m3 : List (V × V)) (m4 : List (V × V)) : goK kcB true 2 fa7 0 (T7_0 x0 x4 m0 m1 m3 m4) = s7_0 x0 x4 m0 m1 m3 m4 := by kernel_rfl
theorem s7_0_run (x0 : List V) (x4 : Int) (m0 : List V) (m1 : List (List (V × V))) (m3 : List (V × V)) (m4 : List (V × V)) {o o' : Out} (h : s7_0 x0 x4 m0 m1 m3 m4 = some o) (hg : Go kcB true 2 fa7 o o') : Go kcB true 2 fa7 (.head 0 (T7_0 x0 x4 m0 m1 m3 m4)) o' := .step ((s7_0_eq x0 x4 m0 m1 m3 m4).trans h) hg
noncomputable def s7_1 (x0 : List V) (x4 : Int) (x5 : Int) (x6 : List UInt8) (x7 : Int) (x9 : Bool) (x10 : Int) (m0 : List V) (m1 : List (List (V × V))) (m3 : List (V × V)) (m4 : List (V × V)) : R :=
  cond (decide (x10 < 7))
 (cond (x7 != (0 : Int))
 (cond (!x9)
 (pcK cfgB 23 [V.int .i64 x7, V.int .i64 x10] fun r =>
  kB r fun r23 =>
  cond r23
 (icM cfgB ⟨true, false⟩ mk20 20 [V.ptr 2 0 0, V.int .i64 x5, V.str x6, V.int .i64 x10] (tm m0 m1 m3 m4) fun L =>
  cond (L.1 != (0 : Int))
 (some (.doneM (V.bool false) (tm L.2.1 L.2.2.1 L.2.2.2.1 L.2.2.2.2)))
 (icM cfgB ⟨true, false⟩ mk14 14 [V.ptr 2 0 0, V.int .i64 x5, V.str x6] (tm L.2.1 L.2.2.1 L.2.2.2.1 L.2.2.2.2) fun L_1 =>
  cond (L_1.1 != x7)
 (some (.doneM (V.bool false) (tm L_1.2.1 L_1.2.2.1 L_1.2.2.2.1 L_1.2.2.2.2)))
 (some (.head 1 (T7_1 x0 x4 x5 x6 x7 x9 (W .i64 (x10 + 1)) L_1.2.1 L_1.2.2.1 L_1.2.2.2.1 L_1.2.2.2.2)))))
 (some (.head 1 (T7_1 x0 x4 x5 x6 x7 x9 (W .i64 (x10 + 1)) m0 m1 m3 m4))))
 (some (.head 0 (T7_0 x0 (W .i64 (x4 + 1)) m0 m1 m3 m4))))
 (some (.head 0 (T7_0 x0 (W .i64 (x4 + 1)) m0 m1 m3 m4))))
 (some (.head 0 (T7_0 x0 (W .i64 (x4 + 1)) m0 m1 m3 m4)))
theorem s7_1_eq (x0 : List V) (x4 : Int) (x5 : Int) (x6 : List UInt8) (x7 : Int) (x9 : Bool) (x10 : Int) (m0 : List V) (m1 : List (List (V × V))) (m3 : List (V × V)) (m4 : List (V × V)) : goK kcB true 2 fa7 1 (T7_1 x0 x4 x5 x6 x7 x9 x10 m0 m1 m3 m4) = s7_1 x0 x4 x5 x6 x7 x9 x10 m0 m1 m3 m4 := by kernel_rfl
theorem s7_1_run (x0 : List V) (x4 : Int) (x5 : Int) (x6 : List UInt8) (x7 : Int) (x9 : Bool) (x10 : Int) (m0 : List V) (m1 : List (List (V × V))) (m3 : List (V × V)) (m4 : List (V × V)) {o o' : Out} (h : s7_1 x0 x4 x5 x6 x7 x9 x10 m0 m1 m3 m4 = some o) (hg : Go kcB true 2 fa7 o o') : Go kcB true 2 fa7 (.head 1 (T7_1 x0 x4 x5 x6 x7 x9 x10 m0 m1 m3 m4)) o' := .step ((s7_1_eq x0 x4 x5 x6 x7 x9 x10 m0 m1 m3 m4).trans h) hg
end Go.Proofs.Ytpkeiaeaonmacaa
namespace Go.Proofs.Ytpkeiaeaonmacaa
open Go Go.Lite
set_option linter.unusedSimpArgs false
set_option linter.unusedVariables false
set_option linter.unnecessarySimpa false
set_option maxRecDepth 10000
theorem wI1 (m : Int) (h : 0 ≤ m ∧ m < 100) : W .i64 (m + 1) = m + 1 := W_i64 (by omega)
structure Op where
  kind : Int
  owner : Int
  name : Bs
  mode : Int
def opV (o : Op) : V := .agg [.int .i64 o.kind, .int .i64 o.owner, .str o.name, .int .i64 o.mode]
theorem dO (o : Op) (k : Int → Int → Bs → Int → R) : d27 (opV o) k = k o.kind o.owner o.name o.mode := rfl
def cutN (s : Bs) : Bs := s.take ((if 2 < (s.length : Int) then 2 else (s.length : Int)).toNat)
theorem cut_nm (s : Bs) : Nm (cutN s) := by
  unfold cutN Nm
  rw [List.length_take]
  split <;> omega
theorem cut_fold (s : Bs) : s.take ((if 2 < (s.length : Int) then 2 else (s.length : Int)).toNat) = cutN s := rfl
theorem gc1 (s : Bs) : decide (0 ≤ (if 2 < (s.length : Int) then 2 else (s.length : Int))) = true := decide_eq_true (by split <;> omega)
theorem gc2 (s : Bs) : decide ((if 2 < (s.length : Int) then 2 else (s.length : Int)).toNat ≤ s.length) = true := decide_eq_true (by split <;> omega)
theorem and7 (x : Int) : ∃ q : Int, (0 ≤ q ∧ q < 8) ∧ W .i64 (((BitVec.ofInt (IntKind.bits .i64) x &&& BitVec.ofInt (IntKind.bits .i64) 7).toNat : Int)) = q := by
  refine ⟨((BitVec.ofInt 64 x &&& BitVec.ofInt 64 7).toNat : Nat), ⟨by omega, ?_⟩, ?_⟩
  · rw [BitVec.toNat_and]
    have := Nat.lt_of_le_of_lt (@Nat.and_le_right (BitVec.ofInt 64 x).toNat (BitVec.ofInt 64 7).toNat) (show (BitVec.ofInt 64 7).toNat < 8 by decide)
    omega
  · change W .i64 (((BitVec.ofInt 64 x &&& BitVec.ofInt 64 7).toNat : Int)) = _
    have : (BitVec.ofInt 64 x &&& BitVec.ofInt 64 7).toNat < 8 := by
      rw [BitVec.toNat_and]
      exact Nat.lt_of_le_of_lt Nat.and_le_right (by decide)
    exact W_i64 (by omega)
theorem op_get {ops : List Op} {i : Nat} {o : Op} (h : ops[i]? = some o) (q : V → R) : idxK (ops.map opV) ((i : Int)).toNat q = q (opV o) := idxK_c h
noncomputable def playA (L : List Lk) (W : WL) (k : Int) (o : Int) (nm : Bs) (m : Int) : List Lk × WL :=
  if k = 0 then (askA L W o nm m).2 else if k = 1 then ((freeA L W o nm).2.1, (freeA L W o nm).2.2.1) else ((dropA L W o).1, (dropA L W o).2.1)
section
variable {els : List V} {ms : List (List (V × V))} {lk ws : List (V × V)} {ix : Bs → Nat} {L : List Lk} {W : WL} {b : Int} {n N : Nat} {nm : Bs} {e : Lk} {o : Int}
theorem Good.play (g : Good b n L W) (ho : o < b) (k : Int) (nm : Bs) (m : Int) : Good b (n + 1) (playA L W k o nm m).1 (playA L W k o nm m).2 := by
  unfold playA
  split
  · exact g.ask ho nm m
  · split
    · exact (Good.free g o nm).more (by omega)
    · exact (Good.drop g o).more (by omega)
theorem wait_none (g : Good b n L W) (h : waitA L W o = none) : getA W o = none := by
  cases hg : getA W o with
  | none => rfl
  | some n2 =>
    obtain ⟨e, m, h1, h2⟩ := g.wok o n2 hg
    unfold waitA at h
    rw [hg, Option.bind_some, h1, Option.bind_some, h2] at h
    cases h
theorem wait_some {p : Bs × Int} (h : waitA L W o = some p) : getA W o = some p.1 ∧ ∃ e, getL L p.1 = some e ∧ getA e.q o = some p.2 := by
  unfold waitA at h
  simp only [Option.bind_eq_some_iff, Option.map_eq_some_iff] at h
  obtain ⟨n2, h1, e, h2, m, h3, rfl⟩ := h
  exact ⟨h1, e, h2, h3⟩
theorem wait_of (h : getA W o = none) : waitA L W o = none := by unfold waitA; rw [h]; rfl
theorem mode_get (g : Good b n L W) (h : modeA L o nm ≠ 0) : ∃ e, getL L nm = some e ∧ getA e.held o = some (modeA L o nm) ∧ 1 ≤ modeA L o nm ∧ modeA L o nm ≤ 6 := by
  obtain ⟨e, he⟩ := modeA_some h
  refine ⟨e, he, ?_⟩
  unfold modeA at h ⊢
  rw [he, Option.bind_some] at h ⊢
  cases hg : getA e.held o with
  | none => rw [hg] at h; exact absurd rfl h
  | some m =>
    rw [Option.getD_some]
    exact ⟨rfl, g.hm e (getL_some he).1 _ (getA_mem hg)⟩
theorem mode_eq (he : getL L nm = some e) : modeA L o nm = (getA e.held o).getD 0 := by unfold modeA; rw [he]; rfl
theorem ask_again (g : Good b n L W) (ho : 0 ≤ o) {m : Int} (hm : 1 ≤ m ∧ m ≤ 6) (h0 : modeA L o nm ≠ 0) (hw : getA W o = none) (hc : coversB (modeA L o nm) m = true) : askA L W o nm m = (0, L, W) := by
  obtain ⟨e, he, h1, h2⟩ := mode_get g h0
  unfold askA
  rw [if_neg (by omega), if_neg (by rw [hw]; simp), atL_some he, he]
  dsimp only
  rw [h1]
  exact if_pos ⟨rfl, cov_join h2 hm hc⟩
end
theorem plain_sc (ops : List Op) : plainL [.sl (ops.map opV)] = true := by
  have : ∀ l : List Op, plainL (l.map opV) = true := by
    intro l
    induction l with
    | nil => rfl
    | cons o l ih =>
      rw [List.map_cons]
      unfold plainL
      rw [ih]
      rfl
  simp only [plainL, V.plain, this, Bool.and_true]
end Go.Proofs.Ytpkeiaeaonmacaa
namespace Go.Proofs.Ytpkeiaeaonmacaa
open Go Go.Lite
set_option linter.unusedSimpArgs false
set_option linter.unusedVariables false
set_option linter.unnecessarySimpa false
set_option maxRecDepth 10000
abbrev A0 (sc : List V) (i : Nat) (els : List V) (ms : List (List (V × V))) (lk ws : List (V × V)) : Out := .head 0 (T7_0 sc (i : Int) els ms lk ws)
abbrev A1 (sc : List V) (i : Nat) (o : Int) (nm : Bs) (h : Int) (w : Bool) (m : Int) (els : List V) (ms : List (List (V × V))) (lk ws : List (V × V)) : Out := .head 1 (T7_1 sc (i : Int) o nm h w m els ms lk ws)
theorem again_in (sc : List V) (i : Nat) (hi : i ≤ 100) {L : List Lk} {W : WL} {n : Nat} (g : Good 8 n L W) (hn : n ≤ 1000) {o : Int} (ho : 0 ≤ o ∧ o < 8) (nm : Bs) (hnm : Nm nm) : ∀ (d : Nat) (m : Int) (els : List V) (ms : List (List (V × V))) (lk : List (V × V)) (ix : Bs → Nat), m + (d : Int) = 7 → 1 ≤ m → Rep els ms lk (W.map wE) ix L W →
    ∃ els' ms' lk' ix', Rep els' ms' lk' (W.map wE) ix' L W ∧ ∀ q, Go kcB true 2 fa7 (A0 sc (i + 1) els' ms' lk' (W.map wE)) q → Go kcB true 2 fa7 (A1 sc i o nm (modeA L o nm) (waitA L W o).isSome m els ms lk (W.map wE)) q := by
  intro d
  induction d with
  | zero =>
    intro m els ms lk ix hm h1 r
    refine ⟨els, ms, lk, ix, r, fun q hq => s7_1_run _ _ _ _ _ _ _ _ _ _ _ ?_ hq⟩
    unfold s7_1
    rw [decide_eq_false (by omega), cond_false, wi i (by omega)]
  | succ d ih =>
    intro m els ms lk ix hm h1 r
    by_cases h0 : modeA L o nm = 0
    · refine ⟨els, ms, lk, ix, r, fun q hq => s7_1_run _ _ _ _ _ _ _ _ _ _ _ ?_ hq⟩
      unfold s7_1
      rw [decide_eq_true (by omega), cond_true, ibne_f h0, cond_false, wi i (by omega)]
    cases hw : waitA L W o with
    | some p =>
      refine ⟨els, ms, lk, ix, r, fun q hq => s7_1_run _ _ _ _ _ _ _ _ _ _ _ ?_ hq⟩
      unfold s7_1
      rw [decide_eq_true (by omega), cond_true, ibne_t h0, cond_true, Option.isSome_some, Bool.not_true, cond_false, wi i (by omega)]
    | none =>
      have hwn := wait_none g hw
      rw [hw] at ih
      have w1 := wI1 m (by omega)
      cases hc : coversB (modeA L o nm) m with
      | false =>
        obtain ⟨els', ms', lk', ix', r', q'⟩ := ih (m + 1) els ms lk ix (by omega) (by omega) r
        refine ⟨els', ms', lk', ix', r', fun q hq => s7_1_run _ _ _ _ _ _ _ _ _ _ _ ?_ (q' q hq)⟩
        unfold s7_1
        rw [decide_eq_true (by omega), cond_true, ibne_t h0, cond_true, Option.isSome_none, Bool.not_false, cond_true, pcK_of (coversW _ _), kB_mk, hc, cond_false, w1]
      | true =>
        have ha := ask_again g ho.1 (m := m) (by omega) h0 hwn hc
        obtain ⟨els2, ms2, lk2, ix2, k1, r2⟩ := ask_at r g (by omega) o (by unfold I64; omega) nm m
        rw [ha] at k1 r2
        have k2 := mode_ok r2 o nm
        obtain ⟨els', ms', lk', ix', r', q'⟩ := ih (m + 1) els2 ms2 lk2 ix2 (by omega) (by omega) r2
        refine ⟨els', ms', lk', ix', r', fun q hq => s7_1_run _ _ _ _ _ _ _ _ _ _ _ ?_ (q' q hq)⟩
        unfold s7_1
        rw [decide_eq_true (by omega), cond_true, ibne_t h0, cond_true, Option.isSome_none, Bool.not_false, cond_true, pcK_of (coversW _ _), kB_mk, hc, cond_true, icM_of mk20_inj k1]
        dsimp only
        rw [ibne_f rfl, cond_false, icM_of mk14_inj k2]
        dsimp only
        rw [ibne_f rfl, cond_false, w1]
theorem again_out (ops : List Op) : ∀ (d i : Nat) (els : List V) (ms : List (List (V × V))) (lk ws : List (V × V)) (ix : Bs → Nat) (L : List Lk) (W : WL), i + d = 60 → Rep els ms lk ws ix L W → Good 8 i L W →
    ∃ m, Go kcB true 2 fa7 (A0 (ops.map opV) i els ms lk ws) (.doneM (.bool true) m) := by
  intro d
  induction d with
  | zero =>
    intro i els ms lk ws ix L W hi r g
    have : i = 60 := by omega
    subst this
    apply Exists.intro
    refine s7_0_run _ _ _ _ _ _ ?_ (.refl _)
    unfold s7_0
    by_cases hl : 60 < ops.length
    · rw [decide_eq_true (by simp; omega), cond_true, decide_eq_false (by decide), cond_false, pcK_of fixed_ok, kB_mk]
    · rw [decide_eq_false (by simp; omega), cond_false, pcK_of fixed_ok, kB_mk]
  | succ d ih =>
    intro i els ms lk ws ix L W hi r g
    by_cases hl : i < ops.length
    · obtain ⟨o, ho⟩ : ∃ o, ops[i]? = some o := ⟨_, List.getElem?_eq_getElem hl⟩
      obtain ⟨w, hw, ew⟩ := and7 o.owner
      have hcn := cut_nm o.name
      have g2 := g.play (o := w) hw.2 o.kind (cutN o.name) o.mode
      have hdec : decide ((i : Int) < ((ops.map opV).length : Int)) = true := decide_eq_true (by simp; omega)
      have hget := fun q => op_get ho q
      have hg0 : decide (0 ≤ (i : Int)) = true := decide_eq_true (by omega)
      suffices hs : ∃ els' ms' lk' ix', Rep els' ms' lk' ((playA L W o.kind w (cutN o.name) o.mode).2.map wE) ix' (playA L W o.kind w (cutN o.name) o.mode).1 (playA L W o.kind w (cutN o.name) o.mode).2 ∧
          ∀ q, Go kcB true 2 fa7 (A1 (ops.map opV) i w (cutN o.name) (modeA (playA L W o.kind w (cutN o.name) o.mode).1 w (cutN o.name)) (waitA (playA L W o.kind w (cutN o.name) o.mode).1 (playA L W o.kind w (cutN o.name) o.mode).2 w).isSome 1 els' ms' lk' ((playA L W o.kind w (cutN o.name) o.mode).2.map wE)) q →
            Go kcB true 2 fa7 (A0 (ops.map opV) i els ms lk ws) q by
        obtain ⟨els', ms', lk', ix', r', q'⟩ := hs
        obtain ⟨els2, ms2, lk2, ix2, r2, q2⟩ := again_in (ops.map opV) i (by omega) g2 (by omega) hw (cutN o.name) (cut_nm _) 6 1 els' ms' lk' ix' (by omega) (by omega) r'
        obtain ⟨m, q3⟩ := ih (i + 1) els2 ms2 lk2 _ ix2 _ _ (by omega) r2 g2
        exact ⟨m, q' _ (q2 _ q3)⟩
      by_cases h0 : o.kind = 0
      · have hp : playA L W o.kind w (cutN o.name) o.mode = (askA L W w (cutN o.name) o.mode).2 := if_pos h0
        rw [hp] at g2 ⊢
        obtain ⟨els', ms', lk', ix', k1, r'⟩ := ask_at r g (by omega) w (by unfold I64; omega) (cutN o.name) o.mode
        have k2 := mode_ok r' w (cutN o.name)
        have k3 := waits_at r' g2 (by omega) w
        refine ⟨els', ms', lk', ix', r', fun q hq => s7_0_run _ _ _ _ _ _ ?_ hq⟩
        unfold s7_0
        rw [hdec, cond_true, decide_eq_true (by omega), cond_true, hg0, gd_true, hget, dO, gc1, gd_true, gc2, gd_true, ibeq_t h0, cond_true, cut_fold, ew, icM_of mk20_inj k1]
        dsimp only
        rw [gd_true, hget, dO, gd_true, hget, dO, gd_true, hget, dO, gc1, gd_true, gc2, gd_true, cut_fold, ew, icM_of mk14_inj k2]
        dsimp only
        rw [icM_of mk15_inj k3]
      by_cases h1 : o.kind = 1
      · have hp : playA L W o.kind w (cutN o.name) o.mode = ((freeA L W w (cutN o.name)).2.1, (freeA L W w (cutN o.name)).2.2.1) := (if_neg h0).trans (if_pos h1)
        rw [hp] at g2 ⊢
        obtain ⟨els', ms', lk', ix', k1, r'⟩ := free_at r g (by omega) w (cutN o.name)
        have k2 := mode_ok r' w (cutN o.name)
        have k3 := waits_at r' g2 (by omega) w
        refine ⟨els', ms', lk', ix', r', fun q hq => s7_0_run _ _ _ _ _ _ ?_ hq⟩
        unfold s7_0
        rw [hdec, cond_true, decide_eq_true (by omega), cond_true, hg0, gd_true, hget, dO, gc1, gd_true, gc2, gd_true, ibeq_f h0, cond_false, ibeq_t h1, cond_true, cut_fold, ew, icM_of mk24_inj k1]
        dsimp only
        rw [gd_true, hget, dO, gd_true, hget, dO, gd_true, hget, dO, gc1, gd_true, gc2, gd_true, cut_fold, ew, icM_of mk14_inj k2]
        dsimp only
        rw [icM_of mk15_inj k3]
      · have hp : playA L W o.kind w (cutN o.name) o.mode = ((dropA L W w).1, (dropA L W w).2.1) := (if_neg h0).trans (if_neg h1)
        rw [hp] at g2 ⊢
        obtain ⟨els', ms', lk', ix', k1, r'⟩ := drop_at r g (by omega) w
        have k2 := mode_ok r' w (cutN o.name)
        have k3 := waits_at r' g2 (by omega) w
        refine ⟨els', ms', lk', ix', r', fun q hq => s7_0_run _ _ _ _ _ _ ?_ hq⟩
        unfold s7_0
        rw [hdec, cond_true, decide_eq_true (by omega), cond_true, hg0, gd_true, hget, dO, gc1, gd_true, gc2, gd_true, ibeq_f h0, cond_false, ibeq_f h1, cond_false, ew, icM_of mk18_inj k1]
        dsimp only
        rw [gd_true, hget, dO, gd_true, hget, dO, gd_true, hget, dO, gc1, gd_true, gc2, gd_true, cut_fold, ew, icM_of mk14_inj k2]
        dsimp only
        rw [icM_of mk15_inj k3]
    · apply Exists.intro
      refine s7_0_run _ _ _ _ _ _ ?_ (.refl _)
      unfold s7_0
      rw [decide_eq_false (by simp; omega), cond_false, pcK_of fixed_ok, kB_mk]
theorem lockAgain_ok (ops : List Op) : pcW cfgB 7 [.sl (ops.map opV)] = some (.bool true) := by
  obtain ⟨m, c⟩ := again_out ops 60 0 [] [] [] [] (fun _ => 0) [] [] rfl Rep.mt (Good.mt (by decide))
  refine law_run rfl fa7_eq rfl rfl ?_ rfl ((e7_eq _).trans ?_) c
  · unfold arsOk
    rw [plain_sc]; rfl
  · rfl
end Go.Proofs.Ytpkeiaeaonmacaa
namespace Go.Proofs.Ytpkeiaeaonmacaa
open Go Go.Lite Go.ChangeShapes Go.WideShapes Go.ChangeAt Go.RowKit
set_option linter.unusedVariables false
set_option linter.unnecessarySimpa false
set_option maxRecDepth 100000
theorem hok : CfgOK cfgB := hokB
theorem tInt {n : Nat} {vs : List V} (h : TyC Try.prog n 3 vs) : ∃ m, vs = [.int .i64 m] ∧ (Lit.int .i64 m).wf = true := by
  cases n with
  | zero => cases h
  | succ n => unfold TyC at h; rw [Try.underlying3] at h; exact h
theorem aInt {n : Nat} {x : V} (h : ArgT Try.prog n 3 x) : ∃ m, x = .int .i64 m ∧ (Lit.int .i64 m).wf = true := by
  have h2 := h.leaf (by rw [Try.underlying3]; rfl)
  obtain ⟨m, e, w⟩ := tInt h.1
  exact ⟨m, by rw [h2] at e; simpa using e, w⟩
theorem tStr {n : Nat} {vs : List V} (h : TyC Try.prog n 9 vs) : ∃ s, vs = [.str s] ∧ s.length ≤ maxLen := by
  cases n with
  | zero => cases h
  | succ n => unfold TyC at h; rw [Try.underlying9] at h; exact h
theorem tOp {n : Nat} {vs : List V} (h : TyC Try.prog n 27 vs) : ∃ o : Op, vs = [.int .i64 o.kind, .int .i64 o.owner, .str o.name, .int .i64 o.mode] := by
  cases n with
  | zero => cases h
  | succ n =>
    unfold TyC at h
    rw [Try.underlying27] at h
    obtain ⟨hl, hf⟩ := h
    rw [show Try.prog.cellsOf 27 = 4 by kernel_rfl] at hl
    simp only [List.mem_cons, forall_eq_or_imp, List.not_mem_nil, false_implies, implies_true, and_true, show Try.prog.cellsOf 3 = 1 by kernel_rfl, show Try.prog.cellsOf 9 = 1 by kernel_rfl] at hf
    obtain ⟨h0, h1, h2, h3⟩ := hf
    obtain ⟨k, e0, _⟩ := tInt h0
    obtain ⟨p, e1, _⟩ := tInt h1
    obtain ⟨s, e2, _⟩ := tStr h2
    obtain ⟨m, e3, _⟩ := tInt h3
    match vs, hl, e0, e1, e2, e3 with
    | [b0, b1, b2, b3], _, e0, e1, e2, e3 =>
      simp at e0 e1 e2 e3
      exact ⟨⟨k, p, s, m⟩, by rw [e0, e1, e2, e3]⟩
theorem aOp0 {n : Nat} {x : V} (h : ArgT Try.prog n 27 x) : ∃ cs, x = .agg cs ∧ TyC Try.prog n 27 cs := by
  obtain ⟨cs, rfl⟩ := h.agg (by rw [Try.underlying27]; rfl)
  exact ⟨cs, rfl, h.1⟩
theorem aOp' {n : Nat} {x : V} (h : ArgT Try.prog n 27 x) : ∃ o : Op, x = opV o ∧ (fun _ => True) o := by
  obtain ⟨cs, rfl, hC⟩ := aOp0 h
  obtain ⟨o, rfl⟩ := tOp hC
  exact ⟨o, rfl, trivial⟩
theorem lOps : ∀ {l : List V}, (∀ x ∈ l, ∃ m : Op, x = (opV) m ∧ (fun _ => True) m) → ∃ ms : List Op, l = ms.map (opV) ∧ ∀ m ∈ ms, (fun _ => True) m
  | [], _ => ⟨[], rfl, by simp⟩
  | x :: l, h => by
    obtain ⟨a, rfl, ha⟩ := h x (by simp)
    obtain ⟨ms, rfl, hb⟩ := lOps (fun y hy => h y (by simp [hy]) : ∀ y ∈ l, _)
    refine ⟨a :: ms, rfl, fun m hm => ?_⟩
    rcases List.mem_cons.1 hm with rfl | hm
    · exact ha
    · exact hb m hm
theorem tOps {n : Nat} {vs : List V} (h : TyC Try.prog n 22 vs) : ∃ ms : List Op, vs = [.sl (ms.map (opV))] ∧ ms.length ≤ maxLen ∧ ∀ m ∈ ms, (fun _ => True) m := by
  cases n with
  | zero => cases h
  | succ n =>
    unfold TyC at h
    rw [Try.underlying22] at h
    obtain ⟨l, rfl, hl, hx⟩ := h
    obtain ⟨ms, rfl, hm⟩ := lOps fun x hm => aOp' (n := n) (hx x hm)
    exact ⟨ms, rfl, by simpa using hl, hm⟩
theorem aOps {n : Nat} {x : V} (h : ArgT Try.prog n 22 x) : ∃ ms : List Op, x = .sl (ms.map (opV)) ∧ ms.length ≤ maxLen ∧ ∀ m ∈ ms, (fun _ => True) m := by
  have h2 := h.leaf (by rw [Try.underlying22]; rfl)
  obtain ⟨m, e, w⟩ := tOps h.1
  exact ⟨m, by rw [h2] at e; simpa using e, w⟩
theorem own : ownKnob Try.prog.godebug = none := by kernel_rfl
theorem args1 {P : Program} {n : Nat} {t : TypeId} {xs : List V} (h : ArgsT P n [t] xs) : ∃ a, xs = [a] ∧ ArgT P n t a := by
  match xs, h with
  | [a], h => exact ⟨a, rfl, h.1⟩
theorem args2 {P : Program} {n : Nat} {t t' : TypeId} {xs : List V} (h : ArgsT P n [t, t'] xs) : ∃ a b, xs = [a, b] ∧ ArgT P n t a ∧ ArgT P n t' b := by
  match xs, h with
  | [a, b], h => exact ⟨a, b, rfl, h.1, h.2.1⟩
theorem len1 {α : Type} {l : List α} (h : l.length = 1) : ∃ a, l = [a] := by
  match l, h with
  | [a], _ => exact ⟨a, rfl⟩
theorem len2 {α : Type} {l : List α} (h : l.length = 2) : ∃ a b, l = [a, b] := by
  match l, h with
  | [a, b], _ => exact ⟨a, b, rfl⟩
theorem lockAgain_args (xs : List V) (h : ArgsT cfgB.P 6 Try.f7.params.toList xs) : pcW cfgB 7 xs = some (.bool true) := by
  rw [Try.params7] at h
  obtain ⟨a, rfl, ha⟩ := args1 h
  obtain ⟨p, rfl, _⟩ := aOps ha
  exact lockAgain_ok p
set_option maxRecDepth 100000 in
theorem lockAgain_lifted (os : Os) (started : os.Started) (H : Type) (enc : TypeId × Value → H) :
    ReturnsInHanded {} Try.checked os 7 .any (Rows.lockAgainSpec.pre6 enc Try.prog Try.f7 Rows.lockAgainRow.domain false) (Rows.lockAgainSpec.post enc Try.prog Try.f7 false true false false) := by
  refine returnsInHanded_of_change (C := Try.checked) own started (by kernel_rfl) Try.func7
    (ChangeSpec.witness6 (enc := enc) (C := Try.checked) false ⟨#[], #[.slice none 0 0], []⟩ 8 (by kernel_rfl) (by kernel_rfl) (by kernel_rfl) (by kernel_rfl)) ?_
  intro W base args ds gs before hval hW _ _
  exact law_contract hok 6 (by kernel_rfl) (by kernel_rfl) (s := Rows.lockAgainSpec) rfl (by kernel_rfl) (tb := 4) (by kernel_rfl) Try.underlying4
    (fun H ds h => by
      obtain ⟨a, rfl⟩ := len1 (h.trans (by rw [Try.params7]; rfl))
      rfl) lockAgain_args W base args ds gs before hval hW
theorem lockAgain_holds : Rows.LockAgainSaid :=
  OpenClaim.holds_of_wide 7 Try.f7 rfl rfl rfl rfl rfl rfl rfl ⟨rfl, rfl, rfl, rfl, rfl⟩ rfl rfl rfl rfl rfl (by kernel_rfl) Try.func7 (by kernel_rfl)
    (of_decide_eq_true (by kernel_rfl)) (by unfold Func.isWrapper; first | (rw [if_pos (by decide +kernel)]; kernel_rfl) | (rw [if_neg (by decide +kernel)]; exact ⟨rfl, rfl⟩))
    (fun os started H enc _ => lockAgain_lifted os started H enc)
end Go.Proofs.Ytpkeiaeaonmacaa
