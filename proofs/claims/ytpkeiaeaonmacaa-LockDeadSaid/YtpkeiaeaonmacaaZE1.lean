/-
  A law of layer 9 (lock): whatever the input, it returns true and leaves its arguments as0 they were. No condition.
-/
import Derived.Test.YtpkeiaeaonmacaaZ6
import Derived.Test.YtpkeiaeaonmacaaRows
import Derived.WalkKit
import Derived.ProofKit
import Derived.OpenShut
import Derived.KernelRfl
import Derived.Handed
import Derived.JoinedOf
import Derived.JoinedCond
namespace Go.Proofs.Ytpkeiaeaonmacaa
open Go Go.Lite
set_option maxRecDepth 100000
set_option linter.unusedVariables false
noncomputable def fa5 : FA := ⟨1, 186, [.tmp 2], [4],
 (.seq
 (.ops false [o1 2 (.assign (.const (.bool false))) 4])
 (.seq
 (.ops false [o1 17 (.call ⟨(.value (.func 9)), #[], #[]⟩) 23, asg 3 17 23])
 (.seq
 (.seq
 (.ops false [o1 4 (.assign (.const (.int .i64 (0)))) 3])
 (.block 0
 (.loop ([1] ++ List.range' 5 181)
 (.seq
 (.seq
 (.ops false [mv 18 4 3, mv 19 0 22, o1 20 (.call ⟨(.builtin .len), #[(t' 19)], #[22]⟩) 3, o1 21 (.binOp .lss 3 (t' 18) (t' 20) 3) 4, mv 22 21 4, o2 23 (.move (t' 4)) 3 22 true, o2 24 (.binOp .lss 3 (t' 23) (.const (.int .i64 (60))) 3) 4 22 true, o1 25 (.pick (t' 22) (t' 24) (.const (.bool false))) 4])
 (.cond (t' 25)
 (.skip)
 (.exit 0)))
 (.seq
 (.block 1
 (.seq
 (.seq
 (.ops false [mv 28 3 23, o1 29 (.binOp .eql 23 (t' 28) (.const (.pointer none)) 23) 4])
 (.cond (t' 29)
 (.seq
 (.ops false [o1 2 (.assign (.const (.bool false))) 4])
 (.ret))
 (.skip)))
 (.seq
 (.ops false [mv 30 0 22, mv 31 4 3, o1 32 (.indexAddr 22 (t' 30) (t' 31)) 0, o1 33 (.load 27 (t' 32)) 27, o1 5 (.alloc 27) 0, o0 (.store 27 (t' 5) (t' 33)) 0])
 (.seq
 (.ops false [o1 34 (.fieldAddr 27 (t' 5) 2) 0, o1 35 (.load 9 (t' 34)) 9, o1 36 (.fieldAddr 27 (t' 5) 2) 0, o1 37 (.load 9 (t' 36)) 9, o1 38 (.call ⟨(.builtin .len), #[(t' 37)], #[9]⟩) 3, o1 39 (.call ⟨(.builtin .min), #[(t' 38), (.const (.int .i64 (2)))], #[3, 3]⟩) 3, o1 40 (.slice 9 (t' 35) none (some (t' 39)) none) 9, asg 6 40 9])
 (.seq
 (.seq
 (.ops false [o1 41 (.fieldAddr 27 (t' 5) 0) 0, o1 42 (.load 3 (t' 41)) 3, o1 43 (.binOp .neq 3 (t' 42) (.const (.int .i64 (0))) 3) 4])
 (.cond (t' 43)
 (.seq
 (.ops false [mv 44 3 23, o1 45 (.load 27 (t' 5)) 27, o1 46 (.call ⟨(.value (.func 10)), #[(t' 44), (t' 45)], #[23, 27]⟩) 0])
 (.exit 1))
 (.skip)))
 (.seq
 (.ops false [o1 47 (.fieldAddr 27 (t' 5) 1) 0, o1 48 (.load 3 (t' 47)) 3, o1 49 (.binOp .and 3 (t' 48) (.const (.int .i64 (7))) 3) 3, asg 7 49 3])
 (.seq
 (.ops false [mv 50 3 23, mv 51 7 3, mv 52 6 9, o1 53 (.call ⟨(.value (.func 14)), #[(t' 50), (t' 51), (t' 52)], #[23, 3, 9]⟩) 3, mv 54 3 23, mv 55 7 3, o1 56 (.call ⟨(.value (.func 19)), #[(t' 54), (t' 55)], #[23, 3]⟩) 40, o1 57 (.call ⟨(.builtin .len), #[(t' 56)], #[40]⟩) 3, mv 58 3 23, mv 59 6 9, o1 60 (.call ⟨(.value (.func 12)), #[(t' 58), (t' 59)], #[23, 9]⟩) 28, asg 8 53 3, asg 9 57 3, asg 10 60 28])
 (.seq
 (.ops false [mv 62 3 23, mv 63 7 3, o1 64 (.call ⟨(.value (.func 15)), #[(t' 62), (t' 63)], #[23, 3]⟩) 34, mv 61 64 34, o1 65 (.extract (t' 61) 0) 33, o1 66 (.extract (t' 61) 1) 4, o1 11 (.alloc 33) 0, o0 (.store 33 (t' 11) (t' 65)) 0, asg 12 66 4])
 (.seq
 (.ops false [mv 67 3 23, mv 68 7 3, mv 69 6 9, o1 70 (.fieldAddr 27 (t' 5) 3) 0, o1 71 (.load 3 (t' 70)) 3, o1 72 (.call ⟨(.value (.func 20)), #[(t' 67), (t' 68), (t' 69), (t' 71)], #[23, 3, 9, 3]⟩) 42, asg 13 72 42])
 (.seq
 (.ops false [mv 73 3 23, mv 74 7 3, mv 75 6 9, o1 76 (.call ⟨(.value (.func 14)), #[(t' 73), (t' 74), (t' 75)], #[23, 3, 9]⟩) 3, asg 14 76 3])
 (.cseq ([1, 11] ++ List.range' 17 169)
 (.ops false [mv 78 3 23, mv 79 7 3, o1 80 (.call ⟨(.value (.func 15)), #[(t' 78), (t' 79)], #[23, 3]⟩) 34, mv 77 80 34, o1 81 (.extract (t' 77) 0) 33, o1 82 (.extract (t' 77) 1) 4, o1 15 (.alloc 33) 0, o0 (.store 33 (t' 15) (t' 81)) 0, asg 16 82 4])
 (.cseq ([1, 11] ++ List.range' 17 169)
 (.seq
 (.ops false [mv 83 13 42, o1 84 (.binOp .eql 42 (t' 83) (.const (.int .i64 (0))) 42) 4, mv 85 84 4, o2 86 (.move (t' 16)) 4 85 true, o2 87 (.move (t' 86)) 4 85 true, o2 88 (.move (t' 14)) 3 87 false, o2 89 (.fieldAddr 27 (t' 5) 3) 0 87 false, o2 90 (.load 3 (t' 89)) 3 87 false, o2 91 (.call ⟨(.value (.func 21)), #[(t' 88), (t' 90)], #[3, 3]⟩) 4 87 false, o2 92 (.unOp .not 4 (t' 91)) 4 87 false, o2 93 (.pick (t' 87) (.const (.bool true)) (t' 92)) 4 85 true, o2 94 (.move (t' 93)) 4 85 true, o2 95 (.move (t' 14)) 3 94 false, o2 96 (.move (t' 8)) 3 94 false, o2 97 (.call ⟨(.value (.func 21)), #[(t' 95), (t' 96)], #[3, 3]⟩) 4 94 false, o2 98 (.unOp .not 4 (t' 97)) 4 94 false, o2 99 (.pick (t' 94) (.const (.bool true)) (t' 98)) 4 85 true, o1 100 (.pick (t' 85) (t' 99) (.const (.bool false))) 4])
 (.cond (t' 100)
 (.seq
 (.ops false [o1 2 (.assign (.const (.bool false))) 4])
 (.ret))
 (.skip)))
 (.cseq ([1, 11, 15] ++ List.range' 17 169)
 (.seq
 (.ops false [mv 101 13 42, o1 102 (.binOp .eql 42 (t' 101) (.const (.int .i64 (10))) 42) 4, mv 103 102 4, o2 104 (.move (t' 12)) 4 103 true, o2 105 (.move (t' 104)) 4 103 true, o2 106 (.move (t' 16)) 4 105 false, o2 107 (.unOp .not 4 (t' 106)) 4 105 false, o2 108 (.pick (t' 105) (.const (.bool true)) (t' 107)) 4 103 true, o2 109 (.move (t' 108)) 4 103 true, o2 110 (.fieldAddr 33 (t' 15) 0) 0 109 false, o2 111 (.load 9 (t' 110)) 9 109 false, o2 112 (.move (t' 6)) 9 109 false, o2 113 (.binOp .neq 9 (t' 111) (t' 112) 9) 4 109 false, o2 114 (.pick (t' 109) (.const (.bool true)) (t' 113)) 4 103 true, o2 115 (.move (t' 114)) 4 103 true, o2 116 (.fieldAddr 33 (t' 15) 1) 0 115 false, o2 117 (.load 3 (t' 116)) 3 115 false, o2 118 (.fieldAddr 27 (t' 5) 3) 0 115 false, o2 119 (.load 3 (t' 118)) 3 115 false, o2 120 (.call ⟨(.value (.func 21)), #[(t' 117), (t' 119)], #[3, 3]⟩) 4 115 false, o2 121 (.unOp .not 4 (t' 120)) 4 115 false, o2 122 (.pick (t' 115) (.const (.bool true)) (t' 121)) 4 103 true, o2 123 (.move (t' 122)) 4 103 true, o2 124 (.move (t' 14)) 3 123 false, o2 125 (.move (t' 8)) 3 123 false, o2 126 (.binOp .neq 3 (t' 124) (t' 125) 3) 4 123 false, o2 127 (.pick (t' 123) (.const (.bool true)) (t' 126)) 4 103 true, o2 128 (.move (t' 127)) 4 103 true, o2 129 (.move (t' 3)) 23 128 false, o2 130 (.move (t' 6)) 9 128 false, o2 131 (.call ⟨(.value (.func 12)), #[(t' 129), (t' 130)], #[23, 9]⟩) 28 128 false, o2 132 (.call ⟨(.builtin .len), #[(t' 131)], #[28]⟩) 3 128 false, o2 133 (.move (t' 10)) 28 128 false, o2 134 (.call ⟨(.builtin .len), #[(t' 133)], #[28]⟩) 3 128 false, o2 135 (.binOp .add 3 (t' 134) (.const (.int .i64 (1))) 3) 3 128 false, o2 136 (.binOp .neq 3 (t' 132) (t' 135) 3) 4 128 false, o2 137 (.pick (t' 128) (.const (.bool true)) (t' 136)) 4 103 true, o1 138 (.pick (t' 103) (t' 137) (.const (.bool false))) 4])
 (.cond (t' 138)
 (.seq
 (.ops false [o1 2 (.assign (.const (.bool false))) 4])
 (.ret))
 (.skip)))
 (.cseq ([1] ++ List.range' 6 6 ++ List.range' 14 172)
 (.seq
 (.ops false [mv 139 13 42, o1 140 (.binOp .neq 42 (t' 139) (.const (.int .i64 (0))) 42) 4, mv 141 140 4, o2 142 (.move (t' 13)) 42 141 true, o2 143 (.binOp .neq 42 (t' 142) (.const (.int .i64 (10))) 42) 4 141 true, o1 144 (.pick (t' 141) (t' 143) (.const (.bool false))) 4, mv 145 144 4, o2 146 (.move (t' 16)) 4 145 true, o2 147 (.move (t' 12)) 4 145 true, o2 148 (.binOp .neq 4 (t' 146) (t' 147) 4) 4 145 true, o2 149 (.move (t' 148)) 4 145 true, o2 150 (.move (t' 14)) 3 149 false, o2 151 (.move (t' 8)) 3 149 false, o2 152 (.binOp .neq 3 (t' 150) (t' 151) 3) 4 149 false, o2 153 (.pick (t' 149) (.const (.bool true)) (t' 152)) 4 145 true, o2 154 (.move (t' 153)) 4 145 true, o2 155 (.move (t' 3)) 23 154 false, o2 156 (.move (t' 7)) 3 154 false, o2 157 (.call ⟨(.value (.func 19)), #[(t' 155), (t' 156)], #[23, 3]⟩) 40 154 false, o2 158 (.call ⟨(.builtin .len), #[(t' 157)], #[40]⟩) 3 154 false, o2 159 (.move (t' 9)) 3 154 false, o2 160 (.binOp .neq 3 (t' 158) (t' 159) 3) 4 154 false, o2 161 (.pick (t' 154) (.const (.bool true)) (t' 160)) 4 145 true, o2 162 (.move (t' 161)) 4 145 true, o2 163 (.move (t' 3)) 23 162 false, o2 164 (.move (t' 6)) 9 162 false, o2 165 (.call ⟨(.value (.func 12)), #[(t' 163), (t' 164)], #[23, 9]⟩) 28 162 false, o2 166 (.move (t' 10)) 28 162 false, o2 167 (.call ⟨(.value (.func 22)), #[(t' 165), (t' 166)], #[28, 28]⟩) 4 162 false, o2 168 (.unOp .not 4 (t' 167)) 4 162 false, o2 169 (.pick (t' 162) (.const (.bool true)) (t' 168)) 4 145 true, o1 170 (.pick (t' 145) (t' 169) (.const (.bool false))) 4])
 (.cond (t' 170)
 (.seq
 (.ops false [o1 2 (.assign (.const (.bool false))) 4])
 (.ret))
 (.skip)))
 (.seq
 (.ops false [mv 171 13 42, o1 172 (.binOp .eql 42 (t' 171) (.const (.int .i64 (9))) 42) 4, mv 173 12 4, mv 174 173 4, o2 175 (.fieldAddr 27 (t' 5) 3) 0 174 true, o2 176 (.load 3 (t' 175)) 3 174 true, o2 177 (.binOp .gtr 3 (t' 176) (.const (.int .i64 (0))) 3) 4 174 true, o1 178 (.pick (t' 174) (t' 177) (.const (.bool false))) 4, mv 179 178 4, o2 180 (.fieldAddr 27 (t' 5) 3) 0 179 true, o2 181 (.load 3 (t' 180)) 3 179 true, o2 182 (.binOp .lss 3 (t' 181) (.const (.int .i64 (7))) 3) 4 179 true, o1 183 (.pick (t' 179) (t' 182) (.const (.bool false))) 4, o1 184 (.binOp .neq 4 (t' 172) (t' 183) 4) 4])
 (.cond (t' 184)
 (.seq
 (.ops false [o1 2 (.assign (.const (.bool false))) 4])
 (.ret))
 (.skip)))))))))))))))))
 (.ops false [mv 26 4 3, o1 27 (.binOp .add 3 (t' 26) (.const (.int .i64 (1))) 3) 3, asg 4 27 3]))))))
 (.seq
 (.ops false [o1 185 (.call ⟨(.value (.func 17)), #[], #[]⟩) 4, asg 2 185 4])
 (.ret)))))⟩
theorem fa5_eq : fnA cfgB.P (cfgB.rxf 5) 5 = some fa5 := by kernel_rfl
def T5_0 (x0 : List V) (x4 : Int) (m0 : List V) (m1 : List (List (V × V))) (m3 : List (V × V)) (m4 : List (V × V)) : S := ⟨[V.sl x0, V.junk, V.bool false, V.ptr 2 0 0, V.int .i64 x4] ++ (JU 181), (tm m0 m1 m3 m4)⟩
def T5_1 (x0 : List V) (x4 : Int) (x6 : List UInt8) (x7 : Int) (x8 : Int) (x9 : Int) (x12 : Bool) (x13 : Int) (x14 : Int) (x16 : Bool) (m0 : List V) (m1 : List (List (V × V))) (m3_0 : Int) (m3_1 : Int) (m3_2 : List UInt8) (m3_3 : Int) (m4 : List V) (m5_0 : List UInt8) (m5_1 : Int) (m6 : List (V × V)) (m7 : List (V × V)) : S := ⟨[V.sl x0, V.junk, V.bool false, V.ptr 2 0 0, V.int .i64 x4, V.ptr 3 0 0, V.str x6, V.int .i64 x7, V.int .i64 x8, V.int .i64 x9, V.own 4, V.junk, V.bool x12, V.int .i64 x13, V.int .i64 x14, V.ptr 5 0 0, V.bool x16] ++ (JU 169), [O.arena 61 m0, O.marena 58 m1, O.box 50 (V.agg [V.mp 6, V.mp 7]) false, O.box 27 (V.agg [V.int .i64 m3_0, V.int .i64 m3_1, V.str m3_2, V.int .i64 m3_3]) false, O.row 3 m4 0, O.box 33 (V.agg [V.str m5_0, V.int .i64 m5_1]) false, O.map m6, O.map m7]⟩
def T5_2 (x0 : List V) (x4 : Int) (x6 : List UInt8) (x7 : Int) (x8 : Int) (x9 : Int) (x12 : Bool) (x13 : Int) (x14 : Int) (x16 : Bool) (m0 : List V) (m1 : List (List (V × V))) (m3_0 : Int) (m3_1 : Int) (m3_2 : List UInt8) (m3_3 : Int) (m4 : List V) (m5_0 : List UInt8) (m5_1 : Int) (m6 : List (V × V)) (m7 : List (V × V)) : S := ⟨[V.sl x0, V.junk, V.bool false, V.ptr 2 0 0, V.int .i64 x4, V.ptr 3 0 0, V.str x6, V.int .i64 x7, V.int .i64 x8, V.int .i64 x9, V.own 4, V.junk, V.bool x12, V.int .i64 x13, V.int .i64 x14, V.ptr 5 0 0, V.bool x16] ++ (JU 169), [O.arena 61 m0, O.marena 58 m1, O.box 50 (V.agg [V.mp 6, V.mp 7]) false, O.box 27 (V.agg [V.int .i64 m3_0, V.int .i64 m3_1, V.str m3_2, V.int .i64 m3_3]) false, O.row 3 m4 0, O.box 33 (V.agg [V.str m5_0, V.int .i64 m5_1]) false, O.map m6, O.map m7]⟩
def T5_3 (x0 : List V) (x4 : Int) (x6 : List UInt8) (x7 : Int) (x8 : Int) (x9 : Int) (x12 : Bool) (x13 : Int) (x14 : Int) (x16 : Bool) (m0 : List V) (m1 : List (List (V × V))) (m3_0 : Int) (m3_1 : Int) (m3_2 : List UInt8) (m3_3 : Int) (m4 : List V) (m5 : List (V × V)) (m6 : List (V × V)) : S := ⟨[V.sl x0, V.junk, V.bool false, V.ptr 2 0 0, V.int .i64 x4, V.ptr 3 0 0, V.str x6, V.int .i64 x7, V.int .i64 x8, V.int .i64 x9, V.own 4, V.junk, V.bool x12, V.int .i64 x13, V.int .i64 x14, V.junk, V.bool x16] ++ (JU 169), [O.arena 61 m0, O.marena 58 m1, O.box 50 (V.agg [V.mp 5, V.mp 6]) false, O.box 27 (V.agg [V.int .i64 m3_0, V.int .i64 m3_1, V.str m3_2, V.int .i64 m3_3]) false, O.row 3 m4 0, O.map m5, O.map m6]⟩
def T5_4 (x0 : List V) (x4 : Int) (x12 : Bool) (x13 : Int) (m0 : List V) (m1 : List (List (V × V))) (m3_0 : Int) (m3_1 : Int) (m3_2 : List UInt8) (m3_3 : Int) (m4 : List (V × V)) (m5 : List (V × V)) : S := ⟨[V.sl x0, V.junk, V.bool false, V.ptr 2 0 0, V.int .i64 x4, V.ptr 3 0 0] ++ (JU 6) ++ [V.bool x12, V.int .i64 x13] ++ (JU 172), [O.arena 61 m0, O.marena 58 m1, O.box 50 (V.agg [V.mp 4, V.mp 5]) false, O.box 27 (V.agg [V.int .i64 m3_0, V.int .i64 m3_1, V.str m3_2, V.int .i64 m3_3]) false, O.map m4, O.map m5]⟩
noncomputable def e5 (sc : List V) : R :=
  some (.head 0 (T5_0 sc 0 [] [] [] []))
theorem e5_eq (sc : List V) : enterK kcB true fa5 [V.sl sc] [O.arena 61 [], O.marena 58 []] = e5 sc := by kernel_rfl
noncomputable def s5_0 (x0 : List V) (x4 : Int) (m0 : List V) (m1 : List (List (V × V))) (m3 : List (V × V)) (m4 : List (V × V)) : R :=
  cond (decide (x4 < (x0.length : Int)))
 (cond (decide (x4 < 60))
 (gd (decide (0 ≤ x4)) <|
  idxK x0 x4.toNat fun v =>
  d27 v fun kind0 owner name mode =>
  gd (decide (0 ≤ (if 2 < (name.length : Int) then 2 else (name.length : Int)))) <|
  gd (decide ((if 2 < (name.length : Int) then 2 else (name.length : Int)).toNat ≤ name.length)) <|
  cond (kind0 != (0 : Int))
 (gd (decide (0 ≤ (if 2 < (name.length : Int) then 2 else (name.length : Int)))) <|
  gd (decide ((if 2 < (name.length : Int) then 2 else (name.length : Int)).toNat ≤ name.length)) <|
  cond (kind0 == (0 : Int))
 (icM cfgB ⟨true, false⟩ mk20 20 [V.ptr 2 0 0, V.int .i64 (W .i64 (((BitVec.ofInt (IntKind.bits .i64) owner &&& BitVec.ofInt (IntKind.bits .i64) 7).toNat : Int))), V.str (name.take ((if 2 < (name.length : Int) then 2 else (name.length : Int)).toNat)), V.int .i64 mode] (tm m0 m1 m3 m4) fun L =>
  some (.head 0 (T5_0 x0 (W .i64 (x4 + 1)) L.2.1 L.2.2.1 L.2.2.2.1 L.2.2.2.2)))
 (cond (kind0 == (1 : Int))
 (icM cfgB ⟨true, false⟩ mk24 24 [V.ptr 2 0 0, V.int .i64 (W .i64 (((BitVec.ofInt (IntKind.bits .i64) owner &&& BitVec.ofInt (IntKind.bits .i64) 7).toNat : Int))), V.str (name.take ((if 2 < (name.length : Int) then 2 else (name.length : Int)).toNat))] (tm m0 m1 m3 m4) fun L_1 =>
  some (.head 0 (T5_0 x0 (W .i64 (x4 + 1)) L_1.2.1 L_1.2.2.1 L_1.2.2.2.1 L_1.2.2.2.2.1)))
 (icM cfgB ⟨true, false⟩ mk18 18 [V.ptr 2 0 0, V.int .i64 (W .i64 (((BitVec.ofInt (IntKind.bits .i64) owner &&& BitVec.ofInt (IntKind.bits .i64) 7).toNat : Int)))] (tm m0 m1 m3 m4) fun L_2 =>
  some (.head 0 (T5_0 x0 (W .i64 (x4 + 1)) L_2.1 L_2.2.1 L_2.2.2.1 L_2.2.2.2.1)))))
 (icM cfgB ⟨true, false⟩ mk14 14 [V.ptr 2 0 0, V.int .i64 (W .i64 (((BitVec.ofInt (IntKind.bits .i64) owner &&& BitVec.ofInt (IntKind.bits .i64) 7).toNat : Int))), V.str (name.take ((if 2 < (name.length : Int) then 2 else (name.length : Int)).toNat))] (tm m0 m1 m3 m4) fun L_3 =>
  icM cfgB ⟨true, false⟩ mk19 19 [V.ptr 2 0 0, V.int .i64 (W .i64 (((BitVec.ofInt (IntKind.bits .i64) owner &&& BitVec.ofInt (IntKind.bits .i64) 7).toNat : Int)))] (tm L_3.2.1 L_3.2.2.1 L_3.2.2.2.1 L_3.2.2.2.2) fun L_4 =>
  icM cfgB ⟨true, false⟩ mk12 12 [V.ptr 2 0 0, V.str (name.take ((if 2 < (name.length : Int) then 2 else (name.length : Int)).toNat))] (tm L_4.1 L_4.2.1 L_4.2.2.1 L_4.2.2.2.1) fun L_5 =>
  icM cfgB ⟨true, false⟩ mk15 15 [V.ptr 2 0 0, V.int .i64 (W .i64 (((BitVec.ofInt (IntKind.bits .i64) owner &&& BitVec.ofInt (IntKind.bits .i64) 7).toNat : Int)))] (tm L_5.1 L_5.2.1 L_5.2.2.1 L_5.2.2.2.1) fun L_6 =>
  icM cfgB ⟨true, false⟩ mk20 20 [V.ptr 2 0 0, V.int .i64 (W .i64 (((BitVec.ofInt (IntKind.bits .i64) owner &&& BitVec.ofInt (IntKind.bits .i64) 7).toNat : Int))), V.str (name.take ((if 2 < (name.length : Int) then 2 else (name.length : Int)).toNat)), V.int .i64 mode] (tm L_6.2.2.2.1 L_6.2.2.2.2.1 L_6.2.2.2.2.2.1 L_6.2.2.2.2.2.2) fun L_7 =>
  icM cfgB ⟨true, false⟩ mk14 14 [V.ptr 2 0 0, V.int .i64 (W .i64 (((BitVec.ofInt (IntKind.bits .i64) owner &&& BitVec.ofInt (IntKind.bits .i64) 7).toNat : Int))), V.str (name.take ((if 2 < (name.length : Int) then 2 else (name.length : Int)).toNat))] (tm L_7.2.1 L_7.2.2.1 L_7.2.2.2.1 L_7.2.2.2.2) fun L_8 =>
  icM cfgB ⟨true, false⟩ mk15 15 [V.ptr 2 0 0, V.int .i64 (W .i64 (((BitVec.ofInt (IntKind.bits .i64) owner &&& BitVec.ofInt (IntKind.bits .i64) 7).toNat : Int)))] (tm L_8.2.1 L_8.2.2.1 L_8.2.2.2.1 L_8.2.2.2.2) fun L_9 =>
  some (.head 1 (T5_1 x0 x4 (name.take ((if 2 < (name.length : Int) then 2 else (name.length : Int)).toNat)) (W .i64 (((BitVec.ofInt (IntKind.bits .i64) owner &&& BitVec.ofInt (IntKind.bits .i64) 7).toNat : Int))) L_3.1 (L_4.2.2.2.2.length : Int) L_6.2.2.1 L_7.1 L_8.1 L_9.2.2.1 L_9.2.2.2.1 L_9.2.2.2.2.1 kind0 owner name mode L_5.2.2.2.2 L_9.1 L_9.2.1 L_9.2.2.2.2.2.1 L_9.2.2.2.2.2.2))))
 (pcK cfgB 17 [] fun r =>
  kB r fun r17 =>
  some (.doneM (V.bool r17) (tm m0 m1 m3 m4))))
 (pcK cfgB 17 [] fun r_1 =>
  kB r_1 fun r17_1 =>
  some (.doneM (V.bool r17_1) (tm m0 m1 m3 m4)))
theorem s5_0_eq (x0 : List V) (x4 : Int) (m0 : List V) (m1 : List (List (V × V))) (m3 : List (V × V)) (m4 : List (V × V)) : goK kcB true 2 fa5 0 (T5_0 x0 x4 m0 m1 m3 m4) = s5_0 x0 x4 m0 m1 m3 m4 := by kernel_rfl
theorem s5_0_run (x0 : List V) (x4 : Int) (m0 : List V) (m1 : List (List (V × V))) (m3 : List (V × V)) (m4 : List (V × V)) {o o' : Out} (h : s5_0 x0 x4 m0 m1 m3 m4 = some o) (hg : Go kcB true 2 fa5 o o') : Go kcB true 2 fa5 (.head 0 (T5_0 x0 x4 m0 m1 m3 m4)) o' := .step ((s5_0_eq x0 x4 m0 m1 m3 m4).trans h) hg
noncomputable def s5_1 (x0 : List V) (x4 : Int) (x6 : List UInt8) (x7 : Int) (x8 : Int) (x9 : Int) (x12 : Bool) (x13 : Int) (x14 : Int) (x16 : Bool) (m0 : List V) (m1 : List (List (V × V))) (m3_0 : Int) (m3_1 : Int) (m3_2 : List UInt8) (m3_3 : Int) (m4 : List V) (m5_0 : List UInt8) (m5_1 : Int) (m6 : List (V × V)) (m7 : List (V × V)) : R :=
  cond (x13 == (0 : Int))
 (cond x16
 (some (.doneM (V.bool false) (tm m0 m1 m6 m7)))
 (pcK cfgB 21 [V.int .i64 x14, V.int .i64 m3_3] fun r =>
  kB r fun r21 =>
  cond (!r21)
 (some (.doneM (V.bool false) (tm m0 m1 m6 m7)))
 (pcK cfgB 21 [V.int .i64 x14, V.int .i64 x8] fun r_1 =>
  kB r_1 fun r21_1 =>
  cond (!r21_1)
 (some (.doneM (V.bool false) (tm m0 m1 m6 m7)))
 (some (.head 2 (T5_2 x0 x4 x6 x7 x8 x9 x12 x13 x14 x16 m0 m1 m3_0 m3_1 m3_2 m3_3 m4 m5_0 m5_1 m6 m7))))))
 (some (.head 2 (T5_2 x0 x4 x6 x7 x8 x9 x12 x13 x14 x16 m0 m1 m3_0 m3_1 m3_2 m3_3 m4 m5_0 m5_1 m6 m7)))
theorem s5_1_eq (x0 : List V) (x4 : Int) (x6 : List UInt8) (x7 : Int) (x8 : Int) (x9 : Int) (x12 : Bool) (x13 : Int) (x14 : Int) (x16 : Bool) (m0 : List V) (m1 : List (List (V × V))) (m3_0 : Int) (m3_1 : Int) (m3_2 : List UInt8) (m3_3 : Int) (m4 : List V) (m5_0 : List UInt8) (m5_1 : Int) (m6 : List (V × V)) (m7 : List (V × V)) : goK kcB true 2 fa5 1 (T5_1 x0 x4 x6 x7 x8 x9 x12 x13 x14 x16 m0 m1 m3_0 m3_1 m3_2 m3_3 m4 m5_0 m5_1 m6 m7) = s5_1 x0 x4 x6 x7 x8 x9 x12 x13 x14 x16 m0 m1 m3_0 m3_1 m3_2 m3_3 m4 m5_0 m5_1 m6 m7 := by kernel_rfl
theorem s5_1_run (x0 : List V) (x4 : Int) (x6 : List UInt8) (x7 : Int) (x8 : Int) (x9 : Int) (x12 : Bool) (x13 : Int) (x14 : Int) (x16 : Bool) (m0 : List V) (m1 : List (List (V × V))) (m3_0 : Int) (m3_1 : Int) (m3_2 : List UInt8) (m3_3 : Int) (m4 : List V) (m5_0 : List UInt8) (m5_1 : Int) (m6 : List (V × V)) (m7 : List (V × V)) {o o' : Out} (h : s5_1 x0 x4 x6 x7 x8 x9 x12 x13 x14 x16 m0 m1 m3_0 m3_1 m3_2 m3_3 m4 m5_0 m5_1 m6 m7 = some o) (hg : Go kcB true 2 fa5 o o') : Go kcB true 2 fa5 (.head 1 (T5_1 x0 x4 x6 x7 x8 x9 x12 x13 x14 x16 m0 m1 m3_0 m3_1 m3_2 m3_3 m4 m5_0 m5_1 m6 m7)) o' := .step ((s5_1_eq x0 x4 x6 x7 x8 x9 x12 x13 x14 x16 m0 m1 m3_0 m3_1 m3_2 m3_3 m4 m5_0 m5_1 m6 m7).trans h) hg
noncomputable def s5_2 (x0 : List V) (x4 : Int) (x6 : List UInt8) (x7 : Int) (x8 : Int) (x9 : Int) (x12 : Bool) (x13 : Int) (x14 : Int) (x16 : Bool) (m0 : List V) (m1 : List (List (V × V))) (m3_0 : Int) (m3_1 : Int) (m3_2 : List UInt8) (m3_3 : Int) (m4 : List V) (m5_0 : List UInt8) (m5_1 : Int) (m6 : List (V × V)) (m7 : List (V × V)) : R :=
  cond (x13 == (10 : Int))
 (cond x12
 (some (.doneM (V.bool false) (tm m0 m1 m6 m7)))
 (cond (!x16)
 (some (.doneM (V.bool false) (tm m0 m1 m6 m7)))
 (cond (!(m5_0 == x6))
 (some (.doneM (V.bool false) (tm m0 m1 m6 m7)))
 (pcK cfgB 21 [V.int .i64 m5_1, V.int .i64 m3_3] fun r =>
  kB r fun r21 =>
  cond (!r21)
 (some (.doneM (V.bool false) (tm m0 m1 m6 m7)))
 (cond (x14 != x8)
 (some (.doneM (V.bool false) (tm m0 m1 m6 m7)))
 (icM cfgB ⟨true, false⟩ mk12 12 [V.ptr 2 0 0, V.str x6] (tm m0 m1 m6 m7) fun L =>
  cond ((L.2.2.2.2.length : Int) != (W .i64 ((m4.length : Int) + 1)))
 (some (.doneM (V.bool false) (tm L.1 L.2.1 L.2.2.1 L.2.2.2.1)))
 (some (.head 3 (T5_3 x0 x4 x6 x7 x8 x9 x12 x13 x14 x16 L.1 L.2.1 m3_0 m3_1 m3_2 m3_3 m4 L.2.2.1 L.2.2.2.1)))))))))
 (some (.head 3 (T5_3 x0 x4 x6 x7 x8 x9 x12 x13 x14 x16 m0 m1 m3_0 m3_1 m3_2 m3_3 m4 m6 m7)))
theorem s5_2_eq (x0 : List V) (x4 : Int) (x6 : List UInt8) (x7 : Int) (x8 : Int) (x9 : Int) (x12 : Bool) (x13 : Int) (x14 : Int) (x16 : Bool) (m0 : List V) (m1 : List (List (V × V))) (m3_0 : Int) (m3_1 : Int) (m3_2 : List UInt8) (m3_3 : Int) (m4 : List V) (m5_0 : List UInt8) (m5_1 : Int) (m6 : List (V × V)) (m7 : List (V × V)) : goK kcB true 2 fa5 2 (T5_2 x0 x4 x6 x7 x8 x9 x12 x13 x14 x16 m0 m1 m3_0 m3_1 m3_2 m3_3 m4 m5_0 m5_1 m6 m7) = s5_2 x0 x4 x6 x7 x8 x9 x12 x13 x14 x16 m0 m1 m3_0 m3_1 m3_2 m3_3 m4 m5_0 m5_1 m6 m7 := by kernel_rfl
theorem s5_2_run (x0 : List V) (x4 : Int) (x6 : List UInt8) (x7 : Int) (x8 : Int) (x9 : Int) (x12 : Bool) (x13 : Int) (x14 : Int) (x16 : Bool) (m0 : List V) (m1 : List (List (V × V))) (m3_0 : Int) (m3_1 : Int) (m3_2 : List UInt8) (m3_3 : Int) (m4 : List V) (m5_0 : List UInt8) (m5_1 : Int) (m6 : List (V × V)) (m7 : List (V × V)) {o o' : Out} (h : s5_2 x0 x4 x6 x7 x8 x9 x12 x13 x14 x16 m0 m1 m3_0 m3_1 m3_2 m3_3 m4 m5_0 m5_1 m6 m7 = some o) (hg : Go kcB true 2 fa5 o o') : Go kcB true 2 fa5 (.head 2 (T5_2 x0 x4 x6 x7 x8 x9 x12 x13 x14 x16 m0 m1 m3_0 m3_1 m3_2 m3_3 m4 m5_0 m5_1 m6 m7)) o' := .step ((s5_2_eq x0 x4 x6 x7 x8 x9 x12 x13 x14 x16 m0 m1 m3_0 m3_1 m3_2 m3_3 m4 m5_0 m5_1 m6 m7).trans h) hg
noncomputable def s5_3 (x0 : List V) (x4 : Int) (x6 : List UInt8) (x7 : Int) (x8 : Int) (x9 : Int) (x12 : Bool) (x13 : Int) (x14 : Int) (x16 : Bool) (m0 : List V) (m1 : List (List (V × V))) (m3_0 : Int) (m3_1 : Int) (m3_2 : List UInt8) (m3_3 : Int) (m4 : List V) (m5 : List (V × V)) (m6 : List (V × V)) : R :=
  cond (x13 != (0 : Int))
 (cond (x13 != (10 : Int))
 (cond (!(x16 == x12))
 (some (.doneM (V.bool false) (tm m0 m1 m5 m6)))
 (cond (x14 != x8)
 (some (.doneM (V.bool false) (tm m0 m1 m5 m6)))
 (icM cfgB ⟨true, false⟩ mk19 19 [V.ptr 2 0 0, V.int .i64 x7] (tm m0 m1 m5 m6) fun L =>
  cond ((L.2.2.2.2.length : Int) != x9)
 (some (.doneM (V.bool false) (tm L.1 L.2.1 L.2.2.1 L.2.2.2.1)))
 (icM cfgB ⟨true, false⟩ mk12 12 [V.ptr 2 0 0, V.str x6] (tm L.1 L.2.1 L.2.2.1 L.2.2.2.1) fun L_1 =>
  pcK cfgB 22 [V.sl L_1.2.2.2.2, V.sl m4] fun r =>
  kB r fun r22 =>
  cond (!r22)
 (some (.doneM (V.bool false) (tm L_1.1 L_1.2.1 L_1.2.2.1 L_1.2.2.2.1)))
 (some (.head 4 (T5_4 x0 x4 x12 x13 L_1.1 L_1.2.1 m3_0 m3_1 m3_2 m3_3 L_1.2.2.1 L_1.2.2.2.1)))))))
 (some (.head 4 (T5_4 x0 x4 x12 x13 m0 m1 m3_0 m3_1 m3_2 m3_3 m5 m6))))
 (some (.head 4 (T5_4 x0 x4 x12 x13 m0 m1 m3_0 m3_1 m3_2 m3_3 m5 m6)))
theorem s5_3_eq (x0 : List V) (x4 : Int) (x6 : List UInt8) (x7 : Int) (x8 : Int) (x9 : Int) (x12 : Bool) (x13 : Int) (x14 : Int) (x16 : Bool) (m0 : List V) (m1 : List (List (V × V))) (m3_0 : Int) (m3_1 : Int) (m3_2 : List UInt8) (m3_3 : Int) (m4 : List V) (m5 : List (V × V)) (m6 : List (V × V)) : goK kcB true 2 fa5 3 (T5_3 x0 x4 x6 x7 x8 x9 x12 x13 x14 x16 m0 m1 m3_0 m3_1 m3_2 m3_3 m4 m5 m6) = s5_3 x0 x4 x6 x7 x8 x9 x12 x13 x14 x16 m0 m1 m3_0 m3_1 m3_2 m3_3 m4 m5 m6 := by kernel_rfl
theorem s5_3_run (x0 : List V) (x4 : Int) (x6 : List UInt8) (x7 : Int) (x8 : Int) (x9 : Int) (x12 : Bool) (x13 : Int) (x14 : Int) (x16 : Bool) (m0 : List V) (m1 : List (List (V × V))) (m3_0 : Int) (m3_1 : Int) (m3_2 : List UInt8) (m3_3 : Int) (m4 : List V) (m5 : List (V × V)) (m6 : List (V × V)) {o o' : Out} (h : s5_3 x0 x4 x6 x7 x8 x9 x12 x13 x14 x16 m0 m1 m3_0 m3_1 m3_2 m3_3 m4 m5 m6 = some o) (hg : Go kcB true 2 fa5 o o') : Go kcB true 2 fa5 (.head 3 (T5_3 x0 x4 x6 x7 x8 x9 x12 x13 x14 x16 m0 m1 m3_0 m3_1 m3_2 m3_3 m4 m5 m6)) o' := .step ((s5_3_eq x0 x4 x6 x7 x8 x9 x12 x13 x14 x16 m0 m1 m3_0 m3_1 m3_2 m3_3 m4 m5 m6).trans h) hg
noncomputable def s5_4 (x0 : List V) (x4 : Int) (x12 : Bool) (x13 : Int) (m0 : List V) (m1 : List (List (V × V))) (m3_0 : Int) (m3_1 : Int) (m3_2 : List UInt8) (m3_3 : Int) (m4 : List (V × V)) (m5 : List (V × V)) : R :=
  cond x12
 (cond (decide (m3_3 > 0))
 (cond (!((x13 == (9 : Int)) == (decide (m3_3 < 7))))
 (some (.doneM (V.bool false) (tm m0 m1 m4 m5)))
 (some (.head 0 (T5_0 x0 (W .i64 (x4 + 1)) m0 m1 m4 m5))))
 (cond (!((x13 == (9 : Int)) == false))
 (some (.doneM (V.bool false) (tm m0 m1 m4 m5)))
 (some (.head 0 (T5_0 x0 (W .i64 (x4 + 1)) m0 m1 m4 m5)))))
 (cond (!((x13 == (9 : Int)) == false))
 (some (.doneM (V.bool false) (tm m0 m1 m4 m5)))
 (some (.head 0 (T5_0 x0 (W .i64 (x4 + 1)) m0 m1 m4 m5))))
theorem s5_4_eq (x0 : List V) (x4 : Int) (x12 : Bool) (x13 : Int) (m0 : List V) (m1 : List (List (V × V))) (m3_0 : Int) (m3_1 : Int) (m3_2 : List UInt8) (m3_3 : Int) (m4 : List (V × V)) (m5 : List (V × V)) : goK kcB true 2 fa5 4 (T5_4 x0 x4 x12 x13 m0 m1 m3_0 m3_1 m3_2 m3_3 m4 m5) = s5_4 x0 x4 x12 x13 m0 m1 m3_0 m3_1 m3_2 m3_3 m4 m5 := by kernel_rfl
theorem s5_4_run (x0 : List V) (x4 : Int) (x12 : Bool) (x13 : Int) (m0 : List V) (m1 : List (List (V × V))) (m3_0 : Int) (m3_1 : Int) (m3_2 : List UInt8) (m3_3 : Int) (m4 : List (V × V)) (m5 : List (V × V)) {o o' : Out} (h : s5_4 x0 x4 x12 x13 m0 m1 m3_0 m3_1 m3_2 m3_3 m4 m5 = some o) (hg : Go kcB true 2 fa5 o o') : Go kcB true 2 fa5 (.head 4 (T5_4 x0 x4 x12 x13 m0 m1 m3_0 m3_1 m3_2 m3_3 m4 m5)) o' := .step ((s5_4_eq x0 x4 x12 x13 m0 m1 m3_0 m3_1 m3_2 m3_3 m4 m5).trans h) hg
end Go.Proofs.Ytpkeiaeaonmacaa
namespace Go.Proofs.Ytpkeiaeaonmacaa
open Go Go.Lite
set_option linter.unusedSimpArgs false
set_option linter.unusedVariables false
set_option linter.unnecessarySimpa false
set_option maxRecDepth 10000
theorem wI1 (m : Int) (h : 0 ≤ m ∧ m < 100) : W .i64 (m + 1) = m + 1 := W_i64 (by omega)
structure Op where
  kind : Int
  owner : Int
  name : Bs
  mode : Int
def opV (o : Op) : V := .agg [.int .i64 o.kind, .int .i64 o.owner, .str o.name, .int .i64 o.mode]
theorem dO (o : Op) (k : Int → Int → Bs → Int → R) : d27 (opV o) k = k o.kind o.owner o.name o.mode := rfl
def cutN (s : Bs) : Bs := s.take ((if 2 < (s.length : Int) then 2 else (s.length : Int)).toNat)
theorem cut_nm (s : Bs) : Nm (cutN s) := by
  unfold cutN Nm
  rw [List.length_take]
  split <;> omega
theorem cut_fold (s : Bs) : s.take ((if 2 < (s.length : Int) then 2 else (s.length : Int)).toNat) = cutN s := rfl
theorem gc1 (s : Bs) : decide (0 ≤ (if 2 < (s.length : Int) then 2 else (s.length : Int))) = true := decide_eq_true (by split <;> omega)
theorem gc2 (s : Bs) : decide ((if 2 < (s.length : Int) then 2 else (s.length : Int)).toNat ≤ s.length) = true := decide_eq_true (by split <;> omega)
theorem and7 (x : Int) : ∃ q : Int, (0 ≤ q ∧ q < 8) ∧ W .i64 (((BitVec.ofInt (IntKind.bits .i64) x &&& BitVec.ofInt (IntKind.bits .i64) 7).toNat : Int)) = q := by
  refine ⟨((BitVec.ofInt 64 x &&& BitVec.ofInt 64 7).toNat : Nat), ⟨by omega, ?_⟩, ?_⟩
  · rw [BitVec.toNat_and]
    have := Nat.lt_of_le_of_lt (@Nat.and_le_right (BitVec.ofInt 64 x).toNat (BitVec.ofInt 64 7).toNat) (show (BitVec.ofInt 64 7).toNat < 8 by decide)
    omega
  · change W .i64 (((BitVec.ofInt 64 x &&& BitVec.ofInt 64 7).toNat : Int)) = _
    have : (BitVec.ofInt 64 x &&& BitVec.ofInt 64 7).toNat < 8 := by
      rw [BitVec.toNat_and]
      exact Nat.lt_of_le_of_lt Nat.and_le_right (by decide)
    exact W_i64 (by omega)
theorem op_get {ops : List Op} {i : Nat} {o : Op} (h : ops[i]? = some o) (q : V → R) : idxK (ops.map opV) ((i : Int)).toNat q = q (opV o) := idxK_c h
noncomputable def playA (L : List Lk) (W : WL) (k : Int) (o : Int) (nm : Bs) (m : Int) : List Lk × WL :=
  if k = 0 then (askA L W o nm m).2 else if k = 1 then ((freeA L W o nm).2.1, (freeA L W o nm).2.2.1) else ((dropA L W o).1, (dropA L W o).2.1)
section
variable {els : List V} {ms : List (List (V × V))} {lk ws : List (V × V)} {ix : Bs → Nat} {L : List Lk} {W : WL} {b : Int} {n N : Nat} {nm : Bs} {e : Lk} {o : Int}
theorem Good.play (g : Good b n L W) (ho : o < b) (k : Int) (nm : Bs) (m : Int) : Good b (n + 1) (playA L W k o nm m).1 (playA L W k o nm m).2 := by
  unfold playA
  split
  · exact g.ask ho nm m
  · split
    · exact (Good.free g o nm).more (by omega)
    · exact (Good.drop g o).more (by omega)
theorem wait_none (g : Good b n L W) (h : waitA L W o = none) : getA W o = none := by
  cases hg : getA W o with
  | none => rfl
  | some n2 =>
    obtain ⟨e, m, h1, h2⟩ := g.wok o n2 hg
    unfold waitA at h
    rw [hg, Option.bind_some, h1, Option.bind_some, h2] at h
    cases h
theorem wait_some {p : Bs × Int} (h : waitA L W o = some p) : getA W o = some p.1 ∧ ∃ e, getL L p.1 = some e ∧ getA e.q o = some p.2 := by
  unfold waitA at h
  simp only [Option.bind_eq_some_iff, Option.map_eq_some_iff] at h
  obtain ⟨n2, h1, e, h2, m, h3, rfl⟩ := h
  exact ⟨h1, e, h2, h3⟩
theorem wait_of (h : getA W o = none) : waitA L W o = none := by unfold waitA; rw [h]; rfl
theorem mode_get (g : Good b n L W) (h : modeA L o nm ≠ 0) : ∃ e, getL L nm = some e ∧ getA e.held o = some (modeA L o nm) ∧ 1 ≤ modeA L o nm ∧ modeA L o nm ≤ 6 := by
  obtain ⟨e, he⟩ := modeA_some h
  refine ⟨e, he, ?_⟩
  unfold modeA at h ⊢
  rw [he, Option.bind_some] at h ⊢
  cases hg : getA e.held o with
  | none => rw [hg] at h; exact absurd rfl h
  | some m =>
    rw [Option.getD_some]
    exact ⟨rfl, g.hm e (getL_some he).1 _ (getA_mem hg)⟩
theorem mode_eq (he : getL L nm = some e) : modeA L o nm = (getA e.held o).getD 0 := by unfold modeA; rw [he]; rfl
theorem ask_again (g : Good b n L W) (ho : 0 ≤ o) {m : Int} (hm : 1 ≤ m ∧ m ≤ 6) (h0 : modeA L o nm ≠ 0) (hw : getA W o = none) (hc : coversB (modeA L o nm) m = true) : askA L W o nm m = (0, L, W) := by
  obtain ⟨e, he, h1, h2⟩ := mode_get g h0
  unfold askA
  rw [if_neg (by omega), if_neg (by rw [hw]; simp), atL_some he, he]
  dsimp only
  rw [h1]
  exact if_pos ⟨rfl, cov_join h2 hm hc⟩
end
theorem plain_sc (ops : List Op) : plainL [.sl (ops.map opV)] = true := by
  have : ∀ l : List Op, plainL (l.map opV) = true := by
    intro l
    induction l with
    | nil => rfl
    | cons o l ih =>
      rw [List.map_cons]
      unfold plainL
      rw [ih]
      rfl
  simp only [plainL, V.plain, this, Bool.and_true]
end Go.Proofs.Ytpkeiaeaonmacaa
namespace Go.Proofs.Ytpkeiaeaonmacaa
open Go Go.Lite
set_option linter.unusedSimpArgs false
set_option linter.unusedVariables false
set_option linter.unnecessarySimpa false
set_option maxRecDepth 10000
section
variable {els : List V} {ms : List (List (V × V))} {lk ws : List (V × V)} {ix : Bs → Nat} {L : List Lk} {W : WL} {b : Int} {n N : Nat} {S : Bs → Prop} {nm : Bs} {e : Lk} {o x : Int}
theorem mode_at (o : Int) : modeA (atL L nm) o nm = modeA L o nm := by
  obtain ⟨e, he, h | ⟨h1, rfl⟩⟩ := atL_get L nm
  · rw [mode_eq he, mode_eq h]
  · rw [mode_eq he]
    unfold modeA
    rw [h1]; rfl
theorem queue_at' : queueA (atL L nm) nm = queueA L nm := by
  obtain ⟨e, he, h | ⟨h1, rfl⟩⟩ := atL_get L nm
  · unfold queueA; rw [he, h]
  · unfold queueA; rw [he, h1]; rfl
inductive Asked (L : List Lk) (W : WL) (o : Int) (nm : Bs) (m : Int) : Int × List Lk × WL → Prop where
  | arg : ¬ (1 ≤ m ∧ m ≤ 6) → Asked L W o nm m (1, L, W)
  | state : (1 ≤ m ∧ m ≤ 6) → getA W o ≠ none → Asked L W o nm m (9, L, W)
  | ok (L' : List Lk) : (1 ≤ m ∧ m ≤ 6) → getA W o = none → coversB (modeA L' o nm) m = true → coversB (modeA L' o nm) (modeA L o nm) = true → Asked L W o nm m (0, L', W)
  | wait (L' : List Lk) (wm : Int) : (1 ≤ m ∧ m ≤ 6) → getA W o = none → waitA L' (putA W o nm) o = some (nm, wm) → coversB wm m = true → modeA L' o nm = modeA L o nm → (queueA L' nm).length = (queueA L nm).length + 1 → Asked L W o nm m (10, L', putA W o nm)
  | dead : (1 ≤ m ∧ m ≤ 6) → getA W o = none → Asked L W o nm m (11, L, W)
theorem Good.asked (h : Good b n L W) {o : Int} (ho : 0 ≤ o ∧ o < b) (nm : Bs) (m : Int) : Asked L W o nm m (askA L W o nm m) := by
  unfold askA
  split
  · rename_i h1
    exact .arg (by omega)
  rename_i h1
  have hm : 1 ≤ m ∧ m ≤ 6 := by omega
  split
  · rename_i h2
    exact .state hm h2
  rename_i hg
  have hg : getA W o = none := Classical.not_not.1 hg
  obtain ⟨e, he, hor⟩ := atL_get L nm
  have ha := WG.at h nm
  have hhad := ha.had (getL_some he).1 o
  have hwas : modeA L o nm = (getA e.held o).getD 0 := by rw [← mode_at, mode_eq he]
  have hcov := join_cov hhad hm
  rw [he]
  dsimp only
  split
  · rename_i h2
    rcases hor with h3 | ⟨_, rfl⟩
    · rw [atL_some h3]
      refine .ok L hm hg ?_ ?_
      · rw [hwas, ← h2.2]; exact hcov.2
      · rw [hwas]; have := hcov.1; rw [h2.2] at this; exact this
    · cases h2.1
  · rename_i h2
    split
    · rename_i h3
      have hmo : modeA (setL (atL L nm) nm (putA e.held o (joinB ((getA e.held o).getD 0) m)) e.q) o nm = joinB ((getA e.held o).getD 0) m := by
        rw [mode_eq (getL_set he _ _)]
        show (getA (putA e.held o _) o).getD 0 = _
        rw [getA_put_self]; rfl
      refine .ok _ hm hg ?_ ?_
      · rw [hmo]; exact hcov.2
      · rw [hmo, hwas]; exact hcov.1
    · rename_i h3
      unfold stayA
      rw [atL_at, he]
      dsimp only
      split
      · rcases hor with h4 | ⟨_, rfl⟩
        · rw [atL_some h4]; exact .dead hm hg
        · exact absurd ⟨canB_nil _ _, .inr rfl⟩ h3
      · obtain ⟨s1, s2, s3, s4, hoq⟩ := stay_pre (m := joinB ((getA e.held o).getD 0) m) ha he hg
        have hge := getL_set he e.held (insQ e o (joinB ((getA e.held o).getD 0) m))
        refine .wait _ (joinB ((getA e.held o).getD 0) m) hm hg ?_ hcov.2 ?_ ?_
        · unfold waitA
          rw [getA_put_self, Option.bind_some, hge, Option.bind_some]
          show (getA (insQ e o _) o).map _ = _
          rw [getA_of (insQ_nodup (ha.qn e (getL_some he).1) hoq) (insQ_mem.2 (.inr rfl))]; rfl
        · rw [mode_eq hge, hwas]
        · rw [← queue_at' (L := L) (nm := nm)]
          unfold queueA
          rw [hge, he]
          dsimp only
          rw [List.length_map, insQ_len, List.length_map]
end
abbrev E0 (sc : List V) (i : Nat) (els : List V) (ms : List (List (V × V))) (lk ws : List (V × V)) : Out := .head 0 (T5_0 sc (i : Int) els ms lk ws)
abbrev E1 (sc : List V) (i : Nat) (op : Op) (o : Int) (nm : Bs) (was : Int) (hl : Int) (wd : Bool) (e now : Int) (ww : Option (Bs × Int)) (qs : List Int) (els : List V) (ms : List (List (V × V))) (lk ws : List (V × V)) : Out :=
  .head 1 (T5_1 sc (i : Int) nm o was hl wd e now ww.isSome els ms op.kind op.owner op.name op.mode (ints qs) (ww.getD ([], 0)).1 (ww.getD ([], 0)).2 lk ws)
theorem queue_len {L : List Lk} {W : WL} {b : Int} {n : Nat} {nm : Bs} (g : Good b n L W) : (queueA L nm).length ≤ n := by
  unfold queueA
  split
  · simp
  · rename_i e he
    rw [List.length_map]
    have := tot_mem (getL_some he).1
    have := g.tot
    omega
theorem dead_end (sc : List V) (i : Nat) (hi : i ≤ 100) (op : Op) {L L' : List Lk} {W W' : WL} {n : Nat} (g : Good 8 n L W) (g' : Good 8 (n + 1) L' W') (hn : n ≤ 100) {o : Int} {nm : Bs} {e : Int} (ha : Asked L W o nm op.mode (e, L', W'))
    {els : List V} {ms : List (List (V × V))} {lk : List (V × V)} {ix : Bs → Nat} (r : Rep els ms lk (W'.map wE) ix L' W') :
    ∃ els' ms' lk' ix', Rep els' ms' lk' (W'.map wE) ix' L' W' ∧ ∀ q, Go kcB true 2 fa5 (E0 sc (i + 1) els' ms' lk' (W'.map wE)) q →
      Go kcB true 2 fa5 (E1 sc i op o nm (modeA L o nm) ((heldA L o).length : Int) (waitA L W o).isSome e (modeA L' o nm) (waitA L' W' o) (queueA L nm) els ms lk (W'.map wE)) q := by
  have k1 := queue_at r g' (by omega) nm
  have k2 := held_at r g' (by omega) o
  have hI : pcW cfgB 22 [.sl (ints (queueA L nm)), .sl (ints (queueA L nm))] = some (.bool true) := (intsR_ok _ _ (by have := queue_len (nm := nm) g; omega)).trans (by rw [beq_self_eq_true])
  have hw9 : ∀ x, getA W o = some x → (waitA L W o).isSome = true := fun x hx => by
    obtain ⟨e, m, h1, h2⟩ := g.wok o x hx
    unfold waitA; rw [hx, Option.bind_some, h1, Option.bind_some, h2]; rfl
  refine ⟨els, ms, lk, ix, r, fun q hq => ?_⟩
  cases ha with
  | arg hm =>
    refine s5_1_run _ _ _ _ _ _ _ _ _ _ _ _ _ _ _ _ _ _ _ _ _ (o := ?p11) ?a11 ?b11
    case a11 =>
      unfold s5_1; rw [ibeq_f (by decide), cond_false]
    refine s5_2_run _ _ _ _ _ _ _ _ _ _ _ _ _ _ _ _ _ _ _ _ _ (o := ?p21) ?a21 ?b21
    case a21 =>
      unfold s5_2; rw [ibeq_f (by decide), cond_false]
    refine s5_3_run _ _ _ _ _ _ _ _ _ _ _ _ _ _ _ _ _ _ _ (o := ?p31) ?a31 ?b31
    case a31 =>
      unfold s5_3
      rw [ibne_t (by decide), cond_true, ibne_t (by decide), cond_true, beq_self_eq_true, Bool.not_true, cond_false, ibne_f rfl, cond_false, icM_of mk19_inj k2]
      dsimp only
      rw [List.length_map, ibne_f rfl, cond_false, icM_of mk12_inj k1]
      dsimp only
      rw [pcK_of hI, kB_mk, Bool.not_true, cond_false]
    refine s5_4_run _ _ _ _ _ _ _ _ _ _ _ _ ?a41 hq
    case a41 =>
      unfold s5_4
      rw [ibeq_f (show (1 : Int) ≠ 9 by decide)]
      cases (waitA L W o).isSome
      · rw [cond_false, beq_self_eq_true, Bool.not_true, cond_false, wi i (by omega)]
      · rw [cond_true]
        by_cases h0 : op.mode > 0
        · rw [decide_eq_true h0, cond_true, decide_eq_false (show ¬ op.mode < 7 by omega), beq_self_eq_true, Bool.not_true, cond_false, wi i (by omega)]
        · rw [decide_eq_false h0, cond_false, beq_self_eq_true, Bool.not_true, cond_false, wi i (by omega)]
  | state hm hg =>
    refine s5_1_run _ _ _ _ _ _ _ _ _ _ _ _ _ _ _ _ _ _ _ _ _ (o := ?p12) ?a12 ?b12
    case a12 =>
      unfold s5_1; rw [ibeq_f (by decide), cond_false]
    refine s5_2_run _ _ _ _ _ _ _ _ _ _ _ _ _ _ _ _ _ _ _ _ _ (o := ?p22) ?a22 ?b22
    case a22 =>
      unfold s5_2; rw [ibeq_f (by decide), cond_false]
    refine s5_3_run _ _ _ _ _ _ _ _ _ _ _ _ _ _ _ _ _ _ _ (o := ?p32) ?a32 ?b32
    case a32 =>
      unfold s5_3
      rw [ibne_t (by decide), cond_true, ibne_t (by decide), cond_true, beq_self_eq_true, Bool.not_true, cond_false, ibne_f rfl, cond_false, icM_of mk19_inj k2]
      dsimp only
      rw [List.length_map, ibne_f rfl, cond_false, icM_of mk12_inj k1]
      dsimp only
      rw [pcK_of hI, kB_mk, Bool.not_true, cond_false]
    refine s5_4_run _ _ _ _ _ _ _ _ _ _ _ _ ?a42 hq
    case a42 =>
      have hs : (waitA L W o).isSome = true := by
        cases hx : getA W o with
        | none => exact absurd hx hg
        | some x => exact hw9 x hx
      unfold s5_4
      rw [hs, cond_true, decide_eq_true (show op.mode > 0 by omega), cond_true, ibeq_t (show (9 : Int) = 9 from rfl), decide_eq_true (show op.mode < 7 by omega), beq_self_eq_true, Bool.not_true, cond_false, wi i (by omega)]
  | ok _ hm hg h1 h2 =>
    have hn : waitA L W o = none := wait_of hg
    have hn' : waitA L' W o = none := wait_of hg
    rw [hn, hn']
    refine s5_1_run _ _ _ _ _ _ _ _ _ _ _ _ _ _ _ _ _ _ _ _ _ (o := ?p13) ?a13 ?b13
    case a13 =>
      unfold s5_1; rw [ibeq_t rfl, cond_true, Option.isSome_none, cond_false, pcK_of (rcoversW _ _), kB_mk, h1, Bool.not_true, cond_false, pcK_of (rcoversW _ _), kB_mk, h2, Bool.not_true, cond_false]
    refine s5_2_run _ _ _ _ _ _ _ _ _ _ _ _ _ _ _ _ _ _ _ _ _ (o := ?p23) ?a23 ?b23
    case a23 =>
      unfold s5_2; rw [ibeq_f (by decide), cond_false]
    refine s5_3_run _ _ _ _ _ _ _ _ _ _ _ _ _ _ _ _ _ _ _ (o := ?p33) ?a33 ?b33
    case a33 =>
      unfold s5_3; rw [ibne_f rfl, cond_false]
    refine s5_4_run _ _ _ _ _ _ _ _ _ _ _ _ ?a43 hq
    case a43 =>
      unfold s5_4
      rw [cond_false, ibeq_f (show (0 : Int) ≠ 9 by decide), beq_self_eq_true, Bool.not_true, cond_false, wi i (by omega)]
  | wait _ wm hm hg hw h1 h2 h3 =>
    have hn : waitA L W o = none := wait_of hg
    rw [hn, hw]
    refine s5_1_run _ _ _ _ _ _ _ _ _ _ _ _ _ _ _ _ _ _ _ _ _ (o := ?p14) ?a14 ?b14
    case a14 =>
      unfold s5_1; rw [ibeq_f (by decide), cond_false]
    refine s5_2_run _ _ _ _ _ _ _ _ _ _ _ _ _ _ _ _ _ _ _ _ _ (o := ?p24) ?a24 ?b24
    case a24 =>
      have hql := queue_len (nm := nm) g
      unfold s5_2
      rw [ibeq_t rfl, cond_true, Option.isSome_none, cond_false, Option.isSome_some, Bool.not_true, cond_false, Option.getD_some, beq_self_eq_true, Bool.not_true, cond_false, pcK_of (rcoversW _ _), kB_mk, h1, Bool.not_true, cond_false, h2, ibne_f rfl, cond_false, icM_of mk12_inj k1]
      dsimp only
      rw [ints_len, ints_len, wi _ (by omega), h3, ibne_f rfl, cond_false]
    refine s5_3_run _ _ _ _ _ _ _ _ _ _ _ _ _ _ _ _ _ _ _ (o := ?p34) ?a34 ?b34
    case a34 =>
      unfold s5_3; rw [ibne_t (by decide), cond_true, ibne_f rfl, cond_false]
    refine s5_4_run _ _ _ _ _ _ _ _ _ _ _ _ ?a44 hq
    case a44 =>
      unfold s5_4
      rw [cond_false, ibeq_f (show (10 : Int) ≠ 9 by decide), beq_self_eq_true, Bool.not_true, cond_false, wi i (by omega)]
  | dead hm hg =>
    have hn : waitA L W o = none := wait_of hg
    rw [hn]
    refine s5_1_run _ _ _ _ _ _ _ _ _ _ _ _ _ _ _ _ _ _ _ _ _ (o := ?p15) ?a15 ?b15
    case a15 =>
      unfold s5_1; rw [ibeq_f (by decide), cond_false]
    refine s5_2_run _ _ _ _ _ _ _ _ _ _ _ _ _ _ _ _ _ _ _ _ _ (o := ?p25) ?a25 ?b25
    case a25 =>
      unfold s5_2; rw [ibeq_f (by decide), cond_false]
    refine s5_3_run _ _ _ _ _ _ _ _ _ _ _ _ _ _ _ _ _ _ _ (o := ?p35) ?a35 ?b35
    case a35 =>
      unfold s5_3
      rw [ibne_t (by decide), cond_true, ibne_t (by decide), cond_true, beq_self_eq_true, Bool.not_true, cond_false, ibne_f rfl, cond_false, icM_of mk19_inj k2]
      dsimp only
      rw [List.length_map, ibne_f rfl, cond_false, icM_of mk12_inj k1]
      dsimp only
      rw [pcK_of hI, kB_mk, Bool.not_true, cond_false]
    refine s5_4_run _ _ _ _ _ _ _ _ _ _ _ _ ?a45 hq
    case a45 =>
      unfold s5_4
      rw [Option.isSome_none, cond_false, ibeq_f (show (11 : Int) ≠ 9 by decide), beq_self_eq_true, Bool.not_true, cond_false, wi i (by omega)]
theorem dead_out (ops : List Op) : ∀ (d i : Nat) (els : List V) (ms : List (List (V × V))) (lk ws : List (V × V)) (ix : Bs → Nat) (L : List Lk) (W : WL), i + d = 60 → Rep els ms lk ws ix L W → Good 8 i L W →
    ∃ m, Go kcB true 2 fa5 (E0 (ops.map opV) i els ms lk ws) (.doneM (.bool true) m) := by
  intro d
  induction d with
  | zero =>
    intro i els ms lk ws ix L W hi r g
    have : i = 60 := by omega
    subst this
    apply Exists.intro
    refine s5_0_run _ _ _ _ _ _ ?_ (.refl _)
    unfold s5_0
    by_cases hl : 60 < ops.length
    · rw [decide_eq_true (by simp; omega), cond_true, decide_eq_false (by decide), cond_false, pcK_of fixed_ok, kB_mk]
    · rw [decide_eq_false (by simp; omega), cond_false, pcK_of fixed_ok, kB_mk]
  | succ d ih =>
    intro i els ms lk ws ix L W hi r g
    by_cases hl : i < ops.length
    · obtain ⟨o, ho⟩ : ∃ o, ops[i]? = some o := ⟨_, List.getElem?_eq_getElem hl⟩
      obtain ⟨w, hw, ew⟩ := and7 o.owner
      have hcn := cut_nm o.name
      have g2 := g.play (o := w) hw.2 o.kind (cutN o.name) o.mode
      have hdec : decide ((i : Int) < ((ops.map opV).length : Int)) = true := decide_eq_true (by simp; omega)
      have hget := fun q => op_get ho q
      suffices hs : ∃ els' ms' lk' ix', Rep els' ms' lk' ((playA L W o.kind w (cutN o.name) o.mode).2.map wE) ix' (playA L W o.kind w (cutN o.name) o.mode).1 (playA L W o.kind w (cutN o.name) o.mode).2 ∧
          ∀ q, Go kcB true 2 fa5 (E0 (ops.map opV) (i + 1) els' ms' lk' ((playA L W o.kind w (cutN o.name) o.mode).2.map wE)) q → Go kcB true 2 fa5 (E0 (ops.map opV) i els ms lk ws) q by
        obtain ⟨els', ms', lk', ix', r', q'⟩ := hs
        obtain ⟨m, q3⟩ := ih (i + 1) els' ms' lk' _ ix' _ _ (by omega) r' g2
        exact ⟨m, q' _ q3⟩
      by_cases h0 : o.kind = 0
      · have hp : playA L W o.kind w (cutN o.name) o.mode = (askA L W w (cutN o.name) o.mode).2 := if_pos h0
        rw [hp] at g2 ⊢
        have k1 := mode_ok r w (cutN o.name)
        have k2 := held_at r g (by omega) w
        have k3 := queue_at r g (by omega) (cutN o.name)
        have k4 := waits_at r g (by omega) w
        obtain ⟨els', ms', lk', ix', k5, r'⟩ := ask_at r g (by omega) w (by unfold I64; omega) (cutN o.name) o.mode
        have k6 := mode_ok r' w (cutN o.name)
        have k7 := waits_at r' g2 (by omega) w
        obtain ⟨els2, ms2, lk2, ix2, r2, q2⟩ := dead_end (e := (askA L W w (cutN o.name) o.mode).1) (ops.map opV) i (by omega) o g g2 (by omega) (Good.asked g hw (cutN o.name) o.mode) r'
        refine ⟨els2, ms2, lk2, ix2, r2, fun q hq => s5_0_run _ _ _ _ _ _ ?_ (q2 q hq)⟩
        unfold s5_0
        rw [hdec, cond_true, decide_eq_true (by omega), cond_true, gd_of (by simp), hget, dO, gc1, gd_true, gc2, gd_true, ibne_f h0, cond_false, cut_fold, ew, icM_of mk14_inj k1]
        dsimp only
        rw [icM_of mk19_inj k2]
        dsimp only
        rw [icM_of mk12_inj k3]
        dsimp only
        rw [icM_of mk15_inj k4]
        dsimp only
        rw [icM_of mk20_inj k5]
        dsimp only
        rw [icM_of mk14_inj k6]
        dsimp only
        rw [icM_of mk15_inj k7]
        dsimp only
        rw [List.length_map]
      by_cases h1 : o.kind = 1
      · have hp : playA L W o.kind w (cutN o.name) o.mode = ((freeA L W w (cutN o.name)).2.1, (freeA L W w (cutN o.name)).2.2.1) := (if_neg h0).trans (if_pos h1)
        rw [hp] at g2 ⊢
        obtain ⟨els', ms', lk', ix', k1, r'⟩ := free_at r g (by omega) w (cutN o.name)
        refine ⟨els', ms', lk', ix', r', fun q hq => s5_0_run _ _ _ _ _ _ ?_ hq⟩
        unfold s5_0
        rw [hdec, cond_true, decide_eq_true (by omega), cond_true, gd_of (by simp), hget, dO, gc1, gd_true, gc2, gd_true, ibne_t h0, cond_true, gd_true, gd_true, ibeq_f h0, cond_false, ibeq_t h1, cond_true, cut_fold, ew, icM_of mk24_inj k1, wi i (by omega)]
      · have hp : playA L W o.kind w (cutN o.name) o.mode = ((dropA L W w).1, (dropA L W w).2.1) := (if_neg h0).trans (if_neg h1)
        rw [hp] at g2 ⊢
        obtain ⟨els', ms', lk', ix', k1, r'⟩ := drop_at r g (by omega) w
        refine ⟨els', ms', lk', ix', r', fun q hq => s5_0_run _ _ _ _ _ _ ?_ hq⟩
        unfold s5_0
        rw [hdec, cond_true, decide_eq_true (by omega), cond_true, gd_of (by simp), hget, dO, gc1, gd_true, gc2, gd_true, ibne_t h0, cond_true, gd_true, gd_true, ibeq_f h0, cond_false, ibeq_f h1, cond_false, ew, icM_of mk18_inj k1, wi i (by omega)]
    · apply Exists.intro
      refine s5_0_run _ _ _ _ _ _ ?_ (.refl _)
      unfold s5_0
      rw [decide_eq_false (by simp; omega), cond_false, pcK_of fixed_ok, kB_mk]
theorem lockDead_ok (ops : List Op) : pcW cfgB 5 [.sl (ops.map opV)] = some (.bool true) := by
  obtain ⟨m, c⟩ := dead_out ops 60 0 [] [] [] [] (fun _ => 0) [] [] rfl Rep.mt (Good.mt (by decide))
  refine law_run rfl fa5_eq rfl rfl ?_ rfl ((e5_eq _).trans ?_) c
  · unfold arsOk
    rw [plain_sc]; rfl
  · rfl
end Go.Proofs.Ytpkeiaeaonmacaa
namespace Go.Proofs.Ytpkeiaeaonmacaa
open Go Go.Lite Go.ChangeShapes Go.WideShapes Go.ChangeAt Go.RowKit
set_option linter.unusedVariables false
set_option linter.unnecessarySimpa false
set_option maxRecDepth 100000
theorem hok : CfgOK cfgB := hokB
theorem tInt {n : Nat} {vs : List V} (h : TyC Try.prog n 3 vs) : ∃ m, vs = [.int .i64 m] ∧ (Lit.int .i64 m).wf = true := by
  cases n with
  | zero => cases h
  | succ n => unfold TyC at h; rw [Try.underlying3] at h; exact h
theorem aInt {n : Nat} {x : V} (h : ArgT Try.prog n 3 x) : ∃ m, x = .int .i64 m ∧ (Lit.int .i64 m).wf = true := by
  have h2 := h.leaf (by rw [Try.underlying3]; rfl)
  obtain ⟨m, e, w⟩ := tInt h.1
  exact ⟨m, by rw [h2] at e; simpa using e, w⟩
theorem tStr {n : Nat} {vs : List V} (h : TyC Try.prog n 9 vs) : ∃ s, vs = [.str s] ∧ s.length ≤ maxLen := by
  cases n with
  | zero => cases h
  | succ n => unfold TyC at h; rw [Try.underlying9] at h; exact h
theorem tOp {n : Nat} {vs : List V} (h : TyC Try.prog n 27 vs) : ∃ o : Op, vs = [.int .i64 o.kind, .int .i64 o.owner, .str o.name, .int .i64 o.mode] := by
  cases n with
  | zero => cases h
  | succ n =>
    unfold TyC at h
    rw [Try.underlying27] at h
    obtain ⟨hl, hf⟩ := h
    rw [show Try.prog.cellsOf 27 = 4 by kernel_rfl] at hl
    simp only [List.mem_cons, forall_eq_or_imp, List.not_mem_nil, false_implies, implies_true, and_true, show Try.prog.cellsOf 3 = 1 by kernel_rfl, show Try.prog.cellsOf 9 = 1 by kernel_rfl] at hf
    obtain ⟨h0, h1, h2, h3⟩ := hf
    obtain ⟨k, e0, _⟩ := tInt h0
    obtain ⟨p, e1, _⟩ := tInt h1
    obtain ⟨s, e2, _⟩ := tStr h2
    obtain ⟨m, e3, _⟩ := tInt h3
    match vs, hl, e0, e1, e2, e3 with
    | [b0, b1, b2, b3], _, e0, e1, e2, e3 =>
      simp at e0 e1 e2 e3
      exact ⟨⟨k, p, s, m⟩, by rw [e0, e1, e2, e3]⟩
theorem aOp0 {n : Nat} {x : V} (h : ArgT Try.prog n 27 x) : ∃ cs, x = .agg cs ∧ TyC Try.prog n 27 cs := by
  obtain ⟨cs, rfl⟩ := h.agg (by rw [Try.underlying27]; rfl)
  exact ⟨cs, rfl, h.1⟩
theorem aOp' {n : Nat} {x : V} (h : ArgT Try.prog n 27 x) : ∃ o : Op, x = opV o ∧ (fun _ => True) o := by
  obtain ⟨cs, rfl, hC⟩ := aOp0 h
  obtain ⟨o, rfl⟩ := tOp hC
  exact ⟨o, rfl, trivial⟩
theorem lOps : ∀ {l : List V}, (∀ x ∈ l, ∃ m : Op, x = (opV) m ∧ (fun _ => True) m) → ∃ ms : List Op, l = ms.map (opV) ∧ ∀ m ∈ ms, (fun _ => True) m
  | [], _ => ⟨[], rfl, by simp⟩
  | x :: l, h => by
    obtain ⟨a, rfl, ha⟩ := h x (by simp)
    obtain ⟨ms, rfl, hb⟩ := lOps (fun y hy => h y (by simp [hy]) : ∀ y ∈ l, _)
    refine ⟨a :: ms, rfl, fun m hm => ?_⟩
    rcases List.mem_cons.1 hm with rfl | hm
    · exact ha
    · exact hb m hm
theorem tOps {n : Nat} {vs : List V} (h : TyC Try.prog n 22 vs) : ∃ ms : List Op, vs = [.sl (ms.map (opV))] ∧ ms.length ≤ maxLen ∧ ∀ m ∈ ms, (fun _ => True) m := by
  cases n with
  | zero => cases h
  | succ n =>
    unfold TyC at h
    rw [Try.underlying22] at h
    obtain ⟨l, rfl, hl, hx⟩ := h
    obtain ⟨ms, rfl, hm⟩ := lOps fun x hm => aOp' (n := n) (hx x hm)
    exact ⟨ms, rfl, by simpa using hl, hm⟩
theorem aOps {n : Nat} {x : V} (h : ArgT Try.prog n 22 x) : ∃ ms : List Op, x = .sl (ms.map (opV)) ∧ ms.length ≤ maxLen ∧ ∀ m ∈ ms, (fun _ => True) m := by
  have h2 := h.leaf (by rw [Try.underlying22]; rfl)
  obtain ⟨m, e, w⟩ := tOps h.1
  exact ⟨m, by rw [h2] at e; simpa using e, w⟩
theorem own : ownKnob Try.prog.godebug = none := by kernel_rfl
theorem args1 {P : Program} {n : Nat} {t : TypeId} {xs : List V} (h : ArgsT P n [t] xs) : ∃ a, xs = [a] ∧ ArgT P n t a := by
  match xs, h with
  | [a], h => exact ⟨a, rfl, h.1⟩
theorem args2 {P : Program} {n : Nat} {t t' : TypeId} {xs : List V} (h : ArgsT P n [t, t'] xs) : ∃ a b, xs = [a, b] ∧ ArgT P n t a ∧ ArgT P n t' b := by
  match xs, h with
  | [a, b], h => exact ⟨a, b, rfl, h.1, h.2.1⟩
theorem len1 {α : Type} {l : List α} (h : l.length = 1) : ∃ a, l = [a] := by
  match l, h with
  | [a], _ => exact ⟨a, rfl⟩
theorem len2 {α : Type} {l : List α} (h : l.length = 2) : ∃ a b, l = [a, b] := by
  match l, h with
  | [a, b], _ => exact ⟨a, b, rfl⟩
theorem lockDead_args (xs : List V) (h : ArgsT cfgB.P 6 Try.f5.params.toList xs) : pcW cfgB 5 xs = some (.bool true) := by
  rw [Try.params5] at h
  obtain ⟨a, rfl, ha⟩ := args1 h
  obtain ⟨p, rfl, _⟩ := aOps ha
  exact lockDead_ok p
set_option maxRecDepth 100000 in
theorem lockDead_lifted (os : Os) (started : os.Started) (H : Type) (enc : TypeId × Value → H) :
    ReturnsInHanded {} Try.checked os 5 .any (Rows.lockDeadSpec.pre6 enc Try.prog Try.f5 Rows.lockDeadRow.domain false) (Rows.lockDeadSpec.post enc Try.prog Try.f5 false true false false) := by
  refine returnsInHanded_of_change (C := Try.checked) own started (by kernel_rfl) Try.func5
    (ChangeSpec.witness6 (enc := enc) (C := Try.checked) false ⟨#[], #[.slice none 0 0], []⟩ 8 (by kernel_rfl) (by kernel_rfl) (by kernel_rfl) (by kernel_rfl)) ?_
  intro W base args ds gs before hval hW _ _
  exact law_contract hok 6 (by kernel_rfl) (by kernel_rfl) (s := Rows.lockDeadSpec) rfl (by kernel_rfl) (tb := 4) (by kernel_rfl) Try.underlying4
    (fun H ds h => by
      obtain ⟨a, rfl⟩ := len1 (h.trans (by rw [Try.params5]; rfl))
      rfl) lockDead_args W base args ds gs before hval hW
theorem lockDead_holds : Rows.LockDeadSaid :=
  OpenClaim.holds_of_wide 5 Try.f5 rfl rfl rfl rfl rfl rfl rfl ⟨rfl, rfl, rfl, rfl, rfl⟩ rfl rfl rfl rfl rfl (by kernel_rfl) Try.func5 (by kernel_rfl)
    (of_decide_eq_true (by kernel_rfl)) (by unfold Func.isWrapper; first | (rw [if_pos (by decide +kernel)]; kernel_rfl) | (rw [if_neg (by decide +kernel)]; exact ⟨rfl, rfl⟩))
    (fun os started H enc _ => lockDead_lifted os started H enc)
end Go.Proofs.Ytpkeiaeaonmacaa
