/-
  The graph of a law (printed by walk.py).
-/
import Derived.Test.YtknapnnpmfhogaaP1
namespace Go.Proofs.Ytknapnnpmfhogaa
open Go Go.Lite
set_option maxRecDepth 100000
set_option linter.unusedVariables false
noncomputable def fa5 : FA := ⟨2, 170, [.tmp 4], [4],
 (.seq
 (.ops false [o1 4 (.assign (.const (.bool false))) 4])
 (.seq
 (.ops false [o1 22 (.call ⟨(.value (.func 7)), #[(.const (.int .i64 (8)))], #[3]⟩) 25, mv 21 22 25, o1 23 (.extract (t' 21) 0) 23, o1 24 (.extract (t' 21) 1) 24, asg 5 23 23, asg 6 24 24])
 (.seq
 (.seq
 (.ops false [mv 25 5 23, o1 26 (.binOp .eql 23 (t' 25) (.const (.pointer none)) 23) 4, mv 27 26 4, o2 28 (.move (t' 6)) 24 27 false, o2 29 (.binOp .neq 24 (t' 28) (.const (.int .i64 (0))) 24) 4 27 false, o1 30 (.pick (t' 27) (.const (.bool true)) (t' 29)) 4])
 (.cond (t' 30)
 (.seq
 (.ops false [o1 4 (.assign (.const (.bool false))) 4])
 (.ret))
 (.skip)))
 (.seq
 (.ops false [mv 32 5 23, mv 33 0 3, o1 34 (.binOp .and 3 (t' 33) (.const (.int .i64 (7))) 3) 3, o1 35 (.binOp .add 3 (.const (.int .i64 (1))) (t' 34) 3) 3, o1 36 (.call ⟨(.value (.func 8)), #[(t' 32), (t' 35)], #[23, 3]⟩) 28, mv 31 36 28, o1 37 (.extract (t' 31) 0) 27, o1 38 (.extract (t' 31) 1) 24, asg 7 37 27, asg 8 38 24])
 (.seq
 (.seq
 (.ops false [mv 39 7 27, o1 40 (.binOp .eql 27 (t' 39) (.const (.pointer none)) 27) 4, mv 41 40 4, o2 42 (.move (t' 8)) 24 41 false, o2 43 (.binOp .neq 24 (t' 42) (.const (.int .i64 (0))) 24) 4 41 false, o1 44 (.pick (t' 41) (.const (.bool true)) (t' 43)) 4])
 (.cond (t' 44)
 (.seq
 (.ops false [o1 4 (.assign (.const (.bool false))) 4])
 (.ret))
 (.skip)))
 (.seq
 (.ops false [o1 45 (.makeSlice 44 (.const (.int .i64 (8))) (.const (.int .i64 (8)))) 44, asg 9 45 44])
 (.seq
 (.seq
 (.ops false [o1 10 (.assign (.const (.int .i64 (0)))) 3])
 (.block 0
 (.loop ([0, 2, 3, 6, 8] ++ List.range' 11 159)
 (.seq
 (.seq
 (.ops false [mv 46 10 3, mv 47 1 22, o1 48 (.call ⟨(.builtin .len), #[(t' 47)], #[22]⟩) 3, o1 49 (.binOp .lss 3 (t' 46) (t' 48) 3) 4, mv 50 49 4, o2 51 (.move (t' 10)) 3 50 true, o2 52 (.binOp .lss 3 (t' 51) (.const (.int .i64 (60))) 3) 4 50 true, o1 53 (.pick (t' 50) (t' 52) (.const (.bool false))) 4])
 (.cond (t' 53)
 (.skip)
 (.exit 0)))
 (.seq
 (.block 1
 (.seq
 (.ops false [mv 56 1 22, mv 57 10 3, o1 58 (.indexAddr 22 (t' 56) (t' 57)) 0, o1 59 (.load 31 (t' 58)) 31, o1 11 (.alloc 31) 0, o0 (.store 31 (t' 11) (t' 59)) 0])
 (.seq
 (.ops false [o1 60 (.fieldAddr 31 (t' 11) 1) 0, o1 61 (.load 3 (t' 60)) 3, o1 62 (.binOp .and 3 (t' 61) (.const (.int .i64 (7))) 3) 3, asg 12 62 3])
 (.seq
 (.seq
 (.ops false [o1 63 (.fieldAddr 31 (t' 11) 0) 0, o1 64 (.load 3 (t' 63)) 3, o1 65 (.binOp .eql 3 (t' 64) (.const (.int .i64 (0))) 3) 4])
 (.cond (t' 65)
 (.ops false [mv 66 7 27, mv 67 12 3, o1 68 (.call ⟨(.value (.func 9)), #[(t' 66), (t' 67)], #[27, 3]⟩) 32])
 (.skip)))
 (.seq
 (.seq
 (.ops false [o1 69 (.fieldAddr 31 (t' 11) 0) 0, o1 70 (.load 3 (t' 69)) 3, o1 71 (.binOp .eql 3 (t' 70) (.const (.int .i64 (1))) 3) 4])
 (.cond (t' 71)
 (.ops false [mv 72 7 27, mv 73 12 3, o1 74 (.call ⟨(.value (.func 10)), #[(t' 72), (t' 73)], #[27, 3]⟩) 24])
 (.skip)))
 (.seq
 (.ops false [o1 76 (.fieldAddr 31 (t' 11) 2) 0, o1 77 (.load 9 (t' 76)) 9, o1 78 (.fieldAddr 31 (t' 11) 2) 0, o1 79 (.load 9 (t' 78)) 9, o1 80 (.call ⟨(.builtin .len), #[(t' 79)], #[9]⟩) 3, o1 81 (.call ⟨(.builtin .min), #[(t' 80), (.const (.int .i64 (252)))], #[3, 3]⟩) 3, o1 82 (.slice 9 (t' 77) none (some (t' 81)) none) 9, o1 83 (.call ⟨(.value (.func 18)), #[(t' 82), (.const (.int .i64 (252)))], #[9, 3]⟩) 32, mv 75 83 32, o1 84 (.extract (t' 75) 0) 9, o1 85 (.extract (t' 75) 1) 24, asg 13 84 9, asg 14 85 24])
 (.seq
 (.ops false [o1 86 (.fieldAddr 31 (t' 11) 0) 0, o1 87 (.load 3 (t' 86)) 3, o1 88 (.binOp .eql 3 (t' 87) (.const (.int .i64 (2))) 3) 4, mv 89 88 4, o2 90 (.move (t' 7)) 27 89 true, o2 91 (.move (t' 12)) 3 89 true, o2 92 (.move (t' 13)) 9 89 true, o2 93 (.fieldAddr 31 (t' 11) 3) 0 89 true, o2 94 (.load 3 (t' 93)) 3 89 true, o2 95 (.call ⟨(.value (.func 11)), #[(t' 90), (t' 91), (t' 92), (t' 94)], #[27, 3, 9, 3]⟩) 24 89 true, o2 96 (.binOp .eql 24 (t' 95) (.const (.int .i64 (0))) 24) 4 89 true, o1 97 (.pick (t' 89) (t' 96) (.const (.bool false))) 4])
 (.cond (t' 97)
 (.ops false [mv 98 9 44, mv 99 12 3, mv 100 13 9, o1 101 (.indexAddr 44 (t' 98) (t' 99)) 0, o0 (.store 9 (t' 101) (t' 100)) 0])
 (.skip)))))))))
 (.ops false [mv 54 10 3, o1 55 (.binOp .add 3 (t' 54) (.const (.int .i64 (1))) 3) 3, asg 10 55 3]))))))
 (.seq
 (.ops false [mv 102 7 27, o1 103 (.call ⟨(.value (.func 21)), #[(t' 102)], #[27]⟩) 45, o1 104 (.call ⟨(.builtin .len), #[(t' 103)], #[45]⟩) 3, asg 15 104 3])
 (.seq
 (.ops false [mv 105 7 27, o1 106 (.call ⟨(.value (.func 13)), #[(t' 105), (.const (.int .i64 (4611686018427387904)))], #[27, 3]⟩) 0])
 (.seq
 (.seq
 (.ops false [mv 107 7 27, o1 108 (.call ⟨(.value (.func 14)), #[(t' 107)], #[27]⟩) 3, mv 109 15 3, o1 110 (.binOp .gtr 3 (t' 108) (t' 109) 3) 4, mv 111 110 4, o2 112 (.move (t' 7)) 27 111 false, o2 113 (.call ⟨(.value (.func 21)), #[(t' 112)], #[27]⟩) 45 111 false, o2 114 (.call ⟨(.builtin .len), #[(t' 113)], #[45]⟩) 3 111 false, o2 115 (.binOp .neq 3 (t' 114) (.const (.int .i64 (0))) 3) 4 111 false, o1 116 (.pick (t' 111) (.const (.bool true)) (t' 115)) 4])
 (.cond (t' 116)
 (.ops false [o1 15 (.assign (.const (.int .i64 (-1)))) 3])
 (.skip)))
 (.seq
 (.seq
 (.ops false [o1 16 (.assign (.const (.int .i64 (0)))) 3])
 (.block 2
 (.loop ([0, 2, 3, 6, 8] ++ List.range' 10 5 ++ List.range' 17 153)
 (.seq
 (.seq
 (.ops false [mv 117 16 3, o1 118 (.binOp .lss 3 (t' 117) (.const (.int .i64 (8))) 3) 4, mv 119 118 4, o2 120 (.move (t' 15)) 3 119 true, o2 121 (.binOp .geq 3 (t' 120) (.const (.int .i64 (0))) 3) 4 119 true, o1 122 (.pick (t' 119) (t' 121) (.const (.bool false))) 4])
 (.cond (t' 122)
 (.skip)
 (.exit 2)))
 (.seq
 (.block 3
 (.seq
 (.ops false [mv 126 5 23, mv 127 16 3, o1 128 (.call ⟨(.value (.func 15)), #[(t' 126), (t' 127)], #[23, 3]⟩) 32, mv 125 128 32, o1 129 (.extract (t' 125) 0) 9, o1 130 (.extract (t' 125) 1) 24, asg 17 129 9, asg 18 130 24])
 (.seq
 (.ops false [mv 131 18 24, o1 132 (.binOp .neq 24 (t' 131) (.const (.int .i64 (0))) 24) 4, mv 133 132 4, o2 134 (.move (t' 9)) 44 133 false, o2 135 (.move (t' 16)) 3 133 false, o2 136 (.indexAddr 44 (t' 134) (t' 135)) 0 133 false, o2 137 (.load 9 (t' 136)) 9 133 false, o2 138 (.binOp .neq 9 (t' 137) (.const (.string ⟨⟨[]⟩⟩)) 9) 4 133 false, o2 139 (.move (t' 138)) 4 133 false, o2 140 (.move (t' 17)) 9 139 true, o2 141 (.move (t' 9)) 44 139 true, o2 142 (.move (t' 16)) 3 139 true, o2 143 (.indexAddr 44 (t' 141) (t' 142)) 0 139 true, o2 144 (.load 9 (t' 143)) 9 139 true, o2 145 (.binOp .neq 9 (t' 140) (t' 144) 9) 4 139 true, o2 146 (.pick (t' 139) (t' 145) (.const (.bool false))) 4 133 false, o1 147 (.pick (t' 133) (.const (.bool true)) (t' 146)) 4])
 (.cond (t' 147)
 (.seq
 (.ops false [o1 4 (.assign (.const (.bool false))) 4])
 (.ret))
 (.skip)))))
 (.ops false [mv 123 16 3, o1 124 (.binOp .add 3 (t' 123) (.const (.int .i64 (1))) 3) 3, asg 16 124 3]))))))
 (.seq
 (.ops false [mv 149 7 27, o1 150 (.call ⟨(.value (.func 22)), #[(t' 149)], #[27]⟩) 49, mv 148 150 49, o1 151 (.extract (t' 148) 0) 3, o1 152 (.extract (t' 148) 1) 4, asg 19 151 3, asg 20 152 4])
 (.seq
 (.ops false [mv 153 15 3, o1 154 (.binOp .geq 3 (t' 153) (.const (.int .i64 (0))) 3) 4, mv 155 154 4, o2 156 (.move (t' 1)) 22 155 false, o2 157 (.call ⟨(.value (.func 23)), #[(t' 156)], #[22]⟩) 4 155 false, o1 158 (.pick (t' 155) (.const (.bool true)) (t' 157)) 4, mv 159 158 4, o2 160 (.move (t' 15)) 3 159 true, o2 161 (.binOp .lss 3 (t' 160) (.const (.int .i64 (0))) 3) 4 159 true, o2 162 (.move (t' 161)) 4 159 true, o2 163 (.move (t' 20)) 4 162 false, o2 164 (.unOp .not 4 (t' 163)) 4 162 false, o2 165 (.pick (t' 162) (.const (.bool true)) (t' 164)) 4 159 true, o1 166 (.pick (t' 159) (t' 165) (.const (.bool false))) 4, mv 167 166 4, o2 168 (.call ⟨(.value (.func 17)), #[], #[]⟩) 4 167 true, o1 169 (.pick (t' 167) (t' 168) (.const (.bool false))) 4, asg 4 169 4])
 (.ret))))))))))))))⟩
theorem fa5_eq : fnA qcfg.P (qcfg.rxf 5) 5 = some fa5 := by kernel_rfl
def T5_0 (x1 : List V) (x10 : Int) (m0 : List V) (m1 : List V) (m2_0 : Int) (m3_1 : Int) (m3_4 : Int) (m4 : List V) (m5 : List (V × V)) (m6 : List V) (z6 : Nat) (m7 : List (V × V)) (m8 : List V) : S := ⟨[V.junk, V.sl x1, V.junk, V.junk, V.bool false, V.ptr 2 0 0, V.junk, V.ptr 3 0 0, V.junk, V.own 4, V.int .i64 x10] ++ (JU 159), [O.arena 63 m0, O.arena 7 m1, O.box 56 (V.agg [V.int .i64 m2_0, V.mp 5, V.tail 6 0]) false, O.box 59 (V.agg [V.ptr 2 0 0, V.int .i64 m3_1, V.mp 7, V.tail 8 0, V.int .i64 m3_4]) false, O.row 9 m4 0, O.map m5, O.row 88 m6 z6, O.map m7, O.row 3 m8 0]⟩
def T5_1 (x1 : List V) (x15 : Int) (x16 : Int) (m0 : List V) (m1 : List V) (m2_0 : Int) (m3_1 : Int) (m3_4 : Int) (m4 : List V) (m5 : List (V × V)) (m6 : List V) (z6 : Nat) (m7 : List (V × V)) (m8 : List V) : S := ⟨[V.junk, V.sl x1, V.junk, V.junk, V.bool false, V.ptr 2 0 0, V.junk, V.ptr 3 0 0, V.junk, V.own 4] ++ (JU 5) ++ [V.int .i64 x15, V.int .i64 x16] ++ (JU 153), [O.arena 63 m0, O.arena 7 m1, O.box 56 (V.agg [V.int .i64 m2_0, V.mp 5, V.tail 6 0]) false, O.box 59 (V.agg [V.ptr 2 0 0, V.int .i64 m3_1, V.mp 7, V.tail 8 0, V.int .i64 m3_4]) false, O.row 9 m4 0, O.map m5, O.row 88 m6 z6, O.map m7, O.row 3 m8 0]⟩
noncomputable def e5 (pl : Int) (sc : List V) : R :=
  cond (decide (W .i64 (1 + (W .i64 (((BitVec.ofInt (IntKind.bits .i64) pl &&& BitVec.ofInt (IntKind.bits .i64) 7).toNat : Int)))) < 1))
 (some (.doneM (V.bool false) [O.arena 63 [], O.arena 7 [], O.map [], O.row 88 [] 0, O.box 56 (V.agg [V.int .i64 8, V.mp 2, V.tail 3 0]) false]))
 (cond (decide (W .i64 (1 + (W .i64 (((BitVec.ofInt (IntKind.bits .i64) pl &&& BitVec.ofInt (IntKind.bits .i64) 7).toNat : Int)))) > 64))
 (some (.doneM (V.bool false) [O.arena 63 [], O.arena 7 [], O.map [], O.row 88 [] 0, O.box 56 (V.agg [V.int .i64 8, V.mp 2, V.tail 3 0]) false]))
 (some (.head 0 (T5_0 sc 0 [] [] 8 (W .i64 (1 + (W .i64 (((BitVec.ofInt (IntKind.bits .i64) pl &&& BitVec.ofInt (IntKind.bits .i64) 7).toNat : Int))))) 0 (List.replicate 8 (V.str [])) [] [] 0 [] []))))
theorem e5_eq (pl : Int) (sc : List V) : enterK qk true fa5 [V.int .i64 pl, V.sl sc] [O.arena 63 [], O.arena 7 []] = e5 pl sc := by kernel_rfl
theorem e5_run (pl : Int) (sc : List V) {o : Out} {v : V} {m : List O} (h : e5 pl sc = some o) (hg : Go qk true 2 fa5 o (.doneM v m)) : icW qcfg 5 [V.int .i64 pl, V.sl sc] [O.arena 63 [], O.arena 7 []] = some (v, m) := icW_go qik rfl fa5_eq ((e5_eq pl sc).trans h) hg
noncomputable def s5_0 (x1 : List V) (x10 : Int) (m0 : List V) (m1 : List V) (m2_0 : Int) (m3_1 : Int) (m3_4 : Int) (m4 : List V) (m5 : List (V × V)) (m6 : List V) (z6 : Nat) (m7 : List (V × V)) (m8 : List V) : R :=
  cond (decide (x10 < (x1.length : Int)))
 (cond (decide (x10 < 60))
 (gd (decide (0 ≤ x10)) <|
  idxK x1 x10.toNat fun v =>
  d31 v fun kind0 page s n =>
  cond (kind0 == (0 : Int))
 (icM qcfg ⟨false, false⟩ mk9 9 [V.ptr 2 0 0, V.int .i64 (W .i64 (((BitVec.ofInt (IntKind.bits .i64) page &&& BitVec.ofInt (IntKind.bits .i64) 7).toNat : Int)))] [O.arena 63 m0, O.arena 7 m1, O.box 59 (V.agg [V.ptr 3 0 0, V.int .i64 m3_1, V.mp 4, V.tail 5 0, V.int .i64 m3_4]) false, O.box 56 (V.agg [V.int .i64 m2_0, V.mp 6, V.tail 7 0]) false, O.map m7, O.row 3 m8 0, O.map m5, O.row 88 m6 z6] fun L =>
  cond (kind0 == (1 : Int))
 (icM qcfg ⟨true, false⟩ mk10 10 [V.ptr 2 0 0, V.int .i64 (W .i64 (((BitVec.ofInt (IntKind.bits .i64) page &&& BitVec.ofInt (IntKind.bits .i64) 7).toNat : Int)))] [O.arena 63 L.2.2.1, O.arena 7 L.2.2.2.1, O.box 59 (V.agg [V.ptr 3 0 0, V.int .i64 L.2.2.2.2.1, V.mp 4, V.tail 5 0, V.int .i64 L.2.2.2.2.2.1]) false, O.box 56 (V.agg [V.int .i64 L.2.2.2.2.2.2.1, V.mp 6, V.tail 7 0]) false, O.map L.2.2.2.2.2.2.2.1, O.row 3 L.2.2.2.2.2.2.2.2.2.1 0, O.map L.2.2.2.2.2.2.2.2.1, O.row 88 L.2.2.2.2.2.2.2.2.2.2.1 L.2.2.2.2.2.2.2.2.2.2.2] fun L_1 =>
  gd (decide (0 ≤ (if 252 < (s.length : Int) then 252 else (s.length : Int)))) <|
  gd (decide ((if 252 < (s.length : Int) then 252 else (s.length : Int)).toNat ≤ s.length)) <|
  pcK qcfg 18 [V.str (s.take ((if 252 < (s.length : Int) then 252 else (s.length : Int)).toNat)), V.int .i64 252] fun r =>
  d32 r fun r18_0 r18_1 =>
  cond (kind0 == (2 : Int))
 (icM qcfg ⟨true, false⟩ mk11 11 [V.ptr 2 0 0, V.int .i64 (W .i64 (((BitVec.ofInt (IntKind.bits .i64) page &&& BitVec.ofInt (IntKind.bits .i64) 7).toNat : Int))), V.str r18_0, V.int .i64 n] [O.arena 63 L_1.2.1, O.arena 7 L_1.2.2.1, O.box 59 (V.agg [V.ptr 3 0 0, V.int .i64 L_1.2.2.2.1, V.mp 4, V.tail 5 0, V.int .i64 L_1.2.2.2.2.1]) false, O.box 56 (V.agg [V.int .i64 L_1.2.2.2.2.2.1, V.mp 6, V.tail 7 0]) false, O.map L_1.2.2.2.2.2.2.1, O.row 3 L_1.2.2.2.2.2.2.2.1 0, O.map L_1.2.2.2.2.2.2.2.2.1, O.row 88 L_1.2.2.2.2.2.2.2.2.2.1 L_1.2.2.2.2.2.2.2.2.2.2] fun L_2 =>
  cond (L_2.1 == (0 : Int))
 (gd (decide (0 ≤ W .i64 (((BitVec.ofInt (IntKind.bits .i64) page &&& BitVec.ofInt (IntKind.bits .i64) 7).toNat : Int)))) <|
  gd (decide ((W .i64 (((BitVec.ofInt (IntKind.bits .i64) page &&& BitVec.ofInt (IntKind.bits .i64) 7).toNat : Int))).toNat < m4.length)) <|
  idxK m4 ((W .i64 (((BitVec.ofInt (IntKind.bits .i64) page &&& BitVec.ofInt (IntKind.bits .i64) 7).toNat : Int))).toNat) fun v_1 =>
  kS v_1 fun s_1 =>
  some (.head 0 (T5_0 x1 (W .i64 (x10 + 1)) L_2.2.1 L_2.2.2.1 L_2.2.2.2.2.2.1 L_2.2.2.2.1 L_2.2.2.2.2.1 ((m4).set ((W .i64 (((BitVec.ofInt (IntKind.bits .i64) page &&& BitVec.ofInt (IntKind.bits .i64) 7).toNat : Int))).toNat) (V.str r18_0)) L_2.2.2.2.2.2.2.2.2.1 L_2.2.2.2.2.2.2.2.2.2.1 L_2.2.2.2.2.2.2.2.2.2.2 L_2.2.2.2.2.2.2.1 L_2.2.2.2.2.2.2.2.1)))
 (some (.head 0 (T5_0 x1 (W .i64 (x10 + 1)) L_2.2.1 L_2.2.2.1 L_2.2.2.2.2.2.1 L_2.2.2.2.1 L_2.2.2.2.2.1 m4 L_2.2.2.2.2.2.2.2.2.1 L_2.2.2.2.2.2.2.2.2.2.1 L_2.2.2.2.2.2.2.2.2.2.2 L_2.2.2.2.2.2.2.1 L_2.2.2.2.2.2.2.2.1))))
 (some (.head 0 (T5_0 x1 (W .i64 (x10 + 1)) L_1.2.1 L_1.2.2.1 L_1.2.2.2.2.2.1 L_1.2.2.2.1 L_1.2.2.2.2.1 m4 L_1.2.2.2.2.2.2.2.2.1 L_1.2.2.2.2.2.2.2.2.2.1 L_1.2.2.2.2.2.2.2.2.2.2 L_1.2.2.2.2.2.2.1 L_1.2.2.2.2.2.2.2.1))))
 (gd (decide (0 ≤ (if 252 < (s.length : Int) then 252 else (s.length : Int)))) <|
  gd (decide ((if 252 < (s.length : Int) then 252 else (s.length : Int)).toNat ≤ s.length)) <|
  pcK qcfg 18 [V.str (s.take ((if 252 < (s.length : Int) then 252 else (s.length : Int)).toNat)), V.int .i64 252] fun r_1 =>
  d32 r_1 fun r18_0_1 r18_1_1 =>
  cond (kind0 == (2 : Int))
 (icM qcfg ⟨true, false⟩ mk11 11 [V.ptr 2 0 0, V.int .i64 (W .i64 (((BitVec.ofInt (IntKind.bits .i64) page &&& BitVec.ofInt (IntKind.bits .i64) 7).toNat : Int))), V.str r18_0_1, V.int .i64 n] [O.arena 63 L.2.2.1, O.arena 7 L.2.2.2.1, O.box 59 (V.agg [V.ptr 3 0 0, V.int .i64 L.2.2.2.2.1, V.mp 4, V.tail 5 0, V.int .i64 L.2.2.2.2.2.1]) false, O.box 56 (V.agg [V.int .i64 L.2.2.2.2.2.2.1, V.mp 6, V.tail 7 0]) false, O.map L.2.2.2.2.2.2.2.1, O.row 3 L.2.2.2.2.2.2.2.2.2.1 0, O.map L.2.2.2.2.2.2.2.2.1, O.row 88 L.2.2.2.2.2.2.2.2.2.2.1 L.2.2.2.2.2.2.2.2.2.2.2] fun L_3 =>
  cond (L_3.1 == (0 : Int))
 (gd (decide (0 ≤ W .i64 (((BitVec.ofInt (IntKind.bits .i64) page &&& BitVec.ofInt (IntKind.bits .i64) 7).toNat : Int)))) <|
  gd (decide ((W .i64 (((BitVec.ofInt (IntKind.bits .i64) page &&& BitVec.ofInt (IntKind.bits .i64) 7).toNat : Int))).toNat < m4.length)) <|
  idxK m4 ((W .i64 (((BitVec.ofInt (IntKind.bits .i64) page &&& BitVec.ofInt (IntKind.bits .i64) 7).toNat : Int))).toNat) fun v_2 =>
  kS v_2 fun s_2 =>
  some (.head 0 (T5_0 x1 (W .i64 (x10 + 1)) L_3.2.1 L_3.2.2.1 L_3.2.2.2.2.2.1 L_3.2.2.2.1 L_3.2.2.2.2.1 ((m4).set ((W .i64 (((BitVec.ofInt (IntKind.bits .i64) page &&& BitVec.ofInt (IntKind.bits .i64) 7).toNat : Int))).toNat) (V.str r18_0_1)) L_3.2.2.2.2.2.2.2.2.1 L_3.2.2.2.2.2.2.2.2.2.1 L_3.2.2.2.2.2.2.2.2.2.2 L_3.2.2.2.2.2.2.1 L_3.2.2.2.2.2.2.2.1)))
 (some (.head 0 (T5_0 x1 (W .i64 (x10 + 1)) L_3.2.1 L_3.2.2.1 L_3.2.2.2.2.2.1 L_3.2.2.2.1 L_3.2.2.2.2.1 m4 L_3.2.2.2.2.2.2.2.2.1 L_3.2.2.2.2.2.2.2.2.2.1 L_3.2.2.2.2.2.2.2.2.2.2 L_3.2.2.2.2.2.2.1 L_3.2.2.2.2.2.2.2.1))))
 (some (.head 0 (T5_0 x1 (W .i64 (x10 + 1)) L.2.2.1 L.2.2.2.1 L.2.2.2.2.2.2.1 L.2.2.2.2.1 L.2.2.2.2.2.1 m4 L.2.2.2.2.2.2.2.2.1 L.2.2.2.2.2.2.2.2.2.2.1 L.2.2.2.2.2.2.2.2.2.2.2 L.2.2.2.2.2.2.2.1 L.2.2.2.2.2.2.2.2.2.1)))))
 (cond (kind0 == (1 : Int))
 (icM qcfg ⟨true, false⟩ mk10 10 [V.ptr 2 0 0, V.int .i64 (W .i64 (((BitVec.ofInt (IntKind.bits .i64) page &&& BitVec.ofInt (IntKind.bits .i64) 7).toNat : Int)))] [O.arena 63 m0, O.arena 7 m1, O.box 59 (V.agg [V.ptr 3 0 0, V.int .i64 m3_1, V.mp 4, V.tail 5 0, V.int .i64 m3_4]) false, O.box 56 (V.agg [V.int .i64 m2_0, V.mp 6, V.tail 7 0]) false, O.map m7, O.row 3 m8 0, O.map m5, O.row 88 m6 z6] fun L_4 =>
  gd (decide (0 ≤ (if 252 < (s.length : Int) then 252 else (s.length : Int)))) <|
  gd (decide ((if 252 < (s.length : Int) then 252 else (s.length : Int)).toNat ≤ s.length)) <|
  pcK qcfg 18 [V.str (s.take ((if 252 < (s.length : Int) then 252 else (s.length : Int)).toNat)), V.int .i64 252] fun r_2 =>
  d32 r_2 fun r18_0_2 r18_1_2 =>
  cond (kind0 == (2 : Int))
 (icM qcfg ⟨true, false⟩ mk11 11 [V.ptr 2 0 0, V.int .i64 (W .i64 (((BitVec.ofInt (IntKind.bits .i64) page &&& BitVec.ofInt (IntKind.bits .i64) 7).toNat : Int))), V.str r18_0_2, V.int .i64 n] [O.arena 63 L_4.2.1, O.arena 7 L_4.2.2.1, O.box 59 (V.agg [V.ptr 3 0 0, V.int .i64 L_4.2.2.2.1, V.mp 4, V.tail 5 0, V.int .i64 L_4.2.2.2.2.1]) false, O.box 56 (V.agg [V.int .i64 L_4.2.2.2.2.2.1, V.mp 6, V.tail 7 0]) false, O.map L_4.2.2.2.2.2.2.1, O.row 3 L_4.2.2.2.2.2.2.2.1 0, O.map L_4.2.2.2.2.2.2.2.2.1, O.row 88 L_4.2.2.2.2.2.2.2.2.2.1 L_4.2.2.2.2.2.2.2.2.2.2] fun L_5 =>
  cond (L_5.1 == (0 : Int))
 (gd (decide (0 ≤ W .i64 (((BitVec.ofInt (IntKind.bits .i64) page &&& BitVec.ofInt (IntKind.bits .i64) 7).toNat : Int)))) <|
  gd (decide ((W .i64 (((BitVec.ofInt (IntKind.bits .i64) page &&& BitVec.ofInt (IntKind.bits .i64) 7).toNat : Int))).toNat < m4.length)) <|
  idxK m4 ((W .i64 (((BitVec.ofInt (IntKind.bits .i64) page &&& BitVec.ofInt (IntKind.bits .i64) 7).toNat : Int))).toNat) fun v_3 =>
  kS v_3 fun s_3 =>
  some (.head 0 (T5_0 x1 (W .i64 (x10 + 1)) L_5.2.1 L_5.2.2.1 L_5.2.2.2.2.2.1 L_5.2.2.2.1 L_5.2.2.2.2.1 ((m4).set ((W .i64 (((BitVec.ofInt (IntKind.bits .i64) page &&& BitVec.ofInt (IntKind.bits .i64) 7).toNat : Int))).toNat) (V.str r18_0_2)) L_5.2.2.2.2.2.2.2.2.1 L_5.2.2.2.2.2.2.2.2.2.1 L_5.2.2.2.2.2.2.2.2.2.2 L_5.2.2.2.2.2.2.1 L_5.2.2.2.2.2.2.2.1)))
 (some (.head 0 (T5_0 x1 (W .i64 (x10 + 1)) L_5.2.1 L_5.2.2.1 L_5.2.2.2.2.2.1 L_5.2.2.2.1 L_5.2.2.2.2.1 m4 L_5.2.2.2.2.2.2.2.2.1 L_5.2.2.2.2.2.2.2.2.2.1 L_5.2.2.2.2.2.2.2.2.2.2 L_5.2.2.2.2.2.2.1 L_5.2.2.2.2.2.2.2.1))))
 (some (.head 0 (T5_0 x1 (W .i64 (x10 + 1)) L_4.2.1 L_4.2.2.1 L_4.2.2.2.2.2.1 L_4.2.2.2.1 L_4.2.2.2.2.1 m4 L_4.2.2.2.2.2.2.2.2.1 L_4.2.2.2.2.2.2.2.2.2.1 L_4.2.2.2.2.2.2.2.2.2.2 L_4.2.2.2.2.2.2.1 L_4.2.2.2.2.2.2.2.1))))
 (gd (decide (0 ≤ (if 252 < (s.length : Int) then 252 else (s.length : Int)))) <|
  gd (decide ((if 252 < (s.length : Int) then 252 else (s.length : Int)).toNat ≤ s.length)) <|
  pcK qcfg 18 [V.str (s.take ((if 252 < (s.length : Int) then 252 else (s.length : Int)).toNat)), V.int .i64 252] fun r_3 =>
  d32 r_3 fun r18_0_3 r18_1_3 =>
  cond (kind0 == (2 : Int))
 (icM qcfg ⟨true, false⟩ mk11 11 [V.ptr 2 0 0, V.int .i64 (W .i64 (((BitVec.ofInt (IntKind.bits .i64) page &&& BitVec.ofInt (IntKind.bits .i64) 7).toNat : Int))), V.str r18_0_3, V.int .i64 n] [O.arena 63 m0, O.arena 7 m1, O.box 59 (V.agg [V.ptr 3 0 0, V.int .i64 m3_1, V.mp 4, V.tail 5 0, V.int .i64 m3_4]) false, O.box 56 (V.agg [V.int .i64 m2_0, V.mp 6, V.tail 7 0]) false, O.map m7, O.row 3 m8 0, O.map m5, O.row 88 m6 z6] fun L_6 =>
  cond (L_6.1 == (0 : Int))
 (gd (decide (0 ≤ W .i64 (((BitVec.ofInt (IntKind.bits .i64) page &&& BitVec.ofInt (IntKind.bits .i64) 7).toNat : Int)))) <|
  gd (decide ((W .i64 (((BitVec.ofInt (IntKind.bits .i64) page &&& BitVec.ofInt (IntKind.bits .i64) 7).toNat : Int))).toNat < m4.length)) <|
  idxK m4 ((W .i64 (((BitVec.ofInt (IntKind.bits .i64) page &&& BitVec.ofInt (IntKind.bits .i64) 7).toNat : Int))).toNat) fun v_4 =>
  kS v_4 fun s_4 =>
  some (.head 0 (T5_0 x1 (W .i64 (x10 + 1)) L_6.2.1 L_6.2.2.1 L_6.2.2.2.2.2.1 L_6.2.2.2.1 L_6.2.2.2.2.1 ((m4).set ((W .i64 (((BitVec.ofInt (IntKind.bits .i64) page &&& BitVec.ofInt (IntKind.bits .i64) 7).toNat : Int))).toNat) (V.str r18_0_3)) L_6.2.2.2.2.2.2.2.2.1 L_6.2.2.2.2.2.2.2.2.2.1 L_6.2.2.2.2.2.2.2.2.2.2 L_6.2.2.2.2.2.2.1 L_6.2.2.2.2.2.2.2.1)))
 (some (.head 0 (T5_0 x1 (W .i64 (x10 + 1)) L_6.2.1 L_6.2.2.1 L_6.2.2.2.2.2.1 L_6.2.2.2.1 L_6.2.2.2.2.1 m4 L_6.2.2.2.2.2.2.2.2.1 L_6.2.2.2.2.2.2.2.2.2.1 L_6.2.2.2.2.2.2.2.2.2.2 L_6.2.2.2.2.2.2.1 L_6.2.2.2.2.2.2.2.1))))
 (some (.head 0 (T5_0 x1 (W .i64 (x10 + 1)) m0 m1 m2_0 m3_1 m3_4 m4 m5 m6 z6 m7 m8))))))
 (icM qcfg ⟨true, true⟩ mk21 21 [V.ptr 2 0 0] [O.arena 63 m0, O.arena 7 m1, O.box 59 (V.agg [V.ptr 3 0 0, V.int .i64 m3_1, V.mp 4, V.tail 5 0, V.int .i64 m3_4]) false, O.box 56 (V.agg [V.int .i64 m2_0, V.mp 6, V.tail 7 0]) false, O.map m7, O.row 3 m8 0, O.map m5, O.row 88 m6 z6] fun L_7 =>
  gd (decide (0 + L_7.1 ≤ L_7.2.2.2.2.2.2.2.2.2.2.2.length)) <|
  icM qcfg ⟨false, false⟩ mk14 14 [V.ptr 2 0 0] [O.arena 63 L_7.2.1, O.arena 7 L_7.2.2.1, O.box 59 (V.agg [V.ptr 3 0 0, V.int .i64 L_7.2.2.2.1, V.mp 4, V.tail 5 0, V.int .i64 (if L_7.2.2.2.2.1 < 4611686018427387904 then 4611686018427387904 else L_7.2.2.2.2.1)]) false, O.box 56 (V.agg [V.int .i64 L_7.2.2.2.2.2.1, V.mp 6, V.tail 7 0]) false, O.map L_7.2.2.2.2.2.2.1, O.row 3 L_7.2.2.2.2.2.2.2.1 0, O.map L_7.2.2.2.2.2.2.2.2.1, O.row 88 L_7.2.2.2.2.2.2.2.2.2.1 L_7.2.2.2.2.2.2.2.2.2.2.1] fun L_8 =>
  cond (decide (L_8.1 > ((((L_7.2.2.2.2.2.2.2.2.2.2.2).drop 0).take L_7.1).length : Int)))
 (some (.head 1 (T5_1 x1 (-1) 0 L_8.2.1 L_8.2.2.1 L_8.2.2.2.2.2.1 L_8.2.2.2.1 L_8.2.2.2.2.1 m4 L_8.2.2.2.2.2.2.2.1 L_8.2.2.2.2.2.2.2.2.2.1 L_8.2.2.2.2.2.2.2.2.2.2 L_8.2.2.2.2.2.2.1 L_8.2.2.2.2.2.2.2.2.1)))
 (icM qcfg ⟨true, true⟩ mk21 21 [V.ptr 2 0 0] [O.arena 63 L_8.2.1, O.arena 7 L_8.2.2.1, O.box 59 (V.agg [V.ptr 3 0 0, V.int .i64 L_8.2.2.2.1, V.mp 4, V.tail 5 0, V.int .i64 L_8.2.2.2.2.1]) false, O.box 56 (V.agg [V.int .i64 L_8.2.2.2.2.2.1, V.mp 6, V.tail 7 0]) false, O.map L_8.2.2.2.2.2.2.1, O.row 3 L_8.2.2.2.2.2.2.2.2.1 0, O.map L_8.2.2.2.2.2.2.2.1, O.row 88 L_8.2.2.2.2.2.2.2.2.2.1 L_8.2.2.2.2.2.2.2.2.2.2] fun L_9 =>
  gd (decide (0 + L_9.1 ≤ L_9.2.2.2.2.2.2.2.2.2.2.2.length)) <|
  cond (((((L_9.2.2.2.2.2.2.2.2.2.2.2).drop 0).take L_9.1).length : Int) != (0 : Int))
 (some (.head 1 (T5_1 x1 (-1) 0 L_9.2.1 L_9.2.2.1 L_9.2.2.2.2.2.1 L_9.2.2.2.1 L_9.2.2.2.2.1 m4 L_9.2.2.2.2.2.2.2.2.1 L_9.2.2.2.2.2.2.2.2.2.1 L_9.2.2.2.2.2.2.2.2.2.2.1 L_9.2.2.2.2.2.2.1 L_9.2.2.2.2.2.2.2.1)))
 (some (.head 1 (T5_1 x1 ((((L_7.2.2.2.2.2.2.2.2.2.2.2).drop 0).take L_7.1).length : Int) 0 L_9.2.1 L_9.2.2.1 L_9.2.2.2.2.2.1 L_9.2.2.2.1 L_9.2.2.2.2.1 m4 L_9.2.2.2.2.2.2.2.2.1 L_9.2.2.2.2.2.2.2.2.2.1 L_9.2.2.2.2.2.2.2.2.2.2.1 L_9.2.2.2.2.2.2.1 L_9.2.2.2.2.2.2.2.1))))))
 (icM qcfg ⟨true, true⟩ mk21 21 [V.ptr 2 0 0] [O.arena 63 m0, O.arena 7 m1, O.box 59 (V.agg [V.ptr 3 0 0, V.int .i64 m3_1, V.mp 4, V.tail 5 0, V.int .i64 m3_4]) false, O.box 56 (V.agg [V.int .i64 m2_0, V.mp 6, V.tail 7 0]) false, O.map m7, O.row 3 m8 0, O.map m5, O.row 88 m6 z6] fun L_10 =>
  gd (decide (0 + L_10.1 ≤ L_10.2.2.2.2.2.2.2.2.2.2.2.length)) <|
  icM qcfg ⟨false, false⟩ mk14 14 [V.ptr 2 0 0] [O.arena 63 L_10.2.1, O.arena 7 L_10.2.2.1, O.box 59 (V.agg [V.ptr 3 0 0, V.int .i64 L_10.2.2.2.1, V.mp 4, V.tail 5 0, V.int .i64 (if L_10.2.2.2.2.1 < 4611686018427387904 then 4611686018427387904 else L_10.2.2.2.2.1)]) false, O.box 56 (V.agg [V.int .i64 L_10.2.2.2.2.2.1, V.mp 6, V.tail 7 0]) false, O.map L_10.2.2.2.2.2.2.1, O.row 3 L_10.2.2.2.2.2.2.2.1 0, O.map L_10.2.2.2.2.2.2.2.2.1, O.row 88 L_10.2.2.2.2.2.2.2.2.2.1 L_10.2.2.2.2.2.2.2.2.2.2.1] fun L_11 =>
  cond (decide (L_11.1 > ((((L_10.2.2.2.2.2.2.2.2.2.2.2).drop 0).take L_10.1).length : Int)))
 (some (.head 1 (T5_1 x1 (-1) 0 L_11.2.1 L_11.2.2.1 L_11.2.2.2.2.2.1 L_11.2.2.2.1 L_11.2.2.2.2.1 m4 L_11.2.2.2.2.2.2.2.1 L_11.2.2.2.2.2.2.2.2.2.1 L_11.2.2.2.2.2.2.2.2.2.2 L_11.2.2.2.2.2.2.1 L_11.2.2.2.2.2.2.2.2.1)))
 (icM qcfg ⟨true, true⟩ mk21 21 [V.ptr 2 0 0] [O.arena 63 L_11.2.1, O.arena 7 L_11.2.2.1, O.box 59 (V.agg [V.ptr 3 0 0, V.int .i64 L_11.2.2.2.1, V.mp 4, V.tail 5 0, V.int .i64 L_11.2.2.2.2.1]) false, O.box 56 (V.agg [V.int .i64 L_11.2.2.2.2.2.1, V.mp 6, V.tail 7 0]) false, O.map L_11.2.2.2.2.2.2.1, O.row 3 L_11.2.2.2.2.2.2.2.2.1 0, O.map L_11.2.2.2.2.2.2.2.1, O.row 88 L_11.2.2.2.2.2.2.2.2.2.1 L_11.2.2.2.2.2.2.2.2.2.2] fun L_12 =>
  gd (decide (0 + L_12.1 ≤ L_12.2.2.2.2.2.2.2.2.2.2.2.length)) <|
  cond (((((L_12.2.2.2.2.2.2.2.2.2.2.2).drop 0).take L_12.1).length : Int) != (0 : Int))
 (some (.head 1 (T5_1 x1 (-1) 0 L_12.2.1 L_12.2.2.1 L_12.2.2.2.2.2.1 L_12.2.2.2.1 L_12.2.2.2.2.1 m4 L_12.2.2.2.2.2.2.2.2.1 L_12.2.2.2.2.2.2.2.2.2.1 L_12.2.2.2.2.2.2.2.2.2.2.1 L_12.2.2.2.2.2.2.1 L_12.2.2.2.2.2.2.2.1)))
 (some (.head 1 (T5_1 x1 ((((L_10.2.2.2.2.2.2.2.2.2.2.2).drop 0).take L_10.1).length : Int) 0 L_12.2.1 L_12.2.2.1 L_12.2.2.2.2.2.1 L_12.2.2.2.1 L_12.2.2.2.2.1 m4 L_12.2.2.2.2.2.2.2.2.1 L_12.2.2.2.2.2.2.2.2.2.1 L_12.2.2.2.2.2.2.2.2.2.2.1 L_12.2.2.2.2.2.2.1 L_12.2.2.2.2.2.2.2.1)))))
theorem s5_0_eq (x1 : List V) (x10 : Int) (m0 : List V) (m1 : List V) (m2_0 : Int) (m3_1 : Int) (m3_4 : Int) (m4 : List V) (m5 : List (V × V)) (m6 : List V) (z6 : Nat) (m7 : List (V × V)) (m8 : List V) : goK qk true 2 fa5 0 (T5_0 x1 x10 m0 m1 m2_0 m3_1 m3_4 m4 m5 m6 z6 m7 m8) = s5_0 x1 x10 m0 m1 m2_0 m3_1 m3_4 m4 m5 m6 z6 m7 m8 := by kernel_rfl
theorem s5_0_run (x1 : List V) (x10 : Int) (m0 : List V) (m1 : List V) (m2_0 : Int) (m3_1 : Int) (m3_4 : Int) (m4 : List V) (m5 : List (V × V)) (m6 : List V) (z6 : Nat) (m7 : List (V × V)) (m8 : List V) {o o' : Out} (h : s5_0 x1 x10 m0 m1 m2_0 m3_1 m3_4 m4 m5 m6 z6 m7 m8 = some o) (hg : Go qk true 2 fa5 o o') : Go qk true 2 fa5 (.head 0 (T5_0 x1 x10 m0 m1 m2_0 m3_1 m3_4 m4 m5 m6 z6 m7 m8)) o' := .step ((s5_0_eq x1 x10 m0 m1 m2_0 m3_1 m3_4 m4 m5 m6 z6 m7 m8).trans h) hg
noncomputable def s5_1 (x1 : List V) (x15 : Int) (x16 : Int) (m0 : List V) (m1 : List V) (m2_0 : Int) (m3_1 : Int) (m3_4 : Int) (m4 : List V) (m5 : List (V × V)) (m6 : List V) (z6 : Nat) (m7 : List (V × V)) (m8 : List V) : R :=
  cond (decide (x16 < 8))
 (cond (decide (x15 ≥ 0))
 (icM qcfg ⟨true, false⟩ mk15 15 [V.ptr 2 0 0, V.int .i64 x16] [O.arena 63 m0, O.arena 7 m1, O.box 56 (V.agg [V.int .i64 m2_0, V.mp 3, V.tail 4 0]) false, O.map m5, O.row 88 m6 z6] fun L =>
  cond (L.2.1 != (0 : Int))
 (some (.doneM (V.bool false) [O.arena 63 L.2.2.1, O.arena 7 L.2.2.2.1, O.box 56 (V.agg [V.int .i64 L.2.2.2.2.1, V.mp 5, V.tail 6 0]) false, O.box 59 (V.agg [V.ptr 2 0 0, V.int .i64 m3_1, V.mp 7, V.tail 8 0, V.int .i64 m3_4]) false, O.row 9 m4 0, O.map L.2.2.2.2.2.1, O.row 88 L.2.2.2.2.2.2.1 L.2.2.2.2.2.2.2, O.map m7, O.row 3 m8 0]))
 (gd (decide (0 ≤ x16)) <|
  gd (decide (x16.toNat < m4.length)) <|
  idxK m4 x16.toNat fun v =>
  kS v fun s =>
  cond (!(s == []))
 (gd (decide (0 ≤ x16)) <|
  gd (decide (x16.toNat < m4.length)) <|
  idxK m4 x16.toNat fun v_1 =>
  kS v_1 fun s_1 =>
  cond (!(L.1 == s_1))
 (some (.doneM (V.bool false) [O.arena 63 L.2.2.1, O.arena 7 L.2.2.2.1, O.box 56 (V.agg [V.int .i64 L.2.2.2.2.1, V.mp 5, V.tail 6 0]) false, O.box 59 (V.agg [V.ptr 2 0 0, V.int .i64 m3_1, V.mp 7, V.tail 8 0, V.int .i64 m3_4]) false, O.row 9 m4 0, O.map L.2.2.2.2.2.1, O.row 88 L.2.2.2.2.2.2.1 L.2.2.2.2.2.2.2, O.map m7, O.row 3 m8 0]))
 (some (.head 1 (T5_1 x1 x15 (W .i64 (x16 + 1)) L.2.2.1 L.2.2.2.1 L.2.2.2.2.1 m3_1 m3_4 m4 L.2.2.2.2.2.1 L.2.2.2.2.2.2.1 L.2.2.2.2.2.2.2 m7 m8))))
 (some (.head 1 (T5_1 x1 x15 (W .i64 (x16 + 1)) L.2.2.1 L.2.2.2.1 L.2.2.2.2.1 m3_1 m3_4 m4 L.2.2.2.2.2.1 L.2.2.2.2.2.2.1 L.2.2.2.2.2.2.2 m7 m8)))))
 (icM qcfg ⟨true, false⟩ mk22 22 [V.ptr 2 0 0] [O.arena 63 m0, O.arena 7 m1, O.box 59 (V.agg [V.ptr 3 0 0, V.int .i64 m3_1, V.mp 4, V.tail 5 0, V.int .i64 m3_4]) false, O.box 56 (V.agg [V.int .i64 m2_0, V.mp 6, V.tail 7 0]) false, O.map m7, O.row 3 m8 0, O.map m5, O.row 88 m6 z6] fun L_1 =>
  cond (decide (x15 ≥ 0))
 (cond (decide (x15 < 0))
 (pcK qcfg 17 [] fun r =>
  kB r fun r17 =>
  some (.doneM (V.bool r17) [O.arena 63 L_1.2.2.1, O.arena 7 L_1.2.2.2.1, O.box 56 (V.agg [V.int .i64 L_1.2.2.2.2.2.2.1, V.mp 5, V.tail 6 0]) false, O.box 59 (V.agg [V.ptr 2 0 0, V.int .i64 L_1.2.2.2.2.1, V.mp 7, V.tail 8 0, V.int .i64 L_1.2.2.2.2.2.1]) false, O.row 9 m4 0, O.map L_1.2.2.2.2.2.2.2.2.2.1, O.row 88 L_1.2.2.2.2.2.2.2.2.2.2.1 L_1.2.2.2.2.2.2.2.2.2.2.2, O.map L_1.2.2.2.2.2.2.2.1, O.row 3 L_1.2.2.2.2.2.2.2.2.1 0]))
 (cond (!L_1.2.1)
 (pcK qcfg 17 [] fun r_1 =>
  kB r_1 fun r17_1 =>
  some (.doneM (V.bool r17_1) [O.arena 63 L_1.2.2.1, O.arena 7 L_1.2.2.2.1, O.box 56 (V.agg [V.int .i64 L_1.2.2.2.2.2.2.1, V.mp 5, V.tail 6 0]) false, O.box 59 (V.agg [V.ptr 2 0 0, V.int .i64 L_1.2.2.2.2.1, V.mp 7, V.tail 8 0, V.int .i64 L_1.2.2.2.2.2.1]) false, O.row 9 m4 0, O.map L_1.2.2.2.2.2.2.2.2.2.1, O.row 88 L_1.2.2.2.2.2.2.2.2.2.2.1 L_1.2.2.2.2.2.2.2.2.2.2.2, O.map L_1.2.2.2.2.2.2.2.1, O.row 3 L_1.2.2.2.2.2.2.2.2.1 0]))
 (some (.doneM (V.bool false) [O.arena 63 L_1.2.2.1, O.arena 7 L_1.2.2.2.1, O.box 56 (V.agg [V.int .i64 L_1.2.2.2.2.2.2.1, V.mp 5, V.tail 6 0]) false, O.box 59 (V.agg [V.ptr 2 0 0, V.int .i64 L_1.2.2.2.2.1, V.mp 7, V.tail 8 0, V.int .i64 L_1.2.2.2.2.2.1]) false, O.row 9 m4 0, O.map L_1.2.2.2.2.2.2.2.2.2.1, O.row 88 L_1.2.2.2.2.2.2.2.2.2.2.1 L_1.2.2.2.2.2.2.2.2.2.2.2, O.map L_1.2.2.2.2.2.2.2.1, O.row 3 L_1.2.2.2.2.2.2.2.2.1 0]))))
 (pcK qcfg 23 [V.sl x1] fun r_2 =>
  kB r_2 fun r23 =>
  cond r23
 (cond (decide (x15 < 0))
 (pcK qcfg 17 [] fun r_3 =>
  kB r_3 fun r17_2 =>
  some (.doneM (V.bool r17_2) [O.arena 63 L_1.2.2.1, O.arena 7 L_1.2.2.2.1, O.box 56 (V.agg [V.int .i64 L_1.2.2.2.2.2.2.1, V.mp 5, V.tail 6 0]) false, O.box 59 (V.agg [V.ptr 2 0 0, V.int .i64 L_1.2.2.2.2.1, V.mp 7, V.tail 8 0, V.int .i64 L_1.2.2.2.2.2.1]) false, O.row 9 m4 0, O.map L_1.2.2.2.2.2.2.2.2.2.1, O.row 88 L_1.2.2.2.2.2.2.2.2.2.2.1 L_1.2.2.2.2.2.2.2.2.2.2.2, O.map L_1.2.2.2.2.2.2.2.1, O.row 3 L_1.2.2.2.2.2.2.2.2.1 0]))
 (cond (!L_1.2.1)
 (pcK qcfg 17 [] fun r_4 =>
  kB r_4 fun r17_3 =>
  some (.doneM (V.bool r17_3) [O.arena 63 L_1.2.2.1, O.arena 7 L_1.2.2.2.1, O.box 56 (V.agg [V.int .i64 L_1.2.2.2.2.2.2.1, V.mp 5, V.tail 6 0]) false, O.box 59 (V.agg [V.ptr 2 0 0, V.int .i64 L_1.2.2.2.2.1, V.mp 7, V.tail 8 0, V.int .i64 L_1.2.2.2.2.2.1]) false, O.row 9 m4 0, O.map L_1.2.2.2.2.2.2.2.2.2.1, O.row 88 L_1.2.2.2.2.2.2.2.2.2.2.1 L_1.2.2.2.2.2.2.2.2.2.2.2, O.map L_1.2.2.2.2.2.2.2.1, O.row 3 L_1.2.2.2.2.2.2.2.2.1 0]))
 (some (.doneM (V.bool false) [O.arena 63 L_1.2.2.1, O.arena 7 L_1.2.2.2.1, O.box 56 (V.agg [V.int .i64 L_1.2.2.2.2.2.2.1, V.mp 5, V.tail 6 0]) false, O.box 59 (V.agg [V.ptr 2 0 0, V.int .i64 L_1.2.2.2.2.1, V.mp 7, V.tail 8 0, V.int .i64 L_1.2.2.2.2.2.1]) false, O.row 9 m4 0, O.map L_1.2.2.2.2.2.2.2.2.2.1, O.row 88 L_1.2.2.2.2.2.2.2.2.2.2.1 L_1.2.2.2.2.2.2.2.2.2.2.2, O.map L_1.2.2.2.2.2.2.2.1, O.row 3 L_1.2.2.2.2.2.2.2.2.1 0]))))
 (some (.doneM (V.bool false) [O.arena 63 L_1.2.2.1, O.arena 7 L_1.2.2.2.1, O.box 56 (V.agg [V.int .i64 L_1.2.2.2.2.2.2.1, V.mp 5, V.tail 6 0]) false, O.box 59 (V.agg [V.ptr 2 0 0, V.int .i64 L_1.2.2.2.2.1, V.mp 7, V.tail 8 0, V.int .i64 L_1.2.2.2.2.2.1]) false, O.row 9 m4 0, O.map L_1.2.2.2.2.2.2.2.2.2.1, O.row 88 L_1.2.2.2.2.2.2.2.2.2.2.1 L_1.2.2.2.2.2.2.2.2.2.2.2, O.map L_1.2.2.2.2.2.2.2.1, O.row 3 L_1.2.2.2.2.2.2.2.2.1 0])))))
 (icM qcfg ⟨true, false⟩ mk22 22 [V.ptr 2 0 0] [O.arena 63 m0, O.arena 7 m1, O.box 59 (V.agg [V.ptr 3 0 0, V.int .i64 m3_1, V.mp 4, V.tail 5 0, V.int .i64 m3_4]) false, O.box 56 (V.agg [V.int .i64 m2_0, V.mp 6, V.tail 7 0]) false, O.map m7, O.row 3 m8 0, O.map m5, O.row 88 m6 z6] fun L_2 =>
  cond (decide (x15 ≥ 0))
 (cond (decide (x15 < 0))
 (pcK qcfg 17 [] fun r_5 =>
  kB r_5 fun r17_4 =>
  some (.doneM (V.bool r17_4) [O.arena 63 L_2.2.2.1, O.arena 7 L_2.2.2.2.1, O.box 56 (V.agg [V.int .i64 L_2.2.2.2.2.2.2.1, V.mp 5, V.tail 6 0]) false, O.box 59 (V.agg [V.ptr 2 0 0, V.int .i64 L_2.2.2.2.2.1, V.mp 7, V.tail 8 0, V.int .i64 L_2.2.2.2.2.2.1]) false, O.row 9 m4 0, O.map L_2.2.2.2.2.2.2.2.2.2.1, O.row 88 L_2.2.2.2.2.2.2.2.2.2.2.1 L_2.2.2.2.2.2.2.2.2.2.2.2, O.map L_2.2.2.2.2.2.2.2.1, O.row 3 L_2.2.2.2.2.2.2.2.2.1 0]))
 (cond (!L_2.2.1)
 (pcK qcfg 17 [] fun r_6 =>
  kB r_6 fun r17_5 =>
  some (.doneM (V.bool r17_5) [O.arena 63 L_2.2.2.1, O.arena 7 L_2.2.2.2.1, O.box 56 (V.agg [V.int .i64 L_2.2.2.2.2.2.2.1, V.mp 5, V.tail 6 0]) false, O.box 59 (V.agg [V.ptr 2 0 0, V.int .i64 L_2.2.2.2.2.1, V.mp 7, V.tail 8 0, V.int .i64 L_2.2.2.2.2.2.1]) false, O.row 9 m4 0, O.map L_2.2.2.2.2.2.2.2.2.2.1, O.row 88 L_2.2.2.2.2.2.2.2.2.2.2.1 L_2.2.2.2.2.2.2.2.2.2.2.2, O.map L_2.2.2.2.2.2.2.2.1, O.row 3 L_2.2.2.2.2.2.2.2.2.1 0]))
 (some (.doneM (V.bool false) [O.arena 63 L_2.2.2.1, O.arena 7 L_2.2.2.2.1, O.box 56 (V.agg [V.int .i64 L_2.2.2.2.2.2.2.1, V.mp 5, V.tail 6 0]) false, O.box 59 (V.agg [V.ptr 2 0 0, V.int .i64 L_2.2.2.2.2.1, V.mp 7, V.tail 8 0, V.int .i64 L_2.2.2.2.2.2.1]) false, O.row 9 m4 0, O.map L_2.2.2.2.2.2.2.2.2.2.1, O.row 88 L_2.2.2.2.2.2.2.2.2.2.2.1 L_2.2.2.2.2.2.2.2.2.2.2.2, O.map L_2.2.2.2.2.2.2.2.1, O.row 3 L_2.2.2.2.2.2.2.2.2.1 0]))))
 (pcK qcfg 23 [V.sl x1] fun r_7 =>
  kB r_7 fun r23_1 =>
  cond r23_1
 (cond (decide (x15 < 0))
 (pcK qcfg 17 [] fun r_8 =>
  kB r_8 fun r17_6 =>
  some (.doneM (V.bool r17_6) [O.arena 63 L_2.2.2.1, O.arena 7 L_2.2.2.2.1, O.box 56 (V.agg [V.int .i64 L_2.2.2.2.2.2.2.1, V.mp 5, V.tail 6 0]) false, O.box 59 (V.agg [V.ptr 2 0 0, V.int .i64 L_2.2.2.2.2.1, V.mp 7, V.tail 8 0, V.int .i64 L_2.2.2.2.2.2.1]) false, O.row 9 m4 0, O.map L_2.2.2.2.2.2.2.2.2.2.1, O.row 88 L_2.2.2.2.2.2.2.2.2.2.2.1 L_2.2.2.2.2.2.2.2.2.2.2.2, O.map L_2.2.2.2.2.2.2.2.1, O.row 3 L_2.2.2.2.2.2.2.2.2.1 0]))
 (cond (!L_2.2.1)
 (pcK qcfg 17 [] fun r_9 =>
  kB r_9 fun r17_7 =>
  some (.doneM (V.bool r17_7) [O.arena 63 L_2.2.2.1, O.arena 7 L_2.2.2.2.1, O.box 56 (V.agg [V.int .i64 L_2.2.2.2.2.2.2.1, V.mp 5, V.tail 6 0]) false, O.box 59 (V.agg [V.ptr 2 0 0, V.int .i64 L_2.2.2.2.2.1, V.mp 7, V.tail 8 0, V.int .i64 L_2.2.2.2.2.2.1]) false, O.row 9 m4 0, O.map L_2.2.2.2.2.2.2.2.2.2.1, O.row 88 L_2.2.2.2.2.2.2.2.2.2.2.1 L_2.2.2.2.2.2.2.2.2.2.2.2, O.map L_2.2.2.2.2.2.2.2.1, O.row 3 L_2.2.2.2.2.2.2.2.2.1 0]))
 (some (.doneM (V.bool false) [O.arena 63 L_2.2.2.1, O.arena 7 L_2.2.2.2.1, O.box 56 (V.agg [V.int .i64 L_2.2.2.2.2.2.2.1, V.mp 5, V.tail 6 0]) false, O.box 59 (V.agg [V.ptr 2 0 0, V.int .i64 L_2.2.2.2.2.1, V.mp 7, V.tail 8 0, V.int .i64 L_2.2.2.2.2.2.1]) false, O.row 9 m4 0, O.map L_2.2.2.2.2.2.2.2.2.2.1, O.row 88 L_2.2.2.2.2.2.2.2.2.2.2.1 L_2.2.2.2.2.2.2.2.2.2.2.2, O.map L_2.2.2.2.2.2.2.2.1, O.row 3 L_2.2.2.2.2.2.2.2.2.1 0]))))
 (some (.doneM (V.bool false) [O.arena 63 L_2.2.2.1, O.arena 7 L_2.2.2.2.1, O.box 56 (V.agg [V.int .i64 L_2.2.2.2.2.2.2.1, V.mp 5, V.tail 6 0]) false, O.box 59 (V.agg [V.ptr 2 0 0, V.int .i64 L_2.2.2.2.2.1, V.mp 7, V.tail 8 0, V.int .i64 L_2.2.2.2.2.2.1]) false, O.row 9 m4 0, O.map L_2.2.2.2.2.2.2.2.2.2.1, O.row 88 L_2.2.2.2.2.2.2.2.2.2.2.1 L_2.2.2.2.2.2.2.2.2.2.2.2, O.map L_2.2.2.2.2.2.2.2.1, O.row 3 L_2.2.2.2.2.2.2.2.2.1 0]))))
theorem s5_1_eq (x1 : List V) (x15 : Int) (x16 : Int) (m0 : List V) (m1 : List V) (m2_0 : Int) (m3_1 : Int) (m3_4 : Int) (m4 : List V) (m5 : List (V × V)) (m6 : List V) (z6 : Nat) (m7 : List (V × V)) (m8 : List V) : goK qk true 2 fa5 1 (T5_1 x1 x15 x16 m0 m1 m2_0 m3_1 m3_4 m4 m5 m6 z6 m7 m8) = s5_1 x1 x15 x16 m0 m1 m2_0 m3_1 m3_4 m4 m5 m6 z6 m7 m8 := by kernel_rfl
theorem s5_1_run (x1 : List V) (x15 : Int) (x16 : Int) (m0 : List V) (m1 : List V) (m2_0 : Int) (m3_1 : Int) (m3_4 : Int) (m4 : List V) (m5 : List (V × V)) (m6 : List V) (z6 : Nat) (m7 : List (V × V)) (m8 : List V) {o o' : Out} (h : s5_1 x1 x15 x16 m0 m1 m2_0 m3_1 m3_4 m4 m5 m6 z6 m7 m8 = some o) (hg : Go qk true 2 fa5 o o') : Go qk true 2 fa5 (.head 1 (T5_1 x1 x15 x16 m0 m1 m2_0 m3_1 m3_4 m4 m5 m6 z6 m7 m8)) o' := .step ((s5_1_eq x1 x15 x16 m0 m1 m2_0 m3_1 m3_4 m4 m5 m6 z6 m7 m8).trans h) hg
end Go.Proofs.Ytknapnnpmfhogaa