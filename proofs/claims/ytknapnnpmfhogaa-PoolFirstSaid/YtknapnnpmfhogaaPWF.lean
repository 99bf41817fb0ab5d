/-
  The graph of a law (printed by walk.py).
-/
import Derived.Test.YtknapnnpmfhogaaP1
namespace Go.Proofs.Ytknapnnpmfhogaa
open Go Go.Lite
set_option maxRecDepth 100000
set_option linter.unusedVariables false
noncomputable def fa3 : FA := ⟨2, 121, [.tmp 4], [4],
 (.seq
 (.ops false [o1 4 (.assign (.const (.bool false))) 4])
 (.seq
 (.ops false [o1 19 (.call ⟨(.value (.func 7)), #[(.const (.int .i64 (8)))], #[3]⟩) 25, mv 18 19 25, o1 20 (.extract (t' 18) 0) 23, o1 21 (.extract (t' 18) 1) 24, asg 5 20 23, asg 6 21 24])
 (.seq
 (.seq
 (.ops false [mv 22 5 23, o1 23 (.binOp .eql 23 (t' 22) (.const (.pointer none)) 23) 4, mv 24 23 4, o2 25 (.move (t' 6)) 24 24 false, o2 26 (.binOp .neq 24 (t' 25) (.const (.int .i64 (0))) 24) 4 24 false, o1 27 (.pick (t' 24) (.const (.bool true)) (t' 26)) 4])
 (.cond (t' 27)
 (.seq
 (.ops false [o1 4 (.assign (.const (.bool false))) 4])
 (.ret))
 (.skip)))
 (.seq
 (.ops false [mv 29 5 23, mv 30 0 3, o1 31 (.binOp .and 3 (t' 30) (.const (.int .i64 (7))) 3) 3, o1 32 (.binOp .add 3 (.const (.int .i64 (1))) (t' 31) 3) 3, o1 33 (.call ⟨(.value (.func 8)), #[(t' 29), (t' 32)], #[23, 3]⟩) 28, mv 28 33 28, o1 34 (.extract (t' 28) 0) 27, o1 35 (.extract (t' 28) 1) 24, asg 7 34 27, asg 8 35 24])
 (.seq
 (.seq
 (.ops false [mv 36 7 27, o1 37 (.binOp .eql 27 (t' 36) (.const (.pointer none)) 27) 4, mv 38 37 4, o2 39 (.move (t' 8)) 24 38 false, o2 40 (.binOp .neq 24 (t' 39) (.const (.int .i64 (0))) 24) 4 38 false, o1 41 (.pick (t' 38) (.const (.bool true)) (t' 40)) 4])
 (.cond (t' 41)
 (.seq
 (.ops false [o1 4 (.assign (.const (.bool false))) 4])
 (.ret))
 (.skip)))
 (.seq
 (.ops false [o1 9 (.assign (.const (.int .i64 (0)))) 3])
 (.seq
 (.seq
 (.ops false [o1 10 (.assign (.const (.int .i64 (0)))) 3])
 (.block 0
 (.loop ([0, 2, 3, 6, 8] ++ List.range' 11 110)
 (.seq
 (.seq
 (.ops false [mv 42 10 3, mv 43 1 22, o1 44 (.call ⟨(.builtin .len), #[(t' 43)], #[22]⟩) 3, o1 45 (.binOp .lss 3 (t' 42) (t' 44) 3) 4, mv 46 45 4, o2 47 (.move (t' 10)) 3 46 true, o2 48 (.binOp .lss 3 (t' 47) (.const (.int .i64 (80))) 3) 4 46 true, o1 49 (.pick (t' 46) (t' 48) (.const (.bool false))) 4])
 (.cond (t' 49)
 (.skip)
 (.exit 0)))
 (.seq
 (.block 1
 (.seq
 (.ops false [mv 52 1 22, mv 53 10 3, o1 54 (.indexAddr 22 (t' 52) (t' 53)) 0, o1 55 (.load 31 (t' 54)) 31, o1 11 (.alloc 31) 0, o0 (.store 31 (t' 11) (t' 55)) 0])
 (.seq
 (.ops false [o1 56 (.fieldAddr 31 (t' 11) 1) 0, o1 57 (.load 3 (t' 56)) 3, o1 58 (.binOp .and 3 (t' 57) (.const (.int .i64 (7))) 3) 3, asg 12 58 3])
 (.seq
 (.seq
 (.ops false [o1 59 (.fieldAddr 31 (t' 11) 0) 0, o1 60 (.load 3 (t' 59)) 3])
 (.block 2
 (.seq
 (.ops false [o1 64 (.binOp .eql 3 (t' 60) (.const (.int .i64 (0))) 3) 4, asg 63 64 4])
 (.cond (t' 63)
 (.ops false [mv 65 7 27, mv 66 12 3, o1 67 (.call ⟨(.value (.func 9)), #[(t' 65), (t' 66)], #[27, 3]⟩) 32])
 (.seq
 (.ops false [o1 69 (.binOp .eql 3 (t' 60) (.const (.int .i64 (1))) 3) 4, asg 68 69 4])
 (.cond (t' 68)
 (.ops false [mv 70 7 27, mv 71 12 3, o1 72 (.call ⟨(.value (.func 10)), #[(t' 70), (t' 71)], #[27, 3]⟩) 24])
 (.seq
 (.ops false [o1 74 (.binOp .eql 3 (t' 60) (.const (.int .i64 (2))) 3) 4, asg 73 74 4])
 (.cond (t' 73)
 (.ops true [mv 75 7 27, mv 76 12 3, o1 77 (.fieldAddr 31 (t' 11) 3) 0, o1 78 (.load 3 (t' 77)) 3, o1 79 (.call ⟨(.value (.func 12)), #[(t' 78)], #[3]⟩) 9, o1 80 (.fieldAddr 31 (t' 11) 3) 0, o1 81 (.load 3 (t' 80)) 3, ⟨(some 82), .call ⟨(.value (.func 11)), #[(t' 75), (t' 76), (t' 79), (t' 81)], #[27, 3, 9, 3]⟩, 24, none, false, true, false⟩])
 (.seq
 (.ops false [o1 84 (.binOp .eql 3 (t' 60) (.const (.int .i64 (3))) 3) 4, asg 83 84 4])
 (.cond (t' 83)
 (.seq
 (.ops false [mv 85 7 27, o1 86 (.fieldAddr 31 (t' 11) 3) 0, o1 87 (.load 3 (t' 86)) 3, o1 88 (.call ⟨(.value (.func 13)), #[(t' 85), (t' 87)], #[27, 3]⟩) 0])
 (.ops false [mv 89 9 3, o1 90 (.fieldAddr 31 (t' 11) 3) 0, o1 91 (.load 3 (t' 90)) 3, o1 92 (.call ⟨(.builtin .max), #[(t' 89), (t' 91)], #[3, 3]⟩) 3, asg 9 92 3]))
 (.ops false [mv 61 7 27, o1 62 (.call ⟨(.value (.func 14)), #[(t' 61)], #[27]⟩) 3])))))))))))
 (.seq
 (.ops false [o1 13 (.assign (.const (.int .i64 (0)))) 3])
 (.block 3
 (.loop ([0, 2, 3, 6, 8, 11, 12] ++ List.range' 14 107)
 (.seq
 (.seq
 (.ops false [mv 93 13 3, o1 94 (.binOp .lss 3 (t' 93) (.const (.int .i64 (8))) 3) 4])
 (.cond (t' 94)
 (.skip)
 (.exit 3)))
 (.seq
 (.block 4
 (.seq
 (.ops false [mv 98 5 23, mv 99 13 3, o1 100 (.call ⟨(.value (.func 15)), #[(t' 98), (t' 99)], #[23, 3]⟩) 32, mv 97 100 32, o1 101 (.extract (t' 97) 0) 9, o1 102 (.extract (t' 97) 1) 24, asg 14 101 9, asg 15 102 24])
 (.seq
 (.ops false [mv 104 14 9, o1 105 (.call ⟨(.value (.func 16)), #[(t' 104), (.const (.int .i64 (0))), (.const (.int .i64 (8)))], #[9, 3, 3]⟩) 40, mv 103 105 40, o1 106 (.extract (t' 103) 0) 39, o1 107 (.extract (t' 103) 1) 24, asg 16 106 39, asg 17 107 24])
 (.seq
 (.ops false [mv 108 15 24, o1 109 (.binOp .neq 24 (t' 108) (.const (.int .i64 (0))) 24) 4, mv 110 109 4, o2 111 (.move (t' 17)) 24 110 false, o2 112 (.binOp .neq 24 (t' 111) (.const (.int .i64 (0))) 24) 4 110 false, o1 113 (.pick (t' 110) (.const (.bool true)) (t' 112)) 4, mv 114 113 4, o2 115 (.move (t' 16)) 39 114 false, o2 116 (.move (t' 9)) 3 114 false, o2 117 (.convert 3 39 (t' 116)) 39 114 false, o2 118 (.binOp .gtr 39 (t' 115) (t' 117) 39) 4 114 false, o1 119 (.pick (t' 114) (.const (.bool true)) (t' 118)) 4])
 (.cond (t' 119)
 (.seq
 (.ops false [o1 4 (.assign (.const (.bool false))) 4])
 (.ret))
 (.skip))))))
 (.ops false [mv 95 13 3, o1 96 (.binOp .add 3 (t' 95) (.const (.int .i64 (1))) 3) 3, asg 13 96 3]))))))))))
 (.ops false [mv 50 10 3, o1 51 (.binOp .add 3 (t' 50) (.const (.int .i64 (1))) 3) 3, asg 10 51 3]))))))
 (.seq
 (.ops false [o1 120 (.call ⟨(.value (.func 17)), #[], #[]⟩) 4, asg 4 120 4])
 (.ret)))))))))⟩
theorem fa3_eq : fnA qcfg.P (qcfg.rxf 3) 3 = some fa3 := by kernel_rfl
def T3_0 (x1 : List V) (x9 : Int) (x10 : Int) (m0 : List V) (m1 : List V) (m2_0 : Int) (m3_1 : Int) (m3_4 : Int) (m4 : List (V × V)) (m5 : List V) (z5 : Nat) (m6 : List (V × V)) (m7 : List V) : S := ⟨[V.junk, V.sl x1, V.junk, V.junk, V.bool false, V.ptr 2 0 0, V.junk, V.ptr 3 0 0, V.junk, V.int .i64 x9, V.int .i64 x10] ++ (JU 110), [O.arena 63 m0, O.arena 7 m1, O.box 56 (V.agg [V.int .i64 m2_0, V.mp 4, V.tail 5 0]) false, O.box 59 (V.agg [V.ptr 2 0 0, V.int .i64 m3_1, V.mp 6, V.tail 7 0, V.int .i64 m3_4]) false, O.map m4, O.row 88 m5 z5, O.map m6, O.row 3 m7 0]⟩
def T3_1 (x1 : List V) (x9 : Int) (x10 : Int) (x13 : Int) (m0 : List V) (m1 : List V) (m2_0 : Int) (m3_1 : Int) (m3_4 : Int) (m4 : List (V × V)) (m5 : List V) (z5 : Nat) (m6 : List (V × V)) (m7 : List V) : S := ⟨[V.junk, V.sl x1, V.junk, V.junk, V.bool false, V.ptr 2 0 0, V.junk, V.ptr 3 0 0, V.junk, V.int .i64 x9, V.int .i64 x10, V.junk, V.junk, V.int .i64 x13] ++ (JU 107), [O.arena 63 m0, O.arena 7 m1, O.box 56 (V.agg [V.int .i64 m2_0, V.mp 4, V.tail 5 0]) false, O.box 59 (V.agg [V.ptr 2 0 0, V.int .i64 m3_1, V.mp 6, V.tail 7 0, V.int .i64 m3_4]) false, O.map m4, O.row 88 m5 z5, O.map m6, O.row 3 m7 0]⟩
noncomputable def e3 (pl : Int) (sc : List V) : R :=
  cond (decide (W .i64 (1 + (W .i64 (((BitVec.ofInt (IntKind.bits .i64) pl &&& BitVec.ofInt (IntKind.bits .i64) 7).toNat : Int)))) < 1))
 (some (.doneM (V.bool false) [O.arena 63 [], O.arena 7 [], O.map [], O.row 88 [] 0, O.box 56 (V.agg [V.int .i64 8, V.mp 2, V.tail 3 0]) false]))
 (cond (decide (W .i64 (1 + (W .i64 (((BitVec.ofInt (IntKind.bits .i64) pl &&& BitVec.ofInt (IntKind.bits .i64) 7).toNat : Int)))) > 64))
 (some (.doneM (V.bool false) [O.arena 63 [], O.arena 7 [], O.map [], O.row 88 [] 0, O.box 56 (V.agg [V.int .i64 8, V.mp 2, V.tail 3 0]) false]))
 (some (.head 0 (T3_0 sc 0 0 [] [] 8 (W .i64 (1 + (W .i64 (((BitVec.ofInt (IntKind.bits .i64) pl &&& BitVec.ofInt (IntKind.bits .i64) 7).toNat : Int))))) 0 [] [] 0 [] []))))
theorem e3_eq (pl : Int) (sc : List V) : enterK qk true fa3 [V.int .i64 pl, V.sl sc] [O.arena 63 [], O.arena 7 []] = e3 pl sc := by kernel_rfl
theorem e3_run (pl : Int) (sc : List V) {o : Out} {v : V} {m : List O} (h : e3 pl sc = some o) (hg : Go qk true 2 fa3 o (.doneM v m)) : icW qcfg 3 [V.int .i64 pl, V.sl sc] [O.arena 63 [], O.arena 7 []] = some (v, m) := icW_go qik rfl fa3_eq ((e3_eq pl sc).trans h) hg
noncomputable def s3_0 (x1 : List V) (x9 : Int) (x10 : Int) (m0 : List V) (m1 : List V) (m2_0 : Int) (m3_1 : Int) (m3_4 : Int) (m4 : List (V × V)) (m5 : List V) (z5 : Nat) (m6 : List (V × V)) (m7 : List V) : R :=
  cond (decide (x10 < (x1.length : Int)))
 (cond (decide (x10 < 80))
 (gd (decide (0 ≤ x10)) <|
  idxK x1 x10.toNat fun v =>
  d31 v fun kind0 page s n =>
  cond (kind0 == (0 : Int))
 (icM qcfg ⟨false, false⟩ mk9 9 [V.ptr 2 0 0, V.int .i64 (W .i64 (((BitVec.ofInt (IntKind.bits .i64) page &&& BitVec.ofInt (IntKind.bits .i64) 7).toNat : Int)))] [O.arena 63 m0, O.arena 7 m1, O.box 59 (V.agg [V.ptr 3 0 0, V.int .i64 m3_1, V.mp 4, V.tail 5 0, V.int .i64 m3_4]) false, O.box 56 (V.agg [V.int .i64 m2_0, V.mp 6, V.tail 7 0]) false, O.map m6, O.row 3 m7 0, O.map m4, O.row 88 m5 z5] fun L =>
  some (.head 1 (T3_1 x1 x9 x10 0 L.2.2.1 L.2.2.2.1 L.2.2.2.2.2.2.1 L.2.2.2.2.1 L.2.2.2.2.2.1 L.2.2.2.2.2.2.2.2.1 L.2.2.2.2.2.2.2.2.2.2.1 L.2.2.2.2.2.2.2.2.2.2.2 L.2.2.2.2.2.2.2.1 L.2.2.2.2.2.2.2.2.2.1)))
 (cond (kind0 == (1 : Int))
 (icM qcfg ⟨true, false⟩ mk10 10 [V.ptr 2 0 0, V.int .i64 (W .i64 (((BitVec.ofInt (IntKind.bits .i64) page &&& BitVec.ofInt (IntKind.bits .i64) 7).toNat : Int)))] [O.arena 63 m0, O.arena 7 m1, O.box 59 (V.agg [V.ptr 3 0 0, V.int .i64 m3_1, V.mp 4, V.tail 5 0, V.int .i64 m3_4]) false, O.box 56 (V.agg [V.int .i64 m2_0, V.mp 6, V.tail 7 0]) false, O.map m6, O.row 3 m7 0, O.map m4, O.row 88 m5 z5] fun L_1 =>
  some (.head 1 (T3_1 x1 x9 x10 0 L_1.2.1 L_1.2.2.1 L_1.2.2.2.2.2.1 L_1.2.2.2.1 L_1.2.2.2.2.1 L_1.2.2.2.2.2.2.2.2.1 L_1.2.2.2.2.2.2.2.2.2.1 L_1.2.2.2.2.2.2.2.2.2.2 L_1.2.2.2.2.2.2.1 L_1.2.2.2.2.2.2.2.1)))
 (cond (kind0 == (2 : Int))
 (pcK qcfg 12 [V.int .i64 n] fun r =>
  kS r fun r12 =>
  icM qcfg ⟨true, false⟩ mk11 11 [V.ptr 2 0 0, V.int .i64 (W .i64 (((BitVec.ofInt (IntKind.bits .i64) page &&& BitVec.ofInt (IntKind.bits .i64) 7).toNat : Int))), V.str r12, V.int .i64 n] [O.arena 63 m0, O.arena 7 m1, O.box 59 (V.agg [V.ptr 3 0 0, V.int .i64 m3_1, V.mp 4, V.tail 5 0, V.int .i64 m3_4]) false, O.box 56 (V.agg [V.int .i64 m2_0, V.mp 6, V.tail 7 0]) false, O.map m6, O.row 3 m7 0, O.map m4, O.row 88 m5 z5] fun L_2 =>
  some (.head 1 (T3_1 x1 x9 x10 0 L_2.2.1 L_2.2.2.1 L_2.2.2.2.2.2.1 L_2.2.2.2.1 L_2.2.2.2.2.1 L_2.2.2.2.2.2.2.2.2.1 L_2.2.2.2.2.2.2.2.2.2.1 L_2.2.2.2.2.2.2.2.2.2.2 L_2.2.2.2.2.2.2.1 L_2.2.2.2.2.2.2.2.1)))
 (cond (kind0 == (3 : Int))
 (some (.head 1 (T3_1 x1 (if x9 < n then n else x9) x10 0 m0 m1 m2_0 m3_1 (if m3_4 < n then n else m3_4) m4 m5 z5 m6 m7)))
 (icM qcfg ⟨false, false⟩ mk14 14 [V.ptr 2 0 0] [O.arena 63 m0, O.arena 7 m1, O.box 59 (V.agg [V.ptr 3 0 0, V.int .i64 m3_1, V.mp 4, V.tail 5 0, V.int .i64 m3_4]) false, O.box 56 (V.agg [V.int .i64 m2_0, V.mp 6, V.tail 7 0]) false, O.map m6, O.row 3 m7 0, O.map m4, O.row 88 m5 z5] fun L_3 =>
  some (.head 1 (T3_1 x1 x9 x10 0 L_3.2.1 L_3.2.2.1 L_3.2.2.2.2.2.1 L_3.2.2.2.1 L_3.2.2.2.2.1 L_3.2.2.2.2.2.2.2.1 L_3.2.2.2.2.2.2.2.2.2.1 L_3.2.2.2.2.2.2.2.2.2.2 L_3.2.2.2.2.2.2.1 L_3.2.2.2.2.2.2.2.2.1)))))))
 (pcK qcfg 17 [] fun r_1 =>
  kB r_1 fun r17 =>
  some (.doneM (V.bool r17) [O.arena 63 m0, O.arena 7 m1, O.box 56 (V.agg [V.int .i64 m2_0, V.mp 4, V.tail 5 0]) false, O.box 59 (V.agg [V.ptr 2 0 0, V.int .i64 m3_1, V.mp 6, V.tail 7 0, V.int .i64 m3_4]) false, O.map m4, O.row 88 m5 z5, O.map m6, O.row 3 m7 0])))
 (pcK qcfg 17 [] fun r_2 =>
  kB r_2 fun r17_1 =>
  some (.doneM (V.bool r17_1) [O.arena 63 m0, O.arena 7 m1, O.box 56 (V.agg [V.int .i64 m2_0, V.mp 4, V.tail 5 0]) false, O.box 59 (V.agg [V.ptr 2 0 0, V.int .i64 m3_1, V.mp 6, V.tail 7 0, V.int .i64 m3_4]) false, O.map m4, O.row 88 m5 z5, O.map m6, O.row 3 m7 0]))
theorem s3_0_eq (x1 : List V) (x9 : Int) (x10 : Int) (m0 : List V) (m1 : List V) (m2_0 : Int) (m3_1 : Int) (m3_4 : Int) (m4 : List (V × V)) (m5 : List V) (z5 : Nat) (m6 : List (V × V)) (m7 : List V) : goK qk true 2 fa3 0 (T3_0 x1 x9 x10 m0 m1 m2_0 m3_1 m3_4 m4 m5 z5 m6 m7) = s3_0 x1 x9 x10 m0 m1 m2_0 m3_1 m3_4 m4 m5 z5 m6 m7 := by kernel_rfl
theorem s3_0_run (x1 : List V) (x9 : Int) (x10 : Int) (m0 : List V) (m1 : List V) (m2_0 : Int) (m3_1 : Int) (m3_4 : Int) (m4 : List (V × V)) (m5 : List V) (z5 : Nat) (m6 : List (V × V)) (m7 : List V) {o o' : Out} (h : s3_0 x1 x9 x10 m0 m1 m2_0 m3_1 m3_4 m4 m5 z5 m6 m7 = some o) (hg : Go qk true 2 fa3 o o') : Go qk true 2 fa3 (.head 0 (T3_0 x1 x9 x10 m0 m1 m2_0 m3_1 m3_4 m4 m5 z5 m6 m7)) o' := .step ((s3_0_eq x1 x9 x10 m0 m1 m2_0 m3_1 m3_4 m4 m5 z5 m6 m7).trans h) hg
noncomputable def s3_1 (x1 : List V) (x9 : Int) (x10 : Int) (x13 : Int) (m0 : List V) (m1 : List V) (m2_0 : Int) (m3_1 : Int) (m3_4 : Int) (m4 : List (V × V)) (m5 : List V) (z5 : Nat) (m6 : List (V × V)) (m7 : List V) : R :=
  cond (decide (x13 < 8))
 (icM qcfg ⟨true, false⟩ mk15 15 [V.ptr 2 0 0, V.int .i64 x13] [O.arena 63 m0, O.arena 7 m1, O.box 56 (V.agg [V.int .i64 m2_0, V.mp 3, V.tail 4 0]) false, O.map m4, O.row 88 m5 z5] fun L =>
  pcK qcfg 16 [V.str L.1, V.int .i64 0, V.int .i64 8] fun r =>
  d40 r fun r16_0 r16_1 =>
  cond (L.2.1 != (0 : Int))
 (some (.doneM (V.bool false) [O.arena 63 L.2.2.1, O.arena 7 L.2.2.2.1, O.box 56 (V.agg [V.int .i64 L.2.2.2.2.1, V.mp 4, V.tail 5 0]) false, O.box 59 (V.agg [V.ptr 2 0 0, V.int .i64 m3_1, V.mp 6, V.tail 7 0, V.int .i64 m3_4]) false, O.map L.2.2.2.2.2.1, O.row 88 L.2.2.2.2.2.2.1 L.2.2.2.2.2.2.2, O.map m6, O.row 3 m7 0]))
 (cond (r16_1 != (0 : Int))
 (some (.doneM (V.bool false) [O.arena 63 L.2.2.1, O.arena 7 L.2.2.2.1, O.box 56 (V.agg [V.int .i64 L.2.2.2.2.1, V.mp 4, V.tail 5 0]) false, O.box 59 (V.agg [V.ptr 2 0 0, V.int .i64 m3_1, V.mp 6, V.tail 7 0, V.int .i64 m3_4]) false, O.map L.2.2.2.2.2.1, O.row 88 L.2.2.2.2.2.2.1 L.2.2.2.2.2.2.2, O.map m6, O.row 3 m7 0]))
 (cond (decide (r16_0 > W .u64 (x9)))
 (some (.doneM (V.bool false) [O.arena 63 L.2.2.1, O.arena 7 L.2.2.2.1, O.box 56 (V.agg [V.int .i64 L.2.2.2.2.1, V.mp 4, V.tail 5 0]) false, O.box 59 (V.agg [V.ptr 2 0 0, V.int .i64 m3_1, V.mp 6, V.tail 7 0, V.int .i64 m3_4]) false, O.map L.2.2.2.2.2.1, O.row 88 L.2.2.2.2.2.2.1 L.2.2.2.2.2.2.2, O.map m6, O.row 3 m7 0]))
 (some (.head 1 (T3_1 x1 x9 x10 (W .i64 (x13 + 1)) L.2.2.1 L.2.2.2.1 L.2.2.2.2.1 m3_1 m3_4 L.2.2.2.2.2.1 L.2.2.2.2.2.2.1 L.2.2.2.2.2.2.2 m6 m7))))))
 (some (.head 0 (T3_0 x1 x9 (W .i64 (x10 + 1)) m0 m1 m2_0 m3_1 m3_4 m4 m5 z5 m6 m7)))
theorem s3_1_eq (x1 : List V) (x9 : Int) (x10 : Int) (x13 : Int) (m0 : List V) (m1 : List V) (m2_0 : Int) (m3_1 : Int) (m3_4 : Int) (m4 : List (V × V)) (m5 : List V) (z5 : Nat) (m6 : List (V × V)) (m7 : List V) : goK qk true 2 fa3 1 (T3_1 x1 x9 x10 x13 m0 m1 m2_0 m3_1 m3_4 m4 m5 z5 m6 m7) = s3_1 x1 x9 x10 x13 m0 m1 m2_0 m3_1 m3_4 m4 m5 z5 m6 m7 := by kernel_rfl
theorem s3_1_run (x1 : List V) (x9 : Int) (x10 : Int) (x13 : Int) (m0 : List V) (m1 : List V) (m2_0 : Int) (m3_1 : Int) (m3_4 : Int) (m4 : List (V × V)) (m5 : List V) (z5 : Nat) (m6 : List (V × V)) (m7 : List V) {o o' : Out} (h : s3_1 x1 x9 x10 x13 m0 m1 m2_0 m3_1 m3_4 m4 m5 z5 m6 m7 = some o) (hg : Go qk true 2 fa3 o o') : Go qk true 2 fa3 (.head 1 (T3_1 x1 x9 x10 x13 m0 m1 m2_0 m3_1 m3_4 m4 m5 z5 m6 m7)) o' := .step ((s3_1_eq x1 x9 x10 x13 m0 m1 m2_0 m3_1 m3_4 m4 m5 z5 m6 m7).trans h) hg
end Go.Proofs.Ytknapnnpmfhogaa