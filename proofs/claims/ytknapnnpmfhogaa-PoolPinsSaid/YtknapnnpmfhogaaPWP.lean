/-
  The graph of a law (printed by walk.py).
-/
import Derived.Test.YtknapnnpmfhogaaP1
namespace Go.Proofs.Ytknapnnpmfhogaa
open Go Go.Lite
set_option maxRecDepth 100000
set_option linter.unusedVariables false
noncomputable def fa6 : FA := ⟨2, 121, [.tmp 4], [4],
 (.seq
 (.ops false [o1 4 (.assign (.const (.bool false))) 4])
 (.seq
 (.ops false [o1 22 (.call ⟨(.value (.func 7)), #[(.const (.int .i64 (16)))], #[3]⟩) 25, mv 21 22 25, o1 23 (.extract (t' 21) 0) 23, o1 24 (.extract (t' 21) 1) 24, asg 5 23 23, asg 6 24 24])
 (.seq
 (.seq
 (.ops false [mv 25 5 23, o1 26 (.binOp .eql 23 (t' 25) (.const (.pointer none)) 23) 4, mv 27 26 4, o2 28 (.move (t' 6)) 24 27 false, o2 29 (.binOp .neq 24 (t' 28) (.const (.int .i64 (0))) 24) 4 27 false, o1 30 (.pick (t' 27) (.const (.bool true)) (t' 29)) 4])
 (.cond (t' 30)
 (.seq
 (.ops false [o1 4 (.assign (.const (.bool false))) 4])
 (.ret))
 (.skip)))
 (.seq
 (.ops false [mv 31 0 3, o1 32 (.binOp .and 3 (t' 31) (.const (.int .i64 (7))) 3) 3, o1 33 (.binOp .add 3 (.const (.int .i64 (1))) (t' 32) 3) 3, asg 7 33 3])
 (.seq
 (.ops false [mv 35 5 23, mv 36 7 3, o1 37 (.call ⟨(.value (.func 8)), #[(t' 35), (t' 36)], #[23, 3]⟩) 28, mv 34 37 28, o1 38 (.extract (t' 34) 0) 27, o1 39 (.extract (t' 34) 1) 24, asg 8 38 27, asg 9 39 24])
 (.seq
 (.seq
 (.ops false [mv 40 8 27, o1 41 (.binOp .eql 27 (t' 40) (.const (.pointer none)) 27) 4, mv 42 41 4, o2 43 (.move (t' 9)) 24 42 false, o2 44 (.binOp .neq 24 (t' 43) (.const (.int .i64 (0))) 24) 4 42 false, o1 45 (.pick (t' 42) (.const (.bool true)) (t' 44)) 4])
 (.cond (t' 45)
 (.seq
 (.ops false [o1 4 (.assign (.const (.bool false))) 4])
 (.ret))
 (.skip)))
 (.seq
 (.seq
 (.ops false [o1 10 (.assign (.const (.int .i64 (0)))) 3])
 (.block 0
 (.loop ([0, 2, 3, 5, 6, 9] ++ List.range' 11 110)
 (.seq
 (.seq
 (.ops false [mv 46 10 3, o1 47 (.binOp .lss 3 (t' 46) (.const (.int .i64 (16))) 3) 4])
 (.cond (t' 47)
 (.skip)
 (.exit 0)))
 (.seq
 (.block 1
 (.seq
 (.ops false [mv 51 8 27, mv 52 10 3, o1 53 (.call ⟨(.value (.func 9)), #[(t' 51), (t' 52)], #[27, 3]⟩) 32, mv 50 53 32, o1 54 (.extract (t' 50) 0) 9, o1 55 (.extract (t' 50) 1) 24, asg 11 54 9, asg 12 55 24])
 (.seq
 (.ops false [mv 56 12 24, o1 57 (.binOp .eql 24 (t' 56) (.const (.int .i64 (0))) 24) 4, mv 58 10 3, mv 59 7 3, o1 60 (.binOp .lss 3 (t' 58) (t' 59) 3) 4, o1 61 (.binOp .neq 4 (t' 57) (t' 60) 4) 4, mv 62 61 4, o2 63 (.move (t' 12)) 24 62 false, o2 64 (.binOp .neq 24 (t' 63) (.const (.int .i64 (0))) 24) 4 62 false, o2 65 (.move (t' 64)) 4 62 false, o2 66 (.move (t' 12)) 24 65 true, o2 67 (.binOp .neq 24 (t' 66) (.const (.int .i64 (6))) 24) 4 65 true, o2 68 (.pick (t' 65) (t' 67) (.const (.bool false))) 4 62 false, o1 69 (.pick (t' 62) (.const (.bool true)) (t' 68)) 4])
 (.cond (t' 69)
 (.seq
 (.ops false [o1 4 (.assign (.const (.bool false))) 4])
 (.ret))
 (.skip)))))
 (.ops false [mv 48 10 3, o1 49 (.binOp .add 3 (t' 48) (.const (.int .i64 (1))) 3) 3, asg 10 49 3]))))))
 (.seq
 (.ops false [mv 70 1 5, o1 71 (.convert 5 3 (t' 70)) 3, o1 72 (.binOp .rem 3 (t' 71) (.const (.int .i64 (9))) 3) 3, asg 13 72 3])
 (.seq
 (.seq
 (.ops false [o1 14 (.assign (.const (.int .i64 (0)))) 3])
 (.block 2
 (.loop (List.range' 0 4 ++ [5, 6, 7] ++ List.range' 9 4 ++ List.range' 15 106)
 (.seq
 (.seq
 (.ops false [mv 73 14 3, mv 74 13 3, o1 75 (.binOp .lss 3 (t' 73) (t' 74) 3) 4])
 (.cond (t' 75)
 (.skip)
 (.exit 2)))
 (.seq
 (.block 3
 (.seq
 (.ops false [mv 79 8 27, o1 80 (.call ⟨(.value (.func 9)), #[(t' 79), (.const (.int .i64 (0)))], #[27, 3]⟩) 32, mv 78 80 32, o1 81 (.extract (t' 78) 0) 9, o1 82 (.extract (t' 78) 1) 24, asg 15 81 9, asg 16 82 24])
 (.seq
 (.ops false [mv 83 16 24, o1 84 (.binOp .neq 24 (t' 83) (.const (.int .i64 (0))) 24) 4, mv 85 84 4, o2 86 (.move (t' 8)) 27 85 false, o2 87 (.call ⟨(.value (.func 20)), #[(t' 86), (.const (.int .i64 (0)))], #[27, 3]⟩) 3 85 false, o2 88 (.move (t' 14)) 3 85 false, o2 89 (.binOp .add 3 (t' 88) (.const (.int .i64 (2))) 3) 3 85 false, o2 90 (.binOp .neq 3 (t' 87) (t' 89) 3) 4 85 false, o1 91 (.pick (t' 85) (.const (.bool true)) (t' 90)) 4])
 (.cond (t' 91)
 (.seq
 (.ops false [o1 4 (.assign (.const (.bool false))) 4])
 (.ret))
 (.skip)))))
 (.ops false [mv 76 14 3, o1 77 (.binOp .add 3 (t' 76) (.const (.int .i64 (1))) 3) 3, asg 14 77 3]))))))
 (.seq
 (.seq
 (.ops false [o1 17 (.assign (.const (.int .i64 (0)))) 3])
 (.block 4
 (.loop (List.range' 0 4 ++ [5, 6, 7] ++ List.range' 9 4 ++ [14, 15, 16] ++ List.range' 18 103)
 (.seq
 (.seq
 (.ops false [mv 92 17 3, mv 93 13 3, o1 94 (.binOp .leq 3 (t' 92) (t' 93) 3) 4])
 (.cond (t' 94)
 (.skip)
 (.exit 4)))
 (.seq
 (.block 5
 (.seq
 (.ops false [mv 97 8 27, o1 98 (.call ⟨(.value (.func 10)), #[(t' 97), (.const (.int .i64 (0)))], #[27, 3]⟩) 24, o1 99 (.binOp .neq 24 (t' 98) (.const (.int .i64 (0))) 24) 4])
 (.cond (t' 99)
 (.seq
 (.ops false [o1 4 (.assign (.const (.bool false))) 4])
 (.ret))
 (.skip))))
 (.ops false [mv 95 17 3, o1 96 (.binOp .add 3 (t' 95) (.const (.int .i64 (1))) 3) 3, asg 17 96 3]))))))
 (.seq
 (.ops false [mv 100 8 27, o1 101 (.call ⟨(.value (.func 10)), #[(t' 100), (.const (.int .i64 (0)))], #[27, 3]⟩) 24, asg 18 101 24])
 (.seq
 (.ops false [mv 103 8 27, o1 104 (.call ⟨(.value (.func 9)), #[(t' 103), (.const (.int .i64 (15)))], #[27, 3]⟩) 32, mv 102 104 32, o1 105 (.extract (t' 102) 0) 9, o1 106 (.extract (t' 102) 1) 24, asg 19 105 9, asg 20 106 24])
 (.seq
 (.ops false [mv 107 18 24, o1 108 (.binOp .eql 24 (t' 107) (.const (.int .i64 (9))) 24) 4, mv 109 108 4, o2 110 (.move (t' 20)) 24 109 true, o2 111 (.binOp .eql 24 (t' 110) (.const (.int .i64 (0))) 24) 4 109 true, o1 112 (.pick (t' 109) (t' 111) (.const (.bool false))) 4, mv 113 112 4, o2 114 (.move (t' 8)) 27 113 true, o2 115 (.call ⟨(.value (.func 20)), #[(t' 114), (.const (.int .i64 (0)))], #[27, 3]⟩) 3 113 true, o2 116 (.binOp .eql 3 (t' 115) (.const (.int .i64 (0))) 3) 4 113 true, o1 117 (.pick (t' 113) (t' 116) (.const (.bool false))) 4, mv 118 117 4, o2 119 (.call ⟨(.value (.func 17)), #[], #[]⟩) 4 118 true, o1 120 (.pick (t' 118) (t' 119) (.const (.bool false))) 4, asg 4 120 4])
 (.ret))))))))))))))⟩
theorem fa6_eq : fnA qcfg.P (qcfg.rxf 6) 6 = some fa6 := by kernel_rfl
def T6_0 (x1 : Int) (x7 : Int) (x10 : Int) (m0 : List V) (m1 : List V) (m2_1 : Int) (m2_4 : Int) (m3_0 : Int) (m4 : List (V × V)) (m5 : List V) (m6 : List (V × V)) (m7 : List V) (z7 : Nat) : S := ⟨[V.junk, V.int .u8 x1, V.junk, V.junk, V.bool false, V.junk, V.junk, V.int .i64 x7, V.ptr 2 0 0, V.junk, V.int .i64 x10] ++ (JU 110), [O.arena 63 m0, O.arena 7 m1, O.box 59 (V.agg [V.ptr 3 0 0, V.int .i64 m2_1, V.mp 4, V.tail 5 0, V.int .i64 m2_4]) false, O.box 56 (V.agg [V.int .i64 m3_0, V.mp 6, V.tail 7 0]) false, O.map m4, O.row 3 m5 0, O.map m6, O.row 88 m7 z7]⟩
def T6_1 (x13 : Int) (x14 : Int) (m0 : List V) (m1 : List V) (m2_1 : Int) (m2_4 : Int) (m3_0 : Int) (m4 : List (V × V)) (m5 : List V) (m6 : List (V × V)) (m7 : List V) (z7 : Nat) : S := ⟨(JU 4) ++ [V.bool false, V.junk, V.junk, V.junk, V.ptr 2 0 0] ++ (JU 4) ++ [V.int .i64 x13, V.int .i64 x14] ++ (JU 106), [O.arena 63 m0, O.arena 7 m1, O.box 59 (V.agg [V.ptr 3 0 0, V.int .i64 m2_1, V.mp 4, V.tail 5 0, V.int .i64 m2_4]) false, O.box 56 (V.agg [V.int .i64 m3_0, V.mp 6, V.tail 7 0]) false, O.map m4, O.row 3 m5 0, O.map m6, O.row 88 m7 z7]⟩
def T6_2 (x13 : Int) (x17 : Int) (m0 : List V) (m1 : List V) (m2_1 : Int) (m2_4 : Int) (m3_0 : Int) (m4 : List (V × V)) (m5 : List V) (m6 : List (V × V)) (m7 : List V) (z7 : Nat) : S := ⟨(JU 4) ++ [V.bool false, V.junk, V.junk, V.junk, V.ptr 2 0 0] ++ (JU 4) ++ [V.int .i64 x13, V.junk, V.junk, V.junk, V.int .i64 x17] ++ (JU 103), [O.arena 63 m0, O.arena 7 m1, O.box 59 (V.agg [V.ptr 3 0 0, V.int .i64 m2_1, V.mp 4, V.tail 5 0, V.int .i64 m2_4]) false, O.box 56 (V.agg [V.int .i64 m3_0, V.mp 6, V.tail 7 0]) false, O.map m4, O.row 3 m5 0, O.map m6, O.row 88 m7 z7]⟩
noncomputable def e6 (pl : Int) (tm : Int) : R :=
  cond (decide (W .i64 (1 + (W .i64 (((BitVec.ofInt (IntKind.bits .i64) pl &&& BitVec.ofInt (IntKind.bits .i64) 7).toNat : Int)))) < 1))
 (some (.doneM (V.bool false) [O.arena 63 [], O.arena 7 [], O.map [], O.row 88 [] 0, O.box 56 (V.agg [V.int .i64 16, V.mp 2, V.tail 3 0]) false]))
 (cond (decide (W .i64 (1 + (W .i64 (((BitVec.ofInt (IntKind.bits .i64) pl &&& BitVec.ofInt (IntKind.bits .i64) 7).toNat : Int)))) > 64))
 (some (.doneM (V.bool false) [O.arena 63 [], O.arena 7 [], O.map [], O.row 88 [] 0, O.box 56 (V.agg [V.int .i64 16, V.mp 2, V.tail 3 0]) false]))
 (some (.head 0 (T6_0 tm (W .i64 (1 + (W .i64 (((BitVec.ofInt (IntKind.bits .i64) pl &&& BitVec.ofInt (IntKind.bits .i64) 7).toNat : Int))))) 0 [] [] (W .i64 (1 + (W .i64 (((BitVec.ofInt (IntKind.bits .i64) pl &&& BitVec.ofInt (IntKind.bits .i64) 7).toNat : Int))))) 0 16 [] [] [] [] 0))))
theorem e6_eq (pl : Int) (tm : Int) : enterK qk true fa6 [V.int .i64 pl, V.int .u8 tm] [O.arena 63 [], O.arena 7 []] = e6 pl tm := by kernel_rfl
theorem e6_run (pl : Int) (tm : Int) {o : Out} {v : V} {m : List O} (h : e6 pl tm = some o) (hg : Go qk true 2 fa6 o (.doneM v m)) : icW qcfg 6 [V.int .i64 pl, V.int .u8 tm] [O.arena 63 [], O.arena 7 []] = some (v, m) := icW_go qik rfl fa6_eq ((e6_eq pl tm).trans h) hg
noncomputable def s6_0 (x1 : Int) (x7 : Int) (x10 : Int) (m0 : List V) (m1 : List V) (m2_1 : Int) (m2_4 : Int) (m3_0 : Int) (m4 : List (V × V)) (m5 : List V) (m6 : List (V × V)) (m7 : List V) (z7 : Nat) : R :=
  cond (decide (x10 < 16))
 (icM qcfg ⟨false, false⟩ mk9 9 [V.ptr 2 0 0, V.int .i64 x10] [O.arena 63 m0, O.arena 7 m1, O.box 59 (V.agg [V.ptr 3 0 0, V.int .i64 m2_1, V.mp 4, V.tail 5 0, V.int .i64 m2_4]) false, O.box 56 (V.agg [V.int .i64 m3_0, V.mp 6, V.tail 7 0]) false, O.map m4, O.row 3 m5 0, O.map m6, O.row 88 m7 z7] fun L =>
  cond (!((L.2.1 == (0 : Int)) == (decide (x10 < x7))))
 (some (.doneM (V.bool false) [O.arena 63 L.2.2.1, O.arena 7 L.2.2.2.1, O.box 59 (V.agg [V.ptr 3 0 0, V.int .i64 L.2.2.2.2.1, V.mp 4, V.tail 5 0, V.int .i64 L.2.2.2.2.2.1]) false, O.box 56 (V.agg [V.int .i64 L.2.2.2.2.2.2.1, V.mp 6, V.tail 7 0]) false, O.map L.2.2.2.2.2.2.2.1, O.row 3 L.2.2.2.2.2.2.2.2.2.1 0, O.map L.2.2.2.2.2.2.2.2.1, O.row 88 L.2.2.2.2.2.2.2.2.2.2.1 L.2.2.2.2.2.2.2.2.2.2.2]))
 (cond (L.2.1 != (0 : Int))
 (cond (L.2.1 != (6 : Int))
 (some (.doneM (V.bool false) [O.arena 63 L.2.2.1, O.arena 7 L.2.2.2.1, O.box 59 (V.agg [V.ptr 3 0 0, V.int .i64 L.2.2.2.2.1, V.mp 4, V.tail 5 0, V.int .i64 L.2.2.2.2.2.1]) false, O.box 56 (V.agg [V.int .i64 L.2.2.2.2.2.2.1, V.mp 6, V.tail 7 0]) false, O.map L.2.2.2.2.2.2.2.1, O.row 3 L.2.2.2.2.2.2.2.2.2.1 0, O.map L.2.2.2.2.2.2.2.2.1, O.row 88 L.2.2.2.2.2.2.2.2.2.2.1 L.2.2.2.2.2.2.2.2.2.2.2]))
 (some (.head 0 (T6_0 x1 x7 (W .i64 (x10 + 1)) L.2.2.1 L.2.2.2.1 L.2.2.2.2.1 L.2.2.2.2.2.1 L.2.2.2.2.2.2.1 L.2.2.2.2.2.2.2.1 L.2.2.2.2.2.2.2.2.2.1 L.2.2.2.2.2.2.2.2.1 L.2.2.2.2.2.2.2.2.2.2.1 L.2.2.2.2.2.2.2.2.2.2.2))))
 (some (.head 0 (T6_0 x1 x7 (W .i64 (x10 + 1)) L.2.2.1 L.2.2.2.1 L.2.2.2.2.1 L.2.2.2.2.2.1 L.2.2.2.2.2.2.1 L.2.2.2.2.2.2.2.1 L.2.2.2.2.2.2.2.2.2.1 L.2.2.2.2.2.2.2.2.1 L.2.2.2.2.2.2.2.2.2.2.1 L.2.2.2.2.2.2.2.2.2.2.2)))))
 (some (.head 1 (T6_1 ((W .i64 (x1)).tmod 9) 0 m0 m1 m2_1 m2_4 m3_0 m4 m5 m6 m7 z7)))
theorem s6_0_eq (x1 : Int) (x7 : Int) (x10 : Int) (m0 : List V) (m1 : List V) (m2_1 : Int) (m2_4 : Int) (m3_0 : Int) (m4 : List (V × V)) (m5 : List V) (m6 : List (V × V)) (m7 : List V) (z7 : Nat) : goK qk true 2 fa6 0 (T6_0 x1 x7 x10 m0 m1 m2_1 m2_4 m3_0 m4 m5 m6 m7 z7) = s6_0 x1 x7 x10 m0 m1 m2_1 m2_4 m3_0 m4 m5 m6 m7 z7 := by kernel_rfl
theorem s6_0_run (x1 : Int) (x7 : Int) (x10 : Int) (m0 : List V) (m1 : List V) (m2_1 : Int) (m2_4 : Int) (m3_0 : Int) (m4 : List (V × V)) (m5 : List V) (m6 : List (V × V)) (m7 : List V) (z7 : Nat) {o o' : Out} (h : s6_0 x1 x7 x10 m0 m1 m2_1 m2_4 m3_0 m4 m5 m6 m7 z7 = some o) (hg : Go qk true 2 fa6 o o') : Go qk true 2 fa6 (.head 0 (T6_0 x1 x7 x10 m0 m1 m2_1 m2_4 m3_0 m4 m5 m6 m7 z7)) o' := .step ((s6_0_eq x1 x7 x10 m0 m1 m2_1 m2_4 m3_0 m4 m5 m6 m7 z7).trans h) hg
noncomputable def s6_1 (x13 : Int) (x14 : Int) (m0 : List V) (m1 : List V) (m2_1 : Int) (m2_4 : Int) (m3_0 : Int) (m4 : List (V × V)) (m5 : List V) (m6 : List (V × V)) (m7 : List V) (z7 : Nat) : R :=
  cond (decide (x14 < x13))
 (icM qcfg ⟨false, false⟩ mk9 9 [V.ptr 2 0 0, V.int .i64 0] [O.arena 63 m0, O.arena 7 m1, O.box 59 (V.agg [V.ptr 3 0 0, V.int .i64 m2_1, V.mp 4, V.tail 5 0, V.int .i64 m2_4]) false, O.box 56 (V.agg [V.int .i64 m3_0, V.mp 6, V.tail 7 0]) false, O.map m4, O.row 3 m5 0, O.map m6, O.row 88 m7 z7] fun L =>
  cond (L.2.1 != (0 : Int))
 (some (.doneM (V.bool false) [O.arena 63 L.2.2.1, O.arena 7 L.2.2.2.1, O.box 59 (V.agg [V.ptr 3 0 0, V.int .i64 L.2.2.2.2.1, V.mp 4, V.tail 5 0, V.int .i64 L.2.2.2.2.2.1]) false, O.box 56 (V.agg [V.int .i64 L.2.2.2.2.2.2.1, V.mp 6, V.tail 7 0]) false, O.map L.2.2.2.2.2.2.2.1, O.row 3 L.2.2.2.2.2.2.2.2.2.1 0, O.map L.2.2.2.2.2.2.2.2.1, O.row 88 L.2.2.2.2.2.2.2.2.2.2.1 L.2.2.2.2.2.2.2.2.2.2.2]))
 (icM qcfg ⟨true, false⟩ mk20 20 [V.ptr 2 0 0, V.int .i64 0] [O.arena 63 L.2.2.1, O.arena 7 L.2.2.2.1, O.box 59 (V.agg [V.ptr 3 0 0, V.int .i64 L.2.2.2.2.1, V.mp 4, V.tail 5 0, V.int .i64 L.2.2.2.2.2.1]) false, O.box 56 (V.agg [V.int .i64 L.2.2.2.2.2.2.1, V.mp 6, V.tail 7 0]) false, O.map L.2.2.2.2.2.2.2.1, O.row 3 L.2.2.2.2.2.2.2.2.2.1 0, O.map L.2.2.2.2.2.2.2.2.1, O.row 88 L.2.2.2.2.2.2.2.2.2.2.1 L.2.2.2.2.2.2.2.2.2.2.2] fun L_1 =>
  cond (L_1.1 != (W .i64 (x14 + 2)))
 (some (.doneM (V.bool false) [O.arena 63 L_1.2.1, O.arena 7 L_1.2.2.1, O.box 59 (V.agg [V.ptr 3 0 0, V.int .i64 L_1.2.2.2.1, V.mp 4, V.tail 5 0, V.int .i64 L_1.2.2.2.2.1]) false, O.box 56 (V.agg [V.int .i64 L_1.2.2.2.2.2.1, V.mp 6, V.tail 7 0]) false, O.map L_1.2.2.2.2.2.2.1, O.row 3 L_1.2.2.2.2.2.2.2.1 0, O.map L_1.2.2.2.2.2.2.2.2.1, O.row 88 L_1.2.2.2.2.2.2.2.2.2.1 L_1.2.2.2.2.2.2.2.2.2.2]))
 (some (.head 1 (T6_1 x13 (W .i64 (x14 + 1)) L_1.2.1 L_1.2.2.1 L_1.2.2.2.1 L_1.2.2.2.2.1 L_1.2.2.2.2.2.1 L_1.2.2.2.2.2.2.1 L_1.2.2.2.2.2.2.2.1 L_1.2.2.2.2.2.2.2.2.1 L_1.2.2.2.2.2.2.2.2.2.1 L_1.2.2.2.2.2.2.2.2.2.2)))))
 (some (.head 2 (T6_2 x13 0 m0 m1 m2_1 m2_4 m3_0 m4 m5 m6 m7 z7)))
theorem s6_1_eq (x13 : Int) (x14 : Int) (m0 : List V) (m1 : List V) (m2_1 : Int) (m2_4 : Int) (m3_0 : Int) (m4 : List (V × V)) (m5 : List V) (m6 : List (V × V)) (m7 : List V) (z7 : Nat) : goK qk true 2 fa6 1 (T6_1 x13 x14 m0 m1 m2_1 m2_4 m3_0 m4 m5 m6 m7 z7) = s6_1 x13 x14 m0 m1 m2_1 m2_4 m3_0 m4 m5 m6 m7 z7 := by kernel_rfl
theorem s6_1_run (x13 : Int) (x14 : Int) (m0 : List V) (m1 : List V) (m2_1 : Int) (m2_4 : Int) (m3_0 : Int) (m4 : List (V × V)) (m5 : List V) (m6 : List (V × V)) (m7 : List V) (z7 : Nat) {o o' : Out} (h : s6_1 x13 x14 m0 m1 m2_1 m2_4 m3_0 m4 m5 m6 m7 z7 = some o) (hg : Go qk true 2 fa6 o o') : Go qk true 2 fa6 (.head 1 (T6_1 x13 x14 m0 m1 m2_1 m2_4 m3_0 m4 m5 m6 m7 z7)) o' := .step ((s6_1_eq x13 x14 m0 m1 m2_1 m2_4 m3_0 m4 m5 m6 m7 z7).trans h) hg
noncomputable def s6_2 (x13 : Int) (x17 : Int) (m0 : List V) (m1 : List V) (m2_1 : Int) (m2_4 : Int) (m3_0 : Int) (m4 : List (V × V)) (m5 : List V) (m6 : List (V × V)) (m7 : List V) (z7 : Nat) : R :=
  cond (decide (x17 ≤ x13))
 (icM qcfg ⟨true, false⟩ mk10 10 [V.ptr 2 0 0, V.int .i64 0] [O.arena 63 m0, O.arena 7 m1, O.box 59 (V.agg [V.ptr 3 0 0, V.int .i64 m2_1, V.mp 4, V.tail 5 0, V.int .i64 m2_4]) false, O.box 56 (V.agg [V.int .i64 m3_0, V.mp 6, V.tail 7 0]) false, O.map m4, O.row 3 m5 0, O.map m6, O.row 88 m7 z7] fun L =>
  cond (L.1 != (0 : Int))
 (some (.doneM (V.bool false) [O.arena 63 L.2.1, O.arena 7 L.2.2.1, O.box 59 (V.agg [V.ptr 3 0 0, V.int .i64 L.2.2.2.1, V.mp 4, V.tail 5 0, V.int .i64 L.2.2.2.2.1]) false, O.box 56 (V.agg [V.int .i64 L.2.2.2.2.2.1, V.mp 6, V.tail 7 0]) false, O.map L.2.2.2.2.2.2.1, O.row 3 L.2.2.2.2.2.2.2.1 0, O.map L.2.2.2.2.2.2.2.2.1, O.row 88 L.2.2.2.2.2.2.2.2.2.1 L.2.2.2.2.2.2.2.2.2.2]))
 (some (.head 2 (T6_2 x13 (W .i64 (x17 + 1)) L.2.1 L.2.2.1 L.2.2.2.1 L.2.2.2.2.1 L.2.2.2.2.2.1 L.2.2.2.2.2.2.1 L.2.2.2.2.2.2.2.1 L.2.2.2.2.2.2.2.2.1 L.2.2.2.2.2.2.2.2.2.1 L.2.2.2.2.2.2.2.2.2.2))))
 (icM qcfg ⟨true, false⟩ mk10 10 [V.ptr 2 0 0, V.int .i64 0] [O.arena 63 m0, O.arena 7 m1, O.box 59 (V.agg [V.ptr 3 0 0, V.int .i64 m2_1, V.mp 4, V.tail 5 0, V.int .i64 m2_4]) false, O.box 56 (V.agg [V.int .i64 m3_0, V.mp 6, V.tail 7 0]) false, O.map m4, O.row 3 m5 0, O.map m6, O.row 88 m7 z7] fun L_1 =>
  icM qcfg ⟨false, false⟩ mk9 9 [V.ptr 2 0 0, V.int .i64 15] [O.arena 63 L_1.2.1, O.arena 7 L_1.2.2.1, O.box 59 (V.agg [V.ptr 3 0 0, V.int .i64 L_1.2.2.2.1, V.mp 4, V.tail 5 0, V.int .i64 L_1.2.2.2.2.1]) false, O.box 56 (V.agg [V.int .i64 L_1.2.2.2.2.2.1, V.mp 6, V.tail 7 0]) false, O.map L_1.2.2.2.2.2.2.1, O.row 3 L_1.2.2.2.2.2.2.2.1 0, O.map L_1.2.2.2.2.2.2.2.2.1, O.row 88 L_1.2.2.2.2.2.2.2.2.2.1 L_1.2.2.2.2.2.2.2.2.2.2] fun L_2 =>
  cond (L_1.1 == (9 : Int))
 (cond (L_2.2.1 == (0 : Int))
 (icM qcfg ⟨true, false⟩ mk20 20 [V.ptr 2 0 0, V.int .i64 0] [O.arena 63 L_2.2.2.1, O.arena 7 L_2.2.2.2.1, O.box 59 (V.agg [V.ptr 3 0 0, V.int .i64 L_2.2.2.2.2.1, V.mp 4, V.tail 5 0, V.int .i64 L_2.2.2.2.2.2.1]) false, O.box 56 (V.agg [V.int .i64 L_2.2.2.2.2.2.2.1, V.mp 6, V.tail 7 0]) false, O.map L_2.2.2.2.2.2.2.2.1, O.row 3 L_2.2.2.2.2.2.2.2.2.2.1 0, O.map L_2.2.2.2.2.2.2.2.2.1, O.row 88 L_2.2.2.2.2.2.2.2.2.2.2.1 L_2.2.2.2.2.2.2.2.2.2.2.2] fun L_3 =>
  cond (L_3.1 == (0 : Int))
 (pcK qcfg 17 [] fun r =>
  kB r fun r17 =>
  some (.doneM (V.bool r17) [O.arena 63 L_3.2.1, O.arena 7 L_3.2.2.1, O.box 59 (V.agg [V.ptr 3 0 0, V.int .i64 L_3.2.2.2.1, V.mp 4, V.tail 8 0, V.int .i64 L_3.2.2.2.2.1]) false, O.box 56 (V.agg [V.int .i64 L_3.2.2.2.2.2.1, V.mp 6, V.tail 9 0]) false, O.map L_3.2.2.2.2.2.2.1, O.dead, O.map L_3.2.2.2.2.2.2.2.2.1, O.dead, O.row 3 L_3.2.2.2.2.2.2.2.1 0, O.row 88 L_3.2.2.2.2.2.2.2.2.2.1 L_3.2.2.2.2.2.2.2.2.2.2]))
 (some (.doneM (V.bool false) [O.arena 63 L_3.2.1, O.arena 7 L_3.2.2.1, O.box 59 (V.agg [V.ptr 3 0 0, V.int .i64 L_3.2.2.2.1, V.mp 4, V.tail 8 0, V.int .i64 L_3.2.2.2.2.1]) false, O.box 56 (V.agg [V.int .i64 L_3.2.2.2.2.2.1, V.mp 6, V.tail 9 0]) false, O.map L_3.2.2.2.2.2.2.1, O.dead, O.map L_3.2.2.2.2.2.2.2.2.1, O.dead, O.row 3 L_3.2.2.2.2.2.2.2.1 0, O.row 88 L_3.2.2.2.2.2.2.2.2.2.1 L_3.2.2.2.2.2.2.2.2.2.2])))
 (some (.doneM (V.bool false) [O.arena 63 L_2.2.2.1, O.arena 7 L_2.2.2.2.1, O.box 59 (V.agg [V.ptr 3 0 0, V.int .i64 L_2.2.2.2.2.1, V.mp 4, V.tail 8 0, V.int .i64 L_2.2.2.2.2.2.1]) false, O.box 56 (V.agg [V.int .i64 L_2.2.2.2.2.2.2.1, V.mp 6, V.tail 9 0]) false, O.map L_2.2.2.2.2.2.2.2.1, O.dead, O.map L_2.2.2.2.2.2.2.2.2.1, O.dead, O.row 3 L_2.2.2.2.2.2.2.2.2.2.1 0, O.row 88 L_2.2.2.2.2.2.2.2.2.2.2.1 L_2.2.2.2.2.2.2.2.2.2.2.2])))
 (some (.doneM (V.bool false) [O.arena 63 L_2.2.2.1, O.arena 7 L_2.2.2.2.1, O.box 59 (V.agg [V.ptr 3 0 0, V.int .i64 L_2.2.2.2.2.1, V.mp 4, V.tail 8 0, V.int .i64 L_2.2.2.2.2.2.1]) false, O.box 56 (V.agg [V.int .i64 L_2.2.2.2.2.2.2.1, V.mp 6, V.tail 9 0]) false, O.map L_2.2.2.2.2.2.2.2.1, O.dead, O.map L_2.2.2.2.2.2.2.2.2.1, O.dead, O.row 3 L_2.2.2.2.2.2.2.2.2.2.1 0, O.row 88 L_2.2.2.2.2.2.2.2.2.2.2.1 L_2.2.2.2.2.2.2.2.2.2.2.2])))
theorem s6_2_eq (x13 : Int) (x17 : Int) (m0 : List V) (m1 : List V) (m2_1 : Int) (m2_4 : Int) (m3_0 : Int) (m4 : List (V × V)) (m5 : List V) (m6 : List (V × V)) (m7 : List V) (z7 : Nat) : goK qk true 2 fa6 2 (T6_2 x13 x17 m0 m1 m2_1 m2_4 m3_0 m4 m5 m6 m7 z7) = s6_2 x13 x17 m0 m1 m2_1 m2_4 m3_0 m4 m5 m6 m7 z7 := by kernel_rfl
theorem s6_2_run (x13 : Int) (x17 : Int) (m0 : List V) (m1 : List V) (m2_1 : Int) (m2_4 : Int) (m3_0 : Int) (m4 : List (V × V)) (m5 : List V) (m6 : List (V × V)) (m7 : List V) (z7 : Nat) {o o' : Out} (h : s6_2 x13 x17 m0 m1 m2_1 m2_4 m3_0 m4 m5 m6 m7 z7 = some o) (hg : Go qk true 2 fa6 o o') : Go qk true 2 fa6 (.head 2 (T6_2 x13 x17 m0 m1 m2_1 m2_4 m3_0 m4 m5 m6 m7 z7)) o' := .step ((s6_2_eq x13 x17 m0 m1 m2_1 m2_4 m3_0 m4 m5 m6 m7 z7).trans h) hg
end Go.Proofs.Ytknapnnpmfhogaa