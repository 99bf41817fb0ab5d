/-
  The graphs of Sort, of Into, and of the statements (printed by walk.py).
-/
import Derived.Test.YtnaidbmgibmnbaaM14
namespace Go.Proofs.Ytnaidbmgibmnbaa
open Go Go.Lite
set_option maxRecDepth 100000
set_option linter.unusedVariables false
def d25 (v : V) (k : List V → Int → R) : R := kT v fun vs => unc vs fun c vs => kL c fun x0 => unc vs fun c vs => kI .i64 c fun x1 => unn vs (k x0 x1)
@[simp] theorem d25_mk (x0 : List V) (x1 : Int) (k : List V → Int → R) : d25 (.tup [V.sl x0, V.int .i64 x1]) k = k x0 x1 := rfl
@[congr] theorem d25_wc {v v' : V} {k : List V → Int → R} (h : v = v') : d25 v k = d25 v' k := by rw [h]
def d32 (v : V) (k : List V → Int → R) : R := kT v fun vs => unc vs fun c vs => kL c fun x0 => unc vs fun c vs => kI .i64 c fun x1 => unn vs (k x0 x1)
@[simp] theorem d32_mk (x0 : List V) (x1 : Int) (k : List V → Int → R) : d32 (.tup [V.sl x0, V.int .i64 x1]) k = k x0 x1 := rfl
@[congr] theorem d32_wc {v v' : V} {k : List V → Int → R} (h : v = v') : d32 v k = d32 v' k := by rw [h]
def d28 (v : V) (k : List V → Int → R) : R := kT v fun vs => unc vs fun c vs => kL c fun x0 => unc vs fun c vs => kI .i64 c fun x1 => unn vs (k x0 x1)
@[simp] theorem d28_mk (x0 : List V) (x1 : Int) (k : List V → Int → R) : d28 (.tup [V.sl x0, V.int .i64 x1]) k = k x0 x1 := rfl
@[congr] theorem d28_wc {v v' : V} {k : List V → Int → R} (h : v = v') : d28 v k = d28 v' k := by rw [h]
/-! ### budwood/moves.Sort -/
noncomputable def fa8 : FA := ⟨1, 16, [.tmp 2, .tmp 3], [23, 24],
 (.seq
 (.ops false [o1 2 (.assign (.const (.slice none 0 0))) 23, o1 3 (.assign (.const (.int .i64 (0)))) 24])
 (.seq
 (.seq
 (.ops false [mv 5 0 22, o1 6 (.call ⟨(.value (.func 23)), #[(t' 5)], #[22]⟩) 4, o1 7 (.unOp .not 4 (t' 6)) 4])
 (.cond (t' 7)
 (.seq
 (.ops false [o1 2 (.assign (.const (.slice none 0 0))) 23, o1 3 (.assign (.const (.int .i64 (1)))) 24])
 (.ret))
 (.skip)))
 (.seq
 (.ops false [mv 8 0 22, o1 9 (.call ⟨(.value (.func 25)), #[(t' 8)], #[22]⟩) 48, o1 10 (.call ⟨(.value (.func 24)), #[(t' 9)], #[48]⟩) 22, o1 4 (.alloc 22) 0, o0 (.store 22 (t' 4) (t' 10)) 0])
 (.seq
 (.ops false [mv 11 0 22, o1 12 (.call ⟨(.value (.func 26)), #[(t' 11)], #[22]⟩) 22, o1 13 (.makeFunc (.func 27) #[] #[(t' 4)]) 51, o1 14 (.build 53 #[(0, (t' 12)), (1, (t' 13))]) 53, o1 15 (.call ⟨(.value (.func 28)), #[(t' 14)], #[53]⟩) 23, asg 2 15 23, o1 3 (.assign (.const (.int .i64 (0)))) 24])
 (.ret)))))⟩
theorem fa8_eq : fnA cfgB.P (cfgB.rxf 8) 8 = some fa8 := by kernel_rfl
noncomputable def e8 (a0 : List V) : R :=
  pcK cfgB 23 [V.sl a0] fun r =>
  kB r fun r23 =>
  cond (!r23)
 (some (.done (V.tup [V.sl [], V.int .i64 1])))
 (pcK cfgB 24 [V.fn 42 [V.ref (V.sl a0) 0]] fun r_1 =>
  kL r_1 fun r24 =>
  pcK cfgB 26 [V.sl a0] fun r_2 =>
  kF 3 r_2 fun r26 =>
  opt (intsOf r24) fun hs0 =>
  opt (intsOf r26) fun l0 =>
  gd (decide (hs0.length = l0.length ∧ l0.length ≤ 65536)) <|
  some (.done (V.tup [V.sl ((rgo hs0 l0.length 0 l0).2.map eSp), V.int .i64 0])))
theorem e8_eq (a0 : List V) : enterK kcC false fa8 [V.sl a0] [] = e8 a0 := by kernel_rfl
theorem e8_run (a0 : List V) {o : Out} {v : V} (h : e8 a0 = some o) (hg : Go kcC false 0 fa8 o (.done v)) : pcW cfgB 8 [V.sl a0] = some v := pcW_go ikC rfl fa8_eq ((e8_eq a0).trans h) hg
theorem e8_done (a0 : List V) {v : V} (h : e8 a0 = some (.done v)) : pcW cfgB 8 [V.sl a0] = some v := e8_run a0 h (.refl _)
/-! ### budwood/moves.Into -/
noncomputable def fa10 : FA := ⟨2, 26, [.tmp 4, .tmp 5], [23, 24],
 (.seq
 (.ops false [o1 3 (.box 3 (t' 1)) 0, o1 4 (.assign (.const (.slice none 0 0))) 23, o1 5 (.assign (.const (.int .i64 (0)))) 24])
 (.seq
 (.seq
 (.ops false [mv 6 0 22, o1 7 (.call ⟨(.value (.func 23)), #[(t' 6)], #[22]⟩) 4, o1 8 (.unOp .not 4 (t' 7)) 4, mv 9 8 4, o2 10 (.load 3 (t' 3)) 3 9 false, o2 11 (.call ⟨(.value (.func 31)), #[(t' 10)], #[3]⟩) 4 9 false, o2 12 (.unOp .not 4 (t' 11)) 4 9 false, o1 13 (.pick (t' 9) (.const (.bool true)) (t' 12)) 4, mv 14 13 4, o2 15 (.load 3 (t' 3)) 3 14 false, o2 16 (.move (t' 0)) 22 14 false, o2 17 (.call ⟨(.builtin .len), #[(t' 16)], #[22]⟩) 3 14 false, o2 18 (.binOp .add 3 (t' 15) (t' 17) 3) 3 14 false, o2 19 (.binOp .gtr 3 (t' 18) (.const (.int .i64 (1024))) 3) 4 14 false, o1 20 (.pick (t' 14) (.const (.bool true)) (t' 19)) 4])
 (.cond (t' 20)
 (.seq
 (.ops false [o1 4 (.assign (.const (.slice none 0 0))) 23, o1 5 (.assign (.const (.int .i64 (1)))) 24])
 (.ret))
 (.skip)))
 (.seq
 (.ops false [mv 21 0 22, o1 22 (.call ⟨(.value (.func 26)), #[(t' 21)], #[22]⟩) 22, o1 23 (.makeFunc (.func 32) #[] #[(t' 3)]) 51, o1 24 (.build 53 #[(0, (t' 22)), (1, (t' 23))]) 53, o1 25 (.call ⟨(.value (.func 28)), #[(t' 24)], #[53]⟩) 23, asg 4 25 23, o1 5 (.assign (.const (.int .i64 (0)))) 24])
 (.ret))))⟩
theorem fa10_eq : fnA cfgB.P (cfgB.rxf 10) 10 = some fa10 := by kernel_rfl
noncomputable def e10 (a0 : List V) (a1 : Int) : R :=
  pcK cfgB 23 [V.sl a0] fun r =>
  kB r fun r23 =>
  cond (!r23)
 (some (.done (V.tup [V.sl [], V.int .i64 1])))
 (pcK cfgB 31 [V.int .i64 a1] fun r_1 =>
  kB r_1 fun r31 =>
  cond (!r31)
 (some (.done (V.tup [V.sl [], V.int .i64 1])))
 (cond (decide (W .i64 (a1 + (a0.length : Int)) > 1024))
 (some (.done (V.tup [V.sl [], V.int .i64 1])))
 (pcK cfgB 26 [V.sl a0] fun r_2 =>
  kF 3 r_2 fun r26 =>
  opt (intsOf r26) fun l0 =>
  gd (decide ((0 ≤ a1 ∧ a1 < 1024) ∧ l0.length ≤ 65536)) <|
  some (.done (V.tup [V.sl ((rgo (hsI a1 l0.length) l0.length 0 l0).2.map eSp), V.int .i64 0])))))
theorem e10_eq (a0 : List V) (a1 : Int) : enterK kcC false fa10 [V.sl a0, V.int .i64 a1] [] = e10 a0 a1 := by kernel_rfl
theorem e10_run (a0 : List V) (a1 : Int) {o : Out} {v : V} (h : e10 a0 a1 = some o) (hg : Go kcC false 0 fa10 o (.done v)) : pcW cfgB 10 [V.sl a0, V.int .i64 a1] = some v := pcW_go ikC rfl fa10_eq ((e10_eq a0 a1).trans h) hg
theorem e10_done (a0 : List V) (a1 : Int) {v : V} (h : e10 a0 a1 = some (.done v)) : pcW cfgB 10 [V.sl a0, V.int .i64 a1] = some v := e10_run a0 a1 h (.refl _)
/-! ### budwood/budwoodlaw16.fixed -/
noncomputable def fa21 : FA := ⟨0, 147, [.tmp 0], [4],
 (.seq
 (.ops false [o1 0 (.assign (.const (.bool false))) 4])
 (.seq
 (.ops false [o1 20 (.buildSlice 22 3 #[(0, (.const (.int .i64 (5)))), (1, (.const (.int .i64 (3)))), (2, (.const (.int .i64 (4))))]) 22, o1 21 (.call ⟨(.value (.func 8)), #[(t' 20)], #[22]⟩) 25, mv 19 21 25, o1 22 (.extract (t' 19) 0) 23, o1 23 (.extract (t' 19) 1) 24, asg 1 22 23, asg 2 23 24])
 (.seq
 (.ops false [o1 25 (.buildSlice 22 2 #[(0, (.const (.int .i64 (5)))), (1, (.const (.int .i64 (3))))]) 22, o1 26 (.call ⟨(.value (.func 10)), #[(t' 25), (.const (.int .i64 (4)))], #[22, 3]⟩) 25, mv 24 26 25, o1 27 (.extract (t' 24) 0) 23, o1 28 (.extract (t' 24) 1) 24, asg 3 27 23, asg 4 28 24])
 (.seq
 (.ops false [o1 30 (.buildSlice 22 2 #[(0, (.const (.int .i64 (5)))), (1, (.const (.int .i64 (5))))]) 22, o1 31 (.call ⟨(.value (.func 8)), #[(t' 30)], #[22]⟩) 25, mv 29 31 25, o1 32 (.extract (t' 29) 0) 23, o1 33 (.extract (t' 29) 1) 24, asg 5 32 23, asg 6 33 24])
 (.seq
 (.ops false [o1 35 (.buildSlice 22 1 #[(0, (.const (.int .i64 (5))))]) 22, o1 36 (.call ⟨(.value (.func 10)), #[(t' 35), (.const (.int .i64 (1024)))], #[22, 3]⟩) 25, mv 34 36 25, o1 37 (.extract (t' 34) 0) 23, o1 38 (.extract (t' 34) 1) 24, asg 7 37 23, asg 8 38 24])
 (.seq
 (.ops false [o1 40 (.buildSlice 22 3 #[(0, (.const (.int .i64 (5)))), (1, (.const (.int .i64 (3)))), (2, (.const (.int .i64 (4))))]) 22, mv 41 1 23, o1 42 (.call ⟨(.value (.func 12)), #[(t' 40), (t' 41)], #[22, 23]⟩) 32, mv 39 42 32, o1 43 (.extract (t' 39) 0) 22, o1 44 (.extract (t' 39) 1) 24, asg 9 43 22, asg 10 44 24])
 (.seq
 (.ops false [o1 46 (.buildSlice 22 2 #[(0, (.const (.int .i64 (5)))), (1, (.const (.int .i64 (3))))]) 22, mv 47 3 23, o1 48 (.call ⟨(.value (.func 12)), #[(t' 46), (t' 47)], #[22, 23]⟩) 32, mv 45 48 32, o1 49 (.extract (t' 45) 0) 22, o1 50 (.extract (t' 45) 1) 24, asg 11 49 22, asg 12 50 24])
 (.seq
 (.ops false [o1 52 (.buildSlice 22 2 #[(0, (.const (.int .i64 (5)))), (1, (.const (.int .i64 (3))))]) 22, o1 53 (.build 44 #[(0, (.const (.int .i64 (4)))), (1, (.const (.int .i64 (6))))]) 44, o1 54 (.buildSlice 23 1 #[(0, (t' 53))]) 23, o1 55 (.call ⟨(.value (.func 12)), #[(t' 52), (t' 54)], #[22, 23]⟩) 32, mv 51 55 32, o1 56 (.extract (t' 51) 0) 22, o1 57 (.extract (t' 51) 1) 24, asg 13 56 22, asg 14 57 24])
 (.seq
 (.ops false [o1 59 (.buildSlice 22 2 #[(0, (.const (.int .i64 (5)))), (1, (.const (.int .i64 (3))))]) 22, o1 60 (.build 44 #[(0, (.const (.int .i64 (5)))), (1, (.const (.int .i64 (3))))]) 44, o1 61 (.buildSlice 23 1 #[(0, (t' 60))]) 23, o1 62 (.call ⟨(.value (.func 12)), #[(t' 59), (t' 61)], #[22, 23]⟩) 32, mv 58 62 32, o1 63 (.extract (t' 58) 0) 22, o1 64 (.extract (t' 58) 1) 24, asg 15 63 22, asg 16 64 24])
 (.seq
 (.ops false [o1 66 (.buildSlice 22 2 #[(0, (.const (.int .i64 (5)))), (1, (.const (.int .i64 (3))))]) 22, o1 67 (.build 44 #[(0, (.const (.int .i64 (5)))), (1, (.const (.int .i64 (1024))))]) 44, o1 68 (.buildSlice 23 1 #[(0, (t' 67))]) 23, o1 69 (.call ⟨(.value (.func 12)), #[(t' 66), (t' 68)], #[22, 23]⟩) 32, mv 65 69 32, o1 70 (.extract (t' 65) 0) 22, o1 71 (.extract (t' 65) 1) 24, asg 17 70 22, asg 18 71 24])
 (.seq
 (.ops false [mv 72 1 23, o1 73 (.call ⟨(.value (.func 14)), #[(t' 72)], #[23]⟩) 27, o1 74 (.build 59 #[(0, (.const (.int .i64 (5)))), (1, (.const (.int .i64 (3)))), (2, (.const (.bool true)))]) 59, o1 75 (.build 59 #[(0, (.const (.int .i64 (5)))), (1, (.const (.int .i64 (4)))), (2, (.const (.bool true)))]) 59, o1 76 (.buildSlice 27 2 #[(0, (t' 74)), (1, (t' 75))]) 27, o1 77 (.call ⟨(.value (.func 15)), #[(t' 73), (t' 76)], #[27, 27]⟩) 4, mv 78 77 4, o2 79 (.move (t' 2)) 24 78 true, o2 80 (.binOp .eql 24 (t' 79) (.const (.int .i64 (0))) 24) 4 78 true, o1 81 (.pick (t' 78) (t' 80) (.const (.bool false))) 4, mv 82 81 4, o2 83 (.move (t' 3)) 23 82 true, o2 84 (.call ⟨(.value (.func 14)), #[(t' 83)], #[23]⟩) 27 82 true, o2 85 (.build 59 #[(0, (.const (.int .i64 (5)))), (1, (.const (.int .i64 (4))))]) 59 82 true, o2 86 (.build 59 #[(0, (.const (.int .i64 (3)))), (1, (.const (.int .i64 (5))))]) 59 82 true, o2 87 (.buildSlice 27 2 #[(0, (t' 85)), (1, (t' 86))]) 27 82 true, o2 88 (.call ⟨(.value (.func 15)), #[(t' 84), (t' 87)], #[27, 27]⟩) 4 82 true, o1 89 (.pick (t' 82) (t' 88) (.const (.bool false))) 4, mv 90 89 4, o2 91 (.move (t' 4)) 24 90 true, o2 92 (.binOp .eql 24 (t' 91) (.const (.int .i64 (0))) 24) 4 90 true, o1 93 (.pick (t' 90) (t' 92) (.const (.bool false))) 4, mv 94 93 4, o2 95 (.move (t' 6)) 24 94 true, o2 96 (.binOp .eql 24 (t' 95) (.const (.int .i64 (1))) 24) 4 94 true, o1 97 (.pick (t' 94) (t' 96) (.const (.bool false))) 4, mv 98 97 4, o2 99 (.move (t' 8)) 24 98 true, o2 100 (.binOp .eql 24 (t' 99) (.const (.int .i64 (1))) 24) 4 98 true, o1 101 (.pick (t' 98) (t' 100) (.const (.bool false))) 4, mv 102 101 4, o2 103 (.move (t' 9)) 22 102 true, o2 104 (.buildSlice 22 3 #[(0, (.const (.int .i64 (3)))), (1, (.const (.int .i64 (4)))), (2, (.const (.int .i64 (5))))]) 22 102 true, o2 105 (.call ⟨(.value (.func 16)), #[(t' 103), (t' 104)], #[22, 22]⟩) 4 102 true, o1 106 (.pick (t' 102) (t' 105) (.const (.bool false))) 4, mv 107 106 4, o2 108 (.move (t' 10)) 24 107 true, o2 109 (.binOp .eql 24 (t' 108) (.const (.int .i64 (0))) 24) 4 107 true, o1 110 (.pick (t' 107) (t' 109) (.const (.bool false))) 4, mv 111 110 4, o2 112 (.move (t' 11)) 22 111 true, o2 113 (.buildSlice 22 2 #[(0, (.const (.int .i64 (4)))), (1, (.const (.int .i64 (5))))]) 22 111 true, o2 114 (.call ⟨(.value (.func 16)), #[(t' 112), (t' 113)], #[22, 22]⟩) 4 111 true, o1 115 (.pick (t' 111) (t' 114) (.const (.bool false))) 4, mv 116 115 4, o2 117 (.move (t' 12)) 24 116 true, o2 118 (.binOp .eql 24 (t' 117) (.const (.int .i64 (0))) 24) 4 116 true, o1 119 (.pick (t' 116) (t' 118) (.const (.bool false))) 4, mv 120 119 4, o2 121 (.move (t' 14)) 24 120 true, o2 122 (.binOp .eql 24 (t' 121) (.const (.int .i64 (7))) 24) 4 120 true, o1 123 (.pick (t' 120) (t' 122) (.const (.bool false))) 4, mv 124 123 4, o2 125 (.move (t' 16)) 24 124 true, o2 126 (.binOp .eql 24 (t' 125) (.const (.int .i64 (8))) 24) 4 124 true, o1 127 (.pick (t' 124) (t' 126) (.const (.bool false))) 4, mv 128 127 4, o2 129 (.move (t' 18)) 24 128 true, o2 130 (.binOp .eql 24 (t' 129) (.const (.int .i64 (1))) 24) 4 128 true, o1 131 (.pick (t' 128) (t' 130) (.const (.bool false))) 4, mv 132 131 4, o2 133 (.buildSlice 22 3 #[(0, (.const (.int .i64 (5)))), (1, (.const (.int .i64 (3)))), (2, (.const (.int .i64 (4))))]) 22 132 true, o2 134 (.call ⟨(.value (.func 17)), #[(t' 133)], #[22]⟩) 3 132 true, o2 135 (.binOp .eql 3 (t' 134) (.const (.int .i64 (1))) 3) 4 132 true, o1 136 (.pick (t' 132) (t' 135) (.const (.bool false))) 4, mv 137 136 4, o2 138 (.buildSlice 22 3 #[(0, (.const (.int .i64 (3)))), (1, (.const (.int .i64 (5)))), (2, (.const (.int .i64 (4))))]) 22 137 true, o2 139 (.call ⟨(.value (.func 17)), #[(t' 138)], #[22]⟩) 3 137 true, o2 140 (.binOp .eql 3 (t' 139) (.const (.int .i64 (2))) 3) 4 137 true, o1 141 (.pick (t' 137) (t' 140) (.const (.bool false))) 4, mv 142 141 4, o2 143 (.buildSlice 22 3 #[(0, (.const (.int .i64 (5)))), (1, (.const (.int .i64 (3)))), (2, (.const (.int .i64 (4))))]) 22 142 true, o2 144 (.call ⟨(.value (.func 19)), #[(t' 143)], #[22]⟩) 3 142 true, o2 145 (.binOp .eql 3 (t' 144) (.const (.int .i64 (1))) 3) 4 142 true, o1 146 (.pick (t' 142) (t' 145) (.const (.bool false))) 4, asg 0 146 4])
 (.ret))))))))))))⟩
theorem fa21_eq : fnA cfgB.P (cfgB.rxf 21) 21 = some fa21 := by kernel_rfl
noncomputable def e21  : R :=
  pcK cfgB 8 [V.sl [V.int .i64 5, V.int .i64 3, V.int .i64 4]] fun r =>
  d25 r fun r8_0 r8_1 =>
  pcK cfgB 10 [V.sl [V.int .i64 5, V.int .i64 3], V.int .i64 4] fun r_1 =>
  d25 r_1 fun r10_0 r10_1 =>
  pcK cfgB 8 [V.sl [V.int .i64 5, V.int .i64 5]] fun r_2 =>
  d25 r_2 fun r8_0_1 r8_1_1 =>
  pcK cfgB 10 [V.sl [V.int .i64 5], V.int .i64 1024] fun r_3 =>
  d25 r_3 fun r10_0_1 r10_1_1 =>
  pcK cfgB 12 [V.sl [V.int .i64 5, V.int .i64 3, V.int .i64 4], V.sl r8_0] fun r_4 =>
  d32 r_4 fun r12_0 r12_1 =>
  pcK cfgB 12 [V.sl [V.int .i64 5, V.int .i64 3], V.sl r10_0] fun r_5 =>
  d32 r_5 fun r12_0_1 r12_1_1 =>
  pcK cfgB 12 [V.sl [V.int .i64 5, V.int .i64 3], V.sl [V.agg [V.int .i64 4, V.int .i64 6, V.bool false]]] fun r_6 =>
  d32 r_6 fun r12_0_2 r12_1_2 =>
  pcK cfgB 12 [V.sl [V.int .i64 5, V.int .i64 3], V.sl [V.agg [V.int .i64 5, V.int .i64 3, V.bool false]]] fun r_7 =>
  d32 r_7 fun r12_0_3 r12_1_3 =>
  pcK cfgB 12 [V.sl [V.int .i64 5, V.int .i64 3], V.sl [V.agg [V.int .i64 5, V.int .i64 1024, V.bool false]]] fun r_8 =>
  d32 r_8 fun r12_0_4 r12_1_4 =>
  pcK cfgB 14 [V.sl r8_0] fun r_9 =>
  kF 59 r_9 fun r14 =>
  pcK cfgB 15 [V.sl r14, V.sl [V.agg [V.int .i64 5, V.int .i64 3, V.bool true], V.agg [V.int .i64 5, V.int .i64 4, V.bool true]]] fun r_10 =>
  kB r_10 fun r15 =>
  cond r15
 (cond (r8_1 == (0 : Int))
 (pcK cfgB 14 [V.sl r10_0] fun r_11 =>
  kF 59 r_11 fun r14_1 =>
  pcK cfgB 15 [V.sl r14_1, V.sl [V.agg [V.int .i64 5, V.int .i64 4, V.bool false], V.agg [V.int .i64 3, V.int .i64 5, V.bool false]]] fun r_12 =>
  kB r_12 fun r15_1 =>
  cond r15_1
 (cond (r10_1 == (0 : Int))
 (cond (r8_1_1 == (1 : Int))
 (cond (r10_1_1 == (1 : Int))
 (pcK cfgB 16 [V.sl r12_0, V.sl [V.int .i64 3, V.int .i64 4, V.int .i64 5]] fun r_13 =>
  kB r_13 fun r16 =>
  cond r16
 (cond (r12_1 == (0 : Int))
 (pcK cfgB 16 [V.sl r12_0_1, V.sl [V.int .i64 4, V.int .i64 5]] fun r_14 =>
  kB r_14 fun r16_1 =>
  cond r16_1
 (cond (r12_1_1 == (0 : Int))
 (cond (r12_1_2 == (7 : Int))
 (cond (r12_1_3 == (8 : Int))
 (cond (r12_1_4 == (1 : Int))
 (pcK cfgB 17 [V.sl [V.int .i64 5, V.int .i64 3, V.int .i64 4]] fun r_15 =>
  kI .i64 r_15 fun r17 =>
  cond (r17 == (1 : Int))
 (pcK cfgB 17 [V.sl [V.int .i64 3, V.int .i64 5, V.int .i64 4]] fun r_16 =>
  kI .i64 r_16 fun r17_1 =>
  cond (r17_1 == (2 : Int))
 (pcK cfgB 19 [V.sl [V.int .i64 5, V.int .i64 3, V.int .i64 4]] fun r_17 =>
  kI .i64 r_17 fun r19 =>
  some (.done (V.bool (r19 == (1 : Int)))))
 (some (.done (V.bool false))))
 (some (.done (V.bool false))))
 (some (.done (V.bool false))))
 (some (.done (V.bool false))))
 (some (.done (V.bool false))))
 (some (.done (V.bool false))))
 (some (.done (V.bool false))))
 (some (.done (V.bool false))))
 (some (.done (V.bool false))))
 (some (.done (V.bool false))))
 (some (.done (V.bool false))))
 (some (.done (V.bool false))))
 (some (.done (V.bool false))))
 (some (.done (V.bool false))))
 (some (.done (V.bool false)))
theorem e21_eq  : enterK kcC false fa21 [] [] = e21  := by kernel_rfl
theorem e21_run  {o : Out} {v : V} (h : e21  = some o) (hg : Go kcC false 0 fa21 o (.done v)) : pcW cfgB 21 [] = some v := pcW_go ikC rfl fa21_eq ((e21_eq ).trans h) hg
theorem e21_done  {v : V} (h : e21  = some (.done v)) : pcW cfgB 21 [] = some v := e21_run  h (.refl _)
/-! ### budwood/budwoodlaw16.MovesTell -/
noncomputable def fa3 : FA := ⟨3, 112, [.tmp 6], [4],
 (.seq
 (.ops false [o1 6 (.assign (.const (.bool false))) 4])
 (.seq
 (.ops false [mv 20 0 22, mv 21 0 22, o1 22 (.call ⟨(.builtin .len), #[(t' 21)], #[22]⟩) 3, o1 23 (.call ⟨(.builtin .min), #[(t' 22), (.const (.int .i64 (60)))], #[3, 3]⟩) 3, o1 24 (.slice 22 (t' 20) none (some (t' 23)) none) 22, asg 7 24 22])
 (.seq
 (.ops false [mv 25 2 23, mv 26 2 23, o1 27 (.call ⟨(.builtin .len), #[(t' 26)], #[23]⟩) 3, o1 28 (.call ⟨(.builtin .min), #[(t' 27), (.const (.int .i64 (60)))], #[3, 3]⟩) 3, o1 29 (.slice 23 (t' 25) none (some (t' 28)) none) 23, asg 2 29 23])
 (.seq
 (.ops false [mv 31 7 22, o1 32 (.call ⟨(.value (.func 8)), #[(t' 31)], #[22]⟩) 25, mv 30 32 25, o1 33 (.extract (t' 30) 0) 23, o1 34 (.extract (t' 30) 1) 24, asg 8 33 23, asg 9 34 24])
 (.seq
 (.ops false [mv 36 7 22, o1 37 (.call ⟨(.value (.func 9)), #[(t' 36)], #[22]⟩) 28, mv 35 37 28, o1 38 (.extract (t' 35) 0) 27, o1 39 (.extract (t' 35) 1) 24, asg 10 38 27, asg 11 39 24])
 (.seq
 (.ops false [mv 41 7 22, mv 42 1 3, o1 43 (.call ⟨(.value (.func 10)), #[(t' 41), (t' 42)], #[22, 3]⟩) 25, mv 40 43 25, o1 44 (.extract (t' 40) 0) 23, o1 45 (.extract (t' 40) 1) 24, asg 12 44 23, asg 13 45 24])
 (.seq
 (.ops false [mv 47 7 22, mv 48 1 3, o1 49 (.call ⟨(.value (.func 11)), #[(t' 47), (t' 48)], #[22, 3]⟩) 28, mv 46 49 28, o1 50 (.extract (t' 46) 0) 27, o1 51 (.extract (t' 46) 1) 24, asg 14 50 27, asg 15 51 24])
 (.seq
 (.ops false [mv 53 7 22, mv 54 2 23, o1 55 (.call ⟨(.value (.func 12)), #[(t' 53), (t' 54)], #[22, 23]⟩) 32, mv 52 55 32, o1 56 (.extract (t' 52) 0) 22, o1 57 (.extract (t' 52) 1) 24, asg 16 56 22, asg 17 57 24])
 (.seq
 (.ops false [mv 59 7 22, mv 60 2 23, o1 61 (.call ⟨(.value (.func 14)), #[(t' 60)], #[23]⟩) 27, o1 62 (.call ⟨(.value (.func 13)), #[(t' 59), (t' 61)], #[22, 27]⟩) 32, mv 58 62 32, o1 63 (.extract (t' 58) 0) 22, o1 64 (.extract (t' 58) 1) 24, asg 18 63 22, asg 19 64 24])
 (.seq
 (.ops false [mv 65 8 23, o1 66 (.call ⟨(.value (.func 14)), #[(t' 65)], #[23]⟩) 27, mv 67 10 27, o1 68 (.call ⟨(.value (.func 15)), #[(t' 66), (t' 67)], #[27, 27]⟩) 4, mv 69 68 4, o2 70 (.move (t' 9)) 24 69 true, o2 71 (.move (t' 11)) 24 69 true, o2 72 (.binOp .eql 24 (t' 70) (t' 71) 24) 4 69 true, o1 73 (.pick (t' 69) (t' 72) (.const (.bool false))) 4, mv 74 73 4, o2 75 (.move (t' 12)) 23 74 true, o2 76 (.call ⟨(.value (.func 14)), #[(t' 75)], #[23]⟩) 27 74 true, o2 77 (.move (t' 14)) 27 74 true, o2 78 (.call ⟨(.value (.func 15)), #[(t' 76), (t' 77)], #[27, 27]⟩) 4 74 true, o1 79 (.pick (t' 74) (t' 78) (.const (.bool false))) 4, mv 80 79 4, o2 81 (.move (t' 13)) 24 80 true, o2 82 (.move (t' 15)) 24 80 true, o2 83 (.binOp .eql 24 (t' 81) (t' 82) 24) 4 80 true, o1 84 (.pick (t' 80) (t' 83) (.const (.bool false))) 4, mv 85 84 4, o2 86 (.move (t' 16)) 22 85 true, o2 87 (.move (t' 18)) 22 85 true, o2 88 (.call ⟨(.value (.func 16)), #[(t' 86), (t' 87)], #[22, 22]⟩) 4 85 true, o1 89 (.pick (t' 85) (t' 88) (.const (.bool false))) 4, mv 90 89 4, o2 91 (.move (t' 17)) 24 90 true, o2 92 (.move (t' 19)) 24 90 true, o2 93 (.binOp .eql 24 (t' 91) (t' 92) 24) 4 90 true, o1 94 (.pick (t' 90) (t' 93) (.const (.bool false))) 4, mv 95 94 4, o2 96 (.move (t' 7)) 22 95 true, o2 97 (.call ⟨(.value (.func 17)), #[(t' 96)], #[22]⟩) 3 95 true, o2 98 (.move (t' 7)) 22 95 true, o2 99 (.call ⟨(.value (.func 18)), #[(t' 98)], #[22]⟩) 3 95 true, o2 100 (.binOp .eql 3 (t' 97) (t' 99) 3) 4 95 true, o1 101 (.pick (t' 95) (t' 100) (.const (.bool false))) 4, mv 102 101 4, o2 103 (.move (t' 7)) 22 102 true, o2 104 (.call ⟨(.value (.func 19)), #[(t' 103)], #[22]⟩) 3 102 true, o2 105 (.move (t' 7)) 22 102 true, o2 106 (.call ⟨(.value (.func 20)), #[(t' 105)], #[22]⟩) 3 102 true, o2 107 (.binOp .eql 3 (t' 104) (t' 106) 3) 4 102 true, o1 108 (.pick (t' 102) (t' 107) (.const (.bool false))) 4, mv 109 108 4, o2 110 (.call ⟨(.value (.func 21)), #[], #[]⟩) 4 109 true, o1 111 (.pick (t' 109) (t' 110) (.const (.bool false))) 4, asg 6 111 4])
 (.ret)))))))))))⟩
theorem fa3_eq : fnA cfgB.P (cfgB.rxf 3) 3 = some fa3 := by kernel_rfl
noncomputable def e3 (a0 : List V) (a1 : Int) (a2 : List V) : R :=
  gd (wfl 1 a0) <|
  gd (decide (0 ≤ (if 60 < (a0.length : Int) then 60 else (a0.length : Int)))) <|
  gd (decide ((if 60 < (a0.length : Int) then 60 else (a0.length : Int)).toNat ≤ a0.length)) <|
  gd (wfl 3 a2) <|
  gd (decide (0 ≤ (if 60 < (a2.length : Int) then 60 else (a2.length : Int)))) <|
  gd (decide ((if 60 < (a2.length : Int) then 60 else (a2.length : Int)).toNat ≤ a2.length)) <|
  pcK cfgB 8 [V.sl (a0.take ((if 60 < (a0.length : Int) then 60 else (a0.length : Int)).toNat))] fun r =>
  d25 r fun r8_0 r8_1 =>
  pcK cfgB 9 [V.sl (a0.take ((if 60 < (a0.length : Int) then 60 else (a0.length : Int)).toNat))] fun r_1 =>
  d28 r_1 fun r9_0 r9_1 =>
  pcK cfgB 10 [V.sl (a0.take ((if 60 < (a0.length : Int) then 60 else (a0.length : Int)).toNat)), V.int .i64 a1] fun r_2 =>
  d25 r_2 fun r10_0 r10_1 =>
  pcK cfgB 11 [V.sl (a0.take ((if 60 < (a0.length : Int) then 60 else (a0.length : Int)).toNat)), V.int .i64 a1] fun r_3 =>
  d28 r_3 fun r11_0 r11_1 =>
  pcK cfgB 12 [V.sl (a0.take ((if 60 < (a0.length : Int) then 60 else (a0.length : Int)).toNat)), V.sl (a2.take ((if 60 < (a2.length : Int) then 60 else (a2.length : Int)).toNat))] fun r_4 =>
  d32 r_4 fun r12_0 r12_1 =>
  pcK cfgB 14 [V.sl (a2.take ((if 60 < (a2.length : Int) then 60 else (a2.length : Int)).toNat))] fun r_5 =>
  kF 59 r_5 fun r14 =>
  pcK cfgB 13 [V.sl (a0.take ((if 60 < (a0.length : Int) then 60 else (a0.length : Int)).toNat)), V.sl r14] fun r_6 =>
  d32 r_6 fun r13_0 r13_1 =>
  pcK cfgB 14 [V.sl r8_0] fun r_7 =>
  kF 59 r_7 fun r14_1 =>
  pcK cfgB 15 [V.sl r14_1, V.sl r9_0] fun r_8 =>
  kB r_8 fun r15 =>
  cond r15
 (cond (r8_1 == r9_1)
 (pcK cfgB 14 [V.sl r10_0] fun r_9 =>
  kF 59 r_9 fun r14_2 =>
  pcK cfgB 15 [V.sl r14_2, V.sl r11_0] fun r_10 =>
  kB r_10 fun r15_1 =>
  cond r15_1
 (cond (r10_1 == r11_1)
 (pcK cfgB 16 [V.sl r12_0, V.sl r13_0] fun r_11 =>
  kB r_11 fun r16 =>
  cond r16
 (cond (r12_1 == r13_1)
 (pcK cfgB 17 [V.sl (a0.take ((if 60 < (a0.length : Int) then 60 else (a0.length : Int)).toNat))] fun r_12 =>
  kI .i64 r_12 fun r17 =>
  pcK cfgB 18 [V.sl (a0.take ((if 60 < (a0.length : Int) then 60 else (a0.length : Int)).toNat))] fun r_13 =>
  kI .i64 r_13 fun r18 =>
  cond (r17 == r18)
 (pcK cfgB 19 [V.sl (a0.take ((if 60 < (a0.length : Int) then 60 else (a0.length : Int)).toNat))] fun r_14 =>
  kI .i64 r_14 fun r19 =>
  pcK cfgB 20 [V.sl (a0.take ((if 60 < (a0.length : Int) then 60 else (a0.length : Int)).toNat))] fun r_15 =>
  kI .i64 r_15 fun r20 =>
  cond (r19 == r20)
 (pcK cfgB 21 [] fun r_16 =>
  kB r_16 fun r21 =>
  some (.done (V.bool r21)))
 (some (.done (V.bool false))))
 (some (.done (V.bool false))))
 (some (.done (V.bool false))))
 (some (.done (V.bool false))))
 (some (.done (V.bool false))))
 (some (.done (V.bool false))))
 (some (.done (V.bool false))))
 (some (.done (V.bool false)))
theorem e3_eq (a0 : List V) (a1 : Int) (a2 : List V) : enterK kcC false fa3 [V.sl a0, V.int .i64 a1, V.sl a2] [] = e3 a0 a1 a2 := by kernel_rfl
theorem e3_run (a0 : List V) (a1 : Int) (a2 : List V) {o : Out} {v : V} (h : e3 a0 a1 a2 = some o) (hg : Go kcC false 0 fa3 o (.done v)) : pcW cfgB 3 [V.sl a0, V.int .i64 a1, V.sl a2] = some v := pcW_go ikC rfl fa3_eq ((e3_eq a0 a1 a2).trans h) hg
theorem e3_done (a0 : List V) (a1 : Int) (a2 : List V) {v : V} (h : e3 a0 a1 a2 = some (.done v)) : pcW cfgB 3 [V.sl a0, V.int .i64 a1, V.sl a2] = some v := e3_run a0 a1 a2 h (.refl _)
/-! ### budwood/budwoodlaw16.MovesSort -/
noncomputable def fa4 : FA := ⟨1, 102, [.tmp 2], [4],
 (.seq
 (.ops false [o1 2 (.assign (.const (.bool false))) 4])
 (.seq
 (.ops false [mv 11 0 22, mv 12 0 22, o1 13 (.call ⟨(.builtin .len), #[(t' 12)], #[22]⟩) 3, o1 14 (.call ⟨(.builtin .min), #[(t' 13), (.const (.int .i64 (60)))], #[3, 3]⟩) 3, o1 15 (.slice 22 (t' 11) none (some (t' 14)) none) 22, asg 3 15 22])
 (.seq
 (.ops false [mv 17 3 22, o1 18 (.call ⟨(.value (.func 8)), #[(t' 17)], #[22]⟩) 25, mv 16 18 25, o1 19 (.extract (t' 16) 0) 23, o1 20 (.extract (t' 16) 1) 24, asg 4 19 23, asg 5 20 24])
 (.seq
 (.seq
 (.ops false [mv 21 5 24, o1 22 (.binOp .neq 24 (t' 21) (.const (.int .i64 (0))) 24) 4])
 (.cond (t' 22)
 (.seq
 (.ops false [mv 23 4 23, o1 24 (.call ⟨(.builtin .len), #[(t' 23)], #[23]⟩) 3, o1 25 (.binOp .eql 3 (t' 24) (.const (.int .i64 (0))) 3) 4, mv 26 25 4, o2 27 (.move (t' 3)) 22 26 true, o2 28 (.call ⟨(.value (.func 17)), #[(t' 27)], #[22]⟩) 3 26 true, o2 29 (.binOp .eql 3 (t' 28) (.const (.int .i64 (0))) 3) 4 26 true, o1 30 (.pick (t' 26) (t' 29) (.const (.bool false))) 4, mv 31 30 4, o2 32 (.call ⟨(.value (.func 21)), #[], #[]⟩) 4 31 true, o1 33 (.pick (t' 31) (t' 32) (.const (.bool false))) 4, asg 2 33 4])
 (.ret))
 (.skip)))
 (.seq
 (.ops false [mv 35 3 22, mv 36 4 23, o1 37 (.call ⟨(.value (.func 12)), #[(t' 35), (t' 36)], #[22, 23]⟩) 32, mv 34 37 32, o1 38 (.extract (t' 34) 0) 22, o1 39 (.extract (t' 34) 1) 24, asg 6 38 22, asg 7 39 24])
 (.seq
 (.seq
 (.ops false [mv 40 7 24, o1 41 (.binOp .neq 24 (t' 40) (.const (.int .i64 (0))) 24) 4, mv 42 41 4, o2 43 (.move (t' 6)) 22 42 false, o2 44 (.call ⟨(.builtin .len), #[(t' 43)], #[22]⟩) 3 42 false, o2 45 (.move (t' 3)) 22 42 false, o2 46 (.call ⟨(.builtin .len), #[(t' 45)], #[22]⟩) 3 42 false, o2 47 (.binOp .neq 3 (t' 44) (t' 46) 3) 4 42 false, o1 48 (.pick (t' 42) (.const (.bool true)) (t' 47)) 4, mv 49 48 4, o2 50 (.move (t' 4)) 23 49 false, o2 51 (.call ⟨(.builtin .len), #[(t' 50)], #[23]⟩) 3 49 false, o2 52 (.move (t' 3)) 22 49 false, o2 53 (.call ⟨(.builtin .len), #[(t' 52)], #[22]⟩) 3 49 false, o2 54 (.move (t' 3)) 22 49 false, o2 55 (.call ⟨(.value (.func 17)), #[(t' 54)], #[22]⟩) 3 49 false, o2 56 (.binOp .sub 3 (t' 53) (t' 55) 3) 3 49 false, o2 57 (.binOp .neq 3 (t' 51) (t' 56) 3) 4 49 false, o1 58 (.pick (t' 49) (.const (.bool true)) (t' 57)) 4])
 (.cond (t' 58)
 (.seq
 (.ops false [o1 2 (.assign (.const (.bool false))) 4])
 (.ret))
 (.skip)))
 (.seq
 (.seq
 (.ops false [o1 8 (.assign (.const (.int .i64 (0)))) 3])
 (.block 0
 (.loop ([0, 1, 4, 5, 7] ++ List.range' 9 93)
 (.seq
 (.seq
 (.ops false [mv 59 8 3, mv 60 6 22, o1 61 (.call ⟨(.builtin .len), #[(t' 60)], #[22]⟩) 3, o1 62 (.binOp .lss 3 (t' 59) (t' 61) 3) 4])
 (.cond (t' 62)
 (.skip)
 (.exit 0)))
 (.seq
 (.block 1
 (.seq
 (.ops false [o1 9 (.assign (.const (.bool false))) 4])
 (.seq
 (.seq
 (.ops false [o1 10 (.assign (.const (.int .i64 (0)))) 3])
 (.block 2
 (.loop ([0, 1, 4, 5, 7] ++ List.range' 11 91)
 (.seq
 (.seq
 (.ops false [mv 65 10 3, mv 66 3 22, o1 67 (.call ⟨(.builtin .len), #[(t' 66)], #[22]⟩) 3, o1 68 (.binOp .lss 3 (t' 65) (t' 67) 3) 4])
 (.cond (t' 68)
 (.skip)
 (.exit 2)))
 (.seq
 (.block 3
 (.ops true [mv 71 9 4, mv 72 71 4, o2 73 (.move (t' 3)) 22 72 false, o2 74 (.move (t' 10)) 3 72 false, o2 75 (.indexAddr 22 (t' 73) (t' 74)) 0 72 false, o2 76 (.load 3 (t' 75)) 3 72 false, o2 77 (.move (t' 6)) 22 72 false, o2 78 (.move (t' 8)) 3 72 false, o2 79 (.indexAddr 22 (t' 77) (t' 78)) 0 72 false, o2 80 (.load 3 (t' 79)) 3 72 false, o2 81 (.binOp .eql 3 (t' 76) (t' 80) 3) 4 72 false, o1 82 (.pick (t' 72) (.const (.bool true)) (t' 81)) 4, asg 9 82 4]))
 (.ops false [mv 69 10 3, o1 70 (.binOp .add 3 (t' 69) (.const (.int .i64 (1))) 3) 3, asg 10 70 3]))))))
 (.seq
 (.ops true [mv 83 9 4, o1 84 (.unOp .not 4 (t' 83)) 4, mv 85 84 4, o2 86 (.move (t' 8)) 3 85 false, o2 87 (.binOp .gtr 3 (t' 86) (.const (.int .i64 (0))) 3) 4 85 false, o2 88 (.move (t' 87)) 4 85 false, o2 89 (.move (t' 6)) 22 88 true, o2 90 (.move (t' 8)) 3 88 true, o2 91 (.binOp .sub 3 (t' 90) (.const (.int .i64 (1))) 3) 3 88 true, o2 92 (.indexAddr 22 (t' 89) (t' 91)) 0 88 true, o2 93 (.load 3 (t' 92)) 3 88 true, o2 94 (.move (t' 6)) 22 88 true, o2 95 (.move (t' 8)) 3 88 true, o2 96 (.indexAddr 22 (t' 94) (t' 95)) 0 88 true, o2 97 (.load 3 (t' 96)) 3 88 true, o2 98 (.binOp .geq 3 (t' 93) (t' 97) 3) 4 88 true, o2 99 (.pick (t' 88) (t' 98) (.const (.bool false))) 4 85 false, o1 100 (.pick (t' 85) (.const (.bool true)) (t' 99)) 4])
 (.cond (t' 100)
 (.seq
 (.ops false [o1 2 (.assign (.const (.bool false))) 4])
 (.ret))
 (.skip))))))
 (.ops false [mv 63 8 3, o1 64 (.binOp .add 3 (t' 63) (.const (.int .i64 (1))) 3) 3, asg 8 64 3]))))))
 (.seq
 (.ops false [o1 101 (.call ⟨(.value (.func 21)), #[], #[]⟩) 4, asg 2 101 4])
 (.ret)))))))))⟩
theorem fa4_eq : fnA cfgB.P (cfgB.rxf 4) 4 = some fa4 := by kernel_rfl
def T4_0 (x3 : List V) (x6 : List V) (x8 : Int) : S := ⟨[V.junk, V.junk, V.bool false, V.sl x3, V.junk, V.junk, V.sl x6, V.junk, V.int .i64 x8] ++ (JU 93), []⟩
def T4_1 (x3 : List V) (x6 : List V) (x8 : Int) (x9 : Bool) (x10 : Int) : S := ⟨[V.junk, V.junk, V.bool false, V.sl x3, V.junk, V.junk, V.sl x6, V.junk, V.int .i64 x8, V.bool x9, V.int .i64 x10] ++ (JU 91), []⟩
noncomputable def e4 (a0 : List V) : R :=
  gd (wfl 1 a0) <|
  gd (decide (0 ≤ (if 60 < (a0.length : Int) then 60 else (a0.length : Int)))) <|
  gd (decide ((if 60 < (a0.length : Int) then 60 else (a0.length : Int)).toNat ≤ a0.length)) <|
  pcK cfgB 8 [V.sl (a0.take ((if 60 < (a0.length : Int) then 60 else (a0.length : Int)).toNat))] fun r =>
  d25 r fun r8_0 r8_1 =>
  cond (r8_1 != (0 : Int))
 (cond ((r8_0.length : Int) == (0 : Int))
 (pcK cfgB 17 [V.sl (a0.take ((if 60 < (a0.length : Int) then 60 else (a0.length : Int)).toNat))] fun r_1 =>
  kI .i64 r_1 fun r17 =>
  cond (r17 == (0 : Int))
 (pcK cfgB 21 [] fun r_2 =>
  kB r_2 fun r21 =>
  some (.done (V.bool r21)))
 (some (.done (V.bool false))))
 (some (.done (V.bool false))))
 (pcK cfgB 12 [V.sl (a0.take ((if 60 < (a0.length : Int) then 60 else (a0.length : Int)).toNat)), V.sl r8_0] fun r_3 =>
  d32 r_3 fun r12_0 r12_1 =>
  cond (r12_1 != (0 : Int))
 (some (.done (V.bool false)))
 (cond ((r12_0.length : Int) != ((a0.take ((if 60 < (a0.length : Int) then 60 else (a0.length : Int)).toNat)).length : Int))
 (some (.done (V.bool false)))
 (pcK cfgB 17 [V.sl (a0.take ((if 60 < (a0.length : Int) then 60 else (a0.length : Int)).toNat))] fun r_4 =>
  kI .i64 r_4 fun r17_1 =>
  cond ((r8_0.length : Int) != (W .i64 (((a0.take ((if 60 < (a0.length : Int) then 60 else (a0.length : Int)).toNat)).length : Int) - r17_1)))
 (some (.done (V.bool false)))
 (some (.head 0 (T4_0 (a0.take ((if 60 < (a0.length : Int) then 60 else (a0.length : Int)).toNat)) r12_0 0))))))
theorem e4_eq (a0 : List V) : enterK kcC false fa4 [V.sl a0] [] = e4 a0 := by kernel_rfl
theorem e4_run (a0 : List V) {o : Out} {v : V} (h : e4 a0 = some o) (hg : Go kcC false 0 fa4 o (.done v)) : pcW cfgB 4 [V.sl a0] = some v := pcW_go ikC rfl fa4_eq ((e4_eq a0).trans h) hg
noncomputable def s4_0 (x3 : List V) (x6 : List V) (x8 : Int) : R :=
  cond (decide (x8 < (x6.length : Int)))
 (some (.head 1 (T4_1 x3 x6 x8 false 0)))
 (pcK cfgB 21 [] fun r =>
  kB r fun r21 =>
  some (.done (V.bool r21)))
theorem s4_0_eq (x3 : List V) (x6 : List V) (x8 : Int) : goK kcC false 0 fa4 0 (T4_0 x3 x6 x8) = s4_0 x3 x6 x8 := by kernel_rfl
theorem s4_0_run (x3 : List V) (x6 : List V) (x8 : Int) {o o' : Out} (h : s4_0 x3 x6 x8 = some o) (hg : Go kcC false 0 fa4 o o') : Go kcC false 0 fa4 (.head 0 (T4_0 x3 x6 x8)) o' := .step ((s4_0_eq x3 x6 x8).trans h) hg
noncomputable def s4_1 (x3 : List V) (x6 : List V) (x8 : Int) (x9 : Bool) (x10 : Int) : R :=
  cond (decide (x10 < (x3.length : Int)))
 (cond x9
 (some (.head 1 (T4_1 x3 x6 x8 true (W .i64 (x10 + 1)))))
 (gd (decide (0 ≤ x10)) <|
  idxK x3 x10.toNat fun v =>
  kI .i64 v fun n =>
  gd (decide (0 ≤ x8)) <|
  idxK x6 x8.toNat fun v_1 =>
  kI .i64 v_1 fun n_1 =>
  some (.head 1 (T4_1 x3 x6 x8 (n == n_1) (W .i64 (x10 + 1))))))
 (cond (!x9)
 (some (.done (V.bool false)))
 (cond (decide (x8 > 0))
 (gd (decide (0 ≤ W .i64 (x8 - 1))) <|
  idxK x6 ((W .i64 (x8 - 1)).toNat) fun v_2 =>
  kI .i64 v_2 fun n_2 =>
  gd (decide (0 ≤ x8)) <|
  idxK x6 x8.toNat fun v_3 =>
  kI .i64 v_3 fun n_3 =>
  cond (decide (n_2 ≥ n_3))
 (some (.done (V.bool false)))
 (some (.head 0 (T4_0 x3 x6 (W .i64 (x8 + 1))))))
 (some (.head 0 (T4_0 x3 x6 (W .i64 (x8 + 1)))))))
theorem s4_1_eq (x3 : List V) (x6 : List V) (x8 : Int) (x9 : Bool) (x10 : Int) : goK kcC false 0 fa4 1 (T4_1 x3 x6 x8 x9 x10) = s4_1 x3 x6 x8 x9 x10 := by kernel_rfl
theorem s4_1_run (x3 : List V) (x6 : List V) (x8 : Int) (x9 : Bool) (x10 : Int) {o o' : Out} (h : s4_1 x3 x6 x8 x9 x10 = some o) (hg : Go kcC false 0 fa4 o o') : Go kcC false 0 fa4 (.head 1 (T4_1 x3 x6 x8 x9 x10)) o' := .step ((s4_1_eq x3 x6 x8 x9 x10).trans h) hg
/-! ### budwood/budwoodlaw16.MovesInto -/
noncomputable def fa5 : FA := ⟨2, 89, [.tmp 4], [4],
 (.seq
 (.ops false [o1 4 (.assign (.const (.bool false))) 4])
 (.seq
 (.ops false [mv 13 0 22, mv 14 0 22, o1 15 (.call ⟨(.builtin .len), #[(t' 14)], #[22]⟩) 3, o1 16 (.call ⟨(.builtin .min), #[(t' 15), (.const (.int .i64 (60)))], #[3, 3]⟩) 3, o1 17 (.slice 22 (t' 13) none (some (t' 16)) none) 22, asg 5 17 22])
 (.seq
 (.ops false [mv 19 5 22, mv 20 1 3, o1 21 (.call ⟨(.value (.func 10)), #[(t' 19), (t' 20)], #[22, 3]⟩) 25, mv 18 21 25, o1 22 (.extract (t' 18) 0) 23, o1 23 (.extract (t' 18) 1) 24, asg 6 22 23, asg 7 23 24])
 (.seq
 (.seq
 (.ops false [mv 24 7 24, o1 25 (.binOp .neq 24 (t' 24) (.const (.int .i64 (0))) 24) 4])
 (.cond (t' 25)
 (.seq
 (.ops false [mv 26 6 23, o1 27 (.call ⟨(.builtin .len), #[(t' 26)], #[23]⟩) 3, o1 28 (.binOp .eql 3 (t' 27) (.const (.int .i64 (0))) 3) 4, mv 29 28 4, o2 30 (.call ⟨(.value (.func 21)), #[], #[]⟩) 4 29 true, o1 31 (.pick (t' 29) (t' 30) (.const (.bool false))) 4, asg 4 31 4])
 (.ret))
 (.skip)))
 (.seq
 (.ops false [mv 33 5 22, mv 34 6 23, o1 35 (.call ⟨(.value (.func 12)), #[(t' 33), (t' 34)], #[22, 23]⟩) 32, mv 32 35 32, o1 36 (.extract (t' 32) 0) 22, o1 37 (.extract (t' 32) 1) 24, asg 8 36 22, asg 9 37 24])
 (.seq
 (.seq
 (.ops false [mv 38 9 24, o1 39 (.binOp .neq 24 (t' 38) (.const (.int .i64 (0))) 24) 4, mv 40 39 4, o2 41 (.move (t' 8)) 22 40 false, o2 42 (.call ⟨(.builtin .len), #[(t' 41)], #[22]⟩) 3 40 false, o2 43 (.move (t' 5)) 22 40 false, o2 44 (.call ⟨(.builtin .len), #[(t' 43)], #[22]⟩) 3 40 false, o2 45 (.binOp .neq 3 (t' 42) (t' 44) 3) 4 40 false, o1 46 (.pick (t' 40) (.const (.bool true)) (t' 45)) 4, mv 47 46 4, o2 48 (.move (t' 6)) 23 47 false, o2 49 (.call ⟨(.builtin .len), #[(t' 48)], #[23]⟩) 3 47 false, o2 50 (.move (t' 5)) 22 47 false, o2 51 (.call ⟨(.builtin .len), #[(t' 50)], #[22]⟩) 3 47 false, o2 52 (.binOp .gtr 3 (t' 49) (t' 51) 3) 4 47 false, o1 53 (.pick (t' 47) (.const (.bool true)) (t' 52)) 4, mv 54 53 4, o2 55 (.move (t' 8)) 22 54 false, o2 56 (.call ⟨(.value (.func 19)), #[(t' 55)], #[22]⟩) 3 54 false, o2 57 (.binOp .neq 3 (t' 56) (.const (.int .i64 (0))) 3) 4 54 false, o1 58 (.pick (t' 54) (.const (.bool true)) (t' 57)) 4])
 (.cond (t' 58)
 (.seq
 (.ops false [o1 4 (.assign (.const (.bool false))) 4])
 (.ret))
 (.skip)))
 (.seq
 (.seq
 (.ops false [o1 10 (.assign (.const (.int .i64 (0)))) 3])
 (.block 0
 (.loop ([0, 2, 3, 5, 6, 7, 9] ++ List.range' 11 78)
 (.seq
 (.seq
 (.ops false [mv 59 10 3, mv 60 8 22, o1 61 (.call ⟨(.builtin .len), #[(t' 60)], #[22]⟩) 3, o1 62 (.binOp .lss 3 (t' 59) (t' 61) 3) 4])
 (.cond (t' 62)
 (.skip)
 (.exit 0)))
 (.seq
 (.block 1
 (.seq
 (.ops false [mv 65 8 22, mv 66 10 3, o1 67 (.indexAddr 22 (t' 65) (t' 66)) 0, o1 68 (.load 3 (t' 67)) 3, mv 69 1 3, mv 70 10 3, o1 71 (.binOp .add 3 (t' 69) (t' 70) 3) 3, o1 72 (.binOp .neq 3 (t' 68) (t' 71) 3) 4])
 (.cond (t' 72)
 (.seq
 (.ops false [o1 4 (.assign (.const (.bool false))) 4])
 (.ret))
 (.skip))))
 (.ops false [mv 63 10 3, o1 64 (.binOp .add 3 (t' 63) (.const (.int .i64 (1))) 3) 3, asg 10 64 3]))))))
 (.seq
 (.ops false [mv 74 8 22, mv 75 1 3, o1 76 (.call ⟨(.value (.func 10)), #[(t' 74), (t' 75)], #[22, 3]⟩) 25, mv 73 76 25, o1 77 (.extract (t' 73) 0) 23, o1 78 (.extract (t' 73) 1) 24, asg 11 77 23, asg 12 78 24])
 (.seq
 (.ops false [mv 79 12 24, o1 80 (.binOp .eql 24 (t' 79) (.const (.int .i64 (0))) 24) 4, mv 81 80 4, o2 82 (.move (t' 11)) 23 81 true, o2 83 (.call ⟨(.builtin .len), #[(t' 82)], #[23]⟩) 3 81 true, o2 84 (.binOp .eql 3 (t' 83) (.const (.int .i64 (0))) 3) 4 81 true, o1 85 (.pick (t' 81) (t' 84) (.const (.bool false))) 4, mv 86 85 4, o2 87 (.call ⟨(.value (.func 21)), #[], #[]⟩) 4 86 true, o1 88 (.pick (t' 86) (t' 87) (.const (.bool false))) 4, asg 4 88 4])
 (.ret))))))))))⟩
theorem fa5_eq : fnA cfgB.P (cfgB.rxf 5) 5 = some fa5 := by kernel_rfl
def T5_0 (x1 : Int) (x8 : List V) (x10 : Int) : S := ⟨[V.junk, V.int .i64 x1, V.junk, V.junk, V.bool false, V.junk, V.junk, V.junk, V.sl x8, V.junk, V.int .i64 x10] ++ (JU 78), []⟩
noncomputable def e5 (a0 : List V) (a1 : Int) : R :=
  gd (wfl 1 a0) <|
  gd (decide (0 ≤ (if 60 < (a0.length : Int) then 60 else (a0.length : Int)))) <|
  gd (decide ((if 60 < (a0.length : Int) then 60 else (a0.length : Int)).toNat ≤ a0.length)) <|
  pcK cfgB 10 [V.sl (a0.take ((if 60 < (a0.length : Int) then 60 else (a0.length : Int)).toNat)), V.int .i64 a1] fun r =>
  d25 r fun r10_0 r10_1 =>
  cond (r10_1 != (0 : Int))
 (cond ((r10_0.length : Int) == (0 : Int))
 (pcK cfgB 21 [] fun r_1 =>
  kB r_1 fun r21 =>
  some (.done (V.bool r21)))
 (some (.done (V.bool false))))
 (pcK cfgB 12 [V.sl (a0.take ((if 60 < (a0.length : Int) then 60 else (a0.length : Int)).toNat)), V.sl r10_0] fun r_2 =>
  d32 r_2 fun r12_0 r12_1 =>
  cond (r12_1 != (0 : Int))
 (some (.done (V.bool false)))
 (cond ((r12_0.length : Int) != ((a0.take ((if 60 < (a0.length : Int) then 60 else (a0.length : Int)).toNat)).length : Int))
 (some (.done (V.bool false)))
 (cond (decide ((r10_0.length : Int) > ((a0.take ((if 60 < (a0.length : Int) then 60 else (a0.length : Int)).toNat)).length : Int)))
 (some (.done (V.bool false)))
 (pcK cfgB 19 [V.sl r12_0] fun r_3 =>
  kI .i64 r_3 fun r19 =>
  cond (r19 != (0 : Int))
 (some (.done (V.bool false)))
 (some (.head 0 (T5_0 a1 r12_0 0)))))))
theorem e5_eq (a0 : List V) (a1 : Int) : enterK kcC false fa5 [V.sl a0, V.int .i64 a1] [] = e5 a0 a1 := by kernel_rfl
theorem e5_run (a0 : List V) (a1 : Int) {o : Out} {v : V} (h : e5 a0 a1 = some o) (hg : Go kcC false 0 fa5 o (.done v)) : pcW cfgB 5 [V.sl a0, V.int .i64 a1] = some v := pcW_go ikC rfl fa5_eq ((e5_eq a0 a1).trans h) hg
noncomputable def s5_0 (x1 : Int) (x8 : List V) (x10 : Int) : R :=
  cond (decide (x10 < (x8.length : Int)))
 (gd (decide (0 ≤ x10)) <|
  idxK x8 x10.toNat fun v =>
  kI .i64 v fun n =>
  cond (n != (W .i64 (x1 + x10)))
 (some (.done (V.bool false)))
 (some (.head 0 (T5_0 x1 x8 (W .i64 (x10 + 1))))))
 (pcK cfgB 10 [V.sl x8, V.int .i64 x1] fun r =>
  d25 r fun r10_0 r10_1 =>
  cond (r10_1 == (0 : Int))
 (cond ((r10_0.length : Int) == (0 : Int))
 (pcK cfgB 21 [] fun r_1 =>
  kB r_1 fun r21 =>
  some (.done (V.bool r21)))
 (some (.done (V.bool false))))
 (some (.done (V.bool false))))
theorem s5_0_eq (x1 : Int) (x8 : List V) (x10 : Int) : goK kcC false 0 fa5 0 (T5_0 x1 x8 x10) = s5_0 x1 x8 x10 := by kernel_rfl
theorem s5_0_run (x1 : Int) (x8 : List V) (x10 : Int) {o o' : Out} (h : s5_0 x1 x8 x10 = some o) (hg : Go kcC false 0 fa5 o o') : Go kcC false 0 fa5 (.head 0 (T5_0 x1 x8 x10)) o' := .step ((s5_0_eq x1 x8 x10).trans h) hg
/-! ### budwood/budwoodlaw16.MovesBack -/
noncomputable def fa6 : FA := ⟨2, 83, [.tmp 4], [4],
 (.seq
 (.ops false [o1 4 (.assign (.const (.bool false))) 4])
 (.seq
 (.ops false [mv 12 0 22, mv 13 0 22, o1 14 (.call ⟨(.builtin .len), #[(t' 13)], #[22]⟩) 3, o1 15 (.call ⟨(.builtin .min), #[(t' 14), (.const (.int .i64 (60)))], #[3, 3]⟩) 3, o1 16 (.slice 22 (t' 12) none (some (t' 15)) none) 22, asg 5 16 22])
 (.seq
 (.ops false [mv 17 1 23, mv 18 1 23, o1 19 (.call ⟨(.builtin .len), #[(t' 18)], #[23]⟩) 3, o1 20 (.call ⟨(.builtin .min), #[(t' 19), (.const (.int .i64 (60)))], #[3, 3]⟩) 3, o1 21 (.slice 23 (t' 17) none (some (t' 20)) none) 23, asg 1 21 23])
 (.seq
 (.ops false [mv 23 5 22, mv 24 1 23, o1 25 (.call ⟨(.value (.func 12)), #[(t' 23), (t' 24)], #[22, 23]⟩) 32, mv 22 25 32, o1 26 (.extract (t' 22) 0) 22, o1 27 (.extract (t' 22) 1) 24, asg 6 26 22, asg 7 27 24])
 (.seq
 (.seq
 (.ops false [mv 28 7 24, o1 29 (.binOp .neq 24 (t' 28) (.const (.int .i64 (0))) 24) 4])
 (.cond (t' 29)
 (.seq
 (.ops false [mv 30 6 22, o1 31 (.call ⟨(.builtin .len), #[(t' 30)], #[22]⟩) 3, o1 32 (.binOp .eql 3 (t' 31) (.const (.int .i64 (0))) 3) 4, mv 33 32 4, o2 34 (.call ⟨(.value (.func 21)), #[], #[]⟩) 4 33 true, o1 35 (.pick (t' 33) (t' 34) (.const (.bool false))) 4, asg 4 35 4])
 (.ret))
 (.skip)))
 (.seq
 (.ops false [o1 36 (.buildSlice 23 0 #[]) 23, asg 8 36 23])
 (.seq
 (.seq
 (.ops false [mv 37 1 23, o1 38 (.call ⟨(.builtin .len), #[(t' 37)], #[23]⟩) 3, o1 39 (.binOp .sub 3 (t' 38) (.const (.int .i64 (1))) 3) 3, asg 9 39 3])
 (.block 0
 (.loop ([0, 2, 3, 7] ++ List.range' 10 73)
 (.seq
 (.seq
 (.ops false [mv 40 9 3, o1 41 (.binOp .geq 3 (t' 40) (.const (.int .i64 (0))) 3) 4])
 (.cond (t' 41)
 (.skip)
 (.exit 0)))
 (.seq
 (.block 1
 (.ops true [mv 44 8 23, mv 45 1 23, mv 46 9 3, o1 47 (.indexAddr 23 (t' 45) (t' 46)) 0, o1 48 (.fieldAddr 44 (t' 47) 1) 0, o1 49 (.load 3 (t' 48)) 3, mv 50 1 23, mv 51 9 3, o1 52 (.indexAddr 23 (t' 50) (t' 51)) 0, o1 53 (.fieldAddr 44 (t' 52) 0) 0, o1 54 (.load 3 (t' 53)) 3, mv 55 1 23, mv 56 9 3, o1 57 (.indexAddr 23 (t' 55) (t' 56)) 0, o1 58 (.fieldAddr 44 (t' 57) 2) 0, o1 59 (.load 4 (t' 58)) 4, o1 60 (.build 44 #[(0, (t' 49)), (1, (t' 54)), (2, (t' 59))]) 44, o1 61 (.buildSlice 23 1 #[(0, (t' 60))]) 23, o1 62 (.call ⟨(.builtin .append), #[(t' 44), (t' 61)], #[23, 23]⟩) 23, asg 8 62 23]))
 (.ops false [mv 42 9 3, o1 43 (.binOp .sub 3 (t' 42) (.const (.int .i64 (1))) 3) 3, asg 9 43 3]))))))
 (.seq
 (.ops false [mv 64 6 22, mv 65 8 23, o1 66 (.call ⟨(.value (.func 12)), #[(t' 64), (t' 65)], #[22, 23]⟩) 32, mv 63 66 32, o1 67 (.extract (t' 63) 0) 22, o1 68 (.extract (t' 63) 1) 24, asg 10 67 22, asg 11 68 24])
 (.seq
 (.ops false [mv 69 11 24, o1 70 (.binOp .eql 24 (t' 69) (.const (.int .i64 (0))) 24) 4, mv 71 70 4, o2 72 (.move (t' 10)) 22 71 true, o2 73 (.move (t' 5)) 22 71 true, o2 74 (.call ⟨(.value (.func 16)), #[(t' 72), (t' 73)], #[22, 22]⟩) 4 71 true, o1 75 (.pick (t' 71) (t' 74) (.const (.bool false))) 4, mv 76 75 4, o2 77 (.move (t' 6)) 22 76 true, o2 78 (.call ⟨(.value (.func 22)), #[(t' 77)], #[22]⟩) 4 76 true, o1 79 (.pick (t' 76) (t' 78) (.const (.bool false))) 4, mv 80 79 4, o2 81 (.call ⟨(.value (.func 21)), #[], #[]⟩) 4 80 true, o1 82 (.pick (t' 80) (t' 81) (.const (.bool false))) 4, asg 4 82 4])
 (.ret))))))))))⟩
theorem fa6_eq : fnA cfgB.P (cfgB.rxf 6) 6 = some fa6 := by kernel_rfl
def T6_0 (x1 : List V) (x5 : List V) (x6 : List V) (x9 : Int) (m0 : List V) : S := ⟨[V.junk, V.sl x1, V.junk, V.junk, V.bool false, V.sl x5, V.sl x6, V.junk, V.own 0, V.int .i64 x9] ++ (JU 73), [O.row 44 m0 0]⟩
noncomputable def e6 (a0 : List V) (a1 : List V) : R :=
  gd (wfl 1 a0) <|
  gd (decide (0 ≤ (if 60 < (a0.length : Int) then 60 else (a0.length : Int)))) <|
  gd (decide ((if 60 < (a0.length : Int) then 60 else (a0.length : Int)).toNat ≤ a0.length)) <|
  gd (wfl 3 a1) <|
  gd (decide (0 ≤ (if 60 < (a1.length : Int) then 60 else (a1.length : Int)))) <|
  gd (decide ((if 60 < (a1.length : Int) then 60 else (a1.length : Int)).toNat ≤ a1.length)) <|
  pcK cfgB 12 [V.sl (a0.take ((if 60 < (a0.length : Int) then 60 else (a0.length : Int)).toNat)), V.sl (a1.take ((if 60 < (a1.length : Int) then 60 else (a1.length : Int)).toNat))] fun r =>
  d32 r fun r12_0 r12_1 =>
  cond (r12_1 != (0 : Int))
 (cond ((r12_0.length : Int) == (0 : Int))
 (pcK cfgB 21 [] fun r_1 =>
  kB r_1 fun r21 =>
  some (.done (V.bool r21)))
 (some (.done (V.bool false))))
 (some (.head 0 (T6_0 (a1.take ((if 60 < (a1.length : Int) then 60 else (a1.length : Int)).toNat)) (a0.take ((if 60 < (a0.length : Int) then 60 else (a0.length : Int)).toNat)) r12_0 (W .i64 (((a1.take ((if 60 < (a1.length : Int) then 60 else (a1.length : Int)).toNat)).length : Int) - 1)) [])))
theorem e6_eq (a0 : List V) (a1 : List V) : enterK kcC false fa6 [V.sl a0, V.sl a1] [] = e6 a0 a1 := by kernel_rfl
theorem e6_run (a0 : List V) (a1 : List V) {o : Out} {v : V} (h : e6 a0 a1 = some o) (hg : Go kcC false 0 fa6 o (.done v)) : pcW cfgB 6 [V.sl a0, V.sl a1] = some v := pcW_go ikC rfl fa6_eq ((e6_eq a0 a1).trans h) hg
noncomputable def s6_0 (x1 : List V) (x5 : List V) (x6 : List V) (x9 : Int) (m0 : List V) : R :=
  cond (decide (x9 ≥ 0))
 (gd (decide (0 ≤ x9)) <|
  idxK x1 x9.toNat fun v =>
  d44 v fun from0 to0 swap0 =>
  gd (decide (0 ≤ x9)) <|
  idxK x1 x9.toNat fun v_1 =>
  d44 v_1 fun from0_1 to0_1 swap0_1 =>
  gd (decide (0 ≤ x9)) <|
  idxK x1 x9.toNat fun v_2 =>
  d44 v_2 fun from0_2 to0_2 swap0_2 =>
  gd (decide (m0.length + ([V.agg [V.int .i64 to0, V.int .i64 from0_1, V.bool swap0_2]] : List V).length ≤ 16777216)) <|
  some (.head 0 (T6_0 x1 x5 x6 (W .i64 (x9 - 1)) (m0 ++ [V.agg [V.int .i64 to0, V.int .i64 from0_1, V.bool swap0_2]]))))
 (pcK cfgB 12 [V.sl x6, V.sl m0] fun r =>
  d32 r fun r12_0 r12_1 =>
  cond (r12_1 == (0 : Int))
 (pcK cfgB 16 [V.sl r12_0, V.sl x5] fun r_1 =>
  kB r_1 fun r16 =>
  cond r16
 (pcK cfgB 22 [V.sl x6] fun r_2 =>
  kB r_2 fun r22 =>
  cond r22
 (pcK cfgB 21 [] fun r_3 =>
  kB r_3 fun r21 =>
  some (.done (V.bool r21)))
 (some (.done (V.bool false))))
 (some (.done (V.bool false))))
 (some (.done (V.bool false))))
theorem s6_0_eq (x1 : List V) (x5 : List V) (x6 : List V) (x9 : Int) (m0 : List V) : goK kcC false 0 fa6 0 (T6_0 x1 x5 x6 x9 m0) = s6_0 x1 x5 x6 x9 m0 := by kernel_rfl
theorem s6_0_run (x1 : List V) (x5 : List V) (x6 : List V) (x9 : Int) (m0 : List V) {o o' : Out} (h : s6_0 x1 x5 x6 x9 m0 = some o) (hg : Go kcC false 0 fa6 o o') : Go kcC false 0 fa6 (.head 0 (T6_0 x1 x5 x6 x9 m0)) o' := .step ((s6_0_eq x1 x5 x6 x9 m0).trans h) hg
/-! ### budwood/budwoodlaw16.MovesStill -/
noncomputable def fa7 : FA := ⟨1, 109, [.tmp 2], [4],
 (.seq
 (.ops false [o1 2 (.assign (.const (.bool false))) 4])
 (.seq
 (.ops false [mv 15 0 22, mv 16 0 22, o1 17 (.call ⟨(.builtin .len), #[(t' 16)], #[22]⟩) 3, o1 18 (.call ⟨(.builtin .min), #[(t' 17), (.const (.int .i64 (60)))], #[3, 3]⟩) 3, o1 19 (.slice 22 (t' 15) none (some (t' 18)) none) 22, asg 3 19 22])
 (.seq
 (.ops false [mv 21 3 22, o1 22 (.call ⟨(.value (.func 8)), #[(t' 21)], #[22]⟩) 25, mv 20 22 25, o1 23 (.extract (t' 20) 0) 23, o1 24 (.extract (t' 20) 1) 24, asg 4 23 23, asg 5 24 24])
 (.seq
 (.seq
 (.ops false [mv 25 5 24, o1 26 (.binOp .neq 24 (t' 25) (.const (.int .i64 (0))) 24) 4])
 (.cond (t' 26)
 (.seq
 (.ops false [mv 27 3 22, o1 28 (.call ⟨(.value (.func 17)), #[(t' 27)], #[22]⟩) 3, o1 29 (.binOp .eql 3 (t' 28) (.const (.int .i64 (0))) 3) 4, mv 30 29 4, o2 31 (.call ⟨(.value (.func 21)), #[], #[]⟩) 4 30 true, o1 32 (.pick (t' 30) (t' 31) (.const (.bool false))) 4, asg 2 32 4])
 (.ret))
 (.skip)))
 (.seq
 (.ops false [mv 33 3 22, mv 34 3 22, o1 35 (.call ⟨(.value (.func 17)), #[(t' 34)], #[22]⟩) 3, asg 6 33 22, asg 7 35 3])
 (.seq
 (.seq
 (.ops false [o1 8 (.assign (.const (.int .i64 (0)))) 3])
 (.block 0
 (.loop ([0, 1, 5] ++ List.range' 9 100)
 (.seq
 (.seq
 (.ops false [mv 36 8 3, mv 37 4 23, o1 38 (.call ⟨(.builtin .len), #[(t' 37)], #[23]⟩) 3, o1 39 (.binOp .lss 3 (t' 36) (t' 38) 3) 4])
 (.cond (t' 39)
 (.skip)
 (.exit 0)))
 (.seq
 (.block 1
 (.seq
 (.ops false [mv 43 6 22, mv 44 4 23, mv 45 8 3, mv 46 8 3, o1 47 (.binOp .add 3 (t' 46) (.const (.int .i64 (1))) 3) 3, o1 48 (.slice 23 (t' 44) (some (t' 45)) (some (t' 47)) none) 23, o1 49 (.call ⟨(.value (.func 12)), #[(t' 43), (t' 48)], #[22, 23]⟩) 32, mv 42 49 32, o1 50 (.extract (t' 42) 0) 22, o1 51 (.extract (t' 42) 1) 24, asg 9 50 22, asg 10 51 24])
 (.seq
 (.seq
 (.ops false [mv 52 10 24, o1 53 (.binOp .neq 24 (t' 52) (.const (.int .i64 (0))) 24) 4, mv 54 53 4, o2 55 (.move (t' 9)) 22 54 false, o2 56 (.call ⟨(.value (.func 17)), #[(t' 55)], #[22]⟩) 3 54 false, o2 57 (.move (t' 7)) 3 54 false, o2 58 (.binOp .add 3 (t' 57) (.const (.int .i64 (1))) 3) 3 54 false, o2 59 (.binOp .neq 3 (t' 56) (t' 58) 3) 4 54 false, o1 60 (.pick (t' 54) (.const (.bool true)) (t' 59)) 4])
 (.cond (t' 60)
 (.seq
 (.ops false [o1 2 (.assign (.const (.bool false))) 4])
 (.ret))
 (.skip)))
 (.seq
 (.ops false [mv 61 9 22, asg 6 61 22])
 (.ops false [mv 62 7 3, o1 63 (.binOp .add 3 (t' 62) (.const (.int .i64 (1))) 3) 3, asg 7 63 3])))))
 (.ops false [mv 40 8 3, o1 41 (.binOp .add 3 (t' 40) (.const (.int .i64 (1))) 3) 3, asg 8 41 3]))))))
 (.seq
 (.ops false [mv 65 6 22, o1 66 (.call ⟨(.value (.func 8)), #[(t' 65)], #[22]⟩) 25, mv 64 66 25, o1 67 (.extract (t' 64) 0) 23, o1 68 (.extract (t' 64) 1) 24, asg 11 67 23, asg 12 68 24])
 (.seq
 (.ops false [mv 70 3 22, mv 71 4 23, o1 72 (.call ⟨(.value (.func 12)), #[(t' 70), (t' 71)], #[22, 23]⟩) 32, mv 69 72 32, o1 73 (.extract (t' 69) 0) 22, o1 74 (.extract (t' 69) 1) 24, asg 13 73 22, asg 14 74 24])
 (.seq
 (.ops false [mv 75 12 24, o1 76 (.binOp .eql 24 (t' 75) (.const (.int .i64 (0))) 24) 4, mv 77 76 4, o2 78 (.move (t' 11)) 23 77 true, o2 79 (.call ⟨(.builtin .len), #[(t' 78)], #[23]⟩) 3 77 true, o2 80 (.binOp .eql 3 (t' 79) (.const (.int .i64 (0))) 3) 4 77 true, o1 81 (.pick (t' 77) (t' 80) (.const (.bool false))) 4, mv 82 81 4, o2 83 (.move (t' 7)) 3 82 true, o2 84 (.move (t' 3)) 22 82 true, o2 85 (.call ⟨(.builtin .len), #[(t' 84)], #[22]⟩) 3 82 true, o2 86 (.binOp .eql 3 (t' 83) (t' 85) 3) 4 82 true, o1 87 (.pick (t' 82) (t' 86) (.const (.bool false))) 4, mv 88 87 4, o2 89 (.move (t' 14)) 24 88 true, o2 90 (.binOp .eql 24 (t' 89) (.const (.int .i64 (0))) 24) 4 88 true, o1 91 (.pick (t' 88) (t' 90) (.const (.bool false))) 4, mv 92 91 4, o2 93 (.move (t' 13)) 22 92 true, o2 94 (.move (t' 6)) 22 92 true, o2 95 (.call ⟨(.value (.func 16)), #[(t' 93), (t' 94)], #[22, 22]⟩) 4 92 true, o1 96 (.pick (t' 92) (t' 95) (.const (.bool false))) 4, mv 97 96 4, o2 98 (.move (t' 6)) 22 97 true, o2 99 (.call ⟨(.value (.func 19)), #[(t' 98)], #[22]⟩) 3 97 true, o2 100 (.move (t' 6)) 22 97 true, o2 101 (.call ⟨(.builtin .len), #[(t' 100)], #[22]⟩) 3 97 true, o2 102 (.binOp .sub 3 (t' 101) (.const (.int .i64 (1))) 3) 3 97 true, o2 103 (.call ⟨(.builtin .max), #[(.const (.int .i64 (0))), (t' 102)], #[3, 3]⟩) 3 97 true, o2 104 (.binOp .leq 3 (t' 99) (t' 103) 3) 4 97 true, o1 105 (.pick (t' 97) (t' 104) (.const (.bool false))) 4, mv 106 105 4, o2 107 (.call ⟨(.value (.func 21)), #[], #[]⟩) 4 106 true, o1 108 (.pick (t' 106) (t' 107) (.const (.bool false))) 4, asg 2 108 4])
 (.ret))))))))))⟩
theorem fa7_eq : fnA cfgB.P (cfgB.rxf 7) 7 = some fa7 := by kernel_rfl
def T7_0 (x3 : List V) (x4 : List V) (x6 : List V) (x7 : Int) (x8 : Int) : S := ⟨[V.junk, V.junk, V.bool false, V.sl x3, V.sl x4, V.junk, V.sl x6, V.int .i64 x7, V.int .i64 x8] ++ (JU 100), []⟩
noncomputable def e7 (a0 : List V) : R :=
  gd (wfl 1 a0) <|
  gd (decide (0 ≤ (if 60 < (a0.length : Int) then 60 else (a0.length : Int)))) <|
  gd (decide ((if 60 < (a0.length : Int) then 60 else (a0.length : Int)).toNat ≤ a0.length)) <|
  pcK cfgB 8 [V.sl (a0.take ((if 60 < (a0.length : Int) then 60 else (a0.length : Int)).toNat))] fun r =>
  d25 r fun r8_0 r8_1 =>
  cond (r8_1 != (0 : Int))
 (pcK cfgB 17 [V.sl (a0.take ((if 60 < (a0.length : Int) then 60 else (a0.length : Int)).toNat))] fun r_1 =>
  kI .i64 r_1 fun r17 =>
  cond (r17 == (0 : Int))
 (pcK cfgB 21 [] fun r_2 =>
  kB r_2 fun r21 =>
  some (.done (V.bool r21)))
 (some (.done (V.bool false))))
 (pcK cfgB 17 [V.sl (a0.take ((if 60 < (a0.length : Int) then 60 else (a0.length : Int)).toNat))] fun r_3 =>
  kI .i64 r_3 fun r17_1 =>
  some (.head 0 (T7_0 (a0.take ((if 60 < (a0.length : Int) then 60 else (a0.length : Int)).toNat)) r8_0 (a0.take ((if 60 < (a0.length : Int) then 60 else (a0.length : Int)).toNat)) r17_1 0)))
theorem e7_eq (a0 : List V) : enterK kcC false fa7 [V.sl a0] [] = e7 a0 := by kernel_rfl
theorem e7_run (a0 : List V) {o : Out} {v : V} (h : e7 a0 = some o) (hg : Go kcC false 0 fa7 o (.done v)) : pcW cfgB 7 [V.sl a0] = some v := pcW_go ikC rfl fa7_eq ((e7_eq a0).trans h) hg
noncomputable def s7_0 (x3 : List V) (x4 : List V) (x6 : List V) (x7 : Int) (x8 : Int) : R :=
  cond (decide (x8 < (x4.length : Int)))
 (gd (wfl 3 x4) <|
  gd (decide (0 ≤ x8)) <|
  gd (decide (0 ≤ W .i64 (x8 + 1))) <|
  gd (decide (x8.toNat ≤ (W .i64 (x8 + 1)).toNat)) <|
  gd (decide ((W .i64 (x8 + 1)).toNat ≤ x4.length)) <|
  pcK cfgB 12 [V.sl x6, V.sl ((x4.take ((W .i64 (x8 + 1)).toNat)).drop x8.toNat)] fun r =>
  d32 r fun r12_0 r12_1 =>
  cond (r12_1 != (0 : Int))
 (some (.done (V.bool false)))
 (pcK cfgB 17 [V.sl r12_0] fun r_1 =>
  kI .i64 r_1 fun r17 =>
  cond (r17 != (W .i64 (x7 + 1)))
 (some (.done (V.bool false)))
 (some (.head 0 (T7_0 x3 x4 r12_0 (W .i64 (x7 + 1)) (W .i64 (x8 + 1)))))))
 (pcK cfgB 8 [V.sl x6] fun r_2 =>
  d25 r_2 fun r8_0 r8_1 =>
  pcK cfgB 12 [V.sl x3, V.sl x4] fun r_3 =>
  d32 r_3 fun r12_0_1 r12_1_1 =>
  cond (r8_1 == (0 : Int))
 (cond ((r8_0.length : Int) == (0 : Int))
 (cond (x7 == (x3.length : Int))
 (cond (r12_1_1 == (0 : Int))
 (pcK cfgB 16 [V.sl r12_0_1, V.sl x6] fun r_4 =>
  kB r_4 fun r16 =>
  cond r16
 (pcK cfgB 19 [V.sl x6] fun r_5 =>
  kI .i64 r_5 fun r19 =>
  cond (decide (r19 ≤ (if 0 < W .i64 ((x6.length : Int) - 1) then W .i64 ((x6.length : Int) - 1) else 0)))
 (pcK cfgB 21 [] fun r_6 =>
  kB r_6 fun r21 =>
  some (.done (V.bool r21)))
 (some (.done (V.bool false))))
 (some (.done (V.bool false))))
 (some (.done (V.bool false))))
 (some (.done (V.bool false))))
 (some (.done (V.bool false))))
 (some (.done (V.bool false))))
theorem s7_0_eq (x3 : List V) (x4 : List V) (x6 : List V) (x7 : Int) (x8 : Int) : goK kcC false 0 fa7 0 (T7_0 x3 x4 x6 x7 x8) = s7_0 x3 x4 x6 x7 x8 := by kernel_rfl
theorem s7_0_run (x3 : List V) (x4 : List V) (x6 : List V) (x7 : Int) (x8 : Int) {o o' : Out} (h : s7_0 x3 x4 x6 x7 x8 = some o) (hg : Go kcC false 0 fa7 o o') : Go kcC false 0 fa7 (.head 0 (T7_0 x3 x4 x6 x7 x8)) o' := .step ((s7_0_eq x3 x4 x6 x7 x8).trans h) hg
end Go.Proofs.Ytnaidbmgibmnbaa
