/-
  The graphs of sum's functions (printed by walk.py).
-/
import Derived.Test.YtknapnnpmfhogaaP1
namespace Go.Proofs.Ytknapnnpmfhogaa
open Go Go.Lite
set_option maxRecDepth 100000
set_option linter.unusedVariables false
def d90 (v : V) (k : Int → Int → Int → Int → Int → Int → Int → Int → Int → Int → Int → Int → Int → Int → Int → Int → R) : R := kA v fun cs => unc cs fun c cs => kI .u32 c fun x0 => unc cs fun c cs => kI .u32 c fun x1 => unc cs fun c cs => kI .u32 c fun x2 => unc cs fun c cs => kI .u32 c fun x3 => unc cs fun c cs => kI .u32 c fun x4 => unc cs fun c cs => kI .u32 c fun x5 => unc cs fun c cs => kI .u32 c fun x6 => unc cs fun c cs => kI .u32 c fun x7 => unc cs fun c cs => kI .u32 c fun x8 => unc cs fun c cs => kI .u32 c fun x9 => unc cs fun c cs => kI .u32 c fun x10 => unc cs fun c cs => kI .u32 c fun x11 => unc cs fun c cs => kI .u32 c fun x12 => unc cs fun c cs => kI .u32 c fun x13 => unc cs fun c cs => kI .u32 c fun x14 => unc cs fun c cs => kI .u32 c fun x15 => unn cs <| (k x0 x1 x2 x3 x4 x5 x6 x7 x8 x9 x10 x11 x12 x13 x14 x15)
@[simp] theorem d90_mk (x0 : Int) (x1 : Int) (x2 : Int) (x3 : Int) (x4 : Int) (x5 : Int) (x6 : Int) (x7 : Int) (x8 : Int) (x9 : Int) (x10 : Int) (x11 : Int) (x12 : Int) (x13 : Int) (x14 : Int) (x15 : Int) (k : Int → Int → Int → Int → Int → Int → Int → Int → Int → Int → Int → Int → Int → Int → Int → Int → R) : d90 (.agg [V.int .u32 x0, V.int .u32 x1, V.int .u32 x2, V.int .u32 x3, V.int .u32 x4, V.int .u32 x5, V.int .u32 x6, V.int .u32 x7, V.int .u32 x8, V.int .u32 x9, V.int .u32 x10, V.int .u32 x11, V.int .u32 x12, V.int .u32 x13, V.int .u32 x14, V.int .u32 x15]) k = k x0 x1 x2 x3 x4 x5 x6 x7 x8 x9 x10 x11 x12 x13 x14 x15 := rfl
@[congr] theorem d90_wc {v v' : V} {k : Int → Int → Int → Int → Int → Int → Int → Int → Int → Int → Int → Int → Int → Int → Int → Int → R} (h : v = v') : d90 v k = d90 v' k := by rw [h]
noncomputable def fa47 : FA := ⟨1, 36, [.tmp 2], [82],
 (.seq
 (.ops false [o1 2 (.assign (.const (.int .u32 (0)))) 82])
 (.seq
 (.ops false [o1 7 (.call ⟨(.value (.func 55)), #[], #[]⟩) 90, o1 3 (.alloc 90) 0, o0 (.store 90 (t' 3) (t' 7)) 0, o1 4 (.assign (.const (.int .u32 (4294967295)))) 82])
 (.seq
 (.seq
 (.ops false [mv 8 0 9, o1 9 (.convert 9 66 (t' 8)) 66, o1 10 (.call ⟨(.builtin .len), #[(t' 9)], #[66]⟩) 3, o1 11 (.move (.const (.int .i64 (0)))) 3])
 (.block 0
 (.loop ([0, 1] ++ List.range' 5 4 ++ List.range' 12 24)
 (.seq
 (.ops false [o1 12 (.binOp .lss 3 (t' 11) (t' 10) 3) 0])
 (.seq
 (.cond (t' 12)
 (.skip)
 (.exit 0))
 (.seq
 (.block 1
 (.seq
 (.ops false [o1 13 (.indexAddr 66 (t' 9) (t' 11)) 0, o1 14 (.load 5 (t' 13)) 5, asg 6 14 5])
 (.seq
 (.ops false [mv 15 4 82, mv 16 6 5, o1 17 (.convert 5 82 (t' 16)) 82, o1 18 (.binOp .xor 82 (t' 15) (t' 17) 82) 82, asg 4 18 82])
 (.seq
 (.ops false [mv 19 4 82, o1 20 (.binOp .shr 82 (t' 19) (.const (.int .u64 (4))) 92) 82, mv 21 4 82, o1 22 (.binOp .rem 82 (t' 21) (.const (.int .u32 (16))) 82) 82, o1 23 (.indexAddr 90 (t' 3) (t' 22)) 0, o1 24 (.load 82 (t' 23)) 82, o1 25 (.binOp .xor 82 (t' 20) (t' 24) 82) 82, asg 4 25 82])
 (.ops false [mv 26 4 82, o1 27 (.binOp .shr 82 (t' 26) (.const (.int .u64 (4))) 92) 82, mv 28 4 82, o1 29 (.binOp .rem 82 (t' 28) (.const (.int .u32 (16))) 82) 82, o1 30 (.indexAddr 90 (t' 3) (t' 29)) 0, o1 31 (.load 82 (t' 30)) 82, o1 32 (.binOp .xor 82 (t' 27) (t' 31) 82) 82, asg 4 32 82])))))
 (.ops false [o1 33 (.binOp .add 3 (t' 11) (.const (.int .i64 (1))) 3) 3, mv 11 33 3])))))))
 (.seq
 (.ops false [mv 34 4 82, o1 35 (.unOp .xor 82 (t' 34)) 82, asg 2 35 82])
 (.ret)))))⟩
theorem fa47_eq : fnA qcfg.P (qcfg.rxf 47) 47 = some fa47 := by kernel_rfl
def T47_0 (x4 : Int) (x9 : List V) (x10 : Int) (x11 : Int) (m0_0 : Int) (m0_1 : Int) (m0_2 : Int) (m0_3 : Int) (m0_4 : Int) (m0_5 : Int) (m0_6 : Int) (m0_7 : Int) (m0_8 : Int) (m0_9 : Int) (m0_10 : Int) (m0_11 : Int) (m0_12 : Int) (m0_13 : Int) (m0_14 : Int) (m0_15 : Int) : S := ⟨[V.junk, V.junk, V.int .u32 0, V.ptr 0 0 0, V.int .u32 x4] ++ (JU 4) ++ [V.sl x9, V.int .i64 x10, V.int .i64 x11] ++ (JU 24), [O.box 90 (V.agg [V.int .u32 m0_0, V.int .u32 m0_1, V.int .u32 m0_2, V.int .u32 m0_3, V.int .u32 m0_4, V.int .u32 m0_5, V.int .u32 m0_6, V.int .u32 m0_7, V.int .u32 m0_8, V.int .u32 m0_9, V.int .u32 m0_10, V.int .u32 m0_11, V.int .u32 m0_12, V.int .u32 m0_13, V.int .u32 m0_14, V.int .u32 m0_15]) false]⟩
noncomputable def e47 (a0 : List UInt8) : R :=
  pcK qcfg 55 [] fun r =>
  d90 r fun r550 r551 r552 r553 r554 r555 r556 r557 r558 r559 r5510 r5511 r5512 r5513 r5514 r5515 =>
  some (.head 0 (T47_0 4294967295 (bytesV a0) ((bytesV a0).length : Int) 0 r550 r551 r552 r553 r554 r555 r556 r557 r558 r559 r5510 r5511 r5512 r5513 r5514 r5515))
theorem e47_eq (a0 : List UInt8) : enterK qk false fa47 [V.str a0] [] = e47 a0 := by kernel_rfl
theorem e47_run (a0 : List UInt8) {o : Out} {v : V} (h : e47 a0 = some o) (hg : Go qk false 0 fa47 o (.done v)) : pcW qcfg 47 [V.str a0] = some v := pcW_go qik rfl fa47_eq ((e47_eq a0).trans h) hg
noncomputable def s47_0 (x4 : Int) (x9 : List V) (x10 : Int) (x11 : Int) (m0_0 : Int) (m0_1 : Int) (m0_2 : Int) (m0_3 : Int) (m0_4 : Int) (m0_5 : Int) (m0_6 : Int) (m0_7 : Int) (m0_8 : Int) (m0_9 : Int) (m0_10 : Int) (m0_11 : Int) (m0_12 : Int) (m0_13 : Int) (m0_14 : Int) (m0_15 : Int) : R :=
  cond (decide (x11 < x10))
 (gd (decide (0 ≤ x11)) <|
  idxK x9 x11.toNat fun v =>
  kI .u8 v fun n =>
  gd (decide (0 ≤ (W .u32 (((BitVec.ofInt (IntKind.bits .u32) x4 ^^^ BitVec.ofInt (IntKind.bits .u32) (W .u32 (n))).toNat : Int))).tmod 16)) <|
  gd (decide (((W .u32 (((BitVec.ofInt (IntKind.bits .u32) x4 ^^^ BitVec.ofInt (IntKind.bits .u32) (W .u32 (n))).toNat : Int))).tmod 16).toNat < 16)) <|
  idxK [V.int .u32 m0_0, V.int .u32 m0_1, V.int .u32 m0_2, V.int .u32 m0_3, V.int .u32 m0_4, V.int .u32 m0_5, V.int .u32 m0_6, V.int .u32 m0_7, V.int .u32 m0_8, V.int .u32 m0_9, V.int .u32 m0_10, V.int .u32 m0_11, V.int .u32 m0_12, V.int .u32 m0_13, V.int .u32 m0_14, V.int .u32 m0_15] (0 + (((W .u32 (((BitVec.ofInt (IntKind.bits .u32) x4 ^^^ BitVec.ofInt (IntKind.bits .u32) (W .u32 (n))).toNat : Int))).tmod 16).toNat) * 1) fun v_1 =>
  kI .u32 v_1 fun n_1 =>
  gd (decide (0 ≤ (W .u32 (((BitVec.ofInt (IntKind.bits .u32) ((W .u32 (((BitVec.ofInt (IntKind.bits .u32) x4 ^^^ BitVec.ofInt (IntKind.bits .u32) (W .u32 (n))).toNat : Int))).fdiv (2 ^ (min 4 (IntKind.bits .u32)))) ^^^ BitVec.ofInt (IntKind.bits .u32) n_1).toNat : Int))).tmod 16)) <|
  gd (decide (((W .u32 (((BitVec.ofInt (IntKind.bits .u32) ((W .u32 (((BitVec.ofInt (IntKind.bits .u32) x4 ^^^ BitVec.ofInt (IntKind.bits .u32) (W .u32 (n))).toNat : Int))).fdiv (2 ^ (min 4 (IntKind.bits .u32)))) ^^^ BitVec.ofInt (IntKind.bits .u32) n_1).toNat : Int))).tmod 16).toNat < 16)) <|
  idxK [V.int .u32 m0_0, V.int .u32 m0_1, V.int .u32 m0_2, V.int .u32 m0_3, V.int .u32 m0_4, V.int .u32 m0_5, V.int .u32 m0_6, V.int .u32 m0_7, V.int .u32 m0_8, V.int .u32 m0_9, V.int .u32 m0_10, V.int .u32 m0_11, V.int .u32 m0_12, V.int .u32 m0_13, V.int .u32 m0_14, V.int .u32 m0_15] (0 + (((W .u32 (((BitVec.ofInt (IntKind.bits .u32) ((W .u32 (((BitVec.ofInt (IntKind.bits .u32) x4 ^^^ BitVec.ofInt (IntKind.bits .u32) (W .u32 (n))).toNat : Int))).fdiv (2 ^ (min 4 (IntKind.bits .u32)))) ^^^ BitVec.ofInt (IntKind.bits .u32) n_1).toNat : Int))).tmod 16).toNat) * 1) fun v_2 =>
  kI .u32 v_2 fun n_2 =>
  some (.head 0 (T47_0 (W .u32 (((BitVec.ofInt (IntKind.bits .u32) ((W .u32 (((BitVec.ofInt (IntKind.bits .u32) ((W .u32 (((BitVec.ofInt (IntKind.bits .u32) x4 ^^^ BitVec.ofInt (IntKind.bits .u32) (W .u32 (n))).toNat : Int))).fdiv (2 ^ (min 4 (IntKind.bits .u32)))) ^^^ BitVec.ofInt (IntKind.bits .u32) n_1).toNat : Int))).fdiv (2 ^ (min 4 (IntKind.bits .u32)))) ^^^ BitVec.ofInt (IntKind.bits .u32) n_2).toNat : Int))) x9 x10 (W .i64 (x11 + 1)) m0_0 m0_1 m0_2 m0_3 m0_4 m0_5 m0_6 m0_7 m0_8 m0_9 m0_10 m0_11 m0_12 m0_13 m0_14 m0_15)))
 (some (.done (V.int .u32 (W .u32 (((BitVec.ofInt (IntKind.bits .u32) 4294967295 ^^^ BitVec.ofInt (IntKind.bits .u32) x4).toNat : Int))))))
theorem s47_0_eq (x4 : Int) (x9 : List V) (x10 : Int) (x11 : Int) (m0_0 : Int) (m0_1 : Int) (m0_2 : Int) (m0_3 : Int) (m0_4 : Int) (m0_5 : Int) (m0_6 : Int) (m0_7 : Int) (m0_8 : Int) (m0_9 : Int) (m0_10 : Int) (m0_11 : Int) (m0_12 : Int) (m0_13 : Int) (m0_14 : Int) (m0_15 : Int) : goK qk false 0 fa47 0 (T47_0 x4 x9 x10 x11 m0_0 m0_1 m0_2 m0_3 m0_4 m0_5 m0_6 m0_7 m0_8 m0_9 m0_10 m0_11 m0_12 m0_13 m0_14 m0_15) = s47_0 x4 x9 x10 x11 m0_0 m0_1 m0_2 m0_3 m0_4 m0_5 m0_6 m0_7 m0_8 m0_9 m0_10 m0_11 m0_12 m0_13 m0_14 m0_15 := by kernel_rfl
theorem s47_0_run (x4 : Int) (x9 : List V) (x10 : Int) (x11 : Int) (m0_0 : Int) (m0_1 : Int) (m0_2 : Int) (m0_3 : Int) (m0_4 : Int) (m0_5 : Int) (m0_6 : Int) (m0_7 : Int) (m0_8 : Int) (m0_9 : Int) (m0_10 : Int) (m0_11 : Int) (m0_12 : Int) (m0_13 : Int) (m0_14 : Int) (m0_15 : Int) {o o' : Out} (h : s47_0 x4 x9 x10 x11 m0_0 m0_1 m0_2 m0_3 m0_4 m0_5 m0_6 m0_7 m0_8 m0_9 m0_10 m0_11 m0_12 m0_13 m0_14 m0_15 = some o) (hg : Go qk false 0 fa47 o o') : Go qk false 0 fa47 (.head 0 (T47_0 x4 x9 x10 x11 m0_0 m0_1 m0_2 m0_3 m0_4 m0_5 m0_6 m0_7 m0_8 m0_9 m0_10 m0_11 m0_12 m0_13 m0_14 m0_15)) o' := .step ((s47_0_eq x4 x9 x10 x11 m0_0 m0_1 m0_2 m0_3 m0_4 m0_5 m0_6 m0_7 m0_8 m0_9 m0_10 m0_11 m0_12 m0_13 m0_14 m0_15).trans h) hg
noncomputable def fa64 : FA := ⟨1, 16, [.tmp 2], [82],
 (.seq
 (.ops false [o1 2 (.assign (.const (.int .u32 (0)))) 82])
 (.seq
 (.seq
 (.ops false [o1 4 (.move (.const (.int .i64 (0)))) 3])
 (.block 0
 (.loop ([1, 3] ++ List.range' 5 11)
 (.seq
 (.ops false [o1 5 (.binOp .lss 3 (t' 4) (.const (.int .i64 (4))) 3) 4])
 (.seq
 (.cond (t' 5)
 (.skip)
 (.exit 0))
 (.seq
 (.block 1
 (.seq
 (.ops false [mv 6 0 82, o1 7 (.binOp .and 82 (t' 6) (.const (.int .u32 (1))) 82) 82, asg 3 7 82])
 (.seq
 (.ops false [mv 8 0 82, o1 9 (.binOp .shr 82 (t' 8) (.const (.int .u64 (1))) 92) 82, asg 0 9 82])
 (.seq
 (.ops false [mv 10 3 82, o1 11 (.binOp .eql 82 (t' 10) (.const (.int .u32 (1))) 82) 4])
 (.cond (t' 11)
 (.ops false [mv 12 0 82, o1 13 (.binOp .xor 82 (t' 12) (.const (.int .u32 (2197175160))) 82) 82, asg 0 13 82])
 (.skip))))))
 (.ops false [o1 14 (.binOp .add 3 (t' 4) (.const (.int .i64 (1))) 3) 3, mv 4 14 3])))))))
 (.seq
 (.ops false [mv 15 0 82, asg 2 15 82])
 (.ret))))⟩
theorem fa64_eq : fnA qcfg.P (qcfg.rxf 64) 64 = some fa64 := by kernel_rfl
def T64_0 (x0 : Int) (x4 : Int) : S := ⟨[V.int .u32 x0, V.junk, V.int .u32 0, V.junk, V.int .i64 x4] ++ (JU 11), []⟩
noncomputable def e64 (a0 : Int) : R :=
  some (.head 0 (T64_0 a0 0))
theorem e64_eq (a0 : Int) : enterK qk false fa64 [V.int .u32 a0] [] = e64 a0 := by kernel_rfl
theorem e64_run (a0 : Int) {o : Out} {v : V} (h : e64 a0 = some o) (hg : Go qk false 0 fa64 o (.done v)) : pcW qcfg 64 [V.int .u32 a0] = some v := pcW_go qik rfl fa64_eq ((e64_eq a0).trans h) hg
noncomputable def s64_0 (x0 : Int) (x4 : Int) : R :=
  cond (decide (x4 < 4))
 (cond ((W .u32 (((BitVec.ofInt (IntKind.bits .u32) x0 &&& BitVec.ofInt (IntKind.bits .u32) 1).toNat : Int))) == (1 : Int))
 (some (.head 0 (T64_0 (W .u32 (((BitVec.ofInt (IntKind.bits .u32) (x0.fdiv (2 ^ (min 1 (IntKind.bits .u32)))) ^^^ BitVec.ofInt (IntKind.bits .u32) 2197175160).toNat : Int))) (W .i64 (x4 + 1)))))
 (some (.head 0 (T64_0 (x0.fdiv (2 ^ (min 1 (IntKind.bits .u32)))) (W .i64 (x4 + 1))))))
 (some (.done (V.int .u32 x0)))
theorem s64_0_eq (x0 : Int) (x4 : Int) : goK qk false 0 fa64 0 (T64_0 x0 x4) = s64_0 x0 x4 := by kernel_rfl
theorem s64_0_run (x0 : Int) (x4 : Int) {o o' : Out} (h : s64_0 x0 x4 = some o) (hg : Go qk false 0 fa64 o o') : Go qk false 0 fa64 (.head 0 (T64_0 x0 x4)) o' := .step ((s64_0_eq x0 x4).trans h) hg
noncomputable def fa55 : FA := ⟨0, 15, [.cell 0 90], [90],
 (.seq
 (.ops false [o1 0 (.alloc 90) 0])
 (.seq
 (.ops false [o1 1 (.assign (.func 64)) 100])
 (.seq
 (.ops false [o1 2 (.alloc 90) 0])
 (.seq
 (.seq
 (.ops false [o1 4 (.move (.const (.int .i64 (0)))) 3])
 (.block 0
 (.loop ([3] ++ List.range' 5 10)
 (.seq
 (.ops false [o1 5 (.binOp .lss 3 (t' 4) (.const (.int .i64 (16))) 3) 0])
 (.seq
 (.cond (t' 5)
 (.skip)
 (.exit 0))
 (.seq
 (.block 1
 (.seq
 (.ops false [mv 6 4 3, asg 3 6 3])
 (.ops false [mv 7 3 3, mv 8 1 100, mv 9 3 3, o1 10 (.convert 3 82 (t' 9)) 82, o1 11 (.call ⟨(.value (t' 8)), #[(t' 10)], #[82]⟩) 82, o1 12 (.indexAddr 90 (t' 2) (t' 7)) 0, o0 (.store 82 (t' 12) (t' 11)) 0])))
 (.ops false [o1 13 (.binOp .add 3 (t' 4) (.const (.int .i64 (1))) 3) 3, mv 4 13 3])))))))
 (.seq
 (.ops false [o1 14 (.load 90 (t' 2)) 90, o0 (.store 90 (t' 0) (t' 14)) 0])
 (.ret))))))⟩
theorem fa55_eq : fnA qcfg.P (qcfg.rxf 55) 55 = some fa55 := by kernel_rfl
def T55_0 (x4 : Int) (m1_0 : Int) (m1_1 : Int) (m1_2 : Int) (m1_3 : Int) (m1_4 : Int) (m1_5 : Int) (m1_6 : Int) (m1_7 : Int) (m1_8 : Int) (m1_9 : Int) (m1_10 : Int) (m1_11 : Int) (m1_12 : Int) (m1_13 : Int) (m1_14 : Int) (m1_15 : Int) : S := ⟨[V.ptr 0 0 0, V.fn 64 [], V.ptr 1 0 0, V.junk, V.int .i64 x4] ++ (JU 10), [O.box 90 (V.agg [V.int .u32 0, V.int .u32 0, V.int .u32 0, V.int .u32 0, V.int .u32 0, V.int .u32 0, V.int .u32 0, V.int .u32 0, V.int .u32 0, V.int .u32 0, V.int .u32 0, V.int .u32 0, V.int .u32 0, V.int .u32 0, V.int .u32 0, V.int .u32 0]) false, O.box 90 (V.agg [V.int .u32 m1_0, V.int .u32 m1_1, V.int .u32 m1_2, V.int .u32 m1_3, V.int .u32 m1_4, V.int .u32 m1_5, V.int .u32 m1_6, V.int .u32 m1_7, V.int .u32 m1_8, V.int .u32 m1_9, V.int .u32 m1_10, V.int .u32 m1_11, V.int .u32 m1_12, V.int .u32 m1_13, V.int .u32 m1_14, V.int .u32 m1_15]) false]⟩
noncomputable def e55  : R :=
  some (.head 0 (T55_0 0 0 0 0 0 0 0 0 0 0 0 0 0 0 0 0 0))
theorem e55_eq  : enterK qk false fa55 [] [] = e55  := by kernel_rfl
theorem e55_run  {o : Out} {v : V} (h : e55  = some o) (hg : Go qk false 0 fa55 o (.done v)) : pcW qcfg 55 [] = some v := pcW_go qik rfl fa55_eq ((e55_eq ).trans h) hg
noncomputable def s55_0_0 (m1_0 : Int) (m1_1 : Int) (m1_2 : Int) (m1_3 : Int) (m1_4 : Int) (m1_5 : Int) (m1_6 : Int) (m1_7 : Int) (m1_8 : Int) (m1_9 : Int) (m1_10 : Int) (m1_11 : Int) (m1_12 : Int) (m1_13 : Int) (m1_14 : Int) (m1_15 : Int) : R :=
  pcK qcfg 64 [V.int .u32 0] fun r =>
  kI .u32 r fun r64 =>
  some (.head 0 (T55_0 1 r64 m1_1 m1_2 m1_3 m1_4 m1_5 m1_6 m1_7 m1_8 m1_9 m1_10 m1_11 m1_12 m1_13 m1_14 m1_15))
theorem s55_0_0_eq (m1_0 : Int) (m1_1 : Int) (m1_2 : Int) (m1_3 : Int) (m1_4 : Int) (m1_5 : Int) (m1_6 : Int) (m1_7 : Int) (m1_8 : Int) (m1_9 : Int) (m1_10 : Int) (m1_11 : Int) (m1_12 : Int) (m1_13 : Int) (m1_14 : Int) (m1_15 : Int) : goK qk false 0 fa55 0 (T55_0 0 m1_0 m1_1 m1_2 m1_3 m1_4 m1_5 m1_6 m1_7 m1_8 m1_9 m1_10 m1_11 m1_12 m1_13 m1_14 m1_15) = s55_0_0 m1_0 m1_1 m1_2 m1_3 m1_4 m1_5 m1_6 m1_7 m1_8 m1_9 m1_10 m1_11 m1_12 m1_13 m1_14 m1_15 := by kernel_rfl
theorem s55_0_0_run (m1_0 : Int) (m1_1 : Int) (m1_2 : Int) (m1_3 : Int) (m1_4 : Int) (m1_5 : Int) (m1_6 : Int) (m1_7 : Int) (m1_8 : Int) (m1_9 : Int) (m1_10 : Int) (m1_11 : Int) (m1_12 : Int) (m1_13 : Int) (m1_14 : Int) (m1_15 : Int) {o o' : Out} (h : s55_0_0 m1_0 m1_1 m1_2 m1_3 m1_4 m1_5 m1_6 m1_7 m1_8 m1_9 m1_10 m1_11 m1_12 m1_13 m1_14 m1_15 = some o) (hg : Go qk false 0 fa55 o o') : Go qk false 0 fa55 (.head 0 (T55_0 0 m1_0 m1_1 m1_2 m1_3 m1_4 m1_5 m1_6 m1_7 m1_8 m1_9 m1_10 m1_11 m1_12 m1_13 m1_14 m1_15)) o' := .step ((s55_0_0_eq m1_0 m1_1 m1_2 m1_3 m1_4 m1_5 m1_6 m1_7 m1_8 m1_9 m1_10 m1_11 m1_12 m1_13 m1_14 m1_15).trans h) hg
noncomputable def s55_0_1 (m1_0 : Int) (m1_1 : Int) (m1_2 : Int) (m1_3 : Int) (m1_4 : Int) (m1_5 : Int) (m1_6 : Int) (m1_7 : Int) (m1_8 : Int) (m1_9 : Int) (m1_10 : Int) (m1_11 : Int) (m1_12 : Int) (m1_13 : Int) (m1_14 : Int) (m1_15 : Int) : R :=
  pcK qcfg 64 [V.int .u32 1] fun r =>
  kI .u32 r fun r64 =>
  some (.head 0 (T55_0 2 m1_0 r64 m1_2 m1_3 m1_4 m1_5 m1_6 m1_7 m1_8 m1_9 m1_10 m1_11 m1_12 m1_13 m1_14 m1_15))
theorem s55_0_1_eq (m1_0 : Int) (m1_1 : Int) (m1_2 : Int) (m1_3 : Int) (m1_4 : Int) (m1_5 : Int) (m1_6 : Int) (m1_7 : Int) (m1_8 : Int) (m1_9 : Int) (m1_10 : Int) (m1_11 : Int) (m1_12 : Int) (m1_13 : Int) (m1_14 : Int) (m1_15 : Int) : goK qk false 0 fa55 0 (T55_0 1 m1_0 m1_1 m1_2 m1_3 m1_4 m1_5 m1_6 m1_7 m1_8 m1_9 m1_10 m1_11 m1_12 m1_13 m1_14 m1_15) = s55_0_1 m1_0 m1_1 m1_2 m1_3 m1_4 m1_5 m1_6 m1_7 m1_8 m1_9 m1_10 m1_11 m1_12 m1_13 m1_14 m1_15 := by kernel_rfl
theorem s55_0_1_run (m1_0 : Int) (m1_1 : Int) (m1_2 : Int) (m1_3 : Int) (m1_4 : Int) (m1_5 : Int) (m1_6 : Int) (m1_7 : Int) (m1_8 : Int) (m1_9 : Int) (m1_10 : Int) (m1_11 : Int) (m1_12 : Int) (m1_13 : Int) (m1_14 : Int) (m1_15 : Int) {o o' : Out} (h : s55_0_1 m1_0 m1_1 m1_2 m1_3 m1_4 m1_5 m1_6 m1_7 m1_8 m1_9 m1_10 m1_11 m1_12 m1_13 m1_14 m1_15 = some o) (hg : Go qk false 0 fa55 o o') : Go qk false 0 fa55 (.head 0 (T55_0 1 m1_0 m1_1 m1_2 m1_3 m1_4 m1_5 m1_6 m1_7 m1_8 m1_9 m1_10 m1_11 m1_12 m1_13 m1_14 m1_15)) o' := .step ((s55_0_1_eq m1_0 m1_1 m1_2 m1_3 m1_4 m1_5 m1_6 m1_7 m1_8 m1_9 m1_10 m1_11 m1_12 m1_13 m1_14 m1_15).trans h) hg
noncomputable def s55_0_2 (m1_0 : Int) (m1_1 : Int) (m1_2 : Int) (m1_3 : Int) (m1_4 : Int) (m1_5 : Int) (m1_6 : Int) (m1_7 : Int) (m1_8 : Int) (m1_9 : Int) (m1_10 : Int) (m1_11 : Int) (m1_12 : Int) (m1_13 : Int) (m1_14 : Int) (m1_15 : Int) : R :=
  pcK qcfg 64 [V.int .u32 2] fun r =>
  kI .u32 r fun r64 =>
  some (.head 0 (T55_0 3 m1_0 m1_1 r64 m1_3 m1_4 m1_5 m1_6 m1_7 m1_8 m1_9 m1_10 m1_11 m1_12 m1_13 m1_14 m1_15))
theorem s55_0_2_eq (m1_0 : Int) (m1_1 : Int) (m1_2 : Int) (m1_3 : Int) (m1_4 : Int) (m1_5 : Int) (m1_6 : Int) (m1_7 : Int) (m1_8 : Int) (m1_9 : Int) (m1_10 : Int) (m1_11 : Int) (m1_12 : Int) (m1_13 : Int) (m1_14 : Int) (m1_15 : Int) : goK qk false 0 fa55 0 (T55_0 2 m1_0 m1_1 m1_2 m1_3 m1_4 m1_5 m1_6 m1_7 m1_8 m1_9 m1_10 m1_11 m1_12 m1_13 m1_14 m1_15) = s55_0_2 m1_0 m1_1 m1_2 m1_3 m1_4 m1_5 m1_6 m1_7 m1_8 m1_9 m1_10 m1_11 m1_12 m1_13 m1_14 m1_15 := by kernel_rfl
theorem s55_0_2_run (m1_0 : Int) (m1_1 : Int) (m1_2 : Int) (m1_3 : Int) (m1_4 : Int) (m1_5 : Int) (m1_6 : Int) (m1_7 : Int) (m1_8 : Int) (m1_9 : Int) (m1_10 : Int) (m1_11 : Int) (m1_12 : Int) (m1_13 : Int) (m1_14 : Int) (m1_15 : Int) {o o' : Out} (h : s55_0_2 m1_0 m1_1 m1_2 m1_3 m1_4 m1_5 m1_6 m1_7 m1_8 m1_9 m1_10 m1_11 m1_12 m1_13 m1_14 m1_15 = some o) (hg : Go qk false 0 fa55 o o') : Go qk false 0 fa55 (.head 0 (T55_0 2 m1_0 m1_1 m1_2 m1_3 m1_4 m1_5 m1_6 m1_7 m1_8 m1_9 m1_10 m1_11 m1_12 m1_13 m1_14 m1_15)) o' := .step ((s55_0_2_eq m1_0 m1_1 m1_2 m1_3 m1_4 m1_5 m1_6 m1_7 m1_8 m1_9 m1_10 m1_11 m1_12 m1_13 m1_14 m1_15).trans h) hg
noncomputable def s55_0_3 (m1_0 : Int) (m1_1 : Int) (m1_2 : Int) (m1_3 : Int) (m1_4 : Int) (m1_5 : Int) (m1_6 : Int) (m1_7 : Int) (m1_8 : Int) (m1_9 : Int) (m1_10 : Int) (m1_11 : Int) (m1_12 : Int) (m1_13 : Int) (m1_14 : Int) (m1_15 : Int) : R :=
  pcK qcfg 64 [V.int .u32 3] fun r =>
  kI .u32 r fun r64 =>
  some (.head 0 (T55_0 4 m1_0 m1_1 m1_2 r64 m1_4 m1_5 m1_6 m1_7 m1_8 m1_9 m1_10 m1_11 m1_12 m1_13 m1_14 m1_15))
theorem s55_0_3_eq (m1_0 : Int) (m1_1 : Int) (m1_2 : Int) (m1_3 : Int) (m1_4 : Int) (m1_5 : Int) (m1_6 : Int) (m1_7 : Int) (m1_8 : Int) (m1_9 : Int) (m1_10 : Int) (m1_11 : Int) (m1_12 : Int) (m1_13 : Int) (m1_14 : Int) (m1_15 : Int) : goK qk false 0 fa55 0 (T55_0 3 m1_0 m1_1 m1_2 m1_3 m1_4 m1_5 m1_6 m1_7 m1_8 m1_9 m1_10 m1_11 m1_12 m1_13 m1_14 m1_15) = s55_0_3 m1_0 m1_1 m1_2 m1_3 m1_4 m1_5 m1_6 m1_7 m1_8 m1_9 m1_10 m1_11 m1_12 m1_13 m1_14 m1_15 := by kernel_rfl
theorem s55_0_3_run (m1_0 : Int) (m1_1 : Int) (m1_2 : Int) (m1_3 : Int) (m1_4 : Int) (m1_5 : Int) (m1_6 : Int) (m1_7 : Int) (m1_8 : Int) (m1_9 : Int) (m1_10 : Int) (m1_11 : Int) (m1_12 : Int) (m1_13 : Int) (m1_14 : Int) (m1_15 : Int) {o o' : Out} (h : s55_0_3 m1_0 m1_1 m1_2 m1_3 m1_4 m1_5 m1_6 m1_7 m1_8 m1_9 m1_10 m1_11 m1_12 m1_13 m1_14 m1_15 = some o) (hg : Go qk false 0 fa55 o o') : Go qk false 0 fa55 (.head 0 (T55_0 3 m1_0 m1_1 m1_2 m1_3 m1_4 m1_5 m1_6 m1_7 m1_8 m1_9 m1_10 m1_11 m1_12 m1_13 m1_14 m1_15)) o' := .step ((s55_0_3_eq m1_0 m1_1 m1_2 m1_3 m1_4 m1_5 m1_6 m1_7 m1_8 m1_9 m1_10 m1_11 m1_12 m1_13 m1_14 m1_15).trans h) hg
noncomputable def s55_0_4 (m1_0 : Int) (m1_1 : Int) (m1_2 : Int) (m1_3 : Int) (m1_4 : Int) (m1_5 : Int) (m1_6 : Int) (m1_7 : Int) (m1_8 : Int) (m1_9 : Int) (m1_10 : Int) (m1_11 : Int) (m1_12 : Int) (m1_13 : Int) (m1_14 : Int) (m1_15 : Int) : R :=
  pcK qcfg 64 [V.int .u32 4] fun r =>
  kI .u32 r fun r64 =>
  some (.head 0 (T55_0 5 m1_0 m1_1 m1_2 m1_3 r64 m1_5 m1_6 m1_7 m1_8 m1_9 m1_10 m1_11 m1_12 m1_13 m1_14 m1_15))
theorem s55_0_4_eq (m1_0 : Int) (m1_1 : Int) (m1_2 : Int) (m1_3 : Int) (m1_4 : Int) (m1_5 : Int) (m1_6 : Int) (m1_7 : Int) (m1_8 : Int) (m1_9 : Int) (m1_10 : Int) (m1_11 : Int) (m1_12 : Int) (m1_13 : Int) (m1_14 : Int) (m1_15 : Int) : goK qk false 0 fa55 0 (T55_0 4 m1_0 m1_1 m1_2 m1_3 m1_4 m1_5 m1_6 m1_7 m1_8 m1_9 m1_10 m1_11 m1_12 m1_13 m1_14 m1_15) = s55_0_4 m1_0 m1_1 m1_2 m1_3 m1_4 m1_5 m1_6 m1_7 m1_8 m1_9 m1_10 m1_11 m1_12 m1_13 m1_14 m1_15 := by kernel_rfl
theorem s55_0_4_run (m1_0 : Int) (m1_1 : Int) (m1_2 : Int) (m1_3 : Int) (m1_4 : Int) (m1_5 : Int) (m1_6 : Int) (m1_7 : Int) (m1_8 : Int) (m1_9 : Int) (m1_10 : Int) (m1_11 : Int) (m1_12 : Int) (m1_13 : Int) (m1_14 : Int) (m1_15 : Int) {o o' : Out} (h : s55_0_4 m1_0 m1_1 m1_2 m1_3 m1_4 m1_5 m1_6 m1_7 m1_8 m1_9 m1_10 m1_11 m1_12 m1_13 m1_14 m1_15 = some o) (hg : Go qk false 0 fa55 o o') : Go qk false 0 fa55 (.head 0 (T55_0 4 m1_0 m1_1 m1_2 m1_3 m1_4 m1_5 m1_6 m1_7 m1_8 m1_9 m1_10 m1_11 m1_12 m1_13 m1_14 m1_15)) o' := .step ((s55_0_4_eq m1_0 m1_1 m1_2 m1_3 m1_4 m1_5 m1_6 m1_7 m1_8 m1_9 m1_10 m1_11 m1_12 m1_13 m1_14 m1_15).trans h) hg
noncomputable def s55_0_5 (m1_0 : Int) (m1_1 : Int) (m1_2 : Int) (m1_3 : Int) (m1_4 : Int) (m1_5 : Int) (m1_6 : Int) (m1_7 : Int) (m1_8 : Int) (m1_9 : Int) (m1_10 : Int) (m1_11 : Int) (m1_12 : Int) (m1_13 : Int) (m1_14 : Int) (m1_15 : Int) : R :=
  pcK qcfg 64 [V.int .u32 5] fun r =>
  kI .u32 r fun r64 =>
  some (.head 0 (T55_0 6 m1_0 m1_1 m1_2 m1_3 m1_4 r64 m1_6 m1_7 m1_8 m1_9 m1_10 m1_11 m1_12 m1_13 m1_14 m1_15))
theorem s55_0_5_eq (m1_0 : Int) (m1_1 : Int) (m1_2 : Int) (m1_3 : Int) (m1_4 : Int) (m1_5 : Int) (m1_6 : Int) (m1_7 : Int) (m1_8 : Int) (m1_9 : Int) (m1_10 : Int) (m1_11 : Int) (m1_12 : Int) (m1_13 : Int) (m1_14 : Int) (m1_15 : Int) : goK qk false 0 fa55 0 (T55_0 5 m1_0 m1_1 m1_2 m1_3 m1_4 m1_5 m1_6 m1_7 m1_8 m1_9 m1_10 m1_11 m1_12 m1_13 m1_14 m1_15) = s55_0_5 m1_0 m1_1 m1_2 m1_3 m1_4 m1_5 m1_6 m1_7 m1_8 m1_9 m1_10 m1_11 m1_12 m1_13 m1_14 m1_15 := by kernel_rfl
theorem s55_0_5_run (m1_0 : Int) (m1_1 : Int) (m1_2 : Int) (m1_3 : Int) (m1_4 : Int) (m1_5 : Int) (m1_6 : Int) (m1_7 : Int) (m1_8 : Int) (m1_9 : Int) (m1_10 : Int) (m1_11 : Int) (m1_12 : Int) (m1_13 : Int) (m1_14 : Int) (m1_15 : Int) {o o' : Out} (h : s55_0_5 m1_0 m1_1 m1_2 m1_3 m1_4 m1_5 m1_6 m1_7 m1_8 m1_9 m1_10 m1_11 m1_12 m1_13 m1_14 m1_15 = some o) (hg : Go qk false 0 fa55 o o') : Go qk false 0 fa55 (.head 0 (T55_0 5 m1_0 m1_1 m1_2 m1_3 m1_4 m1_5 m1_6 m1_7 m1_8 m1_9 m1_10 m1_11 m1_12 m1_13 m1_14 m1_15)) o' := .step ((s55_0_5_eq m1_0 m1_1 m1_2 m1_3 m1_4 m1_5 m1_6 m1_7 m1_8 m1_9 m1_10 m1_11 m1_12 m1_13 m1_14 m1_15).trans h) hg
noncomputable def s55_0_6 (m1_0 : Int) (m1_1 : Int) (m1_2 : Int) (m1_3 : Int) (m1_4 : Int) (m1_5 : Int) (m1_6 : Int) (m1_7 : Int) (m1_8 : Int) (m1_9 : Int) (m1_10 : Int) (m1_11 : Int) (m1_12 : Int) (m1_13 : Int) (m1_14 : Int) (m1_15 : Int) : R :=
  pcK qcfg 64 [V.int .u32 6] fun r =>
  kI .u32 r fun r64 =>
  some (.head 0 (T55_0 7 m1_0 m1_1 m1_2 m1_3 m1_4 m1_5 r64 m1_7 m1_8 m1_9 m1_10 m1_11 m1_12 m1_13 m1_14 m1_15))
theorem s55_0_6_eq (m1_0 : Int) (m1_1 : Int) (m1_2 : Int) (m1_3 : Int) (m1_4 : Int) (m1_5 : Int) (m1_6 : Int) (m1_7 : Int) (m1_8 : Int) (m1_9 : Int) (m1_10 : Int) (m1_11 : Int) (m1_12 : Int) (m1_13 : Int) (m1_14 : Int) (m1_15 : Int) : goK qk false 0 fa55 0 (T55_0 6 m1_0 m1_1 m1_2 m1_3 m1_4 m1_5 m1_6 m1_7 m1_8 m1_9 m1_10 m1_11 m1_12 m1_13 m1_14 m1_15) = s55_0_6 m1_0 m1_1 m1_2 m1_3 m1_4 m1_5 m1_6 m1_7 m1_8 m1_9 m1_10 m1_11 m1_12 m1_13 m1_14 m1_15 := by kernel_rfl
theorem s55_0_6_run (m1_0 : Int) (m1_1 : Int) (m1_2 : Int) (m1_3 : Int) (m1_4 : Int) (m1_5 : Int) (m1_6 : Int) (m1_7 : Int) (m1_8 : Int) (m1_9 : Int) (m1_10 : Int) (m1_11 : Int) (m1_12 : Int) (m1_13 : Int) (m1_14 : Int) (m1_15 : Int) {o o' : Out} (h : s55_0_6 m1_0 m1_1 m1_2 m1_3 m1_4 m1_5 m1_6 m1_7 m1_8 m1_9 m1_10 m1_11 m1_12 m1_13 m1_14 m1_15 = some o) (hg : Go qk false 0 fa55 o o') : Go qk false 0 fa55 (.head 0 (T55_0 6 m1_0 m1_1 m1_2 m1_3 m1_4 m1_5 m1_6 m1_7 m1_8 m1_9 m1_10 m1_11 m1_12 m1_13 m1_14 m1_15)) o' := .step ((s55_0_6_eq m1_0 m1_1 m1_2 m1_3 m1_4 m1_5 m1_6 m1_7 m1_8 m1_9 m1_10 m1_11 m1_12 m1_13 m1_14 m1_15).trans h) hg
noncomputable def s55_0_7 (m1_0 : Int) (m1_1 : Int) (m1_2 : Int) (m1_3 : Int) (m1_4 : Int) (m1_5 : Int) (m1_6 : Int) (m1_7 : Int) (m1_8 : Int) (m1_9 : Int) (m1_10 : Int) (m1_11 : Int) (m1_12 : Int) (m1_13 : Int) (m1_14 : Int) (m1_15 : Int) : R :=
  pcK qcfg 64 [V.int .u32 7] fun r =>
  kI .u32 r fun r64 =>
  some (.head 0 (T55_0 8 m1_0 m1_1 m1_2 m1_3 m1_4 m1_5 m1_6 r64 m1_8 m1_9 m1_10 m1_11 m1_12 m1_13 m1_14 m1_15))
theorem s55_0_7_eq (m1_0 : Int) (m1_1 : Int) (m1_2 : Int) (m1_3 : Int) (m1_4 : Int) (m1_5 : Int) (m1_6 : Int) (m1_7 : Int) (m1_8 : Int) (m1_9 : Int) (m1_10 : Int) (m1_11 : Int) (m1_12 : Int) (m1_13 : Int) (m1_14 : Int) (m1_15 : Int) : goK qk false 0 fa55 0 (T55_0 7 m1_0 m1_1 m1_2 m1_3 m1_4 m1_5 m1_6 m1_7 m1_8 m1_9 m1_10 m1_11 m1_12 m1_13 m1_14 m1_15) = s55_0_7 m1_0 m1_1 m1_2 m1_3 m1_4 m1_5 m1_6 m1_7 m1_8 m1_9 m1_10 m1_11 m1_12 m1_13 m1_14 m1_15 := by kernel_rfl
theorem s55_0_7_run (m1_0 : Int) (m1_1 : Int) (m1_2 : Int) (m1_3 : Int) (m1_4 : Int) (m1_5 : Int) (m1_6 : Int) (m1_7 : Int) (m1_8 : Int) (m1_9 : Int) (m1_10 : Int) (m1_11 : Int) (m1_12 : Int) (m1_13 : Int) (m1_14 : Int) (m1_15 : Int) {o o' : Out} (h : s55_0_7 m1_0 m1_1 m1_2 m1_3 m1_4 m1_5 m1_6 m1_7 m1_8 m1_9 m1_10 m1_11 m1_12 m1_13 m1_14 m1_15 = some o) (hg : Go qk false 0 fa55 o o') : Go qk false 0 fa55 (.head 0 (T55_0 7 m1_0 m1_1 m1_2 m1_3 m1_4 m1_5 m1_6 m1_7 m1_8 m1_9 m1_10 m1_11 m1_12 m1_13 m1_14 m1_15)) o' := .step ((s55_0_7_eq m1_0 m1_1 m1_2 m1_3 m1_4 m1_5 m1_6 m1_7 m1_8 m1_9 m1_10 m1_11 m1_12 m1_13 m1_14 m1_15).trans h) hg
noncomputable def s55_0_8 (m1_0 : Int) (m1_1 : Int) (m1_2 : Int) (m1_3 : Int) (m1_4 : Int) (m1_5 : Int) (m1_6 : Int) (m1_7 : Int) (m1_8 : Int) (m1_9 : Int) (m1_10 : Int) (m1_11 : Int) (m1_12 : Int) (m1_13 : Int) (m1_14 : Int) (m1_15 : Int) : R :=
  pcK qcfg 64 [V.int .u32 8] fun r =>
  kI .u32 r fun r64 =>
  some (.head 0 (T55_0 9 m1_0 m1_1 m1_2 m1_3 m1_4 m1_5 m1_6 m1_7 r64 m1_9 m1_10 m1_11 m1_12 m1_13 m1_14 m1_15))
theorem s55_0_8_eq (m1_0 : Int) (m1_1 : Int) (m1_2 : Int) (m1_3 : Int) (m1_4 : Int) (m1_5 : Int) (m1_6 : Int) (m1_7 : Int) (m1_8 : Int) (m1_9 : Int) (m1_10 : Int) (m1_11 : Int) (m1_12 : Int) (m1_13 : Int) (m1_14 : Int) (m1_15 : Int) : goK qk false 0 fa55 0 (T55_0 8 m1_0 m1_1 m1_2 m1_3 m1_4 m1_5 m1_6 m1_7 m1_8 m1_9 m1_10 m1_11 m1_12 m1_13 m1_14 m1_15) = s55_0_8 m1_0 m1_1 m1_2 m1_3 m1_4 m1_5 m1_6 m1_7 m1_8 m1_9 m1_10 m1_11 m1_12 m1_13 m1_14 m1_15 := by kernel_rfl
theorem s55_0_8_run (m1_0 : Int) (m1_1 : Int) (m1_2 : Int) (m1_3 : Int) (m1_4 : Int) (m1_5 : Int) (m1_6 : Int) (m1_7 : Int) (m1_8 : Int) (m1_9 : Int) (m1_10 : Int) (m1_11 : Int) (m1_12 : Int) (m1_13 : Int) (m1_14 : Int) (m1_15 : Int) {o o' : Out} (h : s55_0_8 m1_0 m1_1 m1_2 m1_3 m1_4 m1_5 m1_6 m1_7 m1_8 m1_9 m1_10 m1_11 m1_12 m1_13 m1_14 m1_15 = some o) (hg : Go qk false 0 fa55 o o') : Go qk false 0 fa55 (.head 0 (T55_0 8 m1_0 m1_1 m1_2 m1_3 m1_4 m1_5 m1_6 m1_7 m1_8 m1_9 m1_10 m1_11 m1_12 m1_13 m1_14 m1_15)) o' := .step ((s55_0_8_eq m1_0 m1_1 m1_2 m1_3 m1_4 m1_5 m1_6 m1_7 m1_8 m1_9 m1_10 m1_11 m1_12 m1_13 m1_14 m1_15).trans h) hg
noncomputable def s55_0_9 (m1_0 : Int) (m1_1 : Int) (m1_2 : Int) (m1_3 : Int) (m1_4 : Int) (m1_5 : Int) (m1_6 : Int) (m1_7 : Int) (m1_8 : Int) (m1_9 : Int) (m1_10 : Int) (m1_11 : Int) (m1_12 : Int) (m1_13 : Int) (m1_14 : Int) (m1_15 : Int) : R :=
  pcK qcfg 64 [V.int .u32 9] fun r =>
  kI .u32 r fun r64 =>
  some (.head 0 (T55_0 10 m1_0 m1_1 m1_2 m1_3 m1_4 m1_5 m1_6 m1_7 m1_8 r64 m1_10 m1_11 m1_12 m1_13 m1_14 m1_15))
theorem s55_0_9_eq (m1_0 : Int) (m1_1 : Int) (m1_2 : Int) (m1_3 : Int) (m1_4 : Int) (m1_5 : Int) (m1_6 : Int) (m1_7 : Int) (m1_8 : Int) (m1_9 : Int) (m1_10 : Int) (m1_11 : Int) (m1_12 : Int) (m1_13 : Int) (m1_14 : Int) (m1_15 : Int) : goK qk false 0 fa55 0 (T55_0 9 m1_0 m1_1 m1_2 m1_3 m1_4 m1_5 m1_6 m1_7 m1_8 m1_9 m1_10 m1_11 m1_12 m1_13 m1_14 m1_15) = s55_0_9 m1_0 m1_1 m1_2 m1_3 m1_4 m1_5 m1_6 m1_7 m1_8 m1_9 m1_10 m1_11 m1_12 m1_13 m1_14 m1_15 := by kernel_rfl
theorem s55_0_9_run (m1_0 : Int) (m1_1 : Int) (m1_2 : Int) (m1_3 : Int) (m1_4 : Int) (m1_5 : Int) (m1_6 : Int) (m1_7 : Int) (m1_8 : Int) (m1_9 : Int) (m1_10 : Int) (m1_11 : Int) (m1_12 : Int) (m1_13 : Int) (m1_14 : Int) (m1_15 : Int) {o o' : Out} (h : s55_0_9 m1_0 m1_1 m1_2 m1_3 m1_4 m1_5 m1_6 m1_7 m1_8 m1_9 m1_10 m1_11 m1_12 m1_13 m1_14 m1_15 = some o) (hg : Go qk false 0 fa55 o o') : Go qk false 0 fa55 (.head 0 (T55_0 9 m1_0 m1_1 m1_2 m1_3 m1_4 m1_5 m1_6 m1_7 m1_8 m1_9 m1_10 m1_11 m1_12 m1_13 m1_14 m1_15)) o' := .step ((s55_0_9_eq m1_0 m1_1 m1_2 m1_3 m1_4 m1_5 m1_6 m1_7 m1_8 m1_9 m1_10 m1_11 m1_12 m1_13 m1_14 m1_15).trans h) hg
noncomputable def s55_0_10 (m1_0 : Int) (m1_1 : Int) (m1_2 : Int) (m1_3 : Int) (m1_4 : Int) (m1_5 : Int) (m1_6 : Int) (m1_7 : Int) (m1_8 : Int) (m1_9 : Int) (m1_10 : Int) (m1_11 : Int) (m1_12 : Int) (m1_13 : Int) (m1_14 : Int) (m1_15 : Int) : R :=
  pcK qcfg 64 [V.int .u32 10] fun r =>
  kI .u32 r fun r64 =>
  some (.head 0 (T55_0 11 m1_0 m1_1 m1_2 m1_3 m1_4 m1_5 m1_6 m1_7 m1_8 m1_9 r64 m1_11 m1_12 m1_13 m1_14 m1_15))
theorem s55_0_10_eq (m1_0 : Int) (m1_1 : Int) (m1_2 : Int) (m1_3 : Int) (m1_4 : Int) (m1_5 : Int) (m1_6 : Int) (m1_7 : Int) (m1_8 : Int) (m1_9 : Int) (m1_10 : Int) (m1_11 : Int) (m1_12 : Int) (m1_13 : Int) (m1_14 : Int) (m1_15 : Int) : goK qk false 0 fa55 0 (T55_0 10 m1_0 m1_1 m1_2 m1_3 m1_4 m1_5 m1_6 m1_7 m1_8 m1_9 m1_10 m1_11 m1_12 m1_13 m1_14 m1_15) = s55_0_10 m1_0 m1_1 m1_2 m1_3 m1_4 m1_5 m1_6 m1_7 m1_8 m1_9 m1_10 m1_11 m1_12 m1_13 m1_14 m1_15 := by kernel_rfl
theorem s55_0_10_run (m1_0 : Int) (m1_1 : Int) (m1_2 : Int) (m1_3 : Int) (m1_4 : Int) (m1_5 : Int) (m1_6 : Int) (m1_7 : Int) (m1_8 : Int) (m1_9 : Int) (m1_10 : Int) (m1_11 : Int) (m1_12 : Int) (m1_13 : Int) (m1_14 : Int) (m1_15 : Int) {o o' : Out} (h : s55_0_10 m1_0 m1_1 m1_2 m1_3 m1_4 m1_5 m1_6 m1_7 m1_8 m1_9 m1_10 m1_11 m1_12 m1_13 m1_14 m1_15 = some o) (hg : Go qk false 0 fa55 o o') : Go qk false 0 fa55 (.head 0 (T55_0 10 m1_0 m1_1 m1_2 m1_3 m1_4 m1_5 m1_6 m1_7 m1_8 m1_9 m1_10 m1_11 m1_12 m1_13 m1_14 m1_15)) o' := .step ((s55_0_10_eq m1_0 m1_1 m1_2 m1_3 m1_4 m1_5 m1_6 m1_7 m1_8 m1_9 m1_10 m1_11 m1_12 m1_13 m1_14 m1_15).trans h) hg
noncomputable def s55_0_11 (m1_0 : Int) (m1_1 : Int) (m1_2 : Int) (m1_3 : Int) (m1_4 : Int) (m1_5 : Int) (m1_6 : Int) (m1_7 : Int) (m1_8 : Int) (m1_9 : Int) (m1_10 : Int) (m1_11 : Int) (m1_12 : Int) (m1_13 : Int) (m1_14 : Int) (m1_15 : Int) : R :=
  pcK qcfg 64 [V.int .u32 11] fun r =>
  kI .u32 r fun r64 =>
  some (.head 0 (T55_0 12 m1_0 m1_1 m1_2 m1_3 m1_4 m1_5 m1_6 m1_7 m1_8 m1_9 m1_10 r64 m1_12 m1_13 m1_14 m1_15))
theorem s55_0_11_eq (m1_0 : Int) (m1_1 : Int) (m1_2 : Int) (m1_3 : Int) (m1_4 : Int) (m1_5 : Int) (m1_6 : Int) (m1_7 : Int) (m1_8 : Int) (m1_9 : Int) (m1_10 : Int) (m1_11 : Int) (m1_12 : Int) (m1_13 : Int) (m1_14 : Int) (m1_15 : Int) : goK qk false 0 fa55 0 (T55_0 11 m1_0 m1_1 m1_2 m1_3 m1_4 m1_5 m1_6 m1_7 m1_8 m1_9 m1_10 m1_11 m1_12 m1_13 m1_14 m1_15) = s55_0_11 m1_0 m1_1 m1_2 m1_3 m1_4 m1_5 m1_6 m1_7 m1_8 m1_9 m1_10 m1_11 m1_12 m1_13 m1_14 m1_15 := by kernel_rfl
theorem s55_0_11_run (m1_0 : Int) (m1_1 : Int) (m1_2 : Int) (m1_3 : Int) (m1_4 : Int) (m1_5 : Int) (m1_6 : Int) (m1_7 : Int) (m1_8 : Int) (m1_9 : Int) (m1_10 : Int) (m1_11 : Int) (m1_12 : Int) (m1_13 : Int) (m1_14 : Int) (m1_15 : Int) {o o' : Out} (h : s55_0_11 m1_0 m1_1 m1_2 m1_3 m1_4 m1_5 m1_6 m1_7 m1_8 m1_9 m1_10 m1_11 m1_12 m1_13 m1_14 m1_15 = some o) (hg : Go qk false 0 fa55 o o') : Go qk false 0 fa55 (.head 0 (T55_0 11 m1_0 m1_1 m1_2 m1_3 m1_4 m1_5 m1_6 m1_7 m1_8 m1_9 m1_10 m1_11 m1_12 m1_13 m1_14 m1_15)) o' := .step ((s55_0_11_eq m1_0 m1_1 m1_2 m1_3 m1_4 m1_5 m1_6 m1_7 m1_8 m1_9 m1_10 m1_11 m1_12 m1_13 m1_14 m1_15).trans h) hg
noncomputable def s55_0_12 (m1_0 : Int) (m1_1 : Int) (m1_2 : Int) (m1_3 : Int) (m1_4 : Int) (m1_5 : Int) (m1_6 : Int) (m1_7 : Int) (m1_8 : Int) (m1_9 : Int) (m1_10 : Int) (m1_11 : Int) (m1_12 : Int) (m1_13 : Int) (m1_14 : Int) (m1_15 : Int) : R :=
  pcK qcfg 64 [V.int .u32 12] fun r =>
  kI .u32 r fun r64 =>
  some (.head 0 (T55_0 13 m1_0 m1_1 m1_2 m1_3 m1_4 m1_5 m1_6 m1_7 m1_8 m1_9 m1_10 m1_11 r64 m1_13 m1_14 m1_15))
theorem s55_0_12_eq (m1_0 : Int) (m1_1 : Int) (m1_2 : Int) (m1_3 : Int) (m1_4 : Int) (m1_5 : Int) (m1_6 : Int) (m1_7 : Int) (m1_8 : Int) (m1_9 : Int) (m1_10 : Int) (m1_11 : Int) (m1_12 : Int) (m1_13 : Int) (m1_14 : Int) (m1_15 : Int) : goK qk false 0 fa55 0 (T55_0 12 m1_0 m1_1 m1_2 m1_3 m1_4 m1_5 m1_6 m1_7 m1_8 m1_9 m1_10 m1_11 m1_12 m1_13 m1_14 m1_15) = s55_0_12 m1_0 m1_1 m1_2 m1_3 m1_4 m1_5 m1_6 m1_7 m1_8 m1_9 m1_10 m1_11 m1_12 m1_13 m1_14 m1_15 := by kernel_rfl
theorem s55_0_12_run (m1_0 : Int) (m1_1 : Int) (m1_2 : Int) (m1_3 : Int) (m1_4 : Int) (m1_5 : Int) (m1_6 : Int) (m1_7 : Int) (m1_8 : Int) (m1_9 : Int) (m1_10 : Int) (m1_11 : Int) (m1_12 : Int) (m1_13 : Int) (m1_14 : Int) (m1_15 : Int) {o o' : Out} (h : s55_0_12 m1_0 m1_1 m1_2 m1_3 m1_4 m1_5 m1_6 m1_7 m1_8 m1_9 m1_10 m1_11 m1_12 m1_13 m1_14 m1_15 = some o) (hg : Go qk false 0 fa55 o o') : Go qk false 0 fa55 (.head 0 (T55_0 12 m1_0 m1_1 m1_2 m1_3 m1_4 m1_5 m1_6 m1_7 m1_8 m1_9 m1_10 m1_11 m1_12 m1_13 m1_14 m1_15)) o' := .step ((s55_0_12_eq m1_0 m1_1 m1_2 m1_3 m1_4 m1_5 m1_6 m1_7 m1_8 m1_9 m1_10 m1_11 m1_12 m1_13 m1_14 m1_15).trans h) hg
noncomputable def s55_0_13 (m1_0 : Int) (m1_1 : Int) (m1_2 : Int) (m1_3 : Int) (m1_4 : Int) (m1_5 : Int) (m1_6 : Int) (m1_7 : Int) (m1_8 : Int) (m1_9 : Int) (m1_10 : Int) (m1_11 : Int) (m1_12 : Int) (m1_13 : Int) (m1_14 : Int) (m1_15 : Int) : R :=
  pcK qcfg 64 [V.int .u32 13] fun r =>
  kI .u32 r fun r64 =>
  some (.head 0 (T55_0 14 m1_0 m1_1 m1_2 m1_3 m1_4 m1_5 m1_6 m1_7 m1_8 m1_9 m1_10 m1_11 m1_12 r64 m1_14 m1_15))
theorem s55_0_13_eq (m1_0 : Int) (m1_1 : Int) (m1_2 : Int) (m1_3 : Int) (m1_4 : Int) (m1_5 : Int) (m1_6 : Int) (m1_7 : Int) (m1_8 : Int) (m1_9 : Int) (m1_10 : Int) (m1_11 : Int) (m1_12 : Int) (m1_13 : Int) (m1_14 : Int) (m1_15 : Int) : goK qk false 0 fa55 0 (T55_0 13 m1_0 m1_1 m1_2 m1_3 m1_4 m1_5 m1_6 m1_7 m1_8 m1_9 m1_10 m1_11 m1_12 m1_13 m1_14 m1_15) = s55_0_13 m1_0 m1_1 m1_2 m1_3 m1_4 m1_5 m1_6 m1_7 m1_8 m1_9 m1_10 m1_11 m1_12 m1_13 m1_14 m1_15 := by kernel_rfl
theorem s55_0_13_run (m1_0 : Int) (m1_1 : Int) (m1_2 : Int) (m1_3 : Int) (m1_4 : Int) (m1_5 : Int) (m1_6 : Int) (m1_7 : Int) (m1_8 : Int) (m1_9 : Int) (m1_10 : Int) (m1_11 : Int) (m1_12 : Int) (m1_13 : Int) (m1_14 : Int) (m1_15 : Int) {o o' : Out} (h : s55_0_13 m1_0 m1_1 m1_2 m1_3 m1_4 m1_5 m1_6 m1_7 m1_8 m1_9 m1_10 m1_11 m1_12 m1_13 m1_14 m1_15 = some o) (hg : Go qk false 0 fa55 o o') : Go qk false 0 fa55 (.head 0 (T55_0 13 m1_0 m1_1 m1_2 m1_3 m1_4 m1_5 m1_6 m1_7 m1_8 m1_9 m1_10 m1_11 m1_12 m1_13 m1_14 m1_15)) o' := .step ((s55_0_13_eq m1_0 m1_1 m1_2 m1_3 m1_4 m1_5 m1_6 m1_7 m1_8 m1_9 m1_10 m1_11 m1_12 m1_13 m1_14 m1_15).trans h) hg
noncomputable def s55_0_14 (m1_0 : Int) (m1_1 : Int) (m1_2 : Int) (m1_3 : Int) (m1_4 : Int) (m1_5 : Int) (m1_6 : Int) (m1_7 : Int) (m1_8 : Int) (m1_9 : Int) (m1_10 : Int) (m1_11 : Int) (m1_12 : Int) (m1_13 : Int) (m1_14 : Int) (m1_15 : Int) : R :=
  pcK qcfg 64 [V.int .u32 14] fun r =>
  kI .u32 r fun r64 =>
  some (.head 0 (T55_0 15 m1_0 m1_1 m1_2 m1_3 m1_4 m1_5 m1_6 m1_7 m1_8 m1_9 m1_10 m1_11 m1_12 m1_13 r64 m1_15))
theorem s55_0_14_eq (m1_0 : Int) (m1_1 : Int) (m1_2 : Int) (m1_3 : Int) (m1_4 : Int) (m1_5 : Int) (m1_6 : Int) (m1_7 : Int) (m1_8 : Int) (m1_9 : Int) (m1_10 : Int) (m1_11 : Int) (m1_12 : Int) (m1_13 : Int) (m1_14 : Int) (m1_15 : Int) : goK qk false 0 fa55 0 (T55_0 14 m1_0 m1_1 m1_2 m1_3 m1_4 m1_5 m1_6 m1_7 m1_8 m1_9 m1_10 m1_11 m1_12 m1_13 m1_14 m1_15) = s55_0_14 m1_0 m1_1 m1_2 m1_3 m1_4 m1_5 m1_6 m1_7 m1_8 m1_9 m1_10 m1_11 m1_12 m1_13 m1_14 m1_15 := by kernel_rfl
theorem s55_0_14_run (m1_0 : Int) (m1_1 : Int) (m1_2 : Int) (m1_3 : Int) (m1_4 : Int) (m1_5 : Int) (m1_6 : Int) (m1_7 : Int) (m1_8 : Int) (m1_9 : Int) (m1_10 : Int) (m1_11 : Int) (m1_12 : Int) (m1_13 : Int) (m1_14 : Int) (m1_15 : Int) {o o' : Out} (h : s55_0_14 m1_0 m1_1 m1_2 m1_3 m1_4 m1_5 m1_6 m1_7 m1_8 m1_9 m1_10 m1_11 m1_12 m1_13 m1_14 m1_15 = some o) (hg : Go qk false 0 fa55 o o') : Go qk false 0 fa55 (.head 0 (T55_0 14 m1_0 m1_1 m1_2 m1_3 m1_4 m1_5 m1_6 m1_7 m1_8 m1_9 m1_10 m1_11 m1_12 m1_13 m1_14 m1_15)) o' := .step ((s55_0_14_eq m1_0 m1_1 m1_2 m1_3 m1_4 m1_5 m1_6 m1_7 m1_8 m1_9 m1_10 m1_11 m1_12 m1_13 m1_14 m1_15).trans h) hg
noncomputable def s55_0_15 (m1_0 : Int) (m1_1 : Int) (m1_2 : Int) (m1_3 : Int) (m1_4 : Int) (m1_5 : Int) (m1_6 : Int) (m1_7 : Int) (m1_8 : Int) (m1_9 : Int) (m1_10 : Int) (m1_11 : Int) (m1_12 : Int) (m1_13 : Int) (m1_14 : Int) (m1_15 : Int) : R :=
  pcK qcfg 64 [V.int .u32 15] fun r =>
  kI .u32 r fun r64 =>
  some (.head 0 (T55_0 16 m1_0 m1_1 m1_2 m1_3 m1_4 m1_5 m1_6 m1_7 m1_8 m1_9 m1_10 m1_11 m1_12 m1_13 m1_14 r64))
theorem s55_0_15_eq (m1_0 : Int) (m1_1 : Int) (m1_2 : Int) (m1_3 : Int) (m1_4 : Int) (m1_5 : Int) (m1_6 : Int) (m1_7 : Int) (m1_8 : Int) (m1_9 : Int) (m1_10 : Int) (m1_11 : Int) (m1_12 : Int) (m1_13 : Int) (m1_14 : Int) (m1_15 : Int) : goK qk false 0 fa55 0 (T55_0 15 m1_0 m1_1 m1_2 m1_3 m1_4 m1_5 m1_6 m1_7 m1_8 m1_9 m1_10 m1_11 m1_12 m1_13 m1_14 m1_15) = s55_0_15 m1_0 m1_1 m1_2 m1_3 m1_4 m1_5 m1_6 m1_7 m1_8 m1_9 m1_10 m1_11 m1_12 m1_13 m1_14 m1_15 := by kernel_rfl
theorem s55_0_15_run (m1_0 : Int) (m1_1 : Int) (m1_2 : Int) (m1_3 : Int) (m1_4 : Int) (m1_5 : Int) (m1_6 : Int) (m1_7 : Int) (m1_8 : Int) (m1_9 : Int) (m1_10 : Int) (m1_11 : Int) (m1_12 : Int) (m1_13 : Int) (m1_14 : Int) (m1_15 : Int) {o o' : Out} (h : s55_0_15 m1_0 m1_1 m1_2 m1_3 m1_4 m1_5 m1_6 m1_7 m1_8 m1_9 m1_10 m1_11 m1_12 m1_13 m1_14 m1_15 = some o) (hg : Go qk false 0 fa55 o o') : Go qk false 0 fa55 (.head 0 (T55_0 15 m1_0 m1_1 m1_2 m1_3 m1_4 m1_5 m1_6 m1_7 m1_8 m1_9 m1_10 m1_11 m1_12 m1_13 m1_14 m1_15)) o' := .step ((s55_0_15_eq m1_0 m1_1 m1_2 m1_3 m1_4 m1_5 m1_6 m1_7 m1_8 m1_9 m1_10 m1_11 m1_12 m1_13 m1_14 m1_15).trans h) hg
noncomputable def s55_0_16 (m1_0 : Int) (m1_1 : Int) (m1_2 : Int) (m1_3 : Int) (m1_4 : Int) (m1_5 : Int) (m1_6 : Int) (m1_7 : Int) (m1_8 : Int) (m1_9 : Int) (m1_10 : Int) (m1_11 : Int) (m1_12 : Int) (m1_13 : Int) (m1_14 : Int) (m1_15 : Int) : R :=
  some (.done (V.agg [V.int .u32 m1_0, V.int .u32 m1_1, V.int .u32 m1_2, V.int .u32 m1_3, V.int .u32 m1_4, V.int .u32 m1_5, V.int .u32 m1_6, V.int .u32 m1_7, V.int .u32 m1_8, V.int .u32 m1_9, V.int .u32 m1_10, V.int .u32 m1_11, V.int .u32 m1_12, V.int .u32 m1_13, V.int .u32 m1_14, V.int .u32 m1_15]))
theorem s55_0_16_eq (m1_0 : Int) (m1_1 : Int) (m1_2 : Int) (m1_3 : Int) (m1_4 : Int) (m1_5 : Int) (m1_6 : Int) (m1_7 : Int) (m1_8 : Int) (m1_9 : Int) (m1_10 : Int) (m1_11 : Int) (m1_12 : Int) (m1_13 : Int) (m1_14 : Int) (m1_15 : Int) : goK qk false 0 fa55 0 (T55_0 16 m1_0 m1_1 m1_2 m1_3 m1_4 m1_5 m1_6 m1_7 m1_8 m1_9 m1_10 m1_11 m1_12 m1_13 m1_14 m1_15) = s55_0_16 m1_0 m1_1 m1_2 m1_3 m1_4 m1_5 m1_6 m1_7 m1_8 m1_9 m1_10 m1_11 m1_12 m1_13 m1_14 m1_15 := by kernel_rfl
theorem s55_0_16_run (m1_0 : Int) (m1_1 : Int) (m1_2 : Int) (m1_3 : Int) (m1_4 : Int) (m1_5 : Int) (m1_6 : Int) (m1_7 : Int) (m1_8 : Int) (m1_9 : Int) (m1_10 : Int) (m1_11 : Int) (m1_12 : Int) (m1_13 : Int) (m1_14 : Int) (m1_15 : Int) {o o' : Out} (h : s55_0_16 m1_0 m1_1 m1_2 m1_3 m1_4 m1_5 m1_6 m1_7 m1_8 m1_9 m1_10 m1_11 m1_12 m1_13 m1_14 m1_15 = some o) (hg : Go qk false 0 fa55 o o') : Go qk false 0 fa55 (.head 0 (T55_0 16 m1_0 m1_1 m1_2 m1_3 m1_4 m1_5 m1_6 m1_7 m1_8 m1_9 m1_10 m1_11 m1_12 m1_13 m1_14 m1_15)) o' := .step ((s55_0_16_eq m1_0 m1_1 m1_2 m1_3 m1_4 m1_5 m1_6 m1_7 m1_8 m1_9 m1_10 m1_11 m1_12 m1_13 m1_14 m1_15).trans h) hg
end Go.Proofs.Ytknapnnpmfhogaa