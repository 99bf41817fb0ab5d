/-
  The functions' graphs (printed by walk.py).
-/
import Derived.Test.YtgpgjojejdaibaaS1
namespace Go.Proofs.Ytgpgjojejdaibaa
open Go Go.Lite
set_option maxRecDepth 100000
set_option linter.unusedVariables false
/-! ### budwood/budwoodlaw19.SideKids -/
noncomputable def fa3 : FA := ⟨3, 107, [.tmp 6], [4],
 (.seq
 (.ops false [⟨(some 6), .assign (.const (.bool false)), 4, none, false, false, false⟩])
 (.seq
 (.ops false [mv 16 0 22, ⟨(some 17), .call ⟨(.value (.func 9)), #[(.tmp 16)], #[22]⟩, 22, none, false, false, false⟩, asg 0 17 22])
 (.seq
 (.ops false [mv 18 1 22, ⟨(some 19), .call ⟨(.value (.func 9)), #[(.tmp 18)], #[22]⟩, 22, none, false, false, false⟩, asg 1 19 22])
 (.seq
 (.ops false [mv 20 2 23, ⟨(some 21), .call ⟨(.value (.func 10)), #[(.tmp 20)], #[23]⟩, 23, none, false, false, false⟩, asg 2 21 23])
 (.seq
 (.ops false [mv 23 0 22, mv 24 2 23, ⟨(some 25), .call ⟨(.value (.func 11)), #[(.tmp 23), (.tmp 24)], #[22, 23]⟩, 27, none, false, false, false⟩, mv 22 25 27, ⟨(some 26), .extract (.tmp 22) 0, 22, none, false, false, false⟩, ⟨(some 27), .extract (.tmp 22) 1, 26, none, false, false, false⟩, asg 7 26 22, asg 8 27 26])
 (.seq
 (.ops false [mv 29 0 22, ⟨(some 30), .call ⟨(.value (.func 13)), #[(.tmp 29)], #[22]⟩, 29, none, false, false, false⟩, mv 31 2 23, ⟨(some 32), .call ⟨(.value (.func 14)), #[(.tmp 31)], #[23]⟩, 33, none, false, false, false⟩, ⟨(some 33), .call ⟨(.value (.func 12)), #[(.tmp 30), (.tmp 32)], #[29, 33]⟩, 30, none, false, false, false⟩, mv 28 33 30, ⟨(some 34), .extract (.tmp 28) 0, 29, none, false, false, false⟩, ⟨(some 35), .extract (.tmp 28) 1, 26, none, false, false, false⟩, asg 9 34 29, asg 10 35 26])
 (.seq
 (.seq
 (.ops false [mv 36 7 22, ⟨(some 37), .call ⟨(.value (.func 13)), #[(.tmp 36)], #[22]⟩, 29, none, false, false, false⟩, mv 38 9 29, ⟨(some 39), .call ⟨(.value (.func 15)), #[(.tmp 37), (.tmp 38)], #[29, 29]⟩, 4, none, false, false, false⟩, ⟨(some 40), .unOp .not 4 (.tmp 39), 4, none, false, false, false⟩, mv 41 40 4, ⟨(some 42), .move (.tmp 8), 26, (some (41, false)), false, false, false⟩, ⟨(some 43), .move (.tmp 10), 26, (some (41, false)), false, false, false⟩, ⟨(some 44), .binOp .neq 26 (.tmp 42) (.tmp 43) 26, 4, (some (41, false)), false, false, false⟩, ⟨(some 45), .pick (.tmp 41) (.const (.bool true)) (.tmp 44), 4, none, false, false, false⟩, mv 46 45 4, ⟨(some 47), .move (.tmp 0), 22, (some (46, false)), false, false, false⟩, ⟨(some 48), .move (.tmp 1), 22, (some (46, false)), false, false, false⟩, ⟨(some 49), .call ⟨(.value (.func 17)), #[(.tmp 47), (.tmp 48)], #[22, 22]⟩, 23, (some (46, false)), false, false, false⟩, ⟨(some 50), .call ⟨(.value (.func 14)), #[(.tmp 49)], #[23]⟩, 33, (some (46, false)), false, false, false⟩, ⟨(some 51), .move (.tmp 0), 22, (some (46, false)), false, false, false⟩, ⟨(some 52), .call ⟨(.value (.func 13)), #[(.tmp 51)], #[22]⟩, 29, (some (46, false)), false, false, false⟩, ⟨(some 53), .move (.tmp 1), 22, (some (46, false)), false, false, false⟩, ⟨(some 54), .call ⟨(.value (.func 13)), #[(.tmp 53)], #[22]⟩, 29, (some (46, false)), false, false, false⟩, ⟨(some 55), .call ⟨(.value (.func 18)), #[(.tmp 52), (.tmp 54)], #[29, 29]⟩, 33, (some (46, false)), false, false, false⟩, ⟨(some 56), .call ⟨(.value (.func 16)), #[(.tmp 50), (.tmp 55)], #[33, 33]⟩, 4, (some (46, false)), false, false, false⟩, ⟨(some 57), .unOp .not 4 (.tmp 56), 4, (some (46, false)), false, false, false⟩, ⟨(some 58), .pick (.tmp 46) (.const (.bool true)) (.tmp 57), 4, none, false, false, false⟩])
 (.cond (.tmp 58)
 (.seq
 (.ops false [⟨(some 6), .assign (.const (.bool false)), 4, none, false, false, false⟩])
 (.ret))
 (.skip)))
 (.seq
 (.seq
 (.ops false [⟨(some 11), .assign (.const (.int .i64 (0))), 3, none, false, false, false⟩])
 (.block 0
 (.loop ([0, 3, 4, 5] ++ List.range' 7 4 ++ List.range' 12 95)
 (.seq
 (.seq
 (.ops false [mv 59 11 3, mv 60 2 23, ⟨(some 61), .call ⟨(.builtin .len), #[(.tmp 60)], #[23]⟩, 3, none, false, false, false⟩, ⟨(some 62), .binOp .lss 3 (.tmp 59) (.tmp 61) 3, 4, none, false, false, false⟩])
 (.cond (.tmp 62)
 (.skip)
 (.exit 0)))
 (.seq
 (.block 1
 (.seq
 (.ops false [mv 66 1 22, mv 67 2 23, mv 68 11 3, ⟨(some 69), .indexAddr 23 (.tmp 67) (.tmp 68), 0, none, false, false, false⟩, ⟨(some 70), .load 41 (.tmp 69), 41, none, false, false, false⟩, ⟨(some 71), .call ⟨(.value (.func 19)), #[(.tmp 66), (.tmp 70)], #[22, 41]⟩, 27, none, false, false, false⟩, mv 65 71 27, ⟨(some 72), .extract (.tmp 65) 0, 22, none, false, false, false⟩, ⟨(some 73), .extract (.tmp 65) 1, 26, none, false, false, false⟩, asg 12 72 22, asg 13 73 26])
 (.seq
 (.ops true [mv 75 1 22, ⟨(some 76), .call ⟨(.value (.func 13)), #[(.tmp 75)], #[22]⟩, 29, none, false, false, false⟩, mv 77 2 23, mv 78 11 3, ⟨(some 79), .indexAddr 23 (.tmp 77) (.tmp 78), 0, none, false, false, false⟩, ⟨(some 80), .fieldAddr 41 (.tmp 79) 0, 0, none, false, false, false⟩, ⟨(some 81), .load 3 (.tmp 80), 3, none, false, false, false⟩, mv 82 2 23, mv 83 11 3, ⟨(some 84), .indexAddr 23 (.tmp 82) (.tmp 83), 0, none, false, false, false⟩, ⟨(some 85), .fieldAddr 41 (.tmp 84) 1, 0, none, false, false, false⟩, ⟨(some 86), .load 9 (.tmp 85), 9, none, false, false, false⟩, mv 87 2 23, mv 88 11 3, ⟨(some 89), .indexAddr 23 (.tmp 87) (.tmp 88), 0, none, false, false, false⟩, ⟨(some 90), .fieldAddr 41 (.tmp 89) 2, 0, none, false, false, false⟩, ⟨(some 91), .load 3 (.tmp 90), 3, none, false, false, false⟩, ⟨(some 92), .build 43 #[(0, (.tmp 81)), (1, (.tmp 86)), (2, (.tmp 91))], 43, none, false, false, false⟩, ⟨(some 93), .call ⟨(.value (.func 20)), #[(.tmp 76), (.tmp 92)], #[29, 43]⟩, 30, none, false, true, false⟩, mv 74 93 30, ⟨(some 94), .extract (.tmp 74) 0, 29, none, false, false, false⟩, ⟨(some 95), .extract (.tmp 74) 1, 26, none, false, false, false⟩, asg 14 94 29, asg 15 95 26])
 (.seq
 (.ops false [mv 96 12 22, ⟨(some 97), .call ⟨(.value (.func 13)), #[(.tmp 96)], #[22]⟩, 29, none, false, false, false⟩, mv 98 14 29, ⟨(some 99), .call ⟨(.value (.func 15)), #[(.tmp 97), (.tmp 98)], #[29, 29]⟩, 4, none, false, false, false⟩, ⟨(some 100), .unOp .not 4 (.tmp 99), 4, none, false, false, false⟩, mv 101 100 4, ⟨(some 102), .move (.tmp 13), 26, (some (101, false)), false, false, false⟩, ⟨(some 103), .move (.tmp 15), 26, (some (101, false)), false, false, false⟩, ⟨(some 104), .binOp .neq 26 (.tmp 102) (.tmp 103) 26, 4, (some (101, false)), false, false, false⟩, ⟨(some 105), .pick (.tmp 101) (.const (.bool true)) (.tmp 104), 4, none, false, false, false⟩])
 (.cond (.tmp 105)
 (.seq
 (.ops false [⟨(some 6), .assign (.const (.bool false)), 4, none, false, false, false⟩])
 (.ret))
 (.skip))))))
 (.ops false [mv 63 11 3, ⟨(some 64), .binOp .add 3 (.tmp 63) (.const (.int .i64 (1))) 3, 3, none, false, false, false⟩, asg 11 64 3]))))))
 (.seq
 (.ops false [⟨(some 106), .call ⟨(.value (.func 21)), #[], #[]⟩, 4, none, false, false, false⟩, asg 6 106 4])
 (.ret))))))))))⟩
theorem fa3_eq : fnA scfg.P (scfg.rxf 3) 3 = some fa3 := by kernel_rfl
def T3_0 (x2 : List V) (x11 : Int) (m0 : List V) (z0 : Nat) : S := ⟨[V.junk, V.own 0, V.sl x2, V.junk, V.junk, V.junk, V.bool false] ++ (JU 4) ++ [V.int .i64 x11] ++ (JU 95), [O.row 66 m0 z0]⟩
noncomputable def e3 (a0 : List V) (a1 : List V) (a2 : List V) : R :=
  pcK scfg 9 [V.sl a0] fun r =>
  kF 66 r fun r9 =>
  pcK scfg 9 [V.sl a1] fun r_1 =>
  kF 66 r_1 fun r9_1 =>
  pcK scfg 10 [V.sl a2] fun r_2 =>
  kF 41 r_2 fun r10 =>
  pcK scfg 11 [V.sl r9, V.sl r10] fun r_3 =>
  d27 r_3 fun r11_0 r11_1 =>
  pcK scfg 13 [V.sl r9] fun r_4 =>
  kF 71 r_4 fun r13 =>
  pcK scfg 14 [V.sl r10] fun r_5 =>
  kF 43 r_5 fun r14 =>
  pcK scfg 12 [V.sl r13, V.sl r14] fun r_6 =>
  d30 r_6 fun r12_0 r12_1 =>
  pcK scfg 13 [V.sl r11_0] fun r_7 =>
  kF 71 r_7 fun r13_1 =>
  pcK scfg 15 [V.sl r13_1, V.sl r12_0] fun r_8 =>
  kB r_8 fun r15 =>
  cond (!r15)
 (some (.done (V.bool false)))
 (cond (r11_1 != r12_1)
 (some (.done (V.bool false)))
 (pcK scfg 17 [V.sl r9, V.sl r9_1] fun r_9 =>
  kF 41 r_9 fun r17 =>
  pcK scfg 14 [V.sl r17] fun r_10 =>
  kF 43 r_10 fun r14_1 =>
  pcK scfg 13 [V.sl r9] fun r_11 =>
  kF 71 r_11 fun r13_2 =>
  pcK scfg 13 [V.sl r9_1] fun r_12 =>
  kF 71 r_12 fun r13_3 =>
  pcK scfg 18 [V.sl r13_2, V.sl r13_3] fun r_13 =>
  kF 43 r_13 fun r18 =>
  pcK scfg 16 [V.sl r14_1, V.sl r18] fun r_14 =>
  kB r_14 fun r16 =>
  cond (!r16)
 (some (.done (V.bool false)))
 (some (.head 0 (T3_0 r10 0 r9_1 0)))))
theorem e3_eq (a0 : List V) (a1 : List V) (a2 : List V) : enterK sk false fa3 [V.sl a0, V.sl a1, V.sl a2] [] = e3 a0 a1 a2 := by kernel_rfl
theorem e3_run (a0 : List V) (a1 : List V) (a2 : List V) {o : Out} {v : V} (h : e3 a0 a1 a2 = some o) (hg : Go sk false 0 fa3 o (.done v)) : pcW scfg 3 [V.sl a0, V.sl a1, V.sl a2] = some v := pcW_go sik rfl fa3_eq ((e3_eq a0 a1 a2).trans h) hg
noncomputable def s3_0 (x2 : List V) (x11 : Int) (m0 : List V) (z0 : Nat) : R :=
  cond (decide (x11 < (x2.length : Int)))
 (gd (decide (0 ≤ x11)) <|
  idxK x2 x11.toNat fun v =>
  d41 v fun kind0 low0 page =>
  pcK scfg 19 [V.sl m0, V.agg [V.int .i64 kind0, V.str low0, V.int .i64 page]] fun r =>
  d27 r fun r19_0 r19_1 =>
  pcK scfg 13 [V.sl m0] fun r_1 =>
  kF 71 r_1 fun r13 =>
  gd (decide (0 ≤ x11)) <|
  idxK x2 x11.toNat fun v_1 =>
  d41 v_1 fun kind0_1 low0_1 page_1 =>
  gd (decide (0 ≤ x11)) <|
  idxK x2 x11.toNat fun v_2 =>
  d41 v_2 fun kind0_2 low0_2 page_2 =>
  gd (decide (0 ≤ x11)) <|
  idxK x2 x11.toNat fun v_3 =>
  d41 v_3 fun kind0_3 low0_3 page_3 =>
  pcK scfg 20 [V.sl r13, V.agg [V.int .i64 kind0_1, V.str low0_2, V.int .i64 page_3]] fun r_2 =>
  d30 r_2 fun r20_0 r20_1 =>
  pcK scfg 13 [V.sl r19_0] fun r_3 =>
  kF 71 r_3 fun r13_1 =>
  pcK scfg 15 [V.sl r13_1, V.sl r20_0] fun r_4 =>
  kB r_4 fun r15 =>
  cond (!r15)
 (some (.done (V.bool false)))
 (cond (r19_1 != r20_1)
 (some (.done (V.bool false)))
 (some (.head 0 (T3_0 x2 (W .i64 (x11 + 1)) m0 m0.length)))))
 (pcK scfg 21 [] fun r_5 =>
  kB r_5 fun r21 =>
  some (.done (V.bool r21)))
theorem s3_0_eq (x2 : List V) (x11 : Int) (m0 : List V) (z0 : Nat) : goK sk false 0 fa3 0 (T3_0 x2 x11 m0 z0) = s3_0 x2 x11 m0 z0 := by kernel_rfl
theorem s3_0_run (x2 : List V) (x11 : Int) (m0 : List V) (z0 : Nat) {o o' : Out} (h : s3_0 x2 x11 m0 z0 = some o) (hg : Go sk false 0 fa3 o o') : Go sk false 0 fa3 (.head 0 (T3_0 x2 x11 m0 z0)) o' := .step ((s3_0_eq x2 x11 m0 z0).trans h) hg
/-! ### budwood/budwoodlaw19.SideParts -/
noncomputable def fa5 : FA := ⟨3, 80, [.tmp 6], [4],
 (.seq
 (.ops false [⟨(some 6), .assign (.const (.bool false)), 4, none, false, false, false⟩])
 (.seq
 (.ops false [mv 14 0 22, ⟨(some 15), .call ⟨(.value (.func 9)), #[(.tmp 14)], #[22]⟩, 22, none, false, false, false⟩, asg 0 15 22])
 (.seq
 (.ops false [mv 16 1 23, ⟨(some 17), .call ⟨(.value (.func 10)), #[(.tmp 16)], #[23]⟩, 23, none, false, false, false⟩, asg 1 17 23])
 (.seq
 (.ops false [mv 18 2 3, ⟨(some 19), .binOp .and 3 (.tmp 18) (.const (.int .i64 (65535))) 3, 3, none, false, false, false⟩, mv 20 1 23, ⟨(some 21), .call ⟨(.builtin .len), #[(.tmp 20)], #[23]⟩, 3, none, false, false, false⟩, ⟨(some 22), .binOp .add 3 (.tmp 21) (.const (.int .i64 (1))) 3, 3, none, false, false, false⟩, ⟨(some 23), .binOp .rem 3 (.tmp 19) (.tmp 22) 3, 3, none, false, false, false⟩, asg 7 23 3])
 (.seq
 (.ops false [mv 25 0 22, mv 26 1 23, ⟨(some 27), .call ⟨(.value (.func 11)), #[(.tmp 25), (.tmp 26)], #[22, 23]⟩, 27, none, false, false, false⟩, mv 24 27 27, ⟨(some 28), .extract (.tmp 24) 0, 22, none, false, false, false⟩, ⟨(some 29), .extract (.tmp 24) 1, 26, none, false, false, false⟩, asg 8 28 22, asg 9 29 26])
 (.seq
 (.ops false [mv 31 0 22, mv 32 1 23, mv 33 7 3, ⟨(some 34), .slice 23 (.tmp 32) none (some (.tmp 33)) none, 23, none, false, false, false⟩, ⟨(some 35), .call ⟨(.value (.func 11)), #[(.tmp 31), (.tmp 34)], #[22, 23]⟩, 27, none, false, false, false⟩, mv 30 35 27, ⟨(some 36), .extract (.tmp 30) 0, 22, none, false, false, false⟩, ⟨(some 37), .extract (.tmp 30) 1, 26, none, false, false, false⟩, asg 10 36 22, asg 11 37 26])
 (.seq
 (.seq
 (.ops false [mv 38 11 26, ⟨(some 39), .binOp .neq 26 (.tmp 38) (.const (.int .i64 (0))) 26, 4, none, false, false, false⟩])
 (.cond (.tmp 39)
 (.seq
 (.ops false [mv 40 9 26, mv 41 11 26, ⟨(some 42), .binOp .eql 26 (.tmp 40) (.tmp 41) 26, 4, none, false, false, false⟩, mv 43 42 4, ⟨(some 44), .move (.tmp 8), 22, (some (43, true)), false, false, false⟩, ⟨(some 45), .call ⟨(.builtin .len), #[(.tmp 44)], #[22]⟩, 3, (some (43, true)), false, false, false⟩, ⟨(some 46), .binOp .eql 3 (.tmp 45) (.const (.int .i64 (0))) 3, 4, (some (43, true)), false, false, false⟩, ⟨(some 47), .pick (.tmp 43) (.tmp 46) (.const (.bool false)), 4, none, false, false, false⟩, mv 48 47 4, ⟨(some 49), .call ⟨(.value (.func 21)), #[], #[]⟩, 4, (some (48, true)), false, false, false⟩, ⟨(some 50), .pick (.tmp 48) (.tmp 49) (.const (.bool false)), 4, none, false, false, false⟩, asg 6 50 4])
 (.ret))
 (.skip)))
 (.seq
 (.ops false [mv 52 10 22, mv 53 1 23, mv 54 7 3, ⟨(some 55), .slice 23 (.tmp 53) (some (.tmp 54)) none none, 23, none, false, false, false⟩, ⟨(some 56), .call ⟨(.value (.func 11)), #[(.tmp 52), (.tmp 55)], #[22, 23]⟩, 27, none, false, false, false⟩, mv 51 56 27, ⟨(some 57), .extract (.tmp 51) 0, 22, none, false, false, false⟩, ⟨(some 58), .extract (.tmp 51) 1, 26, none, false, false, false⟩, asg 12 57 22, asg 13 58 26])
 (.seq
 (.ops false [mv 59 9 26, mv 60 13 26, ⟨(some 61), .binOp .eql 26 (.tmp 59) (.tmp 60) 26, 4, none, false, false, false⟩, mv 62 61 4, ⟨(some 63), .move (.tmp 8), 22, (some (62, true)), false, false, false⟩, ⟨(some 64), .call ⟨(.value (.func 13)), #[(.tmp 63)], #[22]⟩, 29, (some (62, true)), false, false, false⟩, ⟨(some 65), .move (.tmp 12), 22, (some (62, true)), false, false, false⟩, ⟨(some 66), .call ⟨(.value (.func 13)), #[(.tmp 65)], #[22]⟩, 29, (some (62, true)), false, false, false⟩, ⟨(some 67), .call ⟨(.value (.func 15)), #[(.tmp 64), (.tmp 66)], #[29, 29]⟩, 4, (some (62, true)), false, false, false⟩, ⟨(some 68), .pick (.tmp 62) (.tmp 67) (.const (.bool false)), 4, none, false, false, false⟩, mv 69 68 4, ⟨(some 70), .move (.tmp 9), 26, (some (69, true)), false, false, false⟩, ⟨(some 71), .binOp .neq 26 (.tmp 70) (.const (.int .i64 (0))) 26, 4, (some (69, true)), false, false, false⟩, ⟨(some 72), .move (.tmp 71), 4, (some (69, true)), false, false, false⟩, ⟨(some 73), .move (.tmp 8), 22, (some (72, false)), false, false, false⟩, ⟨(some 74), .call ⟨(.value (.func 29)), #[(.tmp 73)], #[22]⟩, 4, (some (72, false)), false, false, false⟩, ⟨(some 75), .pick (.tmp 72) (.const (.bool true)) (.tmp 74), 4, (some (69, true)), false, false, false⟩, ⟨(some 76), .pick (.tmp 69) (.tmp 75) (.const (.bool false)), 4, none, false, false, false⟩, mv 77 76 4, ⟨(some 78), .call ⟨(.value (.func 21)), #[], #[]⟩, 4, (some (77, true)), false, false, false⟩, ⟨(some 79), .pick (.tmp 77) (.tmp 78) (.const (.bool false)), 4, none, false, false, false⟩, asg 6 79 4])
 (.ret))))))))))⟩
theorem fa5_eq : fnA scfg.P (scfg.rxf 5) 5 = some fa5 := by kernel_rfl
noncomputable def e5 (a0 : List V) (a1 : List V) (a2 : Int) : R :=
  pcK scfg 9 [V.sl a0] fun r =>
  kF 66 r fun r9 =>
  pcK scfg 10 [V.sl a1] fun r_1 =>
  kF 41 r_1 fun r10 =>
  gd (!decide (W .i64 ((r10.length : Int) + 1) = 0)) <|
  pcK scfg 11 [V.sl r9, V.sl r10] fun r_2 =>
  d27 r_2 fun r11_0 r11_1 =>
  gd (wfl 3 r10) <|
  gd (decide (0 ≤ (W .i64 (((BitVec.ofInt (IntKind.bits .i64) a2 &&& BitVec.ofInt (IntKind.bits .i64) 65535).toNat : Int))).tmod (W .i64 ((r10.length : Int) + 1)))) <|
  gd (decide (((W .i64 (((BitVec.ofInt (IntKind.bits .i64) a2 &&& BitVec.ofInt (IntKind.bits .i64) 65535).toNat : Int))).tmod (W .i64 ((r10.length : Int) + 1))).toNat ≤ r10.length)) <|
  pcK scfg 11 [V.sl r9, V.sl (r10.take (((W .i64 (((BitVec.ofInt (IntKind.bits .i64) a2 &&& BitVec.ofInt (IntKind.bits .i64) 65535).toNat : Int))).tmod (W .i64 ((r10.length : Int) + 1))).toNat))] fun r_3 =>
  d27 r_3 fun r11_0_1 r11_1_1 =>
  cond (r11_1_1 != (0 : Int))
 (cond (r11_1 == r11_1_1)
 (cond ((r11_0.length : Int) == (0 : Int))
 (pcK scfg 21 [] fun r_4 =>
  kB r_4 fun r21 =>
  some (.done (V.bool r21)))
 (some (.done (V.bool false))))
 (some (.done (V.bool false))))
 (gd (wfl 3 r10) <|
  gd (decide (0 ≤ (W .i64 (((BitVec.ofInt (IntKind.bits .i64) a2 &&& BitVec.ofInt (IntKind.bits .i64) 65535).toNat : Int))).tmod (W .i64 ((r10.length : Int) + 1)))) <|
  gd (decide (((W .i64 (((BitVec.ofInt (IntKind.bits .i64) a2 &&& BitVec.ofInt (IntKind.bits .i64) 65535).toNat : Int))).tmod (W .i64 ((r10.length : Int) + 1))).toNat ≤ r10.length)) <|
  pcK scfg 11 [V.sl r11_0_1, V.sl ((r10.take r10.length).drop (((W .i64 (((BitVec.ofInt (IntKind.bits .i64) a2 &&& BitVec.ofInt (IntKind.bits .i64) 65535).toNat : Int))).tmod (W .i64 ((r10.length : Int) + 1))).toNat))] fun r_5 =>
  d27 r_5 fun r11_0_2 r11_1_2 =>
  cond (r11_1 == r11_1_2)
 (pcK scfg 13 [V.sl r11_0] fun r_6 =>
  kF 71 r_6 fun r13 =>
  pcK scfg 13 [V.sl r11_0_2] fun r_7 =>
  kF 71 r_7 fun r13_1 =>
  pcK scfg 15 [V.sl r13, V.sl r13_1] fun r_8 =>
  kB r_8 fun r15 =>
  cond r15
 (cond (r11_1 != (0 : Int))
 (pcK scfg 21 [] fun r_9 =>
  kB r_9 fun r21_1 =>
  some (.done (V.bool r21_1)))
 (pcK scfg 29 [V.sl r11_0] fun r_10 =>
  kB r_10 fun r29 =>
  cond r29
 (pcK scfg 21 [] fun r_11 =>
  kB r_11 fun r21_2 =>
  some (.done (V.bool r21_2)))
 (some (.done (V.bool false)))))
 (some (.done (V.bool false))))
 (some (.done (V.bool false))))
theorem e5_eq (a0 : List V) (a1 : List V) (a2 : Int) : enterK sk false fa5 [V.sl a0, V.sl a1, V.int .i64 a2] [] = e5 a0 a1 a2 := by kernel_rfl
theorem e5_run (a0 : List V) (a1 : List V) (a2 : Int) {o : Out} {v : V} (h : e5 a0 a1 a2 = some o) (hg : Go sk false 0 fa5 o (.done v)) : pcW scfg 5 [V.sl a0, V.sl a1, V.int .i64 a2] = some v := pcW_go sik rfl fa5_eq ((e5_eq a0 a1 a2).trans h) hg
theorem e5_done (a0 : List V) (a1 : List V) (a2 : Int) {v : V} (h : e5 a0 a1 a2 = some (.done v)) : pcW scfg 5 [V.sl a0, V.sl a1, V.int .i64 a2] = some v := e5_run a0 a1 a2 h (.refl _)
/-! ### budwood/budwoodlaw19.SideDiff -/
noncomputable def fa6 : FA := ⟨2, 66, [.tmp 4], [4],
 (.seq
 (.ops false [⟨(some 4), .assign (.const (.bool false)), 4, none, false, false, false⟩])
 (.seq
 (.ops false [mv 7 0 22, ⟨(some 8), .call ⟨(.value (.func 9)), #[(.tmp 7)], #[22]⟩, 22, none, false, false, false⟩, asg 0 8 22])
 (.seq
 (.ops false [mv 9 1 22, ⟨(some 10), .call ⟨(.value (.func 9)), #[(.tmp 9)], #[22]⟩, 22, none, false, false, false⟩, asg 1 10 22])
 (.seq
 (.seq
 (.ops false [mv 11 0 22, ⟨(some 12), .call ⟨(.value (.func 13)), #[(.tmp 11)], #[22]⟩, 29, none, false, false, false⟩, ⟨(some 13), .call ⟨(.value (.func 30)), #[(.tmp 12)], #[29]⟩, 4, none, false, false, false⟩, ⟨(some 14), .unOp .not 4 (.tmp 13), 4, none, false, false, false⟩, mv 15 14 4, ⟨(some 16), .move (.tmp 1), 22, (some (15, false)), false, false, false⟩, ⟨(some 17), .call ⟨(.value (.func 13)), #[(.tmp 16)], #[22]⟩, 29, (some (15, false)), false, false, false⟩, ⟨(some 18), .call ⟨(.value (.func 30)), #[(.tmp 17)], #[29]⟩, 4, (some (15, false)), false, false, false⟩, ⟨(some 19), .unOp .not 4 (.tmp 18), 4, (some (15, false)), false, false, false⟩, ⟨(some 20), .pick (.tmp 15) (.const (.bool true)) (.tmp 19), 4, none, false, false, false⟩])
 (.cond (.tmp 20)
 (.seq
 (.ops false [mv 21 0 22, mv 22 1 22, ⟨(some 23), .call ⟨(.value (.func 17)), #[(.tmp 21), (.tmp 22)], #[22, 22]⟩, 23, none, false, false, false⟩, ⟨(some 24), .call ⟨(.builtin .len), #[(.tmp 23)], #[23]⟩, 3, none, false, false, false⟩, ⟨(some 25), .binOp .eql 3 (.tmp 24) (.const (.int .i64 (0))) 3, 4, none, false, false, false⟩, mv 26 25 4, ⟨(some 27), .call ⟨(.value (.func 21)), #[], #[]⟩, 4, (some (26, true)), false, false, false⟩, ⟨(some 28), .pick (.tmp 26) (.tmp 27) (.const (.bool false)), 4, none, false, false, false⟩, asg 4 28 4])
 (.ret))
 (.skip)))
 (.seq
 (.ops false [mv 29 1 22, mv 30 0 22, ⟨(some 31), .indexAddr 22 (.tmp 30) (.const (.int .i64 (0))), 0, none, false, false, false⟩, ⟨(some 32), .load 66 (.tmp 31), 66, none, false, false, false⟩, ⟨(some 33), .indexAddr 22 (.tmp 29) (.const (.int .i64 (0))), 0, none, false, false, false⟩, ⟨none, .store 66 (.tmp 33) (.tmp 32), 0, none, false, false, false⟩])
 (.seq
 (.seq
 (.ops false [mv 34 1 22, ⟨(some 35), .call ⟨(.value (.func 13)), #[(.tmp 34)], #[22]⟩, 29, none, false, false, false⟩, ⟨(some 36), .call ⟨(.value (.func 30)), #[(.tmp 35)], #[29]⟩, 4, none, false, false, false⟩, ⟨(some 37), .unOp .not 4 (.tmp 36), 4, none, false, false, false⟩])
 (.cond (.tmp 37)
 (.seq
 (.ops false [⟨(some 38), .call ⟨(.value (.func 21)), #[], #[]⟩, 4, none, false, false, false⟩, asg 4 38 4])
 (.ret))
 (.skip)))
 (.seq
 (.ops false [mv 40 0 22, mv 41 0 22, mv 42 1 22, ⟨(some 43), .call ⟨(.value (.func 17)), #[(.tmp 41), (.tmp 42)], #[22, 22]⟩, 23, none, false, false, false⟩, ⟨(some 44), .call ⟨(.value (.func 11)), #[(.tmp 40), (.tmp 43)], #[22, 23]⟩, 27, none, false, false, false⟩, mv 39 44 27, ⟨(some 45), .extract (.tmp 39) 0, 22, none, false, false, false⟩, ⟨(some 46), .extract (.tmp 39) 1, 26, none, false, false, false⟩, asg 5 45 22, asg 6 46 26])
 (.seq
 (.ops false [mv 47 6 26, ⟨(some 48), .binOp .eql 26 (.tmp 47) (.const (.int .i64 (0))) 26, 4, none, false, false, false⟩, mv 49 48 4, ⟨(some 50), .move (.tmp 5), 22, (some (49, true)), false, false, false⟩, ⟨(some 51), .call ⟨(.value (.func 13)), #[(.tmp 50)], #[22]⟩, 29, (some (49, true)), false, false, false⟩, ⟨(some 52), .move (.tmp 1), 22, (some (49, true)), false, false, false⟩, ⟨(some 53), .call ⟨(.value (.func 13)), #[(.tmp 52)], #[22]⟩, 29, (some (49, true)), false, false, false⟩, ⟨(some 54), .call ⟨(.value (.func 15)), #[(.tmp 51), (.tmp 53)], #[29, 29]⟩, 4, (some (49, true)), false, false, false⟩, ⟨(some 55), .pick (.tmp 49) (.tmp 54) (.const (.bool false)), 4, none, false, false, false⟩, mv 56 55 4, ⟨(some 57), .move (.tmp 0), 22, (some (56, true)), false, false, false⟩, ⟨(some 58), .move (.tmp 0), 22, (some (56, true)), false, false, false⟩, ⟨(some 59), .call ⟨(.value (.func 17)), #[(.tmp 57), (.tmp 58)], #[22, 22]⟩, 23, (some (56, true)), false, false, false⟩, ⟨(some 60), .call ⟨(.builtin .len), #[(.tmp 59)], #[23]⟩, 3, (some (56, true)), false, false, false⟩, ⟨(some 61), .binOp .eql 3 (.tmp 60) (.const (.int .i64 (0))) 3, 4, (some (56, true)), false, false, false⟩, ⟨(some 62), .pick (.tmp 56) (.tmp 61) (.const (.bool false)), 4, none, false, false, false⟩, mv 63 62 4, ⟨(some 64), .call ⟨(.value (.func 21)), #[], #[]⟩, 4, (some (63, true)), false, false, false⟩, ⟨(some 65), .pick (.tmp 63) (.tmp 64) (.const (.bool false)), 4, none, false, false, false⟩, asg 4 65 4])
 (.ret)))))))))⟩
theorem fa6_eq : fnA scfg.P (scfg.rxf 6) 6 = some fa6 := by kernel_rfl
noncomputable def e6 (a0 : List V) (a1 : List V) : R :=
  pcK scfg 9 [V.sl a0] fun r =>
  kF 66 r fun r9 =>
  pcK scfg 9 [V.sl a1] fun r_1 =>
  kF 66 r_1 fun r9_1 =>
  pcK scfg 13 [V.sl r9] fun r_2 =>
  kF 71 r_2 fun r13 =>
  pcK scfg 30 [V.sl r13] fun r_3 =>
  kB r_3 fun r30 =>
  cond (!r30)
 (pcK scfg 17 [V.sl r9, V.sl r9_1] fun r_4 =>
  kF 41 r_4 fun r17 =>
  cond ((r17.length : Int) == (0 : Int))
 (pcK scfg 21 [] fun r_5 =>
  kB r_5 fun r21 =>
  some (.done (V.bool r21)))
 (some (.done (V.bool false))))
 (pcK scfg 13 [V.sl r9_1] fun r_6 =>
  kF 71 r_6 fun r13_1 =>
  pcK scfg 30 [V.sl r13_1] fun r_7 =>
  kB r_7 fun r30_1 =>
  cond (!r30_1)
 (pcK scfg 17 [V.sl r9, V.sl r9_1] fun r_8 =>
  kF 41 r_8 fun r17_1 =>
  cond ((r17_1.length : Int) == (0 : Int))
 (pcK scfg 21 [] fun r_9 =>
  kB r_9 fun r21_1 =>
  some (.done (V.bool r21_1)))
 (some (.done (V.bool false))))
 (gd (decide (0 < r9.length)) <|
  idxK r9 0 fun v =>
  d66 v fun low0 page =>
  gd (decide (0 < r9_1.length)) <|
  idxK r9_1 0 fun v_1 =>
  d66 v_1 fun low0_1 page_1 =>
  pcK scfg 13 [V.sl ((r9_1).set 0 (V.agg [V.str low0, V.int .i64 page]))] fun r_10 =>
  kF 71 r_10 fun r13_2 =>
  pcK scfg 30 [V.sl r13_2] fun r_11 =>
  kB r_11 fun r30_2 =>
  cond (!r30_2)
 (pcK scfg 21 [] fun r_12 =>
  kB r_12 fun r21_2 =>
  some (.done (V.bool r21_2)))
 (pcK scfg 17 [V.sl r9, V.sl ((r9_1).set 0 (V.agg [V.str low0, V.int .i64 page]))] fun r_13 =>
  kF 41 r_13 fun r17_2 =>
  pcK scfg 11 [V.sl r9, V.sl r17_2] fun r_14 =>
  d27 r_14 fun r11_0 r11_1 =>
  cond (r11_1 == (0 : Int))
 (pcK scfg 13 [V.sl r11_0] fun r_15 =>
  kF 71 r_15 fun r13_3 =>
  pcK scfg 13 [V.sl ((r9_1).set 0 (V.agg [V.str low0, V.int .i64 page]))] fun r_16 =>
  kF 71 r_16 fun r13_4 =>
  pcK scfg 15 [V.sl r13_3, V.sl r13_4] fun r_17 =>
  kB r_17 fun r15 =>
  cond r15
 (pcK scfg 17 [V.sl r9, V.sl r9] fun r_18 =>
  kF 41 r_18 fun r17_3 =>
  cond ((r17_3.length : Int) == (0 : Int))
 (pcK scfg 21 [] fun r_19 =>
  kB r_19 fun r21_3 =>
  some (.done (V.bool r21_3)))
 (some (.done (V.bool false))))
 (some (.done (V.bool false))))
 (some (.done (V.bool false))))))
theorem e6_eq (a0 : List V) (a1 : List V) : enterK sk false fa6 [V.sl a0, V.sl a1] [] = e6 a0 a1 := by kernel_rfl
theorem e6_run (a0 : List V) (a1 : List V) {o : Out} {v : V} (h : e6 a0 a1 = some o) (hg : Go sk false 0 fa6 o (.done v)) : pcW scfg 6 [V.sl a0, V.sl a1] = some v := pcW_go sik rfl fa6_eq ((e6_eq a0 a1).trans h) hg
theorem e6_done (a0 : List V) (a1 : List V) {v : V} (h : e6 a0 a1 = some (.done v)) : pcW scfg 6 [V.sl a0, V.sl a1] = some v := e6_run a0 a1 h (.refl _)
/-! ### budwood/budwoodlaw19.SideBack -/
noncomputable def fa8 : FA := ⟨3, 150, [.tmp 6], [4],
 (.seq
 (.ops false [⟨(some 6), .assign (.const (.bool false)), 4, none, false, false, false⟩])
 (.seq
 (.ops false [mv 20 0 22, ⟨(some 21), .call ⟨(.value (.func 9)), #[(.tmp 20)], #[22]⟩, 22, none, false, false, false⟩, asg 7 21 22])
 (.seq
 (.ops false [mv 22 1 9, mv 23 1 9, ⟨(some 24), .call ⟨(.builtin .len), #[(.tmp 23)], #[9]⟩, 3, none, false, false, false⟩, ⟨(some 25), .call ⟨(.builtin .min), #[(.tmp 24), (.const (.int .i64 (16)))], #[3, 3]⟩, 3, none, false, false, false⟩, ⟨(some 26), .slice 9 (.tmp 22) none (some (.tmp 25)) none, 9, none, false, false, false⟩, asg 8 26 9])
 (.seq
 (.ops false [mv 28 7 22, mv 29 8 9, mv 30 2 3, ⟨(some 31), .binOp .and 3 (.tmp 30) (.const (.int .i64 (1023))) 3, 3, none, false, false, false⟩, ⟨(some 32), .build 41 #[(0, (.const (.int .i64 (1)))), (1, (.tmp 29)), (2, (.tmp 31))], 41, none, false, false, false⟩, ⟨(some 33), .call ⟨(.value (.func 19)), #[(.tmp 28), (.tmp 32)], #[22, 41]⟩, 27, none, false, false, false⟩, mv 27 33 27, ⟨(some 34), .extract (.tmp 27) 0, 22, none, false, false, false⟩, ⟨(some 35), .extract (.tmp 27) 1, 26, none, false, false, false⟩, asg 9 34 22, asg 10 35 26])
 (.seq
 (.seq
 (.ops false [mv 36 10 26, ⟨(some 37), .binOp .eql 26 (.tmp 36) (.const (.int .i64 (0))) 26, 4, none, false, false, false⟩])
 (.cond (.tmp 37)
 (.seq
 (.ops false [mv 39 9 22, mv 40 2 3, ⟨(some 41), .binOp .and 3 (.tmp 40) (.const (.int .i64 (1023))) 3, 3, none, false, false, false⟩, ⟨(some 42), .build 41 #[(0, (.const (.int .i64 (2)))), (2, (.tmp 41))], 41, none, false, false, false⟩, ⟨(some 43), .call ⟨(.value (.func 19)), #[(.tmp 39), (.tmp 42)], #[22, 41]⟩, 27, none, false, false, false⟩, mv 38 43 27, ⟨(some 44), .extract (.tmp 38) 0, 22, none, false, false, false⟩, ⟨(some 45), .extract (.tmp 38) 1, 26, none, false, false, false⟩, asg 11 44 22, asg 12 45 26])
 (.seq
 (.ops false [mv 46 12 26, ⟨(some 47), .binOp .neq 26 (.tmp 46) (.const (.int .i64 (0))) 26, 4, none, false, false, false⟩, mv 48 47 4, ⟨(some 49), .move (.tmp 7), 22, (some (48, false)), false, false, false⟩, ⟨(some 50), .move (.tmp 11), 22, (some (48, false)), false, false, false⟩, ⟨(some 51), .call ⟨(.value (.func 31)), #[(.tmp 49), (.tmp 50)], #[22, 22]⟩, 4, (some (48, false)), false, false, false⟩, ⟨(some 52), .unOp .not 4 (.tmp 51), 4, (some (48, false)), false, false, false⟩, ⟨(some 53), .pick (.tmp 48) (.const (.bool true)) (.tmp 52), 4, none, false, false, false⟩, mv 54 53 4, ⟨(some 55), .move (.tmp 9), 22, (some (54, false)), false, false, false⟩, ⟨(some 56), .call ⟨(.builtin .len), #[(.tmp 55)], #[22]⟩, 3, (some (54, false)), false, false, false⟩, ⟨(some 57), .move (.tmp 7), 22, (some (54, false)), false, false, false⟩, ⟨(some 58), .call ⟨(.builtin .len), #[(.tmp 57)], #[22]⟩, 3, (some (54, false)), false, false, false⟩, ⟨(some 59), .binOp .add 3 (.tmp 58) (.const (.int .i64 (1))) 3, 3, (some (54, false)), false, false, false⟩, ⟨(some 60), .binOp .neq 3 (.tmp 56) (.tmp 59) 3, 4, (some (54, false)), false, false, false⟩, ⟨(some 61), .pick (.tmp 54) (.const (.bool true)) (.tmp 60), 4, none, false, false, false⟩])
 (.cond (.tmp 61)
 (.seq
 (.ops false [⟨(some 6), .assign (.const (.bool false)), 4, none, false, false, false⟩])
 (.ret))
 (.skip))))
 (.skip)))
 (.seq
 (.seq
 (.ops false [⟨(some 13), .assign (.const (.int .i64 (1))), 3, none, false, false, false⟩])
 (.block 0
 (.loop (List.range' 0 6 ++ List.range' 8 5 ++ List.range' 14 136)
 (.seq
 (.seq
 (.ops false [mv 62 13 3, mv 63 7 22, ⟨(some 64), .call ⟨(.builtin .len), #[(.tmp 63)], #[22]⟩, 3, none, false, false, false⟩, ⟨(some 65), .binOp .lss 3 (.tmp 62) (.tmp 64) 3, 4, none, false, false, false⟩, mv 66 65 4, ⟨(some 67), .move (.tmp 7), 22, (some (66, true)), false, false, false⟩, ⟨(some 68), .call ⟨(.value (.func 29)), #[(.tmp 67)], #[22]⟩, 4, (some (66, true)), false, false, false⟩, ⟨(some 69), .pick (.tmp 66) (.tmp 68) (.const (.bool false)), 4, none, false, false, false⟩])
 (.cond (.tmp 69)
 (.skip)
 (.exit 0)))
 (.seq
 (.block 1
 (.seq
 (.ops false [mv 73 7 22, mv 74 7 22, mv 75 13 3, ⟨(some 76), .indexAddr 22 (.tmp 74) (.tmp 75), 0, none, false, false, false⟩, ⟨(some 77), .fieldAddr 66 (.tmp 76) 1, 0, none, false, false, false⟩, ⟨(some 78), .load 3 (.tmp 77), 3, none, false, false, false⟩, ⟨(some 79), .build 41 #[(0, (.const (.int .i64 (2)))), (2, (.tmp 78))], 41, none, false, false, false⟩, ⟨(some 80), .call ⟨(.value (.func 19)), #[(.tmp 73), (.tmp 79)], #[22, 41]⟩, 27, none, false, false, false⟩, mv 72 80 27, ⟨(some 81), .extract (.tmp 72) 0, 22, none, false, false, false⟩, ⟨(some 82), .extract (.tmp 72) 1, 26, none, false, false, false⟩, asg 14 81 22, asg 15 82 26])
 (.seq
 (.seq
 (.ops false [mv 83 15 26, ⟨(some 84), .binOp .neq 26 (.tmp 83) (.const (.int .i64 (0))) 26, 4, none, false, false, false⟩])
 (.cond (.tmp 84)
 (.exit 1)
 (.skip)))
 (.seq
 (.ops false [⟨(some 85), .build 66 #[], 66, none, false, false, false⟩, ⟨(some 16), .alloc 66, 0, none, false, false, false⟩, ⟨none, .store 66 (.tmp 16) (.tmp 85), 0, none, false, false, false⟩])
 (.seq
 (.seq
 (.ops false [⟨(some 17), .assign (.const (.int .i64 (0))), 3, none, false, false, false⟩])
 (.block 2
 (.loop (List.range' 0 6 ++ List.range' 8 5 ++ [15] ++ List.range' 18 132)
 (.seq
 (.seq
 (.ops false [mv 86 17 3, mv 87 7 22, ⟨(some 88), .call ⟨(.builtin .len), #[(.tmp 87)], #[22]⟩, 3, none, false, false, false⟩, ⟨(some 89), .binOp .lss 3 (.tmp 86) (.tmp 88) 3, 4, none, false, false, false⟩])
 (.cond (.tmp 89)
 (.skip)
 (.exit 2)))
 (.seq
 (.block 3
 (.seq
 (.ops true [mv 92 17 3, mv 93 14 22, ⟨(some 94), .call ⟨(.builtin .len), #[(.tmp 93)], #[22]⟩, 3, none, false, false, false⟩, ⟨(some 95), .binOp .eql 3 (.tmp 92) (.tmp 94) 3, 4, none, false, false, false⟩, mv 96 95 4, ⟨(some 97), .move (.tmp 14), 22, (some (96, false)), false, false, false⟩, ⟨(some 98), .move (.tmp 17), 3, (some (96, false)), false, false, false⟩, ⟨(some 99), .indexAddr 22 (.tmp 97) (.tmp 98), 0, (some (96, false)), false, false, false⟩, ⟨(some 100), .load 66 (.tmp 99), 66, (some (96, false)), false, false, false⟩, ⟨(some 101), .move (.tmp 7), 22, (some (96, false)), false, false, false⟩, ⟨(some 102), .move (.tmp 17), 3, (some (96, false)), false, false, false⟩, ⟨(some 103), .indexAddr 22 (.tmp 101) (.tmp 102), 0, (some (96, false)), false, false, false⟩, ⟨(some 104), .load 66 (.tmp 103), 66, (some (96, false)), false, false, false⟩, ⟨(some 105), .binOp .neq 66 (.tmp 100) (.tmp 104) 66, 4, (some (96, false)), false, false, false⟩, ⟨(some 106), .pick (.tmp 96) (.const (.bool true)) (.tmp 105), 4, none, false, false, false⟩])
 (.cond (.tmp 106)
 (.seq
 (.ops false [mv 107 7 22, mv 108 17 3, ⟨(some 109), .indexAddr 22 (.tmp 107) (.tmp 108), 0, none, false, false, false⟩, ⟨(some 110), .load 66 (.tmp 109), 66, none, false, false, false⟩, ⟨none, .store 66 (.tmp 16) (.tmp 110), 0, none, false, false, false⟩])
 (.ops false [mv 111 7 22, ⟨(some 112), .call ⟨(.builtin .len), #[(.tmp 111)], #[22]⟩, 3, none, false, false, false⟩, asg 17 112 3]))
 (.skip))))
 (.ops false [mv 90 17 3, ⟨(some 91), .binOp .add 3 (.tmp 90) (.const (.int .i64 (1))) 3, 3, none, false, false, false⟩, asg 17 91 3]))))))
 (.seq
 (.ops false [mv 114 14 22, ⟨(some 115), .fieldAddr 66 (.tmp 16) 0, 0, none, false, false, false⟩, ⟨(some 116), .load 9 (.tmp 115), 9, none, false, false, false⟩, ⟨(some 117), .fieldAddr 66 (.tmp 16) 1, 0, none, false, false, false⟩, ⟨(some 118), .load 3 (.tmp 117), 3, none, false, false, false⟩, ⟨(some 119), .build 41 #[(0, (.const (.int .i64 (1)))), (1, (.tmp 116)), (2, (.tmp 118))], 41, none, false, false, false⟩, ⟨(some 120), .call ⟨(.value (.func 19)), #[(.tmp 114), (.tmp 119)], #[22, 41]⟩, 27, none, false, false, false⟩, mv 113 120 27, ⟨(some 121), .extract (.tmp 113) 0, 22, none, false, false, false⟩, ⟨(some 122), .extract (.tmp 113) 1, 26, none, false, false, false⟩, asg 18 121 22, asg 19 122 26])
 (.seq
 (.ops true [⟨(some 123), .fieldAddr 66 (.tmp 16) 1, 0, none, false, false, false⟩, ⟨(some 124), .load 3 (.tmp 123), 3, none, false, false, false⟩, mv 125 7 22, mv 126 13 3, ⟨(some 127), .indexAddr 22 (.tmp 125) (.tmp 126), 0, none, false, false, false⟩, ⟨(some 128), .fieldAddr 66 (.tmp 127) 1, 0, none, false, false, false⟩, ⟨(some 129), .load 3 (.tmp 128), 3, none, false, false, false⟩, ⟨(some 130), .binOp .neq 3 (.tmp 124) (.tmp 129) 3, 4, none, false, false, false⟩, mv 131 130 4, ⟨(some 132), .move (.tmp 19), 26, (some (131, false)), false, false, false⟩, ⟨(some 133), .binOp .neq 26 (.tmp 132) (.const (.int .i64 (0))) 26, 4, (some (131, false)), false, false, false⟩, ⟨(some 134), .move (.tmp 133), 4, (some (131, false)), false, false, false⟩, ⟨(some 135), .move (.tmp 19), 26, (some (134, true)), false, false, false⟩, ⟨(some 136), .binOp .neq 26 (.tmp 135) (.const (.int .i64 (8))) 26, 4, (some (134, true)), false, false, false⟩, ⟨(some 137), .pick (.tmp 134) (.tmp 136) (.const (.bool false)), 4, (some (131, false)), false, false, false⟩, ⟨(some 138), .pick (.tmp 131) (.const (.bool true)) (.tmp 137), 4, none, false, false, false⟩, mv 139 138 4, ⟨(some 140), .move (.tmp 19), 26, (some (139, false)), false, false, false⟩, ⟨(some 141), .binOp .eql 26 (.tmp 140) (.const (.int .i64 (0))) 26, 4, (some (139, false)), false, false, false⟩, ⟨(some 142), .move (.tmp 141), 4, (some (139, false)), false, false, false⟩, ⟨(some 143), .move (.tmp 7), 22, (some (142, true)), false, false, false⟩, ⟨(some 144), .move (.tmp 18), 22, (some (142, true)), false, false, false⟩, ⟨(some 145), .call ⟨(.value (.func 31)), #[(.tmp 143), (.tmp 144)], #[22, 22]⟩, 4, (some (142, true)), false, true, false⟩, ⟨(some 146), .unOp .not 4 (.tmp 145), 4, (some (142, true)), false, false, false⟩, ⟨(some 147), .pick (.tmp 142) (.tmp 146) (.const (.bool false)), 4, (some (139, false)), false, false, false⟩, ⟨(some 148), .pick (.tmp 139) (.const (.bool true)) (.tmp 147), 4, none, false, false, false⟩])
 (.cond (.tmp 148)
 (.seq
 (.ops false [⟨(some 6), .assign (.const (.bool false)), 4, none, false, false, false⟩])
 (.ret))
 (.skip)))))))))
 (.ops false [mv 70 13 3, ⟨(some 71), .binOp .add 3 (.tmp 70) (.const (.int .i64 (1))) 3, 3, none, false, false, false⟩, asg 13 71 3]))))))
 (.seq
 (.ops false [⟨(some 149), .call ⟨(.value (.func 21)), #[], #[]⟩, 4, none, false, false, false⟩, asg 6 149 4])
 (.ret))))))))⟩
theorem fa8_eq : fnA scfg.P (scfg.rxf 8) 8 = some fa8 := by kernel_rfl
def T8_0 (x13 : Int) (m0 : List V) (z0 : Nat) : S := ⟨(JU 6) ++ [V.bool false, V.own 0] ++ (JU 5) ++ [V.int .i64 x13] ++ (JU 136), [O.row 66 m0 z0]⟩
def T8_1 (x13 : Int) (x14 : List V) (x17 : Int) (m0 : List V) (z0 : Nat) (m1_0 : List UInt8) (m1_1 : Int) : S := ⟨(JU 6) ++ [V.bool false, V.own 0] ++ (JU 5) ++ [V.int .i64 x13, V.sl x14, V.junk, V.ptr 1 0 0, V.int .i64 x17] ++ (JU 132), [O.row 66 m0 z0, O.box 66 (V.agg [V.str m1_0, V.int .i64 m1_1]) false]⟩
noncomputable def e8 (a0 : List V) (a1 : List UInt8) (a2 : Int) : R :=
  pcK scfg 9 [V.sl a0] fun r =>
  kF 66 r fun r9 =>
  gd (decide (0 ≤ (if 16 < (a1.length : Int) then 16 else (a1.length : Int)))) <|
  gd (decide ((if 16 < (a1.length : Int) then 16 else (a1.length : Int)).toNat ≤ a1.length)) <|
  pcK scfg 19 [V.sl r9, V.agg [V.int .i64 1, V.str (a1.take ((if 16 < (a1.length : Int) then 16 else (a1.length : Int)).toNat)), V.int .i64 (W .i64 (((BitVec.ofInt (IntKind.bits .i64) a2 &&& BitVec.ofInt (IntKind.bits .i64) 1023).toNat : Int)))]] fun r_1 =>
  d27 r_1 fun r19_0 r19_1 =>
  cond (r19_1 == (0 : Int))
 (pcK scfg 19 [V.sl r19_0, V.agg [V.int .i64 2, V.str [], V.int .i64 (W .i64 (((BitVec.ofInt (IntKind.bits .i64) a2 &&& BitVec.ofInt (IntKind.bits .i64) 1023).toNat : Int)))]] fun r_2 =>
  d27 r_2 fun r19_0_1 r19_1_1 =>
  cond (r19_1_1 != (0 : Int))
 (some (.done (V.bool false)))
 (pcK scfg 31 [V.sl r9, V.sl r19_0_1] fun r_3 =>
  kB r_3 fun r31 =>
  cond (!r31)
 (some (.done (V.bool false)))
 (cond ((r19_0.length : Int) != (W .i64 ((r9.length : Int) + 1)))
 (some (.done (V.bool false)))
 (some (.head 0 (T8_0 1 r9 r9.length))))))
 (some (.head 0 (T8_0 1 r9 r9.length)))
theorem e8_eq (a0 : List V) (a1 : List UInt8) (a2 : Int) : enterK sk false fa8 [V.sl a0, V.str a1, V.int .i64 a2] [] = e8 a0 a1 a2 := by kernel_rfl
theorem e8_run (a0 : List V) (a1 : List UInt8) (a2 : Int) {o : Out} {v : V} (h : e8 a0 a1 a2 = some o) (hg : Go sk false 0 fa8 o (.done v)) : pcW scfg 8 [V.sl a0, V.str a1, V.int .i64 a2] = some v := pcW_go sik rfl fa8_eq ((e8_eq a0 a1 a2).trans h) hg
noncomputable def s8_0 (x13 : Int) (m0 : List V) (z0 : Nat) : R :=
  cond (decide (x13 < (m0.length : Int)))
 (pcK scfg 29 [V.sl m0] fun r =>
  kB r fun r29 =>
  cond r29
 (gd (decide (0 ≤ x13)) <|
  gd (decide (x13.toNat < m0.length)) <|
  idxK m0 x13.toNat fun v =>
  d66 v fun low0 page =>
  pcK scfg 19 [V.sl m0, V.agg [V.int .i64 2, V.str [], V.int .i64 page]] fun r_1 =>
  d27 r_1 fun r19_0 r19_1 =>
  cond (r19_1 != (0 : Int))
 (some (.head 0 (T8_0 (W .i64 (x13 + 1)) m0 m0.length)))
 (some (.head 1 (T8_1 x13 r19_0 0 m0 m0.length [] 0))))
 (pcK scfg 21 [] fun r_2 =>
  kB r_2 fun r21 =>
  some (.done (V.bool r21))))
 (pcK scfg 21 [] fun r_3 =>
  kB r_3 fun r21_1 =>
  some (.done (V.bool r21_1)))
theorem s8_0_eq (x13 : Int) (m0 : List V) (z0 : Nat) : goK sk false 0 fa8 0 (T8_0 x13 m0 z0) = s8_0 x13 m0 z0 := by kernel_rfl
theorem s8_0_run (x13 : Int) (m0 : List V) (z0 : Nat) {o o' : Out} (h : s8_0 x13 m0 z0 = some o) (hg : Go sk false 0 fa8 o o') : Go sk false 0 fa8 (.head 0 (T8_0 x13 m0 z0)) o' := .step ((s8_0_eq x13 m0 z0).trans h) hg
noncomputable def s8_1 (x13 : Int) (x14 : List V) (x17 : Int) (m0 : List V) (z0 : Nat) (m1_0 : List UInt8) (m1_1 : Int) : R :=
  cond (decide (x17 < (m0.length : Int)))
 (cond (x17 == (x14.length : Int))
 (gd (decide (0 ≤ x17)) <|
  gd (decide (x17.toNat < m0.length)) <|
  idxK m0 x17.toNat fun v =>
  d66 v fun low0 page =>
  some (.head 1 (T8_1 x13 x14 (W .i64 ((m0.length : Int) + 1)) m0 z0 low0 page)))
 (gd (decide (0 ≤ x17)) <|
  idxK x14 x17.toNat fun v_1 =>
  d66 v_1 fun low0_1 page_1 =>
  gd (decide (0 ≤ x17)) <|
  gd (decide (x17.toNat < m0.length)) <|
  idxK m0 x17.toNat fun v_2 =>
  d66 v_2 fun low0_2 page_2 =>
  cond (!((low0_1 == low0_2) && ((page_1 == page_2) && true)))
 (gd (decide (0 ≤ x17)) <|
  gd (decide (x17.toNat < m0.length)) <|
  idxK m0 x17.toNat fun v_3 =>
  d66 v_3 fun low0_3 page_3 =>
  some (.head 1 (T8_1 x13 x14 (W .i64 ((m0.length : Int) + 1)) m0 z0 low0_3 page_3)))
 (some (.head 1 (T8_1 x13 x14 (W .i64 (x17 + 1)) m0 z0 m1_0 m1_1)))))
 (pcK scfg 19 [V.sl x14, V.agg [V.int .i64 1, V.str m1_0, V.int .i64 m1_1]] fun r =>
  d27 r fun r19_0 r19_1 =>
  gd (decide (0 ≤ x13)) <|
  gd (decide (x13.toNat < m0.length)) <|
  idxK m0 x13.toNat fun v_4 =>
  d66 v_4 fun low0_4 page_4 =>
  cond (m1_1 != page_4)
 (some (.done (V.bool false)))
 (cond (r19_1 != (0 : Int))
 (cond (r19_1 != (8 : Int))
 (some (.done (V.bool false)))
 (cond (r19_1 == (0 : Int))
 (pcK scfg 31 [V.sl m0, V.sl r19_0] fun r_1 =>
  kB r_1 fun r31 =>
  cond (!r31)
 (some (.done (V.bool false)))
 (some (.head 0 (T8_0 (W .i64 (x13 + 1)) m0 z0))))
 (some (.head 0 (T8_0 (W .i64 (x13 + 1)) m0 z0)))))
 (cond (r19_1 == (0 : Int))
 (pcK scfg 31 [V.sl m0, V.sl r19_0] fun r_2 =>
  kB r_2 fun r31_1 =>
  cond (!r31_1)
 (some (.done (V.bool false)))
 (some (.head 0 (T8_0 (W .i64 (x13 + 1)) m0 z0))))
 (some (.head 0 (T8_0 (W .i64 (x13 + 1)) m0 z0))))))
theorem s8_1_eq (x13 : Int) (x14 : List V) (x17 : Int) (m0 : List V) (z0 : Nat) (m1_0 : List UInt8) (m1_1 : Int) : goK sk false 0 fa8 1 (T8_1 x13 x14 x17 m0 z0 m1_0 m1_1) = s8_1 x13 x14 x17 m0 z0 m1_0 m1_1 := by kernel_rfl
theorem s8_1_run (x13 : Int) (x14 : List V) (x17 : Int) (m0 : List V) (z0 : Nat) (m1_0 : List UInt8) (m1_1 : Int) {o o' : Out} (h : s8_1 x13 x14 x17 m0 z0 m1_0 m1_1 = some o) (hg : Go sk false 0 fa8 o o') : Go sk false 0 fa8 (.head 1 (T8_1 x13 x14 x17 m0 z0 m1_0 m1_1)) o' := .step ((s8_1_eq x13 x14 x17 m0 z0 m1_0 m1_1).trans h) hg
/-! ### budwood/budwoodlaw19.SideFile -/
noncomputable def fa4 : FA := ⟨2, 102, [.tmp 4], [4],
 (.seq
 (.ops false [⟨(some 4), .assign (.const (.bool false)), 4, none, false, false, false⟩])
 (.seq
 (.ops false [mv 8 0 23, ⟨(some 9), .call ⟨(.value (.func 10)), #[(.tmp 8)], #[23]⟩, 23, none, false, false, false⟩, asg 0 9 23])
 (.seq
 (.ops false [⟨(some 10), .call ⟨(.value (.func 22)), #[], #[]⟩, 47, none, false, false, false⟩, ⟨(some 11), .build 51 #[], 51, none, false, false, false⟩, ⟨(some 12), .box 51 (.tmp 11), 49, none, false, false, false⟩, asg 5 10 47, asg 6 12 49])
 (.seq
 (.seq
 (.ops false [⟨(some 7), .assign (.const (.int .i64 (0))), 3, none, false, false, false⟩])
 (.block 0
 (.loop ([2, 3] ++ List.range' 8 94)
 (.seq
 (.seq
 (.ops false [mv 13 7 3, mv 14 0 23, ⟨(some 15), .call ⟨(.builtin .len), #[(.tmp 14)], #[23]⟩, 3, none, false, false, false⟩, ⟨(some 16), .binOp .lss 3 (.tmp 13) (.tmp 15) 3, 4, none, false, false, false⟩])
 (.cond (.tmp 16)
 (.skip)
 (.exit 0)))
 (.seq
 (.block 1
 (.seq
 (.seq
 (.ops true [mv 19 5 47, ⟨(some 20), .binOp .eql 47 (.tmp 19) (.const (.pointer none)) 47, 4, none, false, false, false⟩, mv 21 20 4, ⟨(some 22), .move (.tmp 5), 47, (some (21, false)), false, false, false⟩, ⟨(some 23), .move (.tmp 0), 23, (some (21, false)), false, false, false⟩, ⟨(some 24), .move (.tmp 7), 3, (some (21, false)), false, false, false⟩, ⟨(some 25), .indexAddr 23 (.tmp 23) (.tmp 24), 0, (some (21, false)), false, false, false⟩, ⟨(some 26), .load 41 (.tmp 25), 41, (some (21, false)), false, false, false⟩, ⟨(some 27), .call ⟨(.value (.func 23)), #[(.tmp 22), (.tmp 26)], #[47, 41]⟩, 26, (some (21, false)), false, true, false⟩, ⟨(some 28), .move (.tmp 6), 49, (some (21, false)), false, false, false⟩, ⟨(some 29), .move (.tmp 0), 23, (some (21, false)), false, false, false⟩, ⟨(some 30), .move (.tmp 7), 3, (some (21, false)), false, false, false⟩, ⟨(some 31), .indexAddr 23 (.tmp 29) (.tmp 30), 0, (some (21, false)), false, false, true⟩, ⟨(some 32), .fieldAddr 41 (.tmp 31) 0, 0, (some (21, false)), false, false, false⟩, ⟨(some 33), .load 3 (.tmp 32), 3, (some (21, false)), false, false, true⟩, ⟨(some 34), .move (.tmp 0), 23, (some (21, false)), false, false, false⟩, ⟨(some 35), .move (.tmp 7), 3, (some (21, false)), false, false, false⟩, ⟨(some 36), .indexAddr 23 (.tmp 34) (.tmp 35), 0, (some (21, false)), false, false, true⟩, ⟨(some 37), .fieldAddr 41 (.tmp 36) 1, 0, (some (21, false)), false, false, false⟩, ⟨(some 38), .load 9 (.tmp 37), 9, (some (21, false)), false, false, true⟩, ⟨(some 39), .move (.tmp 0), 23, (some (21, false)), false, false, false⟩, ⟨(some 40), .move (.tmp 7), 3, (some (21, false)), false, false, false⟩, ⟨(some 41), .indexAddr 23 (.tmp 39) (.tmp 40), 0, (some (21, false)), false, false, true⟩, ⟨(some 42), .fieldAddr 41 (.tmp 41) 2, 0, (some (21, false)), false, false, false⟩, ⟨(some 43), .load 3 (.tmp 42), 3, (some (21, false)), false, false, true⟩, ⟨(some 44), .build 43 #[(0, (.tmp 33)), (1, (.tmp 38)), (2, (.tmp 43))], 43, (some (21, false)), false, false, false⟩, ⟨(some 45), .call ⟨(.value (.func 24)), #[(.tmp 28), (.tmp 44)], #[49, 43]⟩, 26, (some (21, false)), false, true, false⟩, ⟨(some 46), .binOp .neq 26 (.tmp 27) (.tmp 45) 26, 4, (some (21, false)), false, false, false⟩, ⟨(some 47), .pick (.tmp 21) (.const (.bool true)) (.tmp 46), 4, none, false, false, false⟩])
 (.cond (.tmp 47)
 (.seq
 (.ops false [⟨(some 4), .assign (.const (.bool false)), 4, none, false, false, false⟩])
 (.ret))
 (.skip)))
 (.seq
 (.seq
 (.ops true [mv 48 7 3, mv 49 1 46, ⟨(some 50), .call ⟨(.builtin .len), #[(.tmp 49)], #[46]⟩, 3, none, false, false, false⟩, ⟨(some 51), .binOp .lss 3 (.tmp 48) (.tmp 50) 3, 4, none, false, false, false⟩, mv 52 51 4, ⟨(some 53), .move (.tmp 5), 47, (some (52, true)), false, false, false⟩, ⟨(some 54), .nilCheck (.tmp 53), 0, (some (52, true)), false, false, false⟩, ⟨(some 55), .fieldAddr 57 (.tmp 54) 0, 0, (some (52, true)), false, false, false⟩, ⟨(some 56), .load 55 (.tmp 55), 55, (some (52, true)), false, false, false⟩, ⟨(some 57), .move (.tmp 1), 46, (some (52, true)), false, false, false⟩, ⟨(some 58), .move (.tmp 7), 3, (some (52, true)), false, false, false⟩, ⟨(some 59), .indexAddr 46 (.tmp 57) (.tmp 58), 0, (some (52, true)), false, false, false⟩, ⟨(some 60), .load 3 (.tmp 59), 3, (some (52, true)), false, false, false⟩, ⟨(some 61), .call ⟨(.value (.func 25)), #[(.tmp 56), (.tmp 60)], #[55, 3]⟩, 23, (some (52, true)), false, true, false⟩, ⟨(some 62), .call ⟨(.value (.func 14)), #[(.tmp 61)], #[23]⟩, 33, (some (52, true)), false, true, false⟩, ⟨(some 63), .move (.tmp 6), 49, (some (52, true)), false, false, false⟩, ⟨(some 64), .move (.tmp 1), 46, (some (52, true)), false, false, false⟩, ⟨(some 65), .move (.tmp 7), 3, (some (52, true)), false, false, false⟩, ⟨(some 66), .indexAddr 46 (.tmp 64) (.tmp 65), 0, (some (52, true)), false, false, true⟩, ⟨(some 67), .load 3 (.tmp 66), 3, (some (52, true)), false, false, true⟩, ⟨(some 68), .call ⟨(.value (.func 26)), #[(.tmp 63), (.tmp 67)], #[49, 3]⟩, 33, (some (52, true)), false, true, false⟩, ⟨(some 69), .call ⟨(.value (.func 16)), #[(.tmp 62), (.tmp 68)], #[33, 33]⟩, 4, (some (52, true)), false, true, false⟩, ⟨(some 70), .unOp .not 4 (.tmp 69), 4, (some (52, true)), false, false, false⟩, ⟨(some 71), .pick (.tmp 52) (.tmp 70) (.const (.bool false)), 4, none, false, false, false⟩])
 (.cond (.tmp 71)
 (.seq
 (.ops false [⟨(some 4), .assign (.const (.bool false)), 4, none, false, false, false⟩])
 (.ret))
 (.skip)))
 (.seq
 (.ops true [mv 72 5 47, ⟨(some 73), .nilCheck (.tmp 72), 0, none, false, false, false⟩, ⟨(some 74), .fieldAddr 57 (.tmp 73) 0, 0, none, false, false, false⟩, ⟨(some 75), .load 55 (.tmp 74), 55, none, false, false, false⟩, ⟨(some 76), .call ⟨(.value (.func 27)), #[(.tmp 75)], #[55]⟩, 3, none, false, false, false⟩, mv 77 6 49, ⟨(some 78), .nilCheck (.tmp 77), 0, none, false, false, false⟩, ⟨(some 79), .fieldAddr 51 (.tmp 78) 0, 0, none, false, false, false⟩, ⟨(some 80), .load 33 (.tmp 79), 33, none, false, false, false⟩, ⟨(some 81), .call ⟨(.builtin .len), #[(.tmp 80)], #[33]⟩, 3, none, false, false, false⟩, ⟨(some 82), .binOp .neq 3 (.tmp 76) (.tmp 81) 3, 4, none, false, false, false⟩, mv 83 82 4, ⟨(some 84), .move (.tmp 5), 47, (some (83, false)), false, false, false⟩, ⟨(some 85), .nilCheck (.tmp 84), 0, (some (83, false)), false, false, false⟩, ⟨(some 86), .fieldAddr 57 (.tmp 85) 0, 0, (some (83, false)), false, false, false⟩, ⟨(some 87), .load 55 (.tmp 86), 55, (some (83, false)), false, false, false⟩, ⟨(some 88), .call ⟨(.value (.func 28)), #[(.tmp 87)], #[55]⟩, 23, (some (83, false)), false, false, false⟩, ⟨(some 89), .call ⟨(.value (.func 14)), #[(.tmp 88)], #[23]⟩, 33, (some (83, false)), false, false, false⟩, ⟨(some 90), .move (.tmp 6), 49, (some (83, false)), false, false, false⟩, ⟨(some 91), .nilCheck (.tmp 90), 0, (some (83, false)), false, false, false⟩, ⟨(some 92), .fieldAddr 51 (.tmp 91) 0, 0, (some (83, false)), false, false, false⟩, ⟨(some 93), .load 33 (.tmp 92), 33, (some (83, false)), false, false, false⟩, ⟨(some 94), .call ⟨(.value (.func 16)), #[(.tmp 89), (.tmp 93)], #[33, 33]⟩, 4, (some (83, false)), false, true, false⟩, ⟨(some 95), .unOp .not 4 (.tmp 94), 4, (some (83, false)), false, false, false⟩, ⟨(some 96), .pick (.tmp 83) (.const (.bool true)) (.tmp 95), 4, none, false, false, false⟩])
 (.cond (.tmp 96)
 (.seq
 (.ops false [⟨(some 4), .assign (.const (.bool false)), 4, none, false, false, false⟩])
 (.ret))
 (.skip))))))
 (.ops false [mv 17 7 3, ⟨(some 18), .binOp .add 3 (.tmp 17) (.const (.int .i64 (1))) 3, 3, none, false, false, false⟩, asg 7 18 3]))))))
 (.seq
 (.ops false [mv 97 5 47, ⟨(some 98), .binOp .neq 47 (.tmp 97) (.const (.pointer none)) 47, 4, none, false, false, false⟩, mv 99 98 4, ⟨(some 100), .call ⟨(.value (.func 21)), #[], #[]⟩, 4, (some (99, true)), false, false, false⟩, ⟨(some 101), .pick (.tmp 99) (.tmp 100) (.const (.bool false)), 4, none, false, false, false⟩, asg 4 101 4])
 (.ret))))))⟩
theorem fa4_eq : fnA scfg.P (scfg.rxf 4) 4 = some fa4 := by kernel_rfl
def T4_0 (x0 : List V) (x1 : List V) (x7 : Int) (m2_0 : Nat) (m3 : List V) (m4 : List V) : S := ⟨[V.sl x0, V.sl x1, V.junk, V.junk, V.bool false, V.ptr 0 0 0, V.ptr 1 0 0, V.int .i64 x7] ++ (JU 94), [O.box 57 (V.agg [V.ptr 2 0 0]) false, O.box 51 (V.agg [V.tail 3 0]) false, O.box 78 (V.agg [V.tail 4 m2_0]) false, O.row 43 m3 0, O.row 41 m4 0]⟩
noncomputable def e4 (a0 : List V) (a1 : List V) : R :=
  pcK scfg 10 [V.sl a0] fun r =>
  kF 41 r fun r10 =>
  some (.head 0 (T4_0 r10 a1 0 0 [] []))
theorem e4_eq (a0 : List V) (a1 : List V) : enterK sk false fa4 [V.sl a0, V.sl a1] [] = e4 a0 a1 := by kernel_rfl
theorem e4_run (a0 : List V) (a1 : List V) {o : Out} {v : V} (h : e4 a0 a1 = some o) (hg : Go sk false 0 fa4 o (.done v)) : pcW scfg 4 [V.sl a0, V.sl a1] = some v := pcW_go sik rfl fa4_eq ((e4_eq a0 a1).trans h) hg
noncomputable def s4_0 (x0 : List V) (x1 : List V) (x7 : Int) (m2_0 : Nat) (m3 : List V) (m4 : List V) : R :=
  cond (decide (x7 < (x0.length : Int)))
 (gd (decide (0 ≤ x7)) <|
  idxK x0 x7.toNat fun v =>
  d41 v fun kind0 low0 page =>
  pcK scfg 37 [V.agg [V.int .i64 kind0, V.str low0, V.int .i64 page]] fun r =>
  kB r fun r37 =>
  cond (!r37)
 (gd (decide (0 ≤ x7)) <|
  idxK x0 x7.toNat fun v_1 =>
  d41 v_1 fun kind0_1 low0_1 page_1 =>
  gd (decide (0 ≤ x7)) <|
  idxK x0 x7.toNat fun v_2 =>
  d41 v_2 fun kind0_2 low0_2 page_2 =>
  gd (decide (0 ≤ x7)) <|
  idxK x0 x7.toNat fun v_3 =>
  d41 v_3 fun kind0_3 low0_3 page_3 =>
  pcK scfg 41 [V.agg [V.int .i64 kind0_1, V.str low0_2, V.int .i64 page_3]] fun r_1 =>
  kB r_1 fun r41 =>
  cond (!r41)
 (cond (decide (x7 < (x1.length : Int)))
 (gd (decide (0 ≤ x7)) <|
  idxK x1 x7.toNat fun v_4 =>
  kI .i64 v_4 fun n =>
  gd (wfl 3 (m4.drop m2_0)) <|
  gd (decide (0 ≤ (if 0 < (if ((m4.drop m2_0).length : Int) < n then ((m4.drop m2_0).length : Int) else n) then (if ((m4.drop m2_0).length : Int) < n then ((m4.drop m2_0).length : Int) else n) else 0))) <|
  gd (decide ((if 0 < (if ((m4.drop m2_0).length : Int) < n then ((m4.drop m2_0).length : Int) else n) then (if ((m4.drop m2_0).length : Int) < n then ((m4.drop m2_0).length : Int) else n) else 0).toNat ≤ (m4.drop m2_0).length)) <|
  gd (decide ((m2_0 + 0) + (((if 0 < (if ((m4.drop m2_0).length : Int) < n then ((m4.drop m2_0).length : Int) else n) then (if ((m4.drop m2_0).length : Int) < n then ((m4.drop m2_0).length : Int) else n) else 0).toNat) - 0) ≤ m4.length)) <|
  pcK scfg 43 [V.sl (((m4).drop (m2_0 + 0)).take (((if 0 < (if ((m4.drop m2_0).length : Int) < n then ((m4.drop m2_0).length : Int) else n) then (if ((m4.drop m2_0).length : Int) < n then ((m4.drop m2_0).length : Int) else n) else 0).toNat) - 0))] fun r_2 =>
  kF 41 r_2 fun r43 =>
  gd (wfl 3 (m4.drop m2_0)) <|
  gd (decide (0 ≤ (if 0 < (if ((m4.drop m2_0).length : Int) < n then ((m4.drop m2_0).length : Int) else n) then (if ((m4.drop m2_0).length : Int) < n then ((m4.drop m2_0).length : Int) else n) else 0))) <|
  gd (decide ((if 0 < (if ((m4.drop m2_0).length : Int) < n then ((m4.drop m2_0).length : Int) else n) then (if ((m4.drop m2_0).length : Int) < n then ((m4.drop m2_0).length : Int) else n) else 0).toNat ≤ (m4.drop m2_0).length)) <|
  pcK scfg 14 [V.sl r43] fun r_3 =>
  kF 43 r_3 fun r14 =>
  gd (decide (0 ≤ x7)) <|
  idxK x1 x7.toNat fun v_5 =>
  kI .i64 v_5 fun n_1 =>
  cond (decide (n_1 < 0))
 (cond (decide (0 > (m3.length : Int)))
 (gd (wfl 3 m3) <|
  gd (decide (0 ≤ (m3.length : Int))) <|
  gd (decide ((m3.length : Int).toNat ≤ m3.length)) <|
  gd (decide ((0 + 0) + (((m3.length : Int).toNat) - 0) ≤ m3.length)) <|
  gd (wfl 3 (((m3).drop (0 + 0)).take (((m3.length : Int).toNat) - 0))) <|
  gd (decide (0 + (((m3).drop (0 + 0)).take (((m3.length : Int).toNat) - 0)).length ≤ 16777216)) <|
  gd (wfl 3 m3) <|
  gd (decide (0 ≤ (m3.length : Int))) <|
  gd (decide ((m3.length : Int).toNat ≤ m3.length)) <|
  gd (wfl 3 (m3.drop (0 + ((m3.length : Int).toNat)))) <|
  gd (decide (0 + (m3.drop (0 + ((m3.length : Int).toNat))).length ≤ 16777216)) <|
  pcK scfg 16 [V.sl r14, V.sl (((m3).drop (0 + 0)).take (((m3.length : Int).toNat) - 0))] fun r_4 =>
  kB r_4 fun r16 =>
  cond (!r16)
 (some (.done (V.bool false)))
 (pcK scfg 27 [V.ref (V.agg [V.sl (m4.drop (m2_0 + ((if 0 < (if ((m4.drop m2_0).length : Int) < n then ((m4.drop m2_0).length : Int) else n) then (if ((m4.drop m2_0).length : Int) < n then ((m4.drop m2_0).length : Int) else n) else 0).toNat)))]) 0] fun r_5 =>
  kI .i64 r_5 fun r27 =>
  cond (r27 != ((m3.drop (0 + ((m3.length : Int).toNat))).length : Int))
 (some (.done (V.bool false)))
 (pcK scfg 28 [V.ref (V.agg [V.sl (m4.drop (m2_0 + ((if 0 < (if ((m4.drop m2_0).length : Int) < n then ((m4.drop m2_0).length : Int) else n) then (if ((m4.drop m2_0).length : Int) < n then ((m4.drop m2_0).length : Int) else n) else 0).toNat)))]) 0] fun r_6 =>
  kF 41 r_6 fun r28 =>
  pcK scfg 14 [V.sl r28] fun r_7 =>
  kF 43 r_7 fun r14_1 =>
  pcK scfg 16 [V.sl r14_1, V.sl (m3.drop (0 + ((m3.length : Int).toNat)))] fun r_8 =>
  kB r_8 fun r16_1 =>
  cond (!r16_1)
 (some (.done (V.bool false)))
 (some (.head 0 (T4_0 x0 x1 (W .i64 (x7 + 1)) (m2_0 + ((if 0 < (if ((m4.drop m2_0).length : Int) < n then ((m4.drop m2_0).length : Int) else n) then (if ((m4.drop m2_0).length : Int) < n then ((m4.drop m2_0).length : Int) else n) else 0).toNat)) (m3.drop (0 + ((m3.length : Int).toNat))) m4))))))
 (gd (wfl 3 m3) <|
  gd (decide ((0 + 0) + (0 - 0) ≤ m3.length)) <|
  gd (wfl 3 (((m3).drop (0 + 0)).take (0 - 0))) <|
  gd (decide (0 + (((m3).drop (0 + 0)).take (0 - 0)).length ≤ 16777216)) <|
  gd (wfl 3 m3) <|
  gd (wfl 3 (m3.drop (0 + 0))) <|
  gd (decide (0 + (m3.drop (0 + 0)).length ≤ 16777216)) <|
  pcK scfg 16 [V.sl r14, V.sl (((m3).drop (0 + 0)).take (0 - 0))] fun r_9 =>
  kB r_9 fun r16_2 =>
  cond (!r16_2)
 (some (.done (V.bool false)))
 (pcK scfg 27 [V.ref (V.agg [V.sl (m4.drop (m2_0 + ((if 0 < (if ((m4.drop m2_0).length : Int) < n then ((m4.drop m2_0).length : Int) else n) then (if ((m4.drop m2_0).length : Int) < n then ((m4.drop m2_0).length : Int) else n) else 0).toNat)))]) 0] fun r_10 =>
  kI .i64 r_10 fun r27_1 =>
  cond (r27_1 != ((m3.drop (0 + 0)).length : Int))
 (some (.done (V.bool false)))
 (pcK scfg 28 [V.ref (V.agg [V.sl (m4.drop (m2_0 + ((if 0 < (if ((m4.drop m2_0).length : Int) < n then ((m4.drop m2_0).length : Int) else n) then (if ((m4.drop m2_0).length : Int) < n then ((m4.drop m2_0).length : Int) else n) else 0).toNat)))]) 0] fun r_11 =>
  kF 41 r_11 fun r28_1 =>
  pcK scfg 14 [V.sl r28_1] fun r_12 =>
  kF 43 r_12 fun r14_2 =>
  pcK scfg 16 [V.sl r14_2, V.sl (m3.drop (0 + 0))] fun r_13 =>
  kB r_13 fun r16_3 =>
  cond (!r16_3)
 (some (.done (V.bool false)))
 (some (.head 0 (T4_0 x0 x1 (W .i64 (x7 + 1)) (m2_0 + ((if 0 < (if ((m4.drop m2_0).length : Int) < n then ((m4.drop m2_0).length : Int) else n) then (if ((m4.drop m2_0).length : Int) < n then ((m4.drop m2_0).length : Int) else n) else 0).toNat)) (m3.drop (0 + 0)) m4)))))))
 (cond (decide (n_1 > (m3.length : Int)))
 (gd (wfl 3 m3) <|
  gd (decide (0 ≤ (m3.length : Int))) <|
  gd (decide ((m3.length : Int).toNat ≤ m3.length)) <|
  gd (decide ((0 + 0) + (((m3.length : Int).toNat) - 0) ≤ m3.length)) <|
  gd (wfl 3 (((m3).drop (0 + 0)).take (((m3.length : Int).toNat) - 0))) <|
  gd (decide (0 + (((m3).drop (0 + 0)).take (((m3.length : Int).toNat) - 0)).length ≤ 16777216)) <|
  gd (wfl 3 m3) <|
  gd (decide (0 ≤ (m3.length : Int))) <|
  gd (decide ((m3.length : Int).toNat ≤ m3.length)) <|
  gd (wfl 3 (m3.drop (0 + ((m3.length : Int).toNat)))) <|
  gd (decide (0 + (m3.drop (0 + ((m3.length : Int).toNat))).length ≤ 16777216)) <|
  pcK scfg 16 [V.sl r14, V.sl (((m3).drop (0 + 0)).take (((m3.length : Int).toNat) - 0))] fun r_14 =>
  kB r_14 fun r16_4 =>
  cond (!r16_4)
 (some (.done (V.bool false)))
 (pcK scfg 27 [V.ref (V.agg [V.sl (m4.drop (m2_0 + ((if 0 < (if ((m4.drop m2_0).length : Int) < n then ((m4.drop m2_0).length : Int) else n) then (if ((m4.drop m2_0).length : Int) < n then ((m4.drop m2_0).length : Int) else n) else 0).toNat)))]) 0] fun r_15 =>
  kI .i64 r_15 fun r27_2 =>
  cond (r27_2 != ((m3.drop (0 + ((m3.length : Int).toNat))).length : Int))
 (some (.done (V.bool false)))
 (pcK scfg 28 [V.ref (V.agg [V.sl (m4.drop (m2_0 + ((if 0 < (if ((m4.drop m2_0).length : Int) < n then ((m4.drop m2_0).length : Int) else n) then (if ((m4.drop m2_0).length : Int) < n then ((m4.drop m2_0).length : Int) else n) else 0).toNat)))]) 0] fun r_16 =>
  kF 41 r_16 fun r28_2 =>
  pcK scfg 14 [V.sl r28_2] fun r_17 =>
  kF 43 r_17 fun r14_3 =>
  pcK scfg 16 [V.sl r14_3, V.sl (m3.drop (0 + ((m3.length : Int).toNat)))] fun r_18 =>
  kB r_18 fun r16_5 =>
  cond (!r16_5)
 (some (.done (V.bool false)))
 (some (.head 0 (T4_0 x0 x1 (W .i64 (x7 + 1)) (m2_0 + ((if 0 < (if ((m4.drop m2_0).length : Int) < n then ((m4.drop m2_0).length : Int) else n) then (if ((m4.drop m2_0).length : Int) < n then ((m4.drop m2_0).length : Int) else n) else 0).toNat)) (m3.drop (0 + ((m3.length : Int).toNat))) m4))))))
 (gd (wfl 3 m3) <|
  gd (decide (0 ≤ n_1)) <|
  gd (decide (n_1.toNat ≤ m3.length)) <|
  gd (decide ((0 + 0) + (n_1.toNat - 0) ≤ m3.length)) <|
  gd (wfl 3 (((m3).drop (0 + 0)).take (n_1.toNat - 0))) <|
  gd (decide (0 + (((m3).drop (0 + 0)).take (n_1.toNat - 0)).length ≤ 16777216)) <|
  gd (wfl 3 m3) <|
  gd (decide (0 ≤ n_1)) <|
  gd (decide (n_1.toNat ≤ m3.length)) <|
  gd (wfl 3 (m3.drop (0 + n_1.toNat))) <|
  gd (decide (0 + (m3.drop (0 + n_1.toNat)).length ≤ 16777216)) <|
  pcK scfg 16 [V.sl r14, V.sl (((m3).drop (0 + 0)).take (n_1.toNat - 0))] fun r_19 =>
  kB r_19 fun r16_6 =>
  cond (!r16_6)
 (some (.done (V.bool false)))
 (pcK scfg 27 [V.ref (V.agg [V.sl (m4.drop (m2_0 + ((if 0 < (if ((m4.drop m2_0).length : Int) < n then ((m4.drop m2_0).length : Int) else n) then (if ((m4.drop m2_0).length : Int) < n then ((m4.drop m2_0).length : Int) else n) else 0).toNat)))]) 0] fun r_20 =>
  kI .i64 r_20 fun r27_3 =>
  cond (r27_3 != ((m3.drop (0 + n_1.toNat)).length : Int))
 (some (.done (V.bool false)))
 (pcK scfg 28 [V.ref (V.agg [V.sl (m4.drop (m2_0 + ((if 0 < (if ((m4.drop m2_0).length : Int) < n then ((m4.drop m2_0).length : Int) else n) then (if ((m4.drop m2_0).length : Int) < n then ((m4.drop m2_0).length : Int) else n) else 0).toNat)))]) 0] fun r_21 =>
  kF 41 r_21 fun r28_3 =>
  pcK scfg 14 [V.sl r28_3] fun r_22 =>
  kF 43 r_22 fun r14_4 =>
  pcK scfg 16 [V.sl r14_4, V.sl (m3.drop (0 + n_1.toNat))] fun r_23 =>
  kB r_23 fun r16_7 =>
  cond (!r16_7)
 (some (.done (V.bool false)))
 (some (.head 0 (T4_0 x0 x1 (W .i64 (x7 + 1)) (m2_0 + ((if 0 < (if ((m4.drop m2_0).length : Int) < n then ((m4.drop m2_0).length : Int) else n) then (if ((m4.drop m2_0).length : Int) < n then ((m4.drop m2_0).length : Int) else n) else 0).toNat)) (m3.drop (0 + n_1.toNat)) m4))))))))
 (pcK scfg 27 [V.ref (V.agg [V.sl (m4.drop m2_0)]) 0] fun r_24 =>
  kI .i64 r_24 fun r27_4 =>
  cond (r27_4 != (m3.length : Int))
 (some (.done (V.bool false)))
 (pcK scfg 28 [V.ref (V.agg [V.sl (m4.drop m2_0)]) 0] fun r_25 =>
  kF 41 r_25 fun r28_4 =>
  pcK scfg 14 [V.sl r28_4] fun r_26 =>
  kF 43 r_26 fun r14_5 =>
  pcK scfg 16 [V.sl r14_5, V.sl m3] fun r_27 =>
  kB r_27 fun r16_8 =>
  cond (!r16_8)
 (some (.done (V.bool false)))
 (some (.head 0 (T4_0 x0 x1 (W .i64 (x7 + 1)) m2_0 m3 m4))))))
 (cond (decide ((m3.length : Int) ≥ 1024))
 (some (.done (V.bool false)))
 (gd (decide (m3.length + ([V.agg [V.int .i64 kind0_1, V.str low0_2, V.int .i64 page_3]] : List V).length ≤ 16777216)) <|
  some (.done (V.bool false)))))
 (pcK scfg 27 [V.ref (V.agg [V.sl (m4.drop m2_0)]) 0] fun r_28 =>
  kI .i64 r_28 fun r27_5 =>
  cond (decide (r27_5 ≥ 1024))
 (gd (decide (0 ≤ x7)) <|
  idxK x0 x7.toNat fun v_6 =>
  d41 v_6 fun kind0_4 low0_4 page_4 =>
  gd (decide (0 ≤ x7)) <|
  idxK x0 x7.toNat fun v_7 =>
  d41 v_7 fun kind0_5 low0_5 page_5 =>
  gd (decide (0 ≤ x7)) <|
  idxK x0 x7.toNat fun v_8 =>
  d41 v_8 fun kind0_6 low0_6 page_6 =>
  pcK scfg 41 [V.agg [V.int .i64 kind0_4, V.str low0_5, V.int .i64 page_6]] fun r_29 =>
  kB r_29 fun r41_1 =>
  cond (!r41_1)
 (some (.done (V.bool false)))
 (cond (decide ((m3.length : Int) ≥ 1024))
 (cond (decide (x7 < (x1.length : Int)))
 (gd (decide (0 ≤ x7)) <|
  idxK x1 x7.toNat fun v_9 =>
  kI .i64 v_9 fun n_2 =>
  gd (wfl 3 (m4.drop m2_0)) <|
  gd (decide (0 ≤ (if 0 < (if ((m4.drop m2_0).length : Int) < n_2 then ((m4.drop m2_0).length : Int) else n_2) then (if ((m4.drop m2_0).length : Int) < n_2 then ((m4.drop m2_0).length : Int) else n_2) else 0))) <|
  gd (decide ((if 0 < (if ((m4.drop m2_0).length : Int) < n_2 then ((m4.drop m2_0).length : Int) else n_2) then (if ((m4.drop m2_0).length : Int) < n_2 then ((m4.drop m2_0).length : Int) else n_2) else 0).toNat ≤ (m4.drop m2_0).length)) <|
  gd (decide ((m2_0 + 0) + (((if 0 < (if ((m4.drop m2_0).length : Int) < n_2 then ((m4.drop m2_0).length : Int) else n_2) then (if ((m4.drop m2_0).length : Int) < n_2 then ((m4.drop m2_0).length : Int) else n_2) else 0).toNat) - 0) ≤ m4.length)) <|
  pcK scfg 43 [V.sl (((m4).drop (m2_0 + 0)).take (((if 0 < (if ((m4.drop m2_0).length : Int) < n_2 then ((m4.drop m2_0).length : Int) else n_2) then (if ((m4.drop m2_0).length : Int) < n_2 then ((m4.drop m2_0).length : Int) else n_2) else 0).toNat) - 0))] fun r_30 =>
  kF 41 r_30 fun r43_1 =>
  gd (wfl 3 (m4.drop m2_0)) <|
  gd (decide (0 ≤ (if 0 < (if ((m4.drop m2_0).length : Int) < n_2 then ((m4.drop m2_0).length : Int) else n_2) then (if ((m4.drop m2_0).length : Int) < n_2 then ((m4.drop m2_0).length : Int) else n_2) else 0))) <|
  gd (decide ((if 0 < (if ((m4.drop m2_0).length : Int) < n_2 then ((m4.drop m2_0).length : Int) else n_2) then (if ((m4.drop m2_0).length : Int) < n_2 then ((m4.drop m2_0).length : Int) else n_2) else 0).toNat ≤ (m4.drop m2_0).length)) <|
  pcK scfg 14 [V.sl r43_1] fun r_31 =>
  kF 43 r_31 fun r14_6 =>
  gd (decide (0 ≤ x7)) <|
  idxK x1 x7.toNat fun v_10 =>
  kI .i64 v_10 fun n_3 =>
  cond (decide (n_3 < 0))
 (cond (decide (0 > (m3.length : Int)))
 (gd (wfl 3 m3) <|
  gd (decide (0 ≤ (m3.length : Int))) <|
  gd (decide ((m3.length : Int).toNat ≤ m3.length)) <|
  gd (decide ((0 + 0) + (((m3.length : Int).toNat) - 0) ≤ m3.length)) <|
  gd (wfl 3 (((m3).drop (0 + 0)).take (((m3.length : Int).toNat) - 0))) <|
  gd (decide (0 + (((m3).drop (0 + 0)).take (((m3.length : Int).toNat) - 0)).length ≤ 16777216)) <|
  gd (wfl 3 m3) <|
  gd (decide (0 ≤ (m3.length : Int))) <|
  gd (decide ((m3.length : Int).toNat ≤ m3.length)) <|
  gd (wfl 3 (m3.drop (0 + ((m3.length : Int).toNat)))) <|
  gd (decide (0 + (m3.drop (0 + ((m3.length : Int).toNat))).length ≤ 16777216)) <|
  pcK scfg 16 [V.sl r14_6, V.sl (((m3).drop (0 + 0)).take (((m3.length : Int).toNat) - 0))] fun r_32 =>
  kB r_32 fun r16_9 =>
  cond (!r16_9)
 (some (.done (V.bool false)))
 (pcK scfg 27 [V.ref (V.agg [V.sl (m4.drop (m2_0 + ((if 0 < (if ((m4.drop m2_0).length : Int) < n_2 then ((m4.drop m2_0).length : Int) else n_2) then (if ((m4.drop m2_0).length : Int) < n_2 then ((m4.drop m2_0).length : Int) else n_2) else 0).toNat)))]) 0] fun r_33 =>
  kI .i64 r_33 fun r27_6 =>
  cond (r27_6 != ((m3.drop (0 + ((m3.length : Int).toNat))).length : Int))
 (some (.done (V.bool false)))
 (pcK scfg 28 [V.ref (V.agg [V.sl (m4.drop (m2_0 + ((if 0 < (if ((m4.drop m2_0).length : Int) < n_2 then ((m4.drop m2_0).length : Int) else n_2) then (if ((m4.drop m2_0).length : Int) < n_2 then ((m4.drop m2_0).length : Int) else n_2) else 0).toNat)))]) 0] fun r_34 =>
  kF 41 r_34 fun r28_5 =>
  pcK scfg 14 [V.sl r28_5] fun r_35 =>
  kF 43 r_35 fun r14_7 =>
  pcK scfg 16 [V.sl r14_7, V.sl (m3.drop (0 + ((m3.length : Int).toNat)))] fun r_36 =>
  kB r_36 fun r16_10 =>
  cond (!r16_10)
 (some (.done (V.bool false)))
 (some (.head 0 (T4_0 x0 x1 (W .i64 (x7 + 1)) (m2_0 + ((if 0 < (if ((m4.drop m2_0).length : Int) < n_2 then ((m4.drop m2_0).length : Int) else n_2) then (if ((m4.drop m2_0).length : Int) < n_2 then ((m4.drop m2_0).length : Int) else n_2) else 0).toNat)) (m3.drop (0 + ((m3.length : Int).toNat))) m4))))))
 (gd (wfl 3 m3) <|
  gd (decide ((0 + 0) + (0 - 0) ≤ m3.length)) <|
  gd (wfl 3 (((m3).drop (0 + 0)).take (0 - 0))) <|
  gd (decide (0 + (((m3).drop (0 + 0)).take (0 - 0)).length ≤ 16777216)) <|
  gd (wfl 3 m3) <|
  gd (wfl 3 (m3.drop (0 + 0))) <|
  gd (decide (0 + (m3.drop (0 + 0)).length ≤ 16777216)) <|
  pcK scfg 16 [V.sl r14_6, V.sl (((m3).drop (0 + 0)).take (0 - 0))] fun r_37 =>
  kB r_37 fun r16_11 =>
  cond (!r16_11)
 (some (.done (V.bool false)))
 (pcK scfg 27 [V.ref (V.agg [V.sl (m4.drop (m2_0 + ((if 0 < (if ((m4.drop m2_0).length : Int) < n_2 then ((m4.drop m2_0).length : Int) else n_2) then (if ((m4.drop m2_0).length : Int) < n_2 then ((m4.drop m2_0).length : Int) else n_2) else 0).toNat)))]) 0] fun r_38 =>
  kI .i64 r_38 fun r27_7 =>
  cond (r27_7 != ((m3.drop (0 + 0)).length : Int))
 (some (.done (V.bool false)))
 (pcK scfg 28 [V.ref (V.agg [V.sl (m4.drop (m2_0 + ((if 0 < (if ((m4.drop m2_0).length : Int) < n_2 then ((m4.drop m2_0).length : Int) else n_2) then (if ((m4.drop m2_0).length : Int) < n_2 then ((m4.drop m2_0).length : Int) else n_2) else 0).toNat)))]) 0] fun r_39 =>
  kF 41 r_39 fun r28_6 =>
  pcK scfg 14 [V.sl r28_6] fun r_40 =>
  kF 43 r_40 fun r14_8 =>
  pcK scfg 16 [V.sl r14_8, V.sl (m3.drop (0 + 0))] fun r_41 =>
  kB r_41 fun r16_12 =>
  cond (!r16_12)
 (some (.done (V.bool false)))
 (some (.head 0 (T4_0 x0 x1 (W .i64 (x7 + 1)) (m2_0 + ((if 0 < (if ((m4.drop m2_0).length : Int) < n_2 then ((m4.drop m2_0).length : Int) else n_2) then (if ((m4.drop m2_0).length : Int) < n_2 then ((m4.drop m2_0).length : Int) else n_2) else 0).toNat)) (m3.drop (0 + 0)) m4)))))))
 (cond (decide (n_3 > (m3.length : Int)))
 (gd (wfl 3 m3) <|
  gd (decide (0 ≤ (m3.length : Int))) <|
  gd (decide ((m3.length : Int).toNat ≤ m3.length)) <|
  gd (decide ((0 + 0) + (((m3.length : Int).toNat) - 0) ≤ m3.length)) <|
  gd (wfl 3 (((m3).drop (0 + 0)).take (((m3.length : Int).toNat) - 0))) <|
  gd (decide (0 + (((m3).drop (0 + 0)).take (((m3.length : Int).toNat) - 0)).length ≤ 16777216)) <|
  gd (wfl 3 m3) <|
  gd (decide (0 ≤ (m3.length : Int))) <|
  gd (decide ((m3.length : Int).toNat ≤ m3.length)) <|
  gd (wfl 3 (m3.drop (0 + ((m3.length : Int).toNat)))) <|
  gd (decide (0 + (m3.drop (0 + ((m3.length : Int).toNat))).length ≤ 16777216)) <|
  pcK scfg 16 [V.sl r14_6, V.sl (((m3).drop (0 + 0)).take (((m3.length : Int).toNat) - 0))] fun r_42 =>
  kB r_42 fun r16_13 =>
  cond (!r16_13)
 (some (.done (V.bool false)))
 (pcK scfg 27 [V.ref (V.agg [V.sl (m4.drop (m2_0 + ((if 0 < (if ((m4.drop m2_0).length : Int) < n_2 then ((m4.drop m2_0).length : Int) else n_2) then (if ((m4.drop m2_0).length : Int) < n_2 then ((m4.drop m2_0).length : Int) else n_2) else 0).toNat)))]) 0] fun r_43 =>
  kI .i64 r_43 fun r27_8 =>
  cond (r27_8 != ((m3.drop (0 + ((m3.length : Int).toNat))).length : Int))
 (some (.done (V.bool false)))
 (pcK scfg 28 [V.ref (V.agg [V.sl (m4.drop (m2_0 + ((if 0 < (if ((m4.drop m2_0).length : Int) < n_2 then ((m4.drop m2_0).length : Int) else n_2) then (if ((m4.drop m2_0).length : Int) < n_2 then ((m4.drop m2_0).length : Int) else n_2) else 0).toNat)))]) 0] fun r_44 =>
  kF 41 r_44 fun r28_7 =>
  pcK scfg 14 [V.sl r28_7] fun r_45 =>
  kF 43 r_45 fun r14_9 =>
  pcK scfg 16 [V.sl r14_9, V.sl (m3.drop (0 + ((m3.length : Int).toNat)))] fun r_46 =>
  kB r_46 fun r16_14 =>
  cond (!r16_14)
 (some (.done (V.bool false)))
 (some (.head 0 (T4_0 x0 x1 (W .i64 (x7 + 1)) (m2_0 + ((if 0 < (if ((m4.drop m2_0).length : Int) < n_2 then ((m4.drop m2_0).length : Int) else n_2) then (if ((m4.drop m2_0).length : Int) < n_2 then ((m4.drop m2_0).length : Int) else n_2) else 0).toNat)) (m3.drop (0 + ((m3.length : Int).toNat))) m4))))))
 (gd (wfl 3 m3) <|
  gd (decide (0 ≤ n_3)) <|
  gd (decide (n_3.toNat ≤ m3.length)) <|
  gd (decide ((0 + 0) + (n_3.toNat - 0) ≤ m3.length)) <|
  gd (wfl 3 (((m3).drop (0 + 0)).take (n_3.toNat - 0))) <|
  gd (decide (0 + (((m3).drop (0 + 0)).take (n_3.toNat - 0)).length ≤ 16777216)) <|
  gd (wfl 3 m3) <|
  gd (decide (0 ≤ n_3)) <|
  gd (decide (n_3.toNat ≤ m3.length)) <|
  gd (wfl 3 (m3.drop (0 + n_3.toNat))) <|
  gd (decide (0 + (m3.drop (0 + n_3.toNat)).length ≤ 16777216)) <|
  pcK scfg 16 [V.sl r14_6, V.sl (((m3).drop (0 + 0)).take (n_3.toNat - 0))] fun r_47 =>
  kB r_47 fun r16_15 =>
  cond (!r16_15)
 (some (.done (V.bool false)))
 (pcK scfg 27 [V.ref (V.agg [V.sl (m4.drop (m2_0 + ((if 0 < (if ((m4.drop m2_0).length : Int) < n_2 then ((m4.drop m2_0).length : Int) else n_2) then (if ((m4.drop m2_0).length : Int) < n_2 then ((m4.drop m2_0).length : Int) else n_2) else 0).toNat)))]) 0] fun r_48 =>
  kI .i64 r_48 fun r27_9 =>
  cond (r27_9 != ((m3.drop (0 + n_3.toNat)).length : Int))
 (some (.done (V.bool false)))
 (pcK scfg 28 [V.ref (V.agg [V.sl (m4.drop (m2_0 + ((if 0 < (if ((m4.drop m2_0).length : Int) < n_2 then ((m4.drop m2_0).length : Int) else n_2) then (if ((m4.drop m2_0).length : Int) < n_2 then ((m4.drop m2_0).length : Int) else n_2) else 0).toNat)))]) 0] fun r_49 =>
  kF 41 r_49 fun r28_8 =>
  pcK scfg 14 [V.sl r28_8] fun r_50 =>
  kF 43 r_50 fun r14_10 =>
  pcK scfg 16 [V.sl r14_10, V.sl (m3.drop (0 + n_3.toNat))] fun r_51 =>
  kB r_51 fun r16_16 =>
  cond (!r16_16)
 (some (.done (V.bool false)))
 (some (.head 0 (T4_0 x0 x1 (W .i64 (x7 + 1)) (m2_0 + ((if 0 < (if ((m4.drop m2_0).length : Int) < n_2 then ((m4.drop m2_0).length : Int) else n_2) then (if ((m4.drop m2_0).length : Int) < n_2 then ((m4.drop m2_0).length : Int) else n_2) else 0).toNat)) (m3.drop (0 + n_3.toNat)) m4))))))))
 (pcK scfg 27 [V.ref (V.agg [V.sl (m4.drop m2_0)]) 0] fun r_52 =>
  kI .i64 r_52 fun r27_10 =>
  cond (r27_10 != (m3.length : Int))
 (some (.done (V.bool false)))
 (pcK scfg 28 [V.ref (V.agg [V.sl (m4.drop m2_0)]) 0] fun r_53 =>
  kF 41 r_53 fun r28_9 =>
  pcK scfg 14 [V.sl r28_9] fun r_54 =>
  kF 43 r_54 fun r14_11 =>
  pcK scfg 16 [V.sl r14_11, V.sl m3] fun r_55 =>
  kB r_55 fun r16_17 =>
  cond (!r16_17)
 (some (.done (V.bool false)))
 (some (.head 0 (T4_0 x0 x1 (W .i64 (x7 + 1)) m2_0 m3 m4))))))
 (gd (decide (m3.length + ([V.agg [V.int .i64 kind0_4, V.str low0_5, V.int .i64 page_6]] : List V).length ≤ 16777216)) <|
  some (.done (V.bool false)))))
 (gd (decide ((m4.drop m2_0).length + ([V.agg [V.int .i64 kind0, V.str low0, V.int .i64 page]] : List V).length ≤ 16777216)) <|
  gd (decide (0 ≤ x7)) <|
  idxK x0 x7.toNat fun v_11 =>
  d41 v_11 fun kind0_7 low0_7 page_7 =>
  gd (decide (0 ≤ x7)) <|
  idxK x0 x7.toNat fun v_12 =>
  d41 v_12 fun kind0_8 low0_8 page_8 =>
  gd (decide (0 ≤ x7)) <|
  idxK x0 x7.toNat fun v_13 =>
  d41 v_13 fun kind0_9 low0_9 page_9 =>
  pcK scfg 41 [V.agg [V.int .i64 kind0_7, V.str low0_8, V.int .i64 page_9]] fun r_56 =>
  kB r_56 fun r41_2 =>
  cond (!r41_2)
 (some (.done (V.bool false)))
 (cond (decide ((m3.length : Int) ≥ 1024))
 (some (.done (V.bool false)))
 (gd (decide (m3.length + ([V.agg [V.int .i64 kind0_7, V.str low0_8, V.int .i64 page_9]] : List V).length ≤ 16777216)) <|
  cond (decide (x7 < (x1.length : Int)))
 (gd (decide (0 ≤ x7)) <|
  idxK x1 x7.toNat fun v_14 =>
  kI .i64 v_14 fun n_4 =>
  gd (wfl 3 ((m4.drop m2_0) ++ [V.agg [V.int .i64 kind0, V.str low0, V.int .i64 page]])) <|
  gd (decide (0 ≤ (if 0 < (if (((m4.drop m2_0) ++ [V.agg [V.int .i64 kind0, V.str low0, V.int .i64 page]]).length : Int) < n_4 then (((m4.drop m2_0) ++ [V.agg [V.int .i64 kind0, V.str low0, V.int .i64 page]]).length : Int) else n_4) then (if (((m4.drop m2_0) ++ [V.agg [V.int .i64 kind0, V.str low0, V.int .i64 page]]).length : Int) < n_4 then (((m4.drop m2_0) ++ [V.agg [V.int .i64 kind0, V.str low0, V.int .i64 page]]).length : Int) else n_4) else 0))) <|
  gd (decide ((if 0 < (if (((m4.drop m2_0) ++ [V.agg [V.int .i64 kind0, V.str low0, V.int .i64 page]]).length : Int) < n_4 then (((m4.drop m2_0) ++ [V.agg [V.int .i64 kind0, V.str low0, V.int .i64 page]]).length : Int) else n_4) then (if (((m4.drop m2_0) ++ [V.agg [V.int .i64 kind0, V.str low0, V.int .i64 page]]).length : Int) < n_4 then (((m4.drop m2_0) ++ [V.agg [V.int .i64 kind0, V.str low0, V.int .i64 page]]).length : Int) else n_4) else 0).toNat ≤ ((m4.drop m2_0) ++ [V.agg [V.int .i64 kind0, V.str low0, V.int .i64 page]]).length)) <|
  gd (decide ((0 + 0) + (((if 0 < (if (((m4.drop m2_0) ++ [V.agg [V.int .i64 kind0, V.str low0, V.int .i64 page]]).length : Int) < n_4 then (((m4.drop m2_0) ++ [V.agg [V.int .i64 kind0, V.str low0, V.int .i64 page]]).length : Int) else n_4) then (if (((m4.drop m2_0) ++ [V.agg [V.int .i64 kind0, V.str low0, V.int .i64 page]]).length : Int) < n_4 then (((m4.drop m2_0) ++ [V.agg [V.int .i64 kind0, V.str low0, V.int .i64 page]]).length : Int) else n_4) else 0).toNat) - 0) ≤ ((m4.drop m2_0) ++ [V.agg [V.int .i64 kind0, V.str low0, V.int .i64 page]]).length)) <|
  pcK scfg 43 [V.sl ((((m4.drop m2_0) ++ [V.agg [V.int .i64 kind0, V.str low0, V.int .i64 page]]).drop (0 + 0)).take (((if 0 < (if (((m4.drop m2_0) ++ [V.agg [V.int .i64 kind0, V.str low0, V.int .i64 page]]).length : Int) < n_4 then (((m4.drop m2_0) ++ [V.agg [V.int .i64 kind0, V.str low0, V.int .i64 page]]).length : Int) else n_4) then (if (((m4.drop m2_0) ++ [V.agg [V.int .i64 kind0, V.str low0, V.int .i64 page]]).length : Int) < n_4 then (((m4.drop m2_0) ++ [V.agg [V.int .i64 kind0, V.str low0, V.int .i64 page]]).length : Int) else n_4) else 0).toNat) - 0))] fun r_57 =>
  kF 41 r_57 fun r43_2 =>
  gd (wfl 3 ((m4.drop m2_0) ++ [V.agg [V.int .i64 kind0, V.str low0, V.int .i64 page]])) <|
  gd (decide (0 ≤ (if 0 < (if (((m4.drop m2_0) ++ [V.agg [V.int .i64 kind0, V.str low0, V.int .i64 page]]).length : Int) < n_4 then (((m4.drop m2_0) ++ [V.agg [V.int .i64 kind0, V.str low0, V.int .i64 page]]).length : Int) else n_4) then (if (((m4.drop m2_0) ++ [V.agg [V.int .i64 kind0, V.str low0, V.int .i64 page]]).length : Int) < n_4 then (((m4.drop m2_0) ++ [V.agg [V.int .i64 kind0, V.str low0, V.int .i64 page]]).length : Int) else n_4) else 0))) <|
  gd (decide ((if 0 < (if (((m4.drop m2_0) ++ [V.agg [V.int .i64 kind0, V.str low0, V.int .i64 page]]).length : Int) < n_4 then (((m4.drop m2_0) ++ [V.agg [V.int .i64 kind0, V.str low0, V.int .i64 page]]).length : Int) else n_4) then (if (((m4.drop m2_0) ++ [V.agg [V.int .i64 kind0, V.str low0, V.int .i64 page]]).length : Int) < n_4 then (((m4.drop m2_0) ++ [V.agg [V.int .i64 kind0, V.str low0, V.int .i64 page]]).length : Int) else n_4) else 0).toNat ≤ ((m4.drop m2_0) ++ [V.agg [V.int .i64 kind0, V.str low0, V.int .i64 page]]).length)) <|
  pcK scfg 14 [V.sl r43_2] fun r_58 =>
  kF 43 r_58 fun r14_12 =>
  gd (decide (0 ≤ x7)) <|
  idxK x1 x7.toNat fun v_15 =>
  kI .i64 v_15 fun n_5 =>
  cond (decide (n_5 < 0))
 (cond (decide (0 > ((m3 ++ [V.agg [V.int .i64 kind0_7, V.str low0_8, V.int .i64 page_9]]).length : Int)))
 (gd (wfl 3 (m3 ++ [V.agg [V.int .i64 kind0_7, V.str low0_8, V.int .i64 page_9]])) <|
  gd (decide (0 ≤ ((m3 ++ [V.agg [V.int .i64 kind0_7, V.str low0_8, V.int .i64 page_9]]).length : Int))) <|
  gd (decide (((m3 ++ [V.agg [V.int .i64 kind0_7, V.str low0_8, V.int .i64 page_9]]).length : Int).toNat ≤ (m3 ++ [V.agg [V.int .i64 kind0_7, V.str low0_8, V.int .i64 page_9]]).length)) <|
  gd (decide ((0 + 0) + ((((m3 ++ [V.agg [V.int .i64 kind0_7, V.str low0_8, V.int .i64 page_9]]).length : Int).toNat) - 0) ≤ (m3 ++ [V.agg [V.int .i64 kind0_7, V.str low0_8, V.int .i64 page_9]]).length)) <|
  gd (wfl 3 (((m3 ++ [V.agg [V.int .i64 kind0_7, V.str low0_8, V.int .i64 page_9]]).drop (0 + 0)).take ((((m3 ++ [V.agg [V.int .i64 kind0_7, V.str low0_8, V.int .i64 page_9]]).length : Int).toNat) - 0))) <|
  gd (decide (0 + (((m3 ++ [V.agg [V.int .i64 kind0_7, V.str low0_8, V.int .i64 page_9]]).drop (0 + 0)).take ((((m3 ++ [V.agg [V.int .i64 kind0_7, V.str low0_8, V.int .i64 page_9]]).length : Int).toNat) - 0)).length ≤ 16777216)) <|
  gd (wfl 3 (m3 ++ [V.agg [V.int .i64 kind0_7, V.str low0_8, V.int .i64 page_9]])) <|
  gd (decide (0 ≤ ((m3 ++ [V.agg [V.int .i64 kind0_7, V.str low0_8, V.int .i64 page_9]]).length : Int))) <|
  gd (decide (((m3 ++ [V.agg [V.int .i64 kind0_7, V.str low0_8, V.int .i64 page_9]]).length : Int).toNat ≤ (m3 ++ [V.agg [V.int .i64 kind0_7, V.str low0_8, V.int .i64 page_9]]).length)) <|
  gd (wfl 3 ((m3 ++ [V.agg [V.int .i64 kind0_7, V.str low0_8, V.int .i64 page_9]]).drop (0 + (((m3 ++ [V.agg [V.int .i64 kind0_7, V.str low0_8, V.int .i64 page_9]]).length : Int).toNat)))) <|
  gd (decide (0 + ((m3 ++ [V.agg [V.int .i64 kind0_7, V.str low0_8, V.int .i64 page_9]]).drop (0 + (((m3 ++ [V.agg [V.int .i64 kind0_7, V.str low0_8, V.int .i64 page_9]]).length : Int).toNat))).length ≤ 16777216)) <|
  pcK scfg 16 [V.sl r14_12, V.sl (((m3 ++ [V.agg [V.int .i64 kind0_7, V.str low0_8, V.int .i64 page_9]]).drop (0 + 0)).take ((((m3 ++ [V.agg [V.int .i64 kind0_7, V.str low0_8, V.int .i64 page_9]]).length : Int).toNat) - 0))] fun r_59 =>
  kB r_59 fun r16_18 =>
  cond (!r16_18)
 (some (.done (V.bool false)))
 (pcK scfg 27 [V.ref (V.agg [V.sl (((m4.drop m2_0) ++ [V.agg [V.int .i64 kind0, V.str low0, V.int .i64 page]]).drop (0 + ((if 0 < (if (((m4.drop m2_0) ++ [V.agg [V.int .i64 kind0, V.str low0, V.int .i64 page]]).length : Int) < n_4 then (((m4.drop m2_0) ++ [V.agg [V.int .i64 kind0, V.str low0, V.int .i64 page]]).length : Int) else n_4) then (if (((m4.drop m2_0) ++ [V.agg [V.int .i64 kind0, V.str low0, V.int .i64 page]]).length : Int) < n_4 then (((m4.drop m2_0) ++ [V.agg [V.int .i64 kind0, V.str low0, V.int .i64 page]]).length : Int) else n_4) else 0).toNat)))]) 0] fun r_60 =>
  kI .i64 r_60 fun r27_11 =>
  cond (r27_11 != (((m3 ++ [V.agg [V.int .i64 kind0_7, V.str low0_8, V.int .i64 page_9]]).drop (0 + (((m3 ++ [V.agg [V.int .i64 kind0_7, V.str low0_8, V.int .i64 page_9]]).length : Int).toNat))).length : Int))
 (some (.done (V.bool false)))
 (pcK scfg 28 [V.ref (V.agg [V.sl (((m4.drop m2_0) ++ [V.agg [V.int .i64 kind0, V.str low0, V.int .i64 page]]).drop (0 + ((if 0 < (if (((m4.drop m2_0) ++ [V.agg [V.int .i64 kind0, V.str low0, V.int .i64 page]]).length : Int) < n_4 then (((m4.drop m2_0) ++ [V.agg [V.int .i64 kind0, V.str low0, V.int .i64 page]]).length : Int) else n_4) then (if (((m4.drop m2_0) ++ [V.agg [V.int .i64 kind0, V.str low0, V.int .i64 page]]).length : Int) < n_4 then (((m4.drop m2_0) ++ [V.agg [V.int .i64 kind0, V.str low0, V.int .i64 page]]).length : Int) else n_4) else 0).toNat)))]) 0] fun r_61 =>
  kF 41 r_61 fun r28_10 =>
  pcK scfg 14 [V.sl r28_10] fun r_62 =>
  kF 43 r_62 fun r14_13 =>
  pcK scfg 16 [V.sl r14_13, V.sl ((m3 ++ [V.agg [V.int .i64 kind0_7, V.str low0_8, V.int .i64 page_9]]).drop (0 + (((m3 ++ [V.agg [V.int .i64 kind0_7, V.str low0_8, V.int .i64 page_9]]).length : Int).toNat)))] fun r_63 =>
  kB r_63 fun r16_19 =>
  cond (!r16_19)
 (some (.done (V.bool false)))
 (some (.head 0 (T4_0 x0 x1 (W .i64 (x7 + 1)) (0 + ((if 0 < (if (((m4.drop m2_0) ++ [V.agg [V.int .i64 kind0, V.str low0, V.int .i64 page]]).length : Int) < n_4 then (((m4.drop m2_0) ++ [V.agg [V.int .i64 kind0, V.str low0, V.int .i64 page]]).length : Int) else n_4) then (if (((m4.drop m2_0) ++ [V.agg [V.int .i64 kind0, V.str low0, V.int .i64 page]]).length : Int) < n_4 then (((m4.drop m2_0) ++ [V.agg [V.int .i64 kind0, V.str low0, V.int .i64 page]]).length : Int) else n_4) else 0).toNat)) ((m3 ++ [V.agg [V.int .i64 kind0_7, V.str low0_8, V.int .i64 page_9]]).drop (0 + (((m3 ++ [V.agg [V.int .i64 kind0_7, V.str low0_8, V.int .i64 page_9]]).length : Int).toNat))) ((m4.drop m2_0) ++ [V.agg [V.int .i64 kind0, V.str low0, V.int .i64 page]])))))))
 (gd (wfl 3 (m3 ++ [V.agg [V.int .i64 kind0_7, V.str low0_8, V.int .i64 page_9]])) <|
  gd (decide ((0 + 0) + (0 - 0) ≤ (m3 ++ [V.agg [V.int .i64 kind0_7, V.str low0_8, V.int .i64 page_9]]).length)) <|
  gd (wfl 3 (((m3 ++ [V.agg [V.int .i64 kind0_7, V.str low0_8, V.int .i64 page_9]]).drop (0 + 0)).take (0 - 0))) <|
  gd (decide (0 + (((m3 ++ [V.agg [V.int .i64 kind0_7, V.str low0_8, V.int .i64 page_9]]).drop (0 + 0)).take (0 - 0)).length ≤ 16777216)) <|
  gd (wfl 3 (m3 ++ [V.agg [V.int .i64 kind0_7, V.str low0_8, V.int .i64 page_9]])) <|
  gd (wfl 3 ((m3 ++ [V.agg [V.int .i64 kind0_7, V.str low0_8, V.int .i64 page_9]]).drop (0 + 0))) <|
  gd (decide (0 + ((m3 ++ [V.agg [V.int .i64 kind0_7, V.str low0_8, V.int .i64 page_9]]).drop (0 + 0)).length ≤ 16777216)) <|
  pcK scfg 16 [V.sl r14_12, V.sl (((m3 ++ [V.agg [V.int .i64 kind0_7, V.str low0_8, V.int .i64 page_9]]).drop (0 + 0)).take (0 - 0))] fun r_64 =>
  kB r_64 fun r16_20 =>
  cond (!r16_20)
 (some (.done (V.bool false)))
 (pcK scfg 27 [V.ref (V.agg [V.sl (((m4.drop m2_0) ++ [V.agg [V.int .i64 kind0, V.str low0, V.int .i64 page]]).drop (0 + ((if 0 < (if (((m4.drop m2_0) ++ [V.agg [V.int .i64 kind0, V.str low0, V.int .i64 page]]).length : Int) < n_4 then (((m4.drop m2_0) ++ [V.agg [V.int .i64 kind0, V.str low0, V.int .i64 page]]).length : Int) else n_4) then (if (((m4.drop m2_0) ++ [V.agg [V.int .i64 kind0, V.str low0, V.int .i64 page]]).length : Int) < n_4 then (((m4.drop m2_0) ++ [V.agg [V.int .i64 kind0, V.str low0, V.int .i64 page]]).length : Int) else n_4) else 0).toNat)))]) 0] fun r_65 =>
  kI .i64 r_65 fun r27_12 =>
  cond (r27_12 != (((m3 ++ [V.agg [V.int .i64 kind0_7, V.str low0_8, V.int .i64 page_9]]).drop (0 + 0)).length : Int))
 (some (.done (V.bool false)))
 (pcK scfg 28 [V.ref (V.agg [V.sl (((m4.drop m2_0) ++ [V.agg [V.int .i64 kind0, V.str low0, V.int .i64 page]]).drop (0 + ((if 0 < (if (((m4.drop m2_0) ++ [V.agg [V.int .i64 kind0, V.str low0, V.int .i64 page]]).length : Int) < n_4 then (((m4.drop m2_0) ++ [V.agg [V.int .i64 kind0, V.str low0, V.int .i64 page]]).length : Int) else n_4) then (if (((m4.drop m2_0) ++ [V.agg [V.int .i64 kind0, V.str low0, V.int .i64 page]]).length : Int) < n_4 then (((m4.drop m2_0) ++ [V.agg [V.int .i64 kind0, V.str low0, V.int .i64 page]]).length : Int) else n_4) else 0).toNat)))]) 0] fun r_66 =>
  kF 41 r_66 fun r28_11 =>
  pcK scfg 14 [V.sl r28_11] fun r_67 =>
  kF 43 r_67 fun r14_14 =>
  pcK scfg 16 [V.sl r14_14, V.sl ((m3 ++ [V.agg [V.int .i64 kind0_7, V.str low0_8, V.int .i64 page_9]]).drop (0 + 0))] fun r_68 =>
  kB r_68 fun r16_21 =>
  cond (!r16_21)
 (some (.done (V.bool false)))
 (some (.head 0 (T4_0 x0 x1 (W .i64 (x7 + 1)) (0 + ((if 0 < (if (((m4.drop m2_0) ++ [V.agg [V.int .i64 kind0, V.str low0, V.int .i64 page]]).length : Int) < n_4 then (((m4.drop m2_0) ++ [V.agg [V.int .i64 kind0, V.str low0, V.int .i64 page]]).length : Int) else n_4) then (if (((m4.drop m2_0) ++ [V.agg [V.int .i64 kind0, V.str low0, V.int .i64 page]]).length : Int) < n_4 then (((m4.drop m2_0) ++ [V.agg [V.int .i64 kind0, V.str low0, V.int .i64 page]]).length : Int) else n_4) else 0).toNat)) ((m3 ++ [V.agg [V.int .i64 kind0_7, V.str low0_8, V.int .i64 page_9]]).drop (0 + 0)) ((m4.drop m2_0) ++ [V.agg [V.int .i64 kind0, V.str low0, V.int .i64 page]]))))))))
 (cond (decide (n_5 > ((m3 ++ [V.agg [V.int .i64 kind0_7, V.str low0_8, V.int .i64 page_9]]).length : Int)))
 (gd (wfl 3 (m3 ++ [V.agg [V.int .i64 kind0_7, V.str low0_8, V.int .i64 page_9]])) <|
  gd (decide (0 ≤ ((m3 ++ [V.agg [V.int .i64 kind0_7, V.str low0_8, V.int .i64 page_9]]).length : Int))) <|
  gd (decide (((m3 ++ [V.agg [V.int .i64 kind0_7, V.str low0_8, V.int .i64 page_9]]).length : Int).toNat ≤ (m3 ++ [V.agg [V.int .i64 kind0_7, V.str low0_8, V.int .i64 page_9]]).length)) <|
  gd (decide ((0 + 0) + ((((m3 ++ [V.agg [V.int .i64 kind0_7, V.str low0_8, V.int .i64 page_9]]).length : Int).toNat) - 0) ≤ (m3 ++ [V.agg [V.int .i64 kind0_7, V.str low0_8, V.int .i64 page_9]]).length)) <|
  gd (wfl 3 (((m3 ++ [V.agg [V.int .i64 kind0_7, V.str low0_8, V.int .i64 page_9]]).drop (0 + 0)).take ((((m3 ++ [V.agg [V.int .i64 kind0_7, V.str low0_8, V.int .i64 page_9]]).length : Int).toNat) - 0))) <|
  gd (decide (0 + (((m3 ++ [V.agg [V.int .i64 kind0_7, V.str low0_8, V.int .i64 page_9]]).drop (0 + 0)).take ((((m3 ++ [V.agg [V.int .i64 kind0_7, V.str low0_8, V.int .i64 page_9]]).length : Int).toNat) - 0)).length ≤ 16777216)) <|
  gd (wfl 3 (m3 ++ [V.agg [V.int .i64 kind0_7, V.str low0_8, V.int .i64 page_9]])) <|
  gd (decide (0 ≤ ((m3 ++ [V.agg [V.int .i64 kind0_7, V.str low0_8, V.int .i64 page_9]]).length : Int))) <|
  gd (decide (((m3 ++ [V.agg [V.int .i64 kind0_7, V.str low0_8, V.int .i64 page_9]]).length : Int).toNat ≤ (m3 ++ [V.agg [V.int .i64 kind0_7, V.str low0_8, V.int .i64 page_9]]).length)) <|
  gd (wfl 3 ((m3 ++ [V.agg [V.int .i64 kind0_7, V.str low0_8, V.int .i64 page_9]]).drop (0 + (((m3 ++ [V.agg [V.int .i64 kind0_7, V.str low0_8, V.int .i64 page_9]]).length : Int).toNat)))) <|
  gd (decide (0 + ((m3 ++ [V.agg [V.int .i64 kind0_7, V.str low0_8, V.int .i64 page_9]]).drop (0 + (((m3 ++ [V.agg [V.int .i64 kind0_7, V.str low0_8, V.int .i64 page_9]]).length : Int).toNat))).length ≤ 16777216)) <|
  pcK scfg 16 [V.sl r14_12, V.sl (((m3 ++ [V.agg [V.int .i64 kind0_7, V.str low0_8, V.int .i64 page_9]]).drop (0 + 0)).take ((((m3 ++ [V.agg [V.int .i64 kind0_7, V.str low0_8, V.int .i64 page_9]]).length : Int).toNat) - 0))] fun r_69 =>
  kB r_69 fun r16_22 =>
  cond (!r16_22)
 (some (.done (V.bool false)))
 (pcK scfg 27 [V.ref (V.agg [V.sl (((m4.drop m2_0) ++ [V.agg [V.int .i64 kind0, V.str low0, V.int .i64 page]]).drop (0 + ((if 0 < (if (((m4.drop m2_0) ++ [V.agg [V.int .i64 kind0, V.str low0, V.int .i64 page]]).length : Int) < n_4 then (((m4.drop m2_0) ++ [V.agg [V.int .i64 kind0, V.str low0, V.int .i64 page]]).length : Int) else n_4) then (if (((m4.drop m2_0) ++ [V.agg [V.int .i64 kind0, V.str low0, V.int .i64 page]]).length : Int) < n_4 then (((m4.drop m2_0) ++ [V.agg [V.int .i64 kind0, V.str low0, V.int .i64 page]]).length : Int) else n_4) else 0).toNat)))]) 0] fun r_70 =>
  kI .i64 r_70 fun r27_13 =>
  cond (r27_13 != (((m3 ++ [V.agg [V.int .i64 kind0_7, V.str low0_8, V.int .i64 page_9]]).drop (0 + (((m3 ++ [V.agg [V.int .i64 kind0_7, V.str low0_8, V.int .i64 page_9]]).length : Int).toNat))).length : Int))
 (some (.done (V.bool false)))
 (pcK scfg 28 [V.ref (V.agg [V.sl (((m4.drop m2_0) ++ [V.agg [V.int .i64 kind0, V.str low0, V.int .i64 page]]).drop (0 + ((if 0 < (if (((m4.drop m2_0) ++ [V.agg [V.int .i64 kind0, V.str low0, V.int .i64 page]]).length : Int) < n_4 then (((m4.drop m2_0) ++ [V.agg [V.int .i64 kind0, V.str low0, V.int .i64 page]]).length : Int) else n_4) then (if (((m4.drop m2_0) ++ [V.agg [V.int .i64 kind0, V.str low0, V.int .i64 page]]).length : Int) < n_4 then (((m4.drop m2_0) ++ [V.agg [V.int .i64 kind0, V.str low0, V.int .i64 page]]).length : Int) else n_4) else 0).toNat)))]) 0] fun r_71 =>
  kF 41 r_71 fun r28_12 =>
  pcK scfg 14 [V.sl r28_12] fun r_72 =>
  kF 43 r_72 fun r14_15 =>
  pcK scfg 16 [V.sl r14_15, V.sl ((m3 ++ [V.agg [V.int .i64 kind0_7, V.str low0_8, V.int .i64 page_9]]).drop (0 + (((m3 ++ [V.agg [V.int .i64 kind0_7, V.str low0_8, V.int .i64 page_9]]).length : Int).toNat)))] fun r_73 =>
  kB r_73 fun r16_23 =>
  cond (!r16_23)
 (some (.done (V.bool false)))
 (some (.head 0 (T4_0 x0 x1 (W .i64 (x7 + 1)) (0 + ((if 0 < (if (((m4.drop m2_0) ++ [V.agg [V.int .i64 kind0, V.str low0, V.int .i64 page]]).length : Int) < n_4 then (((m4.drop m2_0) ++ [V.agg [V.int .i64 kind0, V.str low0, V.int .i64 page]]).length : Int) else n_4) then (if (((m4.drop m2_0) ++ [V.agg [V.int .i64 kind0, V.str low0, V.int .i64 page]]).length : Int) < n_4 then (((m4.drop m2_0) ++ [V.agg [V.int .i64 kind0, V.str low0, V.int .i64 page]]).length : Int) else n_4) else 0).toNat)) ((m3 ++ [V.agg [V.int .i64 kind0_7, V.str low0_8, V.int .i64 page_9]]).drop (0 + (((m3 ++ [V.agg [V.int .i64 kind0_7, V.str low0_8, V.int .i64 page_9]]).length : Int).toNat))) ((m4.drop m2_0) ++ [V.agg [V.int .i64 kind0, V.str low0, V.int .i64 page]])))))))
 (gd (wfl 3 (m3 ++ [V.agg [V.int .i64 kind0_7, V.str low0_8, V.int .i64 page_9]])) <|
  gd (decide (0 ≤ n_5)) <|
  gd (decide (n_5.toNat ≤ (m3 ++ [V.agg [V.int .i64 kind0_7, V.str low0_8, V.int .i64 page_9]]).length)) <|
  gd (decide ((0 + 0) + (n_5.toNat - 0) ≤ (m3 ++ [V.agg [V.int .i64 kind0_7, V.str low0_8, V.int .i64 page_9]]).length)) <|
  gd (wfl 3 (((m3 ++ [V.agg [V.int .i64 kind0_7, V.str low0_8, V.int .i64 page_9]]).drop (0 + 0)).take (n_5.toNat - 0))) <|
  gd (decide (0 + (((m3 ++ [V.agg [V.int .i64 kind0_7, V.str low0_8, V.int .i64 page_9]]).drop (0 + 0)).take (n_5.toNat - 0)).length ≤ 16777216)) <|
  gd (wfl 3 (m3 ++ [V.agg [V.int .i64 kind0_7, V.str low0_8, V.int .i64 page_9]])) <|
  gd (decide (0 ≤ n_5)) <|
  gd (decide (n_5.toNat ≤ (m3 ++ [V.agg [V.int .i64 kind0_7, V.str low0_8, V.int .i64 page_9]]).length)) <|
  gd (wfl 3 ((m3 ++ [V.agg [V.int .i64 kind0_7, V.str low0_8, V.int .i64 page_9]]).drop (0 + n_5.toNat))) <|
  gd (decide (0 + ((m3 ++ [V.agg [V.int .i64 kind0_7, V.str low0_8, V.int .i64 page_9]]).drop (0 + n_5.toNat)).length ≤ 16777216)) <|
  pcK scfg 16 [V.sl r14_12, V.sl (((m3 ++ [V.agg [V.int .i64 kind0_7, V.str low0_8, V.int .i64 page_9]]).drop (0 + 0)).take (n_5.toNat - 0))] fun r_74 =>
  kB r_74 fun r16_24 =>
  cond (!r16_24)
 (some (.done (V.bool false)))
 (pcK scfg 27 [V.ref (V.agg [V.sl (((m4.drop m2_0) ++ [V.agg [V.int .i64 kind0, V.str low0, V.int .i64 page]]).drop (0 + ((if 0 < (if (((m4.drop m2_0) ++ [V.agg [V.int .i64 kind0, V.str low0, V.int .i64 page]]).length : Int) < n_4 then (((m4.drop m2_0) ++ [V.agg [V.int .i64 kind0, V.str low0, V.int .i64 page]]).length : Int) else n_4) then (if (((m4.drop m2_0) ++ [V.agg [V.int .i64 kind0, V.str low0, V.int .i64 page]]).length : Int) < n_4 then (((m4.drop m2_0) ++ [V.agg [V.int .i64 kind0, V.str low0, V.int .i64 page]]).length : Int) else n_4) else 0).toNat)))]) 0] fun r_75 =>
  kI .i64 r_75 fun r27_14 =>
  cond (r27_14 != (((m3 ++ [V.agg [V.int .i64 kind0_7, V.str low0_8, V.int .i64 page_9]]).drop (0 + n_5.toNat)).length : Int))
 (some (.done (V.bool false)))
 (pcK scfg 28 [V.ref (V.agg [V.sl (((m4.drop m2_0) ++ [V.agg [V.int .i64 kind0, V.str low0, V.int .i64 page]]).drop (0 + ((if 0 < (if (((m4.drop m2_0) ++ [V.agg [V.int .i64 kind0, V.str low0, V.int .i64 page]]).length : Int) < n_4 then (((m4.drop m2_0) ++ [V.agg [V.int .i64 kind0, V.str low0, V.int .i64 page]]).length : Int) else n_4) then (if (((m4.drop m2_0) ++ [V.agg [V.int .i64 kind0, V.str low0, V.int .i64 page]]).length : Int) < n_4 then (((m4.drop m2_0) ++ [V.agg [V.int .i64 kind0, V.str low0, V.int .i64 page]]).length : Int) else n_4) else 0).toNat)))]) 0] fun r_76 =>
  kF 41 r_76 fun r28_13 =>
  pcK scfg 14 [V.sl r28_13] fun r_77 =>
  kF 43 r_77 fun r14_16 =>
  pcK scfg 16 [V.sl r14_16, V.sl ((m3 ++ [V.agg [V.int .i64 kind0_7, V.str low0_8, V.int .i64 page_9]]).drop (0 + n_5.toNat))] fun r_78 =>
  kB r_78 fun r16_25 =>
  cond (!r16_25)
 (some (.done (V.bool false)))
 (some (.head 0 (T4_0 x0 x1 (W .i64 (x7 + 1)) (0 + ((if 0 < (if (((m4.drop m2_0) ++ [V.agg [V.int .i64 kind0, V.str low0, V.int .i64 page]]).length : Int) < n_4 then (((m4.drop m2_0) ++ [V.agg [V.int .i64 kind0, V.str low0, V.int .i64 page]]).length : Int) else n_4) then (if (((m4.drop m2_0) ++ [V.agg [V.int .i64 kind0, V.str low0, V.int .i64 page]]).length : Int) < n_4 then (((m4.drop m2_0) ++ [V.agg [V.int .i64 kind0, V.str low0, V.int .i64 page]]).length : Int) else n_4) else 0).toNat)) ((m3 ++ [V.agg [V.int .i64 kind0_7, V.str low0_8, V.int .i64 page_9]]).drop (0 + n_5.toNat)) ((m4.drop m2_0) ++ [V.agg [V.int .i64 kind0, V.str low0, V.int .i64 page]])))))))))
 (pcK scfg 27 [V.ref (V.agg [V.sl ((m4.drop m2_0) ++ [V.agg [V.int .i64 kind0, V.str low0, V.int .i64 page]])]) 0] fun r_79 =>
  kI .i64 r_79 fun r27_15 =>
  cond (r27_15 != ((m3 ++ [V.agg [V.int .i64 kind0_7, V.str low0_8, V.int .i64 page_9]]).length : Int))
 (some (.done (V.bool false)))
 (pcK scfg 28 [V.ref (V.agg [V.sl ((m4.drop m2_0) ++ [V.agg [V.int .i64 kind0, V.str low0, V.int .i64 page]])]) 0] fun r_80 =>
  kF 41 r_80 fun r28_14 =>
  pcK scfg 14 [V.sl r28_14] fun r_81 =>
  kF 43 r_81 fun r14_17 =>
  pcK scfg 16 [V.sl r14_17, V.sl (m3 ++ [V.agg [V.int .i64 kind0_7, V.str low0_8, V.int .i64 page_9]])] fun r_82 =>
  kB r_82 fun r16_26 =>
  cond (!r16_26)
 (some (.done (V.bool false)))
 (some (.head 0 (T4_0 x0 x1 (W .i64 (x7 + 1)) 0 (m3 ++ [V.agg [V.int .i64 kind0_7, V.str low0_8, V.int .i64 page_9]]) ((m4.drop m2_0) ++ [V.agg [V.int .i64 kind0, V.str low0, V.int .i64 page]])))))))))))
 (pcK scfg 21 [] fun r_83 =>
  kB r_83 fun r21 =>
  some (.done (V.bool r21)))
theorem s4_0_eq (x0 : List V) (x1 : List V) (x7 : Int) (m2_0 : Nat) (m3 : List V) (m4 : List V) : goK sk false 0 fa4 0 (T4_0 x0 x1 x7 m2_0 m3 m4) = s4_0 x0 x1 x7 m2_0 m3 m4 := by kernel_rfl
theorem s4_0_run (x0 : List V) (x1 : List V) (x7 : Int) (m2_0 : Nat) (m3 : List V) (m4 : List V) {o o' : Out} (h : s4_0 x0 x1 x7 m2_0 m3 m4 = some o) (hg : Go sk false 0 fa4 o o') : Go sk false 0 fa4 (.head 0 (T4_0 x0 x1 x7 m2_0 m3 m4)) o' := .step ((s4_0_eq x0 x1 x7 m2_0 m3 m4).trans h) hg
/-! ### budwood/budwoodlaw19.SideWaits -/
noncomputable def fa7 : FA := ⟨2, 104, [.tmp 4], [4],
 (.seq
 (.ops false [⟨(some 4), .assign (.const (.bool false)), 4, none, false, false, false⟩])
 (.seq
 (.ops false [⟨(some 13), .call ⟨(.value (.func 22)), #[], #[]⟩, 47, none, false, false, false⟩, asg 5 13 47])
 (.seq
 (.seq
 (.ops false [mv 14 5 47, ⟨(some 15), .binOp .eql 47 (.tmp 14) (.const (.pointer none)) 47, 4, none, false, false, false⟩])
 (.cond (.tmp 15)
 (.seq
 (.ops false [⟨(some 4), .assign (.const (.bool false)), 4, none, false, false, false⟩])
 (.ret))
 (.skip)))
 (.seq
 (.ops false [⟨(some 6), .assign (.const (.int .i64 (0))), 3, none, false, false, false⟩])
 (.seq
 (.seq
 (.ops false [⟨(some 7), .assign (.const (.int .i64 (0))), 3, none, false, false, false⟩])
 (.block 0
 (.loop ([2, 3] ++ List.range' 8 96)
 (.seq
 (.seq
 (.ops false [mv 16 7 3, mv 17 1 5, ⟨(some 18), .convert 5 3 (.tmp 17), 3, none, false, false, false⟩, ⟨(some 19), .binOp .add 3 (.const (.int .i64 (1024))) (.tmp 18) 3, 3, none, false, false, false⟩, ⟨(some 20), .binOp .lss 3 (.tmp 16) (.tmp 19) 3, 4, none, false, false, false⟩])
 (.cond (.tmp 20)
 (.skip)
 (.exit 0)))
 (.seq
 (.block 1
 (.seq
 (.ops false [mv 23 5 47, mv 24 7 3, ⟨(some 25), .binOp .and 3 (.tmp 24) (.const (.int .i64 (1023))) 3, 3, none, false, false, false⟩, ⟨(some 26), .build 41 #[(0, (.const (.int .i64 (2)))), (2, (.tmp 25))], 41, none, false, false, false⟩, ⟨(some 27), .call ⟨(.value (.func 23)), #[(.tmp 23), (.tmp 26)], #[47, 41]⟩, 26, none, false, false, false⟩, asg 8 27 26])
 (.seq
 (.seq
 (.ops false [mv 28 8 26, ⟨(some 29), .binOp .eql 26 (.tmp 28) (.const (.int .i64 (0))) 26, 4, none, false, false, false⟩, mv 30 7 3, ⟨(some 31), .binOp .lss 3 (.tmp 30) (.const (.int .i64 (1024))) 3, 4, none, false, false, false⟩, ⟨(some 32), .binOp .neq 4 (.tmp 29) (.tmp 31) 4, 4, none, false, false, false⟩, mv 33 32 4, ⟨(some 34), .move (.tmp 8), 26, (some (33, false)), false, false, false⟩, ⟨(some 35), .binOp .neq 26 (.tmp 34) (.const (.int .i64 (0))) 26, 4, (some (33, false)), false, false, false⟩, ⟨(some 36), .move (.tmp 35), 4, (some (33, false)), false, false, false⟩, ⟨(some 37), .move (.tmp 8), 26, (some (36, true)), false, false, false⟩, ⟨(some 38), .binOp .neq 26 (.tmp 37) (.const (.int .i64 (6))) 26, 4, (some (36, true)), false, false, false⟩, ⟨(some 39), .pick (.tmp 36) (.tmp 38) (.const (.bool false)), 4, (some (33, false)), false, false, false⟩, ⟨(some 40), .pick (.tmp 33) (.const (.bool true)) (.tmp 39), 4, none, false, false, false⟩])
 (.cond (.tmp 40)
 (.seq
 (.ops false [⟨(some 4), .assign (.const (.bool false)), 4, none, false, false, false⟩])
 (.ret))
 (.skip)))
 (.seq
 (.ops false [mv 41 8 26, ⟨(some 42), .binOp .eql 26 (.tmp 41) (.const (.int .i64 (0))) 26, 4, none, false, false, false⟩])
 (.cond (.tmp 42)
 (.ops false [mv 43 6 3, ⟨(some 44), .binOp .add 3 (.tmp 43) (.const (.int .i64 (1))) 3, 3, none, false, false, false⟩, asg 6 44 3])
 (.skip))))))
 (.ops false [mv 21 7 3, ⟨(some 22), .binOp .add 3 (.tmp 21) (.const (.int .i64 (1))) 3, 3, none, false, false, false⟩, asg 7 22 3]))))))
 (.seq
 (.ops false [⟨(some 9), .assign (.const (.int .i64 (0))), 3, none, false, false, false⟩])
 (.seq
 (.seq
 (.ops false [⟨(some 10), .assign (.const (.int .i64 (0))), 3, none, false, false, false⟩])
 (.block 2
 (.loop ([1, 2, 3, 7, 8] ++ List.range' 11 93)
 (.seq
 (.seq
 (.ops false [mv 45 10 3, mv 46 0 68, ⟨(some 47), .call ⟨(.builtin .len), #[(.tmp 46)], #[68]⟩, 3, none, false, false, false⟩, ⟨(some 48), .binOp .lss 3 (.tmp 45) (.tmp 47) 3, 4, none, false, false, false⟩, mv 49 48 4, ⟨(some 50), .move (.tmp 10), 3, (some (49, true)), false, false, false⟩, ⟨(some 51), .binOp .lss 3 (.tmp 50) (.const (.int .i64 (30))) 3, 4, (some (49, true)), false, false, false⟩, ⟨(some 52), .pick (.tmp 49) (.tmp 51) (.const (.bool false)), 4, none, false, false, false⟩])
 (.cond (.tmp 52)
 (.skip)
 (.exit 2)))
 (.seq
 (.block 3
 (.seq
 (.ops true [mv 55 5 47, ⟨(some 56), .nilCheck (.tmp 55), 0, none, false, false, false⟩, ⟨(some 57), .fieldAddr 57 (.tmp 56) 0, 0, none, false, false, false⟩, ⟨(some 58), .load 55 (.tmp 57), 55, none, false, false, false⟩, mv 59 0 68, mv 60 10 3, ⟨(some 61), .indexAddr 68 (.tmp 59) (.tmp 60), 0, none, false, false, false⟩, ⟨(some 62), .load 5 (.tmp 61), 5, none, false, false, false⟩, ⟨(some 63), .convert 5 3 (.tmp 62), 3, none, false, false, false⟩, ⟨(some 64), .call ⟨(.value (.func 25)), #[(.tmp 58), (.tmp 63)], #[55, 3]⟩, 23, none, false, true, false⟩, asg 11 64 23])
 (.seq
 (.seq
 (.ops false [mv 65 11 23, ⟨(some 66), .call ⟨(.builtin .len), #[(.tmp 65)], #[23]⟩, 3, none, false, false, false⟩, mv 67 0 68, mv 68 10 3, ⟨(some 69), .indexAddr 68 (.tmp 67) (.tmp 68), 0, none, false, false, false⟩, ⟨(some 70), .load 5 (.tmp 69), 5, none, false, false, false⟩, ⟨(some 71), .convert 5 3 (.tmp 70), 3, none, false, false, false⟩, mv 72 6 3, ⟨(some 73), .call ⟨(.builtin .min), #[(.tmp 71), (.tmp 72)], #[3, 3]⟩, 3, none, false, false, false⟩, ⟨(some 74), .binOp .neq 3 (.tmp 66) (.tmp 73) 3, 4, none, false, false, false⟩])
 (.cond (.tmp 74)
 (.seq
 (.ops false [⟨(some 4), .assign (.const (.bool false)), 4, none, false, false, false⟩])
 (.ret))
 (.skip)))
 (.seq
 (.seq
 (.ops false [⟨(some 12), .assign (.const (.int .i64 (0))), 3, none, false, false, false⟩])
 (.block 4
 (.loop ([1, 2, 3, 7, 8] ++ List.range' 13 91)
 (.seq
 (.seq
 (.ops false [mv 75 12 3, mv 76 11 23, ⟨(some 77), .call ⟨(.builtin .len), #[(.tmp 76)], #[23]⟩, 3, none, false, false, false⟩, ⟨(some 78), .binOp .lss 3 (.tmp 75) (.tmp 77) 3, 4, none, false, false, false⟩])
 (.cond (.tmp 78)
 (.skip)
 (.exit 4)))
 (.seq
 (.block 5
 (.seq
 (.seq
 (.ops false [mv 81 11 23, mv 82 12 3, ⟨(some 83), .indexAddr 23 (.tmp 81) (.tmp 82), 0, none, false, false, false⟩, ⟨(some 84), .fieldAddr 41 (.tmp 83) 2, 0, none, false, false, false⟩, ⟨(some 85), .load 3 (.tmp 84), 3, none, false, false, false⟩, mv 86 9 3, ⟨(some 87), .binOp .neq 3 (.tmp 85) (.tmp 86) 3, 4, none, false, false, false⟩])
 (.cond (.tmp 87)
 (.seq
 (.ops false [⟨(some 4), .assign (.const (.bool false)), 4, none, false, false, false⟩])
 (.ret))
 (.skip)))
 (.ops false [mv 88 9 3, ⟨(some 89), .binOp .add 3 (.tmp 88) (.const (.int .i64 (1))) 3, 3, none, false, false, false⟩, asg 9 89 3])))
 (.ops false [mv 79 12 3, ⟨(some 80), .binOp .add 3 (.tmp 79) (.const (.int .i64 (1))) 3, 3, none, false, false, false⟩, asg 12 80 3]))))))
 (.ops false [mv 90 6 3, mv 91 11 23, ⟨(some 92), .call ⟨(.builtin .len), #[(.tmp 91)], #[23]⟩, 3, none, false, false, false⟩, ⟨(some 93), .binOp .sub 3 (.tmp 90) (.tmp 92) 3, 3, none, false, false, false⟩, asg 6 93 3])))))
 (.ops false [mv 53 10 3, ⟨(some 54), .binOp .add 3 (.tmp 53) (.const (.int .i64 (1))) 3, 3, none, false, false, false⟩, asg 10 54 3]))))))
 (.seq
 (.ops false [mv 94 5 47, ⟨(some 95), .nilCheck (.tmp 94), 0, none, false, false, false⟩, ⟨(some 96), .fieldAddr 57 (.tmp 95) 0, 0, none, false, false, false⟩, ⟨(some 97), .load 55 (.tmp 96), 55, none, false, false, false⟩, ⟨(some 98), .call ⟨(.value (.func 27)), #[(.tmp 97)], #[55]⟩, 3, none, false, false, false⟩, mv 99 6 3, ⟨(some 100), .binOp .eql 3 (.tmp 98) (.tmp 99) 3, 4, none, false, false, false⟩, mv 101 100 4, ⟨(some 102), .call ⟨(.value (.func 21)), #[], #[]⟩, 4, (some (101, true)), false, false, false⟩, ⟨(some 103), .pick (.tmp 101) (.tmp 102) (.const (.bool false)), 4, none, false, false, false⟩, asg 4 103 4])
 (.ret)))))))))⟩
theorem fa7_eq : fnA scfg.P (scfg.rxf 7) 7 = some fa7 := by kernel_rfl
def T7_0 (x0 : List V) (x1 : Int) (x6 : Int) (x7 : Int) (m2 : List V) : S := ⟨[V.sl x0, V.int .u8 x1, V.junk, V.junk, V.bool false, V.ptr 0 0 0, V.int .i64 x6, V.int .i64 x7] ++ (JU 96), [O.box 57 (V.agg [V.ptr 1 0 0]) false, O.box 78 (V.agg [V.tail 2 0]) false, O.row 41 m2 0]⟩
def T7_1 (x0 : List V) (x6 : Int) (x9 : Int) (x10 : Int) (m1_0 : Nat) (m2 : List V) : S := ⟨[V.sl x0, V.junk, V.junk, V.junk, V.bool false, V.ptr 0 0 0, V.int .i64 x6, V.junk, V.junk, V.int .i64 x9, V.int .i64 x10] ++ (JU 93), [O.box 57 (V.agg [V.ptr 1 0 0]) false, O.box 78 (V.agg [V.tail 2 m1_0]) false, O.row 41 m2 0]⟩
def T7_2 (x0 : List V) (x6 : Int) (x9 : Int) (x10 : Int) (x12 : Int) (m1 : List V) (m2_0 : Nat) (m3 : List V) : S := ⟨[V.sl x0, V.junk, V.junk, V.junk, V.bool false, V.ptr 0 0 0, V.int .i64 x6, V.junk, V.junk, V.int .i64 x9, V.int .i64 x10, V.own 1, V.int .i64 x12] ++ (JU 91), [O.box 57 (V.agg [V.ptr 2 0 0]) false, O.row 41 m1 0, O.box 78 (V.agg [V.tail 3 m2_0]) false, O.row 41 m3 0]⟩
noncomputable def e7 (a0 : List V) (a1 : Int) : R :=
  some (.head 0 (T7_0 a0 a1 0 0 []))
theorem e7_eq (a0 : List V) (a1 : Int) : enterK sk false fa7 [V.sl a0, V.int .u8 a1] [] = e7 a0 a1 := by kernel_rfl
theorem e7_run (a0 : List V) (a1 : Int) {o : Out} {v : V} (h : e7 a0 a1 = some o) (hg : Go sk false 0 fa7 o (.done v)) : pcW scfg 7 [V.sl a0, V.int .u8 a1] = some v := pcW_go sik rfl fa7_eq ((e7_eq a0 a1).trans h) hg
noncomputable def s7_0 (x0 : List V) (x1 : Int) (x6 : Int) (x7 : Int) (m2 : List V) : R :=
  cond (decide (x7 < W .i64 (1024 + (W .i64 (x1)))))
 (pcK scfg 37 [V.agg [V.int .i64 2, V.str [], V.int .i64 (W .i64 (((BitVec.ofInt (IntKind.bits .i64) x7 &&& BitVec.ofInt (IntKind.bits .i64) 1023).toNat : Int)))]] fun r =>
  kB r fun r37 =>
  cond (!r37)
 (cond (!(false == (decide (x7 < 1024))))
 (some (.done (V.bool false)))
 (some (.done (V.bool false))))
 (pcK scfg 27 [V.ref (V.agg [V.sl m2]) 0] fun r_1 =>
  kI .i64 r_1 fun r27 =>
  cond (decide (r27 ≥ 1024))
 (cond (!(false == (decide (x7 < 1024))))
 (some (.done (V.bool false)))
 (some (.head 0 (T7_0 x0 x1 x6 (W .i64 (x7 + 1)) m2))))
 (gd (decide (m2.length + ([V.agg [V.int .i64 2, V.str [], V.int .i64 (W .i64 (((BitVec.ofInt (IntKind.bits .i64) x7 &&& BitVec.ofInt (IntKind.bits .i64) 1023).toNat : Int)))]] : List V).length ≤ 16777216)) <|
  cond (!(true == (decide (x7 < 1024))))
 (some (.done (V.bool false)))
 (some (.head 0 (T7_0 x0 x1 (W .i64 (x6 + 1)) (W .i64 (x7 + 1)) (m2 ++ [V.agg [V.int .i64 2, V.str [], V.int .i64 (W .i64 (((BitVec.ofInt (IntKind.bits .i64) x7 &&& BitVec.ofInt (IntKind.bits .i64) 1023).toNat : Int)))]])))))))
 (some (.head 1 (T7_1 x0 x6 0 0 0 m2)))
theorem s7_0_eq (x0 : List V) (x1 : Int) (x6 : Int) (x7 : Int) (m2 : List V) : goK sk false 0 fa7 0 (T7_0 x0 x1 x6 x7 m2) = s7_0 x0 x1 x6 x7 m2 := by kernel_rfl
theorem s7_0_run (x0 : List V) (x1 : Int) (x6 : Int) (x7 : Int) (m2 : List V) {o o' : Out} (h : s7_0 x0 x1 x6 x7 m2 = some o) (hg : Go sk false 0 fa7 o o') : Go sk false 0 fa7 (.head 0 (T7_0 x0 x1 x6 x7 m2)) o' := .step ((s7_0_eq x0 x1 x6 x7 m2).trans h) hg
noncomputable def s7_1 (x0 : List V) (x6 : Int) (x9 : Int) (x10 : Int) (m1_0 : Nat) (m2 : List V) : R :=
  cond (decide (x10 < (x0.length : Int)))
 (cond (decide (x10 < 30))
 (gd (decide (0 ≤ x10)) <|
  idxK x0 x10.toNat fun v =>
  kI .u8 v fun n =>
  gd (wfl 3 (m2.drop m1_0)) <|
  gd (decide (0 ≤ (if 0 < (if ((m2.drop m1_0).length : Int) < W .i64 (n) then ((m2.drop m1_0).length : Int) else W .i64 (n)) then (if ((m2.drop m1_0).length : Int) < W .i64 (n) then ((m2.drop m1_0).length : Int) else W .i64 (n)) else 0))) <|
  gd (decide ((if 0 < (if ((m2.drop m1_0).length : Int) < W .i64 (n) then ((m2.drop m1_0).length : Int) else W .i64 (n)) then (if ((m2.drop m1_0).length : Int) < W .i64 (n) then ((m2.drop m1_0).length : Int) else W .i64 (n)) else 0).toNat ≤ (m2.drop m1_0).length)) <|
  gd (decide ((m1_0 + 0) + (((if 0 < (if ((m2.drop m1_0).length : Int) < W .i64 (n) then ((m2.drop m1_0).length : Int) else W .i64 (n)) then (if ((m2.drop m1_0).length : Int) < W .i64 (n) then ((m2.drop m1_0).length : Int) else W .i64 (n)) else 0).toNat) - 0) ≤ m2.length)) <|
  pcK scfg 43 [V.sl (((m2).drop (m1_0 + 0)).take (((if 0 < (if ((m2.drop m1_0).length : Int) < W .i64 (n) then ((m2.drop m1_0).length : Int) else W .i64 (n)) then (if ((m2.drop m1_0).length : Int) < W .i64 (n) then ((m2.drop m1_0).length : Int) else W .i64 (n)) else 0).toNat) - 0))] fun r =>
  kF 41 r fun r43 =>
  gd (wfl 3 (m2.drop m1_0)) <|
  gd (decide (0 ≤ (if 0 < (if ((m2.drop m1_0).length : Int) < W .i64 (n) then ((m2.drop m1_0).length : Int) else W .i64 (n)) then (if ((m2.drop m1_0).length : Int) < W .i64 (n) then ((m2.drop m1_0).length : Int) else W .i64 (n)) else 0))) <|
  gd (decide ((if 0 < (if ((m2.drop m1_0).length : Int) < W .i64 (n) then ((m2.drop m1_0).length : Int) else W .i64 (n)) then (if ((m2.drop m1_0).length : Int) < W .i64 (n) then ((m2.drop m1_0).length : Int) else W .i64 (n)) else 0).toNat ≤ (m2.drop m1_0).length)) <|
  gd (decide (0 ≤ x10)) <|
  idxK x0 x10.toNat fun v_1 =>
  kI .u8 v_1 fun n_1 =>
  cond ((r43.length : Int) != (if x6 < W .i64 (n_1) then x6 else W .i64 (n_1)))
 (some (.done (V.bool false)))
 (some (.head 2 (T7_2 x0 x6 x9 x10 0 r43 (m1_0 + ((if 0 < (if ((m2.drop m1_0).length : Int) < W .i64 (n) then ((m2.drop m1_0).length : Int) else W .i64 (n)) then (if ((m2.drop m1_0).length : Int) < W .i64 (n) then ((m2.drop m1_0).length : Int) else W .i64 (n)) else 0).toNat)) m2))))
 (pcK scfg 27 [V.ref (V.agg [V.sl (m2.drop m1_0)]) 0] fun r_1 =>
  kI .i64 r_1 fun r27 =>
  cond (r27 == x6)
 (pcK scfg 21 [] fun r_2 =>
  kB r_2 fun r21 =>
  some (.done (V.bool r21)))
 (some (.done (V.bool false)))))
 (pcK scfg 27 [V.ref (V.agg [V.sl (m2.drop m1_0)]) 0] fun r_3 =>
  kI .i64 r_3 fun r27_1 =>
  cond (r27_1 == x6)
 (pcK scfg 21 [] fun r_4 =>
  kB r_4 fun r21_1 =>
  some (.done (V.bool r21_1)))
 (some (.done (V.bool false))))
theorem s7_1_eq (x0 : List V) (x6 : Int) (x9 : Int) (x10 : Int) (m1_0 : Nat) (m2 : List V) : goK sk false 0 fa7 1 (T7_1 x0 x6 x9 x10 m1_0 m2) = s7_1 x0 x6 x9 x10 m1_0 m2 := by kernel_rfl
theorem s7_1_run (x0 : List V) (x6 : Int) (x9 : Int) (x10 : Int) (m1_0 : Nat) (m2 : List V) {o o' : Out} (h : s7_1 x0 x6 x9 x10 m1_0 m2 = some o) (hg : Go sk false 0 fa7 o o') : Go sk false 0 fa7 (.head 1 (T7_1 x0 x6 x9 x10 m1_0 m2)) o' := .step ((s7_1_eq x0 x6 x9 x10 m1_0 m2).trans h) hg
noncomputable def s7_2 (x0 : List V) (x6 : Int) (x9 : Int) (x10 : Int) (x12 : Int) (m1 : List V) (m2_0 : Nat) (m3 : List V) : R :=
  cond (decide (x12 < (m1.length : Int)))
 (gd (decide (0 ≤ x12)) <|
  gd (decide (x12.toNat < m1.length)) <|
  idxK m1 x12.toNat fun v =>
  d41 v fun kind0 low0 page =>
  cond (page != x9)
 (some (.done (V.bool false)))
 (some (.head 2 (T7_2 x0 x6 (W .i64 (x9 + 1)) x10 (W .i64 (x12 + 1)) m1 m2_0 m3))))
 (some (.head 1 (T7_1 x0 (W .i64 (x6 - (m1.length : Int))) x9 (W .i64 (x10 + 1)) m2_0 m3)))
theorem s7_2_eq (x0 : List V) (x6 : Int) (x9 : Int) (x10 : Int) (x12 : Int) (m1 : List V) (m2_0 : Nat) (m3 : List V) : goK sk false 0 fa7 2 (T7_2 x0 x6 x9 x10 x12 m1 m2_0 m3) = s7_2 x0 x6 x9 x10 x12 m1 m2_0 m3 := by kernel_rfl
theorem s7_2_run (x0 : List V) (x6 : Int) (x9 : Int) (x10 : Int) (x12 : Int) (m1 : List V) (m2_0 : Nat) (m3 : List V) {o o' : Out} (h : s7_2 x0 x6 x9 x10 x12 m1 m2_0 m3 = some o) (hg : Go sk false 0 fa7 o o') : Go sk false 0 fa7 (.head 2 (T7_2 x0 x6 x9 x10 x12 m1 m2_0 m3)) o' := .step ((s7_2_eq x0 x6 x9 x10 x12 m1 m2_0 m3).trans h) hg
end Go.Proofs.Ytgpgjojejdaibaa
