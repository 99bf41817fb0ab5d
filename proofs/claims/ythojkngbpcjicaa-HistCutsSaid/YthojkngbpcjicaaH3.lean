/-
  The functions' graphs (printed by walk.py).
-/
import Derived.Test.YthojkngbpcjicaaH1
namespace Go.Proofs.Ythojkngbpcjicaa
open Go Go.Lite
set_option maxRecDepth 100000
set_option linter.unusedVariables false
/-! ### budwood/budwoodlaw23.HistTells -/
noncomputable def fa3 : FA := ⟨2, 98, [.tmp 4], [4],
 (.seq
 (.ops false [⟨(some 4), .assign (.const (.bool false)), 4, none⟩])
 (.seq
 (.ops false [mv 15 1 23, ⟨(some 16), .call ⟨(.value (.func 8)), #[(.tmp 15)], #[23]⟩, 23, none⟩, asg 1 16 23])
 (.seq
 (.ops false [mv 17 0 22, ⟨(some 18), .call ⟨(.value (.func 9)), #[(.tmp 17)], #[22]⟩, 22, none⟩, asg 0 18 22])
 (.seq
 (.ops false [⟨(some 19), .buildSlice 26 0 #[], 26, none⟩, asg 5 19 26])
 (.seq
 (.seq
 (.ops false [⟨(some 6), .assign (.const (.int .i64 (0))), 3, none⟩])
 (.block 0
 (.loop ([2, 3] ++ List.range' 7 91)
 (.seq
 (.seq
 (.ops false [mv 20 6 3, mv 21 1 23, ⟨(some 22), .call ⟨(.builtin .len), #[(.tmp 21)], #[23]⟩, 3, none⟩, ⟨(some 23), .binOp .lss 3 (.tmp 20) (.tmp 22) 3, 4, none⟩])
 (.cond (.tmp 23)
 (.skip)
 (.exit 0)))
 (.seq
 (.block 1
 (.seq
 (.ops false [mv 26 5 26, mv 27 1 23, mv 28 6 3, ⟨(some 29), .indexAddr 23 (.tmp 27) (.tmp 28), 0, none⟩, ⟨(some 30), .load 30 (.tmp 29), 30, none⟩, ⟨(some 31), .call ⟨(.value (.func 10)), #[(.tmp 30)], #[30]⟩, 28, none⟩, ⟨(some 32), .buildSlice 26 1 #[(0, (.tmp 31))], 26, none⟩, ⟨(some 33), .call ⟨(.builtin .append), #[(.tmp 26), (.tmp 32)], #[26, 26]⟩, 26, none⟩, asg 5 33 26])
 (.seq
 (.ops false [mv 35 0 22, mv 36 1 23, mv 37 6 3, ⟨(some 38), .indexAddr 23 (.tmp 36) (.tmp 37), 0, none⟩, ⟨(some 39), .load 30 (.tmp 38), 30, none⟩, ⟨(some 40), .call ⟨(.value (.func 11)), #[(.tmp 35), (.tmp 39)], #[22, 30]⟩, 31, none⟩, mv 34 40 31, ⟨(some 41), .extract (.tmp 34) 0, 22, none⟩, ⟨(some 42), .extract (.tmp 34) 1, 4, none⟩, asg 7 41 22, asg 8 42 4])
 (.seq
 (.ops false [mv 44 0 22, mv 45 5 26, mv 46 6 3, ⟨(some 47), .indexAddr 26 (.tmp 45) (.tmp 46), 0, none⟩, ⟨(some 48), .load 28 (.tmp 47), 28, none⟩, ⟨(some 49), .call ⟨(.value (.func 12)), #[(.tmp 44), (.tmp 48)], #[22, 28]⟩, 31, none⟩, mv 43 49 31, ⟨(some 50), .extract (.tmp 43) 0, 22, none⟩, ⟨(some 51), .extract (.tmp 43) 1, 4, none⟩, asg 9 50 22, asg 10 51 4])
 (.seq
 (.ops false [mv 52 7 22, mv 53 9 22, ⟨(some 54), .call ⟨(.value (.func 13)), #[(.tmp 52), (.tmp 53)], #[22, 22]⟩, 4, none⟩, ⟨(some 55), .unOp .not 4 (.tmp 54), 4, none⟩, mv 56 55 4, ⟨(some 57), .move (.tmp 8), 4, (some (56, false))⟩, ⟨(some 58), .move (.tmp 10), 4, (some (56, false))⟩, ⟨(some 59), .binOp .neq 4 (.tmp 57) (.tmp 58) 4, 4, (some (56, false))⟩, ⟨(some 60), .pick (.tmp 56) (.const (.bool true)) (.tmp 59), 4, none⟩])
 (.cond (.tmp 60)
 (.seq
 (.ops false [⟨(some 4), .assign (.const (.bool false)), 4, none⟩])
 (.ret))
 (.skip)))))))
 (.ops false [mv 24 6 3, ⟨(some 25), .binOp .add 3 (.tmp 24) (.const (.int .i64 (1))) 3, 3, none⟩, asg 6 25 3]))))))
 (.seq
 (.ops false [mv 62 0 22, mv 63 1 23, ⟨(some 64), .call ⟨(.value (.func 14)), #[(.tmp 62), (.tmp 63)], #[22, 23]⟩, 31, none⟩, mv 61 64 31, ⟨(some 65), .extract (.tmp 61) 0, 22, none⟩, ⟨(some 66), .extract (.tmp 61) 1, 4, none⟩, asg 11 65 22, asg 12 66 4])
 (.seq
 (.ops false [mv 68 0 22, mv 69 5 26, ⟨(some 70), .call ⟨(.value (.func 15)), #[(.tmp 68), (.tmp 69)], #[22, 26]⟩, 31, none⟩, mv 67 70 31, ⟨(some 71), .extract (.tmp 67) 0, 22, none⟩, ⟨(some 72), .extract (.tmp 67) 1, 4, none⟩, asg 13 71 22, asg 14 72 4])
 (.seq
 (.ops false [mv 73 11 22, mv 74 13 22, ⟨(some 75), .call ⟨(.value (.func 13)), #[(.tmp 73), (.tmp 74)], #[22, 22]⟩, 4, none⟩, mv 76 75 4, ⟨(some 77), .move (.tmp 12), 4, (some (76, true))⟩, ⟨(some 78), .move (.tmp 14), 4, (some (76, true))⟩, ⟨(some 79), .binOp .eql 4 (.tmp 77) (.tmp 78) 4, 4, (some (76, true))⟩, ⟨(some 80), .pick (.tmp 76) (.tmp 79) (.const (.bool false)), 4, none⟩, mv 81 80 4, ⟨(some 82), .move (.tmp 1), 23, (some (81, true))⟩, ⟨(some 83), .call ⟨(.value (.func 16)), #[(.tmp 82)], #[23]⟩, 4, (some (81, true))⟩, ⟨(some 84), .move (.tmp 5), 26, (some (81, true))⟩, ⟨(some 85), .call ⟨(.value (.func 17)), #[(.tmp 84)], #[26]⟩, 4, (some (81, true))⟩, ⟨(some 86), .binOp .eql 4 (.tmp 83) (.tmp 85) 4, 4, (some (81, true))⟩, ⟨(some 87), .pick (.tmp 81) (.tmp 86) (.const (.bool false)), 4, none⟩, mv 88 87 4, ⟨(some 89), .move (.tmp 1), 23, (some (88, true))⟩, ⟨(some 90), .call ⟨(.value (.func 19)), #[(.tmp 89)], #[23]⟩, 40, (some (88, true))⟩, ⟨(some 91), .move (.tmp 5), 26, (some (88, true))⟩, ⟨(some 92), .call ⟨(.value (.func 20)), #[(.tmp 91)], #[26]⟩, 40, (some (88, true))⟩, ⟨(some 93), .call ⟨(.value (.func 18)), #[(.tmp 90), (.tmp 92)], #[40, 40]⟩, 4, (some (88, true))⟩, ⟨(some 94), .pick (.tmp 88) (.tmp 93) (.const (.bool false)), 4, none⟩, mv 95 94 4, ⟨(some 96), .call ⟨(.value (.func 21)), #[], #[]⟩, 4, (some (95, true))⟩, ⟨(some 97), .pick (.tmp 95) (.tmp 96) (.const (.bool false)), 4, none⟩, asg 4 97 4])
 (.ret)))))))))⟩
theorem fa3_eq : fnA hcfg.P 3 = some fa3 := by kernel_rfl
def T3_0 (x0 : List V) (x1 : List V) (x6 : Int) (m0 : List V) : S := ⟨[V.sl x0, V.sl x1, V.junk, V.junk, V.bool false, V.own 0, V.int .i64 x6] ++ (JU 91), [O.row 28 m0 0]⟩
noncomputable def e3 (a0 : List V) (a1 : List V) : R :=
  pcK hcfg 8 [V.sl a1] fun r =>
  kL r fun r8 =>
  pcK hcfg 9 [V.sl a0] fun r_1 =>
  kF 46 r_1 fun r9 =>
  some (.head 0 (T3_0 r9 r8 0 []))
theorem e3_eq (a0 : List V) (a1 : List V) : enterK hk false fa3 [V.sl a0, V.sl a1] [] = e3 a0 a1 := by kernel_rfl
theorem e3_run (a0 : List V) (a1 : List V) {o : Out} {v : V} (h : e3 a0 a1 = some o) (hg : Go hk false 0 fa3 o (.done v)) : pcW hcfg 3 [V.sl a0, V.sl a1] = some v := pcW_go hik rfl fa3_eq ((e3_eq a0 a1).trans h) hg
noncomputable def s3_0 (x0 : List V) (x1 : List V) (x6 : Int) (m0 : List V) : R :=
  cond (decide (x6 < (x1.length : Int)))
 (gd (decide (0 ≤ x6)) <|
  idxK x1 x6.toNat fun v =>
  d30 v fun txn kind0 key value n pairs is0 =>
  pcK hcfg 10 [V.agg [V.int .i64 txn, V.int .i64 kind0, V.str key, V.str value, V.int .i64 n, V.sl pairs, V.bool is0]] fun r =>
  d28 r fun r10Txn r10Kind r10Key r10Value r10N r10Pairs r10Is =>
  gd (decide (m0.length + ([V.agg [V.int .i64 r10Txn, V.int .i64 r10Kind, V.str r10Key, V.str r10Value, V.int .i64 r10N, V.sl r10Pairs, V.bool r10Is]] : List V).length ≤ 16777216)) <|
  gd (decide (0 ≤ x6)) <|
  idxK x1 x6.toNat fun v_1 =>
  d30 v_1 fun txn_1 kind0_1 key_1 value_1 n_1 pairs_1 is0_1 =>
  pcK hcfg 11 [V.sl x0, V.agg [V.int .i64 txn_1, V.int .i64 kind0_1, V.str key_1, V.str value_1, V.int .i64 n_1, V.sl pairs_1, V.bool is0_1]] fun r_1 =>
  d31 r_1 fun r11_0 r11_1 =>
  gd (decide (0 ≤ x6)) <|
  gd (decide (x6.toNat < (m0 ++ [V.agg [V.int .i64 r10Txn, V.int .i64 r10Kind, V.str r10Key, V.str r10Value, V.int .i64 r10N, V.sl r10Pairs, V.bool r10Is]]).length)) <|
  idxK (m0 ++ [V.agg [V.int .i64 r10Txn, V.int .i64 r10Kind, V.str r10Key, V.str r10Value, V.int .i64 r10N, V.sl r10Pairs, V.bool r10Is]]) x6.toNat fun v_2 =>
  d28 v_2 fun txn_2 kind0_2 key_2 value_2 n_2 pairs_2 is0_2 =>
  pcK hcfg 12 [V.sl x0, V.agg [V.int .i64 txn_2, V.int .i64 kind0_2, V.str key_2, V.str value_2, V.int .i64 n_2, V.sl pairs_2, V.bool is0_2]] fun r_2 =>
  d31 r_2 fun r12_0 r12_1 =>
  pcK hcfg 13 [V.sl r11_0, V.sl r12_0] fun r_3 =>
  kB r_3 fun r13 =>
  cond (!r13)
 (some (.done (V.bool false)))
 (cond (!(r11_1 == r12_1))
 (some (.done (V.bool false)))
 (some (.head 0 (T3_0 x0 x1 (W .i64 (x6 + 1)) (m0 ++ [V.agg [V.int .i64 r10Txn, V.int .i64 r10Kind, V.str r10Key, V.str r10Value, V.int .i64 r10N, V.sl r10Pairs, V.bool r10Is]]))))))
 (pcK hcfg 14 [V.sl x0, V.sl x1] fun r_4 =>
  d31 r_4 fun r14_0 r14_1 =>
  pcK hcfg 15 [V.sl x0, V.sl m0] fun r_5 =>
  d31 r_5 fun r15_0 r15_1 =>
  pcK hcfg 13 [V.sl r14_0, V.sl r15_0] fun r_6 =>
  kB r_6 fun r13_1 =>
  cond r13_1
 (cond (r14_1 == r15_1)
 (pcK hcfg 16 [V.sl x1] fun r_7 =>
  kB r_7 fun r16 =>
  pcK hcfg 17 [V.sl m0] fun r_8 =>
  kB r_8 fun r17 =>
  cond (r16 == r17)
 (pcK hcfg 19 [V.sl x1] fun r_9 =>
  kF 3 r_9 fun r19 =>
  pcK hcfg 20 [V.sl m0] fun r_10 =>
  kF 3 r_10 fun r20 =>
  pcK hcfg 18 [V.sl r19, V.sl r20] fun r_11 =>
  kB r_11 fun r18 =>
  cond r18
 (pcK hcfg 21 [] fun r_12 =>
  kB r_12 fun r21 =>
  some (.done (V.bool r21)))
 (some (.done (V.bool false))))
 (some (.done (V.bool false))))
 (some (.done (V.bool false))))
 (some (.done (V.bool false))))
theorem s3_0_eq (x0 : List V) (x1 : List V) (x6 : Int) (m0 : List V) : goK hk false 0 fa3 0 (T3_0 x0 x1 x6 m0) = s3_0 x0 x1 x6 m0 := by kernel_rfl
theorem s3_0_run (x0 : List V) (x1 : List V) (x6 : Int) (m0 : List V) {o o' : Out} (h : s3_0 x0 x1 x6 m0 = some o) (hg : Go hk false 0 fa3 o o') : Go hk false 0 fa3 (.head 0 (T3_0 x0 x1 x6 m0)) o' := .step ((s3_0_eq x0 x1 x6 m0).trans h) hg
/-! ### budwood/budwoodlaw23.HistMaps -/
noncomputable def fa4 : FA := ⟨2, 81, [.tmp 4], [4],
 (.seq
 (.ops false [⟨(some 3), .box 46 (.tmp 1), 0, none⟩, ⟨(some 4), .assign (.const (.bool false)), 4, none⟩])
 (.seq
 (.ops false [mv 11 0 22, ⟨(some 12), .call ⟨(.value (.func 9)), #[(.tmp 11)], #[22]⟩, 22, none⟩, asg 5 12 22])
 (.seq
 (.ops false [⟨(some 13), .buildSlice 22 0 #[], 22, none⟩, mv 14 5 22, ⟨(some 15), .call ⟨(.builtin .append), #[(.tmp 13), (.tmp 14)], #[22, 22]⟩, 22, none⟩, asg 6 15 22])
 (.seq
 (.ops true [⟨(some 16), .fieldAddr 46 (.tmp 3) 0, 0, none⟩, ⟨(some 17), .load 9 (.tmp 16), 9, none⟩, ⟨(some 18), .fieldAddr 46 (.tmp 3) 0, 0, none⟩, ⟨(some 19), .load 9 (.tmp 18), 9, none⟩, ⟨(some 20), .call ⟨(.builtin .len), #[(.tmp 19)], #[9]⟩, 3, none⟩, ⟨(some 21), .call ⟨(.builtin .min), #[(.tmp 20), (.const (.int .i64 (20)))], #[3, 3]⟩, 3, none⟩, ⟨(some 22), .slice 9 (.tmp 17) none (some (.tmp 21)) none, 9, none⟩, ⟨(some 23), .fieldAddr 46 (.tmp 3) 1, 0, none⟩, ⟨(some 24), .load 9 (.tmp 23), 9, none⟩, ⟨(some 25), .fieldAddr 46 (.tmp 3) 1, 0, none⟩, ⟨(some 26), .load 9 (.tmp 25), 9, none⟩, ⟨(some 27), .call ⟨(.builtin .len), #[(.tmp 26)], #[9]⟩, 3, none⟩, ⟨(some 28), .call ⟨(.builtin .min), #[(.tmp 27), (.const (.int .i64 (20)))], #[3, 3]⟩, 3, none⟩, ⟨(some 29), .slice 9 (.tmp 24) none (some (.tmp 28)) none, 9, none⟩, ⟨(some 30), .build 46 #[(0, (.tmp 22)), (1, (.tmp 29))], 46, none⟩, ⟨none, .store 46 (.tmp 3) (.tmp 30), 0, none⟩])
 (.seq
 (.ops false [mv 32 5 22, ⟨(some 33), .fieldAddr 46 (.tmp 3) 0, 0, none⟩, ⟨(some 34), .load 9 (.tmp 33), 9, none⟩, ⟨(some 35), .call ⟨(.value (.func 22)), #[(.tmp 32), (.tmp 34)], #[22, 9]⟩, 47, none⟩, mv 31 35 47, ⟨(some 36), .extract (.tmp 31) 0, 3, none⟩, ⟨(some 37), .extract (.tmp 31) 1, 4, none⟩, asg 7 36 3, asg 8 37 4])
 (.seq
 (.ops false [mv 39 5 22, ⟨(some 40), .fieldAddr 46 (.tmp 3) 0, 0, none⟩, ⟨(some 41), .load 9 (.tmp 40), 9, none⟩, ⟨(some 42), .call ⟨(.value (.func 23)), #[(.tmp 39), (.tmp 41)], #[22, 9]⟩, 47, none⟩, mv 38 42 47, ⟨(some 43), .extract (.tmp 38) 0, 3, none⟩, ⟨(some 44), .extract (.tmp 38) 1, 4, none⟩, asg 9 43 3, asg 10 44 4])
 (.seq
 (.ops true [mv 45 7 3, mv 46 9 3, ⟨(some 47), .binOp .eql 3 (.tmp 45) (.tmp 46) 3, 4, none⟩, mv 48 47 4, ⟨(some 49), .move (.tmp 8), 4, (some (48, true))⟩, ⟨(some 50), .move (.tmp 10), 4, (some (48, true))⟩, ⟨(some 51), .binOp .eql 4 (.tmp 49) (.tmp 50) 4, 4, (some (48, true))⟩, ⟨(some 52), .pick (.tmp 48) (.tmp 51) (.const (.bool false)), 4, none⟩, mv 53 52 4, ⟨(some 54), .move (.tmp 5), 22, (some (53, true))⟩, ⟨(some 55), .load 46 (.tmp 3), 46, (some (53, true))⟩, ⟨(some 56), .call ⟨(.value (.func 24)), #[(.tmp 54), (.tmp 55)], #[22, 46]⟩, 22, (some (53, true))⟩, ⟨(some 57), .move (.tmp 5), 22, (some (53, true))⟩, ⟨(some 58), .load 46 (.tmp 3), 46, (some (53, true))⟩, ⟨(some 59), .call ⟨(.value (.func 25)), #[(.tmp 57), (.tmp 58)], #[22, 46]⟩, 22, (some (53, true))⟩, ⟨(some 60), .call ⟨(.value (.func 13)), #[(.tmp 56), (.tmp 59)], #[22, 22]⟩, 4, (some (53, true))⟩, ⟨(some 61), .pick (.tmp 53) (.tmp 60) (.const (.bool false)), 4, none⟩, mv 62 61 4, ⟨(some 63), .move (.tmp 5), 22, (some (62, true))⟩, ⟨(some 64), .fieldAddr 46 (.tmp 3) 0, 0, (some (62, true))⟩, ⟨(some 65), .load 9 (.tmp 64), 9, (some (62, true))⟩, ⟨(some 66), .call ⟨(.value (.func 26)), #[(.tmp 63), (.tmp 65)], #[22, 9]⟩, 22, (some (62, true))⟩, ⟨(some 67), .move (.tmp 5), 22, (some (62, true))⟩, ⟨(some 68), .fieldAddr 46 (.tmp 3) 0, 0, (some (62, true))⟩, ⟨(some 69), .load 9 (.tmp 68), 9, (some (62, true))⟩, ⟨(some 70), .call ⟨(.value (.func 27)), #[(.tmp 67), (.tmp 69)], #[22, 9]⟩, 22, (some (62, true))⟩, ⟨(some 71), .call ⟨(.value (.func 13)), #[(.tmp 66), (.tmp 70)], #[22, 22]⟩, 4, (some (62, true))⟩, ⟨(some 72), .pick (.tmp 62) (.tmp 71) (.const (.bool false)), 4, none⟩, mv 73 72 4, ⟨(some 74), .move (.tmp 5), 22, (some (73, true))⟩, ⟨(some 75), .move (.tmp 6), 22, (some (73, true))⟩, ⟨(some 76), .call ⟨(.value (.func 13)), #[(.tmp 74), (.tmp 75)], #[22, 22]⟩, 4, (some (73, true))⟩, ⟨(some 77), .pick (.tmp 73) (.tmp 76) (.const (.bool false)), 4, none⟩, mv 78 77 4, ⟨(some 79), .call ⟨(.value (.func 21)), #[], #[]⟩, 4, (some (78, true))⟩, ⟨(some 80), .pick (.tmp 78) (.tmp 79) (.const (.bool false)), 4, none⟩, asg 4 80 4])
 (.ret))))))))⟩
theorem fa4_eq : fnA hcfg.P 4 = some fa4 := by kernel_rfl
noncomputable def e4 (a0 : List V) (a1Key : List UInt8) (a1Value : List UInt8) : R :=
  pcK hcfg 9 [V.sl a0] fun r =>
  kF 46 r fun r9 =>
  gd (wfl 2 r9) <|
  gd (decide (0 + r9.length ≤ 16777216)) <|
  gd (decide (0 ≤ (if 20 < (a1Key.length : Int) then 20 else (a1Key.length : Int)))) <|
  gd (decide ((if 20 < (a1Key.length : Int) then 20 else (a1Key.length : Int)).toNat ≤ a1Key.length)) <|
  gd (decide (0 ≤ (if 20 < (a1Value.length : Int) then 20 else (a1Value.length : Int)))) <|
  gd (decide ((if 20 < (a1Value.length : Int) then 20 else (a1Value.length : Int)).toNat ≤ a1Value.length)) <|
  pcK hcfg 22 [V.sl r9, V.str (a1Key.take ((if 20 < (a1Key.length : Int) then 20 else (a1Key.length : Int)).toNat))] fun r_1 =>
  d47 r_1 fun r22_0 r22_1 =>
  pcK hcfg 23 [V.sl r9, V.str (a1Key.take ((if 20 < (a1Key.length : Int) then 20 else (a1Key.length : Int)).toNat))] fun r_2 =>
  d47 r_2 fun r23_0 r23_1 =>
  cond (r22_0 == r23_0)
 (cond (r22_1 == r23_1)
 (pcK hcfg 24 [V.sl r9, V.agg [V.str (a1Key.take ((if 20 < (a1Key.length : Int) then 20 else (a1Key.length : Int)).toNat)), V.str (a1Value.take ((if 20 < (a1Value.length : Int) then 20 else (a1Value.length : Int)).toNat))]] fun r_3 =>
  kF 46 r_3 fun r24 =>
  pcK hcfg 25 [V.sl r9, V.agg [V.str (a1Key.take ((if 20 < (a1Key.length : Int) then 20 else (a1Key.length : Int)).toNat)), V.str (a1Value.take ((if 20 < (a1Value.length : Int) then 20 else (a1Value.length : Int)).toNat))]] fun r_4 =>
  kF 46 r_4 fun r25 =>
  pcK hcfg 13 [V.sl r24, V.sl r25] fun r_5 =>
  kB r_5 fun r13 =>
  cond r13
 (pcK hcfg 26 [V.sl r9, V.str (a1Key.take ((if 20 < (a1Key.length : Int) then 20 else (a1Key.length : Int)).toNat))] fun r_6 =>
  kF 46 r_6 fun r26 =>
  pcK hcfg 27 [V.sl r9, V.str (a1Key.take ((if 20 < (a1Key.length : Int) then 20 else (a1Key.length : Int)).toNat))] fun r_7 =>
  kF 46 r_7 fun r27 =>
  pcK hcfg 13 [V.sl r26, V.sl r27] fun r_8 =>
  kB r_8 fun r13_1 =>
  cond r13_1
 (pcK hcfg 13 [V.sl r9, V.sl r9] fun r_9 =>
  kB r_9 fun r13_2 =>
  cond r13_2
 (pcK hcfg 21 [] fun r_10 =>
  kB r_10 fun r21 =>
  some (.done (V.bool r21)))
 (some (.done (V.bool false))))
 (some (.done (V.bool false))))
 (some (.done (V.bool false))))
 (some (.done (V.bool false))))
 (some (.done (V.bool false)))
theorem e4_eq (a0 : List V) (a1Key : List UInt8) (a1Value : List UInt8) : enterK hk false fa4 [V.sl a0, V.agg [V.str a1Key, V.str a1Value]] [] = e4 a0 a1Key a1Value := by kernel_rfl
theorem e4_run (a0 : List V) (a1Key : List UInt8) (a1Value : List UInt8) {o : Out} {v : V} (h : e4 a0 a1Key a1Value = some o) (hg : Go hk false 0 fa4 o (.done v)) : pcW hcfg 4 [V.sl a0, V.agg [V.str a1Key, V.str a1Value]] = some v := pcW_go hik rfl fa4_eq ((e4_eq a0 a1Key a1Value).trans h) hg
theorem e4_done (a0 : List V) (a1Key : List UInt8) (a1Value : List UInt8) {v : V} (h : e4 a0 a1Key a1Value = some (.done v)) : pcW hcfg 4 [V.sl a0, V.agg [V.str a1Key, V.str a1Value]] = some v := e4_run a0 a1Key a1Value h (.refl _)
/-! ### budwood/budwoodlaw23.HistOwn -/
noncomputable def fa5 : FA := ⟨2, 119, [.tmp 4], [4],
 (.seq
 (.ops false [⟨(some 4), .assign (.const (.bool false)), 4, none⟩])
 (.seq
 (.ops false [mv 15 1 23, ⟨(some 16), .call ⟨(.value (.func 8)), #[(.tmp 15)], #[23]⟩, 23, none⟩, asg 1 16 23])
 (.seq
 (.ops false [mv 17 0 22, ⟨(some 18), .call ⟨(.value (.func 9)), #[(.tmp 17)], #[22]⟩, 22, none⟩, asg 0 18 22])
 (.seq
 (.ops false [mv 20 0 22, mv 21 1 23, ⟨(some 22), .call ⟨(.value (.func 14)), #[(.tmp 20), (.tmp 21)], #[22, 23]⟩, 31, none⟩, mv 19 22 31, ⟨(some 23), .extract (.tmp 19) 0, 22, none⟩, ⟨(some 24), .extract (.tmp 19) 1, 4, none⟩, asg 5 23 22, asg 6 24 4])
 (.seq
 (.seq
 (.ops false [mv 25 1 23, ⟨(some 26), .call ⟨(.value (.func 16)), #[(.tmp 25)], #[23]⟩, 4, none⟩, ⟨(some 27), .unOp .not 4 (.tmp 26), 4, none⟩])
 (.cond (.tmp 27)
 (.seq
 (.ops false [mv 28 5 22, ⟨(some 29), .call ⟨(.builtin .len), #[(.tmp 28)], #[22]⟩, 3, none⟩, ⟨(some 30), .binOp .eql 3 (.tmp 29) (.const (.int .i64 (0))) 3, 4, none⟩, mv 31 30 4, ⟨(some 32), .move (.tmp 6), 4, (some (31, true))⟩, ⟨(some 33), .unOp .not 4 (.tmp 32), 4, (some (31, true))⟩, ⟨(some 34), .pick (.tmp 31) (.tmp 33) (.const (.bool false)), 4, none⟩, mv 35 34 4, ⟨(some 36), .call ⟨(.value (.func 21)), #[], #[]⟩, 4, (some (35, true))⟩, ⟨(some 37), .pick (.tmp 35) (.tmp 36) (.const (.bool false)), 4, none⟩, asg 4 37 4])
 (.ret))
 (.skip)))
 (.seq
 (.ops false [mv 38 1 23, ⟨(some 39), .call ⟨(.value (.func 19)), #[(.tmp 38)], #[23]⟩, 40, none⟩, asg 7 39 40])
 (.seq
 (.ops false [⟨(some 40), .buildSlice 23 0 #[], 23, none⟩, asg 8 40 23])
 (.seq
 (.seq
 (.ops false [⟨(some 9), .assign (.const (.int .i64 (0))), 3, none⟩])
 (.block 0
 (.loop ([2, 3] ++ List.range' 10 109)
 (.seq
 (.seq
 (.ops false [mv 41 9 3, mv 42 1 23, ⟨(some 43), .call ⟨(.builtin .len), #[(.tmp 42)], #[23]⟩, 3, none⟩, ⟨(some 44), .binOp .lss 3 (.tmp 41) (.tmp 43) 3, 4, none⟩])
 (.cond (.tmp 44)
 (.skip)
 (.exit 0)))
 (.seq
 (.block 1
 (.seq
 (.ops false [mv 47 9 3, asg 10 47 3])
 (.seq
 (.block 2
 (.loop ([2, 3] ++ List.range' 11 108)
 (.seq
 (.seq
 (.ops true [mv 48 1 23, mv 49 10 3, ⟨(some 50), .indexAddr 23 (.tmp 48) (.tmp 49), 0, none⟩, ⟨(some 51), .fieldAddr 30 (.tmp 50) 1, 0, none⟩, ⟨(some 52), .load 3 (.tmp 51), 3, none⟩, ⟨(some 53), .binOp .neq 3 (.tmp 52) (.const (.int .i64 (1))) 3, 4, none⟩, mv 54 53 4, ⟨(some 55), .move (.tmp 1), 23, (some (54, false))⟩, ⟨(some 56), .move (.tmp 10), 3, (some (54, false))⟩, ⟨(some 57), .indexAddr 23 (.tmp 55) (.tmp 56), 0, (some (54, false))⟩, ⟨(some 58), .fieldAddr 30 (.tmp 57) 0, 0, (some (54, false))⟩, ⟨(some 59), .load 3 (.tmp 58), 3, (some (54, false))⟩, ⟨(some 60), .move (.tmp 1), 23, (some (54, false))⟩, ⟨(some 61), .move (.tmp 9), 3, (some (54, false))⟩, ⟨(some 62), .indexAddr 23 (.tmp 60) (.tmp 61), 0, (some (54, false))⟩, ⟨(some 63), .fieldAddr 30 (.tmp 62) 0, 0, (some (54, false))⟩, ⟨(some 64), .load 3 (.tmp 63), 3, (some (54, false))⟩, ⟨(some 65), .binOp .neq 3 (.tmp 59) (.tmp 64) 3, 4, (some (54, false))⟩, ⟨(some 66), .pick (.tmp 54) (.const (.bool true)) (.tmp 65), 4, none⟩])
 (.cond (.tmp 66)
 (.skip)
 (.exit 2)))
 (.block 3
 (.seq
 (.ops false [mv 67 10 3, ⟨(some 68), .binOp .sub 3 (.tmp 67) (.const (.int .i64 (1))) 3, 3, none⟩, asg 10 68 3])
 (.seq
 (.ops false [mv 69 10 3, ⟨(some 70), .binOp .lss 3 (.tmp 69) (.const (.int .i64 (0))) 3, 4, none⟩])
 (.cond (.tmp 70)
 (.seq
 (.ops false [⟨(some 4), .assign (.const (.bool false)), 4, none⟩])
 (.ret))
 (.skip))))))))
 (.seq
 (.ops false [⟨(some 11), .assign (.const (.bool false)), 4, none⟩])
 (.seq
 (.seq
 (.ops false [⟨(some 12), .assign (.const (.int .i64 (0))), 3, none⟩])
 (.block 4
 (.loop ([2, 3] ++ List.range' 13 106)
 (.seq
 (.seq
 (.ops false [mv 71 12 3, mv 72 7 40, ⟨(some 73), .call ⟨(.builtin .len), #[(.tmp 72)], #[40]⟩, 3, none⟩, ⟨(some 74), .binOp .lss 3 (.tmp 71) (.tmp 73) 3, 4, none⟩])
 (.cond (.tmp 74)
 (.skip)
 (.exit 4)))
 (.seq
 (.block 5
 (.ops false [mv 77 11 4, mv 78 77 4, ⟨(some 79), .move (.tmp 7), 40, (some (78, false))⟩, ⟨(some 80), .move (.tmp 12), 3, (some (78, false))⟩, ⟨(some 81), .indexAddr 40 (.tmp 79) (.tmp 80), 0, (some (78, false))⟩, ⟨(some 82), .load 3 (.tmp 81), 3, (some (78, false))⟩, ⟨(some 83), .move (.tmp 10), 3, (some (78, false))⟩, ⟨(some 84), .binOp .eql 3 (.tmp 82) (.tmp 83) 3, 4, (some (78, false))⟩, ⟨(some 85), .pick (.tmp 78) (.const (.bool true)) (.tmp 84), 4, none⟩, asg 11 85 4]))
 (.ops false [mv 75 12 3, ⟨(some 76), .binOp .add 3 (.tmp 75) (.const (.int .i64 (1))) 3, 3, none⟩, asg 12 76 3]))))))
 (.seq
 (.ops false [mv 86 11 4])
 (.cond (.tmp 86)
 (.ops false [mv 87 8 23, mv 88 1 23, mv 89 9 3, ⟨(some 90), .indexAddr 23 (.tmp 88) (.tmp 89), 0, none⟩, ⟨(some 91), .load 30 (.tmp 90), 30, none⟩, ⟨(some 92), .buildSlice 23 1 #[(0, (.tmp 91))], 23, none⟩, ⟨(some 93), .call ⟨(.builtin .append), #[(.tmp 87), (.tmp 92)], #[23, 23]⟩, 23, none⟩, asg 8 93 23])
 (.skip))))))))
 (.ops false [mv 45 9 3, ⟨(some 46), .binOp .add 3 (.tmp 45) (.const (.int .i64 (1))) 3, 3, none⟩, asg 9 46 3]))))))
 (.seq
 (.ops false [mv 95 0 22, mv 96 8 23, ⟨(some 97), .call ⟨(.value (.func 14)), #[(.tmp 95), (.tmp 96)], #[22, 23]⟩, 31, none⟩, mv 94 97 31, ⟨(some 98), .extract (.tmp 94) 0, 22, none⟩, ⟨(some 99), .extract (.tmp 94) 1, 4, none⟩, asg 13 98 22, asg 14 99 4])
 (.seq
 (.ops false [mv 100 5 22, mv 101 13 22, ⟨(some 102), .call ⟨(.value (.func 13)), #[(.tmp 100), (.tmp 101)], #[22, 22]⟩, 4, none⟩, mv 103 102 4, ⟨(some 104), .move (.tmp 6), 4, (some (103, true))⟩, ⟨(some 105), .move (.tmp 14), 4, (some (103, true))⟩, ⟨(some 106), .binOp .eql 4 (.tmp 104) (.tmp 105) 4, 4, (some (103, true))⟩, ⟨(some 107), .pick (.tmp 103) (.tmp 106) (.const (.bool false)), 4, none⟩, mv 108 107 4, ⟨(some 109), .move (.tmp 8), 23, (some (108, true))⟩, ⟨(some 110), .call ⟨(.value (.func 19)), #[(.tmp 109)], #[23]⟩, 40, (some (108, true))⟩, ⟨(some 111), .call ⟨(.builtin .len), #[(.tmp 110)], #[40]⟩, 3, (some (108, true))⟩, ⟨(some 112), .move (.tmp 7), 40, (some (108, true))⟩, ⟨(some 113), .call ⟨(.builtin .len), #[(.tmp 112)], #[40]⟩, 3, (some (108, true))⟩, ⟨(some 114), .binOp .eql 3 (.tmp 111) (.tmp 113) 3, 4, (some (108, true))⟩, ⟨(some 115), .pick (.tmp 108) (.tmp 114) (.const (.bool false)), 4, none⟩, mv 116 115 4, ⟨(some 117), .call ⟨(.value (.func 21)), #[], #[]⟩, 4, (some (116, true))⟩, ⟨(some 118), .pick (.tmp 116) (.tmp 117) (.const (.bool false)), 4, none⟩, asg 4 118 4])
 (.ret)))))))))))⟩
theorem fa5_eq : fnA hcfg.P 5 = some fa5 := by kernel_rfl
def T5_0 (x0 : List V) (x1 : List V) (x5 : List V) (x6 : Bool) (x7 : List V) (x9 : Int) (m0 : List V) : S := ⟨[V.sl x0, V.sl x1, V.junk, V.junk, V.bool false, V.sl x5, V.bool x6, V.sl x7, V.own 0, V.int .i64 x9] ++ (JU 109), [O.row 30 m0 0]⟩
def T5_1 (x0 : List V) (x1 : List V) (x5 : List V) (x6 : Bool) (x7 : List V) (x9 : Int) (x10 : Int) (m0 : List V) : S := ⟨[V.sl x0, V.sl x1, V.junk, V.junk, V.bool false, V.sl x5, V.bool x6, V.sl x7, V.own 0, V.int .i64 x9, V.int .i64 x10] ++ (JU 108), [O.row 30 m0 0]⟩
def T5_2 (x0 : List V) (x1 : List V) (x5 : List V) (x6 : Bool) (x7 : List V) (x9 : Int) (x10 : Int) (x11 : Bool) (x12 : Int) (m0 : List V) : S := ⟨[V.sl x0, V.sl x1, V.junk, V.junk, V.bool false, V.sl x5, V.bool x6, V.sl x7, V.own 0, V.int .i64 x9, V.int .i64 x10, V.bool x11, V.int .i64 x12] ++ (JU 106), [O.row 30 m0 0]⟩
noncomputable def e5 (a0 : List V) (a1 : List V) : R :=
  pcK hcfg 8 [V.sl a1] fun r =>
  kL r fun r8 =>
  pcK hcfg 9 [V.sl a0] fun r_1 =>
  kF 46 r_1 fun r9 =>
  pcK hcfg 14 [V.sl r9, V.sl r8] fun r_2 =>
  d31 r_2 fun r14_0 r14_1 =>
  pcK hcfg 16 [V.sl r8] fun r_3 =>
  kB r_3 fun r16 =>
  cond (!r16)
 (cond ((r14_0.length : Int) == (0 : Int))
 (cond (!r14_1)
 (pcK hcfg 21 [] fun r_4 =>
  kB r_4 fun r21 =>
  some (.done (V.bool r21)))
 (some (.done (V.bool false))))
 (some (.done (V.bool false))))
 (pcK hcfg 19 [V.sl r8] fun r_5 =>
  kF 3 r_5 fun r19 =>
  some (.head 0 (T5_0 r9 r8 r14_0 r14_1 r19 0 [])))
theorem e5_eq (a0 : List V) (a1 : List V) : enterK hk false fa5 [V.sl a0, V.sl a1] [] = e5 a0 a1 := by kernel_rfl
theorem e5_run (a0 : List V) (a1 : List V) {o : Out} {v : V} (h : e5 a0 a1 = some o) (hg : Go hk false 0 fa5 o (.done v)) : pcW hcfg 5 [V.sl a0, V.sl a1] = some v := pcW_go hik rfl fa5_eq ((e5_eq a0 a1).trans h) hg
noncomputable def s5_0 (x0 : List V) (x1 : List V) (x5 : List V) (x6 : Bool) (x7 : List V) (x9 : Int) (m0 : List V) : R :=
  cond (decide (x9 < (x1.length : Int)))
 (some (.head 1 (T5_1 x0 x1 x5 x6 x7 x9 x9 m0)))
 (pcK hcfg 14 [V.sl x0, V.sl m0] fun r =>
  d31 r fun r14_0 r14_1 =>
  pcK hcfg 13 [V.sl x5, V.sl r14_0] fun r_1 =>
  kB r_1 fun r13 =>
  cond r13
 (cond (x6 == r14_1)
 (pcK hcfg 19 [V.sl m0] fun r_2 =>
  kF 3 r_2 fun r19 =>
  cond ((r19.length : Int) == (x7.length : Int))
 (pcK hcfg 21 [] fun r_3 =>
  kB r_3 fun r21 =>
  some (.done (V.bool r21)))
 (some (.done (V.bool false))))
 (some (.done (V.bool false))))
 (some (.done (V.bool false))))
theorem s5_0_eq (x0 : List V) (x1 : List V) (x5 : List V) (x6 : Bool) (x7 : List V) (x9 : Int) (m0 : List V) : goK hk false 0 fa5 0 (T5_0 x0 x1 x5 x6 x7 x9 m0) = s5_0 x0 x1 x5 x6 x7 x9 m0 := by kernel_rfl
theorem s5_0_run (x0 : List V) (x1 : List V) (x5 : List V) (x6 : Bool) (x7 : List V) (x9 : Int) (m0 : List V) {o o' : Out} (h : s5_0 x0 x1 x5 x6 x7 x9 m0 = some o) (hg : Go hk false 0 fa5 o o') : Go hk false 0 fa5 (.head 0 (T5_0 x0 x1 x5 x6 x7 x9 m0)) o' := .step ((s5_0_eq x0 x1 x5 x6 x7 x9 m0).trans h) hg
noncomputable def s5_1 (x0 : List V) (x1 : List V) (x5 : List V) (x6 : Bool) (x7 : List V) (x9 : Int) (x10 : Int) (m0 : List V) : R :=
  gd (decide (0 ≤ x10)) <|
  idxK x1 x10.toNat fun v =>
  d30 v fun txn kind0 key value n pairs is0 =>
  cond (kind0 != (1 : Int))
 (cond (decide (W .i64 (x10 - 1) < 0))
 (some (.done (V.bool false)))
 (some (.head 1 (T5_1 x0 x1 x5 x6 x7 x9 (W .i64 (x10 - 1)) m0))))
 (gd (decide (0 ≤ x10)) <|
  idxK x1 x10.toNat fun v_1 =>
  d30 v_1 fun txn_1 kind0_1 key_1 value_1 n_1 pairs_1 is0_1 =>
  gd (decide (0 ≤ x9)) <|
  idxK x1 x9.toNat fun v_2 =>
  d30 v_2 fun txn_2 kind0_2 key_2 value_2 n_2 pairs_2 is0_2 =>
  cond (txn_1 != txn_2)
 (cond (decide (W .i64 (x10 - 1) < 0))
 (some (.done (V.bool false)))
 (some (.head 1 (T5_1 x0 x1 x5 x6 x7 x9 (W .i64 (x10 - 1)) m0))))
 (some (.head 2 (T5_2 x0 x1 x5 x6 x7 x9 x10 false 0 m0))))
theorem s5_1_eq (x0 : List V) (x1 : List V) (x5 : List V) (x6 : Bool) (x7 : List V) (x9 : Int) (x10 : Int) (m0 : List V) : goK hk false 0 fa5 1 (T5_1 x0 x1 x5 x6 x7 x9 x10 m0) = s5_1 x0 x1 x5 x6 x7 x9 x10 m0 := by kernel_rfl
theorem s5_1_run (x0 : List V) (x1 : List V) (x5 : List V) (x6 : Bool) (x7 : List V) (x9 : Int) (x10 : Int) (m0 : List V) {o o' : Out} (h : s5_1 x0 x1 x5 x6 x7 x9 x10 m0 = some o) (hg : Go hk false 0 fa5 o o') : Go hk false 0 fa5 (.head 1 (T5_1 x0 x1 x5 x6 x7 x9 x10 m0)) o' := .step ((s5_1_eq x0 x1 x5 x6 x7 x9 x10 m0).trans h) hg
noncomputable def s5_2 (x0 : List V) (x1 : List V) (x5 : List V) (x6 : Bool) (x7 : List V) (x9 : Int) (x10 : Int) (x11 : Bool) (x12 : Int) (m0 : List V) : R :=
  cond (decide (x12 < (x7.length : Int)))
 (cond x11
 (some (.head 2 (T5_2 x0 x1 x5 x6 x7 x9 x10 true (W .i64 (x12 + 1)) m0)))
 (gd (decide (0 ≤ x12)) <|
  idxK x7 x12.toNat fun v =>
  kI .i64 v fun n =>
  some (.head 2 (T5_2 x0 x1 x5 x6 x7 x9 x10 (n == x10) (W .i64 (x12 + 1)) m0))))
 (cond x11
 (gd (decide (0 ≤ x9)) <|
  idxK x1 x9.toNat fun v_1 =>
  d30 v_1 fun txn kind0 key value n_1 pairs is0 =>
  gd (decide (m0.length + ([V.agg [V.int .i64 txn, V.int .i64 kind0, V.str key, V.str value, V.int .i64 n_1, V.sl pairs, V.bool is0]] : List V).length ≤ 16777216)) <|
  some (.head 0 (T5_0 x0 x1 x5 x6 x7 (W .i64 (x9 + 1)) (m0 ++ [V.agg [V.int .i64 txn, V.int .i64 kind0, V.str key, V.str value, V.int .i64 n_1, V.sl pairs, V.bool is0]]))))
 (some (.head 0 (T5_0 x0 x1 x5 x6 x7 (W .i64 (x9 + 1)) m0))))
theorem s5_2_eq (x0 : List V) (x1 : List V) (x5 : List V) (x6 : Bool) (x7 : List V) (x9 : Int) (x10 : Int) (x11 : Bool) (x12 : Int) (m0 : List V) : goK hk false 0 fa5 2 (T5_2 x0 x1 x5 x6 x7 x9 x10 x11 x12 m0) = s5_2 x0 x1 x5 x6 x7 x9 x10 x11 x12 m0 := by kernel_rfl
theorem s5_2_run (x0 : List V) (x1 : List V) (x5 : List V) (x6 : Bool) (x7 : List V) (x9 : Int) (x10 : Int) (x11 : Bool) (x12 : Int) (m0 : List V) {o o' : Out} (h : s5_2 x0 x1 x5 x6 x7 x9 x10 x11 x12 m0 = some o) (hg : Go hk false 0 fa5 o o') : Go hk false 0 fa5 (.head 2 (T5_2 x0 x1 x5 x6 x7 x9 x10 x11 x12 m0)) o' := .step ((s5_2_eq x0 x1 x5 x6 x7 x9 x10 x11 x12 m0).trans h) hg
/-! ### budwood/budwoodlaw23.HistOne -/
noncomputable def fa6 : FA := ⟨2, 96, [.tmp 4], [4],
 (.seq
 (.ops false [⟨(some 4), .assign (.const (.bool false)), 4, none⟩])
 (.seq
 (.ops false [mv 16 1 23, ⟨(some 17), .call ⟨(.value (.func 8)), #[(.tmp 16)], #[23]⟩, 23, none⟩, asg 1 17 23])
 (.seq
 (.ops false [mv 18 0 22, ⟨(some 19), .call ⟨(.value (.func 9)), #[(.tmp 18)], #[22]⟩, 22, none⟩, asg 0 19 22])
 (.seq
 (.ops false [⟨(some 20), .build 30 #[(0, (.const (.int .i64 (1)))), (1, (.const (.int .i64 (1))))], 30, none⟩, ⟨(some 21), .buildSlice 23 1 #[(0, (.tmp 20))], 23, none⟩, asg 5 21 23])
 (.seq
 (.ops false [mv 22 0 22, asg 6 22 22, ⟨(some 7), .assign (.const (.bool true)), 4, none⟩])
 (.seq
 (.seq
 (.ops false [⟨(some 8), .assign (.const (.int .i64 (0))), 3, none⟩])
 (.block 0
 (.loop ([2, 3] ++ List.range' 9 87)
 (.seq
 (.seq
 (.ops false [mv 23 8 3, mv 24 1 23, ⟨(some 25), .call ⟨(.builtin .len), #[(.tmp 24)], #[23]⟩, 3, none⟩, ⟨(some 26), .binOp .lss 3 (.tmp 23) (.tmp 25) 3, 4, none⟩, mv 27 26 4, ⟨(some 28), .move (.tmp 8), 3, (some (27, true))⟩, ⟨(some 29), .binOp .lss 3 (.tmp 28) (.const (.int .i64 (58))) 3, 4, (some (27, true))⟩, ⟨(some 30), .pick (.tmp 27) (.tmp 29) (.const (.bool false)), 4, none⟩])
 (.cond (.tmp 30)
 (.skip)
 (.exit 0)))
 (.seq
 (.block 1
 (.seq
 (.ops false [mv 33 1 23, mv 34 8 3, ⟨(some 35), .indexAddr 23 (.tmp 33) (.tmp 34), 0, none⟩, ⟨(some 36), .load 30 (.tmp 35), 30, none⟩, ⟨(some 9), .alloc 30, 0, none⟩, ⟨none, .store 30 (.tmp 9) (.tmp 36), 0, none⟩])
 (.seq
 (.ops false [⟨(some 37), .fieldAddr 30 (.tmp 9) 0, 0, none⟩, ⟨none, .store 3 (.tmp 37) (.const (.int .i64 (1))), 0, none⟩])
 (.seq
 (.seq
 (.ops false [⟨(some 38), .fieldAddr 30 (.tmp 9) 1, 0, none⟩, ⟨(some 39), .load 3 (.tmp 38), 3, none⟩, ⟨(some 40), .binOp .lss 3 (.tmp 39) (.const (.int .i64 (2))) 3, 4, none⟩, mv 41 40 4, ⟨(some 42), .fieldAddr 30 (.tmp 9) 1, 0, (some (41, false))⟩, ⟨(some 43), .load 3 (.tmp 42), 3, (some (41, false))⟩, ⟨(some 44), .binOp .gtr 3 (.tmp 43) (.const (.int .i64 (5))) 3, 4, (some (41, false))⟩, ⟨(some 45), .pick (.tmp 41) (.const (.bool true)) (.tmp 44), 4, none⟩])
 (.cond (.tmp 45)
 (.exit 1)
 (.skip)))
 (.seq
 (.ops false [mv 46 5 23, ⟨(some 47), .load 30 (.tmp 9), 30, none⟩, ⟨(some 48), .buildSlice 23 1 #[(0, (.tmp 47))], 23, none⟩, ⟨(some 49), .call ⟨(.builtin .append), #[(.tmp 46), (.tmp 48)], #[23, 23]⟩, 23, none⟩, asg 5 49 23])
 (.seq
 (.ops false [mv 51 6 22, ⟨(some 52), .load 30 (.tmp 9), 30, none⟩, ⟨(some 53), .call ⟨(.value (.func 11)), #[(.tmp 51), (.tmp 52)], #[22, 30]⟩, 31, none⟩, mv 50 53 31, ⟨(some 54), .extract (.tmp 50) 0, 22, none⟩, ⟨(some 55), .extract (.tmp 50) 1, 4, none⟩, asg 10 54 22, asg 11 55 4])
 (.seq
 (.ops false [mv 56 10 22, asg 6 56 22])
 (.ops false [mv 57 7 4, mv 58 57 4, ⟨(some 59), .move (.tmp 11), 4, (some (58, true))⟩, ⟨(some 60), .pick (.tmp 58) (.tmp 59) (.const (.bool false)), 4, none⟩, asg 7 60 4]))))))))
 (.ops false [mv 31 8 3, ⟨(some 32), .binOp .add 3 (.tmp 31) (.const (.int .i64 (1))) 3, 3, none⟩, asg 8 32 3]))))))
 (.seq
 (.ops false [mv 62 0 22, mv 63 5 23, ⟨(some 64), .call ⟨(.value (.func 14)), #[(.tmp 62), (.tmp 63)], #[22, 23]⟩, 31, none⟩, mv 61 64 31, ⟨(some 65), .extract (.tmp 61) 0, 22, none⟩, ⟨(some 66), .extract (.tmp 61) 1, 4, none⟩, asg 12 65 22, asg 13 66 4])
 (.seq
 (.ops false [mv 67 5 23, ⟨(some 68), .build 30 #[(0, (.const (.int .i64 (1)))), (1, (.const (.int .i64 (6))))], 30, none⟩, ⟨(some 69), .buildSlice 23 1 #[(0, (.tmp 68))], 23, none⟩, ⟨(some 70), .call ⟨(.builtin .append), #[(.tmp 67), (.tmp 69)], #[23, 23]⟩, 23, none⟩, asg 5 70 23])
 (.seq
 (.ops false [mv 72 0 22, mv 73 5 23, ⟨(some 74), .call ⟨(.value (.func 14)), #[(.tmp 72), (.tmp 73)], #[22, 23]⟩, 31, none⟩, mv 71 74 31, ⟨(some 75), .extract (.tmp 71) 0, 22, none⟩, ⟨(some 76), .extract (.tmp 71) 1, 4, none⟩, asg 14 75 22, asg 15 76 4])
 (.seq
 (.ops false [mv 77 12 22, mv 78 0 22, ⟨(some 79), .call ⟨(.value (.func 13)), #[(.tmp 77), (.tmp 78)], #[22, 22]⟩, 4, none⟩, mv 80 79 4, ⟨(some 81), .move (.tmp 13), 4, (some (80, true))⟩, ⟨(some 82), .pick (.tmp 80) (.tmp 81) (.const (.bool false)), 4, none⟩, mv 83 82 4, ⟨(some 84), .move (.tmp 14), 22, (some (83, true))⟩, ⟨(some 85), .move (.tmp 6), 22, (some (83, true))⟩, ⟨(some 86), .call ⟨(.value (.func 13)), #[(.tmp 84), (.tmp 85)], #[22, 22]⟩, 4, (some (83, true))⟩, ⟨(some 87), .pick (.tmp 83) (.tmp 86) (.const (.bool false)), 4, none⟩, mv 88 87 4, ⟨(some 89), .move (.tmp 15), 4, (some (88, true))⟩, ⟨(some 90), .move (.tmp 7), 4, (some (88, true))⟩, ⟨(some 91), .binOp .eql 4 (.tmp 89) (.tmp 90) 4, 4, (some (88, true))⟩, ⟨(some 92), .pick (.tmp 88) (.tmp 91) (.const (.bool false)), 4, none⟩, mv 93 92 4, ⟨(some 94), .call ⟨(.value (.func 21)), #[], #[]⟩, 4, (some (93, true))⟩, ⟨(some 95), .pick (.tmp 93) (.tmp 94) (.const (.bool false)), 4, none⟩, asg 4 95 4])
 (.ret)))))))))))⟩
theorem fa6_eq : fnA hcfg.P 6 = some fa6 := by kernel_rfl
def T6_0 (x0 : List V) (x1 : List V) (x6 : List V) (x7 : Bool) (x8 : Int) (m0 : List V) : S := ⟨[V.sl x0, V.sl x1, V.junk, V.junk, V.bool false, V.own 0, V.sl x6, V.bool x7, V.int .i64 x8] ++ (JU 87), [O.row 30 m0 0]⟩
noncomputable def e6 (a0 : List V) (a1 : List V) : R :=
  pcK hcfg 8 [V.sl a1] fun r =>
  kL r fun r8 =>
  pcK hcfg 9 [V.sl a0] fun r_1 =>
  kF 46 r_1 fun r9 =>
  some (.head 0 (T6_0 r9 r8 r9 true 0 [V.agg [V.int .i64 1, V.int .i64 1, V.str [], V.str [], V.int .i64 0, V.sl [], V.bool false]]))
theorem e6_eq (a0 : List V) (a1 : List V) : enterK hk false fa6 [V.sl a0, V.sl a1] [] = e6 a0 a1 := by kernel_rfl
theorem e6_run (a0 : List V) (a1 : List V) {o : Out} {v : V} (h : e6 a0 a1 = some o) (hg : Go hk false 0 fa6 o (.done v)) : pcW hcfg 6 [V.sl a0, V.sl a1] = some v := pcW_go hik rfl fa6_eq ((e6_eq a0 a1).trans h) hg
noncomputable def s6_0 (x0 : List V) (x1 : List V) (x6 : List V) (x7 : Bool) (x8 : Int) (m0 : List V) : R :=
  cond (decide (x8 < (x1.length : Int)))
 (cond (decide (x8 < 58))
 (gd (decide (0 ≤ x8)) <|
  idxK x1 x8.toNat fun v =>
  d30 v fun txn kind0 key value n pairs is0 =>
  cond (decide (kind0 < 2))
 (some (.head 0 (T6_0 x0 x1 x6 x7 (W .i64 (x8 + 1)) m0)))
 (cond (decide (kind0 > 5))
 (some (.head 0 (T6_0 x0 x1 x6 x7 (W .i64 (x8 + 1)) m0)))
 (gd (decide (m0.length + ([V.agg [V.int .i64 1, V.int .i64 kind0, V.str key, V.str value, V.int .i64 n, V.sl pairs, V.bool is0]] : List V).length ≤ 16777216)) <|
  pcK hcfg 11 [V.sl x6, V.agg [V.int .i64 1, V.int .i64 kind0, V.str key, V.str value, V.int .i64 n, V.sl pairs, V.bool is0]] fun r =>
  d31 r fun r11_0 r11_1 =>
  cond x7
 (some (.head 0 (T6_0 x0 x1 r11_0 r11_1 (W .i64 (x8 + 1)) (m0 ++ [V.agg [V.int .i64 1, V.int .i64 kind0, V.str key, V.str value, V.int .i64 n, V.sl pairs, V.bool is0]]))))
 (some (.head 0 (T6_0 x0 x1 r11_0 false (W .i64 (x8 + 1)) (m0 ++ [V.agg [V.int .i64 1, V.int .i64 kind0, V.str key, V.str value, V.int .i64 n, V.sl pairs, V.bool is0]])))))))
 (pcK hcfg 14 [V.sl x0, V.sl m0] fun r_1 =>
  d31 r_1 fun r14_0 r14_1 =>
  gd (decide (m0.length + ([V.agg [V.int .i64 1, V.int .i64 6, V.str [], V.str [], V.int .i64 0, V.sl [], V.bool false]] : List V).length ≤ 16777216)) <|
  pcK hcfg 14 [V.sl x0, V.sl (m0 ++ [V.agg [V.int .i64 1, V.int .i64 6, V.str [], V.str [], V.int .i64 0, V.sl [], V.bool false]])] fun r_2 =>
  d31 r_2 fun r14_0_1 r14_1_1 =>
  pcK hcfg 13 [V.sl r14_0, V.sl x0] fun r_3 =>
  kB r_3 fun r13 =>
  cond r13
 (cond r14_1
 (pcK hcfg 13 [V.sl r14_0_1, V.sl x6] fun r_4 =>
  kB r_4 fun r13_1 =>
  cond r13_1
 (cond (r14_1_1 == x7)
 (pcK hcfg 21 [] fun r_5 =>
  kB r_5 fun r21 =>
  some (.done (V.bool r21)))
 (some (.done (V.bool false))))
 (some (.done (V.bool false))))
 (some (.done (V.bool false))))
 (some (.done (V.bool false)))))
 (pcK hcfg 14 [V.sl x0, V.sl m0] fun r_6 =>
  d31 r_6 fun r14_0_2 r14_1_2 =>
  gd (decide (m0.length + ([V.agg [V.int .i64 1, V.int .i64 6, V.str [], V.str [], V.int .i64 0, V.sl [], V.bool false]] : List V).length ≤ 16777216)) <|
  pcK hcfg 14 [V.sl x0, V.sl (m0 ++ [V.agg [V.int .i64 1, V.int .i64 6, V.str [], V.str [], V.int .i64 0, V.sl [], V.bool false]])] fun r_7 =>
  d31 r_7 fun r14_0_3 r14_1_3 =>
  pcK hcfg 13 [V.sl r14_0_2, V.sl x0] fun r_8 =>
  kB r_8 fun r13_2 =>
  cond r13_2
 (cond r14_1_2
 (pcK hcfg 13 [V.sl r14_0_3, V.sl x6] fun r_9 =>
  kB r_9 fun r13_3 =>
  cond r13_3
 (cond (r14_1_3 == x7)
 (pcK hcfg 21 [] fun r_10 =>
  kB r_10 fun r21_1 =>
  some (.done (V.bool r21_1)))
 (some (.done (V.bool false))))
 (some (.done (V.bool false))))
 (some (.done (V.bool false))))
 (some (.done (V.bool false))))
theorem s6_0_eq (x0 : List V) (x1 : List V) (x6 : List V) (x7 : Bool) (x8 : Int) (m0 : List V) : goK hk false 0 fa6 0 (T6_0 x0 x1 x6 x7 x8 m0) = s6_0 x0 x1 x6 x7 x8 m0 := by kernel_rfl
theorem s6_0_run (x0 : List V) (x1 : List V) (x6 : List V) (x7 : Bool) (x8 : Int) (m0 : List V) {o o' : Out} (h : s6_0 x0 x1 x6 x7 x8 m0 = some o) (hg : Go hk false 0 fa6 o o') : Go hk false 0 fa6 (.head 0 (T6_0 x0 x1 x6 x7 x8 m0)) o' := .step ((s6_0_eq x0 x1 x6 x7 x8 m0).trans h) hg
/-! ### budwood/budwoodlaw23.HistCuts -/
noncomputable def fa7 : FA := ⟨3, 121, [.tmp 6], [4],
 (.seq
 (.ops false [⟨(some 4), .box 46 (.tmp 1), 0, none⟩, ⟨(some 5), .box 46 (.tmp 2), 0, none⟩, ⟨(some 6), .assign (.const (.bool false)), 4, none⟩])
 (.seq
 (.ops false [mv 11 0 22, ⟨(some 12), .call ⟨(.value (.func 9)), #[(.tmp 11)], #[22]⟩, 22, none⟩, asg 7 12 22])
 (.seq
 (.ops true [⟨(some 13), .fieldAddr 46 (.tmp 4) 0, 0, none⟩, ⟨(some 14), .load 9 (.tmp 13), 9, none⟩, ⟨(some 15), .fieldAddr 46 (.tmp 4) 0, 0, none⟩, ⟨(some 16), .load 9 (.tmp 15), 9, none⟩, ⟨(some 17), .call ⟨(.builtin .len), #[(.tmp 16)], #[9]⟩, 3, none⟩, ⟨(some 18), .call ⟨(.builtin .min), #[(.tmp 17), (.const (.int .i64 (20)))], #[3, 3]⟩, 3, none⟩, ⟨(some 19), .slice 9 (.tmp 14) none (some (.tmp 18)) none, 9, none⟩, ⟨(some 20), .fieldAddr 46 (.tmp 4) 1, 0, none⟩, ⟨(some 21), .load 9 (.tmp 20), 9, none⟩, ⟨(some 22), .fieldAddr 46 (.tmp 4) 1, 0, none⟩, ⟨(some 23), .load 9 (.tmp 22), 9, none⟩, ⟨(some 24), .call ⟨(.builtin .len), #[(.tmp 23)], #[9]⟩, 3, none⟩, ⟨(some 25), .call ⟨(.builtin .min), #[(.tmp 24), (.const (.int .i64 (20)))], #[3, 3]⟩, 3, none⟩, ⟨(some 26), .slice 9 (.tmp 21) none (some (.tmp 25)) none, 9, none⟩, ⟨(some 27), .build 46 #[(0, (.tmp 19)), (1, (.tmp 26))], 46, none⟩, ⟨none, .store 46 (.tmp 4) (.tmp 27), 0, none⟩])
 (.seq
 (.ops true [⟨(some 28), .fieldAddr 46 (.tmp 5) 0, 0, none⟩, ⟨(some 29), .load 9 (.tmp 28), 9, none⟩, ⟨(some 30), .fieldAddr 46 (.tmp 5) 0, 0, none⟩, ⟨(some 31), .load 9 (.tmp 30), 9, none⟩, ⟨(some 32), .call ⟨(.builtin .len), #[(.tmp 31)], #[9]⟩, 3, none⟩, ⟨(some 33), .call ⟨(.builtin .min), #[(.tmp 32), (.const (.int .i64 (20)))], #[3, 3]⟩, 3, none⟩, ⟨(some 34), .slice 9 (.tmp 29) none (some (.tmp 33)) none, 9, none⟩, ⟨(some 35), .fieldAddr 46 (.tmp 5) 1, 0, none⟩, ⟨(some 36), .load 9 (.tmp 35), 9, none⟩, ⟨(some 37), .fieldAddr 46 (.tmp 5) 1, 0, none⟩, ⟨(some 38), .load 9 (.tmp 37), 9, none⟩, ⟨(some 39), .call ⟨(.builtin .len), #[(.tmp 38)], #[9]⟩, 3, none⟩, ⟨(some 40), .call ⟨(.builtin .min), #[(.tmp 39), (.const (.int .i64 (20)))], #[3, 3]⟩, 3, none⟩, ⟨(some 41), .slice 9 (.tmp 36) none (some (.tmp 40)) none, 9, none⟩, ⟨(some 42), .build 46 #[(0, (.tmp 34)), (1, (.tmp 41))], 46, none⟩, ⟨none, .store 46 (.tmp 5) (.tmp 42), 0, none⟩])
 (.seq
 (.ops false [mv 44 7 22, ⟨(some 45), .fieldAddr 46 (.tmp 4) 0, 0, none⟩, ⟨(some 46), .load 9 (.tmp 45), 9, none⟩, ⟨(some 47), .call ⟨(.value (.func 22)), #[(.tmp 44), (.tmp 46)], #[22, 9]⟩, 47, none⟩, mv 43 47 47, ⟨(some 48), .extract (.tmp 43) 0, 3, none⟩, ⟨(some 49), .extract (.tmp 43) 1, 4, none⟩, asg 8 48 3, asg 9 49 4])
 (.seq
 (.ops true [mv 50 7 22, ⟨(some 51), .load 46 (.tmp 4), 46, none⟩, ⟨(some 52), .call ⟨(.value (.func 24)), #[(.tmp 50), (.tmp 51)], #[22, 46]⟩, 22, none⟩, ⟨(some 53), .fieldAddr 46 (.tmp 4) 0, 0, none⟩, ⟨(some 54), .load 9 (.tmp 53), 9, none⟩, ⟨(some 55), .call ⟨(.value (.func 26)), #[(.tmp 52), (.tmp 54)], #[22, 9]⟩, 22, none⟩, asg 10 55 22])
 (.seq
 (.seq
 (.ops false [mv 56 9 4, ⟨(some 57), .unOp .not 4 (.tmp 56), 4, none⟩, mv 58 57 4, ⟨(some 59), .move (.tmp 10), 22, (some (58, true))⟩, ⟨(some 60), .move (.tmp 7), 22, (some (58, true))⟩, ⟨(some 61), .call ⟨(.value (.func 13)), #[(.tmp 59), (.tmp 60)], #[22, 22]⟩, 4, (some (58, true))⟩, ⟨(some 62), .unOp .not 4 (.tmp 61), 4, (some (58, true))⟩, ⟨(some 63), .pick (.tmp 58) (.tmp 62) (.const (.bool false)), 4, none⟩, mv 64 63 4, ⟨(some 65), .move (.tmp 9), 4, (some (64, false))⟩, ⟨(some 66), .move (.tmp 65), 4, (some (64, false))⟩, ⟨(some 67), .move (.tmp 10), 22, (some (66, true))⟩, ⟨(some 68), .call ⟨(.builtin .len), #[(.tmp 67)], #[22]⟩, 3, (some (66, true))⟩, ⟨(some 69), .move (.tmp 7), 22, (some (66, true))⟩, ⟨(some 70), .call ⟨(.builtin .len), #[(.tmp 69)], #[22]⟩, 3, (some (66, true))⟩, ⟨(some 71), .binOp .sub 3 (.tmp 70) (.const (.int .i64 (1))) 3, 3, (some (66, true))⟩, ⟨(some 72), .binOp .neq 3 (.tmp 68) (.tmp 71) 3, 4, (some (66, true))⟩, ⟨(some 73), .pick (.tmp 66) (.tmp 72) (.const (.bool false)), 4, (some (64, false))⟩, ⟨(some 74), .pick (.tmp 64) (.const (.bool true)) (.tmp 73), 4, none⟩])
 (.cond (.tmp 74)
 (.seq
 (.ops false [⟨(some 6), .assign (.const (.bool false)), 4, none⟩])
 (.ret))
 (.skip)))
 (.seq
 (.seq
 (.ops false [⟨(some 75), .fieldAddr 46 (.tmp 4) 0, 0, none⟩, ⟨(some 76), .load 9 (.tmp 75), 9, none⟩, ⟨(some 77), .fieldAddr 46 (.tmp 5) 0, 0, none⟩, ⟨(some 78), .load 9 (.tmp 77), 9, none⟩, ⟨(some 79), .binOp .eql 9 (.tmp 76) (.tmp 78) 9, 4, none⟩])
 (.cond (.tmp 79)
 (.seq
 (.ops true [mv 80 7 22, ⟨(some 81), .load 46 (.tmp 5), 46, none⟩, ⟨(some 82), .call ⟨(.value (.func 24)), #[(.tmp 80), (.tmp 81)], #[22, 46]⟩, 22, none⟩, ⟨(some 83), .load 46 (.tmp 4), 46, none⟩, ⟨(some 84), .call ⟨(.value (.func 24)), #[(.tmp 82), (.tmp 83)], #[22, 46]⟩, 22, none⟩, mv 85 7 22, ⟨(some 86), .load 46 (.tmp 4), 46, none⟩, ⟨(some 87), .call ⟨(.value (.func 24)), #[(.tmp 85), (.tmp 86)], #[22, 46]⟩, 22, none⟩, ⟨(some 88), .call ⟨(.value (.func 13)), #[(.tmp 84), (.tmp 87)], #[22, 22]⟩, 4, none⟩, mv 89 88 4, ⟨(some 90), .call ⟨(.value (.func 21)), #[], #[]⟩, 4, (some (89, true))⟩, ⟨(some 91), .pick (.tmp 89) (.tmp 90) (.const (.bool false)), 4, none⟩, asg 6 91 4])
 (.ret))
 (.skip)))
 (.seq
 (.ops true [mv 92 7 22, ⟨(some 93), .load 46 (.tmp 4), 46, none⟩, ⟨(some 94), .call ⟨(.value (.func 24)), #[(.tmp 92), (.tmp 93)], #[22, 46]⟩, 22, none⟩, ⟨(some 95), .load 46 (.tmp 5), 46, none⟩, ⟨(some 96), .call ⟨(.value (.func 24)), #[(.tmp 94), (.tmp 95)], #[22, 46]⟩, 22, none⟩, mv 97 7 22, ⟨(some 98), .load 46 (.tmp 5), 46, none⟩, ⟨(some 99), .call ⟨(.value (.func 24)), #[(.tmp 97), (.tmp 98)], #[22, 46]⟩, 22, none⟩, ⟨(some 100), .load 46 (.tmp 4), 46, none⟩, ⟨(some 101), .call ⟨(.value (.func 24)), #[(.tmp 99), (.tmp 100)], #[22, 46]⟩, 22, none⟩, ⟨(some 102), .call ⟨(.value (.func 13)), #[(.tmp 96), (.tmp 101)], #[22, 22]⟩, 4, none⟩, mv 103 102 4, ⟨(some 104), .move (.tmp 7), 22, (some (103, true))⟩, ⟨(some 105), .load 46 (.tmp 4), 46, (some (103, true))⟩, ⟨(some 106), .call ⟨(.value (.func 24)), #[(.tmp 104), (.tmp 105)], #[22, 46]⟩, 22, (some (103, true))⟩, ⟨(some 107), .fieldAddr 46 (.tmp 5) 0, 0, (some (103, true))⟩, ⟨(some 108), .load 9 (.tmp 107), 9, (some (103, true))⟩, ⟨(some 109), .call ⟨(.value (.func 26)), #[(.tmp 106), (.tmp 108)], #[22, 9]⟩, 22, (some (103, true))⟩, ⟨(some 110), .move (.tmp 7), 22, (some (103, true))⟩, ⟨(some 111), .fieldAddr 46 (.tmp 5) 0, 0, (some (103, true))⟩, ⟨(some 112), .load 9 (.tmp 111), 9, (some (103, true))⟩, ⟨(some 113), .call ⟨(.value (.func 26)), #[(.tmp 110), (.tmp 112)], #[22, 9]⟩, 22, (some (103, true))⟩, ⟨(some 114), .load 46 (.tmp 4), 46, (some (103, true))⟩, ⟨(some 115), .call ⟨(.value (.func 24)), #[(.tmp 113), (.tmp 114)], #[22, 46]⟩, 22, (some (103, true))⟩, ⟨(some 116), .call ⟨(.value (.func 13)), #[(.tmp 109), (.tmp 115)], #[22, 22]⟩, 4, (some (103, true))⟩, ⟨(some 117), .pick (.tmp 103) (.tmp 116) (.const (.bool false)), 4, none⟩, mv 118 117 4, ⟨(some 119), .call ⟨(.value (.func 21)), #[], #[]⟩, 4, (some (118, true))⟩, ⟨(some 120), .pick (.tmp 118) (.tmp 119) (.const (.bool false)), 4, none⟩, asg 6 120 4])
 (.ret))))))))))⟩
theorem fa7_eq : fnA hcfg.P 7 = some fa7 := by kernel_rfl
noncomputable def e7 (a0 : List V) (a1Key : List UInt8) (a1Value : List UInt8) (a2Key : List UInt8) (a2Value : List UInt8) : R :=
  pcK hcfg 9 [V.sl a0] fun r =>
  kF 46 r fun r9 =>
  gd (decide (0 ≤ (if 20 < (a1Key.length : Int) then 20 else (a1Key.length : Int)))) <|
  gd (decide ((if 20 < (a1Key.length : Int) then 20 else (a1Key.length : Int)).toNat ≤ a1Key.length)) <|
  gd (decide (0 ≤ (if 20 < (a1Value.length : Int) then 20 else (a1Value.length : Int)))) <|
  gd (decide ((if 20 < (a1Value.length : Int) then 20 else (a1Value.length : Int)).toNat ≤ a1Value.length)) <|
  gd (decide (0 ≤ (if 20 < (a2Key.length : Int) then 20 else (a2Key.length : Int)))) <|
  gd (decide ((if 20 < (a2Key.length : Int) then 20 else (a2Key.length : Int)).toNat ≤ a2Key.length)) <|
  gd (decide (0 ≤ (if 20 < (a2Value.length : Int) then 20 else (a2Value.length : Int)))) <|
  gd (decide ((if 20 < (a2Value.length : Int) then 20 else (a2Value.length : Int)).toNat ≤ a2Value.length)) <|
  pcK hcfg 22 [V.sl r9, V.str (a1Key.take ((if 20 < (a1Key.length : Int) then 20 else (a1Key.length : Int)).toNat))] fun r_1 =>
  d47 r_1 fun r22_0 r22_1 =>
  pcK hcfg 24 [V.sl r9, V.agg [V.str (a1Key.take ((if 20 < (a1Key.length : Int) then 20 else (a1Key.length : Int)).toNat)), V.str (a1Value.take ((if 20 < (a1Value.length : Int) then 20 else (a1Value.length : Int)).toNat))]] fun r_2 =>
  kF 46 r_2 fun r24 =>
  pcK hcfg 26 [V.sl r24, V.str (a1Key.take ((if 20 < (a1Key.length : Int) then 20 else (a1Key.length : Int)).toNat))] fun r_3 =>
  kF 46 r_3 fun r26 =>
  cond (!r22_1)
 (pcK hcfg 13 [V.sl r26, V.sl r9] fun r_4 =>
  kB r_4 fun r13 =>
  cond (!r13)
 (some (.done (V.bool false)))
 (cond r22_1
 (cond ((r26.length : Int) != (W .i64 ((r9.length : Int) - 1)))
 (some (.done (V.bool false)))
 (cond ((a1Key.take ((if 20 < (a1Key.length : Int) then 20 else (a1Key.length : Int)).toNat)) == (a2Key.take ((if 20 < (a2Key.length : Int) then 20 else (a2Key.length : Int)).toNat)))
 (pcK hcfg 24 [V.sl r9, V.agg [V.str (a2Key.take ((if 20 < (a2Key.length : Int) then 20 else (a2Key.length : Int)).toNat)), V.str (a2Value.take ((if 20 < (a2Value.length : Int) then 20 else (a2Value.length : Int)).toNat))]] fun r_5 =>
  kF 46 r_5 fun r24_1 =>
  pcK hcfg 24 [V.sl r24_1, V.agg [V.str (a1Key.take ((if 20 < (a1Key.length : Int) then 20 else (a1Key.length : Int)).toNat)), V.str (a1Value.take ((if 20 < (a1Value.length : Int) then 20 else (a1Value.length : Int)).toNat))]] fun r_6 =>
  kF 46 r_6 fun r24_2 =>
  pcK hcfg 24 [V.sl r9, V.agg [V.str (a1Key.take ((if 20 < (a1Key.length : Int) then 20 else (a1Key.length : Int)).toNat)), V.str (a1Value.take ((if 20 < (a1Value.length : Int) then 20 else (a1Value.length : Int)).toNat))]] fun r_7 =>
  kF 46 r_7 fun r24_3 =>
  pcK hcfg 13 [V.sl r24_2, V.sl r24_3] fun r_8 =>
  kB r_8 fun r13_1 =>
  cond r13_1
 (pcK hcfg 21 [] fun r_9 =>
  kB r_9 fun r21 =>
  some (.done (V.bool r21)))
 (some (.done (V.bool false))))
 (pcK hcfg 24 [V.sl r9, V.agg [V.str (a1Key.take ((if 20 < (a1Key.length : Int) then 20 else (a1Key.length : Int)).toNat)), V.str (a1Value.take ((if 20 < (a1Value.length : Int) then 20 else (a1Value.length : Int)).toNat))]] fun r_10 =>
  kF 46 r_10 fun r24_4 =>
  pcK hcfg 24 [V.sl r24_4, V.agg [V.str (a2Key.take ((if 20 < (a2Key.length : Int) then 20 else (a2Key.length : Int)).toNat)), V.str (a2Value.take ((if 20 < (a2Value.length : Int) then 20 else (a2Value.length : Int)).toNat))]] fun r_11 =>
  kF 46 r_11 fun r24_5 =>
  pcK hcfg 24 [V.sl r9, V.agg [V.str (a2Key.take ((if 20 < (a2Key.length : Int) then 20 else (a2Key.length : Int)).toNat)), V.str (a2Value.take ((if 20 < (a2Value.length : Int) then 20 else (a2Value.length : Int)).toNat))]] fun r_12 =>
  kF 46 r_12 fun r24_6 =>
  pcK hcfg 24 [V.sl r24_6, V.agg [V.str (a1Key.take ((if 20 < (a1Key.length : Int) then 20 else (a1Key.length : Int)).toNat)), V.str (a1Value.take ((if 20 < (a1Value.length : Int) then 20 else (a1Value.length : Int)).toNat))]] fun r_13 =>
  kF 46 r_13 fun r24_7 =>
  pcK hcfg 13 [V.sl r24_5, V.sl r24_7] fun r_14 =>
  kB r_14 fun r13_2 =>
  cond r13_2
 (pcK hcfg 24 [V.sl r9, V.agg [V.str (a1Key.take ((if 20 < (a1Key.length : Int) then 20 else (a1Key.length : Int)).toNat)), V.str (a1Value.take ((if 20 < (a1Value.length : Int) then 20 else (a1Value.length : Int)).toNat))]] fun r_15 =>
  kF 46 r_15 fun r24_8 =>
  pcK hcfg 26 [V.sl r24_8, V.str (a2Key.take ((if 20 < (a2Key.length : Int) then 20 else (a2Key.length : Int)).toNat))] fun r_16 =>
  kF 46 r_16 fun r26_1 =>
  pcK hcfg 26 [V.sl r9, V.str (a2Key.take ((if 20 < (a2Key.length : Int) then 20 else (a2Key.length : Int)).toNat))] fun r_17 =>
  kF 46 r_17 fun r26_2 =>
  pcK hcfg 24 [V.sl r26_2, V.agg [V.str (a1Key.take ((if 20 < (a1Key.length : Int) then 20 else (a1Key.length : Int)).toNat)), V.str (a1Value.take ((if 20 < (a1Value.length : Int) then 20 else (a1Value.length : Int)).toNat))]] fun r_18 =>
  kF 46 r_18 fun r24_9 =>
  pcK hcfg 13 [V.sl r26_1, V.sl r24_9] fun r_19 =>
  kB r_19 fun r13_3 =>
  cond r13_3
 (pcK hcfg 21 [] fun r_20 =>
  kB r_20 fun r21_1 =>
  some (.done (V.bool r21_1)))
 (some (.done (V.bool false))))
 (some (.done (V.bool false))))))
 (cond ((a1Key.take ((if 20 < (a1Key.length : Int) then 20 else (a1Key.length : Int)).toNat)) == (a2Key.take ((if 20 < (a2Key.length : Int) then 20 else (a2Key.length : Int)).toNat)))
 (pcK hcfg 24 [V.sl r9, V.agg [V.str (a2Key.take ((if 20 < (a2Key.length : Int) then 20 else (a2Key.length : Int)).toNat)), V.str (a2Value.take ((if 20 < (a2Value.length : Int) then 20 else (a2Value.length : Int)).toNat))]] fun r_21 =>
  kF 46 r_21 fun r24_10 =>
  pcK hcfg 24 [V.sl r24_10, V.agg [V.str (a1Key.take ((if 20 < (a1Key.length : Int) then 20 else (a1Key.length : Int)).toNat)), V.str (a1Value.take ((if 20 < (a1Value.length : Int) then 20 else (a1Value.length : Int)).toNat))]] fun r_22 =>
  kF 46 r_22 fun r24_11 =>
  pcK hcfg 24 [V.sl r9, V.agg [V.str (a1Key.take ((if 20 < (a1Key.length : Int) then 20 else (a1Key.length : Int)).toNat)), V.str (a1Value.take ((if 20 < (a1Value.length : Int) then 20 else (a1Value.length : Int)).toNat))]] fun r_23 =>
  kF 46 r_23 fun r24_12 =>
  pcK hcfg 13 [V.sl r24_11, V.sl r24_12] fun r_24 =>
  kB r_24 fun r13_4 =>
  cond r13_4
 (pcK hcfg 21 [] fun r_25 =>
  kB r_25 fun r21_2 =>
  some (.done (V.bool r21_2)))
 (some (.done (V.bool false))))
 (pcK hcfg 24 [V.sl r9, V.agg [V.str (a1Key.take ((if 20 < (a1Key.length : Int) then 20 else (a1Key.length : Int)).toNat)), V.str (a1Value.take ((if 20 < (a1Value.length : Int) then 20 else (a1Value.length : Int)).toNat))]] fun r_26 =>
  kF 46 r_26 fun r24_13 =>
  pcK hcfg 24 [V.sl r24_13, V.agg [V.str (a2Key.take ((if 20 < (a2Key.length : Int) then 20 else (a2Key.length : Int)).toNat)), V.str (a2Value.take ((if 20 < (a2Value.length : Int) then 20 else (a2Value.length : Int)).toNat))]] fun r_27 =>
  kF 46 r_27 fun r24_14 =>
  pcK hcfg 24 [V.sl r9, V.agg [V.str (a2Key.take ((if 20 < (a2Key.length : Int) then 20 else (a2Key.length : Int)).toNat)), V.str (a2Value.take ((if 20 < (a2Value.length : Int) then 20 else (a2Value.length : Int)).toNat))]] fun r_28 =>
  kF 46 r_28 fun r24_15 =>
  pcK hcfg 24 [V.sl r24_15, V.agg [V.str (a1Key.take ((if 20 < (a1Key.length : Int) then 20 else (a1Key.length : Int)).toNat)), V.str (a1Value.take ((if 20 < (a1Value.length : Int) then 20 else (a1Value.length : Int)).toNat))]] fun r_29 =>
  kF 46 r_29 fun r24_16 =>
  pcK hcfg 13 [V.sl r24_14, V.sl r24_16] fun r_30 =>
  kB r_30 fun r13_5 =>
  cond r13_5
 (pcK hcfg 24 [V.sl r9, V.agg [V.str (a1Key.take ((if 20 < (a1Key.length : Int) then 20 else (a1Key.length : Int)).toNat)), V.str (a1Value.take ((if 20 < (a1Value.length : Int) then 20 else (a1Value.length : Int)).toNat))]] fun r_31 =>
  kF 46 r_31 fun r24_17 =>
  pcK hcfg 26 [V.sl r24_17, V.str (a2Key.take ((if 20 < (a2Key.length : Int) then 20 else (a2Key.length : Int)).toNat))] fun r_32 =>
  kF 46 r_32 fun r26_3 =>
  pcK hcfg 26 [V.sl r9, V.str (a2Key.take ((if 20 < (a2Key.length : Int) then 20 else (a2Key.length : Int)).toNat))] fun r_33 =>
  kF 46 r_33 fun r26_4 =>
  pcK hcfg 24 [V.sl r26_4, V.agg [V.str (a1Key.take ((if 20 < (a1Key.length : Int) then 20 else (a1Key.length : Int)).toNat)), V.str (a1Value.take ((if 20 < (a1Value.length : Int) then 20 else (a1Value.length : Int)).toNat))]] fun r_34 =>
  kF 46 r_34 fun r24_18 =>
  pcK hcfg 13 [V.sl r26_3, V.sl r24_18] fun r_35 =>
  kB r_35 fun r13_6 =>
  cond r13_6
 (pcK hcfg 21 [] fun r_36 =>
  kB r_36 fun r21_3 =>
  some (.done (V.bool r21_3)))
 (some (.done (V.bool false))))
 (some (.done (V.bool false)))))))
 (cond r22_1
 (cond ((r26.length : Int) != (W .i64 ((r9.length : Int) - 1)))
 (some (.done (V.bool false)))
 (cond ((a1Key.take ((if 20 < (a1Key.length : Int) then 20 else (a1Key.length : Int)).toNat)) == (a2Key.take ((if 20 < (a2Key.length : Int) then 20 else (a2Key.length : Int)).toNat)))
 (pcK hcfg 24 [V.sl r9, V.agg [V.str (a2Key.take ((if 20 < (a2Key.length : Int) then 20 else (a2Key.length : Int)).toNat)), V.str (a2Value.take ((if 20 < (a2Value.length : Int) then 20 else (a2Value.length : Int)).toNat))]] fun r_37 =>
  kF 46 r_37 fun r24_19 =>
  pcK hcfg 24 [V.sl r24_19, V.agg [V.str (a1Key.take ((if 20 < (a1Key.length : Int) then 20 else (a1Key.length : Int)).toNat)), V.str (a1Value.take ((if 20 < (a1Value.length : Int) then 20 else (a1Value.length : Int)).toNat))]] fun r_38 =>
  kF 46 r_38 fun r24_20 =>
  pcK hcfg 24 [V.sl r9, V.agg [V.str (a1Key.take ((if 20 < (a1Key.length : Int) then 20 else (a1Key.length : Int)).toNat)), V.str (a1Value.take ((if 20 < (a1Value.length : Int) then 20 else (a1Value.length : Int)).toNat))]] fun r_39 =>
  kF 46 r_39 fun r24_21 =>
  pcK hcfg 13 [V.sl r24_20, V.sl r24_21] fun r_40 =>
  kB r_40 fun r13_7 =>
  cond r13_7
 (pcK hcfg 21 [] fun r_41 =>
  kB r_41 fun r21_4 =>
  some (.done (V.bool r21_4)))
 (some (.done (V.bool false))))
 (pcK hcfg 24 [V.sl r9, V.agg [V.str (a1Key.take ((if 20 < (a1Key.length : Int) then 20 else (a1Key.length : Int)).toNat)), V.str (a1Value.take ((if 20 < (a1Value.length : Int) then 20 else (a1Value.length : Int)).toNat))]] fun r_42 =>
  kF 46 r_42 fun r24_22 =>
  pcK hcfg 24 [V.sl r24_22, V.agg [V.str (a2Key.take ((if 20 < (a2Key.length : Int) then 20 else (a2Key.length : Int)).toNat)), V.str (a2Value.take ((if 20 < (a2Value.length : Int) then 20 else (a2Value.length : Int)).toNat))]] fun r_43 =>
  kF 46 r_43 fun r24_23 =>
  pcK hcfg 24 [V.sl r9, V.agg [V.str (a2Key.take ((if 20 < (a2Key.length : Int) then 20 else (a2Key.length : Int)).toNat)), V.str (a2Value.take ((if 20 < (a2Value.length : Int) then 20 else (a2Value.length : Int)).toNat))]] fun r_44 =>
  kF 46 r_44 fun r24_24 =>
  pcK hcfg 24 [V.sl r24_24, V.agg [V.str (a1Key.take ((if 20 < (a1Key.length : Int) then 20 else (a1Key.length : Int)).toNat)), V.str (a1Value.take ((if 20 < (a1Value.length : Int) then 20 else (a1Value.length : Int)).toNat))]] fun r_45 =>
  kF 46 r_45 fun r24_25 =>
  pcK hcfg 13 [V.sl r24_23, V.sl r24_25] fun r_46 =>
  kB r_46 fun r13_8 =>
  cond r13_8
 (pcK hcfg 24 [V.sl r9, V.agg [V.str (a1Key.take ((if 20 < (a1Key.length : Int) then 20 else (a1Key.length : Int)).toNat)), V.str (a1Value.take ((if 20 < (a1Value.length : Int) then 20 else (a1Value.length : Int)).toNat))]] fun r_47 =>
  kF 46 r_47 fun r24_26 =>
  pcK hcfg 26 [V.sl r24_26, V.str (a2Key.take ((if 20 < (a2Key.length : Int) then 20 else (a2Key.length : Int)).toNat))] fun r_48 =>
  kF 46 r_48 fun r26_5 =>
  pcK hcfg 26 [V.sl r9, V.str (a2Key.take ((if 20 < (a2Key.length : Int) then 20 else (a2Key.length : Int)).toNat))] fun r_49 =>
  kF 46 r_49 fun r26_6 =>
  pcK hcfg 24 [V.sl r26_6, V.agg [V.str (a1Key.take ((if 20 < (a1Key.length : Int) then 20 else (a1Key.length : Int)).toNat)), V.str (a1Value.take ((if 20 < (a1Value.length : Int) then 20 else (a1Value.length : Int)).toNat))]] fun r_50 =>
  kF 46 r_50 fun r24_27 =>
  pcK hcfg 13 [V.sl r26_5, V.sl r24_27] fun r_51 =>
  kB r_51 fun r13_9 =>
  cond r13_9
 (pcK hcfg 21 [] fun r_52 =>
  kB r_52 fun r21_5 =>
  some (.done (V.bool r21_5)))
 (some (.done (V.bool false))))
 (some (.done (V.bool false))))))
 (cond ((a1Key.take ((if 20 < (a1Key.length : Int) then 20 else (a1Key.length : Int)).toNat)) == (a2Key.take ((if 20 < (a2Key.length : Int) then 20 else (a2Key.length : Int)).toNat)))
 (pcK hcfg 24 [V.sl r9, V.agg [V.str (a2Key.take ((if 20 < (a2Key.length : Int) then 20 else (a2Key.length : Int)).toNat)), V.str (a2Value.take ((if 20 < (a2Value.length : Int) then 20 else (a2Value.length : Int)).toNat))]] fun r_53 =>
  kF 46 r_53 fun r24_28 =>
  pcK hcfg 24 [V.sl r24_28, V.agg [V.str (a1Key.take ((if 20 < (a1Key.length : Int) then 20 else (a1Key.length : Int)).toNat)), V.str (a1Value.take ((if 20 < (a1Value.length : Int) then 20 else (a1Value.length : Int)).toNat))]] fun r_54 =>
  kF 46 r_54 fun r24_29 =>
  pcK hcfg 24 [V.sl r9, V.agg [V.str (a1Key.take ((if 20 < (a1Key.length : Int) then 20 else (a1Key.length : Int)).toNat)), V.str (a1Value.take ((if 20 < (a1Value.length : Int) then 20 else (a1Value.length : Int)).toNat))]] fun r_55 =>
  kF 46 r_55 fun r24_30 =>
  pcK hcfg 13 [V.sl r24_29, V.sl r24_30] fun r_56 =>
  kB r_56 fun r13_10 =>
  cond r13_10
 (pcK hcfg 21 [] fun r_57 =>
  kB r_57 fun r21_6 =>
  some (.done (V.bool r21_6)))
 (some (.done (V.bool false))))
 (pcK hcfg 24 [V.sl r9, V.agg [V.str (a1Key.take ((if 20 < (a1Key.length : Int) then 20 else (a1Key.length : Int)).toNat)), V.str (a1Value.take ((if 20 < (a1Value.length : Int) then 20 else (a1Value.length : Int)).toNat))]] fun r_58 =>
  kF 46 r_58 fun r24_31 =>
  pcK hcfg 24 [V.sl r24_31, V.agg [V.str (a2Key.take ((if 20 < (a2Key.length : Int) then 20 else (a2Key.length : Int)).toNat)), V.str (a2Value.take ((if 20 < (a2Value.length : Int) then 20 else (a2Value.length : Int)).toNat))]] fun r_59 =>
  kF 46 r_59 fun r24_32 =>
  pcK hcfg 24 [V.sl r9, V.agg [V.str (a2Key.take ((if 20 < (a2Key.length : Int) then 20 else (a2Key.length : Int)).toNat)), V.str (a2Value.take ((if 20 < (a2Value.length : Int) then 20 else (a2Value.length : Int)).toNat))]] fun r_60 =>
  kF 46 r_60 fun r24_33 =>
  pcK hcfg 24 [V.sl r24_33, V.agg [V.str (a1Key.take ((if 20 < (a1Key.length : Int) then 20 else (a1Key.length : Int)).toNat)), V.str (a1Value.take ((if 20 < (a1Value.length : Int) then 20 else (a1Value.length : Int)).toNat))]] fun r_61 =>
  kF 46 r_61 fun r24_34 =>
  pcK hcfg 13 [V.sl r24_32, V.sl r24_34] fun r_62 =>
  kB r_62 fun r13_11 =>
  cond r13_11
 (pcK hcfg 24 [V.sl r9, V.agg [V.str (a1Key.take ((if 20 < (a1Key.length : Int) then 20 else (a1Key.length : Int)).toNat)), V.str (a1Value.take ((if 20 < (a1Value.length : Int) then 20 else (a1Value.length : Int)).toNat))]] fun r_63 =>
  kF 46 r_63 fun r24_35 =>
  pcK hcfg 26 [V.sl r24_35, V.str (a2Key.take ((if 20 < (a2Key.length : Int) then 20 else (a2Key.length : Int)).toNat))] fun r_64 =>
  kF 46 r_64 fun r26_7 =>
  pcK hcfg 26 [V.sl r9, V.str (a2Key.take ((if 20 < (a2Key.length : Int) then 20 else (a2Key.length : Int)).toNat))] fun r_65 =>
  kF 46 r_65 fun r26_8 =>
  pcK hcfg 24 [V.sl r26_8, V.agg [V.str (a1Key.take ((if 20 < (a1Key.length : Int) then 20 else (a1Key.length : Int)).toNat)), V.str (a1Value.take ((if 20 < (a1Value.length : Int) then 20 else (a1Value.length : Int)).toNat))]] fun r_66 =>
  kF 46 r_66 fun r24_36 =>
  pcK hcfg 13 [V.sl r26_7, V.sl r24_36] fun r_67 =>
  kB r_67 fun r13_12 =>
  cond r13_12
 (pcK hcfg 21 [] fun r_68 =>
  kB r_68 fun r21_7 =>
  some (.done (V.bool r21_7)))
 (some (.done (V.bool false))))
 (some (.done (V.bool false))))))
theorem e7_eq (a0 : List V) (a1Key : List UInt8) (a1Value : List UInt8) (a2Key : List UInt8) (a2Value : List UInt8) : enterK hk false fa7 [V.sl a0, V.agg [V.str a1Key, V.str a1Value], V.agg [V.str a2Key, V.str a2Value]] [] = e7 a0 a1Key a1Value a2Key a2Value := by kernel_rfl
theorem e7_run (a0 : List V) (a1Key : List UInt8) (a1Value : List UInt8) (a2Key : List UInt8) (a2Value : List UInt8) {o : Out} {v : V} (h : e7 a0 a1Key a1Value a2Key a2Value = some o) (hg : Go hk false 0 fa7 o (.done v)) : pcW hcfg 7 [V.sl a0, V.agg [V.str a1Key, V.str a1Value], V.agg [V.str a2Key, V.str a2Value]] = some v := pcW_go hik rfl fa7_eq ((e7_eq a0 a1Key a1Value a2Key a2Value).trans h) hg
theorem e7_done (a0 : List V) (a1Key : List UInt8) (a1Value : List UInt8) (a2Key : List UInt8) (a2Value : List UInt8) {v : V} (h : e7 a0 a1Key a1Value a2Key a2Value = some (.done v)) : pcW hcfg 7 [V.sl a0, V.agg [V.str a1Key, V.str a1Value], V.agg [V.str a2Key, V.str a2Value]] = some v := e7_run a0 a1Key a1Value a2Key a2Value h (.refl _)
end Go.Proofs.Ythojkngbpcjicaa
