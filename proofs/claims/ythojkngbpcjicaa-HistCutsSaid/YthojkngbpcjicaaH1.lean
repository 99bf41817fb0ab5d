/-
  The functions' graphs (printed by walk.py).
-/
import Derived.Test.YthojkngbpcjicaaH0
namespace Go.Proofs.Ythojkngbpcjicaa
open Go Go.Lite
set_option maxRecDepth 100000
set_option linter.unusedVariables false
def d46 (v : V) (k : List UInt8 → List UInt8 → R) : R := kA v fun cs => unc cs fun c cs => kS c fun x0 => unc cs fun c cs => kS c fun x1 => unn cs <| (k x0 x1)
@[simp] theorem d46_mk (x0 : List UInt8) (x1 : List UInt8) (k : List UInt8 → List UInt8 → R) : d46 (.agg [V.str x0, V.str x1]) k = k x0 x1 := rfl
def d47 (v : V) (k : Int → Bool → R) : R := kT v fun vs => unc vs fun c vs => kI .i64 c fun x0 => unc vs fun c vs => kB c fun x1 => unn vs (k x0 x1)
@[simp] theorem d47_mk (x0 : Int) (x1 : Bool) (k : Int → Bool → R) : d47 (.tup [V.int .i64 x0, V.bool x1]) k = k x0 x1 := rfl
def d30 (v : V) (k : Int → Int → List UInt8 → List UInt8 → Int → List V → Bool → R) : R := kA v fun cs => unc cs fun c cs => kI .i64 c fun x0 => unc cs fun c cs => kI .i64 c fun x1 => unc cs fun c cs => kS c fun x2 => unc cs fun c cs => kS c fun x3 => unc cs fun c cs => kI .i64 c fun x4 => unc cs fun c cs => kL c fun x5 => unc cs fun c cs => kB c fun x6 => unn cs <| (k x0 x1 x2 x3 x4 x5 x6)
@[simp] theorem d30_mk (x0 : Int) (x1 : Int) (x2 : List UInt8) (x3 : List UInt8) (x4 : Int) (x5 : List V) (x6 : Bool) (k : Int → Int → List UInt8 → List UInt8 → Int → List V → Bool → R) : d30 (.agg [V.int .i64 x0, V.int .i64 x1, V.str x2, V.str x3, V.int .i64 x4, V.sl x5, V.bool x6]) k = k x0 x1 x2 x3 x4 x5 x6 := rfl
def d28 (v : V) (k : Int → Int → List UInt8 → List UInt8 → Int → List V → Bool → R) : R := kA v fun cs => unc cs fun c cs => kI .i64 c fun x0 => unc cs fun c cs => kI .i64 c fun x1 => unc cs fun c cs => kS c fun x2 => unc cs fun c cs => kS c fun x3 => unc cs fun c cs => kI .i64 c fun x4 => unc cs fun c cs => kL c fun x5 => unc cs fun c cs => kB c fun x6 => unn cs <| (k x0 x1 x2 x3 x4 x5 x6)
@[simp] theorem d28_mk (x0 : Int) (x1 : Int) (x2 : List UInt8) (x3 : List UInt8) (x4 : Int) (x5 : List V) (x6 : Bool) (k : Int → Int → List UInt8 → List UInt8 → Int → List V → Bool → R) : d28 (.agg [V.int .i64 x0, V.int .i64 x1, V.str x2, V.str x3, V.int .i64 x4, V.sl x5, V.bool x6]) k = k x0 x1 x2 x3 x4 x5 x6 := rfl
def d54 (v : V) (k : List V → Bool → R) : R := kT v fun vs => unc vs fun c vs => kL c fun x0 => unc vs fun c vs => kB c fun x1 => unn vs (k x0 x1)
@[simp] theorem d54_mk (x0 : List V) (x1 : Bool) (k : List V → Bool → R) : d54 (.tup [V.sl x0, V.bool x1]) k = k x0 x1 := rfl
def d56 (v : V) (k : Int → Int → R) : R := kA v fun cs => unc cs fun c cs => kI .i64 c fun x0 => unc cs fun c cs => kI .i64 c fun x1 => unn cs <| (k x0 x1)
@[simp] theorem d56_mk (x0 : Int) (x1 : Int) (k : Int → Int → R) : d56 (.agg [V.int .i64 x0, V.int .i64 x1]) k = k x0 x1 := rfl
def d31 (v : V) (k : List V → Bool → R) : R := kT v fun vs => unc vs fun c vs => kL c fun x0 => unc vs fun c vs => kB c fun x1 => unn vs (k x0 x1)
@[simp] theorem d31_mk (x0 : List V) (x1 : Bool) (k : List V → Bool → R) : d31 (.tup [V.sl x0, V.bool x1]) k = k x0 x1 := rfl
/-! ### budwood/budwoodref05.Less -/
noncomputable def fa37 : FA := ⟨2, 37, [.tmp 4], [4],
 (.seq
 (.ops false [⟨(some 4), .assign (.const (.bool false)), 4, none⟩])
 (.seq
 (.seq
 (.ops false [⟨(some 5), .assign (.const (.int .i64 (0))), 3, none⟩])
 (.block 0
 (.loop ([2, 3] ++ List.range' 6 31)
 (.seq
 (.seq
 (.ops false [mv 6 5 3, mv 7 0 9, ⟨(some 8), .call ⟨(.builtin .len), #[(.tmp 7)], #[9]⟩, 3, none⟩, ⟨(some 9), .binOp .lss 3 (.tmp 6) (.tmp 8) 3, 4, none⟩, mv 10 9 4, ⟨(some 11), .move (.tmp 5), 3, (some (10, true))⟩, ⟨(some 12), .move (.tmp 1), 9, (some (10, true))⟩, ⟨(some 13), .call ⟨(.builtin .len), #[(.tmp 12)], #[9]⟩, 3, (some (10, true))⟩, ⟨(some 14), .binOp .lss 3 (.tmp 11) (.tmp 13) 3, 4, (some (10, true))⟩, ⟨(some 15), .pick (.tmp 10) (.tmp 14) (.const (.bool false)), 4, none⟩])
 (.cond (.tmp 15)
 (.skip)
 (.exit 0)))
 (.seq
 (.block 1
 (.seq
 (.ops true [mv 18 0 9, mv 19 5 3, ⟨(some 20), .index 9 (.tmp 18) (.tmp 19), 5, none⟩, mv 21 1 9, mv 22 5 3, ⟨(some 23), .index 9 (.tmp 21) (.tmp 22), 5, none⟩, ⟨(some 24), .binOp .neq 5 (.tmp 20) (.tmp 23) 5, 4, none⟩])
 (.cond (.tmp 24)
 (.seq
 (.ops true [mv 25 0 9, mv 26 5 3, ⟨(some 27), .index 9 (.tmp 25) (.tmp 26), 5, none⟩, mv 28 1 9, mv 29 5 3, ⟨(some 30), .index 9 (.tmp 28) (.tmp 29), 5, none⟩, ⟨(some 31), .binOp .lss 5 (.tmp 27) (.tmp 30) 5, 4, none⟩, asg 4 31 4])
 (.ret))
 (.skip))))
 (.ops false [mv 16 5 3, ⟨(some 17), .binOp .add 3 (.tmp 16) (.const (.int .i64 (1))) 3, 3, none⟩, asg 5 17 3]))))))
 (.seq
 (.ops false [mv 32 0 9, ⟨(some 33), .call ⟨(.builtin .len), #[(.tmp 32)], #[9]⟩, 3, none⟩, mv 34 1 9, ⟨(some 35), .call ⟨(.builtin .len), #[(.tmp 34)], #[9]⟩, 3, none⟩, ⟨(some 36), .binOp .lss 3 (.tmp 33) (.tmp 35) 3, 4, none⟩, asg 4 36 4])
 (.ret))))⟩
theorem fa37_eq : fnA hcfg.P 37 = some fa37 := by kernel_rfl
def T37_0 (x0 : List UInt8) (x1 : List UInt8) (x5 : Int) : S := ⟨[V.str x0, V.str x1, V.junk, V.junk, V.bool false, V.int .i64 x5] ++ (JU 31), []⟩
noncomputable def e37 (a0 : List UInt8) (a1 : List UInt8) : R :=
  some (.head 0 (T37_0 a0 a1 0))
theorem e37_eq (a0 : List UInt8) (a1 : List UInt8) : enterK hk false fa37 [V.str a0, V.str a1] [] = e37 a0 a1 := by kernel_rfl
theorem e37_run (a0 : List UInt8) (a1 : List UInt8) {o : Out} {v : V} (h : e37 a0 a1 = some o) (hg : Go hk false 0 fa37 o (.done v)) : pcW hcfg 37 [V.str a0, V.str a1] = some v := pcW_go hik rfl fa37_eq ((e37_eq a0 a1).trans h) hg
noncomputable def s37_0 (x0 : List UInt8) (x1 : List UInt8) (x5 : Int) : R :=
  cond (decide (x5 < (x0.length : Int)))
 (cond (decide (x5 < (x1.length : Int)))
 (gd (decide (0 ≤ x5)) <|
  idxK x0 x5.toNat fun c =>
  gd (decide (0 ≤ x5)) <|
  idxK x1 x5.toNat fun c_1 =>
  cond ((c.toNat : Int) != (c_1.toNat : Int))
 (gd (decide (0 ≤ x5)) <|
  idxK x0 x5.toNat fun c_2 =>
  gd (decide (0 ≤ x5)) <|
  idxK x1 x5.toNat fun c_3 =>
  some (.done (V.bool (decide ((c_2.toNat : Int) < (c_3.toNat : Int))))))
 (some (.head 0 (T37_0 x0 x1 (W .i64 (x5 + 1))))))
 (some (.done (V.bool (decide ((x0.length : Int) < (x1.length : Int)))))))
 (some (.done (V.bool (decide ((x0.length : Int) < (x1.length : Int))))))
theorem s37_0_eq (x0 : List UInt8) (x1 : List UInt8) (x5 : Int) : goK hk false 0 fa37 0 (T37_0 x0 x1 x5) = s37_0 x0 x1 x5 := by kernel_rfl
theorem s37_0_run (x0 : List UInt8) (x1 : List UInt8) (x5 : Int) {o o' : Out} (h : s37_0 x0 x1 x5 = some o) (hg : Go hk false 0 fa37 o o') : Go hk false 0 fa37 (.head 0 (T37_0 x0 x1 x5)) o' := .step ((s37_0_eq x0 x1 x5).trans h) hg
/-! ### budwood/budwoodlaw23.pairs -/
noncomputable def fa28 : FA := ⟨1, 47, [.tmp 2], [22],
 (.seq
 (.ops false [⟨(some 2), .assign (.const (.slice none 0 0)), 22, none⟩])
 (.seq
 (.ops false [⟨(some 5), .buildSlice 22 0 #[], 22, none⟩, asg 3 5 22])
 (.seq
 (.seq
 (.ops false [⟨(some 4), .assign (.const (.int .i64 (0))), 3, none⟩])
 (.block 0
 (.loop ([1] ++ List.range' 5 42)
 (.seq
 (.seq
 (.ops false [mv 6 4 3, mv 7 0 22, ⟨(some 8), .call ⟨(.builtin .len), #[(.tmp 7)], #[22]⟩, 3, none⟩, ⟨(some 9), .binOp .lss 3 (.tmp 6) (.tmp 8) 3, 4, none⟩, mv 10 9 4, ⟨(some 11), .move (.tmp 4), 3, (some (10, true))⟩, ⟨(some 12), .binOp .lss 3 (.tmp 11) (.const (.int .i64 (20))) 3, 4, (some (10, true))⟩, ⟨(some 13), .pick (.tmp 10) (.tmp 12) (.const (.bool false)), 4, none⟩])
 (.cond (.tmp 13)
 (.skip)
 (.exit 0)))
 (.seq
 (.block 1
 (.ops true [mv 16 3 22, mv 17 0 22, mv 18 4 3, ⟨(some 19), .indexAddr 22 (.tmp 17) (.tmp 18), 0, none⟩, ⟨(some 20), .fieldAddr 46 (.tmp 19) 0, 0, none⟩, ⟨(some 21), .load 9 (.tmp 20), 9, none⟩, mv 22 0 22, mv 23 4 3, ⟨(some 24), .indexAddr 22 (.tmp 22) (.tmp 23), 0, none⟩, ⟨(some 25), .fieldAddr 46 (.tmp 24) 0, 0, none⟩, ⟨(some 26), .load 9 (.tmp 25), 9, none⟩, ⟨(some 27), .call ⟨(.builtin .len), #[(.tmp 26)], #[9]⟩, 3, none⟩, ⟨(some 28), .call ⟨(.builtin .min), #[(.tmp 27), (.const (.int .i64 (20)))], #[3, 3]⟩, 3, none⟩, ⟨(some 29), .slice 9 (.tmp 21) none (some (.tmp 28)) none, 9, none⟩, mv 30 0 22, mv 31 4 3, ⟨(some 32), .indexAddr 22 (.tmp 30) (.tmp 31), 0, none⟩, ⟨(some 33), .fieldAddr 46 (.tmp 32) 1, 0, none⟩, ⟨(some 34), .load 9 (.tmp 33), 9, none⟩, mv 35 0 22, mv 36 4 3, ⟨(some 37), .indexAddr 22 (.tmp 35) (.tmp 36), 0, none⟩, ⟨(some 38), .fieldAddr 46 (.tmp 37) 1, 0, none⟩, ⟨(some 39), .load 9 (.tmp 38), 9, none⟩, ⟨(some 40), .call ⟨(.builtin .len), #[(.tmp 39)], #[9]⟩, 3, none⟩, ⟨(some 41), .call ⟨(.builtin .min), #[(.tmp 40), (.const (.int .i64 (20)))], #[3, 3]⟩, 3, none⟩, ⟨(some 42), .slice 9 (.tmp 34) none (some (.tmp 41)) none, 9, none⟩, ⟨(some 43), .build 46 #[(0, (.tmp 29)), (1, (.tmp 42))], 46, none⟩, ⟨(some 44), .buildSlice 22 1 #[(0, (.tmp 43))], 22, none⟩, ⟨(some 45), .call ⟨(.builtin .append), #[(.tmp 16), (.tmp 44)], #[22, 22]⟩, 22, none⟩, asg 3 45 22]))
 (.ops false [mv 14 4 3, ⟨(some 15), .binOp .add 3 (.tmp 14) (.const (.int .i64 (1))) 3, 3, none⟩, asg 4 15 3]))))))
 (.seq
 (.ops false [mv 46 3 22, asg 2 46 22])
 (.ret)))))⟩
theorem fa28_eq : fnA hcfg.P 28 = some fa28 := by kernel_rfl
def T28_0 (x0 : List V) (x4 : Int) (m1 : List V) : S := ⟨[V.sl x0, V.junk, V.own 0, V.own 1, V.int .i64 x4] ++ (JU 42), [O.row 46 [] 0, O.row 46 m1 0]⟩
noncomputable def e28 (a0 : List V) : R :=
  some (.head 0 (T28_0 a0 0 []))
theorem e28_eq (a0 : List V) : enterK hk false fa28 [V.sl a0] [] = e28 a0 := by kernel_rfl
theorem e28_run (a0 : List V) {o : Out} {v : V} (h : e28 a0 = some o) (hg : Go hk false 0 fa28 o (.done v)) : pcW hcfg 28 [V.sl a0] = some v := pcW_go hik rfl fa28_eq ((e28_eq a0).trans h) hg
noncomputable def s28_0 (x0 : List V) (x4 : Int) (m1 : List V) : R :=
  cond (decide (x4 < (x0.length : Int)))
 (cond (decide (x4 < 20))
 (gd (decide (0 ≤ x4)) <|
  idxK x0 x4.toNat fun v =>
  d46 v fun key value =>
  gd (decide (0 ≤ x4)) <|
  idxK x0 x4.toNat fun v_1 =>
  d46 v_1 fun key_1 value_1 =>
  gd (decide (0 ≤ (if 20 < (key_1.length : Int) then 20 else (key_1.length : Int)))) <|
  gd (decide ((if 20 < (key_1.length : Int) then 20 else (key_1.length : Int)).toNat ≤ key.length)) <|
  gd (decide (0 ≤ x4)) <|
  idxK x0 x4.toNat fun v_2 =>
  d46 v_2 fun key_2 value_2 =>
  gd (decide (0 ≤ x4)) <|
  idxK x0 x4.toNat fun v_3 =>
  d46 v_3 fun key_3 value_3 =>
  gd (decide (0 ≤ (if 20 < (value_3.length : Int) then 20 else (value_3.length : Int)))) <|
  gd (decide ((if 20 < (value_3.length : Int) then 20 else (value_3.length : Int)).toNat ≤ value_2.length)) <|
  gd (decide (m1.length + ([V.agg [V.str (key.take ((if 20 < (key_1.length : Int) then 20 else (key_1.length : Int)).toNat)), V.str (value_2.take ((if 20 < (value_3.length : Int) then 20 else (value_3.length : Int)).toNat))]] : List V).length ≤ 16777216)) <|
  some (.head 0 (T28_0 x0 (W .i64 (x4 + 1)) (m1 ++ [V.agg [V.str (key.take ((if 20 < (key_1.length : Int) then 20 else (key_1.length : Int)).toNat)), V.str (value_2.take ((if 20 < (value_3.length : Int) then 20 else (value_3.length : Int)).toNat))]]))))
 (gd ((m1 : List V).all fun x => x.cells.all V.flat1) <|
  some (.done (V.fr 46 m1))))
 (gd ((m1 : List V).all fun x => x.cells.all V.flat1) <|
  some (.done (V.fr 46 m1)))
theorem s28_0_eq (x0 : List V) (x4 : Int) (m1 : List V) : goK hk false 0 fa28 0 (T28_0 x0 x4 m1) = s28_0 x0 x4 m1 := by kernel_rfl
theorem s28_0_run (x0 : List V) (x4 : Int) (m1 : List V) {o o' : Out} (h : s28_0 x0 x4 m1 = some o) (hg : Go hk false 0 fa28 o o') : Go hk false 0 fa28 (.head 0 (T28_0 x0 x4 m1)) o' := .step ((s28_0_eq x0 x4 m1).trans h) hg
/-! ### budwood/hist.Find -/
noncomputable def fa22 : FA := ⟨2, 11, [.tmp 4, .tmp 5], [3, 4],
 (.seq
 (.ops false [⟨(some 4), .assign (.const (.int .i64 (0))), 3, none⟩, ⟨(some 5), .assign (.const (.bool false)), 4, none⟩])
 (.seq
 (.ops false [mv 6 0 22, mv 7 1 9, ⟨(some 8), .call ⟨(.value (.func 34)), #[(.tmp 6), (.tmp 7), (.func 35)], #[22, 9, 60]⟩, 47, none⟩, ⟨(some 9), .extract (.tmp 8) 0, 3, none⟩, ⟨(some 10), .extract (.tmp 8) 1, 4, none⟩, asg 4 9 3, asg 5 10 4])
 (.ret)))⟩
theorem fa22_eq : fnA hcfg.P 22 = some fa22 := by kernel_rfl
noncomputable def e22 (a0 : List V) (a1 : List UInt8) : R :=
  pcK hcfg 34 [V.sl a0, V.str a1, V.fn 35 []] fun r =>
  d47 r fun r34_0 r34_1 =>
  some (.done (V.tup [V.int .i64 r34_0, V.bool r34_1]))
theorem e22_eq (a0 : List V) (a1 : List UInt8) : enterK hk false fa22 [V.sl a0, V.str a1] [] = e22 a0 a1 := by kernel_rfl
theorem e22_run (a0 : List V) (a1 : List UInt8) {o : Out} {v : V} (h : e22 a0 a1 = some o) (hg : Go hk false 0 fa22 o (.done v)) : pcW hcfg 22 [V.sl a0, V.str a1] = some v := pcW_go hik rfl fa22_eq ((e22_eq a0 a1).trans h) hg
theorem e22_done (a0 : List V) (a1 : List UInt8) {v : V} (h : e22 a0 a1 = some (.done v)) : pcW hcfg 22 [V.sl a0, V.str a1] = some v := e22_run a0 a1 h (.refl _)
/-! ### budwood/budwoodlaw13.without -/
noncomputable def fa40 : FA := ⟨2, 29, [.tmp 4], [22],
 (.seq
 (.ops false [⟨(some 4), .assign (.const (.slice none 0 0)), 22, none⟩])
 (.seq
 (.ops false [⟨(some 7), .buildSlice 22 0 #[], 22, none⟩, asg 5 7 22])
 (.seq
 (.seq
 (.ops false [⟨(some 6), .assign (.const (.int .i64 (0))), 3, none⟩])
 (.block 0
 (.loop ([2, 3] ++ List.range' 7 22)
 (.seq
 (.seq
 (.ops false [mv 8 6 3, mv 9 0 22, ⟨(some 10), .call ⟨(.builtin .len), #[(.tmp 9)], #[22]⟩, 3, none⟩, ⟨(some 11), .binOp .lss 3 (.tmp 8) (.tmp 10) 3, 4, none⟩])
 (.cond (.tmp 11)
 (.skip)
 (.exit 0)))
 (.seq
 (.block 1
 (.seq
 (.ops false [mv 14 0 22, mv 15 6 3, ⟨(some 16), .indexAddr 22 (.tmp 14) (.tmp 15), 0, none⟩, ⟨(some 17), .fieldAddr 46 (.tmp 16) 0, 0, none⟩, ⟨(some 18), .load 9 (.tmp 17), 9, none⟩, mv 19 1 9, ⟨(some 20), .binOp .neq 9 (.tmp 18) (.tmp 19) 9, 4, none⟩])
 (.cond (.tmp 20)
 (.ops false [mv 21 5 22, mv 22 0 22, mv 23 6 3, ⟨(some 24), .indexAddr 22 (.tmp 22) (.tmp 23), 0, none⟩, ⟨(some 25), .load 46 (.tmp 24), 46, none⟩, ⟨(some 26), .buildSlice 22 1 #[(0, (.tmp 25))], 22, none⟩, ⟨(some 27), .call ⟨(.builtin .append), #[(.tmp 21), (.tmp 26)], #[22, 22]⟩, 22, none⟩, asg 5 27 22])
 (.skip))))
 (.ops false [mv 12 6 3, ⟨(some 13), .binOp .add 3 (.tmp 12) (.const (.int .i64 (1))) 3, 3, none⟩, asg 6 13 3]))))))
 (.seq
 (.ops false [mv 28 5 22, asg 4 28 22])
 (.ret)))))⟩
theorem fa40_eq : fnA hcfg.P 40 = some fa40 := by kernel_rfl
def T40_0 (x0 : List V) (x1 : List UInt8) (x6 : Int) (m1 : List V) : S := ⟨[V.sl x0, V.str x1, V.junk, V.junk, V.own 0, V.own 1, V.int .i64 x6] ++ (JU 22), [O.row 46 [] 0, O.row 46 m1 0]⟩
noncomputable def e40 (a0 : List V) (a1 : List UInt8) : R :=
  some (.head 0 (T40_0 a0 a1 0 []))
theorem e40_eq (a0 : List V) (a1 : List UInt8) : enterK hk false fa40 [V.sl a0, V.str a1] [] = e40 a0 a1 := by kernel_rfl
theorem e40_run (a0 : List V) (a1 : List UInt8) {o : Out} {v : V} (h : e40 a0 a1 = some o) (hg : Go hk false 0 fa40 o (.done v)) : pcW hcfg 40 [V.sl a0, V.str a1] = some v := pcW_go hik rfl fa40_eq ((e40_eq a0 a1).trans h) hg
noncomputable def s40_0 (x0 : List V) (x1 : List UInt8) (x6 : Int) (m1 : List V) : R :=
  cond (decide (x6 < (x0.length : Int)))
 (gd (decide (0 ≤ x6)) <|
  idxK x0 x6.toNat fun v =>
  d46 v fun key value =>
  cond (!(key == x1))
 (gd (decide (0 ≤ x6)) <|
  idxK x0 x6.toNat fun v_1 =>
  d46 v_1 fun key_1 value_1 =>
  gd (decide (m1.length + ([V.agg [V.str key_1, V.str value_1]] : List V).length ≤ 16777216)) <|
  some (.head 0 (T40_0 x0 x1 (W .i64 (x6 + 1)) (m1 ++ [V.agg [V.str key_1, V.str value_1]]))))
 (some (.head 0 (T40_0 x0 x1 (W .i64 (x6 + 1)) m1))))
 (gd ((m1 : List V).all fun x => x.cells.all V.flat1) <|
  some (.done (V.fr 46 m1)))
theorem s40_0_eq (x0 : List V) (x1 : List UInt8) (x6 : Int) (m1 : List V) : goK hk false 0 fa40 0 (T40_0 x0 x1 x6 m1) = s40_0 x0 x1 x6 m1 := by kernel_rfl
theorem s40_0_run (x0 : List V) (x1 : List UInt8) (x6 : Int) (m1 : List V) {o o' : Out} (h : s40_0 x0 x1 x6 m1 = some o) (hg : Go hk false 0 fa40 o o') : Go hk false 0 fa40 (.head 0 (T40_0 x0 x1 x6 m1)) o' := .step ((s40_0_eq x0 x1 x6 m1).trans h) hg
/-! ### budwood/budwoodlaw13.With -/
noncomputable def fa29 : FA := ⟨2, 46, [.tmp 4], [22],
 (.seq
 (.ops false [⟨(some 3), .box 46 (.tmp 1), 0, none⟩, ⟨(some 4), .assign (.const (.slice none 0 0)), 22, none⟩])
 (.seq
 (.ops false [mv 8 0 22, ⟨(some 9), .fieldAddr 46 (.tmp 3) 0, 0, none⟩, ⟨(some 10), .load 9 (.tmp 9), 9, none⟩, ⟨(some 11), .call ⟨(.value (.func 40)), #[(.tmp 8), (.tmp 10)], #[22, 9]⟩, 22, none⟩, ⟨(some 12), .buildSlice 22 0 #[], 22, none⟩, asg 5 11 22, asg 6 12 22, ⟨(some 7), .assign (.const (.int .i64 (0))), 3, none⟩])
 (.seq
 (.block 0
 (.loop ([0, 1, 2] ++ List.range' 8 38)
 (.seq
 (.seq
 (.ops true [mv 13 7 3, mv 14 5 22, ⟨(some 15), .call ⟨(.builtin .len), #[(.tmp 14)], #[22]⟩, 3, none⟩, ⟨(some 16), .binOp .lss 3 (.tmp 13) (.tmp 15) 3, 4, none⟩, mv 17 16 4, ⟨(some 18), .move (.tmp 5), 22, (some (17, true))⟩, ⟨(some 19), .move (.tmp 7), 3, (some (17, true))⟩, ⟨(some 20), .indexAddr 22 (.tmp 18) (.tmp 19), 0, (some (17, true))⟩, ⟨(some 21), .fieldAddr 46 (.tmp 20) 0, 0, (some (17, true))⟩, ⟨(some 22), .load 9 (.tmp 21), 9, (some (17, true))⟩, ⟨(some 23), .fieldAddr 46 (.tmp 3) 0, 0, (some (17, true))⟩, ⟨(some 24), .load 9 (.tmp 23), 9, (some (17, true))⟩, ⟨(some 25), .call ⟨(.value (.func 37)), #[(.tmp 22), (.tmp 24)], #[9, 9]⟩, 4, (some (17, true))⟩, ⟨(some 26), .pick (.tmp 17) (.tmp 25) (.const (.bool false)), 4, none⟩])
 (.cond (.tmp 26)
 (.skip)
 (.exit 0)))
 (.block 1
 (.seq
 (.ops false [mv 27 6 22, mv 28 5 22, mv 29 7 3, ⟨(some 30), .indexAddr 22 (.tmp 28) (.tmp 29), 0, none⟩, ⟨(some 31), .load 46 (.tmp 30), 46, none⟩, ⟨(some 32), .buildSlice 22 1 #[(0, (.tmp 31))], 22, none⟩, ⟨(some 33), .call ⟨(.builtin .append), #[(.tmp 27), (.tmp 32)], #[22, 22]⟩, 22, none⟩, asg 6 33 22])
 (.ops false [mv 34 7 3, ⟨(some 35), .binOp .add 3 (.tmp 34) (.const (.int .i64 (1))) 3, 3, none⟩, asg 7 35 3]))))))
 (.seq
 (.ops false [mv 36 6 22, ⟨(some 37), .load 46 (.tmp 3), 46, none⟩, ⟨(some 38), .buildSlice 22 1 #[(0, (.tmp 37))], 22, none⟩, ⟨(some 39), .call ⟨(.builtin .append), #[(.tmp 36), (.tmp 38)], #[22, 22]⟩, 22, none⟩, asg 6 39 22])
 (.seq
 (.ops false [mv 40 6 22, mv 41 5 22, mv 42 7 3, ⟨(some 43), .slice 22 (.tmp 41) (some (.tmp 42)) none none, 22, none⟩, ⟨(some 44), .call ⟨(.builtin .append), #[(.tmp 40), (.tmp 43)], #[22, 22]⟩, 22, none⟩, asg 6 44 22])
 (.seq
 (.ops false [mv 45 6 22, asg 4 45 22])
 (.ret)))))))⟩
theorem fa29_eq : fnA hcfg.P 29 = some fa29 := by kernel_rfl
def T29_0 (x5 : List V) (x7 : Int) (m0_0 : List UInt8) (m0_1 : List UInt8) (m2 : List V) : S := ⟨[V.junk, V.junk, V.junk, V.ptr 0 0 0, V.own 1, V.sl x5, V.own 2, V.int .i64 x7] ++ (JU 38), [O.box 46 (V.agg [V.str m0_0, V.str m0_1]) false, O.row 46 [] 0, O.row 46 m2 0]⟩
noncomputable def e29 (a0 : List V) (a1Key : List UInt8) (a1Value : List UInt8) : R :=
  pcK hcfg 40 [V.sl a0, V.str a1Key] fun r =>
  kF 46 r fun r40 =>
  some (.head 0 (T29_0 r40 0 a1Key a1Value []))
theorem e29_eq (a0 : List V) (a1Key : List UInt8) (a1Value : List UInt8) : enterK hk false fa29 [V.sl a0, V.agg [V.str a1Key, V.str a1Value]] [] = e29 a0 a1Key a1Value := by kernel_rfl
theorem e29_run (a0 : List V) (a1Key : List UInt8) (a1Value : List UInt8) {o : Out} {v : V} (h : e29 a0 a1Key a1Value = some o) (hg : Go hk false 0 fa29 o (.done v)) : pcW hcfg 29 [V.sl a0, V.agg [V.str a1Key, V.str a1Value]] = some v := pcW_go hik rfl fa29_eq ((e29_eq a0 a1Key a1Value).trans h) hg
noncomputable def s29_0 (x5 : List V) (x7 : Int) (m0_0 : List UInt8) (m0_1 : List UInt8) (m2 : List V) : R :=
  cond (decide (x7 < (x5.length : Int)))
 (gd (decide (0 ≤ x7)) <|
  idxK x5 x7.toNat fun v =>
  d46 v fun key value =>
  pcK hcfg 37 [V.str key, V.str m0_0] fun r =>
  kB r fun r37 =>
  cond r37
 (gd (decide (0 ≤ x7)) <|
  idxK x5 x7.toNat fun v_1 =>
  d46 v_1 fun key_1 value_1 =>
  gd (decide (m2.length + ([V.agg [V.str key_1, V.str value_1]] : List V).length ≤ 16777216)) <|
  some (.head 0 (T29_0 x5 (W .i64 (x7 + 1)) m0_0 m0_1 (m2 ++ [V.agg [V.str key_1, V.str value_1]]))))
 (gd (decide (m2.length + ([V.agg [V.str m0_0, V.str m0_1]] : List V).length ≤ 16777216)) <|
  gd (wfl 2 x5) <|
  gd (decide (0 ≤ x7)) <|
  gd (decide (x7.toNat ≤ x5.length)) <|
  gd (wfl 2 ((x5.take x5.length).drop x7.toNat)) <|
  gd (decide ((m2 ++ [V.agg [V.str m0_0, V.str m0_1]]).length + ((x5.take x5.length).drop x7.toNat).length ≤ 16777216)) <|
  gd (((m2 ++ [V.agg [V.str m0_0, V.str m0_1]]) ++ ((x5.take x5.length).drop x7.toNat) : List V).all fun x => x.cells.all V.flat1) <|
  some (.done (V.fr 46 ((m2 ++ [V.agg [V.str m0_0, V.str m0_1]]) ++ ((x5.take x5.length).drop x7.toNat))))))
 (gd (decide (m2.length + ([V.agg [V.str m0_0, V.str m0_1]] : List V).length ≤ 16777216)) <|
  gd (wfl 2 x5) <|
  gd (decide (0 ≤ x7)) <|
  gd (decide (x7.toNat ≤ x5.length)) <|
  gd (wfl 2 ((x5.take x5.length).drop x7.toNat)) <|
  gd (decide ((m2 ++ [V.agg [V.str m0_0, V.str m0_1]]).length + ((x5.take x5.length).drop x7.toNat).length ≤ 16777216)) <|
  gd (((m2 ++ [V.agg [V.str m0_0, V.str m0_1]]) ++ ((x5.take x5.length).drop x7.toNat) : List V).all fun x => x.cells.all V.flat1) <|
  some (.done (V.fr 46 ((m2 ++ [V.agg [V.str m0_0, V.str m0_1]]) ++ ((x5.take x5.length).drop x7.toNat)))))
theorem s29_0_eq (x5 : List V) (x7 : Int) (m0_0 : List UInt8) (m0_1 : List UInt8) (m2 : List V) : goK hk false 0 fa29 0 (T29_0 x5 x7 m0_0 m0_1 m2) = s29_0 x5 x7 m0_0 m0_1 m2 := by kernel_rfl
theorem s29_0_run (x5 : List V) (x7 : Int) (m0_0 : List UInt8) (m0_1 : List UInt8) (m2 : List V) {o o' : Out} (h : s29_0 x5 x7 m0_0 m0_1 m2 = some o) (hg : Go hk false 0 fa29 o o') : Go hk false 0 fa29 (.head 0 (T29_0 x5 x7 m0_0 m0_1 m2)) o' := .step ((s29_0_eq x5 x7 m0_0 m0_1 m2).trans h) hg
/-! ### budwood/budwoodlaw23.Map -/
noncomputable def fa9 : FA := ⟨1, 22, [.tmp 2], [22],
 (.seq
 (.ops false [⟨(some 2), .assign (.const (.slice none 0 0)), 22, none⟩])
 (.seq
 (.ops false [⟨(some 6), .buildSlice 22 0 #[], 22, none⟩, asg 3 6 22])
 (.seq
 (.ops false [mv 7 0 22, ⟨(some 8), .call ⟨(.value (.func 28)), #[(.tmp 7)], #[22]⟩, 22, none⟩, asg 4 8 22])
 (.seq
 (.seq
 (.ops false [⟨(some 5), .assign (.const (.int .i64 (0))), 3, none⟩])
 (.block 0
 (.loop ([0, 1] ++ List.range' 6 16)
 (.seq
 (.seq
 (.ops false [mv 9 5 3, mv 10 4 22, ⟨(some 11), .call ⟨(.builtin .len), #[(.tmp 10)], #[22]⟩, 3, none⟩, ⟨(some 12), .binOp .lss 3 (.tmp 9) (.tmp 11) 3, 4, none⟩])
 (.cond (.tmp 12)
 (.skip)
 (.exit 0)))
 (.seq
 (.block 1
 (.ops false [mv 15 3 22, mv 16 4 22, mv 17 5 3, ⟨(some 18), .indexAddr 22 (.tmp 16) (.tmp 17), 0, none⟩, ⟨(some 19), .load 46 (.tmp 18), 46, none⟩, ⟨(some 20), .call ⟨(.value (.func 29)), #[(.tmp 15), (.tmp 19)], #[22, 46]⟩, 22, none⟩, asg 3 20 22]))
 (.ops false [mv 13 5 3, ⟨(some 14), .binOp .add 3 (.tmp 13) (.const (.int .i64 (1))) 3, 3, none⟩, asg 5 14 3]))))))
 (.seq
 (.ops false [mv 21 3 22, asg 2 21 22])
 (.ret))))))⟩
theorem fa9_eq : fnA hcfg.P 9 = some fa9 := by kernel_rfl
def T9_0 (x4 : List V) (x5 : Int) (m1 : List V) : S := ⟨[V.junk, V.junk, V.own 0, V.own 1, V.sl x4, V.int .i64 x5] ++ (JU 16), [O.row 46 [] 0, O.row 46 m1 0]⟩
noncomputable def e9 (a0 : List V) : R :=
  pcK hcfg 28 [V.sl a0] fun r =>
  kF 46 r fun r28 =>
  some (.head 0 (T9_0 r28 0 []))
theorem e9_eq (a0 : List V) : enterK hk false fa9 [V.sl a0] [] = e9 a0 := by kernel_rfl
theorem e9_run (a0 : List V) {o : Out} {v : V} (h : e9 a0 = some o) (hg : Go hk false 0 fa9 o (.done v)) : pcW hcfg 9 [V.sl a0] = some v := pcW_go hik rfl fa9_eq ((e9_eq a0).trans h) hg
noncomputable def s9_0 (x4 : List V) (x5 : Int) (m1 : List V) : R :=
  cond (decide (x5 < (x4.length : Int)))
 (gd (decide (0 ≤ x5)) <|
  idxK x4 x5.toNat fun v =>
  d46 v fun key value =>
  pcK hcfg 29 [V.sl m1, V.agg [V.str key, V.str value]] fun r =>
  kF 46 r fun r29 =>
  some (.head 0 (T9_0 x4 (W .i64 (x5 + 1)) r29)))
 (gd ((m1 : List V).all fun x => x.cells.all V.flat1) <|
  some (.done (V.fr 46 m1)))
theorem s9_0_eq (x4 : List V) (x5 : Int) (m1 : List V) : goK hk false 0 fa9 0 (T9_0 x4 x5 m1) = s9_0 x4 x5 m1 := by kernel_rfl
theorem s9_0_run (x4 : List V) (x5 : Int) (m1 : List V) {o o' : Out} (h : s9_0 x4 x5 m1 = some o) (hg : Go hk false 0 fa9 o o') : Go hk false 0 fa9 (.head 0 (T9_0 x4 x5 m1)) o' := .step ((s9_0_eq x4 x5 m1).trans h) hg
/-! ### budwood/budwoodlaw23.Cut -/
noncomputable def fa8 : FA := ⟨1, 46, [.tmp 2], [23],
 (.seq
 (.ops false [⟨(some 2), .assign (.const (.slice none 0 0)), 23, none⟩])
 (.seq
 (.ops false [⟨(some 6), .buildSlice 23 0 #[], 23, none⟩, asg 3 6 23])
 (.seq
 (.seq
 (.ops false [⟨(some 4), .assign (.const (.int .i64 (0))), 3, none⟩])
 (.block 0
 (.loop ([1] ++ List.range' 5 41)
 (.seq
 (.seq
 (.ops false [mv 7 4 3, mv 8 0 23, ⟨(some 9), .call ⟨(.builtin .len), #[(.tmp 8)], #[23]⟩, 3, none⟩, ⟨(some 10), .binOp .lss 3 (.tmp 7) (.tmp 9) 3, 4, none⟩, mv 11 10 4, ⟨(some 12), .move (.tmp 4), 3, (some (11, true))⟩, ⟨(some 13), .binOp .lss 3 (.tmp 12) (.const (.int .i64 (60))) 3, 4, (some (11, true))⟩, ⟨(some 14), .pick (.tmp 11) (.tmp 13) (.const (.bool false)), 4, none⟩])
 (.cond (.tmp 14)
 (.skip)
 (.exit 0)))
 (.seq
 (.block 1
 (.seq
 (.ops false [mv 17 0 23, mv 18 4 3, ⟨(some 19), .indexAddr 23 (.tmp 17) (.tmp 18), 0, none⟩, ⟨(some 20), .load 30 (.tmp 19), 30, none⟩, ⟨(some 5), .alloc 30, 0, none⟩, ⟨none, .store 30 (.tmp 5) (.tmp 20), 0, none⟩])
 (.seq
 (.ops false [⟨(some 21), .fieldAddr 30 (.tmp 5) 2, 0, none⟩, ⟨(some 22), .load 9 (.tmp 21), 9, none⟩, ⟨(some 23), .fieldAddr 30 (.tmp 5) 2, 0, none⟩, ⟨(some 24), .load 9 (.tmp 23), 9, none⟩, ⟨(some 25), .call ⟨(.builtin .len), #[(.tmp 24)], #[9]⟩, 3, none⟩, ⟨(some 26), .call ⟨(.builtin .min), #[(.tmp 25), (.const (.int .i64 (20)))], #[3, 3]⟩, 3, none⟩, ⟨(some 27), .slice 9 (.tmp 22) none (some (.tmp 26)) none, 9, none⟩, ⟨(some 28), .fieldAddr 30 (.tmp 5) 2, 0, none⟩, ⟨none, .store 9 (.tmp 28) (.tmp 27), 0, none⟩])
 (.seq
 (.ops false [⟨(some 29), .fieldAddr 30 (.tmp 5) 3, 0, none⟩, ⟨(some 30), .load 9 (.tmp 29), 9, none⟩, ⟨(some 31), .fieldAddr 30 (.tmp 5) 3, 0, none⟩, ⟨(some 32), .load 9 (.tmp 31), 9, none⟩, ⟨(some 33), .call ⟨(.builtin .len), #[(.tmp 32)], #[9]⟩, 3, none⟩, ⟨(some 34), .call ⟨(.builtin .min), #[(.tmp 33), (.const (.int .i64 (20)))], #[3, 3]⟩, 3, none⟩, ⟨(some 35), .slice 9 (.tmp 30) none (some (.tmp 34)) none, 9, none⟩, ⟨(some 36), .fieldAddr 30 (.tmp 5) 3, 0, none⟩, ⟨none, .store 9 (.tmp 36) (.tmp 35), 0, none⟩])
 (.seq
 (.ops false [⟨(some 37), .fieldAddr 30 (.tmp 5) 5, 0, none⟩, ⟨(some 38), .load 22 (.tmp 37), 22, none⟩, ⟨(some 39), .call ⟨(.value (.func 28)), #[(.tmp 38)], #[22]⟩, 22, none⟩, ⟨(some 40), .fieldAddr 30 (.tmp 5) 5, 0, none⟩, ⟨none, .store 22 (.tmp 40) (.tmp 39), 0, none⟩])
 (.ops false [mv 41 3 23, ⟨(some 42), .load 30 (.tmp 5), 30, none⟩, ⟨(some 43), .buildSlice 23 1 #[(0, (.tmp 42))], 23, none⟩, ⟨(some 44), .call ⟨(.builtin .append), #[(.tmp 41), (.tmp 43)], #[23, 23]⟩, 23, none⟩, asg 3 44 23]))))))
 (.ops false [mv 15 4 3, ⟨(some 16), .binOp .add 3 (.tmp 15) (.const (.int .i64 (1))) 3, 3, none⟩, asg 4 16 3]))))))
 (.seq
 (.ops false [mv 45 3 23, asg 2 45 23])
 (.ret)))))⟩
theorem fa8_eq : fnA hcfg.P 8 = some fa8 := by kernel_rfl
def T8_0 (x0 : List V) (x4 : Int) (m1 : List V) : S := ⟨[V.sl x0, V.junk, V.own 0, V.own 1, V.int .i64 x4] ++ (JU 41), [O.row 30 [] 0, O.row 30 m1 0]⟩
noncomputable def e8 (a0 : List V) : R :=
  some (.head 0 (T8_0 a0 0 []))
theorem e8_eq (a0 : List V) : enterK hk false fa8 [V.sl a0] [] = e8 a0 := by kernel_rfl
theorem e8_run (a0 : List V) {o : Out} {v : V} (h : e8 a0 = some o) (hg : Go hk false 0 fa8 o (.done v)) : pcW hcfg 8 [V.sl a0] = some v := pcW_go hik rfl fa8_eq ((e8_eq a0).trans h) hg
noncomputable def s8_0 (x0 : List V) (x4 : Int) (m1 : List V) : R :=
  cond (decide (x4 < (x0.length : Int)))
 (cond (decide (x4 < 60))
 (gd (decide (0 ≤ x4)) <|
  idxK x0 x4.toNat fun v =>
  d30 v fun txn kind0 key value n pairs is0 =>
  gd (decide (0 ≤ (if 20 < (key.length : Int) then 20 else (key.length : Int)))) <|
  gd (decide ((if 20 < (key.length : Int) then 20 else (key.length : Int)).toNat ≤ key.length)) <|
  gd (decide (0 ≤ (if 20 < (value.length : Int) then 20 else (value.length : Int)))) <|
  gd (decide ((if 20 < (value.length : Int) then 20 else (value.length : Int)).toNat ≤ value.length)) <|
  pcK hcfg 28 [V.sl pairs] fun r =>
  kF 46 r fun r28 =>
  gd (decide (m1.length + ([V.agg [V.int .i64 txn, V.int .i64 kind0, V.str (key.take ((if 20 < (key.length : Int) then 20 else (key.length : Int)).toNat)), V.str (value.take ((if 20 < (value.length : Int) then 20 else (value.length : Int)).toNat)), V.int .i64 n, V.sl r28, V.bool is0]] : List V).length ≤ 16777216)) <|
  some (.head 0 (T8_0 x0 (W .i64 (x4 + 1)) (m1 ++ [V.agg [V.int .i64 txn, V.int .i64 kind0, V.str (key.take ((if 20 < (key.length : Int) then 20 else (key.length : Int)).toNat)), V.str (value.take ((if 20 < (value.length : Int) then 20 else (value.length : Int)).toNat)), V.int .i64 n, V.sl r28, V.bool is0]]))))
 (some (.done (V.sl m1))))
 (some (.done (V.sl m1)))
theorem s8_0_eq (x0 : List V) (x4 : Int) (m1 : List V) : goK hk false 0 fa8 0 (T8_0 x0 x4 m1) = s8_0 x0 x4 m1 := by kernel_rfl
theorem s8_0_run (x0 : List V) (x4 : Int) (m1 : List V) {o o' : Out} (h : s8_0 x0 x4 m1 = some o) (hg : Go hk false 0 fa8 o o') : Go hk false 0 fa8 (.head 0 (T8_0 x0 x4 m1)) o' := .step ((s8_0_eq x0 x4 m1).trans h) hg
/-! ### budwood/budwoodlaw23.Ref -/
noncomputable def fa10 : FA := ⟨1, 18, [.cell 2 28], [28],
 (.seq
 (.ops false [⟨(some 1), .box 30 (.tmp 0), 0, none⟩, ⟨(some 2), .alloc 28, 0, none⟩])
 (.seq
 (.ops false [⟨(some 3), .fieldAddr 30 (.tmp 1) 0, 0, none⟩, ⟨(some 4), .load 3 (.tmp 3), 3, none⟩, ⟨(some 5), .fieldAddr 30 (.tmp 1) 1, 0, none⟩, ⟨(some 6), .load 3 (.tmp 5), 3, none⟩, ⟨(some 7), .fieldAddr 30 (.tmp 1) 2, 0, none⟩, ⟨(some 8), .load 9 (.tmp 7), 9, none⟩, ⟨(some 9), .fieldAddr 30 (.tmp 1) 3, 0, none⟩, ⟨(some 10), .load 9 (.tmp 9), 9, none⟩, ⟨(some 11), .fieldAddr 30 (.tmp 1) 4, 0, none⟩, ⟨(some 12), .load 3 (.tmp 11), 3, none⟩, ⟨(some 13), .fieldAddr 30 (.tmp 1) 5, 0, none⟩, ⟨(some 14), .load 22 (.tmp 13), 22, none⟩, ⟨(some 15), .fieldAddr 30 (.tmp 1) 6, 0, none⟩, ⟨(some 16), .load 4 (.tmp 15), 4, none⟩, ⟨(some 17), .build 28 #[(0, (.tmp 4)), (1, (.tmp 6)), (2, (.tmp 8)), (3, (.tmp 10)), (4, (.tmp 12)), (5, (.tmp 14)), (6, (.tmp 16))], 28, none⟩, ⟨none, .store 28 (.tmp 2) (.tmp 17), 0, none⟩])
 (.ret)))⟩
theorem fa10_eq : fnA hcfg.P 10 = some fa10 := by kernel_rfl
noncomputable def e10 (a0Txn : Int) (a0Kind : Int) (a0Key : List UInt8) (a0Value : List UInt8) (a0N : Int) (a0Pairs : List V) (a0Is : Bool) : R :=
  some (.done (V.agg [V.int .i64 a0Txn, V.int .i64 a0Kind, V.str a0Key, V.str a0Value, V.int .i64 a0N, V.sl a0Pairs, V.bool a0Is]))
theorem e10_eq (a0Txn : Int) (a0Kind : Int) (a0Key : List UInt8) (a0Value : List UInt8) (a0N : Int) (a0Pairs : List V) (a0Is : Bool) : enterK hk false fa10 [V.agg [V.int .i64 a0Txn, V.int .i64 a0Kind, V.str a0Key, V.str a0Value, V.int .i64 a0N, V.sl a0Pairs, V.bool a0Is]] [] = e10 a0Txn a0Kind a0Key a0Value a0N a0Pairs a0Is := by kernel_rfl
theorem e10_run (a0Txn : Int) (a0Kind : Int) (a0Key : List UInt8) (a0Value : List UInt8) (a0N : Int) (a0Pairs : List V) (a0Is : Bool) {o : Out} {v : V} (h : e10 a0Txn a0Kind a0Key a0Value a0N a0Pairs a0Is = some o) (hg : Go hk false 0 fa10 o (.done v)) : pcW hcfg 10 [V.agg [V.int .i64 a0Txn, V.int .i64 a0Kind, V.str a0Key, V.str a0Value, V.int .i64 a0N, V.sl a0Pairs, V.bool a0Is]] = some v := pcW_go hik rfl fa10_eq ((e10_eq a0Txn a0Kind a0Key a0Value a0N a0Pairs a0Is).trans h) hg
theorem e10_done (a0Txn : Int) (a0Kind : Int) (a0Key : List UInt8) (a0Value : List UInt8) (a0N : Int) (a0Pairs : List V) (a0Is : Bool) {v : V} (h : e10 a0Txn a0Kind a0Key a0Value a0N a0Pairs a0Is = some (.done v)) : pcW hcfg 10 [V.agg [V.int .i64 a0Txn, V.int .i64 a0Kind, V.str a0Key, V.str a0Value, V.int .i64 a0N, V.sl a0Pairs, V.bool a0Is]] = some v := e10_run a0Txn a0Kind a0Key a0Value a0N a0Pairs a0Is h (.refl _)
/-! ### budwood/budwoodref23.Cut -/
noncomputable def fa27 : FA := ⟨2, 29, [.tmp 4], [22],
 (.seq
 (.ops false [⟨(some 4), .assign (.const (.slice none 0 0)), 22, none⟩])
 (.seq
 (.ops false [⟨(some 7), .buildSlice 22 0 #[], 22, none⟩, asg 5 7 22])
 (.seq
 (.seq
 (.ops false [⟨(some 6), .assign (.const (.int .i64 (0))), 3, none⟩])
 (.block 0
 (.loop ([2, 3] ++ List.range' 7 22)
 (.seq
 (.seq
 (.ops false [mv 8 6 3, mv 9 0 22, ⟨(some 10), .call ⟨(.builtin .len), #[(.tmp 9)], #[22]⟩, 3, none⟩, ⟨(some 11), .binOp .lss 3 (.tmp 8) (.tmp 10) 3, 4, none⟩])
 (.cond (.tmp 11)
 (.skip)
 (.exit 0)))
 (.seq
 (.block 1
 (.seq
 (.ops false [mv 14 0 22, mv 15 6 3, ⟨(some 16), .indexAddr 22 (.tmp 14) (.tmp 15), 0, none⟩, ⟨(some 17), .fieldAddr 46 (.tmp 16) 0, 0, none⟩, ⟨(some 18), .load 9 (.tmp 17), 9, none⟩, mv 19 1 9, ⟨(some 20), .binOp .neq 9 (.tmp 18) (.tmp 19) 9, 4, none⟩])
 (.cond (.tmp 20)
 (.ops false [mv 21 5 22, mv 22 0 22, mv 23 6 3, ⟨(some 24), .indexAddr 22 (.tmp 22) (.tmp 23), 0, none⟩, ⟨(some 25), .load 46 (.tmp 24), 46, none⟩, ⟨(some 26), .buildSlice 22 1 #[(0, (.tmp 25))], 22, none⟩, ⟨(some 27), .call ⟨(.builtin .append), #[(.tmp 21), (.tmp 26)], #[22, 22]⟩, 22, none⟩, asg 5 27 22])
 (.skip))))
 (.ops false [mv 12 6 3, ⟨(some 13), .binOp .add 3 (.tmp 12) (.const (.int .i64 (1))) 3, 3, none⟩, asg 6 13 3]))))))
 (.seq
 (.ops false [mv 28 5 22, asg 4 28 22])
 (.ret)))))⟩
theorem fa27_eq : fnA hcfg.P 27 = some fa27 := by kernel_rfl
def T27_0 (x0 : List V) (x1 : List UInt8) (x6 : Int) (m1 : List V) : S := ⟨[V.sl x0, V.str x1, V.junk, V.junk, V.own 0, V.own 1, V.int .i64 x6] ++ (JU 22), [O.row 46 [] 0, O.row 46 m1 0]⟩
noncomputable def e27 (a0 : List V) (a1 : List UInt8) : R :=
  some (.head 0 (T27_0 a0 a1 0 []))
theorem e27_eq (a0 : List V) (a1 : List UInt8) : enterK hk false fa27 [V.sl a0, V.str a1] [] = e27 a0 a1 := by kernel_rfl
theorem e27_run (a0 : List V) (a1 : List UInt8) {o : Out} {v : V} (h : e27 a0 a1 = some o) (hg : Go hk false 0 fa27 o (.done v)) : pcW hcfg 27 [V.sl a0, V.str a1] = some v := pcW_go hik rfl fa27_eq ((e27_eq a0 a1).trans h) hg
noncomputable def s27_0 (x0 : List V) (x1 : List UInt8) (x6 : Int) (m1 : List V) : R :=
  cond (decide (x6 < (x0.length : Int)))
 (gd (decide (0 ≤ x6)) <|
  idxK x0 x6.toNat fun v =>
  d46 v fun key value =>
  cond (!(key == x1))
 (gd (decide (0 ≤ x6)) <|
  idxK x0 x6.toNat fun v_1 =>
  d46 v_1 fun key_1 value_1 =>
  gd (decide (m1.length + ([V.agg [V.str key_1, V.str value_1]] : List V).length ≤ 16777216)) <|
  some (.head 0 (T27_0 x0 x1 (W .i64 (x6 + 1)) (m1 ++ [V.agg [V.str key_1, V.str value_1]]))))
 (some (.head 0 (T27_0 x0 x1 (W .i64 (x6 + 1)) m1))))
 (gd ((m1 : List V).all fun x => x.cells.all V.flat1) <|
  some (.done (V.fr 46 m1)))
theorem s27_0_eq (x0 : List V) (x1 : List UInt8) (x6 : Int) (m1 : List V) : goK hk false 0 fa27 0 (T27_0 x0 x1 x6 m1) = s27_0 x0 x1 x6 m1 := by kernel_rfl
theorem s27_0_run (x0 : List V) (x1 : List UInt8) (x6 : Int) (m1 : List V) {o o' : Out} (h : s27_0 x0 x1 x6 m1 = some o) (hg : Go hk false 0 fa27 o o') : Go hk false 0 fa27 (.head 0 (T27_0 x0 x1 x6 m1)) o' := .step ((s27_0_eq x0 x1 x6 m1).trans h) hg
/-! ### budwood/budwoodref23.Find -/
noncomputable def fa23 : FA := ⟨2, 36, [.tmp 4, .tmp 5], [3, 4],
 (.seq
 (.ops false [⟨(some 4), .assign (.const (.int .i64 (0))), 3, none⟩, ⟨(some 5), .assign (.const (.bool false)), 4, none⟩])
 (.seq
 (.ops false [⟨(some 6), .assign (.const (.int .i64 (0))), 3, none⟩])
 (.seq
 (.block 0
 (.loop ([2, 3] ++ List.range' 7 29)
 (.seq
 (.seq
 (.ops false [mv 7 6 3, mv 8 0 22, ⟨(some 9), .call ⟨(.builtin .len), #[(.tmp 8)], #[22]⟩, 3, none⟩, ⟨(some 10), .binOp .lss 3 (.tmp 7) (.tmp 9) 3, 4, none⟩, mv 11 10 4, ⟨(some 12), .move (.tmp 0), 22, (some (11, true))⟩, ⟨(some 13), .move (.tmp 6), 3, (some (11, true))⟩, ⟨(some 14), .indexAddr 22 (.tmp 12) (.tmp 13), 0, (some (11, true))⟩, ⟨(some 15), .fieldAddr 46 (.tmp 14) 0, 0, (some (11, true))⟩, ⟨(some 16), .load 9 (.tmp 15), 9, (some (11, true))⟩, ⟨(some 17), .move (.tmp 1), 9, (some (11, true))⟩, ⟨(some 18), .call ⟨(.value (.func 37)), #[(.tmp 16), (.tmp 17)], #[9, 9]⟩, 4, (some (11, true))⟩, ⟨(some 19), .pick (.tmp 11) (.tmp 18) (.const (.bool false)), 4, none⟩])
 (.cond (.tmp 19)
 (.skip)
 (.exit 0)))
 (.block 1
 (.ops false [mv 20 6 3, ⟨(some 21), .binOp .add 3 (.tmp 20) (.const (.int .i64 (1))) 3, 3, none⟩, asg 6 21 3])))))
 (.seq
 (.ops true [mv 22 6 3, mv 23 6 3, mv 24 0 22, ⟨(some 25), .call ⟨(.builtin .len), #[(.tmp 24)], #[22]⟩, 3, none⟩, ⟨(some 26), .binOp .lss 3 (.tmp 23) (.tmp 25) 3, 4, none⟩, mv 27 26 4, ⟨(some 28), .move (.tmp 0), 22, (some (27, true))⟩, ⟨(some 29), .move (.tmp 6), 3, (some (27, true))⟩, ⟨(some 30), .indexAddr 22 (.tmp 28) (.tmp 29), 0, (some (27, true))⟩, ⟨(some 31), .fieldAddr 46 (.tmp 30) 0, 0, (some (27, true))⟩, ⟨(some 32), .load 9 (.tmp 31), 9, (some (27, true))⟩, ⟨(some 33), .move (.tmp 1), 9, (some (27, true))⟩, ⟨(some 34), .binOp .eql 9 (.tmp 32) (.tmp 33) 9, 4, (some (27, true))⟩, ⟨(some 35), .pick (.tmp 27) (.tmp 34) (.const (.bool false)), 4, none⟩, asg 4 22 3, asg 5 35 4])
 (.ret)))))⟩
theorem fa23_eq : fnA hcfg.P 23 = some fa23 := by kernel_rfl
def T23_0 (x0 : List V) (x1 : List UInt8) (x6 : Int) : S := ⟨[V.sl x0, V.str x1, V.junk, V.junk, V.int .i64 0, V.bool false, V.int .i64 x6] ++ (JU 29), []⟩
noncomputable def e23 (a0 : List V) (a1 : List UInt8) : R :=
  some (.head 0 (T23_0 a0 a1 0))
theorem e23_eq (a0 : List V) (a1 : List UInt8) : enterK hk false fa23 [V.sl a0, V.str a1] [] = e23 a0 a1 := by kernel_rfl
theorem e23_run (a0 : List V) (a1 : List UInt8) {o : Out} {v : V} (h : e23 a0 a1 = some o) (hg : Go hk false 0 fa23 o (.done v)) : pcW hcfg 23 [V.sl a0, V.str a1] = some v := pcW_go hik rfl fa23_eq ((e23_eq a0 a1).trans h) hg
noncomputable def s23_0 (x0 : List V) (x1 : List UInt8) (x6 : Int) : R :=
  cond (decide (x6 < (x0.length : Int)))
 (gd (decide (0 ≤ x6)) <|
  idxK x0 x6.toNat fun v =>
  d46 v fun key value =>
  pcK hcfg 37 [V.str key, V.str x1] fun r =>
  kB r fun r37 =>
  cond r37
 (some (.head 0 (T23_0 x0 x1 (W .i64 (x6 + 1)))))
 (cond (decide (x6 < (x0.length : Int)))
 (gd (decide (0 ≤ x6)) <|
  idxK x0 x6.toNat fun v_1 =>
  d46 v_1 fun key_1 value_1 =>
  some (.done (V.tup [V.int .i64 x6, V.bool (key_1 == x1)])))
 (some (.done (V.tup [V.int .i64 x6, V.bool false])))))
 (cond (decide (x6 < (x0.length : Int)))
 (gd (decide (0 ≤ x6)) <|
  idxK x0 x6.toNat fun v_2 =>
  d46 v_2 fun key_2 value_2 =>
  some (.done (V.tup [V.int .i64 x6, V.bool (key_2 == x1)])))
 (some (.done (V.tup [V.int .i64 x6, V.bool false]))))
theorem s23_0_eq (x0 : List V) (x1 : List UInt8) (x6 : Int) : goK hk false 0 fa23 0 (T23_0 x0 x1 x6) = s23_0 x0 x1 x6 := by kernel_rfl
theorem s23_0_run (x0 : List V) (x1 : List UInt8) (x6 : Int) {o o' : Out} (h : s23_0 x0 x1 x6 = some o) (hg : Go hk false 0 fa23 o o') : Go hk false 0 fa23 (.head 0 (T23_0 x0 x1 x6)) o' := .step ((s23_0_eq x0 x1 x6).trans h) hg
/-! ### budwood/budwoodref05.Pairs -/
noncomputable def fa13 : FA := ⟨2, 26, [.tmp 4], [4],
 (.seq
 (.ops false [⟨(some 4), .assign (.const (.bool false)), 4, none⟩])
 (.seq
 (.seq
 (.ops false [mv 6 0 22, ⟨(some 7), .call ⟨(.builtin .len), #[(.tmp 6)], #[22]⟩, 3, none⟩, mv 8 1 22, ⟨(some 9), .call ⟨(.builtin .len), #[(.tmp 8)], #[22]⟩, 3, none⟩, ⟨(some 10), .binOp .neq 3 (.tmp 7) (.tmp 9) 3, 4, none⟩])
 (.cond (.tmp 10)
 (.seq
 (.ops false [⟨(some 4), .assign (.const (.bool false)), 4, none⟩])
 (.ret))
 (.skip)))
 (.seq
 (.seq
 (.ops false [⟨(some 5), .assign (.const (.int .i64 (0))), 3, none⟩])
 (.block 0
 (.loop ([2, 3] ++ List.range' 6 20)
 (.seq
 (.seq
 (.ops false [mv 11 5 3, mv 12 0 22, ⟨(some 13), .call ⟨(.builtin .len), #[(.tmp 12)], #[22]⟩, 3, none⟩, ⟨(some 14), .binOp .lss 3 (.tmp 11) (.tmp 13) 3, 4, none⟩])
 (.cond (.tmp 14)
 (.skip)
 (.exit 0)))
 (.seq
 (.block 1
 (.seq
 (.ops true [mv 17 0 22, mv 18 5 3, ⟨(some 19), .indexAddr 22 (.tmp 17) (.tmp 18), 0, none⟩, ⟨(some 20), .load 46 (.tmp 19), 46, none⟩, mv 21 1 22, mv 22 5 3, ⟨(some 23), .indexAddr 22 (.tmp 21) (.tmp 22), 0, none⟩, ⟨(some 24), .load 46 (.tmp 23), 46, none⟩, ⟨(some 25), .binOp .neq 46 (.tmp 20) (.tmp 24) 46, 4, none⟩])
 (.cond (.tmp 25)
 (.seq
 (.ops false [⟨(some 4), .assign (.const (.bool false)), 4, none⟩])
 (.ret))
 (.skip))))
 (.ops false [mv 15 5 3, ⟨(some 16), .binOp .add 3 (.tmp 15) (.const (.int .i64 (1))) 3, 3, none⟩, asg 5 16 3]))))))
 (.seq
 (.ops false [⟨(some 4), .assign (.const (.bool true)), 4, none⟩])
 (.ret)))))⟩
theorem fa13_eq : fnA hcfg.P 13 = some fa13 := by kernel_rfl
def T13_0 (x0 : List V) (x1 : List V) (x5 : Int) : S := ⟨[V.sl x0, V.sl x1, V.junk, V.junk, V.bool false, V.int .i64 x5] ++ (JU 20), []⟩
noncomputable def e13 (a0 : List V) (a1 : List V) : R :=
  cond ((a0.length : Int) != (a1.length : Int))
 (some (.done (V.bool false)))
 (some (.head 0 (T13_0 a0 a1 0)))
theorem e13_eq (a0 : List V) (a1 : List V) : enterK hk false fa13 [V.sl a0, V.sl a1] [] = e13 a0 a1 := by kernel_rfl
theorem e13_run (a0 : List V) (a1 : List V) {o : Out} {v : V} (h : e13 a0 a1 = some o) (hg : Go hk false 0 fa13 o (.done v)) : pcW hcfg 13 [V.sl a0, V.sl a1] = some v := pcW_go hik rfl fa13_eq ((e13_eq a0 a1).trans h) hg
noncomputable def s13_0 (x0 : List V) (x1 : List V) (x5 : Int) : R :=
  cond (decide (x5 < (x0.length : Int)))
 (gd (decide (0 ≤ x5)) <|
  idxK x0 x5.toNat fun v =>
  d46 v fun key value =>
  gd (decide (0 ≤ x5)) <|
  idxK x1 x5.toNat fun v_1 =>
  d46 v_1 fun key_1 value_1 =>
  cond (!((key == key_1) && ((value == value_1) && true)))
 (some (.done (V.bool false)))
 (some (.head 0 (T13_0 x0 x1 (W .i64 (x5 + 1))))))
 (some (.done (V.bool true)))
theorem s13_0_eq (x0 : List V) (x1 : List V) (x5 : Int) : goK hk false 0 fa13 0 (T13_0 x0 x1 x5) = s13_0 x0 x1 x5 := by kernel_rfl
theorem s13_0_run (x0 : List V) (x1 : List V) (x5 : Int) {o o' : Out} (h : s13_0 x0 x1 x5 = some o) (hg : Go hk false 0 fa13 o o') : Go hk false 0 fa13 (.head 0 (T13_0 x0 x1 x5)) o' := .step ((s13_0_eq x0 x1 x5).trans h) hg
/-! ### budwood/budwoodref02.Ints -/
noncomputable def fa18 : FA := ⟨2, 26, [.tmp 4], [4],
 (.seq
 (.ops false [⟨(some 4), .assign (.const (.bool false)), 4, none⟩])
 (.seq
 (.seq
 (.ops false [mv 6 0 40, ⟨(some 7), .call ⟨(.builtin .len), #[(.tmp 6)], #[40]⟩, 3, none⟩, mv 8 1 40, ⟨(some 9), .call ⟨(.builtin .len), #[(.tmp 8)], #[40]⟩, 3, none⟩, ⟨(some 10), .binOp .neq 3 (.tmp 7) (.tmp 9) 3, 4, none⟩])
 (.cond (.tmp 10)
 (.seq
 (.ops false [⟨(some 4), .assign (.const (.bool false)), 4, none⟩])
 (.ret))
 (.skip)))
 (.seq
 (.seq
 (.ops false [⟨(some 5), .assign (.const (.int .i64 (0))), 3, none⟩])
 (.block 0
 (.loop ([2, 3] ++ List.range' 6 20)
 (.seq
 (.seq
 (.ops false [mv 11 5 3, mv 12 0 40, ⟨(some 13), .call ⟨(.builtin .len), #[(.tmp 12)], #[40]⟩, 3, none⟩, ⟨(some 14), .binOp .lss 3 (.tmp 11) (.tmp 13) 3, 4, none⟩])
 (.cond (.tmp 14)
 (.skip)
 (.exit 0)))
 (.seq
 (.block 1
 (.seq
 (.ops true [mv 17 0 40, mv 18 5 3, ⟨(some 19), .indexAddr 40 (.tmp 17) (.tmp 18), 0, none⟩, ⟨(some 20), .load 3 (.tmp 19), 3, none⟩, mv 21 1 40, mv 22 5 3, ⟨(some 23), .indexAddr 40 (.tmp 21) (.tmp 22), 0, none⟩, ⟨(some 24), .load 3 (.tmp 23), 3, none⟩, ⟨(some 25), .binOp .neq 3 (.tmp 20) (.tmp 24) 3, 4, none⟩])
 (.cond (.tmp 25)
 (.seq
 (.ops false [⟨(some 4), .assign (.const (.bool false)), 4, none⟩])
 (.ret))
 (.skip))))
 (.ops false [mv 15 5 3, ⟨(some 16), .binOp .add 3 (.tmp 15) (.const (.int .i64 (1))) 3, 3, none⟩, asg 5 16 3]))))))
 (.seq
 (.ops false [⟨(some 4), .assign (.const (.bool true)), 4, none⟩])
 (.ret)))))⟩
theorem fa18_eq : fnA hcfg.P 18 = some fa18 := by kernel_rfl
def T18_0 (x0 : List V) (x1 : List V) (x5 : Int) : S := ⟨[V.sl x0, V.sl x1, V.junk, V.junk, V.bool false, V.int .i64 x5] ++ (JU 20), []⟩
noncomputable def e18 (a0 : List V) (a1 : List V) : R :=
  cond ((a0.length : Int) != (a1.length : Int))
 (some (.done (V.bool false)))
 (some (.head 0 (T18_0 a0 a1 0)))
theorem e18_eq (a0 : List V) (a1 : List V) : enterK hk false fa18 [V.sl a0, V.sl a1] [] = e18 a0 a1 := by kernel_rfl
theorem e18_run (a0 : List V) (a1 : List V) {o : Out} {v : V} (h : e18 a0 a1 = some o) (hg : Go hk false 0 fa18 o (.done v)) : pcW hcfg 18 [V.sl a0, V.sl a1] = some v := pcW_go hik rfl fa18_eq ((e18_eq a0 a1).trans h) hg
noncomputable def s18_0 (x0 : List V) (x1 : List V) (x5 : Int) : R :=
  cond (decide (x5 < (x0.length : Int)))
 (gd (decide (0 ≤ x5)) <|
  idxK x0 x5.toNat fun v =>
  kI .i64 v fun n =>
  gd (decide (0 ≤ x5)) <|
  idxK x1 x5.toNat fun v_1 =>
  kI .i64 v_1 fun n_1 =>
  cond (n != n_1)
 (some (.done (V.bool false)))
 (some (.head 0 (T18_0 x0 x1 (W .i64 (x5 + 1))))))
 (some (.done (V.bool true)))
theorem s18_0_eq (x0 : List V) (x1 : List V) (x5 : Int) : goK hk false 0 fa18 0 (T18_0 x0 x1 x5) = s18_0 x0 x1 x5 := by kernel_rfl
theorem s18_0_run (x0 : List V) (x1 : List V) (x5 : Int) {o o' : Out} (h : s18_0 x0 x1 x5 = some o) (hg : Go hk false 0 fa18 o o') : Go hk false 0 fa18 (.head 0 (T18_0 x0 x1 x5)) o' := .step ((s18_0_eq x0 x1 x5).trans h) hg
/-! ### budwood/hist.Find$1 -/
noncomputable def fa35 : FA := ⟨2, 9, [.tmp 4], [3],
 (.seq
 (.ops false [⟨(some 2), .box 46 (.tmp 0), 0, none⟩, ⟨(some 4), .assign (.const (.int .i64 (0))), 3, none⟩])
 (.seq
 (.ops false [⟨(some 5), .fieldAddr 46 (.tmp 2) 0, 0, none⟩, ⟨(some 6), .load 9 (.tmp 5), 9, none⟩, mv 7 1 9, ⟨(some 8), .call ⟨(.value (.func 36)), #[(.tmp 6), (.tmp 7)], #[9, 9]⟩, 3, none⟩, asg 4 8 3])
 (.ret)))⟩
theorem fa35_eq : fnA hcfg.P 35 = some fa35 := by kernel_rfl
noncomputable def e35 (a0Key : List UInt8) (a0Value : List UInt8) (a1 : List UInt8) : R :=
  pcK hcfg 36 [V.str a0Key, V.str a1] fun r =>
  kI .i64 r fun r36 =>
  some (.done (V.int .i64 r36))
theorem e35_eq (a0Key : List UInt8) (a0Value : List UInt8) (a1 : List UInt8) : enterK hk false fa35 [V.agg [V.str a0Key, V.str a0Value], V.str a1] [] = e35 a0Key a0Value a1 := by kernel_rfl
theorem e35_run (a0Key : List UInt8) (a0Value : List UInt8) (a1 : List UInt8) {o : Out} {v : V} (h : e35 a0Key a0Value a1 = some o) (hg : Go hk false 0 fa35 o (.done v)) : pcW hcfg 35 [V.agg [V.str a0Key, V.str a0Value], V.str a1] = some v := pcW_go hik rfl fa35_eq ((e35_eq a0Key a0Value a1).trans h) hg
theorem e35_done (a0Key : List UInt8) (a0Value : List UInt8) (a1 : List UInt8) {v : V} (h : e35 a0Key a0Value a1 = some (.done v)) : pcW hcfg 35 [V.agg [V.str a0Key, V.str a0Value], V.str a1] = some v := e35_run a0Key a0Value a1 h (.refl _)
/-! ### slices.BinarySearchFunc(()budwood/api.Pair,budwood/api.Pair,string) -/
noncomputable def fa34 : FA := ⟨3, 49, [.tmp 6, .tmp 7], [3, 4],
 (.seq
 (.ops false [⟨(some 6), .assign (.const (.int .i64 (0))), 3, none⟩, ⟨(some 7), .assign (.const (.bool false)), 4, none⟩])
 (.seq
 (.ops false [mv 12 0 22, ⟨(some 13), .call ⟨(.builtin .len), #[(.tmp 12)], #[22]⟩, 3, none⟩, asg 8 13 3])
 (.seq
 (.ops false [mv 14 8 3, ⟨(some 9), .assign (.const (.int .i64 (0))), 3, none⟩, asg 10 14 3])
 (.seq
 (.block 0
 (.loop ([3, 4, 5] ++ List.range' 11 38)
 (.seq
 (.seq
 (.ops false [mv 15 9 3, mv 16 10 3, ⟨(some 17), .binOp .lss 3 (.tmp 15) (.tmp 16) 3, 4, none⟩])
 (.cond (.tmp 17)
 (.skip)
 (.exit 0)))
 (.block 1
 (.seq
 (.ops false [mv 18 9 3, mv 19 10 3, ⟨(some 20), .binOp .add 3 (.tmp 18) (.tmp 19) 3, 3, none⟩, ⟨(some 21), .convert 3 65 (.tmp 20), 65, none⟩, ⟨(some 22), .binOp .shr 65 (.tmp 21) (.const (.int .u64 (1))) 65, 65, none⟩, ⟨(some 23), .convert 65 3 (.tmp 22), 3, none⟩, asg 11 23 3])
 (.seq
 (.ops false [mv 24 2 60, mv 25 0 22, mv 26 11 3, ⟨(some 27), .indexAddr 22 (.tmp 25) (.tmp 26), 0, none⟩, ⟨(some 28), .load 46 (.tmp 27), 46, none⟩, mv 29 1 9, ⟨(some 30), .call ⟨(.value (.tmp 24)), #[(.tmp 28), (.tmp 29)], #[46, 9]⟩, 3, none⟩, ⟨(some 31), .binOp .lss 3 (.tmp 30) (.const (.int .i64 (0))) 3, 4, none⟩])
 (.cond (.tmp 31)
 (.ops false [mv 32 11 3, ⟨(some 33), .binOp .add 3 (.tmp 32) (.const (.int .i64 (1))) 3, 3, none⟩, asg 9 33 3])
 (.ops false [mv 34 11 3, asg 10 34 3]))))))))
 (.seq
 (.ops false [mv 35 9 3, mv 36 9 3, mv 37 8 3, ⟨(some 38), .binOp .lss 3 (.tmp 36) (.tmp 37) 3, 4, none⟩, mv 39 38 4, ⟨(some 40), .move (.tmp 2), 60, (some (39, true))⟩, ⟨(some 41), .move (.tmp 0), 22, (some (39, true))⟩, ⟨(some 42), .move (.tmp 9), 3, (some (39, true))⟩, ⟨(some 43), .indexAddr 22 (.tmp 41) (.tmp 42), 0, (some (39, true))⟩, ⟨(some 44), .load 46 (.tmp 43), 46, (some (39, true))⟩, ⟨(some 45), .move (.tmp 1), 9, (some (39, true))⟩, ⟨(some 46), .call ⟨(.value (.tmp 40)), #[(.tmp 44), (.tmp 45)], #[46, 9]⟩, 3, (some (39, true))⟩, ⟨(some 47), .binOp .eql 3 (.tmp 46) (.const (.int .i64 (0))) 3, 4, (some (39, true))⟩, ⟨(some 48), .pick (.tmp 39) (.tmp 47) (.const (.bool false)), 4, none⟩, asg 6 35 3, asg 7 48 4])
 (.ret))))))⟩
theorem fa34_eq : fnA hcfg.P 34 = some fa34 := by kernel_rfl
def T34_0 (x0 : List V) (x1 : List UInt8) (x8 : Int) (x9 : Int) (x10 : Int) : S := ⟨[V.sl x0, V.str x1, V.fn 35 [], V.junk, V.junk, V.junk, V.int .i64 0, V.bool false, V.int .i64 x8, V.int .i64 x9, V.int .i64 x10] ++ (JU 38), []⟩
noncomputable def e34 (a0 : List V) (a1 : List UInt8) : R :=
  some (.head 0 (T34_0 a0 a1 (a0.length : Int) 0 (a0.length : Int)))
theorem e34_eq (a0 : List V) (a1 : List UInt8) : enterK hk false fa34 [V.sl a0, V.str a1, V.fn 35 []] [] = e34 a0 a1 := by kernel_rfl
theorem e34_run (a0 : List V) (a1 : List UInt8) {o : Out} {v : V} (h : e34 a0 a1 = some o) (hg : Go hk false 0 fa34 o (.done v)) : pcW hcfg 34 [V.sl a0, V.str a1, V.fn 35 []] = some v := pcW_go hik rfl fa34_eq ((e34_eq a0 a1).trans h) hg
noncomputable def s34_0 (x0 : List V) (x1 : List UInt8) (x8 : Int) (x9 : Int) (x10 : Int) : R :=
  cond (decide (x9 < x10))
 (gd (decide (0 ≤ W .i64 ((W .u64 (W .i64 (x9 + x10))).fdiv (2 ^ (min 1 (IntKind.bits .u64)))))) <|
  idxK x0 ((W .i64 ((W .u64 (W .i64 (x9 + x10))).fdiv (2 ^ (min 1 (IntKind.bits .u64))))).toNat) fun v =>
  d46 v fun key value =>
  pcK hcfg 35 [V.agg [V.str key, V.str value], V.str x1] fun r =>
  kI .i64 r fun r35 =>
  cond (decide (r35 < 0))
 (some (.head 0 (T34_0 x0 x1 x8 (W .i64 ((W .i64 ((W .u64 (W .i64 (x9 + x10))).fdiv (2 ^ (min 1 (IntKind.bits .u64))))) + 1)) x10)))
 (some (.head 0 (T34_0 x0 x1 x8 x9 (W .i64 ((W .u64 (W .i64 (x9 + x10))).fdiv (2 ^ (min 1 (IntKind.bits .u64)))))))))
 (cond (decide (x9 < x8))
 (gd (decide (0 ≤ x9)) <|
  idxK x0 x9.toNat fun v_1 =>
  d46 v_1 fun key_1 value_1 =>
  pcK hcfg 35 [V.agg [V.str key_1, V.str value_1], V.str x1] fun r_1 =>
  kI .i64 r_1 fun r35_1 =>
  some (.done (V.tup [V.int .i64 x9, V.bool (r35_1 == (0 : Int))])))
 (some (.done (V.tup [V.int .i64 x9, V.bool false]))))
theorem s34_0_eq (x0 : List V) (x1 : List UInt8) (x8 : Int) (x9 : Int) (x10 : Int) : goK hk false 0 fa34 0 (T34_0 x0 x1 x8 x9 x10) = s34_0 x0 x1 x8 x9 x10 := by kernel_rfl
theorem s34_0_run (x0 : List V) (x1 : List UInt8) (x8 : Int) (x9 : Int) (x10 : Int) {o o' : Out} (h : s34_0 x0 x1 x8 x9 x10 = some o) (hg : Go hk false 0 fa34 o o') : Go hk false 0 fa34 (.head 0 (T34_0 x0 x1 x8 x9 x10)) o' := .step ((s34_0_eq x0 x1 x8 x9 x10).trans h) hg
/-! ### slices.Equal(()budwood/api.Pair,budwood/api.Pair) -/
noncomputable def fa31 : FA := ⟨2, 26, [.tmp 4], [4],
 (.seq
 (.ops false [⟨(some 4), .assign (.const (.bool false)), 4, none⟩])
 (.seq
 (.seq
 (.ops false [mv 6 0 22, ⟨(some 7), .call ⟨(.builtin .len), #[(.tmp 6)], #[22]⟩, 3, none⟩, mv 8 1 22, ⟨(some 9), .call ⟨(.builtin .len), #[(.tmp 8)], #[22]⟩, 3, none⟩, ⟨(some 10), .binOp .neq 3 (.tmp 7) (.tmp 9) 3, 4, none⟩])
 (.cond (.tmp 10)
 (.seq
 (.ops false [⟨(some 4), .assign (.const (.bool false)), 4, none⟩])
 (.ret))
 (.skip)))
 (.seq
 (.seq
 (.ops false [mv 11 0 22, ⟨(some 12), .call ⟨(.builtin .len), #[(.tmp 11)], #[22]⟩, 3, none⟩, ⟨(some 13), .move (.const (.int .i64 (0))), 3, none⟩])
 (.block 0
 (.loop ([2, 3] ++ List.range' 5 7 ++ List.range' 14 12)
 (.seq
 (.ops false [⟨(some 14), .binOp .lss 3 (.tmp 13) (.tmp 12) 3, 0, none⟩])
 (.seq
 (.cond (.tmp 14)
 (.skip)
 (.exit 0))
 (.seq
 (.block 1
 (.seq
 (.ops false [mv 15 13 3, asg 5 15 3])
 (.seq
 (.ops true [mv 16 0 22, mv 17 5 3, ⟨(some 18), .indexAddr 22 (.tmp 16) (.tmp 17), 0, none⟩, ⟨(some 19), .load 46 (.tmp 18), 46, none⟩, mv 20 1 22, mv 21 5 3, ⟨(some 22), .indexAddr 22 (.tmp 20) (.tmp 21), 0, none⟩, ⟨(some 23), .load 46 (.tmp 22), 46, none⟩, ⟨(some 24), .binOp .neq 46 (.tmp 19) (.tmp 23) 46, 4, none⟩])
 (.cond (.tmp 24)
 (.seq
 (.ops false [⟨(some 4), .assign (.const (.bool false)), 4, none⟩])
 (.ret))
 (.skip)))))
 (.ops false [⟨(some 25), .binOp .add 3 (.tmp 13) (.const (.int .i64 (1))) 3, 3, none⟩, mv 13 25 3])))))))
 (.seq
 (.ops false [⟨(some 4), .assign (.const (.bool true)), 4, none⟩])
 (.ret)))))⟩
theorem fa31_eq : fnA hcfg.P 31 = some fa31 := by kernel_rfl
def T31_0 (x0 : List V) (x1 : List V) (x12 : Int) (x13 : Int) : S := ⟨[V.sl x0, V.sl x1, V.junk, V.junk, V.bool false] ++ (JU 7) ++ [V.int .i64 x12, V.int .i64 x13] ++ (JU 12), []⟩
noncomputable def e31 (a0 : List V) (a1 : List V) : R :=
  cond ((a0.length : Int) != (a1.length : Int))
 (some (.done (V.bool false)))
 (some (.head 0 (T31_0 a0 a1 (a0.length : Int) 0)))
theorem e31_eq (a0 : List V) (a1 : List V) : enterK hk false fa31 [V.sl a0, V.sl a1] [] = e31 a0 a1 := by kernel_rfl
theorem e31_run (a0 : List V) (a1 : List V) {o : Out} {v : V} (h : e31 a0 a1 = some o) (hg : Go hk false 0 fa31 o (.done v)) : pcW hcfg 31 [V.sl a0, V.sl a1] = some v := pcW_go hik rfl fa31_eq ((e31_eq a0 a1).trans h) hg
noncomputable def s31_0 (x0 : List V) (x1 : List V) (x12 : Int) (x13 : Int) : R :=
  cond (decide (x13 < x12))
 (gd (decide (0 ≤ x13)) <|
  idxK x0 x13.toNat fun v =>
  d46 v fun key value =>
  gd (decide (0 ≤ x13)) <|
  idxK x1 x13.toNat fun v_1 =>
  d46 v_1 fun key_1 value_1 =>
  cond (!((key == key_1) && ((value == value_1) && true)))
 (some (.done (V.bool false)))
 (some (.head 0 (T31_0 x0 x1 x12 (W .i64 (x13 + 1))))))
 (some (.done (V.bool true)))
theorem s31_0_eq (x0 : List V) (x1 : List V) (x12 : Int) (x13 : Int) : goK hk false 0 fa31 0 (T31_0 x0 x1 x12 x13) = s31_0 x0 x1 x12 x13 := by kernel_rfl
theorem s31_0_run (x0 : List V) (x1 : List V) (x12 : Int) (x13 : Int) {o o' : Out} (h : s31_0 x0 x1 x12 x13 = some o) (hg : Go hk false 0 fa31 o o') : Go hk false 0 fa31 (.head 0 (T31_0 x0 x1 x12 x13)) o' := .step ((s31_0_eq x0 x1 x12 x13).trans h) hg
/-! ### budwood/budwoodref23.start -/
noncomputable def fa33 : FA := ⟨2, 29, [.tmp 4], [3],
 (.seq
 (.ops false [⟨(some 4), .assign (.const (.int .i64 (0))), 3, none⟩])
 (.seq
 (.ops false [mv 6 1 3, asg 5 6 3])
 (.seq
 (.block 0
 (.loop ([2, 3] ++ List.range' 6 23)
 (.seq
 (.seq
 (.ops true [mv 7 0 26, mv 8 5 3, ⟨(some 9), .indexAddr 26 (.tmp 7) (.tmp 8), 0, none⟩, ⟨(some 10), .fieldAddr 28 (.tmp 9) 1, 0, none⟩, ⟨(some 11), .load 3 (.tmp 10), 3, none⟩, ⟨(some 12), .binOp .neq 3 (.tmp 11) (.const (.int .i64 (1))) 3, 4, none⟩, mv 13 12 4, ⟨(some 14), .move (.tmp 0), 26, (some (13, false))⟩, ⟨(some 15), .move (.tmp 5), 3, (some (13, false))⟩, ⟨(some 16), .indexAddr 26 (.tmp 14) (.tmp 15), 0, (some (13, false))⟩, ⟨(some 17), .fieldAddr 28 (.tmp 16) 0, 0, (some (13, false))⟩, ⟨(some 18), .load 3 (.tmp 17), 3, (some (13, false))⟩, ⟨(some 19), .move (.tmp 0), 26, (some (13, false))⟩, ⟨(some 20), .move (.tmp 1), 3, (some (13, false))⟩, ⟨(some 21), .indexAddr 26 (.tmp 19) (.tmp 20), 0, (some (13, false))⟩, ⟨(some 22), .fieldAddr 28 (.tmp 21) 0, 0, (some (13, false))⟩, ⟨(some 23), .load 3 (.tmp 22), 3, (some (13, false))⟩, ⟨(some 24), .binOp .neq 3 (.tmp 18) (.tmp 23) 3, 4, (some (13, false))⟩, ⟨(some 25), .pick (.tmp 13) (.const (.bool true)) (.tmp 24), 4, none⟩])
 (.cond (.tmp 25)
 (.skip)
 (.exit 0)))
 (.block 1
 (.ops false [mv 26 5 3, ⟨(some 27), .binOp .sub 3 (.tmp 26) (.const (.int .i64 (1))) 3, 3, none⟩, asg 5 27 3])))))
 (.seq
 (.ops false [mv 28 5 3, asg 4 28 3])
 (.ret)))))⟩
theorem fa33_eq : fnA hcfg.P 33 = some fa33 := by kernel_rfl
def T33_0 (x0 : List V) (x1 : Int) (x5 : Int) : S := ⟨[V.sl x0, V.int .i64 x1, V.junk, V.junk, V.int .i64 0, V.int .i64 x5] ++ (JU 23), []⟩
noncomputable def e33 (a0 : List V) (a1 : Int) : R :=
  some (.head 0 (T33_0 a0 a1 a1))
theorem e33_eq (a0 : List V) (a1 : Int) : enterK hk false fa33 [V.sl a0, V.int .i64 a1] [] = e33 a0 a1 := by kernel_rfl
theorem e33_run (a0 : List V) (a1 : Int) {o : Out} {v : V} (h : e33 a0 a1 = some o) (hg : Go hk false 0 fa33 o (.done v)) : pcW hcfg 33 [V.sl a0, V.int .i64 a1] = some v := pcW_go hik rfl fa33_eq ((e33_eq a0 a1).trans h) hg
noncomputable def s33_0 (x0 : List V) (x1 : Int) (x5 : Int) : R :=
  gd (decide (0 ≤ x5)) <|
  idxK x0 x5.toNat fun v =>
  d28 v fun txn kind0 key value n pairs is0 =>
  cond (kind0 != (1 : Int))
 (some (.head 0 (T33_0 x0 x1 (W .i64 (x5 - 1)))))
 (gd (decide (0 ≤ x5)) <|
  idxK x0 x5.toNat fun v_1 =>
  d28 v_1 fun txn_1 kind0_1 key_1 value_1 n_1 pairs_1 is0_1 =>
  gd (decide (0 ≤ x1)) <|
  idxK x0 x1.toNat fun v_2 =>
  d28 v_2 fun txn_2 kind0_2 key_2 value_2 n_2 pairs_2 is0_2 =>
  cond (txn_1 != txn_2)
 (some (.head 0 (T33_0 x0 x1 (W .i64 (x5 - 1)))))
 (some (.done (V.int .i64 x5))))
theorem s33_0_eq (x0 : List V) (x1 : Int) (x5 : Int) : goK hk false 0 fa33 0 (T33_0 x0 x1 x5) = s33_0 x0 x1 x5 := by kernel_rfl
theorem s33_0_run (x0 : List V) (x1 : Int) (x5 : Int) {o o' : Out} (h : s33_0 x0 x1 x5 = some o) (hg : Go hk false 0 fa33 o o') : Go hk false 0 fa33 (.head 0 (T33_0 x0 x1 x5)) o' := .step ((s33_0_eq x0 x1 x5).trans h) hg
/-! ### budwood/hist.Lay -/
noncomputable def fa24 : FA := ⟨2, 29, [.tmp 4], [22],
 (.seq
 (.ops false [⟨(some 3), .box 46 (.tmp 1), 0, none⟩, ⟨(some 4), .assign (.const (.slice none 0 0)), 22, none⟩])
 (.seq
 (.ops false [mv 9 0 22, ⟨(some 10), .fieldAddr 46 (.tmp 3) 0, 0, none⟩, ⟨(some 11), .load 9 (.tmp 10), 9, none⟩, ⟨(some 12), .call ⟨(.value (.func 22)), #[(.tmp 9), (.tmp 11)], #[22, 9]⟩, 47, none⟩, mv 8 12 47, ⟨(some 13), .extract (.tmp 8) 0, 3, none⟩, ⟨(some 14), .extract (.tmp 8) 1, 4, none⟩, asg 5 13 3, asg 6 14 4])
 (.seq
 (.ops false [mv 15 0 22, ⟨(some 16), .call ⟨(.value (.func 30)), #[(.tmp 15)], #[22]⟩, 22, none⟩, asg 7 16 22])
 (.seq
 (.seq
 (.ops false [mv 17 6 4, ⟨(some 18), .unOp .not 4 (.tmp 17), 4, none⟩])
 (.cond (.tmp 18)
 (.seq
 (.ops false [mv 19 7 22, mv 20 5 3, ⟨(some 21), .load 46 (.tmp 3), 46, none⟩, ⟨(some 22), .buildSlice 22 1 #[(0, (.tmp 21))], 22, none⟩, ⟨(some 23), .call ⟨(.value (.func 38)), #[(.tmp 19), (.tmp 20), (.tmp 22)], #[22, 3, 22]⟩, 22, none⟩, asg 4 23 22])
 (.ret))
 (.skip)))
 (.seq
 (.ops false [mv 24 7 22, mv 25 5 3, ⟨(some 26), .load 46 (.tmp 3), 46, none⟩, ⟨(some 27), .indexAddr 22 (.tmp 24) (.tmp 25), 0, none⟩, ⟨none, .store 46 (.tmp 27) (.tmp 26), 0, none⟩])
 (.seq
 (.ops false [mv 28 7 22, asg 4 28 22])
 (.ret)))))))⟩
theorem fa24_eq : fnA hcfg.P 24 = some fa24 := by kernel_rfl
noncomputable def e24 (a0 : List V) (a1Key : List UInt8) (a1Value : List UInt8) : R :=
  pcK hcfg 22 [V.sl a0, V.str a1Key] fun r =>
  d47 r fun r22_0 r22_1 =>
  pcK hcfg 30 [V.sl a0] fun r_1 =>
  kF 46 r_1 fun r30 =>
  cond (!r22_1)
 (gd (decide (0 ≤ r22_0 ∧ r22_0.toNat ≤ r30.length ∧ r30.length + ([V.agg [V.str a1Key, V.str a1Value]] : List V).length ≤ 16777216)) <|
  gd ((((r30.take r22_0.toNat) ++ [V.agg [V.str a1Key, V.str a1Value]]) ++ (r30.drop r22_0.toNat) : List V).all fun x => x.cells.all V.flat1) <|
  some (.done (V.fr 46 (((r30.take r22_0.toNat) ++ [V.agg [V.str a1Key, V.str a1Value]]) ++ (r30.drop r22_0.toNat)))))
 (gd (decide (0 ≤ r22_0)) <|
  gd (decide (r22_0.toNat < r30.length)) <|
  idxK r30 r22_0.toNat fun v =>
  d46 v fun key value =>
  gd (((r30).set r22_0.toNat (V.agg [V.str a1Key, V.str a1Value]) : List V).all fun x => x.cells.all V.flat1) <|
  some (.done (V.fr 46 ((r30).set r22_0.toNat (V.agg [V.str a1Key, V.str a1Value])))))
theorem e24_eq (a0 : List V) (a1Key : List UInt8) (a1Value : List UInt8) : enterK hk false fa24 [V.sl a0, V.agg [V.str a1Key, V.str a1Value]] [] = e24 a0 a1Key a1Value := by kernel_rfl
theorem e24_run (a0 : List V) (a1Key : List UInt8) (a1Value : List UInt8) {o : Out} {v : V} (h : e24 a0 a1Key a1Value = some o) (hg : Go hk false 0 fa24 o (.done v)) : pcW hcfg 24 [V.sl a0, V.agg [V.str a1Key, V.str a1Value]] = some v := pcW_go hik rfl fa24_eq ((e24_eq a0 a1Key a1Value).trans h) hg
theorem e24_done (a0 : List V) (a1Key : List UInt8) (a1Value : List UInt8) {v : V} (h : e24 a0 a1Key a1Value = some (.done v)) : pcW hcfg 24 [V.sl a0, V.agg [V.str a1Key, V.str a1Value]] = some v := e24_run a0 a1Key a1Value h (.refl _)
/-! ### budwood/budwoodref23.Lay -/
noncomputable def fa25 : FA := ⟨2, 33, [.tmp 4], [22],
 (.seq
 (.ops false [⟨(some 3), .box 46 (.tmp 1), 0, none⟩, ⟨(some 4), .assign (.const (.slice none 0 0)), 22, none⟩])
 (.seq
 (.ops false [mv 9 0 22, ⟨(some 10), .fieldAddr 46 (.tmp 3) 0, 0, none⟩, ⟨(some 11), .load 9 (.tmp 10), 9, none⟩, ⟨(some 12), .call ⟨(.value (.func 23)), #[(.tmp 9), (.tmp 11)], #[22, 9]⟩, 47, none⟩, mv 8 12 47, ⟨(some 13), .extract (.tmp 8) 0, 3, none⟩, ⟨(some 14), .extract (.tmp 8) 1, 4, none⟩, asg 5 13 3, asg 6 14 4])
 (.seq
 (.ops false [⟨(some 15), .buildSlice 22 0 #[], 22, none⟩, mv 16 0 22, mv 17 5 3, ⟨(some 18), .slice 22 (.tmp 16) none (some (.tmp 17)) none, 22, none⟩, ⟨(some 19), .call ⟨(.builtin .append), #[(.tmp 15), (.tmp 18)], #[22, 22]⟩, 22, none⟩, asg 7 19 22])
 (.seq
 (.ops false [mv 20 7 22, ⟨(some 21), .load 46 (.tmp 3), 46, none⟩, ⟨(some 22), .buildSlice 22 1 #[(0, (.tmp 21))], 22, none⟩, ⟨(some 23), .call ⟨(.builtin .append), #[(.tmp 20), (.tmp 22)], #[22, 22]⟩, 22, none⟩, asg 7 23 22])
 (.seq
 (.ops true [mv 24 7 22, mv 25 0 22, mv 26 5 3, ⟨(some 27), .slice 22 (.tmp 25) (some (.tmp 26)) none none, 22, none⟩, ⟨(some 28), .fieldAddr 46 (.tmp 3) 0, 0, none⟩, ⟨(some 29), .load 9 (.tmp 28), 9, none⟩, ⟨(some 30), .call ⟨(.value (.func 27)), #[(.tmp 27), (.tmp 29)], #[22, 9]⟩, 22, none⟩, ⟨(some 31), .call ⟨(.builtin .append), #[(.tmp 24), (.tmp 30)], #[22, 22]⟩, 22, none⟩, asg 7 31 22])
 (.seq
 (.ops false [mv 32 7 22, asg 4 32 22])
 (.ret)))))))⟩
theorem fa25_eq : fnA hcfg.P 25 = some fa25 := by kernel_rfl
noncomputable def e25 (a0 : List V) (a1Key : List UInt8) (a1Value : List UInt8) : R :=
  pcK hcfg 23 [V.sl a0, V.str a1Key] fun r =>
  d47 r fun r23_0 r23_1 =>
  gd (wfl 2 a0) <|
  gd (decide (0 ≤ r23_0)) <|
  gd (decide (r23_0.toNat ≤ a0.length)) <|
  gd (wfl 2 (a0.take r23_0.toNat)) <|
  gd (decide (0 + (a0.take r23_0.toNat).length ≤ 16777216)) <|
  gd (decide ((a0.take r23_0.toNat).length + ([V.agg [V.str a1Key, V.str a1Value]] : List V).length ≤ 16777216)) <|
  gd (wfl 2 a0) <|
  gd (decide (0 ≤ r23_0)) <|
  gd (decide (r23_0.toNat ≤ a0.length)) <|
  pcK hcfg 27 [V.sl ((a0.take a0.length).drop r23_0.toNat), V.str a1Key] fun r_1 =>
  kF 46 r_1 fun r27 =>
  gd (wfl 2 r27) <|
  gd (decide (((a0.take r23_0.toNat) ++ [V.agg [V.str a1Key, V.str a1Value]]).length + r27.length ≤ 16777216)) <|
  gd ((((a0.take r23_0.toNat) ++ [V.agg [V.str a1Key, V.str a1Value]]) ++ r27 : List V).all fun x => x.cells.all V.flat1) <|
  some (.done (V.fr 46 (((a0.take r23_0.toNat) ++ [V.agg [V.str a1Key, V.str a1Value]]) ++ r27)))
theorem e25_eq (a0 : List V) (a1Key : List UInt8) (a1Value : List UInt8) : enterK hk false fa25 [V.sl a0, V.agg [V.str a1Key, V.str a1Value]] [] = e25 a0 a1Key a1Value := by kernel_rfl
theorem e25_run (a0 : List V) (a1Key : List UInt8) (a1Value : List UInt8) {o : Out} {v : V} (h : e25 a0 a1Key a1Value = some o) (hg : Go hk false 0 fa25 o (.done v)) : pcW hcfg 25 [V.sl a0, V.agg [V.str a1Key, V.str a1Value]] = some v := pcW_go hik rfl fa25_eq ((e25_eq a0 a1Key a1Value).trans h) hg
theorem e25_done (a0 : List V) (a1Key : List UInt8) (a1Value : List UInt8) {v : V} (h : e25 a0 a1Key a1Value = some (.done v)) : pcW hcfg 25 [V.sl a0, V.agg [V.str a1Key, V.str a1Value]] = some v := e25_run a0 a1Key a1Value h (.refl _)
/-! ### budwood/hist.Cut -/
noncomputable def fa26 : FA := ⟨2, 23, [.tmp 4], [22],
 (.seq
 (.ops false [⟨(some 4), .assign (.const (.slice none 0 0)), 22, none⟩])
 (.seq
 (.ops false [mv 9 0 22, mv 10 1 9, ⟨(some 11), .call ⟨(.value (.func 22)), #[(.tmp 9), (.tmp 10)], #[22, 9]⟩, 47, none⟩, mv 8 11 47, ⟨(some 12), .extract (.tmp 8) 0, 3, none⟩, ⟨(some 13), .extract (.tmp 8) 1, 4, none⟩, asg 5 12 3, asg 6 13 4])
 (.seq
 (.ops false [mv 14 0 22, ⟨(some 15), .call ⟨(.value (.func 30)), #[(.tmp 14)], #[22]⟩, 22, none⟩, asg 7 15 22])
 (.seq
 (.seq
 (.ops false [mv 16 6 4])
 (.cond (.tmp 16)
 (.ops false [mv 17 7 22, mv 18 5 3, mv 19 5 3, ⟨(some 20), .binOp .add 3 (.tmp 19) (.const (.int .i64 (1))) 3, 3, none⟩, ⟨(some 21), .call ⟨(.value (.func 39)), #[(.tmp 17), (.tmp 18), (.tmp 20)], #[22, 3, 3]⟩, 22, none⟩, asg 7 21 22])
 (.skip)))
 (.seq
 (.ops false [mv 22 7 22, asg 4 22 22])
 (.ret))))))⟩
theorem fa26_eq : fnA hcfg.P 26 = some fa26 := by kernel_rfl
noncomputable def e26 (a0 : List V) (a1 : List UInt8) : R :=
  pcK hcfg 22 [V.sl a0, V.str a1] fun r =>
  d47 r fun r22_0 r22_1 =>
  pcK hcfg 30 [V.sl a0] fun r_1 =>
  kF 46 r_1 fun r30 =>
  cond r22_1
 (gd (decide (0 ≤ r22_0 ∧ r22_0 ≤ W .i64 (r22_0 + 1) ∧ (W .i64 (r22_0 + 1)).toNat ≤ r30.length ∧ r30.length ≤ 16777216)) <|
  gd (((r30.take r22_0.toNat) ++ (r30.drop ((W .i64 (r22_0 + 1)).toNat)) : List V).all fun x => x.cells.all V.flat1) <|
  some (.done (V.fr 46 ((r30.take r22_0.toNat) ++ (r30.drop ((W .i64 (r22_0 + 1)).toNat))))))
 (gd ((r30 : List V).all fun x => x.cells.all V.flat1) <|
  some (.done (V.fr 46 r30)))
theorem e26_eq (a0 : List V) (a1 : List UInt8) : enterK hk false fa26 [V.sl a0, V.str a1] [] = e26 a0 a1 := by kernel_rfl
theorem e26_run (a0 : List V) (a1 : List UInt8) {o : Out} {v : V} (h : e26 a0 a1 = some o) (hg : Go hk false 0 fa26 o (.done v)) : pcW hcfg 26 [V.sl a0, V.str a1] = some v := pcW_go hik rfl fa26_eq ((e26_eq a0 a1).trans h) hg
theorem e26_done (a0 : List V) (a1 : List UInt8) {v : V} (h : e26 a0 a1 = some (.done v)) : pcW hcfg 26 [V.sl a0, V.str a1] = some v := e26_run a0 a1 h (.refl _)
/-! ### budwood/hist.Do -/
noncomputable def fa11 : FA := ⟨2, 85, [.tmp 4, .tmp 5], [22, 4],
 (.seq
 (.ops false [⟨(some 3), .box 30 (.tmp 1), 0, none⟩, ⟨(some 4), .assign (.const (.slice none 0 0)), 22, none⟩, ⟨(some 5), .assign (.const (.bool false)), 4, none⟩])
 (.seq
 (.ops false [mv 11 0 22, ⟨(some 12), .fieldAddr 30 (.tmp 3) 2, 0, none⟩, ⟨(some 13), .load 9 (.tmp 12), 9, none⟩, ⟨(some 14), .call ⟨(.value (.func 22)), #[(.tmp 11), (.tmp 13)], #[22, 9]⟩, 47, none⟩, mv 10 14 47, ⟨(some 15), .extract (.tmp 10) 0, 3, none⟩, ⟨(some 16), .extract (.tmp 10) 1, 4, none⟩, asg 6 15 3, asg 7 16 4])
 (.seq
 (.seq
 (.ops false [⟨(some 17), .fieldAddr 30 (.tmp 3) 1, 0, none⟩, ⟨(some 18), .load 3 (.tmp 17), 3, none⟩])
 (.block 0
 (.seq
 (.ops false [⟨(some 20), .binOp .eql 3 (.tmp 18) (.const (.int .i64 (2))) 3, 4, none⟩, asg 19 20 4])
 (.cond (.tmp 19)
 (.seq
 (.ops false [⟨(some 8), .assign (.const (.string ⟨⟨[]⟩⟩)), 9, none⟩])
 (.seq
 (.seq
 (.ops false [mv 21 7 4])
 (.cond (.tmp 21)
 (.ops false [mv 22 0 22, mv 23 6 3, ⟨(some 24), .indexAddr 22 (.tmp 22) (.tmp 23), 0, none⟩, ⟨(some 25), .fieldAddr 46 (.tmp 24) 1, 0, none⟩, ⟨(some 26), .load 9 (.tmp 25), 9, none⟩, asg 8 26 9])
 (.skip)))
 (.seq
 (.ops true [mv 27 0 22, ⟨(some 28), .call ⟨(.value (.func 30)), #[(.tmp 27)], #[22]⟩, 22, none⟩, ⟨(some 29), .fieldAddr 30 (.tmp 3) 6, 0, none⟩, ⟨(some 30), .load 4 (.tmp 29), 4, none⟩, mv 31 7 4, ⟨(some 32), .binOp .eql 4 (.tmp 30) (.tmp 31) 4, 4, none⟩, mv 33 32 4, ⟨(some 34), .fieldAddr 30 (.tmp 3) 3, 0, (some (33, true))⟩, ⟨(some 35), .load 9 (.tmp 34), 9, (some (33, true))⟩, ⟨(some 36), .move (.tmp 8), 9, (some (33, true))⟩, ⟨(some 37), .binOp .eql 9 (.tmp 35) (.tmp 36) 9, 4, (some (33, true))⟩, ⟨(some 38), .pick (.tmp 33) (.tmp 37) (.const (.bool false)), 4, none⟩, asg 4 28 22, asg 5 38 4])
 (.ret))))
 (.seq
 (.ops false [⟨(some 40), .binOp .eql 3 (.tmp 18) (.const (.int .i64 (3))) 3, 4, none⟩, asg 39 40 4])
 (.cond (.tmp 39)
 (.seq
 (.ops true [mv 41 0 22, ⟨(some 42), .fieldAddr 30 (.tmp 3) 2, 0, none⟩, ⟨(some 43), .load 9 (.tmp 42), 9, none⟩, ⟨(some 44), .fieldAddr 30 (.tmp 3) 3, 0, none⟩, ⟨(some 45), .load 9 (.tmp 44), 9, none⟩, ⟨(some 46), .build 46 #[(0, (.tmp 43)), (1, (.tmp 45))], 46, none⟩, ⟨(some 47), .call ⟨(.value (.func 24)), #[(.tmp 41), (.tmp 46)], #[22, 46]⟩, 22, none⟩, ⟨(some 48), .fieldAddr 30 (.tmp 3) 6, 0, none⟩, ⟨(some 49), .load 4 (.tmp 48), 4, none⟩, mv 50 7 4, ⟨(some 51), .binOp .neq 4 (.tmp 49) (.tmp 50) 4, 4, none⟩, asg 4 47 22, asg 5 51 4])
 (.ret))
 (.seq
 (.ops false [⟨(some 53), .binOp .eql 3 (.tmp 18) (.const (.int .i64 (4))) 3, 4, none⟩, asg 52 53 4])
 (.cond (.tmp 52)
 (.seq
 (.ops true [mv 54 0 22, ⟨(some 55), .fieldAddr 30 (.tmp 3) 2, 0, none⟩, ⟨(some 56), .load 9 (.tmp 55), 9, none⟩, ⟨(some 57), .call ⟨(.value (.func 26)), #[(.tmp 54), (.tmp 56)], #[22, 9]⟩, 22, none⟩, ⟨(some 58), .fieldAddr 30 (.tmp 3) 6, 0, none⟩, ⟨(some 59), .load 4 (.tmp 58), 4, none⟩, mv 60 7 4, ⟨(some 61), .binOp .eql 4 (.tmp 59) (.tmp 60) 4, 4, none⟩, asg 4 57 22, asg 5 61 4])
 (.ret))
 (.seq
 (.ops false [⟨(some 63), .binOp .eql 3 (.tmp 18) (.const (.int .i64 (5))) 3, 4, none⟩, asg 62 63 4])
 (.cond (.tmp 62)
 (.seq
 (.ops false [⟨(some 64), .fieldAddr 30 (.tmp 3) 4, 0, none⟩, ⟨(some 65), .load 3 (.tmp 64), 3, none⟩, mv 66 0 22, ⟨(some 67), .call ⟨(.builtin .len), #[(.tmp 66)], #[22]⟩, 3, none⟩, mv 68 6 3, ⟨(some 69), .binOp .sub 3 (.tmp 67) (.tmp 68) 3, 3, none⟩, ⟨(some 70), .call ⟨(.builtin .min), #[(.tmp 65), (.tmp 69)], #[3, 3]⟩, 3, none⟩, ⟨(some 71), .call ⟨(.builtin .max), #[(.const (.int .i64 (0))), (.tmp 70)], #[3, 3]⟩, 3, none⟩, asg 9 71 3])
 (.seq
 (.ops true [mv 72 0 22, ⟨(some 73), .call ⟨(.value (.func 30)), #[(.tmp 72)], #[22]⟩, 22, none⟩, mv 74 0 22, mv 75 6 3, mv 76 6 3, mv 77 9 3, ⟨(some 78), .binOp .add 3 (.tmp 76) (.tmp 77) 3, 3, none⟩, ⟨(some 79), .slice 22 (.tmp 74) (some (.tmp 75)) (some (.tmp 78)) none, 22, none⟩, ⟨(some 80), .fieldAddr 30 (.tmp 3) 5, 0, none⟩, ⟨(some 81), .load 22 (.tmp 80), 22, none⟩, ⟨(some 82), .call ⟨(.value (.func 31)), #[(.tmp 79), (.tmp 81)], #[22, 22]⟩, 4, none⟩, asg 4 73 22, asg 5 82 4])
 (.ret)))
 (.skip)))))))))))
 (.seq
 (.ops false [mv 83 0 22, ⟨(some 84), .call ⟨(.value (.func 30)), #[(.tmp 83)], #[22]⟩, 22, none⟩, asg 4 84 22, ⟨(some 5), .assign (.const (.bool true)), 4, none⟩])
 (.ret)))))⟩
theorem fa11_eq : fnA hcfg.P 11 = some fa11 := by kernel_rfl
noncomputable def e11 (a0 : List V) (a1Txn : Int) (a1Kind : Int) (a1Key : List UInt8) (a1Value : List UInt8) (a1N : Int) (a1Pairs : List V) (a1Is : Bool) : R :=
  pcK hcfg 22 [V.sl a0, V.str a1Key] fun r =>
  d47 r fun r22_0 r22_1 =>
  cond (a1Kind == (2 : Int))
 (cond r22_1
 (gd (decide (0 ≤ r22_0)) <|
  idxK a0 r22_0.toNat fun v =>
  d46 v fun key value =>
  pcK hcfg 30 [V.sl a0] fun r_1 =>
  kF 46 r_1 fun r30 =>
  cond (a1Is == r22_1)
 (some (.done (V.tup [V.sl r30, V.bool (a1Value == value)])))
 (some (.done (V.tup [V.sl r30, V.bool false]))))
 (pcK hcfg 30 [V.sl a0] fun r_2 =>
  kF 46 r_2 fun r30_1 =>
  cond (a1Is == r22_1)
 (some (.done (V.tup [V.sl r30_1, V.bool (a1Value == [])])))
 (some (.done (V.tup [V.sl r30_1, V.bool false])))))
 (cond (a1Kind == (3 : Int))
 (pcK hcfg 24 [V.sl a0, V.agg [V.str a1Key, V.str a1Value]] fun r_3 =>
  kF 46 r_3 fun r24 =>
  some (.done (V.tup [V.sl r24, V.bool (!(a1Is == r22_1))])))
 (cond (a1Kind == (4 : Int))
 (pcK hcfg 26 [V.sl a0, V.str a1Key] fun r_4 =>
  kF 46 r_4 fun r26 =>
  some (.done (V.tup [V.sl r26, V.bool (a1Is == r22_1)])))
 (cond (a1Kind == (5 : Int))
 (pcK hcfg 30 [V.sl a0] fun r_5 =>
  kF 46 r_5 fun r30_2 =>
  gd (wfl 2 a0) <|
  gd (decide (0 ≤ r22_0)) <|
  gd (decide (0 ≤ W .i64 (r22_0 + (if 0 < (if W .i64 ((a0.length : Int) - r22_0) < a1N then W .i64 ((a0.length : Int) - r22_0) else a1N) then (if W .i64 ((a0.length : Int) - r22_0) < a1N then W .i64 ((a0.length : Int) - r22_0) else a1N) else 0)))) <|
  gd (decide (r22_0.toNat ≤ (W .i64 (r22_0 + (if 0 < (if W .i64 ((a0.length : Int) - r22_0) < a1N then W .i64 ((a0.length : Int) - r22_0) else a1N) then (if W .i64 ((a0.length : Int) - r22_0) < a1N then W .i64 ((a0.length : Int) - r22_0) else a1N) else 0))).toNat)) <|
  gd (decide ((W .i64 (r22_0 + (if 0 < (if W .i64 ((a0.length : Int) - r22_0) < a1N then W .i64 ((a0.length : Int) - r22_0) else a1N) then (if W .i64 ((a0.length : Int) - r22_0) < a1N then W .i64 ((a0.length : Int) - r22_0) else a1N) else 0))).toNat ≤ a0.length)) <|
  pcK hcfg 31 [V.sl ((a0.take ((W .i64 (r22_0 + (if 0 < (if W .i64 ((a0.length : Int) - r22_0) < a1N then W .i64 ((a0.length : Int) - r22_0) else a1N) then (if W .i64 ((a0.length : Int) - r22_0) < a1N then W .i64 ((a0.length : Int) - r22_0) else a1N) else 0))).toNat)).drop r22_0.toNat), V.sl a1Pairs] fun r_6 =>
  kB r_6 fun r31 =>
  some (.done (V.tup [V.sl r30_2, V.bool r31])))
 (pcK hcfg 30 [V.sl a0] fun r_7 =>
  kF 46 r_7 fun r30_3 =>
  some (.done (V.tup [V.sl r30_3, V.bool true]))))))
theorem e11_eq (a0 : List V) (a1Txn : Int) (a1Kind : Int) (a1Key : List UInt8) (a1Value : List UInt8) (a1N : Int) (a1Pairs : List V) (a1Is : Bool) : enterK hk false fa11 [V.sl a0, V.agg [V.int .i64 a1Txn, V.int .i64 a1Kind, V.str a1Key, V.str a1Value, V.int .i64 a1N, V.sl a1Pairs, V.bool a1Is]] [] = e11 a0 a1Txn a1Kind a1Key a1Value a1N a1Pairs a1Is := by kernel_rfl
theorem e11_run (a0 : List V) (a1Txn : Int) (a1Kind : Int) (a1Key : List UInt8) (a1Value : List UInt8) (a1N : Int) (a1Pairs : List V) (a1Is : Bool) {o : Out} {v : V} (h : e11 a0 a1Txn a1Kind a1Key a1Value a1N a1Pairs a1Is = some o) (hg : Go hk false 0 fa11 o (.done v)) : pcW hcfg 11 [V.sl a0, V.agg [V.int .i64 a1Txn, V.int .i64 a1Kind, V.str a1Key, V.str a1Value, V.int .i64 a1N, V.sl a1Pairs, V.bool a1Is]] = some v := pcW_go hik rfl fa11_eq ((e11_eq a0 a1Txn a1Kind a1Key a1Value a1N a1Pairs a1Is).trans h) hg
theorem e11_done (a0 : List V) (a1Txn : Int) (a1Kind : Int) (a1Key : List UInt8) (a1Value : List UInt8) (a1N : Int) (a1Pairs : List V) (a1Is : Bool) {v : V} (h : e11 a0 a1Txn a1Kind a1Key a1Value a1N a1Pairs a1Is = some (.done v)) : pcW hcfg 11 [V.sl a0, V.agg [V.int .i64 a1Txn, V.int .i64 a1Kind, V.str a1Key, V.str a1Value, V.int .i64 a1N, V.sl a1Pairs, V.bool a1Is]] = some v := e11_run a0 a1Txn a1Kind a1Key a1Value a1N a1Pairs a1Is h (.refl _)
/-! ### budwood/budwoodref23.Do -/
noncomputable def fa12 : FA := ⟨2, 99, [.tmp 4, .tmp 5], [22, 4],
 (.seq
 (.ops false [⟨(some 3), .box 28 (.tmp 1), 0, none⟩, ⟨(some 4), .assign (.const (.slice none 0 0)), 22, none⟩, ⟨(some 5), .assign (.const (.bool false)), 4, none⟩])
 (.seq
 (.ops false [mv 11 0 22, ⟨(some 12), .fieldAddr 28 (.tmp 3) 2, 0, none⟩, ⟨(some 13), .load 9 (.tmp 12), 9, none⟩, ⟨(some 14), .call ⟨(.value (.func 23)), #[(.tmp 11), (.tmp 13)], #[22, 9]⟩, 47, none⟩, mv 10 14 47, ⟨(some 15), .extract (.tmp 10) 0, 3, none⟩, ⟨(some 16), .extract (.tmp 10) 1, 4, none⟩, asg 6 15 3, asg 7 16 4])
 (.seq
 (.seq
 (.ops false [⟨(some 17), .fieldAddr 28 (.tmp 3) 1, 0, none⟩, ⟨(some 18), .load 3 (.tmp 17), 3, none⟩])
 (.block 0
 (.seq
 (.ops false [⟨(some 20), .binOp .eql 3 (.tmp 18) (.const (.int .i64 (2))) 3, 4, none⟩, asg 19 20 4])
 (.cond (.tmp 19)
 (.seq
 (.seq
 (.ops false [mv 21 7 4, ⟨(some 22), .unOp .not 4 (.tmp 21), 4, none⟩])
 (.cond (.tmp 22)
 (.seq
 (.ops true [mv 23 0 22, ⟨(some 24), .fieldAddr 28 (.tmp 3) 6, 0, none⟩, ⟨(some 25), .load 4 (.tmp 24), 4, none⟩, ⟨(some 26), .unOp .not 4 (.tmp 25), 4, none⟩, mv 27 26 4, ⟨(some 28), .fieldAddr 28 (.tmp 3) 3, 0, (some (27, true))⟩, ⟨(some 29), .load 9 (.tmp 28), 9, (some (27, true))⟩, ⟨(some 30), .binOp .eql 9 (.tmp 29) (.const (.string ⟨⟨[]⟩⟩)) 9, 4, (some (27, true))⟩, ⟨(some 31), .pick (.tmp 27) (.tmp 30) (.const (.bool false)), 4, none⟩, asg 4 23 22, asg 5 31 4])
 (.ret))
 (.skip)))
 (.seq
 (.ops true [mv 32 0 22, ⟨(some 33), .fieldAddr 28 (.tmp 3) 6, 0, none⟩, ⟨(some 34), .load 4 (.tmp 33), 4, none⟩, mv 35 34 4, ⟨(some 36), .fieldAddr 28 (.tmp 3) 3, 0, (some (35, true))⟩, ⟨(some 37), .load 9 (.tmp 36), 9, (some (35, true))⟩, ⟨(some 38), .move (.tmp 0), 22, (some (35, true))⟩, ⟨(some 39), .move (.tmp 6), 3, (some (35, true))⟩, ⟨(some 40), .indexAddr 22 (.tmp 38) (.tmp 39), 0, (some (35, true))⟩, ⟨(some 41), .fieldAddr 46 (.tmp 40) 1, 0, (some (35, true))⟩, ⟨(some 42), .load 9 (.tmp 41), 9, (some (35, true))⟩, ⟨(some 43), .binOp .eql 9 (.tmp 37) (.tmp 42) 9, 4, (some (35, true))⟩, ⟨(some 44), .pick (.tmp 35) (.tmp 43) (.const (.bool false)), 4, none⟩, asg 4 32 22, asg 5 44 4])
 (.ret)))
 (.seq
 (.ops false [⟨(some 46), .binOp .eql 3 (.tmp 18) (.const (.int .i64 (3))) 3, 4, none⟩, asg 45 46 4])
 (.cond (.tmp 45)
 (.seq
 (.ops true [mv 47 0 22, ⟨(some 48), .fieldAddr 28 (.tmp 3) 2, 0, none⟩, ⟨(some 49), .load 9 (.tmp 48), 9, none⟩, ⟨(some 50), .fieldAddr 28 (.tmp 3) 3, 0, none⟩, ⟨(some 51), .load 9 (.tmp 50), 9, none⟩, ⟨(some 52), .build 46 #[(0, (.tmp 49)), (1, (.tmp 51))], 46, none⟩, ⟨(some 53), .call ⟨(.value (.func 25)), #[(.tmp 47), (.tmp 52)], #[22, 46]⟩, 22, none⟩, ⟨(some 54), .fieldAddr 28 (.tmp 3) 6, 0, none⟩, ⟨(some 55), .load 4 (.tmp 54), 4, none⟩, mv 56 7 4, ⟨(some 57), .binOp .neq 4 (.tmp 55) (.tmp 56) 4, 4, none⟩, asg 4 53 22, asg 5 57 4])
 (.ret))
 (.seq
 (.ops false [⟨(some 59), .binOp .eql 3 (.tmp 18) (.const (.int .i64 (4))) 3, 4, none⟩, asg 58 59 4])
 (.cond (.tmp 58)
 (.seq
 (.ops true [mv 60 0 22, ⟨(some 61), .fieldAddr 28 (.tmp 3) 2, 0, none⟩, ⟨(some 62), .load 9 (.tmp 61), 9, none⟩, ⟨(some 63), .call ⟨(.value (.func 27)), #[(.tmp 60), (.tmp 62)], #[22, 9]⟩, 22, none⟩, ⟨(some 64), .fieldAddr 28 (.tmp 3) 6, 0, none⟩, ⟨(some 65), .load 4 (.tmp 64), 4, none⟩, mv 66 7 4, ⟨(some 67), .binOp .eql 4 (.tmp 65) (.tmp 66) 4, 4, none⟩, asg 4 63 22, asg 5 67 4])
 (.ret))
 (.seq
 (.ops false [⟨(some 69), .binOp .eql 3 (.tmp 18) (.const (.int .i64 (5))) 3, 4, none⟩, asg 68 69 4])
 (.cond (.tmp 68)
 (.seq
 (.ops false [⟨(some 70), .buildSlice 22 0 #[], 22, none⟩, asg 8 70 22])
 (.seq
 (.seq
 (.ops false [mv 71 6 3, asg 9 71 3])
 (.block 1
 (.loop ([1, 2, 7] ++ List.range' 10 89)
 (.seq
 (.seq
 (.ops false [mv 72 9 3, mv 73 0 22, ⟨(some 74), .call ⟨(.builtin .len), #[(.tmp 73)], #[22]⟩, 3, none⟩, ⟨(some 75), .binOp .lss 3 (.tmp 72) (.tmp 74) 3, 4, none⟩, mv 76 75 4, ⟨(some 77), .move (.tmp 9), 3, (some (76, true))⟩, ⟨(some 78), .move (.tmp 6), 3, (some (76, true))⟩, ⟨(some 79), .binOp .sub 3 (.tmp 77) (.tmp 78) 3, 3, (some (76, true))⟩, ⟨(some 80), .fieldAddr 28 (.tmp 3) 4, 0, (some (76, true))⟩, ⟨(some 81), .load 3 (.tmp 80), 3, (some (76, true))⟩, ⟨(some 82), .binOp .lss 3 (.tmp 79) (.tmp 81) 3, 4, (some (76, true))⟩, ⟨(some 83), .pick (.tmp 76) (.tmp 82) (.const (.bool false)), 4, none⟩])
 (.cond (.tmp 83)
 (.skip)
 (.exit 1)))
 (.seq
 (.block 2
 (.ops false [mv 86 8 22, mv 87 0 22, mv 88 9 3, ⟨(some 89), .indexAddr 22 (.tmp 87) (.tmp 88), 0, none⟩, ⟨(some 90), .load 46 (.tmp 89), 46, none⟩, ⟨(some 91), .buildSlice 22 1 #[(0, (.tmp 90))], 22, none⟩, ⟨(some 92), .call ⟨(.builtin .append), #[(.tmp 86), (.tmp 91)], #[22, 22]⟩, 22, none⟩, asg 8 92 22]))
 (.ops false [mv 84 9 3, ⟨(some 85), .binOp .add 3 (.tmp 84) (.const (.int .i64 (1))) 3, 3, none⟩, asg 9 85 3]))))))
 (.seq
 (.ops false [mv 93 0 22, ⟨(some 94), .fieldAddr 28 (.tmp 3) 5, 0, none⟩, ⟨(some 95), .load 22 (.tmp 94), 22, none⟩, mv 96 8 22, ⟨(some 97), .call ⟨(.value (.func 13)), #[(.tmp 95), (.tmp 96)], #[22, 22]⟩, 4, none⟩, asg 4 93 22, asg 5 97 4])
 (.ret))))
 (.skip)))))))))))
 (.seq
 (.ops false [mv 98 0 22, asg 4 98 22, ⟨(some 5), .assign (.const (.bool true)), 4, none⟩])
 (.ret)))))⟩
theorem fa12_eq : fnA hcfg.P 12 = some fa12 := by kernel_rfl
def T12_0 (x0 : List V) (x6 : Int) (x9 : Int) (m0_0 : Int) (m0_1 : Int) (m0_2 : List UInt8) (m0_3 : List UInt8) (m0_4 : Int) (m0_5 : List V) (m0_6 : Bool) (m2 : List V) : S := ⟨[V.sl x0, V.junk, V.junk, V.ptr 0 0 0, V.own 1, V.bool false, V.int .i64 x6, V.junk, V.own 2, V.int .i64 x9] ++ (JU 89), [O.box 28 (V.agg [V.int .i64 m0_0, V.int .i64 m0_1, V.str m0_2, V.str m0_3, V.int .i64 m0_4, V.sl m0_5, V.bool m0_6]) false, O.row 46 [] 0, O.row 46 m2 0]⟩
noncomputable def e12 (a0 : List V) (a1Txn : Int) (a1Kind : Int) (a1Key : List UInt8) (a1Value : List UInt8) (a1N : Int) (a1Pairs : List V) (a1Is : Bool) : R :=
  pcK hcfg 23 [V.sl a0, V.str a1Key] fun r =>
  d47 r fun r23_0 r23_1 =>
  cond (a1Kind == (2 : Int))
 (cond (!r23_1)
 (cond (!a1Is)
 (some (.done (V.tup [V.sl a0, V.bool (a1Value == [])])))
 (some (.done (V.tup [V.sl a0, V.bool false]))))
 (cond a1Is
 (gd (decide (0 ≤ r23_0)) <|
  idxK a0 r23_0.toNat fun v =>
  d46 v fun key value =>
  some (.done (V.tup [V.sl a0, V.bool (a1Value == value)])))
 (some (.done (V.tup [V.sl a0, V.bool false])))))
 (cond (a1Kind == (3 : Int))
 (pcK hcfg 25 [V.sl a0, V.agg [V.str a1Key, V.str a1Value]] fun r_1 =>
  kF 46 r_1 fun r25 =>
  some (.done (V.tup [V.sl r25, V.bool (!(a1Is == r23_1))])))
 (cond (a1Kind == (4 : Int))
 (pcK hcfg 27 [V.sl a0, V.str a1Key] fun r_2 =>
  kF 46 r_2 fun r27 =>
  some (.done (V.tup [V.sl r27, V.bool (a1Is == r23_1)])))
 (cond (a1Kind == (5 : Int))
 (some (.head 0 (T12_0 a0 r23_0 r23_0 a1Txn a1Kind a1Key a1Value a1N a1Pairs a1Is [])))
 (some (.done (V.tup [V.sl a0, V.bool true]))))))
theorem e12_eq (a0 : List V) (a1Txn : Int) (a1Kind : Int) (a1Key : List UInt8) (a1Value : List UInt8) (a1N : Int) (a1Pairs : List V) (a1Is : Bool) : enterK hk false fa12 [V.sl a0, V.agg [V.int .i64 a1Txn, V.int .i64 a1Kind, V.str a1Key, V.str a1Value, V.int .i64 a1N, V.sl a1Pairs, V.bool a1Is]] [] = e12 a0 a1Txn a1Kind a1Key a1Value a1N a1Pairs a1Is := by kernel_rfl
theorem e12_run (a0 : List V) (a1Txn : Int) (a1Kind : Int) (a1Key : List UInt8) (a1Value : List UInt8) (a1N : Int) (a1Pairs : List V) (a1Is : Bool) {o : Out} {v : V} (h : e12 a0 a1Txn a1Kind a1Key a1Value a1N a1Pairs a1Is = some o) (hg : Go hk false 0 fa12 o (.done v)) : pcW hcfg 12 [V.sl a0, V.agg [V.int .i64 a1Txn, V.int .i64 a1Kind, V.str a1Key, V.str a1Value, V.int .i64 a1N, V.sl a1Pairs, V.bool a1Is]] = some v := pcW_go hik rfl fa12_eq ((e12_eq a0 a1Txn a1Kind a1Key a1Value a1N a1Pairs a1Is).trans h) hg
noncomputable def s12_0 (x0 : List V) (x6 : Int) (x9 : Int) (m0_0 : Int) (m0_1 : Int) (m0_2 : List UInt8) (m0_3 : List UInt8) (m0_4 : Int) (m0_5 : List V) (m0_6 : Bool) (m2 : List V) : R :=
  cond (decide (x9 < (x0.length : Int)))
 (cond (decide (W .i64 (x9 - x6) < m0_4))
 (gd (decide (0 ≤ x9)) <|
  idxK x0 x9.toNat fun v =>
  d46 v fun key value =>
  gd (decide (m2.length + ([V.agg [V.str key, V.str value]] : List V).length ≤ 16777216)) <|
  some (.head 0 (T12_0 x0 x6 (W .i64 (x9 + 1)) m0_0 m0_1 m0_2 m0_3 m0_4 m0_5 m0_6 (m2 ++ [V.agg [V.str key, V.str value]]))))
 (pcK hcfg 13 [V.sl m0_5, V.sl m2] fun r =>
  kB r fun r13 =>
  some (.done (V.tup [V.sl x0, V.bool r13]))))
 (pcK hcfg 13 [V.sl m0_5, V.sl m2] fun r_1 =>
  kB r_1 fun r13_1 =>
  some (.done (V.tup [V.sl x0, V.bool r13_1])))
theorem s12_0_eq (x0 : List V) (x6 : Int) (x9 : Int) (m0_0 : Int) (m0_1 : Int) (m0_2 : List UInt8) (m0_3 : List UInt8) (m0_4 : Int) (m0_5 : List V) (m0_6 : Bool) (m2 : List V) : goK hk false 0 fa12 0 (T12_0 x0 x6 x9 m0_0 m0_1 m0_2 m0_3 m0_4 m0_5 m0_6 m2) = s12_0 x0 x6 x9 m0_0 m0_1 m0_2 m0_3 m0_4 m0_5 m0_6 m2 := by kernel_rfl
theorem s12_0_run (x0 : List V) (x6 : Int) (x9 : Int) (m0_0 : Int) (m0_1 : Int) (m0_2 : List UInt8) (m0_3 : List UInt8) (m0_4 : Int) (m0_5 : List V) (m0_6 : Bool) (m2 : List V) {o o' : Out} (h : s12_0 x0 x6 x9 m0_0 m0_1 m0_2 m0_3 m0_4 m0_5 m0_6 m2 = some o) (hg : Go hk false 0 fa12 o o') : Go hk false 0 fa12 (.head 0 (T12_0 x0 x6 x9 m0_0 m0_1 m0_2 m0_3 m0_4 m0_5 m0_6 m2)) o' := .step ((s12_0_eq x0 x6 x9 m0_0 m0_1 m0_2 m0_3 m0_4 m0_5 m0_6 m2).trans h) hg
/-! ### budwood/hist.spans -/
noncomputable def fa32 : FA := ⟨1, 58, [.tmp 2, .tmp 3], [53, 4],
 (.seq
 (.ops false [⟨(some 2), .assign (.const (.slice none 0 0)), 53, none⟩, ⟨(some 3), .assign (.const (.bool false)), 4, none⟩])
 (.seq
 (.ops false [⟨(some 4), .assign (.const (.slice none 0 0)), 53, none⟩])
 (.seq
 (.ops false [⟨(some 10), .makeMap 64 none, 64, none⟩, asg 5 10 64])
 (.seq
 (.seq
 (.ops false [mv 11 0 23, ⟨(some 12), .call ⟨(.builtin .len), #[(.tmp 11)], #[23]⟩, 3, none⟩, ⟨(some 13), .move (.const (.int .i64 (0))), 3, none⟩])
 (.block 0
 (.loop ([0, 1] ++ List.range' 6 5 ++ List.range' 14 44)
 (.seq
 (.ops false [⟨(some 14), .binOp .lss 3 (.tmp 13) (.tmp 12) 3, 0, none⟩])
 (.seq
 (.cond (.tmp 14)
 (.skip)
 (.exit 0))
 (.seq
 (.block 1
 (.seq
 (.ops false [mv 15 13 3, ⟨(some 16), .indexAddr 23 (.tmp 11) (.tmp 13), 0, none⟩, ⟨(some 17), .load 30 (.tmp 16), 30, none⟩, ⟨(some 7), .alloc 30, 0, none⟩, asg 6 15 3, ⟨none, .store 30 (.tmp 7) (.tmp 17), 0, none⟩])
 (.seq
 (.ops false [mv 19 5 64, ⟨(some 20), .fieldAddr 30 (.tmp 7) 0, 0, none⟩, ⟨(some 21), .load 3 (.tmp 20), 3, none⟩, ⟨(some 22), .lookup 64 (.tmp 19) (.tmp 21) true, 47, none⟩, mv 18 22 47, ⟨(some 23), .extract (.tmp 18) 0, 3, none⟩, ⟨(some 24), .extract (.tmp 18) 1, 4, none⟩, asg 8 23 3, asg 9 24 4])
 (.seq
 (.seq
 (.ops false [mv 25 9 4, ⟨(some 26), .fieldAddr 30 (.tmp 7) 1, 0, none⟩, ⟨(some 27), .load 3 (.tmp 26), 3, none⟩, ⟨(some 28), .binOp .eql 3 (.tmp 27) (.const (.int .i64 (1))) 3, 4, none⟩, ⟨(some 29), .binOp .eql 4 (.tmp 25) (.tmp 28) 4, 4, none⟩])
 (.cond (.tmp 29)
 (.seq
 (.ops false [⟨(some 2), .assign (.const (.slice none 0 0)), 53, none⟩, ⟨(some 3), .assign (.const (.bool false)), 4, none⟩])
 (.ret))
 (.skip)))
 (.seq
 (.ops false [⟨(some 30), .fieldAddr 30 (.tmp 7) 1, 0, none⟩, ⟨(some 31), .load 3 (.tmp 30), 3, none⟩])
 (.block 2
 (.seq
 (.block 7
 (.seq
 (.block 6
 (.seq
 (.block 5
 (.seq
 (.block 4
 (.seq
 (.block 3
 (.seq
 (.seq
 (.seq
 (.ops false [⟨(some 33), .binOp .eql 3 (.tmp 31) (.const (.int .i64 (1))) 3, 4, none⟩, asg 32 33 4])
 (.cond (.tmp 32)
 (.exit 3)
 (.skip)))
 (.seq
 (.seq
 (.ops false [⟨(some 35), .binOp .eql 3 (.tmp 31) (.const (.int .i64 (6))) 3, 4, none⟩, asg 34 35 4])
 (.cond (.tmp 34)
 (.exit 4)
 (.skip)))
 (.seq
 (.seq
 (.ops false [⟨(some 37), .binOp .eql 3 (.tmp 31) (.const (.int .i64 (7))) 3, 4, none⟩, asg 36 37 4])
 (.cond (.tmp 36)
 (.exit 5)
 (.skip)))
 (.seq
 (.seq
 (.ops false [⟨(some 39), .binOp .eql 3 (.tmp 31) (.const (.int .i64 (2))) 3, 4, none⟩, asg 38 39 4])
 (.cond (.tmp 38)
 (.skip)
 (.seq
 (.ops false [⟨(some 40), .binOp .eql 3 (.tmp 31) (.const (.int .i64 (3))) 3, 4, none⟩, asg 38 40 4])
 (.cond (.tmp 38)
 (.skip)
 (.seq
 (.ops false [⟨(some 41), .binOp .eql 3 (.tmp 31) (.const (.int .i64 (4))) 3, 4, none⟩, asg 38 41 4])
 (.cond (.tmp 38)
 (.skip)
 (.ops false [⟨(some 42), .binOp .eql 3 (.tmp 31) (.const (.int .i64 (5))) 3, 4, none⟩, asg 38 42 4])))))))
 (.cond (.tmp 38)
 (.exit 6)
 (.skip))))))
 (.exit 7)))
 (.seq
 (.ops false [mv 43 5 64, ⟨(some 44), .fieldAddr 30 (.tmp 7) 0, 0, none⟩, ⟨(some 45), .load 3 (.tmp 44), 3, none⟩, mv 46 6 3, ⟨none, .mapUpdate 64 (.tmp 43) (.tmp 45) (.tmp 46), 0, none⟩])
 (.exit 2))))
 (.ops false [mv 47 4 53, mv 48 8 3, mv 49 6 3, ⟨(some 50), .build 56 #[(0, (.tmp 48)), (1, (.tmp 49))], 56, none⟩, ⟨(some 51), .buildSlice 53 1 #[(0, (.tmp 50))], 53, none⟩, ⟨(some 52), .call ⟨(.builtin .append), #[(.tmp 47), (.tmp 51)], #[53, 53]⟩, 53, none⟩, asg 4 52 53])))
 (.seq
 (.ops false [mv 53 5 64, ⟨(some 54), .fieldAddr 30 (.tmp 7) 0, 0, none⟩, ⟨(some 55), .load 3 (.tmp 54), 3, none⟩, ⟨none, .call ⟨(.builtin .delete), #[(.tmp 53), (.tmp 55)], #[64, 3]⟩, 0, none⟩])
 (.exit 2))))
 (.exit 2)))
 (.seq
 (.seq
 (.ops false [⟨(some 2), .assign (.const (.slice none 0 0)), 53, none⟩, ⟨(some 3), .assign (.const (.bool false)), 4, none⟩])
 (.ret))
 (.exit 2)))))))))
 (.ops false [⟨(some 56), .binOp .add 3 (.tmp 13) (.const (.int .i64 (1))) 3, 3, none⟩, mv 13 56 3])))))))
 (.seq
 (.ops false [mv 57 4 53, asg 2 57 53, ⟨(some 3), .assign (.const (.bool true)), 4, none⟩])
 (.ret))))))⟩
theorem fa32_eq : fnA hcfg.P 32 = some fa32 := by kernel_rfl
def T32_0 (x11 : List V) (x12 : Int) (x13 : Int) (m1 : List V) (m2 : List (V × V)) : S := ⟨[V.junk, V.junk, V.own 0, V.bool false, V.own 1, V.mp 2] ++ (JU 5) ++ [V.sl x11, V.int .i64 x12, V.int .i64 x13] ++ (JU 44), [O.row 56 [] 0, O.row 56 m1 0, O.map m2]⟩
noncomputable def e32 (a0 : List V) : R :=
  some (.head 0 (T32_0 a0 (a0.length : Int) 0 [] []))
theorem e32_eq (a0 : List V) : enterK hk false fa32 [V.sl a0] [] = e32 a0 := by kernel_rfl
theorem e32_run (a0 : List V) {o : Out} {v : V} (h : e32 a0 = some o) (hg : Go hk false 0 fa32 o (.done v)) : pcW hcfg 32 [V.sl a0] = some v := pcW_go hik rfl fa32_eq ((e32_eq a0).trans h) hg
noncomputable def s32_0 (x11 : List V) (x12 : Int) (x13 : Int) (m1 : List V) (m2 : List (V × V)) : R :=
  cond (decide (x13 < x12))
 (gd (decide (0 ≤ x13)) <|
  idxK x11 x13.toNat fun v =>
  d30 v fun txn kind0 key value n pairs is0 =>
  mfK m2 (V.int .i64 txn)
 (cond (false == (kind0 == (1 : Int)))
 (some (.done (V.tup [V.sl [], V.bool false])))
 (cond (kind0 == (1 : Int))
 (opt (mapPut m2 (V.int .i64 txn) (V.int .i64 x13)) fun es =>
  some (.head 0 (T32_0 x11 x12 (W .i64 (x13 + 1)) m1 es)))
 (cond (kind0 == (6 : Int))
 (gd (decide (m1.length + ([V.agg [V.int .i64 0, V.int .i64 x13]] : List V).length ≤ 16777216)) <|
  opt (mapDel m2 (V.int .i64 txn)) fun es_1 =>
  some (.head 0 (T32_0 x11 x12 (W .i64 (x13 + 1)) (m1 ++ [V.agg [V.int .i64 0, V.int .i64 x13]]) es_1)))
 (cond (kind0 == (7 : Int))
 (opt (mapDel m2 (V.int .i64 txn)) fun es_2 =>
  some (.head 0 (T32_0 x11 x12 (W .i64 (x13 + 1)) m1 es_2)))
 (cond (kind0 == (2 : Int))
 (some (.head 0 (T32_0 x11 x12 (W .i64 (x13 + 1)) m1 m2)))
 (cond (kind0 == (3 : Int))
 (some (.head 0 (T32_0 x11 x12 (W .i64 (x13 + 1)) m1 m2)))
 (cond (kind0 == (4 : Int))
 (some (.head 0 (T32_0 x11 x12 (W .i64 (x13 + 1)) m1 m2)))
 (cond (kind0 == (5 : Int))
 (some (.head 0 (T32_0 x11 x12 (W .i64 (x13 + 1)) m1 m2)))
 (some (.done (V.tup [V.sl [], V.bool false]))))))))))) fun r =>
  kI .i64 r fun n_1 =>
  cond (true == (kind0 == (1 : Int)))
 (some (.done (V.tup [V.sl [], V.bool false])))
 (cond (kind0 == (1 : Int))
 (opt (mapPut m2 (V.int .i64 txn) (V.int .i64 x13)) fun es_3 =>
  some (.head 0 (T32_0 x11 x12 (W .i64 (x13 + 1)) m1 es_3)))
 (cond (kind0 == (6 : Int))
 (gd (decide (m1.length + ([V.agg [V.int .i64 n_1, V.int .i64 x13]] : List V).length ≤ 16777216)) <|
  opt (mapDel m2 (V.int .i64 txn)) fun es_4 =>
  some (.head 0 (T32_0 x11 x12 (W .i64 (x13 + 1)) (m1 ++ [V.agg [V.int .i64 n_1, V.int .i64 x13]]) es_4)))
 (cond (kind0 == (7 : Int))
 (opt (mapDel m2 (V.int .i64 txn)) fun es_5 =>
  some (.head 0 (T32_0 x11 x12 (W .i64 (x13 + 1)) m1 es_5)))
 (cond (kind0 == (2 : Int))
 (some (.head 0 (T32_0 x11 x12 (W .i64 (x13 + 1)) m1 m2)))
 (cond (kind0 == (3 : Int))
 (some (.head 0 (T32_0 x11 x12 (W .i64 (x13 + 1)) m1 m2)))
 (cond (kind0 == (4 : Int))
 (some (.head 0 (T32_0 x11 x12 (W .i64 (x13 + 1)) m1 m2)))
 (cond (kind0 == (5 : Int))
 (some (.head 0 (T32_0 x11 x12 (W .i64 (x13 + 1)) m1 m2)))
 (some (.done (V.tup [V.sl [], V.bool false])))))))))))
 (some (.done (V.tup [V.sl m1, V.bool true])))
theorem s32_0_eq (x11 : List V) (x12 : Int) (x13 : Int) (m1 : List V) (m2 : List (V × V)) : goK hk false 0 fa32 0 (T32_0 x11 x12 x13 m1 m2) = s32_0 x11 x12 x13 m1 m2 := by kernel_rfl
theorem s32_0_run (x11 : List V) (x12 : Int) (x13 : Int) (m1 : List V) (m2 : List (V × V)) {o o' : Out} (h : s32_0 x11 x12 x13 m1 m2 = some o) (hg : Go hk false 0 fa32 o o') : Go hk false 0 fa32 (.head 0 (T32_0 x11 x12 x13 m1 m2)) o' := .step ((s32_0_eq x11 x12 x13 m1 m2).trans h) hg
/-! ### budwood/hist.Right -/
noncomputable def fa16 : FA := ⟨1, 11, [.tmp 2], [4],
 (.seq
 (.ops false [⟨(some 2), .assign (.const (.bool false)), 4, none⟩])
 (.seq
 (.ops false [mv 6 0 23, ⟨(some 7), .call ⟨(.value (.func 32)), #[(.tmp 6)], #[23]⟩, 54, none⟩, mv 5 7 54, ⟨(some 8), .extract (.tmp 5) 0, 53, none⟩, ⟨(some 9), .extract (.tmp 5) 1, 4, none⟩, asg 3 8 53, asg 4 9 4])
 (.seq
 (.ops false [mv 10 4 4, asg 2 10 4])
 (.ret))))⟩
theorem fa16_eq : fnA hcfg.P 16 = some fa16 := by kernel_rfl
noncomputable def e16 (a0 : List V) : R :=
  pcK hcfg 32 [V.sl a0] fun r =>
  d54 r fun r32_0 r32_1 =>
  some (.done (V.bool r32_1))
theorem e16_eq (a0 : List V) : enterK hk false fa16 [V.sl a0] [] = e16 a0 := by kernel_rfl
theorem e16_run (a0 : List V) {o : Out} {v : V} (h : e16 a0 = some o) (hg : Go hk false 0 fa16 o (.done v)) : pcW hcfg 16 [V.sl a0] = some v := pcW_go hik rfl fa16_eq ((e16_eq a0).trans h) hg
theorem e16_done (a0 : List V) {v : V} (h : e16 a0 = some (.done v)) : pcW hcfg 16 [V.sl a0] = some v := e16_run a0 h (.refl _)
/-! ### budwood/budwoodref23.Right -/
noncomputable def fa17 : FA := ⟨1, 63, [.tmp 2], [4],
 (.seq
 (.ops false [⟨(some 2), .assign (.const (.bool false)), 4, none⟩])
 (.seq
 (.seq
 (.ops false [⟨(some 3), .assign (.const (.int .i64 (0))), 3, none⟩])
 (.block 0
 (.loop ([1] ++ List.range' 4 59)
 (.seq
 (.seq
 (.ops false [mv 6 3 3, mv 7 0 26, ⟨(some 8), .call ⟨(.builtin .len), #[(.tmp 7)], #[26]⟩, 3, none⟩, ⟨(some 9), .binOp .lss 3 (.tmp 6) (.tmp 8) 3, 4, none⟩])
 (.cond (.tmp 9)
 (.skip)
 (.exit 0)))
 (.seq
 (.block 1
 (.seq
 (.seq
 (.ops false [mv 12 0 26, mv 13 3 3, ⟨(some 14), .indexAddr 26 (.tmp 12) (.tmp 13), 0, none⟩, ⟨(some 15), .fieldAddr 28 (.tmp 14) 1, 0, none⟩, ⟨(some 16), .load 3 (.tmp 15), 3, none⟩, ⟨(some 17), .binOp .lss 3 (.tmp 16) (.const (.int .i64 (1))) 3, 4, none⟩, mv 18 17 4, ⟨(some 19), .move (.tmp 0), 26, (some (18, false))⟩, ⟨(some 20), .move (.tmp 3), 3, (some (18, false))⟩, ⟨(some 21), .indexAddr 26 (.tmp 19) (.tmp 20), 0, (some (18, false))⟩, ⟨(some 22), .fieldAddr 28 (.tmp 21) 1, 0, (some (18, false))⟩, ⟨(some 23), .load 3 (.tmp 22), 3, (some (18, false))⟩, ⟨(some 24), .binOp .gtr 3 (.tmp 23) (.const (.int .i64 (7))) 3, 4, (some (18, false))⟩, ⟨(some 25), .pick (.tmp 18) (.const (.bool true)) (.tmp 24), 4, none⟩])
 (.cond (.tmp 25)
 (.seq
 (.ops false [⟨(some 2), .assign (.const (.bool false)), 4, none⟩])
 (.ret))
 (.skip)))
 (.seq
 (.ops false [mv 26 3 3, ⟨(some 27), .binOp .sub 3 (.tmp 26) (.const (.int .i64 (1))) 3, 3, none⟩, asg 4 27 3])
 (.seq
 (.block 2
 (.loop ([1] ++ List.range' 5 58)
 (.seq
 (.seq
 (.ops true [mv 28 4 3, ⟨(some 29), .binOp .geq 3 (.tmp 28) (.const (.int .i64 (0))) 3, 4, none⟩, mv 30 29 4, ⟨(some 31), .move (.tmp 0), 26, (some (30, true))⟩, ⟨(some 32), .move (.tmp 4), 3, (some (30, true))⟩, ⟨(some 33), .indexAddr 26 (.tmp 31) (.tmp 32), 0, (some (30, true))⟩, ⟨(some 34), .fieldAddr 28 (.tmp 33) 0, 0, (some (30, true))⟩, ⟨(some 35), .load 3 (.tmp 34), 3, (some (30, true))⟩, ⟨(some 36), .move (.tmp 0), 26, (some (30, true))⟩, ⟨(some 37), .move (.tmp 3), 3, (some (30, true))⟩, ⟨(some 38), .indexAddr 26 (.tmp 36) (.tmp 37), 0, (some (30, true))⟩, ⟨(some 39), .fieldAddr 28 (.tmp 38) 0, 0, (some (30, true))⟩, ⟨(some 40), .load 3 (.tmp 39), 3, (some (30, true))⟩, ⟨(some 41), .binOp .neq 3 (.tmp 35) (.tmp 40) 3, 4, (some (30, true))⟩, ⟨(some 42), .pick (.tmp 30) (.tmp 41) (.const (.bool false)), 4, none⟩])
 (.cond (.tmp 42)
 (.skip)
 (.exit 2)))
 (.block 3
 (.ops false [mv 43 4 3, ⟨(some 44), .binOp .sub 3 (.tmp 43) (.const (.int .i64 (1))) 3, 3, none⟩, asg 4 44 3])))))
 (.seq
 (.ops false [mv 45 4 3, ⟨(some 46), .binOp .lss 3 (.tmp 45) (.const (.int .i64 (0))) 3, 4, none⟩, mv 47 46 4, ⟨(some 48), .move (.tmp 0), 26, (some (47, false))⟩, ⟨(some 49), .move (.tmp 4), 3, (some (47, false))⟩, ⟨(some 50), .indexAddr 26 (.tmp 48) (.tmp 49), 0, (some (47, false))⟩, ⟨(some 51), .fieldAddr 28 (.tmp 50) 1, 0, (some (47, false))⟩, ⟨(some 52), .load 3 (.tmp 51), 3, (some (47, false))⟩, ⟨(some 53), .binOp .geq 3 (.tmp 52) (.const (.int .i64 (6))) 3, 4, (some (47, false))⟩, ⟨(some 54), .pick (.tmp 47) (.const (.bool true)) (.tmp 53), 4, none⟩, asg 5 54 4])
 (.seq
 (.ops false [mv 55 5 4, mv 56 0 26, mv 57 3 3, ⟨(some 58), .indexAddr 26 (.tmp 56) (.tmp 57), 0, none⟩, ⟨(some 59), .fieldAddr 28 (.tmp 58) 1, 0, none⟩, ⟨(some 60), .load 3 (.tmp 59), 3, none⟩, ⟨(some 61), .binOp .eql 3 (.tmp 60) (.const (.int .i64 (1))) 3, 4, none⟩, ⟨(some 62), .binOp .neq 4 (.tmp 55) (.tmp 61) 4, 4, none⟩])
 (.cond (.tmp 62)
 (.seq
 (.ops false [⟨(some 2), .assign (.const (.bool false)), 4, none⟩])
 (.ret))
 (.skip))))))))
 (.ops false [mv 10 3 3, ⟨(some 11), .binOp .add 3 (.tmp 10) (.const (.int .i64 (1))) 3, 3, none⟩, asg 3 11 3]))))))
 (.seq
 (.ops false [⟨(some 2), .assign (.const (.bool true)), 4, none⟩])
 (.ret))))⟩
theorem fa17_eq : fnA hcfg.P 17 = some fa17 := by kernel_rfl
def T17_0 (x0 : List V) (x3 : Int) : S := ⟨[V.sl x0, V.junk, V.bool false, V.int .i64 x3] ++ (JU 59), []⟩
def T17_1 (x0 : List V) (x3 : Int) (x4 : Int) : S := ⟨[V.sl x0, V.junk, V.bool false, V.int .i64 x3, V.int .i64 x4] ++ (JU 58), []⟩
noncomputable def e17 (a0 : List V) : R :=
  some (.head 0 (T17_0 a0 0))
theorem e17_eq (a0 : List V) : enterK hk false fa17 [V.sl a0] [] = e17 a0 := by kernel_rfl
theorem e17_run (a0 : List V) {o : Out} {v : V} (h : e17 a0 = some o) (hg : Go hk false 0 fa17 o (.done v)) : pcW hcfg 17 [V.sl a0] = some v := pcW_go hik rfl fa17_eq ((e17_eq a0).trans h) hg
noncomputable def s17_0 (x0 : List V) (x3 : Int) : R :=
  cond (decide (x3 < (x0.length : Int)))
 (gd (decide (0 ≤ x3)) <|
  idxK x0 x3.toNat fun v =>
  d28 v fun txn kind0 key value n pairs is0 =>
  cond (decide (kind0 < 1))
 (some (.done (V.bool false)))
 (gd (decide (0 ≤ x3)) <|
  idxK x0 x3.toNat fun v_1 =>
  d28 v_1 fun txn_1 kind0_1 key_1 value_1 n_1 pairs_1 is0_1 =>
  cond (decide (kind0_1 > 7))
 (some (.done (V.bool false)))
 (some (.head 1 (T17_1 x0 x3 (W .i64 (x3 - 1)))))))
 (some (.done (V.bool true)))
theorem s17_0_eq (x0 : List V) (x3 : Int) : goK hk false 0 fa17 0 (T17_0 x0 x3) = s17_0 x0 x3 := by kernel_rfl
theorem s17_0_run (x0 : List V) (x3 : Int) {o o' : Out} (h : s17_0 x0 x3 = some o) (hg : Go hk false 0 fa17 o o') : Go hk false 0 fa17 (.head 0 (T17_0 x0 x3)) o' := .step ((s17_0_eq x0 x3).trans h) hg
noncomputable def s17_1 (x0 : List V) (x3 : Int) (x4 : Int) : R :=
  cond (decide (x4 ≥ 0))
 (gd (decide (0 ≤ x4)) <|
  idxK x0 x4.toNat fun v =>
  d28 v fun txn kind0 key value n pairs is0 =>
  gd (decide (0 ≤ x3)) <|
  idxK x0 x3.toNat fun v_1 =>
  d28 v_1 fun txn_1 kind0_1 key_1 value_1 n_1 pairs_1 is0_1 =>
  cond (txn != txn_1)
 (some (.head 1 (T17_1 x0 x3 (W .i64 (x4 - 1)))))
 (cond (decide (x4 < 0))
 (gd (decide (0 ≤ x3)) <|
  idxK x0 x3.toNat fun v_2 =>
  d28 v_2 fun txn_2 kind0_2 key_2 value_2 n_2 pairs_2 is0_2 =>
  cond (!(true == (kind0_2 == (1 : Int))))
 (some (.done (V.bool false)))
 (some (.head 0 (T17_0 x0 (W .i64 (x3 + 1))))))
 (gd (decide (0 ≤ x4)) <|
  idxK x0 x4.toNat fun v_3 =>
  d28 v_3 fun txn_3 kind0_3 key_3 value_3 n_3 pairs_3 is0_3 =>
  gd (decide (0 ≤ x3)) <|
  idxK x0 x3.toNat fun v_4 =>
  d28 v_4 fun txn_4 kind0_4 key_4 value_4 n_4 pairs_4 is0_4 =>
  cond (!((decide (kind0_3 ≥ 6)) == (kind0_4 == (1 : Int))))
 (some (.done (V.bool false)))
 (some (.head 0 (T17_0 x0 (W .i64 (x3 + 1))))))))
 (cond (decide (x4 < 0))
 (gd (decide (0 ≤ x3)) <|
  idxK x0 x3.toNat fun v_5 =>
  d28 v_5 fun txn_5 kind0_5 key_5 value_5 n_5 pairs_5 is0_5 =>
  cond (!(true == (kind0_5 == (1 : Int))))
 (some (.done (V.bool false)))
 (some (.head 0 (T17_0 x0 (W .i64 (x3 + 1))))))
 (gd (decide (0 ≤ x4)) <|
  idxK x0 x4.toNat fun v_6 =>
  d28 v_6 fun txn_6 kind0_6 key_6 value_6 n_6 pairs_6 is0_6 =>
  gd (decide (0 ≤ x3)) <|
  idxK x0 x3.toNat fun v_7 =>
  d28 v_7 fun txn_7 kind0_7 key_7 value_7 n_7 pairs_7 is0_7 =>
  cond (!((decide (kind0_6 ≥ 6)) == (kind0_7 == (1 : Int))))
 (some (.done (V.bool false)))
 (some (.head 0 (T17_0 x0 (W .i64 (x3 + 1)))))))
theorem s17_1_eq (x0 : List V) (x3 : Int) (x4 : Int) : goK hk false 0 fa17 1 (T17_1 x0 x3 x4) = s17_1 x0 x3 x4 := by kernel_rfl
theorem s17_1_run (x0 : List V) (x3 : Int) (x4 : Int) {o o' : Out} (h : s17_1 x0 x3 x4 = some o) (hg : Go hk false 0 fa17 o o') : Go hk false 0 fa17 (.head 1 (T17_1 x0 x3 x4)) o' := .step ((s17_1_eq x0 x3 x4).trans h) hg
/-! ### budwood/hist.Committed -/
noncomputable def fa19 : FA := ⟨1, 26, [.tmp 2], [40],
 (.seq
 (.ops false [⟨(some 2), .assign (.const (.slice none 0 0)), 40, none⟩])
 (.seq
 (.ops false [mv 9 0 23, ⟨(some 10), .call ⟨(.value (.func 32)), #[(.tmp 9)], #[23]⟩, 54, none⟩, mv 8 10 54, ⟨(some 11), .extract (.tmp 8) 0, 53, none⟩, ⟨(some 12), .extract (.tmp 8) 1, 4, none⟩, asg 3 11 53, asg 4 12 4])
 (.seq
 (.ops false [⟨(some 5), .assign (.const (.slice none 0 0)), 40, none⟩])
 (.seq
 (.seq
 (.ops false [mv 13 3 53, ⟨(some 14), .call ⟨(.builtin .len), #[(.tmp 13)], #[53]⟩, 3, none⟩, ⟨(some 15), .move (.const (.int .i64 (0))), 3, none⟩])
 (.block 0
 (.loop ([0, 1, 3, 4] ++ List.range' 6 7 ++ List.range' 16 10)
 (.seq
 (.ops false [⟨(some 16), .binOp .lss 3 (.tmp 15) (.tmp 14) 3, 0, none⟩])
 (.seq
 (.cond (.tmp 16)
 (.skip)
 (.exit 0))
 (.seq
 (.block 1
 (.seq
 (.ops false [⟨(some 17), .indexAddr 53 (.tmp 13) (.tmp 15), 0, none⟩, ⟨(some 18), .load 56 (.tmp 17), 56, none⟩, ⟨(some 7), .alloc 56, 0, none⟩, ⟨none, .store 56 (.tmp 7) (.tmp 18), 0, none⟩])
 (.ops false [mv 19 5 40, ⟨(some 20), .indexAddr 56 (.tmp 7) (.const (.int .i64 (0))), 0, none⟩, ⟨(some 21), .load 3 (.tmp 20), 3, none⟩, ⟨(some 22), .buildSlice 40 1 #[(0, (.tmp 21))], 40, none⟩, ⟨(some 23), .call ⟨(.builtin .append), #[(.tmp 19), (.tmp 22)], #[40, 40]⟩, 40, none⟩, asg 5 23 40])))
 (.ops false [⟨(some 24), .binOp .add 3 (.tmp 15) (.const (.int .i64 (1))) 3, 3, none⟩, mv 15 24 3])))))))
 (.seq
 (.ops false [mv 25 5 40, asg 2 25 40])
 (.ret))))))⟩
theorem fa19_eq : fnA hcfg.P 19 = some fa19 := by kernel_rfl
def T19_0 (x13 : List V) (x14 : Int) (x15 : Int) (m1 : List V) : S := ⟨[V.junk, V.junk, V.own 0, V.junk, V.junk, V.own 1] ++ (JU 7) ++ [V.sl x13, V.int .i64 x14, V.int .i64 x15] ++ (JU 10), [O.row 3 [] 0, O.row 3 m1 0]⟩
noncomputable def e19 (a0 : List V) : R :=
  pcK hcfg 32 [V.sl a0] fun r =>
  d54 r fun r32_0 r32_1 =>
  some (.head 0 (T19_0 r32_0 (r32_0.length : Int) 0 []))
theorem e19_eq (a0 : List V) : enterK hk false fa19 [V.sl a0] [] = e19 a0 := by kernel_rfl
theorem e19_run (a0 : List V) {o : Out} {v : V} (h : e19 a0 = some o) (hg : Go hk false 0 fa19 o (.done v)) : pcW hcfg 19 [V.sl a0] = some v := pcW_go hik rfl fa19_eq ((e19_eq a0).trans h) hg
noncomputable def s19_0 (x13 : List V) (x14 : Int) (x15 : Int) (m1 : List V) : R :=
  cond (decide (x15 < x14))
 (gd (decide (0 ≤ x15)) <|
  idxK x13 x15.toNat fun v =>
  d56 v fun a0 a1 =>
  gd (decide (m1.length + ([V.int .i64 a0] : List V).length ≤ 16777216)) <|
  some (.head 0 (T19_0 x13 x14 (W .i64 (x15 + 1)) (m1 ++ [V.int .i64 a0]))))
 (gd ((m1 : List V).all fun x => x.cells.all V.flat1) <|
  some (.done (V.fr 3 m1)))
theorem s19_0_eq (x13 : List V) (x14 : Int) (x15 : Int) (m1 : List V) : goK hk false 0 fa19 0 (T19_0 x13 x14 x15 m1) = s19_0 x13 x14 x15 m1 := by kernel_rfl
theorem s19_0_run (x13 : List V) (x14 : Int) (x15 : Int) (m1 : List V) {o o' : Out} (h : s19_0 x13 x14 x15 m1 = some o) (hg : Go hk false 0 fa19 o o') : Go hk false 0 fa19 (.head 0 (T19_0 x13 x14 x15 m1)) o' := .step ((s19_0_eq x13 x14 x15 m1).trans h) hg
/-! ### budwood/budwoodref23.Committed -/
noncomputable def fa20 : FA := ⟨1, 29, [.tmp 2], [40],
 (.seq
 (.ops false [⟨(some 2), .assign (.const (.slice none 0 0)), 40, none⟩])
 (.seq
 (.ops false [⟨(some 5), .buildSlice 40 0 #[], 40, none⟩, asg 3 5 40])
 (.seq
 (.seq
 (.ops false [⟨(some 4), .assign (.const (.int .i64 (0))), 3, none⟩])
 (.block 0
 (.loop ([1] ++ List.range' 5 24)
 (.seq
 (.seq
 (.ops false [mv 6 0 26, ⟨(some 7), .call ⟨(.value (.func 17)), #[(.tmp 6)], #[26]⟩, 4, none⟩, mv 8 7 4, ⟨(some 9), .move (.tmp 4), 3, (some (8, true))⟩, ⟨(some 10), .move (.tmp 0), 26, (some (8, true))⟩, ⟨(some 11), .call ⟨(.builtin .len), #[(.tmp 10)], #[26]⟩, 3, (some (8, true))⟩, ⟨(some 12), .binOp .lss 3 (.tmp 9) (.tmp 11) 3, 4, (some (8, true))⟩, ⟨(some 13), .pick (.tmp 8) (.tmp 12) (.const (.bool false)), 4, none⟩])
 (.cond (.tmp 13)
 (.skip)
 (.exit 0)))
 (.seq
 (.block 1
 (.seq
 (.ops false [mv 16 0 26, mv 17 4 3, ⟨(some 18), .indexAddr 26 (.tmp 16) (.tmp 17), 0, none⟩, ⟨(some 19), .fieldAddr 28 (.tmp 18) 1, 0, none⟩, ⟨(some 20), .load 3 (.tmp 19), 3, none⟩, ⟨(some 21), .binOp .eql 3 (.tmp 20) (.const (.int .i64 (6))) 3, 4, none⟩])
 (.cond (.tmp 21)
 (.ops false [mv 22 3 40, mv 23 0 26, mv 24 4 3, ⟨(some 25), .call ⟨(.value (.func 33)), #[(.tmp 23), (.tmp 24)], #[26, 3]⟩, 3, none⟩, ⟨(some 26), .buildSlice 40 1 #[(0, (.tmp 25))], 40, none⟩, ⟨(some 27), .call ⟨(.builtin .append), #[(.tmp 22), (.tmp 26)], #[40, 40]⟩, 40, none⟩, asg 3 27 40])
 (.skip))))
 (.ops false [mv 14 4 3, ⟨(some 15), .binOp .add 3 (.tmp 14) (.const (.int .i64 (1))) 3, 3, none⟩, asg 4 15 3]))))))
 (.seq
 (.ops false [mv 28 3 40, asg 2 28 40])
 (.ret)))))⟩
theorem fa20_eq : fnA hcfg.P 20 = some fa20 := by kernel_rfl
def T20_0 (x0 : List V) (x4 : Int) (m1 : List V) : S := ⟨[V.sl x0, V.junk, V.own 0, V.own 1, V.int .i64 x4] ++ (JU 24), [O.row 3 [] 0, O.row 3 m1 0]⟩
noncomputable def e20 (a0 : List V) : R :=
  some (.head 0 (T20_0 a0 0 []))
theorem e20_eq (a0 : List V) : enterK hk false fa20 [V.sl a0] [] = e20 a0 := by kernel_rfl
theorem e20_run (a0 : List V) {o : Out} {v : V} (h : e20 a0 = some o) (hg : Go hk false 0 fa20 o (.done v)) : pcW hcfg 20 [V.sl a0] = some v := pcW_go hik rfl fa20_eq ((e20_eq a0).trans h) hg
noncomputable def s20_0 (x0 : List V) (x4 : Int) (m1 : List V) : R :=
  pcK hcfg 17 [V.sl x0] fun r =>
  kB r fun r17 =>
  cond r17
 (cond (decide (x4 < (x0.length : Int)))
 (gd (decide (0 ≤ x4)) <|
  idxK x0 x4.toNat fun v =>
  d28 v fun txn kind0 key value n pairs is0 =>
  cond (kind0 == (6 : Int))
 (pcK hcfg 33 [V.sl x0, V.int .i64 x4] fun r_1 =>
  kI .i64 r_1 fun r33 =>
  gd (decide (m1.length + ([V.int .i64 r33] : List V).length ≤ 16777216)) <|
  some (.head 0 (T20_0 x0 (W .i64 (x4 + 1)) (m1 ++ [V.int .i64 r33]))))
 (some (.head 0 (T20_0 x0 (W .i64 (x4 + 1)) m1))))
 (gd ((m1 : List V).all fun x => x.cells.all V.flat1) <|
  some (.done (V.fr 3 m1))))
 (gd ((m1 : List V).all fun x => x.cells.all V.flat1) <|
  some (.done (V.fr 3 m1)))
theorem s20_0_eq (x0 : List V) (x4 : Int) (m1 : List V) : goK hk false 0 fa20 0 (T20_0 x0 x4 m1) = s20_0 x0 x4 m1 := by kernel_rfl
theorem s20_0_run (x0 : List V) (x4 : Int) (m1 : List V) {o o' : Out} (h : s20_0 x0 x4 m1 = some o) (hg : Go hk false 0 fa20 o o') : Go hk false 0 fa20 (.head 0 (T20_0 x0 x4 m1)) o' := .step ((s20_0_eq x0 x4 m1).trans h) hg
/-! ### budwood/hist.Serial -/
noncomputable def fa14 : FA := ⟨2, 66, [.tmp 4, .tmp 5], [22, 4],
 (.seq
 (.ops false [⟨(some 4), .assign (.const (.slice none 0 0)), 22, none⟩, ⟨(some 5), .assign (.const (.bool false)), 4, none⟩])
 (.seq
 (.ops false [mv 16 1 23, ⟨(some 17), .call ⟨(.value (.func 32)), #[(.tmp 16)], #[23]⟩, 54, none⟩, mv 15 17 54, ⟨(some 18), .extract (.tmp 15) 0, 53, none⟩, ⟨(some 19), .extract (.tmp 15) 1, 4, none⟩, asg 6 18 53, asg 7 19 4])
 (.seq
 (.seq
 (.ops false [mv 20 7 4, ⟨(some 21), .unOp .not 4 (.tmp 20), 4, none⟩])
 (.cond (.tmp 21)
 (.seq
 (.ops false [⟨(some 4), .assign (.const (.slice none 0 0)), 22, none⟩, ⟨(some 5), .assign (.const (.bool false)), 4, none⟩])
 (.ret))
 (.skip)))
 (.seq
 (.ops false [mv 22 0 22, ⟨(some 23), .call ⟨(.value (.func 30)), #[(.tmp 22)], #[22]⟩, 22, none⟩, asg 8 23 22])
 (.seq
 (.seq
 (.ops false [mv 24 6 53, ⟨(some 25), .call ⟨(.builtin .len), #[(.tmp 24)], #[53]⟩, 3, none⟩, ⟨(some 26), .move (.const (.int .i64 (0))), 3, none⟩])
 (.block 0
 (.loop ([0, 2, 3, 6] ++ List.range' 9 15 ++ List.range' 27 39)
 (.seq
 (.ops false [⟨(some 27), .binOp .lss 3 (.tmp 26) (.tmp 25) 3, 0, none⟩])
 (.seq
 (.cond (.tmp 27)
 (.skip)
 (.exit 0))
 (.seq
 (.block 1
 (.seq
 (.ops false [⟨(some 28), .indexAddr 53 (.tmp 24) (.tmp 26), 0, none⟩, ⟨(some 29), .load 56 (.tmp 28), 56, none⟩, ⟨(some 10), .alloc 56, 0, none⟩, ⟨none, .store 56 (.tmp 10) (.tmp 29), 0, none⟩])
 (.seq
 (.ops false [mv 30 1 23, ⟨(some 31), .indexAddr 56 (.tmp 10) (.const (.int .i64 (0))), 0, none⟩, ⟨(some 32), .load 3 (.tmp 31), 3, none⟩, ⟨(some 33), .indexAddr 56 (.tmp 10) (.const (.int .i64 (1))), 0, none⟩, ⟨(some 34), .load 3 (.tmp 33), 3, none⟩, ⟨(some 35), .binOp .add 3 (.tmp 34) (.const (.int .i64 (1))) 3, 3, none⟩, ⟨(some 36), .slice 23 (.tmp 30) (some (.tmp 32)) (some (.tmp 35)) none, 23, none⟩, ⟨(some 37), .call ⟨(.builtin .len), #[(.tmp 36)], #[23]⟩, 3, none⟩, ⟨(some 38), .move (.const (.int .i64 (0))), 3, none⟩])
 (.block 2
 (.loop ([0, 2, 3, 6, 9] ++ List.range' 11 13 ++ List.range' 27 9 ++ List.range' 39 27)
 (.seq
 (.ops false [⟨(some 39), .binOp .lss 3 (.tmp 38) (.tmp 37) 3, 0, none⟩])
 (.seq
 (.cond (.tmp 39)
 (.skip)
 (.exit 2))
 (.seq
 (.block 3
 (.seq
 (.ops false [⟨(some 40), .indexAddr 23 (.tmp 36) (.tmp 38), 0, none⟩, ⟨(some 41), .load 30 (.tmp 40), 30, none⟩, ⟨(some 12), .alloc 30, 0, none⟩, ⟨none, .store 30 (.tmp 12) (.tmp 41), 0, none⟩])
 (.seq
 (.ops true [⟨(some 42), .fieldAddr 30 (.tmp 12) 0, 0, none⟩, ⟨(some 43), .load 3 (.tmp 42), 3, none⟩, mv 44 1 23, ⟨(some 45), .indexAddr 56 (.tmp 10) (.const (.int .i64 (0))), 0, none⟩, ⟨(some 46), .load 3 (.tmp 45), 3, none⟩, ⟨(some 47), .indexAddr 23 (.tmp 44) (.tmp 46), 0, none⟩, ⟨(some 48), .fieldAddr 30 (.tmp 47) 0, 0, none⟩, ⟨(some 49), .load 3 (.tmp 48), 3, none⟩, ⟨(some 50), .binOp .eql 3 (.tmp 43) (.tmp 49) 3, 4, none⟩])
 (.cond (.tmp 50)
 (.seq
 (.ops false [mv 52 8 22, ⟨(some 53), .load 30 (.tmp 12), 30, none⟩, ⟨(some 54), .call ⟨(.value (.func 11)), #[(.tmp 52), (.tmp 53)], #[22, 30]⟩, 31, none⟩, mv 51 54 31, ⟨(some 55), .extract (.tmp 51) 0, 22, none⟩, ⟨(some 56), .extract (.tmp 51) 1, 4, none⟩, asg 13 55 22, asg 14 56 4])
 (.ops false [mv 57 13 22, mv 58 7 4, mv 59 58 4, ⟨(some 60), .move (.tmp 14), 4, (some (59, true))⟩, ⟨(some 61), .pick (.tmp 59) (.tmp 60) (.const (.bool false)), 4, none⟩, asg 8 57 22, asg 7 61 4]))
 (.skip)))))
 (.ops false [⟨(some 62), .binOp .add 3 (.tmp 38) (.const (.int .i64 (1))) 3, 3, none⟩, mv 38 62 3])))))))))
 (.ops false [⟨(some 63), .binOp .add 3 (.tmp 26) (.const (.int .i64 (1))) 3, 3, none⟩, mv 26 63 3])))))))
 (.seq
 (.ops false [mv 64 8 22, mv 65 7 4, asg 4 64 22, asg 5 65 4])
 (.ret)))))))⟩
theorem fa14_eq : fnA hcfg.P 14 = some fa14 := by kernel_rfl
def T14_0 (x1 : List V) (x7 : Bool) (x24 : List V) (x25 : Int) (x26 : Int) (m1 : List V) : S := ⟨[V.junk, V.sl x1, V.junk, V.junk, V.own 0, V.bool false, V.junk, V.bool x7, V.own 1] ++ (JU 15) ++ [V.sl x24, V.int .i64 x25, V.int .i64 x26] ++ (JU 39), [O.row 46 [] 0, O.row 46 m1 0]⟩
def T14_1 (x1 : List V) (x7 : Bool) (x24 : List V) (x25 : Int) (x26 : Int) (x36 : List V) (x37 : Int) (x38 : Int) (m1 : List V) (m2_0 : Int) (m2_1 : Int) : S := ⟨[V.junk, V.sl x1, V.junk, V.junk, V.own 0, V.bool false, V.junk, V.bool x7, V.own 1, V.junk, V.ptr 2 0 0] ++ (JU 13) ++ [V.sl x24, V.int .i64 x25, V.int .i64 x26] ++ (JU 9) ++ [V.sl x36, V.int .i64 x37, V.int .i64 x38] ++ (JU 27), [O.row 46 [] 0, O.row 46 m1 0, O.box 56 (V.agg [V.int .i64 m2_0, V.int .i64 m2_1]) false]⟩
def T14_1b (x1 : List V) (x7 : Bool) (x8 : List V) (x24 : List V) (x25 : Int) (x26 : Int) (x36 : List V) (x37 : Int) (x38 : Int) (m1_0 : Int) (m1_1 : Int) : S := ⟨[V.junk, V.sl x1, V.junk, V.junk, V.own 0, V.bool false, V.junk, V.bool x7, V.sl x8, V.junk, V.ptr 1 0 0] ++ (JU 13) ++ [V.sl x24, V.int .i64 x25, V.int .i64 x26] ++ (JU 9) ++ [V.sl x36, V.int .i64 x37, V.int .i64 x38] ++ (JU 27), [O.row 46 [] 0, O.box 56 (V.agg [V.int .i64 m1_0, V.int .i64 m1_1]) false]⟩
def T14_0b (x1 : List V) (x7 : Bool) (x8 : List V) (x24 : List V) (x25 : Int) (x26 : Int) : S := ⟨[V.junk, V.sl x1, V.junk, V.junk, V.own 0, V.bool false, V.junk, V.bool x7, V.sl x8] ++ (JU 15) ++ [V.sl x24, V.int .i64 x25, V.int .i64 x26] ++ (JU 39), [O.row 46 [] 0]⟩
noncomputable def e14 (a0 : List V) (a1 : List V) : R :=
  pcK hcfg 32 [V.sl a1] fun r =>
  d54 r fun r32_0 r32_1 =>
  cond (!r32_1)
 (some (.done (V.tup [V.sl [], V.bool false])))
 (pcK hcfg 30 [V.sl a0] fun r_1 =>
  kF 46 r_1 fun r30 =>
  some (.head 0 (T14_0 a1 r32_1 r32_0 (r32_0.length : Int) 0 r30)))
theorem e14_eq (a0 : List V) (a1 : List V) : enterK hk false fa14 [V.sl a0, V.sl a1] [] = e14 a0 a1 := by kernel_rfl
theorem e14_run (a0 : List V) (a1 : List V) {o : Out} {v : V} (h : e14 a0 a1 = some o) (hg : Go hk false 0 fa14 o (.done v)) : pcW hcfg 14 [V.sl a0, V.sl a1] = some v := pcW_go hik rfl fa14_eq ((e14_eq a0 a1).trans h) hg
noncomputable def s14_0 (x1 : List V) (x7 : Bool) (x24 : List V) (x25 : Int) (x26 : Int) (m1 : List V) : R :=
  cond (decide (x26 < x25))
 (gd (decide (0 ≤ x26)) <|
  idxK x24 x26.toNat fun v =>
  d56 v fun a0 a1 =>
  gd (wfl 7 x1) <|
  gd (decide (0 ≤ a0)) <|
  gd (decide (0 ≤ W .i64 (a1 + 1))) <|
  gd (decide (a0.toNat ≤ (W .i64 (a1 + 1)).toNat)) <|
  gd (decide ((W .i64 (a1 + 1)).toNat ≤ x1.length)) <|
  some (.head 1 (T14_1 x1 x7 x24 x25 x26 ((x1.take ((W .i64 (a1 + 1)).toNat)).drop a0.toNat) (((x1.take ((W .i64 (a1 + 1)).toNat)).drop a0.toNat).length : Int) 0 m1 a0 a1)))
 (some (.done (V.tup [V.sl m1, V.bool x7])))
theorem s14_0_eq (x1 : List V) (x7 : Bool) (x24 : List V) (x25 : Int) (x26 : Int) (m1 : List V) : goK hk false 0 fa14 0 (T14_0 x1 x7 x24 x25 x26 m1) = s14_0 x1 x7 x24 x25 x26 m1 := by kernel_rfl
theorem s14_0_run (x1 : List V) (x7 : Bool) (x24 : List V) (x25 : Int) (x26 : Int) (m1 : List V) {o o' : Out} (h : s14_0 x1 x7 x24 x25 x26 m1 = some o) (hg : Go hk false 0 fa14 o o') : Go hk false 0 fa14 (.head 0 (T14_0 x1 x7 x24 x25 x26 m1)) o' := .step ((s14_0_eq x1 x7 x24 x25 x26 m1).trans h) hg
noncomputable def s14_1 (x1 : List V) (x7 : Bool) (x24 : List V) (x25 : Int) (x26 : Int) (x36 : List V) (x37 : Int) (x38 : Int) (m1 : List V) (m2_0 : Int) (m2_1 : Int) : R :=
  cond (decide (x38 < x37))
 (gd (decide (0 ≤ x38)) <|
  idxK x36 x38.toNat fun v =>
  d30 v fun txn kind0 key value n pairs is0 =>
  gd (decide (0 ≤ m2_0)) <|
  idxK x1 m2_0.toNat fun v_1 =>
  d30 v_1 fun txn_1 kind0_1 key_1 value_1 n_1 pairs_1 is0_1 =>
  cond (txn == txn_1)
 (pcK hcfg 11 [V.sl m1, V.agg [V.int .i64 txn, V.int .i64 kind0, V.str key, V.str value, V.int .i64 n, V.sl pairs, V.bool is0]] fun r =>
  d31 r fun r11_0 r11_1 =>
  cond x7
 (some (.head 1 (T14_1b x1 r11_1 r11_0 x24 x25 x26 x36 x37 (W .i64 (x38 + 1)) m2_0 m2_1)))
 (some (.head 1 (T14_1b x1 false r11_0 x24 x25 x26 x36 x37 (W .i64 (x38 + 1)) m2_0 m2_1))))
 (some (.head 1 (T14_1 x1 x7 x24 x25 x26 x36 x37 (W .i64 (x38 + 1)) m1 m2_0 m2_1))))
 (some (.head 0 (T14_0 x1 x7 x24 x25 (W .i64 (x26 + 1)) m1)))
theorem s14_1_eq (x1 : List V) (x7 : Bool) (x24 : List V) (x25 : Int) (x26 : Int) (x36 : List V) (x37 : Int) (x38 : Int) (m1 : List V) (m2_0 : Int) (m2_1 : Int) : goK hk false 0 fa14 1 (T14_1 x1 x7 x24 x25 x26 x36 x37 x38 m1 m2_0 m2_1) = s14_1 x1 x7 x24 x25 x26 x36 x37 x38 m1 m2_0 m2_1 := by kernel_rfl
theorem s14_1_run (x1 : List V) (x7 : Bool) (x24 : List V) (x25 : Int) (x26 : Int) (x36 : List V) (x37 : Int) (x38 : Int) (m1 : List V) (m2_0 : Int) (m2_1 : Int) {o o' : Out} (h : s14_1 x1 x7 x24 x25 x26 x36 x37 x38 m1 m2_0 m2_1 = some o) (hg : Go hk false 0 fa14 o o') : Go hk false 0 fa14 (.head 1 (T14_1 x1 x7 x24 x25 x26 x36 x37 x38 m1 m2_0 m2_1)) o' := .step ((s14_1_eq x1 x7 x24 x25 x26 x36 x37 x38 m1 m2_0 m2_1).trans h) hg
noncomputable def s14_1b (x1 : List V) (x7 : Bool) (x8 : List V) (x24 : List V) (x25 : Int) (x26 : Int) (x36 : List V) (x37 : Int) (x38 : Int) (m1_0 : Int) (m1_1 : Int) : R :=
  cond (decide (x38 < x37))
 (gd (decide (0 ≤ x38)) <|
  idxK x36 x38.toNat fun v =>
  d30 v fun txn kind0 key value n pairs is0 =>
  gd (decide (0 ≤ m1_0)) <|
  idxK x1 m1_0.toNat fun v_1 =>
  d30 v_1 fun txn_1 kind0_1 key_1 value_1 n_1 pairs_1 is0_1 =>
  cond (txn == txn_1)
 (pcK hcfg 11 [V.sl x8, V.agg [V.int .i64 txn, V.int .i64 kind0, V.str key, V.str value, V.int .i64 n, V.sl pairs, V.bool is0]] fun r =>
  d31 r fun r11_0 r11_1 =>
  cond x7
 (some (.head 1 (T14_1b x1 r11_1 r11_0 x24 x25 x26 x36 x37 (W .i64 (x38 + 1)) m1_0 m1_1)))
 (some (.head 1 (T14_1b x1 false r11_0 x24 x25 x26 x36 x37 (W .i64 (x38 + 1)) m1_0 m1_1))))
 (some (.head 1 (T14_1b x1 x7 x8 x24 x25 x26 x36 x37 (W .i64 (x38 + 1)) m1_0 m1_1))))
 (some (.head 0 (T14_0b x1 x7 x8 x24 x25 (W .i64 (x26 + 1)))))
theorem s14_1b_eq (x1 : List V) (x7 : Bool) (x8 : List V) (x24 : List V) (x25 : Int) (x26 : Int) (x36 : List V) (x37 : Int) (x38 : Int) (m1_0 : Int) (m1_1 : Int) : goK hk false 0 fa14 1 (T14_1b x1 x7 x8 x24 x25 x26 x36 x37 x38 m1_0 m1_1) = s14_1b x1 x7 x8 x24 x25 x26 x36 x37 x38 m1_0 m1_1 := by kernel_rfl
theorem s14_1b_run (x1 : List V) (x7 : Bool) (x8 : List V) (x24 : List V) (x25 : Int) (x26 : Int) (x36 : List V) (x37 : Int) (x38 : Int) (m1_0 : Int) (m1_1 : Int) {o o' : Out} (h : s14_1b x1 x7 x8 x24 x25 x26 x36 x37 x38 m1_0 m1_1 = some o) (hg : Go hk false 0 fa14 o o') : Go hk false 0 fa14 (.head 1 (T14_1b x1 x7 x8 x24 x25 x26 x36 x37 x38 m1_0 m1_1)) o' := .step ((s14_1b_eq x1 x7 x8 x24 x25 x26 x36 x37 x38 m1_0 m1_1).trans h) hg
noncomputable def s14_0b (x1 : List V) (x7 : Bool) (x8 : List V) (x24 : List V) (x25 : Int) (x26 : Int) : R :=
  cond (decide (x26 < x25))
 (gd (decide (0 ≤ x26)) <|
  idxK x24 x26.toNat fun v =>
  d56 v fun a0 a1 =>
  gd (wfl 7 x1) <|
  gd (decide (0 ≤ a0)) <|
  gd (decide (0 ≤ W .i64 (a1 + 1))) <|
  gd (decide (a0.toNat ≤ (W .i64 (a1 + 1)).toNat)) <|
  gd (decide ((W .i64 (a1 + 1)).toNat ≤ x1.length)) <|
  some (.head 1 (T14_1b x1 x7 x8 x24 x25 x26 ((x1.take ((W .i64 (a1 + 1)).toNat)).drop a0.toNat) (((x1.take ((W .i64 (a1 + 1)).toNat)).drop a0.toNat).length : Int) 0 a0 a1)))
 (some (.done (V.tup [V.sl x8, V.bool x7])))
theorem s14_0b_eq (x1 : List V) (x7 : Bool) (x8 : List V) (x24 : List V) (x25 : Int) (x26 : Int) : goK hk false 0 fa14 0 (T14_0b x1 x7 x8 x24 x25 x26) = s14_0b x1 x7 x8 x24 x25 x26 := by kernel_rfl
theorem s14_0b_run (x1 : List V) (x7 : Bool) (x8 : List V) (x24 : List V) (x25 : Int) (x26 : Int) {o o' : Out} (h : s14_0b x1 x7 x8 x24 x25 x26 = some o) (hg : Go hk false 0 fa14 o o') : Go hk false 0 fa14 (.head 0 (T14_0b x1 x7 x8 x24 x25 x26)) o' := .step ((s14_0b_eq x1 x7 x8 x24 x25 x26).trans h) hg
/-! ### budwood/budwoodref23.Serial -/
noncomputable def fa15 : FA := ⟨2, 63, [.tmp 4, .tmp 5], [22, 4],
 (.seq
 (.ops false [⟨(some 4), .assign (.const (.slice none 0 0)), 22, none⟩, ⟨(some 5), .assign (.const (.bool false)), 4, none⟩])
 (.seq
 (.seq
 (.ops false [mv 12 1 26, ⟨(some 13), .call ⟨(.value (.func 17)), #[(.tmp 12)], #[26]⟩, 4, none⟩, ⟨(some 14), .unOp .not 4 (.tmp 13), 4, none⟩])
 (.cond (.tmp 14)
 (.seq
 (.ops false [⟨(some 4), .assign (.const (.slice none 0 0)), 22, none⟩, ⟨(some 5), .assign (.const (.bool false)), 4, none⟩])
 (.ret))
 (.skip)))
 (.seq
 (.ops false [mv 15 0 22, asg 6 15 22, ⟨(some 7), .assign (.const (.bool true)), 4, none⟩])
 (.seq
 (.seq
 (.ops false [⟨(some 8), .assign (.const (.int .i64 (0))), 3, none⟩])
 (.block 0
 (.loop ([0, 2, 3] ++ List.range' 9 54)
 (.seq
 (.seq
 (.ops false [mv 16 8 3, mv 17 1 26, ⟨(some 18), .call ⟨(.builtin .len), #[(.tmp 17)], #[26]⟩, 3, none⟩, ⟨(some 19), .binOp .lss 3 (.tmp 16) (.tmp 18) 3, 4, none⟩])
 (.cond (.tmp 19)
 (.skip)
 (.exit 0)))
 (.seq
 (.block 1
 (.seq
 (.seq
 (.ops false [mv 22 1 26, mv 23 8 3, ⟨(some 24), .indexAddr 26 (.tmp 22) (.tmp 23), 0, none⟩, ⟨(some 25), .fieldAddr 28 (.tmp 24) 1, 0, none⟩, ⟨(some 26), .load 3 (.tmp 25), 3, none⟩, ⟨(some 27), .binOp .neq 3 (.tmp 26) (.const (.int .i64 (6))) 3, 4, none⟩])
 (.cond (.tmp 27)
 (.exit 1)
 (.skip)))
 (.seq
 (.ops false [mv 28 1 26, mv 29 8 3, ⟨(some 30), .call ⟨(.value (.func 33)), #[(.tmp 28), (.tmp 29)], #[26, 3]⟩, 3, none⟩, asg 9 30 3])
 (.block 2
 (.loop ([0, 2, 3] ++ List.range' 10 53)
 (.seq
 (.seq
 (.ops false [mv 31 9 3, mv 32 8 3, ⟨(some 33), .binOp .leq 3 (.tmp 31) (.tmp 32) 3, 4, none⟩])
 (.cond (.tmp 33)
 (.skip)
 (.exit 2)))
 (.seq
 (.block 3
 (.seq
 (.ops true [mv 36 1 26, mv 37 9 3, ⟨(some 38), .indexAddr 26 (.tmp 36) (.tmp 37), 0, none⟩, ⟨(some 39), .fieldAddr 28 (.tmp 38) 0, 0, none⟩, ⟨(some 40), .load 3 (.tmp 39), 3, none⟩, mv 41 1 26, mv 42 8 3, ⟨(some 43), .indexAddr 26 (.tmp 41) (.tmp 42), 0, none⟩, ⟨(some 44), .fieldAddr 28 (.tmp 43) 0, 0, none⟩, ⟨(some 45), .load 3 (.tmp 44), 3, none⟩, ⟨(some 46), .binOp .eql 3 (.tmp 40) (.tmp 45) 3, 4, none⟩])
 (.cond (.tmp 46)
 (.seq
 (.ops false [mv 48 6 22, mv 49 1 26, mv 50 9 3, ⟨(some 51), .indexAddr 26 (.tmp 49) (.tmp 50), 0, none⟩, ⟨(some 52), .load 28 (.tmp 51), 28, none⟩, ⟨(some 53), .call ⟨(.value (.func 12)), #[(.tmp 48), (.tmp 52)], #[22, 28]⟩, 31, none⟩, mv 47 53 31, ⟨(some 54), .extract (.tmp 47) 0, 22, none⟩, ⟨(some 55), .extract (.tmp 47) 1, 4, none⟩, asg 10 54 22, asg 11 55 4])
 (.seq
 (.ops false [mv 56 10 22, asg 6 56 22])
 (.ops false [mv 57 7 4, mv 58 57 4, ⟨(some 59), .move (.tmp 11), 4, (some (58, true))⟩, ⟨(some 60), .pick (.tmp 58) (.tmp 59) (.const (.bool false)), 4, none⟩, asg 7 60 4])))
 (.skip))))
 (.ops false [mv 34 9 3, ⟨(some 35), .binOp .add 3 (.tmp 34) (.const (.int .i64 (1))) 3, 3, none⟩, asg 9 35 3]))))))))
 (.ops false [mv 20 8 3, ⟨(some 21), .binOp .add 3 (.tmp 20) (.const (.int .i64 (1))) 3, 3, none⟩, asg 8 21 3]))))))
 (.seq
 (.ops false [mv 61 6 22, mv 62 7 4, asg 4 61 22, asg 5 62 4])
 (.ret))))))⟩
theorem fa15_eq : fnA hcfg.P 15 = some fa15 := by kernel_rfl
def T15_0 (x1 : List V) (x6 : List V) (x7 : Bool) (x8 : Int) : S := ⟨[V.junk, V.sl x1, V.junk, V.junk, V.own 0, V.bool false, V.sl x6, V.bool x7, V.int .i64 x8] ++ (JU 54), [O.row 46 [] 0]⟩
def T15_1 (x1 : List V) (x6 : List V) (x7 : Bool) (x8 : Int) (x9 : Int) : S := ⟨[V.junk, V.sl x1, V.junk, V.junk, V.own 0, V.bool false, V.sl x6, V.bool x7, V.int .i64 x8, V.int .i64 x9] ++ (JU 53), [O.row 46 [] 0]⟩
noncomputable def e15 (a0 : List V) (a1 : List V) : R :=
  pcK hcfg 17 [V.sl a1] fun r =>
  kB r fun r17 =>
  cond (!r17)
 (some (.done (V.tup [V.sl [], V.bool false])))
 (some (.head 0 (T15_0 a1 a0 true 0)))
theorem e15_eq (a0 : List V) (a1 : List V) : enterK hk false fa15 [V.sl a0, V.sl a1] [] = e15 a0 a1 := by kernel_rfl
theorem e15_run (a0 : List V) (a1 : List V) {o : Out} {v : V} (h : e15 a0 a1 = some o) (hg : Go hk false 0 fa15 o (.done v)) : pcW hcfg 15 [V.sl a0, V.sl a1] = some v := pcW_go hik rfl fa15_eq ((e15_eq a0 a1).trans h) hg
noncomputable def s15_0 (x1 : List V) (x6 : List V) (x7 : Bool) (x8 : Int) : R :=
  cond (decide (x8 < (x1.length : Int)))
 (gd (decide (0 ≤ x8)) <|
  idxK x1 x8.toNat fun v =>
  d28 v fun txn kind0 key value n pairs is0 =>
  cond (kind0 != (6 : Int))
 (some (.head 0 (T15_0 x1 x6 x7 (W .i64 (x8 + 1)))))
 (pcK hcfg 33 [V.sl x1, V.int .i64 x8] fun r =>
  kI .i64 r fun r33 =>
  some (.head 1 (T15_1 x1 x6 x7 x8 r33))))
 (some (.done (V.tup [V.sl x6, V.bool x7])))
theorem s15_0_eq (x1 : List V) (x6 : List V) (x7 : Bool) (x8 : Int) : goK hk false 0 fa15 0 (T15_0 x1 x6 x7 x8) = s15_0 x1 x6 x7 x8 := by kernel_rfl
theorem s15_0_run (x1 : List V) (x6 : List V) (x7 : Bool) (x8 : Int) {o o' : Out} (h : s15_0 x1 x6 x7 x8 = some o) (hg : Go hk false 0 fa15 o o') : Go hk false 0 fa15 (.head 0 (T15_0 x1 x6 x7 x8)) o' := .step ((s15_0_eq x1 x6 x7 x8).trans h) hg
noncomputable def s15_1 (x1 : List V) (x6 : List V) (x7 : Bool) (x8 : Int) (x9 : Int) : R :=
  cond (decide (x9 ≤ x8))
 (gd (decide (0 ≤ x9)) <|
  idxK x1 x9.toNat fun v =>
  d28 v fun txn kind0 key value n pairs is0 =>
  gd (decide (0 ≤ x8)) <|
  idxK x1 x8.toNat fun v_1 =>
  d28 v_1 fun txn_1 kind0_1 key_1 value_1 n_1 pairs_1 is0_1 =>
  cond (txn == txn_1)
 (gd (decide (0 ≤ x9)) <|
  idxK x1 x9.toNat fun v_2 =>
  d28 v_2 fun txn_2 kind0_2 key_2 value_2 n_2 pairs_2 is0_2 =>
  pcK hcfg 12 [V.sl x6, V.agg [V.int .i64 txn_2, V.int .i64 kind0_2, V.str key_2, V.str value_2, V.int .i64 n_2, V.sl pairs_2, V.bool is0_2]] fun r =>
  d31 r fun r12_0 r12_1 =>
  cond x7
 (some (.head 1 (T15_1 x1 r12_0 r12_1 x8 (W .i64 (x9 + 1)))))
 (some (.head 1 (T15_1 x1 r12_0 false x8 (W .i64 (x9 + 1))))))
 (some (.head 1 (T15_1 x1 x6 x7 x8 (W .i64 (x9 + 1))))))
 (some (.head 0 (T15_0 x1 x6 x7 (W .i64 (x8 + 1)))))
theorem s15_1_eq (x1 : List V) (x6 : List V) (x7 : Bool) (x8 : Int) (x9 : Int) : goK hk false 0 fa15 1 (T15_1 x1 x6 x7 x8 x9) = s15_1 x1 x6 x7 x8 x9 := by kernel_rfl
theorem s15_1_run (x1 : List V) (x6 : List V) (x7 : Bool) (x8 : Int) (x9 : Int) {o o' : Out} (h : s15_1 x1 x6 x7 x8 x9 = some o) (hg : Go hk false 0 fa15 o o') : Go hk false 0 fa15 (.head 1 (T15_1 x1 x6 x7 x8 x9)) o' := .step ((s15_1_eq x1 x6 x7 x8 x9).trans h) hg
end Go.Proofs.Ythojkngbpcjicaa
