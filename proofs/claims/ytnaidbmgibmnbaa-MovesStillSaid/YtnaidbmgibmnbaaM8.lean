/-
  The functions' graphs (printed by walk.py).
-/
import Derived.Test.YtnaidbmgibmnbaaM7
namespace Go.Proofs.Ytnaidbmgibmnbaa
open Go Go.Lite
set_option maxRecDepth 100000
set_option linter.unusedVariables false
def d44 (v : V) (k : Int → Int → Bool → R) : R := kA v fun cs => unc cs fun c cs => kI .i64 c fun x0 => unc cs fun c cs => kI .i64 c fun x1 => unc cs fun c cs => kB c fun x2 => unn cs <| (k x0 x1 x2)
@[simp] theorem d44_mk (x0 : Int) (x1 : Int) (x2 : Bool) (k : Int → Int → Bool → R) : d44 (.agg [V.int .i64 x0, V.int .i64 x1, V.bool x2]) k = k x0 x1 x2 := rfl
@[congr] theorem d44_wc {v v' : V} {k : Int → Int → Bool → R} (h : v = v') : d44 v k = d44 v' k := by rw [h]
def d59 (v : V) (k : Int → Int → Bool → R) : R := kA v fun cs => unc cs fun c cs => kI .i64 c fun x0 => unc cs fun c cs => kI .i64 c fun x1 => unc cs fun c cs => kB c fun x2 => unn cs <| (k x0 x1 x2)
@[simp] theorem d59_mk (x0 : Int) (x1 : Int) (x2 : Bool) (k : Int → Int → Bool → R) : d59 (.agg [V.int .i64 x0, V.int .i64 x1, V.bool x2]) k = k x0 x1 x2 := rfl
@[congr] theorem d59_wc {v v' : V} {k : Int → Int → Bool → R} (h : v = v') : d59 v k = d59 v' k := by rw [h]
/-! ### slices.Collect(int) -/
noncomputable def fa40 : FA := ⟨1, 5, [.tmp 2], [22],
 (.seq
 (.ops false [o1 2 (.assign (.const (.slice none 0 0))) 22])
 (.seq
 (.ops false [mv 3 0 48, o1 4 (.call ⟨(.value (.func 44)), #[(.const (.slice none 0 0)), (t' 3)], #[22, 48]⟩) 22, asg 2 4 22])
 (.ret)))⟩
theorem fa40_eq : fnA cfgB.P (cfgB.rxf 40) 40 = some fa40 := by kernel_rfl
/-! ### budwood/moves.apply -/
noncomputable def fa33 : FA := ⟨2, 55, [.tmp 4], [24],
 (.seq
 (.ops false [o1 3 (.box 44 (t' 1)) 0, o1 4 (.assign (.const (.int .i64 (0)))) 24])
 (.seq
 (.ops true [mv 7 0 22, o1 8 (.fieldAddr 44 (t' 3) 0) 0, o1 9 (.load 3 (t' 8)) 3, o1 10 (.call ⟨(.value (.func 36)), #[(t' 7), (t' 9)], #[22, 3]⟩) 3, mv 11 0 22, o1 12 (.fieldAddr 44 (t' 3) 1) 0, o1 13 (.load 3 (t' 12)) 3, ⟨(some 14), .call ⟨(.value (.func 36)), #[(t' 11), (t' 13)], #[22, 3]⟩, 3, none, false, true, false⟩, asg 5 10 3, asg 6 14 3])
 (.seq
 (.block 0
 (.seq
 (.ops false [mv 21 5 3, o1 22 (.binOp .lss 3 (t' 21) (.const (.int .i64 (0))) 3) 4, asg 20 22 4])
 (.cond (t' 20)
 (.seq
 (.ops false [o1 4 (.assign (.const (.int .i64 (7)))) 24])
 (.ret))
 (.seq
 (.ops false [o1 24 (.fieldAddr 44 (t' 3) 2) 0, o1 25 (.load 4 (t' 24)) 4, mv 26 25 4, o2 27 (.move (t' 6)) 3 26 true, o2 28 (.binOp .lss 3 (t' 27) (.const (.int .i64 (0))) 3) 4 26 true, o1 29 (.pick (t' 26) (t' 28) (.const (.bool false))) 4, asg 23 29 4])
 (.cond (t' 23)
 (.seq
 (.ops false [o1 4 (.assign (.const (.int .i64 (7)))) 24])
 (.ret))
 (.seq
 (.ops false [o1 31 (.fieldAddr 44 (t' 3) 2) 0, o1 32 (.load 4 (t' 31)) 4, asg 30 32 4])
 (.cond (t' 30)
 (.ops true [mv 33 0 22, mv 34 5 3, mv 35 0 22, mv 36 6 3, mv 37 0 22, mv 38 6 3, o1 39 (.indexAddr 22 (t' 37) (t' 38)) 0, o1 40 (.load 3 (t' 39)) 3, mv 41 0 22, mv 42 5 3, o1 43 (.indexAddr 22 (t' 41) (t' 42)) 0, o1 44 (.load 3 (t' 43)) 3, o1 45 (.indexAddr 22 (t' 33) (t' 34)) 0, o0 (.store 3 (t' 45) (t' 40)) 0, o1 46 (.indexAddr 22 (t' 35) (t' 36)) 0, o0 (.store 3 (t' 46) (t' 44)) 0])
 (.seq
 (.ops false [o1 48 (.fieldAddr 44 (t' 3) 1) 0, o1 49 (.load 3 (t' 48)) 3, o1 50 (.call ⟨(.value (.func 31)), #[(t' 49)], #[3]⟩) 4, o1 51 (.unOp .not 4 (t' 50)) 4, asg 47 51 4])
 (.cond (t' 47)
 (.seq
 (.ops false [o1 4 (.assign (.const (.int .i64 (1)))) 24])
 (.ret))
 (.seq
 (.ops false [mv 53 6 3, o1 54 (.binOp .geq 3 (t' 53) (.const (.int .i64 (0))) 3) 4, asg 52 54 4])
 (.cond (t' 52)
 (.seq
 (.ops false [o1 4 (.assign (.const (.int .i64 (8)))) 24])
 (.ret))
 (.ops false [mv 15 0 22, mv 16 5 3, o1 17 (.fieldAddr 44 (t' 3) 1) 0, o1 18 (.load 3 (t' 17)) 3, o1 19 (.indexAddr 22 (t' 15) (t' 16)) 0, o0 (.store 3 (t' 19) (t' 18)) 0]))))))))))))
 (.seq
 (.ops false [o1 4 (.assign (.const (.int .i64 (0)))) 24])
 (.ret)))))⟩
theorem fa33_eq : fnA cfgB.P (cfgB.rxf 33) 33 = some fa33 := by kernel_rfl
noncomputable def kcB : KC := kcB1.inl [(40, fa40), (33, fa33)]
theorem ikB : IKOK kcB := inl_ok ikB1 (by
  intro x hx
  simp only [List.mem_cons, List.not_mem_nil, or_false] at hx
  rcases hx with rfl | rfl
  · exact ⟨rfl, fa40_eq, rfl⟩
  · exact ⟨rfl, fa33_eq, rfl⟩)
/-! ### slices.Sorted(int) -/
noncomputable def fa24 : FA := ⟨1, 9, [.tmp 2], [22],
 (.seq
 (.ops false [o1 2 (.assign (.const (.slice none 0 0))) 22])
 (.seq
 (.ops false [mv 4 0 48, o1 5 (.call ⟨(.value (.func 40)), #[(t' 4)], #[48]⟩) 22, asg 3 5 22])
 (.seq
 (.ops false [mv 6 3 22, o1 7 (.call ⟨(.value (.func 41)), #[(t' 6)], #[22]⟩) 0])
 (.seq
 (.ops false [mv 8 3 22, asg 2 8 22])
 (.ret)))))⟩
theorem fa24_eq : fnA cfgB.P (cfgB.rxf 24) 24 = some fa24 := by kernel_rfl
noncomputable def e24 (c0 : List V) : R :=
  opt (intsOf c0) fun xs =>
  gd (decide (xs.length ≤ 16777216)) <|
  gd (decide ((xs.map iV).length ≤ 16777216)) <|
  opt (intsOf (xs.map iV)) fun xs_1 =>
  some (.done (V.sl ((srt xs_1).map iV)))
theorem e24_eq (c0 : List V) : enterK kcB false fa24 [V.fn 42 [V.ref (V.sl c0) 0]] [] = e24 c0 := by kernel_rfl
theorem e24_run (c0 : List V) {o : Out} {v : V} (h : e24 c0 = some o) (hg : Go kcB false 0 fa24 o (.done v)) : pcW cfgB 24 [V.fn 42 [V.ref (V.sl c0) 0]] = some v := pcW_go ikB rfl fa24_eq ((e24_eq c0).trans h) hg
theorem e24_done (c0 : List V) {v : V} (h : e24 c0 = some (.done v)) : pcW cfgB 24 [V.fn 42 [V.ref (V.sl c0) 0]] = some v := e24_run c0 h (.refl _)
/-! ### slices.Index(()int,int) -/
noncomputable def fa36 : FA := ⟨2, 19, [.tmp 4], [3],
 (.seq
 (.ops false [o1 4 (.assign (.const (.int .i64 (0)))) 3])
 (.seq
 (.seq
 (.ops false [mv 6 0 22, o1 7 (.call ⟨(.builtin .len), #[(t' 6)], #[22]⟩) 3, o1 8 (.move (.const (.int .i64 (0)))) 3])
 (.block 0
 (.loop ([2, 3, 5, 6] ++ List.range' 9 10)
 (.seq
 (.ops false [o1 9 (.binOp .lss 3 (t' 8) (t' 7) 3) 0])
 (.seq
 (.cond (t' 9)
 (.skip)
 (.exit 0))
 (.seq
 (.block 1
 (.seq
 (.ops false [mv 10 8 3, asg 5 10 3])
 (.seq
 (.ops false [mv 11 1 3, mv 12 0 22, mv 13 5 3, o1 14 (.indexAddr 22 (t' 12) (t' 13)) 0, o1 15 (.load 3 (t' 14)) 3, o1 16 (.binOp .eql 3 (t' 11) (t' 15) 3) 4])
 (.cond (t' 16)
 (.seq
 (.ops false [mv 17 5 3, asg 4 17 3])
 (.ret))
 (.skip)))))
 (.ops false [o1 18 (.binOp .add 3 (t' 8) (.const (.int .i64 (1))) 3) 3, mv 8 18 3])))))))
 (.seq
 (.ops false [o1 4 (.assign (.const (.int .i64 (-1)))) 3])
 (.ret))))⟩
theorem fa36_eq : fnA cfgB.P (cfgB.rxf 36) 36 = some fa36 := by kernel_rfl
def T36_0 (x0 : List V) (x1 : Int) (x7 : Int) (x8 : Int) : S := ⟨[V.sl x0, V.int .i64 x1, V.junk, V.junk, V.int .i64 0, V.junk, V.junk, V.int .i64 x7, V.int .i64 x8] ++ (JU 10), []⟩
noncomputable def e36 (a0 : List V) (a1 : Int) : R :=
  some (.head 0 (T36_0 a0 a1 (a0.length : Int) 0))
theorem e36_eq (a0 : List V) (a1 : Int) : enterK kcB false fa36 [V.sl a0, V.int .i64 a1] [] = e36 a0 a1 := by kernel_rfl
theorem e36_run (a0 : List V) (a1 : Int) {o : Out} {v : V} (h : e36 a0 a1 = some o) (hg : Go kcB false 0 fa36 o (.done v)) : pcW cfgB 36 [V.sl a0, V.int .i64 a1] = some v := pcW_go ikB rfl fa36_eq ((e36_eq a0 a1).trans h) hg
noncomputable def s36_0 (x0 : List V) (x1 : Int) (x7 : Int) (x8 : Int) : R :=
  cond (decide (x8 < x7))
 (gd (decide (0 ≤ x8)) <|
  idxK x0 x8.toNat fun v =>
  kI .i64 v fun n =>
  cond (x1 == n)
 (some (.done (V.int .i64 x8)))
 (some (.head 0 (T36_0 x0 x1 x7 (W .i64 (x8 + 1))))))
 (some (.done (V.int .i64 (-1))))
theorem s36_0_eq (x0 : List V) (x1 : Int) (x7 : Int) (x8 : Int) : goK kcB false 0 fa36 0 (T36_0 x0 x1 x7 x8) = s36_0 x0 x1 x7 x8 := by kernel_rfl
theorem s36_0_run (x0 : List V) (x1 : Int) (x7 : Int) (x8 : Int) {o o' : Out} (h : s36_0 x0 x1 x7 x8 = some o) (hg : Go kcB false 0 fa36 o o') : Go kcB false 0 fa36 (.head 0 (T36_0 x0 x1 x7 x8)) o' := .step ((s36_0_eq x0 x1 x7 x8).trans h) hg
/-! ### slices.Index(()bool,bool) -/
noncomputable def fa35 : FA := ⟨2, 19, [.tmp 4], [3],
 (.seq
 (.ops false [o1 4 (.assign (.const (.int .i64 (0)))) 3])
 (.seq
 (.seq
 (.ops false [mv 6 0 60, o1 7 (.call ⟨(.builtin .len), #[(t' 6)], #[60]⟩) 3, o1 8 (.move (.const (.int .i64 (0)))) 3])
 (.block 0
 (.loop ([2, 3, 5, 6] ++ List.range' 9 10)
 (.seq
 (.ops false [o1 9 (.binOp .lss 3 (t' 8) (t' 7) 3) 0])
 (.seq
 (.cond (t' 9)
 (.skip)
 (.exit 0))
 (.seq
 (.block 1
 (.seq
 (.ops false [mv 10 8 3, asg 5 10 3])
 (.seq
 (.ops false [mv 11 1 4, mv 12 0 60, mv 13 5 3, o1 14 (.indexAddr 60 (t' 12) (t' 13)) 0, o1 15 (.load 4 (t' 14)) 4, o1 16 (.binOp .eql 4 (t' 11) (t' 15) 4) 4])
 (.cond (t' 16)
 (.seq
 (.ops false [mv 17 5 3, asg 4 17 3])
 (.ret))
 (.skip)))))
 (.ops false [o1 18 (.binOp .add 3 (t' 8) (.const (.int .i64 (1))) 3) 3, mv 8 18 3])))))))
 (.seq
 (.ops false [o1 4 (.assign (.const (.int .i64 (-1)))) 3])
 (.ret))))⟩
theorem fa35_eq : fnA cfgB.P (cfgB.rxf 35) 35 = some fa35 := by kernel_rfl
def T35_0 (x0 : List V) (x1 : Bool) (x7 : Int) (x8 : Int) : S := ⟨[V.sl x0, V.bool x1, V.junk, V.junk, V.int .i64 0, V.junk, V.junk, V.int .i64 x7, V.int .i64 x8] ++ (JU 10), []⟩
noncomputable def e35 (a0 : List V) (a1 : Bool) : R :=
  some (.head 0 (T35_0 a0 a1 (a0.length : Int) 0))
theorem e35_eq (a0 : List V) (a1 : Bool) : enterK kcB false fa35 [V.sl a0, V.bool a1] [] = e35 a0 a1 := by kernel_rfl
theorem e35_run (a0 : List V) (a1 : Bool) {o : Out} {v : V} (h : e35 a0 a1 = some o) (hg : Go kcB false 0 fa35 o (.done v)) : pcW cfgB 35 [V.sl a0, V.bool a1] = some v := pcW_go ikB rfl fa35_eq ((e35_eq a0 a1).trans h) hg
noncomputable def s35_0 (x0 : List V) (x1 : Bool) (x7 : Int) (x8 : Int) : R :=
  cond (decide (x8 < x7))
 (gd (decide (0 ≤ x8)) <|
  idxK x0 x8.toNat fun v =>
  kB v fun b =>
  cond (x1 == b)
 (some (.done (V.int .i64 x8)))
 (some (.head 0 (T35_0 x0 x1 x7 (W .i64 (x8 + 1))))))
 (some (.done (V.int .i64 (-1))))
theorem s35_0_eq (x0 : List V) (x1 : Bool) (x7 : Int) (x8 : Int) : goK kcB false 0 fa35 0 (T35_0 x0 x1 x7 x8) = s35_0 x0 x1 x7 x8 := by kernel_rfl
theorem s35_0_run (x0 : List V) (x1 : Bool) (x7 : Int) (x8 : Int) {o o' : Out} (h : s35_0 x0 x1 x7 x8 = some o) (hg : Go kcB false 0 fa35 o o') : Go kcB false 0 fa35 (.head 0 (T35_0 x0 x1 x7 x8)) o' := .step ((s35_0_eq x0 x1 x7 x8).trans h) hg
/-! ### budwood/moves.page -/
noncomputable def fa31 : FA := ⟨1, 9, [.tmp 2], [4],
 (.seq
 (.ops false [o1 2 (.assign (.const (.bool false))) 4])
 (.seq
 (.ops false [mv 3 0 3, o1 4 (.binOp .geq 3 (t' 3) (.const (.int .i64 (0))) 3) 4, mv 5 4 4, o2 6 (.move (t' 0)) 3 5 true, o2 7 (.binOp .lss 3 (t' 6) (.const (.int .i64 (1024))) 3) 4 5 true, o1 8 (.pick (t' 5) (t' 7) (.const (.bool false))) 4, asg 2 8 4])
 (.ret)))⟩
theorem fa31_eq : fnA cfgB.P (cfgB.rxf 31) 31 = some fa31 := by kernel_rfl
noncomputable def e31 (a0 : Int) : R :=
  cond (decide (a0 ≥ 0))
 (some (.done (V.bool (decide (a0 < 1024)))))
 (some (.done (V.bool false)))
theorem e31_eq (a0 : Int) : enterK kcB false fa31 [V.int .i64 a0] [] = e31 a0 := by kernel_rfl
theorem e31_run (a0 : Int) {o : Out} {v : V} (h : e31 a0 = some o) (hg : Go kcB false 0 fa31 o (.done v)) : pcW cfgB 31 [V.int .i64 a0] = some v := pcW_go ikB rfl fa31_eq ((e31_eq a0).trans h) hg
theorem e31_done (a0 : Int) {v : V} (h : e31 a0 = some (.done v)) : pcW cfgB 31 [V.int .i64 a0] = some v := e31_run a0 h (.refl _)
/-! ### budwood/moves.Sort$1 -/
noncomputable def fa27 : FA := ⟨2, 8, [.tmp 3], [3],
 (.seq
 (.ops false [o1 3 (.assign (.const (.int .i64 (0)))) 3])
 (.seq
 (.ops false [o1 4 (.load 22 (t' 1)) 22, mv 5 0 3, o1 6 (.indexAddr 22 (t' 4) (t' 5)) 0, o1 7 (.load 3 (t' 6)) 3, asg 3 7 3])
 (.ret)))⟩
theorem fa27_eq : fnA cfgB.P (cfgB.rxf 27) 27 = some fa27 := by kernel_rfl
noncomputable def e27 (a0 : Int) (c0 : List V) : R :=
  gd (decide (0 ≤ a0)) <|
  idxK c0 a0.toNat fun v =>
  kI .i64 v fun n =>
  some (.done (V.int .i64 n))
theorem e27_eq (a0 : Int) (c0 : List V) : enterK kcB false fa27 [V.int .i64 a0, V.ref (V.sl c0) 0] [] = e27 a0 c0 := by kernel_rfl
theorem e27_run (a0 : Int) (c0 : List V) {o : Out} {v : V} (h : e27 a0 c0 = some o) (hg : Go kcB false 0 fa27 o (.done v)) : pcW cfgB 27 [V.int .i64 a0, V.ref (V.sl c0) 0] = some v := pcW_go ikB rfl fa27_eq ((e27_eq a0 c0).trans h) hg
theorem e27_done (a0 : Int) (c0 : List V) {v : V} (h : e27 a0 c0 = some (.done v)) : pcW cfgB 27 [V.int .i64 a0, V.ref (V.sl c0) 0] = some v := e27_run a0 c0 h (.refl _)
/-! ### budwood/moves.Into$1 -/
noncomputable def fa32 : FA := ⟨2, 7, [.tmp 3], [3],
 (.seq
 (.ops false [o1 3 (.assign (.const (.int .i64 (0)))) 3])
 (.seq
 (.ops false [o1 4 (.load 3 (t' 1)) 3, mv 5 0 3, o1 6 (.binOp .add 3 (t' 4) (t' 5) 3) 3, asg 3 6 3])
 (.ret)))⟩
theorem fa32_eq : fnA cfgB.P (cfgB.rxf 32) 32 = some fa32 := by kernel_rfl
noncomputable def e32 (a0 : Int) (c0 : Int) : R :=
  some (.done (V.int .i64 (W .i64 (c0 + a0))))
theorem e32_eq (a0 : Int) (c0 : Int) : enterK kcB false fa32 [V.int .i64 a0, V.ref (V.int .i64 c0) 0] [] = e32 a0 c0 := by kernel_rfl
theorem e32_run (a0 : Int) (c0 : Int) {o : Out} {v : V} (h : e32 a0 c0 = some o) (hg : Go kcB false 0 fa32 o (.done v)) : pcW cfgB 32 [V.int .i64 a0, V.ref (V.int .i64 c0) 0] = some v := pcW_go ikB rfl fa32_eq ((e32_eq a0 c0).trans h) hg
theorem e32_done (a0 : Int) (c0 : Int) {v : V} (h : e32 a0 c0 = some (.done v)) : pcW cfgB 32 [V.int .i64 a0, V.ref (V.int .i64 c0) 0] = some v := e32_run a0 c0 h (.refl _)
/-! ### (budwood/moves.mover).run -/
noncomputable def fa28 : FA := ⟨1, 58, [.tmp 2], [23],
 (.seq
 (.ops false [o1 1 (.box 53 (t' 0)) 0, o1 2 (.assign (.const (.slice none 0 0))) 23])
 (.seq
 (.ops false [o1 3 (.assign (.const (.slice none 0 0))) 23])
 (.seq
 (.seq
 (.ops false [o1 7 (.fieldAddr 53 (t' 1) 0) 0, o1 8 (.load 22 (t' 7)) 22, o1 9 (.call ⟨(.builtin .len), #[(t' 8)], #[22]⟩) 3, o1 10 (.move (.const (.int .i64 (0)))) 3])
 (.block 0
 (.loop ([0] ++ List.range' 4 5 ++ List.range' 11 47)
 (.seq
 (.ops false [o1 11 (.binOp .lss 3 (t' 10) (t' 9) 3) 0])
 (.seq
 (.cond (t' 11)
 (.skip)
 (.exit 0))
 (.seq
 (.block 1
 (.seq
 (.ops false [mv 12 10 3, asg 4 12 3])
 (.seq
 (.ops false [o1 13 (.fieldAddr 53 (t' 1) 1) 0, o1 14 (.load 51 (t' 13)) 51, mv 15 4 3, o1 16 (.call ⟨(.value (t' 14)), #[(t' 15)], #[3]⟩) 3, asg 5 16 3])
 (.seq
 (.seq
 (.ops false [o1 17 (.fieldAddr 53 (t' 1) 0) 0, o1 18 (.load 22 (t' 17)) 22, mv 19 4 3, o1 20 (.indexAddr 22 (t' 18) (t' 19)) 0, o1 21 (.load 3 (t' 20)) 3, mv 22 5 3, o1 23 (.binOp .eql 3 (t' 21) (t' 22) 3) 4])
 (.cond (t' 23)
 (.exit 1)
 (.skip)))
 (.seq
 (.ops false [o1 24 (.fieldAddr 53 (t' 1) 0) 0, o1 25 (.load 22 (t' 24)) 22, mv 26 5 3, o1 27 (.call ⟨(.value (.func 36)), #[(t' 25), (t' 26)], #[22, 3]⟩) 3, asg 6 27 3])
 (.seq
 (.ops false [mv 28 3 23, o1 29 (.fieldAddr 53 (t' 1) 0) 0, o1 30 (.load 22 (t' 29)) 22, mv 31 4 3, o1 32 (.indexAddr 22 (t' 30) (t' 31)) 0, o1 33 (.load 3 (t' 32)) 3, mv 34 5 3, mv 35 6 3, o1 36 (.binOp .geq 3 (t' 35) (.const (.int .i64 (0))) 3) 4, o1 37 (.build 44 #[(0, (t' 33)), (1, (t' 34)), (2, (t' 36))]) 44, o1 38 (.buildSlice 23 1 #[(0, (t' 37))]) 23, o1 39 (.call ⟨(.builtin .append), #[(t' 28), (t' 38)], #[23, 23]⟩) 23, asg 3 39 23])
 (.seq
 (.seq
 (.ops false [mv 40 6 3, o1 41 (.binOp .geq 3 (t' 40) (.const (.int .i64 (0))) 3) 4])
 (.cond (t' 41)
 (.ops true [o1 42 (.fieldAddr 53 (t' 1) 0) 0, o1 43 (.load 22 (t' 42)) 22, mv 44 6 3, o1 45 (.fieldAddr 53 (t' 1) 0) 0, o1 46 (.load 22 (t' 45)) 22, mv 47 4 3, o1 48 (.indexAddr 22 (t' 46) (t' 47)) 0, o1 49 (.load 3 (t' 48)) 3, o1 50 (.indexAddr 22 (t' 43) (t' 44)) 0, o0 (.store 3 (t' 50) (t' 49)) 0])
 (.skip)))
 (.ops false [o1 51 (.fieldAddr 53 (t' 1) 0) 0, o1 52 (.load 22 (t' 51)) 22, mv 53 4 3, mv 54 5 3, o1 55 (.indexAddr 22 (t' 52) (t' 53)) 0, o0 (.store 3 (t' 55) (t' 54)) 0]))))))))
 (.ops false [o1 56 (.binOp .add 3 (t' 10) (.const (.int .i64 (1))) 3) 3, mv 10 56 3])))))))
 (.seq
 (.ops false [mv 57 3 23, asg 2 57 23])
 (.ret)))))⟩
theorem fa28_eq : fnA cfgB.P (cfgB.rxf 28) 28 = some fa28 := by kernel_rfl
def T28a_0 (x9 : Int) (x10 : Int) (m2 : List V) (m3 : List V) (m6 : List V) : S := ⟨[V.junk, V.ptr 4 0 0, V.own 5, V.own 6] ++ (JU 5) ++ [V.int .i64 x9, V.int .i64 x10] ++ (JU 47), [O.row 44 [] 0, O.row 3 [] 0, O.box 22 (V.sl m2) false, O.row 3 m3 0, O.box 53 (V.agg [V.tail 3 0, V.fn 27 [V.ptr 2 0 0]]) false, O.row 44 [] 0, O.row 44 m6 0]⟩
noncomputable def e28a (hs : List V) (l : List V) : R :=
  some (.head 0 (T28a_0 (l.length : Int) 0 hs l []))
theorem e28a_eq (hs : List V) (l : List V) : enterK kcB true fa28 [V.agg [V.own 3, V.fn 27 [V.ptr 2 0 0]]] [O.row 44 [] 0, O.row 3 [] 0, O.box 22 (V.sl hs) false, O.row 3 l 0] = e28a hs l := by kernel_rfl
theorem e28a_run (hs : List V) (l : List V) {o : Out} {v : V} {m : List O} (h : e28a hs l = some o) (hg : Go kcB true 4 fa28 o (.doneM v m)) : icW cfgB 28 [V.agg [V.own 3, V.fn 27 [V.ptr 2 0 0]]] [O.row 44 [] 0, O.row 3 [] 0, O.box 22 (V.sl hs) false, O.row 3 l 0] = some (v, m) := icW_go ikB rfl fa28_eq ((e28a_eq hs l).trans h) hg
noncomputable def s28a_0 (x9 : Int) (x10 : Int) (m2 : List V) (m3 : List V) (m6 : List V) : R :=
  cond (decide (x10 < x9))
 (pcK cfgB 27 [V.int .i64 x10, V.ref (V.sl m2) 0] fun r =>
  kI .i64 r fun r27 =>
  gd (decide (0 ≤ x10)) <|
  gd (decide (x10.toNat < m3.length)) <|
  idxK m3 (0 + x10.toNat) fun v =>
  kI .i64 v fun n =>
  cond (n == r27)
 (some (.head 0 (T28a_0 x9 (W .i64 (x10 + 1)) m2 m3 m6)))
 (pcK cfgB 36 [V.sl m3, V.int .i64 r27] fun r_1 =>
  kI .i64 r_1 fun r36 =>
  gd (decide (0 ≤ x10)) <|
  gd (decide (x10.toNat < m3.length)) <|
  idxK m3 (0 + x10.toNat) fun v_1 =>
  kI .i64 v_1 fun n_1 =>
  gd (decide (m6.length + ([V.agg [V.int .i64 n_1, V.int .i64 r27, V.bool (decide (r36 ≥ 0))]] : List V).length ≤ 16777216)) <|
  cond (decide (r36 ≥ 0))
 (gd (decide (0 ≤ x10)) <|
  gd (decide (x10.toNat < m3.length)) <|
  idxK m3 (0 + x10.toNat) fun v_2 =>
  kI .i64 v_2 fun n_2 =>
  gd (decide (0 ≤ r36)) <|
  gd (decide (r36.toNat < m3.length)) <|
  idxK m3 (0 + r36.toNat) fun v_3 =>
  kI .i64 v_3 fun n_3 =>
  gd (decide (0 ≤ x10)) <|
  gd (decide (x10.toNat < ((m3).set (0 + r36.toNat) (V.int .i64 n_2)).length)) <|
  idxK ((m3).set (0 + r36.toNat) (V.int .i64 n_2)) (0 + x10.toNat) fun v_4 =>
  kI .i64 v_4 fun n_4 =>
  some (.head 0 (T28a_0 x9 (W .i64 (x10 + 1)) m2 (((m3).set (0 + r36.toNat) (V.int .i64 n_2)).set (0 + x10.toNat) (V.int .i64 r27)) (m6 ++ [V.agg [V.int .i64 n_1, V.int .i64 r27, V.bool (decide (r36 ≥ 0))]]))))
 (gd (decide (0 ≤ x10)) <|
  gd (decide (x10.toNat < m3.length)) <|
  idxK m3 (0 + x10.toNat) fun v_5 =>
  kI .i64 v_5 fun n_5 =>
  some (.head 0 (T28a_0 x9 (W .i64 (x10 + 1)) m2 ((m3).set (0 + x10.toNat) (V.int .i64 r27)) (m6 ++ [V.agg [V.int .i64 n_1, V.int .i64 r27, V.bool (decide (r36 ≥ 0))]]))))))
 (some (.doneM (V.own 6) [O.row 44 [] 0, O.row 3 [] 0, O.box 22 (V.sl m2) false, O.row 3 m3 0, O.box 53 (V.agg [V.tail 3 0, V.fn 27 [V.ptr 2 0 0]]) false, O.row 44 [] 0, O.row 44 m6 0]))
theorem s28a_0_eq (x9 : Int) (x10 : Int) (m2 : List V) (m3 : List V) (m6 : List V) : goK kcB true 4 fa28 0 (T28a_0 x9 x10 m2 m3 m6) = s28a_0 x9 x10 m2 m3 m6 := by kernel_rfl
theorem s28a_0_run (x9 : Int) (x10 : Int) (m2 : List V) (m3 : List V) (m6 : List V) {o o' : Out} (h : s28a_0 x9 x10 m2 m3 m6 = some o) (hg : Go kcB true 4 fa28 o o') : Go kcB true 4 fa28 (.head 0 (T28a_0 x9 x10 m2 m3 m6)) o' := .step ((s28a_0_eq x9 x10 m2 m3 m6).trans h) hg
def T28b_0 (x9 : Int) (x10 : Int) (m0 : Int) (m2 : List V) (m5 : List V) : S := ⟨[V.junk, V.ptr 3 0 0, V.own 4, V.own 5] ++ (JU 5) ++ [V.int .i64 x9, V.int .i64 x10] ++ (JU 47), [O.box 3 (V.int .i64 m0) false, O.row 44 [] 0, O.row 3 m2 0, O.box 53 (V.agg [V.tail 2 0, V.fn 32 [V.ptr 0 0 0]]) false, O.row 44 [] 0, O.row 44 m5 0]⟩
noncomputable def e28b (b : Int) (l : List V) : R :=
  some (.head 0 (T28b_0 (l.length : Int) 0 b l []))
theorem e28b_eq (b : Int) (l : List V) : enterK kcB true fa28 [V.agg [V.own 2, V.fn 32 [V.ptr 0 0 0]]] [O.box 3 (V.int .i64 b) false, O.row 44 [] 0, O.row 3 l 0] = e28b b l := by kernel_rfl
theorem e28b_run (b : Int) (l : List V) {o : Out} {v : V} {m : List O} (h : e28b b l = some o) (hg : Go kcB true 3 fa28 o (.doneM v m)) : icW cfgB 28 [V.agg [V.own 2, V.fn 32 [V.ptr 0 0 0]]] [O.box 3 (V.int .i64 b) false, O.row 44 [] 0, O.row 3 l 0] = some (v, m) := icW_go ikB rfl fa28_eq ((e28b_eq b l).trans h) hg
noncomputable def s28b_0 (x9 : Int) (x10 : Int) (m0 : Int) (m2 : List V) (m5 : List V) : R :=
  cond (decide (x10 < x9))
 (pcK cfgB 32 [V.int .i64 x10, V.ref (V.int .i64 m0) 0] fun r =>
  kI .i64 r fun r32 =>
  gd (decide (0 ≤ x10)) <|
  gd (decide (x10.toNat < m2.length)) <|
  idxK m2 (0 + x10.toNat) fun v =>
  kI .i64 v fun n =>
  cond (n == r32)
 (some (.head 0 (T28b_0 x9 (W .i64 (x10 + 1)) m0 m2 m5)))
 (pcK cfgB 36 [V.sl m2, V.int .i64 r32] fun r_1 =>
  kI .i64 r_1 fun r36 =>
  gd (decide (0 ≤ x10)) <|
  gd (decide (x10.toNat < m2.length)) <|
  idxK m2 (0 + x10.toNat) fun v_1 =>
  kI .i64 v_1 fun n_1 =>
  gd (decide (m5.length + ([V.agg [V.int .i64 n_1, V.int .i64 r32, V.bool (decide (r36 ≥ 0))]] : List V).length ≤ 16777216)) <|
  cond (decide (r36 ≥ 0))
 (gd (decide (0 ≤ x10)) <|
  gd (decide (x10.toNat < m2.length)) <|
  idxK m2 (0 + x10.toNat) fun v_2 =>
  kI .i64 v_2 fun n_2 =>
  gd (decide (0 ≤ r36)) <|
  gd (decide (r36.toNat < m2.length)) <|
  idxK m2 (0 + r36.toNat) fun v_3 =>
  kI .i64 v_3 fun n_3 =>
  gd (decide (0 ≤ x10)) <|
  gd (decide (x10.toNat < ((m2).set (0 + r36.toNat) (V.int .i64 n_2)).length)) <|
  idxK ((m2).set (0 + r36.toNat) (V.int .i64 n_2)) (0 + x10.toNat) fun v_4 =>
  kI .i64 v_4 fun n_4 =>
  some (.head 0 (T28b_0 x9 (W .i64 (x10 + 1)) m0 (((m2).set (0 + r36.toNat) (V.int .i64 n_2)).set (0 + x10.toNat) (V.int .i64 r32)) (m5 ++ [V.agg [V.int .i64 n_1, V.int .i64 r32, V.bool (decide (r36 ≥ 0))]]))))
 (gd (decide (0 ≤ x10)) <|
  gd (decide (x10.toNat < m2.length)) <|
  idxK m2 (0 + x10.toNat) fun v_5 =>
  kI .i64 v_5 fun n_5 =>
  some (.head 0 (T28b_0 x9 (W .i64 (x10 + 1)) m0 ((m2).set (0 + x10.toNat) (V.int .i64 r32)) (m5 ++ [V.agg [V.int .i64 n_1, V.int .i64 r32, V.bool (decide (r36 ≥ 0))]]))))))
 (some (.doneM (V.own 5) [O.box 3 (V.int .i64 m0) false, O.row 44 [] 0, O.row 3 m2 0, O.box 53 (V.agg [V.tail 2 0, V.fn 32 [V.ptr 0 0 0]]) false, O.row 44 [] 0, O.row 44 m5 0]))
theorem s28b_0_eq (x9 : Int) (x10 : Int) (m0 : Int) (m2 : List V) (m5 : List V) : goK kcB true 3 fa28 0 (T28b_0 x9 x10 m0 m2 m5) = s28b_0 x9 x10 m0 m2 m5 := by kernel_rfl
theorem s28b_0_run (x9 : Int) (x10 : Int) (m0 : Int) (m2 : List V) (m5 : List V) {o o' : Out} (h : s28b_0 x9 x10 m0 m2 m5 = some o) (hg : Go kcB true 3 fa28 o o') : Go kcB true 3 fa28 (.head 0 (T28b_0 x9 x10 m0 m2 m5)) o' := .step ((s28b_0_eq x9 x10 m0 m2 m5).trans h) hg
/-! ### budwood/moves.Apply -/
noncomputable def fa12 : FA := ⟨2, 29, [.tmp 4, .tmp 5], [22, 24],
 (.seq
 (.ops false [o1 4 (.assign (.const (.slice none 0 0))) 22, o1 5 (.assign (.const (.int .i64 (0)))) 24])
 (.seq
 (.seq
 (.ops false [mv 10 0 22, o1 11 (.call ⟨(.value (.func 23)), #[(t' 10)], #[22]⟩) 4, o1 12 (.unOp .not 4 (t' 11)) 4])
 (.cond (t' 12)
 (.seq
 (.ops false [o1 4 (.assign (.const (.slice none 0 0))) 22, o1 5 (.assign (.const (.int .i64 (1)))) 24])
 (.ret))
 (.skip)))
 (.seq
 (.ops false [mv 13 0 22, o1 14 (.call ⟨(.value (.func 26)), #[(t' 13)], #[22]⟩) 22, asg 6 14 22])
 (.seq
 (.seq
 (.ops false [mv 15 1 23, o1 16 (.call ⟨(.builtin .len), #[(t' 15)], #[23]⟩) 3, o1 17 (.move (.const (.int .i64 (0)))) 3])
 (.block 0
 (.loop (List.range' 0 4 ++ List.range' 7 8 ++ List.range' 18 11)
 (.seq
 (.ops false [o1 18 (.binOp .lss 3 (t' 17) (t' 16) 3) 0])
 (.seq
 (.cond (t' 18)
 (.skip)
 (.exit 0))
 (.seq
 (.block 1
 (.seq
 (.ops false [o1 19 (.indexAddr 23 (t' 15) (t' 17)) 0, o1 20 (.load 44 (t' 19)) 44, o1 8 (.alloc 44) 0, o0 (.store 44 (t' 8) (t' 20)) 0])
 (.seq
 (.ops false [mv 21 6 22, o1 22 (.load 44 (t' 8)) 44, o1 23 (.call ⟨(.value (.func 33)), #[(t' 21), (t' 22)], #[22, 44]⟩) 24, asg 9 23 24])
 (.seq
 (.ops false [mv 24 9 24, o1 25 (.binOp .neq 24 (t' 24) (.const (.int .i64 (0))) 24) 4])
 (.cond (t' 25)
 (.seq
 (.ops false [mv 26 9 24, o1 4 (.assign (.const (.slice none 0 0))) 22, asg 5 26 24])
 (.ret))
 (.skip))))))
 (.ops false [o1 27 (.binOp .add 3 (t' 17) (.const (.int .i64 (1))) 3) 3, mv 17 27 3])))))))
 (.seq
 (.ops false [mv 28 6 22, asg 4 28 22, o1 5 (.assign (.const (.int .i64 (0)))) 24])
 (.ret))))))⟩
theorem fa12_eq : fnA cfgB.P (cfgB.rxf 12) 12 = some fa12 := by kernel_rfl
def T12_0 (x15 : List V) (x16 : Int) (x17 : Int) (m1 : List V) : S := ⟨(JU 4) ++ [V.own 0, V.int .i64 0, V.own 1] ++ (JU 8) ++ [V.sl x15, V.int .i64 x16, V.int .i64 x17] ++ (JU 11), [O.row 3 [] 0, O.row 3 m1 0]⟩
noncomputable def e12 (a0 : List V) (a1 : List V) : R :=
  pcK cfgB 23 [V.sl a0] fun r =>
  kB r fun r23 =>
  cond (!r23)
 (some (.done (V.tup [V.sl [], V.int .i64 1])))
 (pcK cfgB 26 [V.sl a0] fun r_1 =>
  kF 3 r_1 fun r26 =>
  some (.head 0 (T12_0 a1 (a1.length : Int) 0 r26)))
theorem e12_eq (a0 : List V) (a1 : List V) : enterK kcB false fa12 [V.sl a0, V.sl a1] [] = e12 a0 a1 := by kernel_rfl
theorem e12_run (a0 : List V) (a1 : List V) {o : Out} {v : V} (h : e12 a0 a1 = some o) (hg : Go kcB false 0 fa12 o (.done v)) : pcW cfgB 12 [V.sl a0, V.sl a1] = some v := pcW_go ikB rfl fa12_eq ((e12_eq a0 a1).trans h) hg
noncomputable def s12_0 (x15 : List V) (x16 : Int) (x17 : Int) (m1 : List V) : R :=
  cond (decide (x17 < x16))
 (gd (decide (0 ≤ x17)) <|
  idxK x15 x17.toNat fun v =>
  d44 v fun from0 to0 swap0 =>
  pcK cfgB 36 [V.sl m1, V.int .i64 from0] fun r =>
  kI .i64 r fun r36 =>
  pcK cfgB 36 [V.sl m1, V.int .i64 to0] fun r_1 =>
  kI .i64 r_1 fun r36_1 =>
  cond (decide (r36 < 0))
 (some (.done (V.tup [V.sl [], V.int .i64 7])))
 (cond swap0
 (cond (decide (r36_1 < 0))
 (some (.done (V.tup [V.sl [], V.int .i64 7])))
 (cond swap0
 (gd (decide (0 ≤ r36_1)) <|
  gd (decide (r36_1.toNat < m1.length)) <|
  idxK m1 r36_1.toNat fun v_1 =>
  kI .i64 v_1 fun n =>
  gd (decide (0 ≤ r36)) <|
  gd (decide (r36.toNat < m1.length)) <|
  idxK m1 r36.toNat fun v_2 =>
  kI .i64 v_2 fun n_1 =>
  gd (decide (0 ≤ r36)) <|
  gd (decide (r36.toNat < m1.length)) <|
  idxK m1 r36.toNat fun v_3 =>
  kI .i64 v_3 fun n_2 =>
  gd (decide (0 ≤ r36_1)) <|
  gd (decide (r36_1.toNat < ((m1).set r36.toNat (V.int .i64 n)).length)) <|
  idxK ((m1).set r36.toNat (V.int .i64 n)) r36_1.toNat fun v_4 =>
  kI .i64 v_4 fun n_3 =>
  some (.head 0 (T12_0 x15 x16 (W .i64 (x17 + 1)) (((m1).set r36.toNat (V.int .i64 n)).set r36_1.toNat (V.int .i64 n_1)))))
 (pcK cfgB 31 [V.int .i64 to0] fun r_2 =>
  kB r_2 fun r31 =>
  cond (!r31)
 (some (.done (V.tup [V.sl [], V.int .i64 1])))
 (cond (decide (r36_1 ≥ 0))
 (some (.done (V.tup [V.sl [], V.int .i64 8])))
 (gd (decide (0 ≤ r36)) <|
  gd (decide (r36.toNat < m1.length)) <|
  idxK m1 r36.toNat fun v_5 =>
  kI .i64 v_5 fun n_4 =>
  some (.head 0 (T12_0 x15 x16 (W .i64 (x17 + 1)) ((m1).set r36.toNat (V.int .i64 to0)))))))))
 (cond swap0
 (gd (decide (0 ≤ r36_1)) <|
  gd (decide (r36_1.toNat < m1.length)) <|
  idxK m1 r36_1.toNat fun v_6 =>
  kI .i64 v_6 fun n_5 =>
  gd (decide (0 ≤ r36)) <|
  gd (decide (r36.toNat < m1.length)) <|
  idxK m1 r36.toNat fun v_7 =>
  kI .i64 v_7 fun n_6 =>
  gd (decide (0 ≤ r36)) <|
  gd (decide (r36.toNat < m1.length)) <|
  idxK m1 r36.toNat fun v_8 =>
  kI .i64 v_8 fun n_7 =>
  gd (decide (0 ≤ r36_1)) <|
  gd (decide (r36_1.toNat < ((m1).set r36.toNat (V.int .i64 n_5)).length)) <|
  idxK ((m1).set r36.toNat (V.int .i64 n_5)) r36_1.toNat fun v_9 =>
  kI .i64 v_9 fun n_8 =>
  some (.head 0 (T12_0 x15 x16 (W .i64 (x17 + 1)) (((m1).set r36.toNat (V.int .i64 n_5)).set r36_1.toNat (V.int .i64 n_6)))))
 (pcK cfgB 31 [V.int .i64 to0] fun r_3 =>
  kB r_3 fun r31_1 =>
  cond (!r31_1)
 (some (.done (V.tup [V.sl [], V.int .i64 1])))
 (cond (decide (r36_1 ≥ 0))
 (some (.done (V.tup [V.sl [], V.int .i64 8])))
 (gd (decide (0 ≤ r36)) <|
  gd (decide (r36.toNat < m1.length)) <|
  idxK m1 r36.toNat fun v_10 =>
  kI .i64 v_10 fun n_9 =>
  some (.head 0 (T12_0 x15 x16 (W .i64 (x17 + 1)) ((m1).set r36.toNat (V.int .i64 to0))))))))))
 (some (.done (V.tup [V.sl m1, V.int .i64 0])))
theorem s12_0_eq (x15 : List V) (x16 : Int) (x17 : Int) (m1 : List V) : goK kcB false 0 fa12 0 (T12_0 x15 x16 x17 m1) = s12_0 x15 x16 x17 m1 := by kernel_rfl
theorem s12_0_run (x15 : List V) (x16 : Int) (x17 : Int) (m1 : List V) {o o' : Out} (h : s12_0 x15 x16 x17 m1 = some o) (hg : Go kcB false 0 fa12 o o') : Go kcB false 0 fa12 (.head 0 (T12_0 x15 x16 x17 m1)) o' := .step ((s12_0_eq x15 x16 x17 m1).trans h) hg
/-! ### budwood/moves.Cycles -/
noncomputable def fa17 : FA := ⟨1, 36, [.tmp 2], [3],
 (.seq
 (.ops false [o1 2 (.assign (.const (.int .i64 (0)))) 3])
 (.seq
 (.seq
 (.ops false [mv 7 0 22, o1 8 (.call ⟨(.value (.func 23)), #[(t' 7)], #[22]⟩) 4, o1 9 (.unOp .not 4 (t' 8)) 4])
 (.cond (t' 9)
 (.seq
 (.ops false [o1 2 (.assign (.const (.int .i64 (0)))) 3])
 (.ret))
 (.skip)))
 (.seq
 (.ops true [mv 10 0 22, ⟨(some 11), .call ⟨(.value (.func 25)), #[(t' 10)], #[22]⟩, 48, none, false, false, true⟩, ⟨(some 12), .call ⟨(.value (.func 24)), #[(t' 11)], #[48]⟩, 22, none, false, false, true⟩, mv 13 0 22, ⟨(some 14), .call ⟨(.builtin .len), #[(t' 13)], #[22]⟩, 3, none, true, false, false⟩, o1 15 (.makeSlice 60 (t' 14) (t' 14)) 60, asg 3 12 22, asg 4 15 60, o1 5 (.assign (.const (.int .i64 (0)))) 3, o1 6 (.assign (.const (.int .i64 (0)))) 3])
 (.block 3000001
 (.loop ([1] ++ List.range' 6 30)
 (.block 3000000
 (.seq
 (.seq
 (.ops false [mv 16 4 60, o1 17 (.call ⟨(.value (.func 35)), #[(t' 16), (.const (.bool false))], #[60, 4]⟩) 3, asg 6 17 3])
 (.seq
 (.seq
 (.ops false [mv 18 6 3, o1 19 (.binOp .lss 3 (t' 18) (.const (.int .i64 (0))) 3) 4])
 (.cond (t' 19)
 (.seq
 (.ops false [mv 20 5 3, asg 2 20 3])
 (.ret))
 (.skip)))
 (.seq
 (.ops false [mv 21 5 3, o1 22 (.binOp .add 3 (t' 21) (.const (.int .i64 (1))) 3) 3, asg 5 22 3])
 (.block 3000003
 (.loop ([1] ++ List.range' 7 29)
 (.block 3000002
 (.seq
 (.seq
 (.ops false [mv 23 4 60, mv 24 6 3, o1 25 (.indexAddr 60 (t' 23) (t' 24)) 0, o0 (.store 4 (t' 25) (.const (.bool true))) 0])
 (.seq
 (.ops false [mv 26 0 22, mv 27 3 22, mv 28 6 3, o1 29 (.indexAddr 22 (t' 27) (t' 28)) 0, o1 30 (.load 3 (t' 29)) 3, o1 31 (.call ⟨(.value (.func 36)), #[(t' 26), (t' 30)], #[22, 3]⟩) 3, asg 6 31 3])
 (.seq
 (.seq
 (.ops false [mv 32 4 60, mv 33 6 3, o1 34 (.indexAddr 60 (t' 32) (t' 33)) 0, o1 35 (.load 4 (t' 34)) 4])
 (.cond (t' 35)
 (.exit 3000000)
 (.skip)))
 (.exit 3000002))))
 (.exit 3000003))))))))
 (.exit 3000001))))))))⟩
theorem fa17_eq : fnA cfgB.P (cfgB.rxf 17) 17 = some fa17 := by kernel_rfl
def T17_0 (x0 : List V) (x3 : List V) (x5 : Int) (m0 : List V) : S := ⟨[V.sl x0, V.junk, V.int .i64 0, V.sl x3, V.own 0, V.int .i64 x5] ++ (JU 30), [O.row 4 m0 0]⟩
def T17_1 (x0 : List V) (x3 : List V) (x5 : Int) (x6 : Int) (m0 : List V) : S := ⟨[V.sl x0, V.junk, V.int .i64 0, V.sl x3, V.own 0, V.int .i64 x5, V.int .i64 x6] ++ (JU 29), [O.row 4 m0 0]⟩
noncomputable def e17 (a0 : List V) : R :=
  pcK cfgB 23 [V.sl a0] fun r =>
  kB r fun r23 =>
  cond (!r23)
 (some (.done (V.int .i64 0)))
 (pcK cfgB 24 [V.fn 42 [V.ref (V.sl a0) 0]] fun r_1 =>
  kL r_1 fun r24 =>
  gd (decide (0 ≤ (a0.length : Int))) <|
  gd (decide ((a0.length : Int) ≤ (a0.length : Int))) <|
  gd (decide ((a0.length : Int).toNat ≤ 16777216)) <|
  some (.head 0 (T17_0 a0 r24 0 (List.replicate ((a0.length : Int).toNat) (V.bool false)))))
theorem e17_eq (a0 : List V) : enterK kcB false fa17 [V.sl a0] [] = e17 a0 := by kernel_rfl
theorem e17_run (a0 : List V) {o : Out} {v : V} (h : e17 a0 = some o) (hg : Go kcB false 0 fa17 o (.done v)) : pcW cfgB 17 [V.sl a0] = some v := pcW_go ikB rfl fa17_eq ((e17_eq a0).trans h) hg
noncomputable def s17_0 (x0 : List V) (x3 : List V) (x5 : Int) (m0 : List V) : R :=
  pcK cfgB 35 [V.sl m0, V.bool false] fun r =>
  kI .i64 r fun r35 =>
  cond (decide (r35 < 0))
 (some (.done (V.int .i64 x5)))
 (some (.head 1 (T17_1 x0 x3 (W .i64 (x5 + 1)) r35 m0)))
theorem s17_0_eq (x0 : List V) (x3 : List V) (x5 : Int) (m0 : List V) : goK kcB false 0 fa17 0 (T17_0 x0 x3 x5 m0) = s17_0 x0 x3 x5 m0 := by kernel_rfl
theorem s17_0_run (x0 : List V) (x3 : List V) (x5 : Int) (m0 : List V) {o o' : Out} (h : s17_0 x0 x3 x5 m0 = some o) (hg : Go kcB false 0 fa17 o o') : Go kcB false 0 fa17 (.head 0 (T17_0 x0 x3 x5 m0)) o' := .step ((s17_0_eq x0 x3 x5 m0).trans h) hg
noncomputable def s17_1 (x0 : List V) (x3 : List V) (x5 : Int) (x6 : Int) (m0 : List V) : R :=
  gd (decide (0 ≤ x6)) <|
  gd (decide (x6.toNat < m0.length)) <|
  idxK m0 x6.toNat fun v =>
  kB v fun b =>
  gd (decide (0 ≤ x6)) <|
  idxK x3 x6.toNat fun v_1 =>
  kI .i64 v_1 fun n =>
  pcK cfgB 36 [V.sl x0, V.int .i64 n] fun r =>
  kI .i64 r fun r36 =>
  gd (decide (0 ≤ r36)) <|
  gd (decide (r36.toNat < ((m0).set x6.toNat (V.bool true)).length)) <|
  idxK ((m0).set x6.toNat (V.bool true)) r36.toNat fun v_2 =>
  kB v_2 fun b_1 =>
  cond b_1
 (some (.head 0 (T17_0 x0 x3 x5 ((m0).set x6.toNat (V.bool true)))))
 (some (.head 1 (T17_1 x0 x3 x5 r36 ((m0).set x6.toNat (V.bool true)))))
theorem s17_1_eq (x0 : List V) (x3 : List V) (x5 : Int) (x6 : Int) (m0 : List V) : goK kcB false 0 fa17 1 (T17_1 x0 x3 x5 x6 m0) = s17_1 x0 x3 x5 x6 m0 := by kernel_rfl
theorem s17_1_run (x0 : List V) (x3 : List V) (x5 : Int) (x6 : Int) (m0 : List V) {o o' : Out} (h : s17_1 x0 x3 x5 x6 m0 = some o) (hg : Go kcB false 0 fa17 o o') : Go kcB false 0 fa17 (.head 1 (T17_1 x0 x3 x5 x6 m0)) o' := .step ((s17_1_eq x0 x3 x5 x6 m0).trans h) hg
/-! ### budwood/moves.Breaks -/
noncomputable def fa19 : FA := ⟨1, 29, [.tmp 2], [3],
 (.seq
 (.ops false [o1 2 (.assign (.const (.int .i64 (0)))) 3])
 (.seq
 (.ops false [o1 3 (.assign (.const (.int .i64 (0)))) 3])
 (.seq
 (.seq
 (.ops false [mv 5 0 22, o1 6 (.call ⟨(.builtin .len), #[(t' 5)], #[22]⟩) 3, o1 7 (.move (.const (.int .i64 (0)))) 3])
 (.block 0
 (.loop ([1, 4, 5] ++ List.range' 8 21)
 (.seq
 (.ops false [o1 8 (.binOp .lss 3 (t' 7) (t' 6) 3) 0])
 (.seq
 (.cond (t' 8)
 (.skip)
 (.exit 0))
 (.seq
 (.block 1
 (.seq
 (.ops false [mv 9 7 3, asg 4 9 3])
 (.seq
 (.ops true [mv 10 4 3, o1 11 (.binOp .gtr 3 (t' 10) (.const (.int .i64 (0))) 3) 4, mv 12 11 4, o2 13 (.move (t' 0)) 22 12 true, o2 14 (.move (t' 4)) 3 12 true, o2 15 (.indexAddr 22 (t' 13) (t' 14)) 0 12 true, o2 16 (.load 3 (t' 15)) 3 12 true, o2 17 (.move (t' 0)) 22 12 true, o2 18 (.move (t' 4)) 3 12 true, o2 19 (.binOp .sub 3 (t' 18) (.const (.int .i64 (1))) 3) 3 12 true, o2 20 (.indexAddr 22 (t' 17) (t' 19)) 0 12 true, o2 21 (.load 3 (t' 20)) 3 12 true, o2 22 (.binOp .add 3 (t' 21) (.const (.int .i64 (1))) 3) 3 12 true, o2 23 (.binOp .neq 3 (t' 16) (t' 22) 3) 4 12 true, o1 24 (.pick (t' 12) (t' 23) (.const (.bool false))) 4])
 (.cond (t' 24)
 (.ops false [mv 25 3 3, o1 26 (.binOp .add 3 (t' 25) (.const (.int .i64 (1))) 3) 3, asg 3 26 3])
 (.skip)))))
 (.ops false [o1 27 (.binOp .add 3 (t' 7) (.const (.int .i64 (1))) 3) 3, mv 7 27 3])))))))
 (.seq
 (.ops false [mv 28 3 3, asg 2 28 3])
 (.ret)))))⟩
theorem fa19_eq : fnA cfgB.P (cfgB.rxf 19) 19 = some fa19 := by kernel_rfl
def T19_0 (x0 : List V) (x3 : Int) (x6 : Int) (x7 : Int) : S := ⟨[V.sl x0, V.junk, V.int .i64 0, V.int .i64 x3, V.junk, V.junk, V.int .i64 x6, V.int .i64 x7] ++ (JU 21), []⟩
noncomputable def e19 (a0 : List V) : R :=
  some (.head 0 (T19_0 a0 0 (a0.length : Int) 0))
theorem e19_eq (a0 : List V) : enterK kcB false fa19 [V.sl a0] [] = e19 a0 := by kernel_rfl
theorem e19_run (a0 : List V) {o : Out} {v : V} (h : e19 a0 = some o) (hg : Go kcB false 0 fa19 o (.done v)) : pcW cfgB 19 [V.sl a0] = some v := pcW_go ikB rfl fa19_eq ((e19_eq a0).trans h) hg
noncomputable def s19_0 (x0 : List V) (x3 : Int) (x6 : Int) (x7 : Int) : R :=
  cond (decide (x7 < x6))
 (cond (decide (x7 > 0))
 (gd (decide (0 ≤ x7)) <|
  idxK x0 x7.toNat fun v =>
  kI .i64 v fun n =>
  gd (decide (0 ≤ W .i64 (x7 - 1))) <|
  idxK x0 ((W .i64 (x7 - 1)).toNat) fun v_1 =>
  kI .i64 v_1 fun n_1 =>
  cond (n != (W .i64 (n_1 + 1)))
 (some (.head 0 (T19_0 x0 (W .i64 (x3 + 1)) x6 (W .i64 (x7 + 1)))))
 (some (.head 0 (T19_0 x0 x3 x6 (W .i64 (x7 + 1))))))
 (some (.head 0 (T19_0 x0 x3 x6 (W .i64 (x7 + 1))))))
 (some (.done (V.int .i64 x3)))
theorem s19_0_eq (x0 : List V) (x3 : Int) (x6 : Int) (x7 : Int) : goK kcB false 0 fa19 0 (T19_0 x0 x3 x6 x7) = s19_0 x0 x3 x6 x7 := by kernel_rfl
theorem s19_0_run (x0 : List V) (x3 : Int) (x6 : Int) (x7 : Int) {o o' : Out} (h : s19_0 x0 x3 x6 x7 = some o) (hg : Go kcB false 0 fa19 o o') : Go kcB false 0 fa19 (.head 0 (T19_0 x0 x3 x6 x7)) o' := .step ((s19_0_eq x0 x3 x6 x7).trans h) hg
/-! ### budwood/budwoodref16.find -/
noncomputable def fa34 : FA := ⟨2, 19, [.tmp 4], [3],
 (.seq
 (.ops false [o1 4 (.assign (.const (.int .i64 (0)))) 3])
 (.seq
 (.seq
 (.ops false [o1 5 (.assign (.const (.int .i64 (0)))) 3])
 (.block 0
 (.loop ([2, 3] ++ List.range' 6 13)
 (.seq
 (.seq
 (.ops false [mv 6 5 3, mv 7 0 22, o1 8 (.call ⟨(.builtin .len), #[(t' 7)], #[22]⟩) 3, o1 9 (.binOp .lss 3 (t' 6) (t' 8) 3) 4])
 (.cond (t' 9)
 (.skip)
 (.exit 0)))
 (.seq
 (.block 1
 (.seq
 (.ops false [mv 12 0 22, mv 13 5 3, o1 14 (.indexAddr 22 (t' 12) (t' 13)) 0, o1 15 (.load 3 (t' 14)) 3, mv 16 1 3, o1 17 (.binOp .eql 3 (t' 15) (t' 16) 3) 4])
 (.cond (t' 17)
 (.seq
 (.ops false [mv 18 5 3, asg 4 18 3])
 (.ret))
 (.skip))))
 (.ops false [mv 10 5 3, o1 11 (.binOp .add 3 (t' 10) (.const (.int .i64 (1))) 3) 3, asg 5 11 3]))))))
 (.seq
 (.ops false [o1 4 (.assign (.const (.int .i64 (-1)))) 3])
 (.ret))))⟩
theorem fa34_eq : fnA cfgB.P (cfgB.rxf 34) 34 = some fa34 := by kernel_rfl
def T34_0 (x0 : List V) (x1 : Int) (x5 : Int) : S := ⟨[V.sl x0, V.int .i64 x1, V.junk, V.junk, V.int .i64 0, V.int .i64 x5] ++ (JU 13), []⟩
noncomputable def e34 (a0 : List V) (a1 : Int) : R :=
  some (.head 0 (T34_0 a0 a1 0))
theorem e34_eq (a0 : List V) (a1 : Int) : enterK kcB false fa34 [V.sl a0, V.int .i64 a1] [] = e34 a0 a1 := by kernel_rfl
theorem e34_run (a0 : List V) (a1 : Int) {o : Out} {v : V} (h : e34 a0 a1 = some o) (hg : Go kcB false 0 fa34 o (.done v)) : pcW cfgB 34 [V.sl a0, V.int .i64 a1] = some v := pcW_go ikB rfl fa34_eq ((e34_eq a0 a1).trans h) hg
noncomputable def s34_0 (x0 : List V) (x1 : Int) (x5 : Int) : R :=
  cond (decide (x5 < (x0.length : Int)))
 (gd (decide (0 ≤ x5)) <|
  idxK x0 x5.toNat fun v =>
  kI .i64 v fun n =>
  cond (n == x1)
 (some (.done (V.int .i64 x5)))
 (some (.head 0 (T34_0 x0 x1 (W .i64 (x5 + 1))))))
 (some (.done (V.int .i64 (-1))))
theorem s34_0_eq (x0 : List V) (x1 : Int) (x5 : Int) : goK kcB false 0 fa34 0 (T34_0 x0 x1 x5) = s34_0 x0 x1 x5 := by kernel_rfl
theorem s34_0_run (x0 : List V) (x1 : Int) (x5 : Int) {o o' : Out} (h : s34_0 x0 x1 x5 = some o) (hg : Go kcB false 0 fa34 o o') : Go kcB false 0 fa34 (.head 0 (T34_0 x0 x1 x5)) o' := .step ((s34_0_eq x0 x1 x5).trans h) hg
/-! ### budwood/budwoodref16.Right -/
noncomputable def fa22 : FA := ⟨1, 35, [.tmp 2], [4],
 (.seq
 (.ops false [o1 2 (.assign (.const (.bool false))) 4])
 (.seq
 (.seq
 (.ops false [o1 3 (.assign (.const (.int .i64 (0)))) 3])
 (.block 0
 (.loop ([1] ++ List.range' 4 31)
 (.seq
 (.seq
 (.ops false [mv 4 3 3, mv 5 0 22, o1 6 (.call ⟨(.builtin .len), #[(t' 5)], #[22]⟩) 3, o1 7 (.binOp .lss 3 (t' 4) (t' 6) 3) 4])
 (.cond (t' 7)
 (.skip)
 (.exit 0)))
 (.seq
 (.block 1
 (.seq
 (.ops false [mv 10 0 22, mv 11 3 3, o1 12 (.indexAddr 22 (t' 10) (t' 11)) 0, o1 13 (.load 3 (t' 12)) 3, o1 14 (.binOp .lss 3 (t' 13) (.const (.int .i64 (0))) 3) 4, mv 15 14 4, o2 16 (.move (t' 0)) 22 15 false, o2 17 (.move (t' 3)) 3 15 false, o2 18 (.indexAddr 22 (t' 16) (t' 17)) 0 15 false, o2 19 (.load 3 (t' 18)) 3 15 false, o2 20 (.binOp .gtr 3 (t' 19) (.const (.int .i64 (1023))) 3) 4 15 false, o1 21 (.pick (t' 15) (.const (.bool true)) (t' 20)) 4, mv 22 21 4, o2 23 (.move (t' 0)) 22 22 false, o2 24 (.move (t' 0)) 22 22 false, o2 25 (.move (t' 3)) 3 22 false, o2 26 (.indexAddr 22 (t' 24) (t' 25)) 0 22 false, o2 27 (.load 3 (t' 26)) 3 22 false, o2 28 (.call ⟨(.value (.func 34)), #[(t' 23), (t' 27)], #[22, 3]⟩) 3 22 false, o2 29 (.move (t' 3)) 3 22 false, o2 30 (.binOp .neq 3 (t' 28) (t' 29) 3) 4 22 false, o1 31 (.pick (t' 22) (.const (.bool true)) (t' 30)) 4])
 (.cond (t' 31)
 (.seq
 (.ops false [o1 2 (.assign (.const (.bool false))) 4])
 (.ret))
 (.skip))))
 (.ops false [mv 8 3 3, o1 9 (.binOp .add 3 (t' 8) (.const (.int .i64 (1))) 3) 3, asg 3 9 3]))))))
 (.seq
 (.ops false [mv 32 0 22, o1 33 (.call ⟨(.builtin .len), #[(t' 32)], #[22]⟩) 3, o1 34 (.binOp .leq 3 (t' 33) (.const (.int .i64 (512))) 3) 4, asg 2 34 4])
 (.ret))))⟩
theorem fa22_eq : fnA cfgB.P (cfgB.rxf 22) 22 = some fa22 := by kernel_rfl
def T22_0 (x0 : List V) (x3 : Int) : S := ⟨[V.sl x0, V.junk, V.bool false, V.int .i64 x3] ++ (JU 31), []⟩
noncomputable def e22 (a0 : List V) : R :=
  some (.head 0 (T22_0 a0 0))
theorem e22_eq (a0 : List V) : enterK kcB false fa22 [V.sl a0] [] = e22 a0 := by kernel_rfl
theorem e22_run (a0 : List V) {o : Out} {v : V} (h : e22 a0 = some o) (hg : Go kcB false 0 fa22 o (.done v)) : pcW cfgB 22 [V.sl a0] = some v := pcW_go ikB rfl fa22_eq ((e22_eq a0).trans h) hg
noncomputable def s22_0 (x0 : List V) (x3 : Int) : R :=
  cond (decide (x3 < (x0.length : Int)))
 (gd (decide (0 ≤ x3)) <|
  idxK x0 x3.toNat fun v =>
  kI .i64 v fun n =>
  cond (decide (n < 0))
 (some (.done (V.bool false)))
 (gd (decide (0 ≤ x3)) <|
  idxK x0 x3.toNat fun v_1 =>
  kI .i64 v_1 fun n_1 =>
  cond (decide (n_1 > 1023))
 (some (.done (V.bool false)))
 (gd (decide (0 ≤ x3)) <|
  idxK x0 x3.toNat fun v_2 =>
  kI .i64 v_2 fun n_2 =>
  pcK cfgB 34 [V.sl x0, V.int .i64 n_2] fun r =>
  kI .i64 r fun r34 =>
  cond (r34 != x3)
 (some (.done (V.bool false)))
 (some (.head 0 (T22_0 x0 (W .i64 (x3 + 1))))))))
 (some (.done (V.bool (decide ((x0.length : Int) ≤ 512)))))
theorem s22_0_eq (x0 : List V) (x3 : Int) : goK kcB false 0 fa22 0 (T22_0 x0 x3) = s22_0 x0 x3 := by kernel_rfl
theorem s22_0_run (x0 : List V) (x3 : Int) {o o' : Out} (h : s22_0 x0 x3 = some o) (hg : Go kcB false 0 fa22 o o') : Go kcB false 0 fa22 (.head 0 (T22_0 x0 x3)) o' := .step ((s22_0_eq x0 x3).trans h) hg
/-! ### budwood/budwoodref16.Rise -/
noncomputable def fa30 : FA := ⟨1, 19, [.tmp 2], [22],
 (.seq
 (.ops false [o1 2 (.assign (.const (.slice none 0 0))) 22])
 (.seq
 (.ops false [o1 5 (.buildSlice 22 0 #[]) 22, asg 3 5 22])
 (.seq
 (.seq
 (.ops false [o1 4 (.assign (.const (.int .i64 (0)))) 3])
 (.block 0
 (.loop ([1] ++ List.range' 5 14)
 (.seq
 (.seq
 (.ops false [mv 6 4 3, o1 7 (.binOp .lss 3 (t' 6) (.const (.int .i64 (1024))) 3) 4])
 (.cond (t' 7)
 (.skip)
 (.exit 0)))
 (.seq
 (.block 1
 (.seq
 (.ops false [mv 10 0 22, mv 11 4 3, o1 12 (.call ⟨(.value (.func 34)), #[(t' 10), (t' 11)], #[22, 3]⟩) 3, o1 13 (.binOp .geq 3 (t' 12) (.const (.int .i64 (0))) 3) 4])
 (.cond (t' 13)
 (.ops false [mv 14 3 22, mv 15 4 3, o1 16 (.buildSlice 22 1 #[(0, (t' 15))]) 22, o1 17 (.call ⟨(.builtin .append), #[(t' 14), (t' 16)], #[22, 22]⟩) 22, asg 3 17 22])
 (.skip))))
 (.ops false [mv 8 4 3, o1 9 (.binOp .add 3 (t' 8) (.const (.int .i64 (1))) 3) 3, asg 4 9 3]))))))
 (.seq
 (.ops false [mv 18 3 22, asg 2 18 22])
 (.ret)))))⟩
theorem fa30_eq : fnA cfgB.P (cfgB.rxf 30) 30 = some fa30 := by kernel_rfl
def T30_0 (x0 : List V) (x4 : Int) (m1 : List V) : S := ⟨[V.sl x0, V.junk, V.own 0, V.own 1, V.int .i64 x4] ++ (JU 14), [O.row 3 [] 0, O.row 3 m1 0]⟩
noncomputable def e30 (a0 : List V) : R :=
  some (.head 0 (T30_0 a0 0 []))
theorem e30_eq (a0 : List V) : enterK kcB false fa30 [V.sl a0] [] = e30 a0 := by kernel_rfl
theorem e30_run (a0 : List V) {o : Out} {v : V} (h : e30 a0 = some o) (hg : Go kcB false 0 fa30 o (.done v)) : pcW cfgB 30 [V.sl a0] = some v := pcW_go ikB rfl fa30_eq ((e30_eq a0).trans h) hg
noncomputable def s30_0 (x0 : List V) (x4 : Int) (m1 : List V) : R :=
  cond (decide (x4 < 1024))
 (pcK cfgB 34 [V.sl x0, V.int .i64 x4] fun r =>
  kI .i64 r fun r34 =>
  cond (decide (r34 ≥ 0))
 (gd (decide (m1.length + ([V.int .i64 x4] : List V).length ≤ 16777216)) <|
  some (.head 0 (T30_0 x0 (W .i64 (x4 + 1)) (m1 ++ [V.int .i64 x4]))))
 (some (.head 0 (T30_0 x0 (W .i64 (x4 + 1)) m1))))
 (gd ((m1 : List V).all fun x => x.cells.all V.flat1) <|
  some (.done (V.fr 3 m1)))
theorem s30_0_eq (x0 : List V) (x4 : Int) (m1 : List V) : goK kcB false 0 fa30 0 (T30_0 x0 x4 m1) = s30_0 x0 x4 m1 := by kernel_rfl
theorem s30_0_run (x0 : List V) (x4 : Int) (m1 : List V) {o o' : Out} (h : s30_0 x0 x4 m1 = some o) (hg : Go kcB false 0 fa30 o o') : Go kcB false 0 fa30 (.head 0 (T30_0 x0 x4 m1)) o' := .step ((s30_0_eq x0 x4 m1).trans h) hg
/-! ### budwood/budwoodref16.steps -/
noncomputable def fa29 : FA := ⟨2, 65, [.tmp 4], [27],
 (.seq
 (.ops false [o1 4 (.assign (.const (.slice none 0 0))) 27])
 (.seq
 (.ops false [o1 9 (.buildSlice 27 0 #[]) 27, o1 10 (.buildSlice 22 0 #[]) 22, mv 11 0 22, o1 12 (.call ⟨(.builtin .append), #[(t' 10), (t' 11)], #[22, 22]⟩) 22, asg 5 9 27, asg 6 12 22])
 (.seq
 (.seq
 (.ops false [o1 7 (.assign (.const (.int .i64 (0)))) 3])
 (.block 0
 (.loop ([0, 2, 3] ++ List.range' 8 57)
 (.seq
 (.seq
 (.ops false [mv 13 7 3, mv 14 6 22, o1 15 (.call ⟨(.builtin .len), #[(t' 14)], #[22]⟩) 3, o1 16 (.binOp .lss 3 (t' 13) (t' 15) 3) 4])
 (.cond (t' 16)
 (.skip)
 (.exit 0)))
 (.seq
 (.block 1
 (.seq
 (.seq
 (.ops true [mv 19 6 22, mv 20 7 3, o1 21 (.indexAddr 22 (t' 19) (t' 20)) 0, o1 22 (.load 3 (t' 21)) 3, mv 23 1 22, mv 24 7 3, o1 25 (.indexAddr 22 (t' 23) (t' 24)) 0, o1 26 (.load 3 (t' 25)) 3, o1 27 (.binOp .eql 3 (t' 22) (t' 26) 3) 4])
 (.cond (t' 27)
 (.exit 1)
 (.skip)))
 (.seq
 (.ops false [mv 28 6 22, mv 29 1 22, mv 30 7 3, o1 31 (.indexAddr 22 (t' 29) (t' 30)) 0, o1 32 (.load 3 (t' 31)) 3, o1 33 (.call ⟨(.value (.func 34)), #[(t' 28), (t' 32)], #[22, 3]⟩) 3, asg 8 33 3])
 (.seq
 (.ops true [mv 34 5 27, mv 35 6 22, mv 36 7 3, o1 37 (.indexAddr 22 (t' 35) (t' 36)) 0, o1 38 (.load 3 (t' 37)) 3, mv 39 1 22, mv 40 7 3, o1 41 (.indexAddr 22 (t' 39) (t' 40)) 0, o1 42 (.load 3 (t' 41)) 3, mv 43 8 3, o1 44 (.binOp .geq 3 (t' 43) (.const (.int .i64 (0))) 3) 4, o1 45 (.build 59 #[(0, (t' 38)), (1, (t' 42)), (2, (t' 44))]) 59, o1 46 (.buildSlice 27 1 #[(0, (t' 45))]) 27, o1 47 (.call ⟨(.builtin .append), #[(t' 34), (t' 46)], #[27, 27]⟩) 27, asg 5 47 27])
 (.seq
 (.seq
 (.ops false [mv 48 8 3, o1 49 (.binOp .geq 3 (t' 48) (.const (.int .i64 (0))) 3) 4])
 (.cond (t' 49)
 (.ops false [mv 50 6 22, mv 51 8 3, mv 52 6 22, mv 53 7 3, o1 54 (.indexAddr 22 (t' 52) (t' 53)) 0, o1 55 (.load 3 (t' 54)) 3, o1 56 (.indexAddr 22 (t' 50) (t' 51)) 0, o0 (.store 3 (t' 56) (t' 55)) 0])
 (.skip)))
 (.ops false [mv 57 6 22, mv 58 7 3, mv 59 1 22, mv 60 7 3, o1 61 (.indexAddr 22 (t' 59) (t' 60)) 0, o1 62 (.load 3 (t' 61)) 3, o1 63 (.indexAddr 22 (t' 57) (t' 58)) 0, o0 (.store 3 (t' 63) (t' 62)) 0]))))))
 (.ops false [mv 17 7 3, o1 18 (.binOp .add 3 (t' 17) (.const (.int .i64 (1))) 3) 3, asg 7 18 3]))))))
 (.seq
 (.ops false [mv 64 5 27, asg 4 64 27])
 (.ret)))))⟩
theorem fa29_eq : fnA cfgB.P (cfgB.rxf 29) 29 = some fa29 := by kernel_rfl
def T29_0 (x1 : List V) (x7 : Int) (m1 : List V) (m2 : List V) : S := ⟨[V.junk, V.sl x1, V.junk, V.junk, V.own 0, V.own 1, V.own 2, V.int .i64 x7] ++ (JU 57), [O.row 59 [] 0, O.row 59 m1 0, O.row 3 m2 0]⟩
noncomputable def e29 (a0 : List V) (a1 : List V) : R :=
  gd (wfl 1 a0) <|
  gd (decide (0 + a0.length ≤ 16777216)) <|
  some (.head 0 (T29_0 a1 0 [] a0))
theorem e29_eq (a0 : List V) (a1 : List V) : enterK kcB false fa29 [V.sl a0, V.sl a1] [] = e29 a0 a1 := by kernel_rfl
theorem e29_run (a0 : List V) (a1 : List V) {o : Out} {v : V} (h : e29 a0 a1 = some o) (hg : Go kcB false 0 fa29 o (.done v)) : pcW cfgB 29 [V.sl a0, V.sl a1] = some v := pcW_go ikB rfl fa29_eq ((e29_eq a0 a1).trans h) hg
noncomputable def s29_0 (x1 : List V) (x7 : Int) (m1 : List V) (m2 : List V) : R :=
  cond (decide (x7 < (m2.length : Int)))
 (gd (decide (0 ≤ x7)) <|
  gd (decide (x7.toNat < m2.length)) <|
  idxK m2 x7.toNat fun v =>
  kI .i64 v fun n =>
  gd (decide (0 ≤ x7)) <|
  idxK x1 x7.toNat fun v_1 =>
  kI .i64 v_1 fun n_1 =>
  cond (n == n_1)
 (some (.head 0 (T29_0 x1 (W .i64 (x7 + 1)) m1 m2)))
 (gd (decide (0 ≤ x7)) <|
  idxK x1 x7.toNat fun v_2 =>
  kI .i64 v_2 fun n_2 =>
  pcK cfgB 34 [V.sl m2, V.int .i64 n_2] fun r =>
  kI .i64 r fun r34 =>
  gd (decide (0 ≤ x7)) <|
  gd (decide (x7.toNat < m2.length)) <|
  idxK m2 x7.toNat fun v_3 =>
  kI .i64 v_3 fun n_3 =>
  gd (decide (0 ≤ x7)) <|
  idxK x1 x7.toNat fun v_4 =>
  kI .i64 v_4 fun n_4 =>
  gd (decide (m1.length + ([V.agg [V.int .i64 n_3, V.int .i64 n_4, V.bool (decide (r34 ≥ 0))]] : List V).length ≤ 16777216)) <|
  cond (decide (r34 ≥ 0))
 (gd (decide (0 ≤ x7)) <|
  gd (decide (x7.toNat < m2.length)) <|
  idxK m2 x7.toNat fun v_5 =>
  kI .i64 v_5 fun n_5 =>
  gd (decide (0 ≤ r34)) <|
  gd (decide (r34.toNat < m2.length)) <|
  idxK m2 r34.toNat fun v_6 =>
  kI .i64 v_6 fun n_6 =>
  gd (decide (0 ≤ x7)) <|
  idxK x1 x7.toNat fun v_7 =>
  kI .i64 v_7 fun n_7 =>
  gd (decide (0 ≤ x7)) <|
  gd (decide (x7.toNat < ((m2).set r34.toNat (V.int .i64 n_5)).length)) <|
  idxK ((m2).set r34.toNat (V.int .i64 n_5)) x7.toNat fun v_8 =>
  kI .i64 v_8 fun n_8 =>
  some (.head 0 (T29_0 x1 (W .i64 (x7 + 1)) (m1 ++ [V.agg [V.int .i64 n_3, V.int .i64 n_4, V.bool (decide (r34 ≥ 0))]]) (((m2).set r34.toNat (V.int .i64 n_5)).set x7.toNat (V.int .i64 n_7)))))
 (gd (decide (0 ≤ x7)) <|
  idxK x1 x7.toNat fun v_9 =>
  kI .i64 v_9 fun n_9 =>
  gd (decide (0 ≤ x7)) <|
  gd (decide (x7.toNat < m2.length)) <|
  idxK m2 x7.toNat fun v_10 =>
  kI .i64 v_10 fun n_10 =>
  some (.head 0 (T29_0 x1 (W .i64 (x7 + 1)) (m1 ++ [V.agg [V.int .i64 n_3, V.int .i64 n_4, V.bool (decide (r34 ≥ 0))]]) ((m2).set x7.toNat (V.int .i64 n_9)))))))
 (gd ((m1 : List V).all fun x => x.cells.all V.flat1) <|
  some (.done (V.fr 59 m1)))
theorem s29_0_eq (x1 : List V) (x7 : Int) (m1 : List V) (m2 : List V) : goK kcB false 0 fa29 0 (T29_0 x1 x7 m1 m2) = s29_0 x1 x7 m1 m2 := by kernel_rfl
theorem s29_0_run (x1 : List V) (x7 : Int) (m1 : List V) (m2 : List V) {o o' : Out} (h : s29_0 x1 x7 m1 m2 = some o) (hg : Go kcB false 0 fa29 o o') : Go kcB false 0 fa29 (.head 0 (T29_0 x1 x7 m1 m2)) o' := .step ((s29_0_eq x1 x7 m1 m2).trans h) hg
/-! ### budwood/budwoodref16.Sort -/
noncomputable def fa9 : FA := ⟨1, 11, [.tmp 2, .tmp 3], [27, 24],
 (.seq
 (.ops false [o1 2 (.assign (.const (.slice none 0 0))) 27, o1 3 (.assign (.const (.int .i64 (0)))) 24])
 (.seq
 (.seq
 (.ops false [mv 4 0 22, o1 5 (.call ⟨(.value (.func 22)), #[(t' 4)], #[22]⟩) 4, o1 6 (.unOp .not 4 (t' 5)) 4])
 (.cond (t' 6)
 (.seq
 (.ops false [o1 2 (.assign (.const (.slice none 0 0))) 27, o1 3 (.assign (.const (.int .i64 (1)))) 24])
 (.ret))
 (.skip)))
 (.seq
 (.ops false [mv 7 0 22, mv 8 0 22, o1 9 (.call ⟨(.value (.func 30)), #[(t' 8)], #[22]⟩) 22, o1 10 (.call ⟨(.value (.func 29)), #[(t' 7), (t' 9)], #[22, 22]⟩) 27, asg 2 10 27, o1 3 (.assign (.const (.int .i64 (0)))) 24])
 (.ret))))⟩
theorem fa9_eq : fnA cfgB.P (cfgB.rxf 9) 9 = some fa9 := by kernel_rfl
noncomputable def e9 (a0 : List V) : R :=
  pcK cfgB 22 [V.sl a0] fun r =>
  kB r fun r22 =>
  cond (!r22)
 (some (.done (V.tup [V.sl [], V.int .i64 1])))
 (pcK cfgB 30 [V.sl a0] fun r_1 =>
  kF 3 r_1 fun r30 =>
  pcK cfgB 29 [V.sl a0, V.sl r30] fun r_2 =>
  kF 59 r_2 fun r29 =>
  some (.done (V.tup [V.sl r29, V.int .i64 0])))
theorem e9_eq (a0 : List V) : enterK kcB false fa9 [V.sl a0] [] = e9 a0 := by kernel_rfl
theorem e9_run (a0 : List V) {o : Out} {v : V} (h : e9 a0 = some o) (hg : Go kcB false 0 fa9 o (.done v)) : pcW cfgB 9 [V.sl a0] = some v := pcW_go ikB rfl fa9_eq ((e9_eq a0).trans h) hg
theorem e9_done (a0 : List V) {v : V} (h : e9 a0 = some (.done v)) : pcW cfgB 9 [V.sl a0] = some v := e9_run a0 h (.refl _)
/-! ### budwood/budwoodref16.Into -/
noncomputable def fa11 : FA := ⟨2, 42, [.tmp 4, .tmp 5], [27, 24],
 (.seq
 (.ops false [o1 4 (.assign (.const (.slice none 0 0))) 27, o1 5 (.assign (.const (.int .i64 (0)))) 24])
 (.seq
 (.seq
 (.ops false [mv 8 0 22, o1 9 (.call ⟨(.value (.func 22)), #[(t' 8)], #[22]⟩) 4, o1 10 (.unOp .not 4 (t' 9)) 4, mv 11 10 4, o2 12 (.move (t' 1)) 3 11 false, o2 13 (.binOp .lss 3 (t' 12) (.const (.int .i64 (0))) 3) 4 11 false, o1 14 (.pick (t' 11) (.const (.bool true)) (t' 13)) 4, mv 15 14 4, o2 16 (.move (t' 1)) 3 15 false, o2 17 (.binOp .gtr 3 (t' 16) (.const (.int .i64 (1023))) 3) 4 15 false, o1 18 (.pick (t' 15) (.const (.bool true)) (t' 17)) 4, mv 19 18 4, o2 20 (.move (t' 1)) 3 19 false, o2 21 (.move (t' 0)) 22 19 false, o2 22 (.call ⟨(.builtin .len), #[(t' 21)], #[22]⟩) 3 19 false, o2 23 (.binOp .add 3 (t' 20) (t' 22) 3) 3 19 false, o2 24 (.binOp .gtr 3 (t' 23) (.const (.int .i64 (1024))) 3) 4 19 false, o1 25 (.pick (t' 19) (.const (.bool true)) (t' 24)) 4])
 (.cond (t' 25)
 (.seq
 (.ops false [o1 4 (.assign (.const (.slice none 0 0))) 27, o1 5 (.assign (.const (.int .i64 (1)))) 24])
 (.ret))
 (.skip)))
 (.seq
 (.ops false [o1 26 (.buildSlice 22 0 #[]) 22, asg 6 26 22])
 (.seq
 (.seq
 (.ops false [o1 7 (.assign (.const (.int .i64 (0)))) 3])
 (.block 0
 (.loop ([2, 3] ++ List.range' 8 34)
 (.seq
 (.seq
 (.ops false [mv 27 7 3, mv 28 0 22, o1 29 (.call ⟨(.builtin .len), #[(t' 28)], #[22]⟩) 3, o1 30 (.binOp .lss 3 (t' 27) (t' 29) 3) 4])
 (.cond (t' 30)
 (.skip)
 (.exit 0)))
 (.seq
 (.block 1
 (.ops false [mv 33 6 22, mv 34 1 3, mv 35 7 3, o1 36 (.binOp .add 3 (t' 34) (t' 35) 3) 3, o1 37 (.buildSlice 22 1 #[(0, (t' 36))]) 22, o1 38 (.call ⟨(.builtin .append), #[(t' 33), (t' 37)], #[22, 22]⟩) 22, asg 6 38 22]))
 (.ops false [mv 31 7 3, o1 32 (.binOp .add 3 (t' 31) (.const (.int .i64 (1))) 3) 3, asg 7 32 3]))))))
 (.seq
 (.ops false [mv 39 0 22, mv 40 6 22, o1 41 (.call ⟨(.value (.func 29)), #[(t' 39), (t' 40)], #[22, 22]⟩) 27, asg 4 41 27, o1 5 (.assign (.const (.int .i64 (0)))) 24])
 (.ret))))))⟩
theorem fa11_eq : fnA cfgB.P (cfgB.rxf 11) 11 = some fa11 := by kernel_rfl
def T11_0 (x0 : List V) (x1 : Int) (x7 : Int) (m1 : List V) : S := ⟨[V.sl x0, V.int .i64 x1, V.junk, V.junk, V.own 0, V.int .i64 0, V.own 1, V.int .i64 x7] ++ (JU 34), [O.row 59 [] 0, O.row 3 m1 0]⟩
noncomputable def e11 (a0 : List V) (a1 : Int) : R :=
  pcK cfgB 22 [V.sl a0] fun r =>
  kB r fun r22 =>
  cond (!r22)
 (some (.done (V.tup [V.sl [], V.int .i64 1])))
 (cond (decide (a1 < 0))
 (some (.done (V.tup [V.sl [], V.int .i64 1])))
 (cond (decide (a1 > 1023))
 (some (.done (V.tup [V.sl [], V.int .i64 1])))
 (cond (decide (W .i64 (a1 + (a0.length : Int)) > 1024))
 (some (.done (V.tup [V.sl [], V.int .i64 1])))
 (some (.head 0 (T11_0 a0 a1 0 []))))))
theorem e11_eq (a0 : List V) (a1 : Int) : enterK kcB false fa11 [V.sl a0, V.int .i64 a1] [] = e11 a0 a1 := by kernel_rfl
theorem e11_run (a0 : List V) (a1 : Int) {o : Out} {v : V} (h : e11 a0 a1 = some o) (hg : Go kcB false 0 fa11 o (.done v)) : pcW cfgB 11 [V.sl a0, V.int .i64 a1] = some v := pcW_go ikB rfl fa11_eq ((e11_eq a0 a1).trans h) hg
noncomputable def s11_0 (x0 : List V) (x1 : Int) (x7 : Int) (m1 : List V) : R :=
  cond (decide (x7 < (x0.length : Int)))
 (gd (decide (m1.length + ([V.int .i64 (W .i64 (x1 + x7))] : List V).length ≤ 16777216)) <|
  some (.head 0 (T11_0 x0 x1 (W .i64 (x7 + 1)) (m1 ++ [V.int .i64 (W .i64 (x1 + x7))]))))
 (pcK cfgB 29 [V.sl x0, V.sl m1] fun r =>
  kF 59 r fun r29 =>
  some (.done (V.tup [V.sl r29, V.int .i64 0])))
theorem s11_0_eq (x0 : List V) (x1 : Int) (x7 : Int) (m1 : List V) : goK kcB false 0 fa11 0 (T11_0 x0 x1 x7 m1) = s11_0 x0 x1 x7 m1 := by kernel_rfl
theorem s11_0_run (x0 : List V) (x1 : Int) (x7 : Int) (m1 : List V) {o o' : Out} (h : s11_0 x0 x1 x7 m1 = some o) (hg : Go kcB false 0 fa11 o o') : Go kcB false 0 fa11 (.head 0 (T11_0 x0 x1 x7 m1)) o' := .step ((s11_0_eq x0 x1 x7 m1).trans h) hg
/-! ### budwood/budwoodref16.Apply -/
noncomputable def fa13 : FA := ⟨2, 103, [.tmp 4, .tmp 5], [22, 24],
 (.seq
 (.ops false [o1 4 (.assign (.const (.slice none 0 0))) 22, o1 5 (.assign (.const (.int .i64 (0)))) 24])
 (.seq
 (.seq
 (.ops false [mv 10 0 22, o1 11 (.call ⟨(.value (.func 22)), #[(t' 10)], #[22]⟩) 4, o1 12 (.unOp .not 4 (t' 11)) 4])
 (.cond (t' 12)
 (.seq
 (.ops false [o1 4 (.assign (.const (.slice none 0 0))) 22, o1 5 (.assign (.const (.int .i64 (1)))) 24])
 (.ret))
 (.skip)))
 (.seq
 (.ops false [o1 13 (.buildSlice 22 0 #[]) 22, mv 14 0 22, o1 15 (.call ⟨(.builtin .append), #[(t' 13), (t' 14)], #[22, 22]⟩) 22, asg 6 15 22])
 (.seq
 (.seq
 (.ops false [o1 7 (.assign (.const (.int .i64 (0)))) 3])
 (.block 0
 (.loop ([0, 2, 3] ++ List.range' 8 95)
 (.seq
 (.seq
 (.ops false [mv 16 7 3, mv 17 1 27, o1 18 (.call ⟨(.builtin .len), #[(t' 17)], #[27]⟩) 3, o1 19 (.binOp .lss 3 (t' 16) (t' 18) 3) 4])
 (.cond (t' 19)
 (.skip)
 (.exit 0)))
 (.seq
 (.block 1
 (.seq
 (.ops true [mv 22 6 22, mv 23 1 27, mv 24 7 3, o1 25 (.indexAddr 27 (t' 23) (t' 24)) 0, o1 26 (.fieldAddr 59 (t' 25) 0) 0, o1 27 (.load 3 (t' 26)) 3, o1 28 (.call ⟨(.value (.func 34)), #[(t' 22), (t' 27)], #[22, 3]⟩) 3, mv 29 6 22, mv 30 1 27, mv 31 7 3, o1 32 (.indexAddr 27 (t' 30) (t' 31)) 0, o1 33 (.fieldAddr 59 (t' 32) 1) 0, o1 34 (.load 3 (t' 33)) 3, ⟨(some 35), .call ⟨(.value (.func 34)), #[(t' 29), (t' 34)], #[22, 3]⟩, 3, none, false, true, false⟩, asg 8 28 3, asg 9 35 3])
 (.seq
 (.seq
 (.ops false [mv 36 8 3, o1 37 (.binOp .lss 3 (t' 36) (.const (.int .i64 (0))) 3) 4, mv 38 37 4, o2 39 (.move (t' 1)) 27 38 false, o2 40 (.move (t' 7)) 3 38 false, o2 41 (.indexAddr 27 (t' 39) (t' 40)) 0 38 false, o2 42 (.fieldAddr 59 (t' 41) 2) 0 38 false, o2 43 (.load 4 (t' 42)) 4 38 false, o2 44 (.move (t' 43)) 4 38 false, o2 45 (.move (t' 9)) 3 44 true, o2 46 (.binOp .lss 3 (t' 45) (.const (.int .i64 (0))) 3) 4 44 true, o2 47 (.pick (t' 44) (t' 46) (.const (.bool false))) 4 38 false, o1 48 (.pick (t' 38) (.const (.bool true)) (t' 47)) 4])
 (.cond (t' 48)
 (.seq
 (.ops false [o1 4 (.assign (.const (.slice none 0 0))) 22, o1 5 (.assign (.const (.int .i64 (7)))) 24])
 (.ret))
 (.skip)))
 (.seq
 (.seq
 (.ops false [mv 49 1 27, mv 50 7 3, o1 51 (.indexAddr 27 (t' 49) (t' 50)) 0, o1 52 (.fieldAddr 59 (t' 51) 2) 0, o1 53 (.load 4 (t' 52)) 4, o1 54 (.unOp .not 4 (t' 53)) 4, mv 55 54 4, o2 56 (.move (t' 1)) 27 55 true, o2 57 (.move (t' 7)) 3 55 true, o2 58 (.indexAddr 27 (t' 56) (t' 57)) 0 55 true, o2 59 (.fieldAddr 59 (t' 58) 1) 0 55 true, o2 60 (.load 3 (t' 59)) 3 55 true, o2 61 (.binOp .lss 3 (t' 60) (.const (.int .i64 (0))) 3) 4 55 true, o2 62 (.move (t' 61)) 4 55 true, o2 63 (.move (t' 1)) 27 62 false, o2 64 (.move (t' 7)) 3 62 false, o2 65 (.indexAddr 27 (t' 63) (t' 64)) 0 62 false, o2 66 (.fieldAddr 59 (t' 65) 1) 0 62 false, o2 67 (.load 3 (t' 66)) 3 62 false, o2 68 (.binOp .gtr 3 (t' 67) (.const (.int .i64 (1023))) 3) 4 62 false, o2 69 (.pick (t' 62) (.const (.bool true)) (t' 68)) 4 55 true, o1 70 (.pick (t' 55) (t' 69) (.const (.bool false))) 4])
 (.cond (t' 70)
 (.seq
 (.ops false [o1 4 (.assign (.const (.slice none 0 0))) 22, o1 5 (.assign (.const (.int .i64 (1)))) 24])
 (.ret))
 (.skip)))
 (.seq
 (.seq
 (.ops false [mv 71 1 27, mv 72 7 3, o1 73 (.indexAddr 27 (t' 71) (t' 72)) 0, o1 74 (.fieldAddr 59 (t' 73) 2) 0, o1 75 (.load 4 (t' 74)) 4, o1 76 (.unOp .not 4 (t' 75)) 4, mv 77 76 4, o2 78 (.move (t' 9)) 3 77 true, o2 79 (.binOp .geq 3 (t' 78) (.const (.int .i64 (0))) 3) 4 77 true, o1 80 (.pick (t' 77) (t' 79) (.const (.bool false))) 4])
 (.cond (t' 80)
 (.seq
 (.ops false [o1 4 (.assign (.const (.slice none 0 0))) 22, o1 5 (.assign (.const (.int .i64 (8)))) 24])
 (.ret))
 (.skip)))
 (.seq
 (.seq
 (.ops false [mv 81 1 27, mv 82 7 3, o1 83 (.indexAddr 27 (t' 81) (t' 82)) 0, o1 84 (.fieldAddr 59 (t' 83) 2) 0, o1 85 (.load 4 (t' 84)) 4])
 (.cond (t' 85)
 (.ops false [mv 86 6 22, mv 87 9 3, mv 88 1 27, mv 89 7 3, o1 90 (.indexAddr 27 (t' 88) (t' 89)) 0, o1 91 (.fieldAddr 59 (t' 90) 0) 0, o1 92 (.load 3 (t' 91)) 3, o1 93 (.indexAddr 22 (t' 86) (t' 87)) 0, o0 (.store 3 (t' 93) (t' 92)) 0])
 (.skip)))
 (.ops false [mv 94 6 22, mv 95 8 3, mv 96 1 27, mv 97 7 3, o1 98 (.indexAddr 27 (t' 96) (t' 97)) 0, o1 99 (.fieldAddr 59 (t' 98) 1) 0, o1 100 (.load 3 (t' 99)) 3, o1 101 (.indexAddr 22 (t' 94) (t' 95)) 0, o0 (.store 3 (t' 101) (t' 100)) 0])))))))
 (.ops false [mv 20 7 3, o1 21 (.binOp .add 3 (t' 20) (.const (.int .i64 (1))) 3) 3, asg 7 21 3]))))))
 (.seq
 (.ops false [mv 102 6 22, asg 4 102 22, o1 5 (.assign (.const (.int .i64 (0)))) 24])
 (.ret))))))⟩
theorem fa13_eq : fnA cfgB.P (cfgB.rxf 13) 13 = some fa13 := by kernel_rfl
def T13_0 (x1 : List V) (x7 : Int) (m1 : List V) : S := ⟨[V.junk, V.sl x1, V.junk, V.junk, V.own 0, V.int .i64 0, V.own 1, V.int .i64 x7] ++ (JU 95), [O.row 3 [] 0, O.row 3 m1 0]⟩
noncomputable def e13 (a0 : List V) (a1 : List V) : R :=
  pcK cfgB 22 [V.sl a0] fun r =>
  kB r fun r22 =>
  cond (!r22)
 (some (.done (V.tup [V.sl [], V.int .i64 1])))
 (gd (wfl 1 a0) <|
  gd (decide (0 + a0.length ≤ 16777216)) <|
  some (.head 0 (T13_0 a1 0 a0)))
theorem e13_eq (a0 : List V) (a1 : List V) : enterK kcB false fa13 [V.sl a0, V.sl a1] [] = e13 a0 a1 := by kernel_rfl
theorem e13_run (a0 : List V) (a1 : List V) {o : Out} {v : V} (h : e13 a0 a1 = some o) (hg : Go kcB false 0 fa13 o (.done v)) : pcW cfgB 13 [V.sl a0, V.sl a1] = some v := pcW_go ikB rfl fa13_eq ((e13_eq a0 a1).trans h) hg
noncomputable def s13_0 (x1 : List V) (x7 : Int) (m1 : List V) : R :=
  cond (decide (x7 < (x1.length : Int)))
 (gd (decide (0 ≤ x7)) <|
  idxK x1 x7.toNat fun v =>
  d59 v fun from0 to0 swap0 =>
  pcK cfgB 34 [V.sl m1, V.int .i64 from0] fun r =>
  kI .i64 r fun r34 =>
  gd (decide (0 ≤ x7)) <|
  idxK x1 x7.toNat fun v_1 =>
  d59 v_1 fun from0_1 to0_1 swap0_1 =>
  pcK cfgB 34 [V.sl m1, V.int .i64 to0_1] fun r_1 =>
  kI .i64 r_1 fun r34_1 =>
  cond (decide (r34 < 0))
 (some (.done (V.tup [V.sl [], V.int .i64 7])))
 (gd (decide (0 ≤ x7)) <|
  idxK x1 x7.toNat fun v_2 =>
  d59 v_2 fun from0_2 to0_2 swap0_2 =>
  cond swap0_2
 (cond (decide (r34_1 < 0))
 (some (.done (V.tup [V.sl [], V.int .i64 7])))
 (gd (decide (0 ≤ x7)) <|
  idxK x1 x7.toNat fun v_3 =>
  d59 v_3 fun from0_3 to0_3 swap0_3 =>
  cond (!swap0_3)
 (gd (decide (0 ≤ x7)) <|
  idxK x1 x7.toNat fun v_4 =>
  d59 v_4 fun from0_4 to0_4 swap0_4 =>
  cond (decide (to0_4 < 0))
 (some (.done (V.tup [V.sl [], V.int .i64 1])))
 (gd (decide (0 ≤ x7)) <|
  idxK x1 x7.toNat fun v_5 =>
  d59 v_5 fun from0_5 to0_5 swap0_5 =>
  cond (decide (to0_5 > 1023))
 (some (.done (V.tup [V.sl [], V.int .i64 1])))
 (gd (decide (0 ≤ x7)) <|
  idxK x1 x7.toNat fun v_6 =>
  d59 v_6 fun from0_6 to0_6 swap0_6 =>
  cond (!swap0_6)
 (cond (decide (r34_1 ≥ 0))
 (some (.done (V.tup [V.sl [], V.int .i64 8])))
 (gd (decide (0 ≤ x7)) <|
  idxK x1 x7.toNat fun v_7 =>
  d59 v_7 fun from0_7 to0_7 swap0_7 =>
  cond swap0_7
 (gd (decide (0 ≤ x7)) <|
  idxK x1 x7.toNat fun v_8 =>
  d59 v_8 fun from0_8 to0_8 swap0_8 =>
  gd (decide (0 ≤ r34_1)) <|
  gd (decide (r34_1.toNat < m1.length)) <|
  idxK m1 r34_1.toNat fun v_9 =>
  kI .i64 v_9 fun n =>
  gd (decide (0 ≤ x7)) <|
  idxK x1 x7.toNat fun v_10 =>
  d59 v_10 fun from0_9 to0_9 swap0_9 =>
  gd (decide (0 ≤ r34)) <|
  gd (decide (r34.toNat < ((m1).set r34_1.toNat (V.int .i64 from0_8)).length)) <|
  idxK ((m1).set r34_1.toNat (V.int .i64 from0_8)) r34.toNat fun v_11 =>
  kI .i64 v_11 fun n_1 =>
  some (.head 0 (T13_0 x1 (W .i64 (x7 + 1)) (((m1).set r34_1.toNat (V.int .i64 from0_8)).set r34.toNat (V.int .i64 to0_9)))))
 (gd (decide (0 ≤ x7)) <|
  idxK x1 x7.toNat fun v_12 =>
  d59 v_12 fun from0_10 to0_10 swap0_10 =>
  gd (decide (0 ≤ r34)) <|
  gd (decide (r34.toNat < m1.length)) <|
  idxK m1 r34.toNat fun v_13 =>
  kI .i64 v_13 fun n_2 =>
  some (.head 0 (T13_0 x1 (W .i64 (x7 + 1)) ((m1).set r34.toNat (V.int .i64 to0_10)))))))
 (gd (decide (0 ≤ x7)) <|
  idxK x1 x7.toNat fun v_14 =>
  d59 v_14 fun from0_11 to0_11 swap0_11 =>
  cond swap0_11
 (gd (decide (0 ≤ x7)) <|
  idxK x1 x7.toNat fun v_15 =>
  d59 v_15 fun from0_12 to0_12 swap0_12 =>
  gd (decide (0 ≤ r34_1)) <|
  gd (decide (r34_1.toNat < m1.length)) <|
  idxK m1 r34_1.toNat fun v_16 =>
  kI .i64 v_16 fun n_3 =>
  gd (decide (0 ≤ x7)) <|
  idxK x1 x7.toNat fun v_17 =>
  d59 v_17 fun from0_13 to0_13 swap0_13 =>
  gd (decide (0 ≤ r34)) <|
  gd (decide (r34.toNat < ((m1).set r34_1.toNat (V.int .i64 from0_12)).length)) <|
  idxK ((m1).set r34_1.toNat (V.int .i64 from0_12)) r34.toNat fun v_18 =>
  kI .i64 v_18 fun n_4 =>
  some (.head 0 (T13_0 x1 (W .i64 (x7 + 1)) (((m1).set r34_1.toNat (V.int .i64 from0_12)).set r34.toNat (V.int .i64 to0_13)))))
 (gd (decide (0 ≤ x7)) <|
  idxK x1 x7.toNat fun v_19 =>
  d59 v_19 fun from0_14 to0_14 swap0_14 =>
  gd (decide (0 ≤ r34)) <|
  gd (decide (r34.toNat < m1.length)) <|
  idxK m1 r34.toNat fun v_20 =>
  kI .i64 v_20 fun n_5 =>
  some (.head 0 (T13_0 x1 (W .i64 (x7 + 1)) ((m1).set r34.toNat (V.int .i64 to0_14)))))))))
 (gd (decide (0 ≤ x7)) <|
  idxK x1 x7.toNat fun v_21 =>
  d59 v_21 fun from0_15 to0_15 swap0_15 =>
  cond (!swap0_15)
 (cond (decide (r34_1 ≥ 0))
 (some (.done (V.tup [V.sl [], V.int .i64 8])))
 (gd (decide (0 ≤ x7)) <|
  idxK x1 x7.toNat fun v_22 =>
  d59 v_22 fun from0_16 to0_16 swap0_16 =>
  cond swap0_16
 (gd (decide (0 ≤ x7)) <|
  idxK x1 x7.toNat fun v_23 =>
  d59 v_23 fun from0_17 to0_17 swap0_17 =>
  gd (decide (0 ≤ r34_1)) <|
  gd (decide (r34_1.toNat < m1.length)) <|
  idxK m1 r34_1.toNat fun v_24 =>
  kI .i64 v_24 fun n_6 =>
  gd (decide (0 ≤ x7)) <|
  idxK x1 x7.toNat fun v_25 =>
  d59 v_25 fun from0_18 to0_18 swap0_18 =>
  gd (decide (0 ≤ r34)) <|
  gd (decide (r34.toNat < ((m1).set r34_1.toNat (V.int .i64 from0_17)).length)) <|
  idxK ((m1).set r34_1.toNat (V.int .i64 from0_17)) r34.toNat fun v_26 =>
  kI .i64 v_26 fun n_7 =>
  some (.head 0 (T13_0 x1 (W .i64 (x7 + 1)) (((m1).set r34_1.toNat (V.int .i64 from0_17)).set r34.toNat (V.int .i64 to0_18)))))
 (gd (decide (0 ≤ x7)) <|
  idxK x1 x7.toNat fun v_27 =>
  d59 v_27 fun from0_19 to0_19 swap0_19 =>
  gd (decide (0 ≤ r34)) <|
  gd (decide (r34.toNat < m1.length)) <|
  idxK m1 r34.toNat fun v_28 =>
  kI .i64 v_28 fun n_8 =>
  some (.head 0 (T13_0 x1 (W .i64 (x7 + 1)) ((m1).set r34.toNat (V.int .i64 to0_19)))))))
 (gd (decide (0 ≤ x7)) <|
  idxK x1 x7.toNat fun v_29 =>
  d59 v_29 fun from0_20 to0_20 swap0_20 =>
  cond swap0_20
 (gd (decide (0 ≤ x7)) <|
  idxK x1 x7.toNat fun v_30 =>
  d59 v_30 fun from0_21 to0_21 swap0_21 =>
  gd (decide (0 ≤ r34_1)) <|
  gd (decide (r34_1.toNat < m1.length)) <|
  idxK m1 r34_1.toNat fun v_31 =>
  kI .i64 v_31 fun n_9 =>
  gd (decide (0 ≤ x7)) <|
  idxK x1 x7.toNat fun v_32 =>
  d59 v_32 fun from0_22 to0_22 swap0_22 =>
  gd (decide (0 ≤ r34)) <|
  gd (decide (r34.toNat < ((m1).set r34_1.toNat (V.int .i64 from0_21)).length)) <|
  idxK ((m1).set r34_1.toNat (V.int .i64 from0_21)) r34.toNat fun v_33 =>
  kI .i64 v_33 fun n_10 =>
  some (.head 0 (T13_0 x1 (W .i64 (x7 + 1)) (((m1).set r34_1.toNat (V.int .i64 from0_21)).set r34.toNat (V.int .i64 to0_22)))))
 (gd (decide (0 ≤ x7)) <|
  idxK x1 x7.toNat fun v_34 =>
  d59 v_34 fun from0_23 to0_23 swap0_23 =>
  gd (decide (0 ≤ r34)) <|
  gd (decide (r34.toNat < m1.length)) <|
  idxK m1 r34.toNat fun v_35 =>
  kI .i64 v_35 fun n_11 =>
  some (.head 0 (T13_0 x1 (W .i64 (x7 + 1)) ((m1).set r34.toNat (V.int .i64 to0_23)))))))))
 (gd (decide (0 ≤ x7)) <|
  idxK x1 x7.toNat fun v_36 =>
  d59 v_36 fun from0_24 to0_24 swap0_24 =>
  cond (!swap0_24)
 (gd (decide (0 ≤ x7)) <|
  idxK x1 x7.toNat fun v_37 =>
  d59 v_37 fun from0_25 to0_25 swap0_25 =>
  cond (decide (to0_25 < 0))
 (some (.done (V.tup [V.sl [], V.int .i64 1])))
 (gd (decide (0 ≤ x7)) <|
  idxK x1 x7.toNat fun v_38 =>
  d59 v_38 fun from0_26 to0_26 swap0_26 =>
  cond (decide (to0_26 > 1023))
 (some (.done (V.tup [V.sl [], V.int .i64 1])))
 (gd (decide (0 ≤ x7)) <|
  idxK x1 x7.toNat fun v_39 =>
  d59 v_39 fun from0_27 to0_27 swap0_27 =>
  cond (!swap0_27)
 (cond (decide (r34_1 ≥ 0))
 (some (.done (V.tup [V.sl [], V.int .i64 8])))
 (gd (decide (0 ≤ x7)) <|
  idxK x1 x7.toNat fun v_40 =>
  d59 v_40 fun from0_28 to0_28 swap0_28 =>
  cond swap0_28
 (gd (decide (0 ≤ x7)) <|
  idxK x1 x7.toNat fun v_41 =>
  d59 v_41 fun from0_29 to0_29 swap0_29 =>
  gd (decide (0 ≤ r34_1)) <|
  gd (decide (r34_1.toNat < m1.length)) <|
  idxK m1 r34_1.toNat fun v_42 =>
  kI .i64 v_42 fun n_12 =>
  gd (decide (0 ≤ x7)) <|
  idxK x1 x7.toNat fun v_43 =>
  d59 v_43 fun from0_30 to0_30 swap0_30 =>
  gd (decide (0 ≤ r34)) <|
  gd (decide (r34.toNat < ((m1).set r34_1.toNat (V.int .i64 from0_29)).length)) <|
  idxK ((m1).set r34_1.toNat (V.int .i64 from0_29)) r34.toNat fun v_44 =>
  kI .i64 v_44 fun n_13 =>
  some (.head 0 (T13_0 x1 (W .i64 (x7 + 1)) (((m1).set r34_1.toNat (V.int .i64 from0_29)).set r34.toNat (V.int .i64 to0_30)))))
 (gd (decide (0 ≤ x7)) <|
  idxK x1 x7.toNat fun v_45 =>
  d59 v_45 fun from0_31 to0_31 swap0_31 =>
  gd (decide (0 ≤ r34)) <|
  gd (decide (r34.toNat < m1.length)) <|
  idxK m1 r34.toNat fun v_46 =>
  kI .i64 v_46 fun n_14 =>
  some (.head 0 (T13_0 x1 (W .i64 (x7 + 1)) ((m1).set r34.toNat (V.int .i64 to0_31)))))))
 (gd (decide (0 ≤ x7)) <|
  idxK x1 x7.toNat fun v_47 =>
  d59 v_47 fun from0_32 to0_32 swap0_32 =>
  cond swap0_32
 (gd (decide (0 ≤ x7)) <|
  idxK x1 x7.toNat fun v_48 =>
  d59 v_48 fun from0_33 to0_33 swap0_33 =>
  gd (decide (0 ≤ r34_1)) <|
  gd (decide (r34_1.toNat < m1.length)) <|
  idxK m1 r34_1.toNat fun v_49 =>
  kI .i64 v_49 fun n_15 =>
  gd (decide (0 ≤ x7)) <|
  idxK x1 x7.toNat fun v_50 =>
  d59 v_50 fun from0_34 to0_34 swap0_34 =>
  gd (decide (0 ≤ r34)) <|
  gd (decide (r34.toNat < ((m1).set r34_1.toNat (V.int .i64 from0_33)).length)) <|
  idxK ((m1).set r34_1.toNat (V.int .i64 from0_33)) r34.toNat fun v_51 =>
  kI .i64 v_51 fun n_16 =>
  some (.head 0 (T13_0 x1 (W .i64 (x7 + 1)) (((m1).set r34_1.toNat (V.int .i64 from0_33)).set r34.toNat (V.int .i64 to0_34)))))
 (gd (decide (0 ≤ x7)) <|
  idxK x1 x7.toNat fun v_52 =>
  d59 v_52 fun from0_35 to0_35 swap0_35 =>
  gd (decide (0 ≤ r34)) <|
  gd (decide (r34.toNat < m1.length)) <|
  idxK m1 r34.toNat fun v_53 =>
  kI .i64 v_53 fun n_17 =>
  some (.head 0 (T13_0 x1 (W .i64 (x7 + 1)) ((m1).set r34.toNat (V.int .i64 to0_35)))))))))
 (gd (decide (0 ≤ x7)) <|
  idxK x1 x7.toNat fun v_54 =>
  d59 v_54 fun from0_36 to0_36 swap0_36 =>
  cond (!swap0_36)
 (cond (decide (r34_1 ≥ 0))
 (some (.done (V.tup [V.sl [], V.int .i64 8])))
 (gd (decide (0 ≤ x7)) <|
  idxK x1 x7.toNat fun v_55 =>
  d59 v_55 fun from0_37 to0_37 swap0_37 =>
  cond swap0_37
 (gd (decide (0 ≤ x7)) <|
  idxK x1 x7.toNat fun v_56 =>
  d59 v_56 fun from0_38 to0_38 swap0_38 =>
  gd (decide (0 ≤ r34_1)) <|
  gd (decide (r34_1.toNat < m1.length)) <|
  idxK m1 r34_1.toNat fun v_57 =>
  kI .i64 v_57 fun n_18 =>
  gd (decide (0 ≤ x7)) <|
  idxK x1 x7.toNat fun v_58 =>
  d59 v_58 fun from0_39 to0_39 swap0_39 =>
  gd (decide (0 ≤ r34)) <|
  gd (decide (r34.toNat < ((m1).set r34_1.toNat (V.int .i64 from0_38)).length)) <|
  idxK ((m1).set r34_1.toNat (V.int .i64 from0_38)) r34.toNat fun v_59 =>
  kI .i64 v_59 fun n_19 =>
  some (.head 0 (T13_0 x1 (W .i64 (x7 + 1)) (((m1).set r34_1.toNat (V.int .i64 from0_38)).set r34.toNat (V.int .i64 to0_39)))))
 (gd (decide (0 ≤ x7)) <|
  idxK x1 x7.toNat fun v_60 =>
  d59 v_60 fun from0_40 to0_40 swap0_40 =>
  gd (decide (0 ≤ r34)) <|
  gd (decide (r34.toNat < m1.length)) <|
  idxK m1 r34.toNat fun v_61 =>
  kI .i64 v_61 fun n_20 =>
  some (.head 0 (T13_0 x1 (W .i64 (x7 + 1)) ((m1).set r34.toNat (V.int .i64 to0_40)))))))
 (gd (decide (0 ≤ x7)) <|
  idxK x1 x7.toNat fun v_62 =>
  d59 v_62 fun from0_41 to0_41 swap0_41 =>
  cond swap0_41
 (gd (decide (0 ≤ x7)) <|
  idxK x1 x7.toNat fun v_63 =>
  d59 v_63 fun from0_42 to0_42 swap0_42 =>
  gd (decide (0 ≤ r34_1)) <|
  gd (decide (r34_1.toNat < m1.length)) <|
  idxK m1 r34_1.toNat fun v_64 =>
  kI .i64 v_64 fun n_21 =>
  gd (decide (0 ≤ x7)) <|
  idxK x1 x7.toNat fun v_65 =>
  d59 v_65 fun from0_43 to0_43 swap0_43 =>
  gd (decide (0 ≤ r34)) <|
  gd (decide (r34.toNat < ((m1).set r34_1.toNat (V.int .i64 from0_42)).length)) <|
  idxK ((m1).set r34_1.toNat (V.int .i64 from0_42)) r34.toNat fun v_66 =>
  kI .i64 v_66 fun n_22 =>
  some (.head 0 (T13_0 x1 (W .i64 (x7 + 1)) (((m1).set r34_1.toNat (V.int .i64 from0_42)).set r34.toNat (V.int .i64 to0_43)))))
 (gd (decide (0 ≤ x7)) <|
  idxK x1 x7.toNat fun v_67 =>
  d59 v_67 fun from0_44 to0_44 swap0_44 =>
  gd (decide (0 ≤ r34)) <|
  gd (decide (r34.toNat < m1.length)) <|
  idxK m1 r34.toNat fun v_68 =>
  kI .i64 v_68 fun n_23 =>
  some (.head 0 (T13_0 x1 (W .i64 (x7 + 1)) ((m1).set r34.toNat (V.int .i64 to0_44))))))))))
 (some (.done (V.tup [V.sl m1, V.int .i64 0])))
theorem s13_0_eq (x1 : List V) (x7 : Int) (m1 : List V) : goK kcB false 0 fa13 0 (T13_0 x1 x7 m1) = s13_0 x1 x7 m1 := by kernel_rfl
theorem s13_0_run (x1 : List V) (x7 : Int) (m1 : List V) {o o' : Out} (h : s13_0 x1 x7 m1 = some o) (hg : Go kcB false 0 fa13 o o') : Go kcB false 0 fa13 (.head 0 (T13_0 x1 x7 m1)) o' := .step ((s13_0_eq x1 x7 m1).trans h) hg
/-! ### budwood/budwoodref16.Cycles -/
noncomputable def fa18 : FA := ⟨1, 45, [.tmp 2], [3],
 (.seq
 (.ops false [o1 2 (.assign (.const (.int .i64 (0)))) 3])
 (.seq
 (.seq
 (.ops false [mv 8 0 22, o1 9 (.call ⟨(.value (.func 22)), #[(t' 8)], #[22]⟩) 4, o1 10 (.unOp .not 4 (t' 9)) 4])
 (.cond (t' 10)
 (.seq
 (.ops false [o1 2 (.assign (.const (.int .i64 (0)))) 3])
 (.ret))
 (.skip)))
 (.seq
 (.ops true [mv 11 0 22, ⟨(some 12), .call ⟨(.value (.func 30)), #[(t' 11)], #[22]⟩, 22, none, false, false, true⟩, mv 13 0 22, ⟨(some 14), .call ⟨(.builtin .len), #[(t' 13)], #[22]⟩, 3, none, true, false, false⟩, o1 15 (.makeSlice 60 (t' 14) (t' 14)) 60, asg 3 12 22, asg 4 15 60, o1 5 (.assign (.const (.int .i64 (0)))) 3])
 (.seq
 (.seq
 (.ops false [o1 6 (.assign (.const (.int .i64 (0)))) 3])
 (.block 0
 (.loop ([1] ++ List.range' 7 38)
 (.seq
 (.seq
 (.ops false [mv 16 6 3, mv 17 0 22, o1 18 (.call ⟨(.builtin .len), #[(t' 17)], #[22]⟩) 3, o1 19 (.binOp .lss 3 (t' 16) (t' 18) 3) 4])
 (.cond (t' 19)
 (.skip)
 (.exit 0)))
 (.seq
 (.block 1
 (.seq
 (.seq
 (.ops false [mv 22 4 60, mv 23 6 3, o1 24 (.indexAddr 60 (t' 22) (t' 23)) 0, o1 25 (.load 4 (t' 24)) 4, o1 26 (.unOp .not 4 (t' 25)) 4])
 (.cond (t' 26)
 (.ops false [mv 27 5 3, o1 28 (.binOp .add 3 (t' 27) (.const (.int .i64 (1))) 3) 3, asg 5 28 3])
 (.skip)))
 (.seq
 (.ops false [mv 29 6 3, asg 7 29 3])
 (.block 2
 (.loop ([1] ++ List.range' 8 37)
 (.seq
 (.seq
 (.ops false [mv 30 4 60, mv 31 7 3, o1 32 (.indexAddr 60 (t' 30) (t' 31)) 0, o1 33 (.load 4 (t' 32)) 4, o1 34 (.unOp .not 4 (t' 33)) 4])
 (.cond (t' 34)
 (.skip)
 (.exit 2)))
 (.seq
 (.block 3
 (.ops false [mv 41 4 60, mv 42 7 3, o1 43 (.indexAddr 60 (t' 41) (t' 42)) 0, o0 (.store 4 (t' 43) (.const (.bool true))) 0]))
 (.ops false [mv 35 0 22, mv 36 3 22, mv 37 7 3, o1 38 (.indexAddr 22 (t' 36) (t' 37)) 0, o1 39 (.load 3 (t' 38)) 3, o1 40 (.call ⟨(.value (.func 34)), #[(t' 35), (t' 39)], #[22, 3]⟩) 3, asg 7 40 3]))))))))
 (.ops false [mv 20 6 3, o1 21 (.binOp .add 3 (t' 20) (.const (.int .i64 (1))) 3) 3, asg 6 21 3]))))))
 (.seq
 (.ops false [mv 44 5 3, asg 2 44 3])
 (.ret))))))⟩
theorem fa18_eq : fnA cfgB.P (cfgB.rxf 18) 18 = some fa18 := by kernel_rfl
def T18_0 (x0 : List V) (x3 : List V) (x5 : Int) (x6 : Int) (m0 : List V) : S := ⟨[V.sl x0, V.junk, V.int .i64 0, V.sl x3, V.own 0, V.int .i64 x5, V.int .i64 x6] ++ (JU 38), [O.row 4 m0 0]⟩
def T18_1 (x0 : List V) (x3 : List V) (x5 : Int) (x6 : Int) (x7 : Int) (m0 : List V) : S := ⟨[V.sl x0, V.junk, V.int .i64 0, V.sl x3, V.own 0, V.int .i64 x5, V.int .i64 x6, V.int .i64 x7] ++ (JU 37), [O.row 4 m0 0]⟩
noncomputable def e18 (a0 : List V) : R :=
  pcK cfgB 22 [V.sl a0] fun r =>
  kB r fun r22 =>
  cond (!r22)
 (some (.done (V.int .i64 0)))
 (pcK cfgB 30 [V.sl a0] fun r_1 =>
  kF 3 r_1 fun r30 =>
  gd (decide (0 ≤ (a0.length : Int))) <|
  gd (decide ((a0.length : Int) ≤ (a0.length : Int))) <|
  gd (decide ((a0.length : Int).toNat ≤ 16777216)) <|
  some (.head 0 (T18_0 a0 r30 0 0 (List.replicate ((a0.length : Int).toNat) (V.bool false)))))
theorem e18_eq (a0 : List V) : enterK kcB false fa18 [V.sl a0] [] = e18 a0 := by kernel_rfl
theorem e18_run (a0 : List V) {o : Out} {v : V} (h : e18 a0 = some o) (hg : Go kcB false 0 fa18 o (.done v)) : pcW cfgB 18 [V.sl a0] = some v := pcW_go ikB rfl fa18_eq ((e18_eq a0).trans h) hg
noncomputable def s18_0 (x0 : List V) (x3 : List V) (x5 : Int) (x6 : Int) (m0 : List V) : R :=
  cond (decide (x6 < (x0.length : Int)))
 (gd (decide (0 ≤ x6)) <|
  gd (decide (x6.toNat < m0.length)) <|
  idxK m0 x6.toNat fun v =>
  kB v fun b =>
  cond (!b)
 (some (.head 1 (T18_1 x0 x3 (W .i64 (x5 + 1)) x6 x6 m0)))
 (some (.head 1 (T18_1 x0 x3 x5 x6 x6 m0))))
 (some (.done (V.int .i64 x5)))
theorem s18_0_eq (x0 : List V) (x3 : List V) (x5 : Int) (x6 : Int) (m0 : List V) : goK kcB false 0 fa18 0 (T18_0 x0 x3 x5 x6 m0) = s18_0 x0 x3 x5 x6 m0 := by kernel_rfl
theorem s18_0_run (x0 : List V) (x3 : List V) (x5 : Int) (x6 : Int) (m0 : List V) {o o' : Out} (h : s18_0 x0 x3 x5 x6 m0 = some o) (hg : Go kcB false 0 fa18 o o') : Go kcB false 0 fa18 (.head 0 (T18_0 x0 x3 x5 x6 m0)) o' := .step ((s18_0_eq x0 x3 x5 x6 m0).trans h) hg
noncomputable def s18_1 (x0 : List V) (x3 : List V) (x5 : Int) (x6 : Int) (x7 : Int) (m0 : List V) : R :=
  gd (decide (0 ≤ x7)) <|
  gd (decide (x7.toNat < m0.length)) <|
  idxK m0 x7.toNat fun v =>
  kB v fun b =>
  cond (!b)
 (gd (decide (0 ≤ x7)) <|
  gd (decide (x7.toNat < m0.length)) <|
  idxK m0 x7.toNat fun v_1 =>
  kB v_1 fun b_1 =>
  gd (decide (0 ≤ x7)) <|
  idxK x3 x7.toNat fun v_2 =>
  kI .i64 v_2 fun n =>
  pcK cfgB 34 [V.sl x0, V.int .i64 n] fun r =>
  kI .i64 r fun r34 =>
  some (.head 1 (T18_1 x0 x3 x5 x6 r34 ((m0).set x7.toNat (V.bool true)))))
 (some (.head 0 (T18_0 x0 x3 x5 (W .i64 (x6 + 1)) m0)))
theorem s18_1_eq (x0 : List V) (x3 : List V) (x5 : Int) (x6 : Int) (x7 : Int) (m0 : List V) : goK kcB false 0 fa18 1 (T18_1 x0 x3 x5 x6 x7 m0) = s18_1 x0 x3 x5 x6 x7 m0 := by kernel_rfl
theorem s18_1_run (x0 : List V) (x3 : List V) (x5 : Int) (x6 : Int) (x7 : Int) (m0 : List V) {o o' : Out} (h : s18_1 x0 x3 x5 x6 x7 m0 = some o) (hg : Go kcB false 0 fa18 o o') : Go kcB false 0 fa18 (.head 1 (T18_1 x0 x3 x5 x6 x7 m0)) o' := .step ((s18_1_eq x0 x3 x5 x6 x7 m0).trans h) hg
/-! ### budwood/budwoodref16.Breaks -/
noncomputable def fa20 : FA := ⟨1, 25, [.tmp 2], [3],
 (.seq
 (.ops false [o1 2 (.assign (.const (.int .i64 (0)))) 3])
 (.seq
 (.ops false [o1 3 (.assign (.const (.int .i64 (0)))) 3])
 (.seq
 (.seq
 (.ops false [o1 4 (.assign (.const (.int .i64 (1)))) 3])
 (.block 0
 (.loop ([1] ++ List.range' 5 20)
 (.seq
 (.seq
 (.ops false [mv 5 4 3, mv 6 0 22, o1 7 (.call ⟨(.builtin .len), #[(t' 6)], #[22]⟩) 3, o1 8 (.binOp .lss 3 (t' 5) (t' 7) 3) 4])
 (.cond (t' 8)
 (.skip)
 (.exit 0)))
 (.seq
 (.block 1
 (.seq
 (.ops true [mv 11 0 22, mv 12 4 3, o1 13 (.binOp .sub 3 (t' 12) (.const (.int .i64 (1))) 3) 3, o1 14 (.indexAddr 22 (t' 11) (t' 13)) 0, o1 15 (.load 3 (t' 14)) 3, o1 16 (.binOp .add 3 (t' 15) (.const (.int .i64 (1))) 3) 3, mv 17 0 22, mv 18 4 3, o1 19 (.indexAddr 22 (t' 17) (t' 18)) 0, o1 20 (.load 3 (t' 19)) 3, o1 21 (.binOp .neq 3 (t' 16) (t' 20) 3) 4])
 (.cond (t' 21)
 (.ops false [mv 22 3 3, o1 23 (.binOp .add 3 (t' 22) (.const (.int .i64 (1))) 3) 3, asg 3 23 3])
 (.skip))))
 (.ops false [mv 9 4 3, o1 10 (.binOp .add 3 (t' 9) (.const (.int .i64 (1))) 3) 3, asg 4 10 3]))))))
 (.seq
 (.ops false [mv 24 3 3, asg 2 24 3])
 (.ret)))))⟩
theorem fa20_eq : fnA cfgB.P (cfgB.rxf 20) 20 = some fa20 := by kernel_rfl
def T20_0 (x0 : List V) (x3 : Int) (x4 : Int) : S := ⟨[V.sl x0, V.junk, V.int .i64 0, V.int .i64 x3, V.int .i64 x4] ++ (JU 20), []⟩
noncomputable def e20 (a0 : List V) : R :=
  some (.head 0 (T20_0 a0 0 1))
theorem e20_eq (a0 : List V) : enterK kcB false fa20 [V.sl a0] [] = e20 a0 := by kernel_rfl
theorem e20_run (a0 : List V) {o : Out} {v : V} (h : e20 a0 = some o) (hg : Go kcB false 0 fa20 o (.done v)) : pcW cfgB 20 [V.sl a0] = some v := pcW_go ikB rfl fa20_eq ((e20_eq a0).trans h) hg
noncomputable def s20_0 (x0 : List V) (x3 : Int) (x4 : Int) : R :=
  cond (decide (x4 < (x0.length : Int)))
 (gd (decide (0 ≤ W .i64 (x4 - 1))) <|
  idxK x0 ((W .i64 (x4 - 1)).toNat) fun v =>
  kI .i64 v fun n =>
  gd (decide (0 ≤ x4)) <|
  idxK x0 x4.toNat fun v_1 =>
  kI .i64 v_1 fun n_1 =>
  cond ((W .i64 (n + 1)) != n_1)
 (some (.head 0 (T20_0 x0 (W .i64 (x3 + 1)) (W .i64 (x4 + 1)))))
 (some (.head 0 (T20_0 x0 x3 (W .i64 (x4 + 1))))))
 (some (.done (V.int .i64 x3)))
theorem s20_0_eq (x0 : List V) (x3 : Int) (x4 : Int) : goK kcB false 0 fa20 0 (T20_0 x0 x3 x4) = s20_0 x0 x3 x4 := by kernel_rfl
theorem s20_0_run (x0 : List V) (x3 : Int) (x4 : Int) {o o' : Out} (h : s20_0 x0 x3 x4 = some o) (hg : Go kcB false 0 fa20 o o') : Go kcB false 0 fa20 (.head 0 (T20_0 x0 x3 x4)) o' := .step ((s20_0_eq x0 x3 x4).trans h) hg
/-! ### budwood/budwoodref16.Same -/
noncomputable def fa15 : FA := ⟨2, 26, [.tmp 4], [4],
 (.seq
 (.ops false [o1 4 (.assign (.const (.bool false))) 4])
 (.seq
 (.seq
 (.ops false [mv 6 0 27, o1 7 (.call ⟨(.builtin .len), #[(t' 6)], #[27]⟩) 3, mv 8 1 27, o1 9 (.call ⟨(.builtin .len), #[(t' 8)], #[27]⟩) 3, o1 10 (.binOp .neq 3 (t' 7) (t' 9) 3) 4])
 (.cond (t' 10)
 (.seq
 (.ops false [o1 4 (.assign (.const (.bool false))) 4])
 (.ret))
 (.skip)))
 (.seq
 (.seq
 (.ops false [o1 5 (.assign (.const (.int .i64 (0)))) 3])
 (.block 0
 (.loop ([2, 3] ++ List.range' 6 20)
 (.seq
 (.seq
 (.ops false [mv 11 5 3, mv 12 0 27, o1 13 (.call ⟨(.builtin .len), #[(t' 12)], #[27]⟩) 3, o1 14 (.binOp .lss 3 (t' 11) (t' 13) 3) 4])
 (.cond (t' 14)
 (.skip)
 (.exit 0)))
 (.seq
 (.block 1
 (.seq
 (.ops true [mv 17 0 27, mv 18 5 3, o1 19 (.indexAddr 27 (t' 17) (t' 18)) 0, o1 20 (.load 59 (t' 19)) 59, mv 21 1 27, mv 22 5 3, o1 23 (.indexAddr 27 (t' 21) (t' 22)) 0, o1 24 (.load 59 (t' 23)) 59, o1 25 (.binOp .neq 59 (t' 20) (t' 24) 59) 4])
 (.cond (t' 25)
 (.seq
 (.ops false [o1 4 (.assign (.const (.bool false))) 4])
 (.ret))
 (.skip))))
 (.ops false [mv 15 5 3, o1 16 (.binOp .add 3 (t' 15) (.const (.int .i64 (1))) 3) 3, asg 5 16 3]))))))
 (.seq
 (.ops false [o1 4 (.assign (.const (.bool true))) 4])
 (.ret)))))⟩
theorem fa15_eq : fnA cfgB.P (cfgB.rxf 15) 15 = some fa15 := by kernel_rfl
def T15_0 (x0 : List V) (x1 : List V) (x5 : Int) : S := ⟨[V.sl x0, V.sl x1, V.junk, V.junk, V.bool false, V.int .i64 x5] ++ (JU 20), []⟩
noncomputable def e15 (a0 : List V) (a1 : List V) : R :=
  cond ((a0.length : Int) != (a1.length : Int))
 (some (.done (V.bool false)))
 (some (.head 0 (T15_0 a0 a1 0)))
theorem e15_eq (a0 : List V) (a1 : List V) : enterK kcB false fa15 [V.sl a0, V.sl a1] [] = e15 a0 a1 := by kernel_rfl
theorem e15_run (a0 : List V) (a1 : List V) {o : Out} {v : V} (h : e15 a0 a1 = some o) (hg : Go kcB false 0 fa15 o (.done v)) : pcW cfgB 15 [V.sl a0, V.sl a1] = some v := pcW_go ikB rfl fa15_eq ((e15_eq a0 a1).trans h) hg
noncomputable def s15_0 (x0 : List V) (x1 : List V) (x5 : Int) : R :=
  cond (decide (x5 < (x0.length : Int)))
 (gd (decide (0 ≤ x5)) <|
  idxK x0 x5.toNat fun v =>
  d59 v fun from0 to0 swap0 =>
  gd (decide (0 ≤ x5)) <|
  idxK x1 x5.toNat fun v_1 =>
  d59 v_1 fun from0_1 to0_1 swap0_1 =>
  cond (!((from0 == from0_1) && ((to0 == to0_1) && ((swap0 == swap0_1) && true))))
 (some (.done (V.bool false)))
 (some (.head 0 (T15_0 x0 x1 (W .i64 (x5 + 1))))))
 (some (.done (V.bool true)))
theorem s15_0_eq (x0 : List V) (x1 : List V) (x5 : Int) : goK kcB false 0 fa15 0 (T15_0 x0 x1 x5) = s15_0 x0 x1 x5 := by kernel_rfl
theorem s15_0_run (x0 : List V) (x1 : List V) (x5 : Int) {o o' : Out} (h : s15_0 x0 x1 x5 = some o) (hg : Go kcB false 0 fa15 o o') : Go kcB false 0 fa15 (.head 0 (T15_0 x0 x1 x5)) o' := .step ((s15_0_eq x0 x1 x5).trans h) hg
/-! ### budwood/budwoodref02.Ints -/
noncomputable def fa16 : FA := ⟨2, 26, [.tmp 4], [4],
 (.seq
 (.ops false [o1 4 (.assign (.const (.bool false))) 4])
 (.seq
 (.seq
 (.ops false [mv 6 0 22, o1 7 (.call ⟨(.builtin .len), #[(t' 6)], #[22]⟩) 3, mv 8 1 22, o1 9 (.call ⟨(.builtin .len), #[(t' 8)], #[22]⟩) 3, o1 10 (.binOp .neq 3 (t' 7) (t' 9) 3) 4])
 (.cond (t' 10)
 (.seq
 (.ops false [o1 4 (.assign (.const (.bool false))) 4])
 (.ret))
 (.skip)))
 (.seq
 (.seq
 (.ops false [o1 5 (.assign (.const (.int .i64 (0)))) 3])
 (.block 0
 (.loop ([2, 3] ++ List.range' 6 20)
 (.seq
 (.seq
 (.ops false [mv 11 5 3, mv 12 0 22, o1 13 (.call ⟨(.builtin .len), #[(t' 12)], #[22]⟩) 3, o1 14 (.binOp .lss 3 (t' 11) (t' 13) 3) 4])
 (.cond (t' 14)
 (.skip)
 (.exit 0)))
 (.seq
 (.block 1
 (.seq
 (.ops true [mv 17 0 22, mv 18 5 3, o1 19 (.indexAddr 22 (t' 17) (t' 18)) 0, o1 20 (.load 3 (t' 19)) 3, mv 21 1 22, mv 22 5 3, o1 23 (.indexAddr 22 (t' 21) (t' 22)) 0, o1 24 (.load 3 (t' 23)) 3, o1 25 (.binOp .neq 3 (t' 20) (t' 24) 3) 4])
 (.cond (t' 25)
 (.seq
 (.ops false [o1 4 (.assign (.const (.bool false))) 4])
 (.ret))
 (.skip))))
 (.ops false [mv 15 5 3, o1 16 (.binOp .add 3 (t' 15) (.const (.int .i64 (1))) 3) 3, asg 5 16 3]))))))
 (.seq
 (.ops false [o1 4 (.assign (.const (.bool true))) 4])
 (.ret)))))⟩
theorem fa16_eq : fnA cfgB.P (cfgB.rxf 16) 16 = some fa16 := by kernel_rfl
def T16_0 (x0 : List V) (x1 : List V) (x5 : Int) : S := ⟨[V.sl x0, V.sl x1, V.junk, V.junk, V.bool false, V.int .i64 x5] ++ (JU 20), []⟩
noncomputable def e16 (a0 : List V) (a1 : List V) : R :=
  cond ((a0.length : Int) != (a1.length : Int))
 (some (.done (V.bool false)))
 (some (.head 0 (T16_0 a0 a1 0)))
theorem e16_eq (a0 : List V) (a1 : List V) : enterK kcB false fa16 [V.sl a0, V.sl a1] [] = e16 a0 a1 := by kernel_rfl
theorem e16_run (a0 : List V) (a1 : List V) {o : Out} {v : V} (h : e16 a0 a1 = some o) (hg : Go kcB false 0 fa16 o (.done v)) : pcW cfgB 16 [V.sl a0, V.sl a1] = some v := pcW_go ikB rfl fa16_eq ((e16_eq a0 a1).trans h) hg
noncomputable def s16_0 (x0 : List V) (x1 : List V) (x5 : Int) : R :=
  cond (decide (x5 < (x0.length : Int)))
 (gd (decide (0 ≤ x5)) <|
  idxK x0 x5.toNat fun v =>
  kI .i64 v fun n =>
  gd (decide (0 ≤ x5)) <|
  idxK x1 x5.toNat fun v_1 =>
  kI .i64 v_1 fun n_1 =>
  cond (n != n_1)
 (some (.done (V.bool false)))
 (some (.head 0 (T16_0 x0 x1 (W .i64 (x5 + 1))))))
 (some (.done (V.bool true)))
theorem s16_0_eq (x0 : List V) (x1 : List V) (x5 : Int) : goK kcB false 0 fa16 0 (T16_0 x0 x1 x5) = s16_0 x0 x1 x5 := by kernel_rfl
theorem s16_0_run (x0 : List V) (x1 : List V) (x5 : Int) {o o' : Out} (h : s16_0 x0 x1 x5 = some o) (hg : Go kcB false 0 fa16 o o') : Go kcB false 0 fa16 (.head 0 (T16_0 x0 x1 x5)) o' := .step ((s16_0_eq x0 x1 x5).trans h) hg
/-! ### budwood/budwoodlaw16.steps -/
noncomputable def fa14 : FA := ⟨1, 32, [.tmp 2], [27],
 (.seq
 (.ops false [o1 2 (.assign (.const (.slice none 0 0))) 27])
 (.seq
 (.ops false [o1 5 (.buildSlice 27 0 #[]) 27, asg 3 5 27])
 (.seq
 (.seq
 (.ops false [o1 4 (.assign (.const (.int .i64 (0)))) 3])
 (.block 0
 (.loop ([1] ++ List.range' 5 27)
 (.seq
 (.seq
 (.ops false [mv 6 4 3, mv 7 0 23, o1 8 (.call ⟨(.builtin .len), #[(t' 7)], #[23]⟩) 3, o1 9 (.binOp .lss 3 (t' 6) (t' 8) 3) 4])
 (.cond (t' 9)
 (.skip)
 (.exit 0)))
 (.seq
 (.block 1
 (.ops true [mv 12 3 27, mv 13 0 23, mv 14 4 3, o1 15 (.indexAddr 23 (t' 13) (t' 14)) 0, o1 16 (.fieldAddr 44 (t' 15) 0) 0, o1 17 (.load 3 (t' 16)) 3, mv 18 0 23, mv 19 4 3, o1 20 (.indexAddr 23 (t' 18) (t' 19)) 0, o1 21 (.fieldAddr 44 (t' 20) 1) 0, o1 22 (.load 3 (t' 21)) 3, mv 23 0 23, mv 24 4 3, o1 25 (.indexAddr 23 (t' 23) (t' 24)) 0, o1 26 (.fieldAddr 44 (t' 25) 2) 0, o1 27 (.load 4 (t' 26)) 4, o1 28 (.build 59 #[(0, (t' 17)), (1, (t' 22)), (2, (t' 27))]) 59, o1 29 (.buildSlice 27 1 #[(0, (t' 28))]) 27, o1 30 (.call ⟨(.builtin .append), #[(t' 12), (t' 29)], #[27, 27]⟩) 27, asg 3 30 27]))
 (.ops false [mv 10 4 3, o1 11 (.binOp .add 3 (t' 10) (.const (.int .i64 (1))) 3) 3, asg 4 11 3]))))))
 (.seq
 (.ops false [mv 31 3 27, asg 2 31 27])
 (.ret)))))⟩
theorem fa14_eq : fnA cfgB.P (cfgB.rxf 14) 14 = some fa14 := by kernel_rfl
def T14_0 (x0 : List V) (x4 : Int) (m1 : List V) : S := ⟨[V.sl x0, V.junk, V.own 0, V.own 1, V.int .i64 x4] ++ (JU 27), [O.row 59 [] 0, O.row 59 m1 0]⟩
noncomputable def e14 (a0 : List V) : R :=
  some (.head 0 (T14_0 a0 0 []))
theorem e14_eq (a0 : List V) : enterK kcB false fa14 [V.sl a0] [] = e14 a0 := by kernel_rfl
theorem e14_run (a0 : List V) {o : Out} {v : V} (h : e14 a0 = some o) (hg : Go kcB false 0 fa14 o (.done v)) : pcW cfgB 14 [V.sl a0] = some v := pcW_go ikB rfl fa14_eq ((e14_eq a0).trans h) hg
noncomputable def s14_0 (x0 : List V) (x4 : Int) (m1 : List V) : R :=
  cond (decide (x4 < (x0.length : Int)))
 (gd (decide (0 ≤ x4)) <|
  idxK x0 x4.toNat fun v =>
  d44 v fun from0 to0 swap0 =>
  gd (decide (0 ≤ x4)) <|
  idxK x0 x4.toNat fun v_1 =>
  d44 v_1 fun from0_1 to0_1 swap0_1 =>
  gd (decide (0 ≤ x4)) <|
  idxK x0 x4.toNat fun v_2 =>
  d44 v_2 fun from0_2 to0_2 swap0_2 =>
  gd (decide (m1.length + ([V.agg [V.int .i64 from0, V.int .i64 to0_1, V.bool swap0_2]] : List V).length ≤ 16777216)) <|
  some (.head 0 (T14_0 x0 (W .i64 (x4 + 1)) (m1 ++ [V.agg [V.int .i64 from0, V.int .i64 to0_1, V.bool swap0_2]]))))
 (gd ((m1 : List V).all fun x => x.cells.all V.flat1) <|
  some (.done (V.fr 59 m1)))
theorem s14_0_eq (x0 : List V) (x4 : Int) (m1 : List V) : goK kcB false 0 fa14 0 (T14_0 x0 x4 m1) = s14_0 x0 x4 m1 := by kernel_rfl
theorem s14_0_run (x0 : List V) (x4 : Int) (m1 : List V) {o o' : Out} (h : s14_0 x0 x4 m1 = some o) (hg : Go kcB false 0 fa14 o o') : Go kcB false 0 fa14 (.head 0 (T14_0 x0 x4 m1)) o' := .step ((s14_0_eq x0 x4 m1).trans h) hg
end Go.Proofs.Ytnaidbmgibmnbaa
