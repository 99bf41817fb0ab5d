/-
  The graphs of the statements (printed by walk.py).
-/
import Derived.Test.YtndkhelglfakfaaQ1
namespace Go.Proofs.Ytndkhelglfakfaa
open Go Go.Lite
set_option maxRecDepth 100000
set_option linter.unusedVariables false
def d28 (v : V) (k : List V → List V → List UInt8 → Int → Int → R) : R := kT v fun vs => unc vs fun c vs => kA c fun cs => unc cs fun c cs => kL c fun x0 => unc cs fun c cs => kL c fun x1 => unc cs fun c cs => kS c fun x2 => unc cs fun c cs => kI .i64 c fun x3 => unn cs <| unc vs fun c vs => kI .i64 c fun x4 => unn vs (k x0 x1 x2 x3 x4)
@[simp] theorem d28_mk (x0 : List V) (x1 : List V) (x2 : List UInt8) (x3 : Int) (x4 : Int) (k : List V → List V → List UInt8 → Int → Int → R) : d28 (.tup [V.agg [V.sl x0, V.sl x1, V.str x2, V.int .i64 x3], V.int .i64 x4]) k = k x0 x1 x2 x3 x4 := rfl
@[congr] theorem d28_wc {v v' : V} {k : List V → List V → List UInt8 → Int → Int → R} (h : v = v') : d28 v k = d28 v' k := by rw [h]
def d54 (v : V) (k : List V → List V → List UInt8 → Int → List V → List V → List UInt8 → Int → List UInt8 → Int → R) : R := kT v fun vs => unc vs fun c vs => kA c fun cs => unc cs fun c cs => kL c fun x0 => unc cs fun c cs => kL c fun x1 => unc cs fun c cs => kS c fun x2 => unc cs fun c cs => kI .i64 c fun x3 => unn cs <| unc vs fun c vs => kA c fun cs => unc cs fun c cs => kL c fun x4 => unc cs fun c cs => kL c fun x5 => unc cs fun c cs => kS c fun x6 => unc cs fun c cs => kI .i64 c fun x7 => unn cs <| unc vs fun c vs => kS c fun x8 => unc vs fun c vs => kI .i64 c fun x9 => unn vs (k x0 x1 x2 x3 x4 x5 x6 x7 x8 x9)
@[simp] theorem d54_mk (x0 : List V) (x1 : List V) (x2 : List UInt8) (x3 : Int) (x4 : List V) (x5 : List V) (x6 : List UInt8) (x7 : Int) (x8 : List UInt8) (x9 : Int) (k : List V → List V → List UInt8 → Int → List V → List V → List UInt8 → Int → List UInt8 → Int → R) : d54 (.tup [V.agg [V.sl x0, V.sl x1, V.str x2, V.int .i64 x3], V.agg [V.sl x4, V.sl x5, V.str x6, V.int .i64 x7], V.str x8, V.int .i64 x9]) k = k x0 x1 x2 x3 x4 x5 x6 x7 x8 x9 := rfl
@[congr] theorem d54_wc {v v' : V} {k : List V → List V → List UInt8 → Int → List V → List V → List UInt8 → Int → List UInt8 → Int → R} (h : v = v') : d54 v k = d54 v' k := by rw [h]
def d25 (v : V) (k : List V → List V → List UInt8 → Int → R) : R := kA v fun cs => unc cs fun c cs => kL c fun x0 => unc cs fun c cs => kL c fun x1 => unc cs fun c cs => kS c fun x2 => unc cs fun c cs => kI .i64 c fun x3 => unn cs <| (k x0 x1 x2 x3)
@[simp] theorem d25_mk (x0 : List V) (x1 : List V) (x2 : List UInt8) (x3 : Int) (k : List V → List V → List UInt8 → Int → R) : d25 (.agg [V.sl x0, V.sl x1, V.str x2, V.int .i64 x3]) k = k x0 x1 x2 x3 := rfl
@[congr] theorem d25_wc {v v' : V} {k : List V → List V → List UInt8 → Int → R} (h : v = v') : d25 v k = d25 v' k := by rw [h]
def d31 (v : V) (k : List V → List V → List UInt8 → Int → Int → R) : R := kT v fun vs => unc vs fun c vs => kA c fun cs => unc cs fun c cs => kL c fun x0 => unc cs fun c cs => kL c fun x1 => unc cs fun c cs => kS c fun x2 => unc cs fun c cs => kI .i64 c fun x3 => unn cs <| unc vs fun c vs => kI .i64 c fun x4 => unn vs (k x0 x1 x2 x3 x4)
@[simp] theorem d31_mk (x0 : List V) (x1 : List V) (x2 : List UInt8) (x3 : Int) (x4 : Int) (k : List V → List V → List UInt8 → Int → Int → R) : d31 (.tup [V.agg [V.sl x0, V.sl x1, V.str x2, V.int .i64 x3], V.int .i64 x4]) k = k x0 x1 x2 x3 x4 := rfl
@[congr] theorem d31_wc {v v' : V} {k : List V → List V → List UInt8 → Int → Int → R} (h : v = v') : d31 v k = d31 v' k := by rw [h]
def d30 (v : V) (k : List V → List V → List UInt8 → Int → R) : R := kA v fun cs => unc cs fun c cs => kL c fun x0 => unc cs fun c cs => kL c fun x1 => unc cs fun c cs => kS c fun x2 => unc cs fun c cs => kI .i64 c fun x3 => unn cs <| (k x0 x1 x2 x3)
@[simp] theorem d30_mk (x0 : List V) (x1 : List V) (x2 : List UInt8) (x3 : Int) (k : List V → List V → List UInt8 → Int → R) : d30 (.agg [V.sl x0, V.sl x1, V.str x2, V.int .i64 x3]) k = k x0 x1 x2 x3 := rfl
@[congr] theorem d30_wc {v v' : V} {k : List V → List V → List UInt8 → Int → R} (h : v = v') : d30 v k = d30 v' k := by rw [h]
def d56 (v : V) (k : List V → List V → List UInt8 → Int → List V → List V → List UInt8 → Int → List UInt8 → Int → R) : R := kT v fun vs => unc vs fun c vs => kA c fun cs => unc cs fun c cs => kL c fun x0 => unc cs fun c cs => kL c fun x1 => unc cs fun c cs => kS c fun x2 => unc cs fun c cs => kI .i64 c fun x3 => unn cs <| unc vs fun c vs => kA c fun cs => unc cs fun c cs => kL c fun x4 => unc cs fun c cs => kL c fun x5 => unc cs fun c cs => kS c fun x6 => unc cs fun c cs => kI .i64 c fun x7 => unn cs <| unc vs fun c vs => kS c fun x8 => unc vs fun c vs => kI .i64 c fun x9 => unn vs (k x0 x1 x2 x3 x4 x5 x6 x7 x8 x9)
@[simp] theorem d56_mk (x0 : List V) (x1 : List V) (x2 : List UInt8) (x3 : Int) (x4 : List V) (x5 : List V) (x6 : List UInt8) (x7 : Int) (x8 : List UInt8) (x9 : Int) (k : List V → List V → List UInt8 → Int → List V → List V → List UInt8 → Int → List UInt8 → Int → R) : d56 (.tup [V.agg [V.sl x0, V.sl x1, V.str x2, V.int .i64 x3], V.agg [V.sl x4, V.sl x5, V.str x6, V.int .i64 x7], V.str x8, V.int .i64 x9]) k = k x0 x1 x2 x3 x4 x5 x6 x7 x8 x9 := rfl
@[congr] theorem d56_wc {v v' : V} {k : List V → List V → List UInt8 → Int → List V → List V → List UInt8 → Int → List UInt8 → Int → R} (h : v = v') : d56 v k = d56 v' k := by rw [h]
/-! ### budwood/budwoodlaw11.Cut -/
noncomputable def fa10 : FA := ⟨1, 53, [.cell 2 25], [25],
 (.seq
 (.ops false [o1 1 (.box 25 (t' 0)) 0, o1 2 (.alloc 25) 0])
 (.seq
 (.ops false [o1 5 (.buildSlice 22 0 #[]) 22, asg 3 5 22])
 (.seq
 (.seq
 (.ops false [o1 4 (.assign (.const (.int .i64 (0)))) 3])
 (.block 0
 (.loop ([0] ++ List.range' 5 48)
 (.seq
 (.seq
 (.ops false [mv 6 4 3, o1 7 (.fieldAddr 25 (t' 1) 0) 0, o1 8 (.load 22 (t' 7)) 22, o1 9 (.call ⟨(.builtin .len), #[(t' 8)], #[22]⟩) 3, o1 10 (.binOp .lss 3 (t' 6) (t' 9) 3) 4, mv 11 10 4, o2 12 (.move (t' 4)) 3 11 true, o2 13 (.binOp .lss 3 (t' 12) (.const (.int .i64 (60))) 3) 4 11 true, o1 14 (.pick (t' 11) (t' 13) (.const (.bool false))) 4])
 (.cond (t' 14)
 (.skip)
 (.exit 0)))
 (.seq
 (.block 1
 (.ops true [mv 17 3 22, o1 18 (.fieldAddr 25 (t' 1) 0) 0, o1 19 (.load 22 (t' 18)) 22, mv 20 4 3, o1 21 (.indexAddr 22 (t' 19) (t' 20)) 0, o1 22 (.load 9 (t' 21)) 9, o1 23 (.fieldAddr 25 (t' 1) 0) 0, o1 24 (.load 22 (t' 23)) 22, mv 25 4 3, o1 26 (.indexAddr 22 (t' 24) (t' 25)) 0, o1 27 (.load 9 (t' 26)) 9, o1 28 (.call ⟨(.builtin .len), #[(t' 27)], #[9]⟩) 3, o1 29 (.call ⟨(.builtin .min), #[(t' 28), (.const (.int .i64 (40)))], #[3, 3]⟩) 3, o1 30 (.slice 9 (t' 22) none (some (t' 29)) none) 9, o1 31 (.buildSlice 22 1 #[(0, (t' 30))]) 22, o1 32 (.call ⟨(.builtin .append), #[(t' 17), (t' 31)], #[22, 22]⟩) 22, asg 3 32 22]))
 (.ops false [mv 15 4 3, o1 16 (.binOp .add 3 (t' 15) (.const (.int .i64 (1))) 3) 3, asg 4 16 3]))))))
 (.seq
 (.ops true [mv 33 3 22, ⟨(some 34), .buildSlice 23 0 #[], 23, none, true, false, false⟩, o1 35 (.fieldAddr 25 (t' 1) 1) 0, ⟨(some 36), .load 23 (t' 35), 23, none, true, false, false⟩, o1 37 (.fieldAddr 25 (t' 1) 1) 0, ⟨(some 38), .load 23 (t' 37), 23, none, true, false, false⟩, ⟨(some 39), .call ⟨(.builtin .len), #[(t' 38)], #[23]⟩, 3, none, true, false, false⟩, o1 40 (.call ⟨(.builtin .min), #[(t' 39), (.const (.int .i64 (60)))], #[3, 3]⟩) 3, ⟨(some 41), .slice 23 (t' 36) none (some (t' 40)) none, 23, none, true, false, false⟩, o1 42 (.call ⟨(.builtin .append), #[(t' 34), (t' 41)], #[23, 23]⟩) 23, o1 43 (.fieldAddr 25 (t' 1) 2) 0, ⟨(some 44), .load 9 (t' 43), 9, none, true, false, false⟩, o1 45 (.fieldAddr 25 (t' 1) 2) 0, ⟨(some 46), .load 9 (t' 45), 9, none, true, false, false⟩, ⟨(some 47), .call ⟨(.builtin .len), #[(t' 46)], #[9]⟩, 3, none, true, false, false⟩, o1 48 (.call ⟨(.builtin .min), #[(t' 47), (.const (.int .i64 (40)))], #[3, 3]⟩) 3, ⟨(some 49), .slice 9 (t' 44) none (some (t' 48)) none, 9, none, true, false, false⟩, o1 50 (.fieldAddr 25 (t' 1) 3) 0, ⟨(some 51), .load 3 (t' 50), 3, none, true, false, false⟩, o1 52 (.build 25 #[(0, (t' 33)), (1, (t' 42)), (2, (t' 49)), (3, (t' 51))]) 25, o0 (.store 25 (t' 2) (t' 52)) 0])
 (.ret)))))⟩
theorem fa10_eq : fnA qcfg.P (qcfg.rxf 10) 10 = some fa10 := by kernel_rfl
def T10_0 (x4 : Int) (m0_0 : List V) (m0_1 : List V) (m0_2 : List UInt8) (m0_3 : Int) (m2 : List V) : S := ⟨[V.junk, V.ptr 0 0 0, V.ptr 1 0 0, V.own 2, V.int .i64 x4] ++ (JU 48), [O.box 25 (V.agg [V.sl m0_0, V.sl m0_1, V.str m0_2, V.int .i64 m0_3]) false, O.box 25 (V.agg [V.tail 3 0, V.tail 4 0, V.str [], V.int .i64 0]) false, O.row 9 m2 0, O.row 9 [] 0, O.row 3 [] 0]⟩
noncomputable def e10 (a0Seps : List V) (a0Kids : List V) (a0High : List UInt8) (a0Next : Int) : R :=
  some (.head 0 (T10_0 0 a0Seps a0Kids a0High a0Next []))
theorem e10_eq (a0Seps : List V) (a0Kids : List V) (a0High : List UInt8) (a0Next : Int) : enterK qk false fa10 [V.agg [V.sl a0Seps, V.sl a0Kids, V.str a0High, V.int .i64 a0Next]] [] = e10 a0Seps a0Kids a0High a0Next := by kernel_rfl
theorem e10_run (a0Seps : List V) (a0Kids : List V) (a0High : List UInt8) (a0Next : Int) {o : Out} {v : V} (h : e10 a0Seps a0Kids a0High a0Next = some o) (hg : Go qk false 0 fa10 o (.done v)) : pcW qcfg 10 [V.agg [V.sl a0Seps, V.sl a0Kids, V.str a0High, V.int .i64 a0Next]] = some v := pcW_go qik rfl fa10_eq ((e10_eq a0Seps a0Kids a0High a0Next).trans h) hg
noncomputable def s10_0 (x4 : Int) (m0_0 : List V) (m0_1 : List V) (m0_2 : List UInt8) (m0_3 : Int) (m2 : List V) : R :=
  cond (decide (x4 < (m0_0.length : Int)))
 (cond (decide (x4 < 60))
 (gd (decide (0 ≤ x4)) <|
  idxK m0_0 x4.toNat fun v =>
  kS v fun s =>
  gd (decide (0 ≤ x4)) <|
  idxK m0_0 x4.toNat fun v_1 =>
  kS v_1 fun s_1 =>
  gd (decide (0 ≤ (if 40 < (s_1.length : Int) then 40 else (s_1.length : Int)))) <|
  gd (decide ((if 40 < (s_1.length : Int) then 40 else (s_1.length : Int)).toNat ≤ s.length)) <|
  gd (decide (m2.length + ([V.str (s.take ((if 40 < (s_1.length : Int) then 40 else (s_1.length : Int)).toNat))] : List V).length ≤ 16777216)) <|
  some (.head 0 (T10_0 (W .i64 (x4 + 1)) m0_0 m0_1 m0_2 m0_3 (m2 ++ [V.str (s.take ((if 40 < (s_1.length : Int) then 40 else (s_1.length : Int)).toNat))]))))
 (gd (wfl 1 m0_1) <|
  gd (decide (0 ≤ (if 60 < (m0_1.length : Int) then 60 else (m0_1.length : Int)))) <|
  gd (decide ((if 60 < (m0_1.length : Int) then 60 else (m0_1.length : Int)).toNat ≤ m0_1.length)) <|
  gd (wfl 1 (m0_1.take ((if 60 < (m0_1.length : Int) then 60 else (m0_1.length : Int)).toNat))) <|
  gd (decide (0 + (m0_1.take ((if 60 < (m0_1.length : Int) then 60 else (m0_1.length : Int)).toNat)).length ≤ 16777216)) <|
  gd (decide (0 ≤ (if 40 < (m0_2.length : Int) then 40 else (m0_2.length : Int)))) <|
  gd (decide ((if 40 < (m0_2.length : Int) then 40 else (m0_2.length : Int)).toNat ≤ m0_2.length)) <|
  some (.done (V.agg [V.sl m2, V.sl (m0_1.take ((if 60 < (m0_1.length : Int) then 60 else (m0_1.length : Int)).toNat)), V.str (m0_2.take ((if 40 < (m0_2.length : Int) then 40 else (m0_2.length : Int)).toNat)), V.int .i64 m0_3]))))
 (gd (wfl 1 m0_1) <|
  gd (decide (0 ≤ (if 60 < (m0_1.length : Int) then 60 else (m0_1.length : Int)))) <|
  gd (decide ((if 60 < (m0_1.length : Int) then 60 else (m0_1.length : Int)).toNat ≤ m0_1.length)) <|
  gd (wfl 1 (m0_1.take ((if 60 < (m0_1.length : Int) then 60 else (m0_1.length : Int)).toNat))) <|
  gd (decide (0 + (m0_1.take ((if 60 < (m0_1.length : Int) then 60 else (m0_1.length : Int)).toNat)).length ≤ 16777216)) <|
  gd (decide (0 ≤ (if 40 < (m0_2.length : Int) then 40 else (m0_2.length : Int)))) <|
  gd (decide ((if 40 < (m0_2.length : Int) then 40 else (m0_2.length : Int)).toNat ≤ m0_2.length)) <|
  some (.done (V.agg [V.sl m2, V.sl (m0_1.take ((if 60 < (m0_1.length : Int) then 60 else (m0_1.length : Int)).toNat)), V.str (m0_2.take ((if 40 < (m0_2.length : Int) then 40 else (m0_2.length : Int)).toNat)), V.int .i64 m0_3])))
theorem s10_0_eq (x4 : Int) (m0_0 : List V) (m0_1 : List V) (m0_2 : List UInt8) (m0_3 : Int) (m2 : List V) : goK qk false 0 fa10 0 (T10_0 x4 m0_0 m0_1 m0_2 m0_3 m2) = s10_0 x4 m0_0 m0_1 m0_2 m0_3 m2 := by kernel_rfl
theorem s10_0_run (x4 : Int) (m0_0 : List V) (m0_1 : List V) (m0_2 : List UInt8) (m0_3 : Int) (m2 : List V) {o o' : Out} (h : s10_0 x4 m0_0 m0_1 m0_2 m0_3 m2 = some o) (hg : Go qk false 0 fa10 o o') : Go qk false 0 fa10 (.head 0 (T10_0 x4 m0_0 m0_1 m0_2 m0_3 m2)) o' := .step ((s10_0_eq x4 m0_0 m0_1 m0_2 m0_3 m2).trans h) hg
/-! ### budwood/budwoodlaw11.ref -/
noncomputable def fa15 : FA := ⟨1, 12, [.cell 2 30], [30],
 (.seq
 (.ops false [o1 1 (.box 25 (t' 0)) 0, o1 2 (.alloc 30) 0])
 (.seq
 (.ops false [o1 3 (.fieldAddr 25 (t' 1) 0) 0, o1 4 (.load 22 (t' 3)) 22, o1 5 (.fieldAddr 25 (t' 1) 1) 0, o1 6 (.load 23 (t' 5)) 23, o1 7 (.fieldAddr 25 (t' 1) 2) 0, o1 8 (.load 9 (t' 7)) 9, o1 9 (.fieldAddr 25 (t' 1) 3) 0, o1 10 (.load 3 (t' 9)) 3, o1 11 (.build 30 #[(0, (t' 4)), (1, (t' 6)), (2, (t' 8)), (3, (t' 10))]) 30, o0 (.store 30 (t' 2) (t' 11)) 0])
 (.ret)))⟩
theorem fa15_eq : fnA qcfg.P (qcfg.rxf 15) 15 = some fa15 := by kernel_rfl
noncomputable def e15 (a0Seps : List V) (a0Kids : List V) (a0High : List UInt8) (a0Next : Int) : R :=
  some (.done (V.agg [V.sl a0Seps, V.sl a0Kids, V.str a0High, V.int .i64 a0Next]))
theorem e15_eq (a0Seps : List V) (a0Kids : List V) (a0High : List UInt8) (a0Next : Int) : enterK qk false fa15 [V.agg [V.sl a0Seps, V.sl a0Kids, V.str a0High, V.int .i64 a0Next]] [] = e15 a0Seps a0Kids a0High a0Next := by kernel_rfl
theorem e15_run (a0Seps : List V) (a0Kids : List V) (a0High : List UInt8) (a0Next : Int) {o : Out} {v : V} (h : e15 a0Seps a0Kids a0High a0Next = some o) (hg : Go qk false 0 fa15 o (.done v)) : pcW qcfg 15 [V.agg [V.sl a0Seps, V.sl a0Kids, V.str a0High, V.int .i64 a0Next]] = some v := pcW_go qik rfl fa15_eq ((e15_eq a0Seps a0Kids a0High a0Next).trans h) hg
theorem e15_done (a0Seps : List V) (a0Kids : List V) (a0High : List UInt8) (a0Next : Int) {v : V} (h : e15 a0Seps a0Kids a0High a0Next = some (.done v)) : pcW qcfg 15 [V.agg [V.sl a0Seps, V.sl a0Kids, V.str a0High, V.int .i64 a0Next]] = some v := e15_run a0Seps a0Kids a0High a0Next h (.refl _)
/-! ### budwood/budwoodlaw11.fixed -/
noncomputable def fa22 : FA := ⟨0, 228, [.tmp 0], [4],
 (.seq
 (.ops false [o1 0 (.assign (.const (.bool false))) 4])
 (.seq
 (.ops false [o1 28 (.buildSlice 23 1 #[(0, (.const (.int .i64 (3))))]) 23, o1 29 (.build 25 #[(1, (t' 28))]) 25, o1 30 (.call ⟨(.value (.func 25)), #[(t' 29), (.const (.string ⟨⟨[109]⟩⟩)), (.const (.int .i64 (4)))], #[25, 9, 3]⟩) 28, mv 27 30 28, o1 31 (.extract (t' 27) 0) 25, o1 32 (.extract (t' 27) 1) 27, o1 1 (.alloc 25) 0, o0 (.store 25 (t' 1) (t' 31)) 0, asg 2 32 27])
 (.seq
 (.ops false [o1 34 (.load 25 (t' 1)) 25, o1 35 (.call ⟨(.value (.func 23)), #[(t' 34), (.const (.string ⟨⟨[108, 122]⟩⟩))], #[25, 9]⟩) 45, mv 33 35 45, o1 36 (.extract (t' 33) 0) 3, o1 37 (.extract (t' 33) 1) 27, asg 3 36 3, asg 4 37 27])
 (.seq
 (.ops false [o1 39 (.load 25 (t' 1)) 25, o1 40 (.call ⟨(.value (.func 23)), #[(t' 39), (.const (.string ⟨⟨[109]⟩⟩))], #[25, 9]⟩) 45, mv 38 40 45, o1 41 (.extract (t' 38) 0) 3, o1 42 (.extract (t' 38) 1) 27, asg 5 41 3, asg 6 42 27])
 (.seq
 (.ops false [o1 44 (.load 25 (t' 1)) 25, o1 45 (.call ⟨(.value (.func 25)), #[(t' 44), (.const (.string ⟨⟨[109]⟩⟩)), (.const (.int .i64 (5)))], #[25, 9, 3]⟩) 28, mv 43 45 28, o1 46 (.extract (t' 43) 0) 25, o1 47 (.extract (t' 43) 1) 27, o1 7 (.alloc 25) 0, o0 (.store 25 (t' 7) (t' 46)) 0, asg 8 47 27])
 (.seq
 (.ops false [o1 49 (.load 25 (t' 1)) 25, o1 50 (.call ⟨(.value (.func 25)), #[(t' 49), (.const (.string ⟨⟨[112]⟩⟩)), (.const (.int .i64 (513)))], #[25, 9, 3]⟩) 28, mv 48 50 28, o1 51 (.extract (t' 48) 0) 25, o1 52 (.extract (t' 48) 1) 27, o1 9 (.alloc 25) 0, o0 (.store 25 (t' 9) (t' 51)) 0, asg 10 52 27])
 (.cseq ([1, 7] ++ List.range' 15 213)
 (.ops false [o1 54 (.load 25 (t' 9)) 25, o1 55 (.call ⟨(.value (.func 31)), #[(t' 54), (.const (.int .i64 (6)))], #[25, 3]⟩) 54, mv 53 55 54, o1 56 (.extract (t' 53) 0) 25, o1 57 (.extract (t' 53) 1) 25, o1 58 (.extract (t' 53) 2) 9, o1 59 (.extract (t' 53) 3) 27, o1 11 (.alloc 25) 0, o1 12 (.alloc 25) 0, o0 (.store 25 (t' 11) (t' 56)) 0, o0 (.store 25 (t' 12) (t' 57)) 0, asg 13 58 9, asg 14 59 27])
 (.seq
 (.ops false [o1 61 (.load 25 (t' 9)) 25, o1 62 (.call ⟨(.value (.func 27)), #[(t' 61), (.const (.int .i64 (0)))], #[25, 3]⟩) 28, mv 60 62 28, o1 63 (.extract (t' 60) 0) 25, o1 64 (.extract (t' 60) 1) 27, o1 15 (.alloc 25) 0, o0 (.store 25 (t' 15) (t' 63)) 0, asg 16 64 27])
 (.seq
 (.ops false [o1 66 (.load 25 (t' 9)) 25, o1 67 (.call ⟨(.value (.func 29)), #[(t' 66), (.const (.int .i64 (2))), (.const (.int .i64 (9)))], #[25, 3, 3]⟩) 28, mv 65 67 28, o1 68 (.extract (t' 65) 0) 25, o1 69 (.extract (t' 65) 1) 27, o1 17 (.alloc 25) 0, o0 (.store 25 (t' 17) (t' 68)) 0, asg 18 69 27])
 (.seq
 (.ops false [o1 71 (.load 25 (t' 9)) 25, o1 72 (.call ⟨(.value (.func 18)), #[(t' 71)], #[25]⟩) 9, o1 73 (.binOp .add 9 (t' 72) (.const (.string ⟨⟨[0]⟩⟩)) 9) 9, o1 74 (.call ⟨(.value (.func 11)), #[(t' 73)], #[9]⟩) 28, mv 70 74 28, o1 75 (.extract (t' 70) 0) 25, o1 76 (.extract (t' 70) 1) 27, o1 19 (.alloc 25) 0, o0 (.store 25 (t' 19) (t' 75)) 0, asg 20 76 27])
 (.seq
 (.ops false [o1 78 (.load 25 (t' 9)) 25, o1 79 (.call ⟨(.value (.func 18)), #[(t' 78)], #[25]⟩) 9, o1 80 (.binOp .add 9 (t' 79) (.const (.string ⟨⟨[1]⟩⟩)) 9) 9, o1 81 (.call ⟨(.value (.func 11)), #[(t' 80)], #[9]⟩) 28, mv 77 81 28, o1 82 (.extract (t' 77) 0) 25, o1 83 (.extract (t' 77) 1) 27, o1 21 (.alloc 25) 0, o0 (.store 25 (t' 21) (t' 82)) 0, asg 22 83 27])
 (.seq
 (.ops false [o1 85 (.buildSlice 23 1 #[(0, (.const (.int .i64 (3))))]) 23, o1 86 (.build 25 #[(1, (t' 85))]) 25, o1 87 (.call ⟨(.value (.func 27)), #[(t' 86), (.const (.int .i64 (0)))], #[25, 3]⟩) 28, mv 84 87 28, o1 88 (.extract (t' 84) 0) 25, o1 89 (.extract (t' 84) 1) 27, o1 23 (.alloc 25) 0, o0 (.store 25 (t' 23) (t' 88)) 0, asg 24 89 27])
 (.cseq ([1, 7, 21, 23, 25] ++ List.range' 27 201)
 (.ops false [o1 91 (.load 25 (t' 11)) 25, o1 92 (.call ⟨(.value (.func 23)), #[(t' 91), (.const (.string ⟨⟨[109]⟩⟩))], #[25, 9]⟩) 45, mv 90 92 45, o1 93 (.extract (t' 90) 0) 3, o1 94 (.extract (t' 90) 1) 27, asg 25 93 3, asg 26 94 27])
 (.cseq ([1, 7, 21, 23, 25] ++ List.range' 27 201)
 (.seq
 (.ops false [o1 95 (.fieldAddr 25 (t' 12) 1) 0, o1 96 (.load 23 (t' 95)) 23, o1 97 (.call ⟨(.builtin .len), #[(t' 96)], #[23]⟩) 3, o1 98 (.binOp .neq 3 (t' 97) (.const (.int .i64 (1))) 3) 4, mv 99 98 4, o2 100 (.fieldAddr 25 (t' 11) 1) 0 99 true, o2 101 (.load 23 (t' 100)) 23 99 true, o2 102 (.call ⟨(.builtin .len), #[(t' 101)], #[23]⟩) 3 99 true, o2 103 (.binOp .neq 3 (t' 102) (.const (.int .i64 (1))) 3) 4 99 true, o1 104 (.pick (t' 99) (t' 103) (.const (.bool false))) 4, mv 105 104 4, o2 106 (.fieldAddr 25 (t' 15) 1) 0 105 false, o2 107 (.load 23 (t' 106)) 23 105 false, o2 108 (.call ⟨(.builtin .len), #[(t' 107)], #[23]⟩) 3 105 false, o2 109 (.binOp .neq 3 (t' 108) (.const (.int .i64 (2))) 3) 4 105 false, o1 110 (.pick (t' 105) (.const (.bool true)) (t' 109)) 4, mv 111 110 4, o2 112 (.fieldAddr 25 (t' 17) 1) 0 111 false, o2 113 (.load 23 (t' 112)) 23 111 false, o2 114 (.call ⟨(.builtin .len), #[(t' 113)], #[23]⟩) 3 111 false, o2 115 (.binOp .neq 3 (t' 114) (.const (.int .i64 (3))) 3) 4 111 false, o1 116 (.pick (t' 111) (.const (.bool true)) (t' 115)) 4])
 (.cond (t' 116)
 (.seq
 (.ops false [o1 0 (.assign (.const (.bool false))) 4])
 (.ret))
 (.skip)))
 (.seq
 (.ops false [mv 117 2 27, o1 118 (.binOp .eql 27 (t' 117) (.const (.int .i64 (0))) 27) 4, mv 119 118 4, o2 120 (.move (t' 3)) 3 119 true, o2 121 (.binOp .eql 3 (t' 120) (.const (.int .i64 (0))) 3) 4 119 true, o1 122 (.pick (t' 119) (t' 121) (.const (.bool false))) 4, mv 123 122 4, o2 124 (.move (t' 4)) 27 123 true, o2 125 (.binOp .eql 27 (t' 124) (.const (.int .i64 (0))) 27) 4 123 true, o1 126 (.pick (t' 123) (t' 125) (.const (.bool false))) 4, mv 127 126 4, o2 128 (.move (t' 5)) 3 127 true, o2 129 (.binOp .eql 3 (t' 128) (.const (.int .i64 (1))) 3) 4 127 true, o1 130 (.pick (t' 127) (t' 129) (.const (.bool false))) 4, mv 131 130 4, o2 132 (.move (t' 6)) 27 131 true, o2 133 (.binOp .eql 27 (t' 132) (.const (.int .i64 (0))) 27) 4 131 true, o1 134 (.pick (t' 131) (t' 133) (.const (.bool false))) 4, mv 135 134 4, o2 136 (.move (t' 8)) 27 135 true, o2 137 (.binOp .eql 27 (t' 136) (.const (.int .i64 (8))) 27) 4 135 true, o1 138 (.pick (t' 135) (t' 137) (.const (.bool false))) 4, mv 139 138 4, o2 140 (.move (t' 10)) 27 139 true, o2 141 (.binOp .eql 27 (t' 140) (.const (.int .i64 (0))) 27) 4 139 true, o1 142 (.pick (t' 139) (t' 141) (.const (.bool false))) 4, mv 143 142 4, o2 144 (.load 25 (t' 9)) 25 143 true, o2 145 (.call ⟨(.value (.func 18)), #[(t' 144)], #[25]⟩) 9 143 true, o2 146 (.binOp .eql 9 (t' 145) (.const (.string ⟨⟨[78, 2, 0, 0, 0, 3, 0, 1, 109, 4, 0, 1, 112, 1, 2]⟩⟩)) 9) 4 143 true, o1 147 (.pick (t' 143) (t' 146) (.const (.bool false))) 4, mv 148 147 4, o2 149 (.load 25 (t' 9)) 25 148 true, o2 150 (.call ⟨(.value (.func 16)), #[(t' 149)], #[25]⟩) 3 148 true, o2 151 (.binOp .eql 3 (t' 150) (.const (.int .i64 (15))) 3) 4 148 true, o1 152 (.pick (t' 148) (t' 151) (.const (.bool false))) 4, mv 153 152 4, o2 154 (.move (t' 14)) 27 153 true, o2 155 (.binOp .eql 27 (t' 154) (.const (.int .i64 (0))) 27) 4 153 true, o1 156 (.pick (t' 153) (t' 155) (.const (.bool false))) 4, mv 157 156 4, o2 158 (.move (t' 13)) 9 157 true, o2 159 (.binOp .eql 9 (t' 158) (.const (.string ⟨⟨[112]⟩⟩)) 9) 4 157 true, o1 160 (.pick (t' 157) (t' 159) (.const (.bool false))) 4, mv 161 160 4, o2 162 (.fieldAddr 25 (t' 11) 2) 0 161 true, o2 163 (.load 9 (t' 162)) 9 161 true, o2 164 (.binOp .eql 9 (t' 163) (.const (.string ⟨⟨[112]⟩⟩)) 9) 4 161 true, o1 165 (.pick (t' 161) (t' 164) (.const (.bool false))) 4, mv 166 165 4, o2 167 (.fieldAddr 25 (t' 11) 3) 0 166 true, o2 168 (.load 3 (t' 167)) 3 166 true, o2 169 (.binOp .eql 3 (t' 168) (.const (.int .i64 (7))) 3) 4 166 true, o1 170 (.pick (t' 166) (t' 169) (.const (.bool false))) 4, mv 171 170 4, o2 172 (.fieldAddr 25 (t' 12) 2) 0 171 true, o2 173 (.load 9 (t' 172)) 9 171 true, o2 174 (.binOp .eql 9 (t' 173) (.const (.string ⟨⟨[]⟩⟩)) 9) 4 171 true, o1 175 (.pick (t' 171) (t' 174) (.const (.bool false))) 4, mv 176 175 4, o2 177 (.move (t' 16)) 27 176 true, o2 178 (.binOp .eql 27 (t' 177) (.const (.int .i64 (0))) 27) 4 176 true, o1 179 (.pick (t' 176) (t' 178) (.const (.bool false))) 4, mv 180 179 4, o2 181 (.fieldAddr 25 (t' 15) 1) 0 180 true, o2 182 (.load 23 (t' 181)) 23 180 true, o2 183 (.indexAddr 23 (t' 182) (.const (.int .i64 (0)))) 0 180 true, o2 184 (.load 3 (t' 183)) 3 180 true, o2 185 (.binOp .eql 3 (t' 184) (.const (.int .i64 (4))) 3) 4 180 true, o1 186 (.pick (t' 180) (t' 185) (.const (.bool false))) 4, mv 187 186 4, o2 188 (.move (t' 18)) 27 187 true, o2 189 (.binOp .eql 27 (t' 188) (.const (.int .i64 (0))) 27) 4 187 true, o1 190 (.pick (t' 187) (t' 189) (.const (.bool false))) 4, mv 191 190 4, o2 192 (.fieldAddr 25 (t' 17) 1) 0 191 true, o2 193 (.load 23 (t' 192)) 23 191 true, o2 194 (.indexAddr 23 (t' 193) (.const (.int .i64 (2)))) 0 191 true, o2 195 (.load 3 (t' 194)) 3 191 true, o2 196 (.binOp .eql 3 (t' 195) (.const (.int .i64 (9))) 3) 4 191 true, o1 197 (.pick (t' 191) (t' 196) (.const (.bool false))) 4, mv 198 197 4, o2 199 (.load 25 (t' 19)) 25 198 true, o2 200 (.load 25 (t' 9)) 25 198 true, o2 201 (.call ⟨(.value (.func 20)), #[(t' 199), (t' 200)], #[25, 25]⟩) 4 198 true, o1 202 (.pick (t' 198) (t' 201) (.const (.bool false))) 4, mv 203 202 4, o2 204 (.move (t' 20)) 27 203 true, o2 205 (.binOp .eql 27 (t' 204) (.const (.int .i64 (0))) 27) 4 203 true, o1 206 (.pick (t' 203) (t' 205) (.const (.bool false))) 4, mv 207 206 4, o2 208 (.move (t' 22)) 27 207 true, o2 209 (.binOp .eql 27 (t' 208) (.const (.int .i64 (4))) 27) 4 207 true, o1 210 (.pick (t' 207) (t' 209) (.const (.bool false))) 4, mv 211 210 4, o2 212 (.move (t' 24)) 27 211 true, o2 213 (.binOp .eql 27 (t' 212) (.const (.int .i64 (1))) 27) 4 211 true, o1 214 (.pick (t' 211) (t' 213) (.const (.bool false))) 4, mv 215 214 4, o2 216 (.move (t' 26)) 27 215 true, o2 217 (.binOp .eql 27 (t' 216) (.const (.int .i64 (0))) 27) 4 215 true, o1 218 (.pick (t' 215) (t' 217) (.const (.bool false))) 4, mv 219 218 4, o2 220 (.load 25 (t' 9)) 25 219 true, o2 221 (.call ⟨(.value (.func 13)), #[(t' 220)], #[25]⟩) 4 219 true, o1 222 (.pick (t' 219) (t' 221) (.const (.bool false))) 4, mv 223 222 4, o2 224 (.build 25 #[]) 25 223 true, o2 225 (.call ⟨(.value (.func 13)), #[(t' 224)], #[25]⟩) 4 223 true, o2 226 (.unOp .not 4 (t' 225)) 4 223 true, o1 227 (.pick (t' 223) (t' 226) (.const (.bool false))) 4, asg 0 227 4])
 (.ret))))))))))))))))⟩
theorem fa22_eq : fnA qcfg.P (qcfg.rxf 22) 22 = some fa22 := by kernel_rfl
def T22_0 (x2 : Int) (x3 : Int) (x4 : Int) (x5 : Int) (x6 : Int) (x8 : Int) (x10 : Int) (x13 : List UInt8) (x14 : Int) (m0_0 : List V) (m0_1 : List V) (m0_2 : List UInt8) (m0_3 : Int) (m1_0 : List V) (m1_1 : List V) (m1_2 : List UInt8) (m1_3 : Int) (m2_0 : List V) (m2_1 : List V) (m2_2 : List UInt8) (m2_3 : Int) : S := ⟨[V.bool false, V.junk, V.int .i64 x2, V.int .i64 x3, V.int .i64 x4, V.int .i64 x5, V.int .i64 x6, V.junk, V.int .i64 x8, V.ptr 0 0 0, V.int .i64 x10, V.ptr 1 0 0, V.ptr 2 0 0, V.str x13, V.int .i64 x14] ++ (JU 213), [O.box 25 (V.agg [V.sl m0_0, V.sl m0_1, V.str m0_2, V.int .i64 m0_3]) false, O.box 25 (V.agg [V.sl m1_0, V.sl m1_1, V.str m1_2, V.int .i64 m1_3]) false, O.box 25 (V.agg [V.sl m2_0, V.sl m2_1, V.str m2_2, V.int .i64 m2_3]) false]⟩
def T22_1 (x2 : Int) (x3 : Int) (x4 : Int) (x5 : Int) (x6 : Int) (x8 : Int) (x10 : Int) (x13 : List UInt8) (x14 : Int) (x16 : Int) (x18 : Int) (x20 : Int) (x22 : Int) (x24 : Int) (x26 : Int) (m0_0 : List V) (m0_1 : List V) (m0_2 : List UInt8) (m0_3 : Int) (m1_0 : List V) (m1_1 : List V) (m1_2 : List UInt8) (m1_3 : Int) (m2_0 : List V) (m2_1 : List V) (m2_2 : List UInt8) (m2_3 : Int) (m3_0 : List V) (m3_1 : List V) (m3_2 : List UInt8) (m3_3 : Int) (m4_0 : List V) (m4_1 : List V) (m4_2 : List UInt8) (m4_3 : Int) (m5_0 : List V) (m5_1 : List V) (m5_2 : List UInt8) (m5_3 : Int) : S := ⟨[V.bool false, V.junk, V.int .i64 x2, V.int .i64 x3, V.int .i64 x4, V.int .i64 x5, V.int .i64 x6, V.junk, V.int .i64 x8, V.ptr 0 0 0, V.int .i64 x10, V.ptr 1 0 0, V.ptr 2 0 0, V.str x13, V.int .i64 x14, V.ptr 3 0 0, V.int .i64 x16, V.ptr 4 0 0, V.int .i64 x18, V.ptr 5 0 0, V.int .i64 x20, V.junk, V.int .i64 x22, V.junk, V.int .i64 x24, V.junk, V.int .i64 x26] ++ (JU 201), [O.box 25 (V.agg [V.sl m0_0, V.sl m0_1, V.str m0_2, V.int .i64 m0_3]) false, O.box 25 (V.agg [V.sl m1_0, V.sl m1_1, V.str m1_2, V.int .i64 m1_3]) false, O.box 25 (V.agg [V.sl m2_0, V.sl m2_1, V.str m2_2, V.int .i64 m2_3]) false, O.box 25 (V.agg [V.sl m3_0, V.sl m3_1, V.str m3_2, V.int .i64 m3_3]) false, O.box 25 (V.agg [V.sl m4_0, V.sl m4_1, V.str m4_2, V.int .i64 m4_3]) false, O.box 25 (V.agg [V.sl m5_0, V.sl m5_1, V.str m5_2, V.int .i64 m5_3]) false]⟩
def T22_2 (x2 : Int) (x3 : Int) (x4 : Int) (x5 : Int) (x6 : Int) (x8 : Int) (x10 : Int) (x13 : List UInt8) (x14 : Int) (x16 : Int) (x18 : Int) (x20 : Int) (x22 : Int) (x24 : Int) (x26 : Int) (m0_0 : List V) (m0_1 : List V) (m0_2 : List UInt8) (m0_3 : Int) (m1_0 : List V) (m1_1 : List V) (m1_2 : List UInt8) (m1_3 : Int) (m2_0 : List V) (m2_1 : List V) (m2_2 : List UInt8) (m2_3 : Int) (m3_0 : List V) (m3_1 : List V) (m3_2 : List UInt8) (m3_3 : Int) (m4_0 : List V) (m4_1 : List V) (m4_2 : List UInt8) (m4_3 : Int) (m5_0 : List V) (m5_1 : List V) (m5_2 : List UInt8) (m5_3 : Int) : S := ⟨[V.bool false, V.junk, V.int .i64 x2, V.int .i64 x3, V.int .i64 x4, V.int .i64 x5, V.int .i64 x6, V.junk, V.int .i64 x8, V.ptr 0 0 0, V.int .i64 x10, V.ptr 1 0 0, V.ptr 2 0 0, V.str x13, V.int .i64 x14, V.ptr 3 0 0, V.int .i64 x16, V.ptr 4 0 0, V.int .i64 x18, V.ptr 5 0 0, V.int .i64 x20, V.junk, V.int .i64 x22, V.junk, V.int .i64 x24, V.junk, V.int .i64 x26] ++ (JU 201), [O.box 25 (V.agg [V.sl m0_0, V.sl m0_1, V.str m0_2, V.int .i64 m0_3]) false, O.box 25 (V.agg [V.sl m1_0, V.sl m1_1, V.str m1_2, V.int .i64 m1_3]) false, O.box 25 (V.agg [V.sl m2_0, V.sl m2_1, V.str m2_2, V.int .i64 m2_3]) false, O.box 25 (V.agg [V.sl m3_0, V.sl m3_1, V.str m3_2, V.int .i64 m3_3]) false, O.box 25 (V.agg [V.sl m4_0, V.sl m4_1, V.str m4_2, V.int .i64 m4_3]) false, O.box 25 (V.agg [V.sl m5_0, V.sl m5_1, V.str m5_2, V.int .i64 m5_3]) false]⟩
noncomputable def e22  : R :=
  pcK qcfg 25 [V.agg [V.sl [], V.sl [V.int .i64 3], V.str [], V.int .i64 0], V.str [109], V.int .i64 4] fun r =>
  d28 r fun r25_0 r25_1 r25_2 r25_3 r25_4 =>
  pcK qcfg 23 [V.agg [V.sl r25_0, V.sl r25_1, V.str r25_2, V.int .i64 r25_3], V.str [108, 122]] fun r_1 =>
  d45 r_1 fun r23_0 r23_1 =>
  pcK qcfg 23 [V.agg [V.sl r25_0, V.sl r25_1, V.str r25_2, V.int .i64 r25_3], V.str [109]] fun r_2 =>
  d45 r_2 fun r23_0_1 r23_1_1 =>
  pcK qcfg 25 [V.agg [V.sl r25_0, V.sl r25_1, V.str r25_2, V.int .i64 r25_3], V.str [109], V.int .i64 5] fun r_3 =>
  d28 r_3 fun r25_0_1 r25_1_1 r25_2_1 r25_3_1 r25_4_1 =>
  pcK qcfg 25 [V.agg [V.sl r25_0, V.sl r25_1, V.str r25_2, V.int .i64 r25_3], V.str [112], V.int .i64 513] fun r_4 =>
  d28 r_4 fun r25_0_2 r25_1_2 r25_2_2 r25_3_2 r25_4_2 =>
  pcK qcfg 31 [V.agg [V.sl r25_0_2, V.sl r25_1_2, V.str r25_2_2, V.int .i64 r25_3_2], V.int .i64 6] fun r_5 =>
  d54 r_5 fun r31_0 r31_1 r31_2 r31_3 r31_4 r31_5 r31_6 r31_7 r31_8 r31_9 =>
  some (.head 0 (T22_0 r25_4 r23_0 r23_1 r23_0_1 r23_1_1 r25_4_1 r25_4_2 r31_8 r31_9 r25_0_2 r25_1_2 r25_2_2 r25_3_2 r31_0 r31_1 r31_2 r31_3 r31_4 r31_5 r31_6 r31_7))
theorem e22_eq  : enterK qk false fa22 [] [] = e22  := by kernel_rfl
theorem e22_run  {o : Out} {v : V} (h : e22  = some o) (hg : Go qk false 0 fa22 o (.done v)) : pcW qcfg 22 [] = some v := pcW_go qik rfl fa22_eq ((e22_eq ).trans h) hg
noncomputable def s22_0 (x2 : Int) (x3 : Int) (x4 : Int) (x5 : Int) (x6 : Int) (x8 : Int) (x10 : Int) (x13 : List UInt8) (x14 : Int) (m0_0 : List V) (m0_1 : List V) (m0_2 : List UInt8) (m0_3 : Int) (m1_0 : List V) (m1_1 : List V) (m1_2 : List UInt8) (m1_3 : Int) (m2_0 : List V) (m2_1 : List V) (m2_2 : List UInt8) (m2_3 : Int) : R :=
  pcK qcfg 27 [V.agg [V.sl m0_0, V.sl m0_1, V.str m0_2, V.int .i64 m0_3], V.int .i64 0] fun r =>
  d28 r fun r27_0 r27_1 r27_2 r27_3 r27_4 =>
  pcK qcfg 29 [V.agg [V.sl m0_0, V.sl m0_1, V.str m0_2, V.int .i64 m0_3], V.int .i64 2, V.int .i64 9] fun r_1 =>
  d28 r_1 fun r29_0 r29_1 r29_2 r29_3 r29_4 =>
  pcK qcfg 18 [V.agg [V.sl m0_0, V.sl m0_1, V.str m0_2, V.int .i64 m0_3]] fun r_2 =>
  kS r_2 fun r18 =>
  gd (decide (r18.length + ([0] : List UInt8).length ≤ 4611686018427387904)) <|
  pcK qcfg 11 [V.str (r18 ++ [0])] fun r_3 =>
  d28 r_3 fun r11_0 r11_1 r11_2 r11_3 r11_4 =>
  pcK qcfg 18 [V.agg [V.sl m0_0, V.sl m0_1, V.str m0_2, V.int .i64 m0_3]] fun r_4 =>
  kS r_4 fun r18_1 =>
  gd (decide (r18_1.length + ([1] : List UInt8).length ≤ 4611686018427387904)) <|
  pcK qcfg 11 [V.str (r18_1 ++ [1])] fun r_5 =>
  d28 r_5 fun r11_0_1 r11_1_1 r11_2_1 r11_3_1 r11_4_1 =>
  pcK qcfg 27 [V.agg [V.sl [], V.sl [V.int .i64 3], V.str [], V.int .i64 0], V.int .i64 0] fun r_6 =>
  d28 r_6 fun r27_0_1 r27_1_1 r27_2_1 r27_3_1 r27_4_1 =>
  pcK qcfg 23 [V.agg [V.sl m1_0, V.sl m1_1, V.str m1_2, V.int .i64 m1_3], V.str [109]] fun r_7 =>
  d45 r_7 fun r23_0 r23_1 =>
  some (.head 1 (T22_1 x2 x3 x4 x5 x6 x8 x10 x13 x14 r27_4 r29_4 r11_4 r11_4_1 r27_4_1 r23_1 m0_0 m0_1 m0_2 m0_3 m1_0 m1_1 m1_2 m1_3 m2_0 m2_1 m2_2 m2_3 r27_0 r27_1 r27_2 r27_3 r29_0 r29_1 r29_2 r29_3 r11_0 r11_1 r11_2 r11_3))
theorem s22_0_eq (x2 : Int) (x3 : Int) (x4 : Int) (x5 : Int) (x6 : Int) (x8 : Int) (x10 : Int) (x13 : List UInt8) (x14 : Int) (m0_0 : List V) (m0_1 : List V) (m0_2 : List UInt8) (m0_3 : Int) (m1_0 : List V) (m1_1 : List V) (m1_2 : List UInt8) (m1_3 : Int) (m2_0 : List V) (m2_1 : List V) (m2_2 : List UInt8) (m2_3 : Int) : goK qk false 0 fa22 0 (T22_0 x2 x3 x4 x5 x6 x8 x10 x13 x14 m0_0 m0_1 m0_2 m0_3 m1_0 m1_1 m1_2 m1_3 m2_0 m2_1 m2_2 m2_3) = s22_0 x2 x3 x4 x5 x6 x8 x10 x13 x14 m0_0 m0_1 m0_2 m0_3 m1_0 m1_1 m1_2 m1_3 m2_0 m2_1 m2_2 m2_3 := by kernel_rfl
theorem s22_0_run (x2 : Int) (x3 : Int) (x4 : Int) (x5 : Int) (x6 : Int) (x8 : Int) (x10 : Int) (x13 : List UInt8) (x14 : Int) (m0_0 : List V) (m0_1 : List V) (m0_2 : List UInt8) (m0_3 : Int) (m1_0 : List V) (m1_1 : List V) (m1_2 : List UInt8) (m1_3 : Int) (m2_0 : List V) (m2_1 : List V) (m2_2 : List UInt8) (m2_3 : Int) {o o' : Out} (h : s22_0 x2 x3 x4 x5 x6 x8 x10 x13 x14 m0_0 m0_1 m0_2 m0_3 m1_0 m1_1 m1_2 m1_3 m2_0 m2_1 m2_2 m2_3 = some o) (hg : Go qk false 0 fa22 o o') : Go qk false 0 fa22 (.head 0 (T22_0 x2 x3 x4 x5 x6 x8 x10 x13 x14 m0_0 m0_1 m0_2 m0_3 m1_0 m1_1 m1_2 m1_3 m2_0 m2_1 m2_2 m2_3)) o' := .step ((s22_0_eq x2 x3 x4 x5 x6 x8 x10 x13 x14 m0_0 m0_1 m0_2 m0_3 m1_0 m1_1 m1_2 m1_3 m2_0 m2_1 m2_2 m2_3).trans h) hg
noncomputable def s22_1 (x2 : Int) (x3 : Int) (x4 : Int) (x5 : Int) (x6 : Int) (x8 : Int) (x10 : Int) (x13 : List UInt8) (x14 : Int) (x16 : Int) (x18 : Int) (x20 : Int) (x22 : Int) (x24 : Int) (x26 : Int) (m0_0 : List V) (m0_1 : List V) (m0_2 : List UInt8) (m0_3 : Int) (m1_0 : List V) (m1_1 : List V) (m1_2 : List UInt8) (m1_3 : Int) (m2_0 : List V) (m2_1 : List V) (m2_2 : List UInt8) (m2_3 : Int) (m3_0 : List V) (m3_1 : List V) (m3_2 : List UInt8) (m3_3 : Int) (m4_0 : List V) (m4_1 : List V) (m4_2 : List UInt8) (m4_3 : Int) (m5_0 : List V) (m5_1 : List V) (m5_2 : List UInt8) (m5_3 : Int) : R :=
  cond ((m2_1.length : Int) != (1 : Int))
 (cond ((m1_1.length : Int) != (1 : Int))
 (some (.done (V.bool false)))
 (cond ((m3_1.length : Int) != (2 : Int))
 (some (.done (V.bool false)))
 (cond ((m4_1.length : Int) != (3 : Int))
 (some (.done (V.bool false)))
 (some (.head 2 (T22_2 x2 x3 x4 x5 x6 x8 x10 x13 x14 x16 x18 x20 x22 x24 x26 m0_0 m0_1 m0_2 m0_3 m1_0 m1_1 m1_2 m1_3 m2_0 m2_1 m2_2 m2_3 m3_0 m3_1 m3_2 m3_3 m4_0 m4_1 m4_2 m4_3 m5_0 m5_1 m5_2 m5_3))))))
 (cond ((m3_1.length : Int) != (2 : Int))
 (some (.done (V.bool false)))
 (cond ((m4_1.length : Int) != (3 : Int))
 (some (.done (V.bool false)))
 (some (.head 2 (T22_2 x2 x3 x4 x5 x6 x8 x10 x13 x14 x16 x18 x20 x22 x24 x26 m0_0 m0_1 m0_2 m0_3 m1_0 m1_1 m1_2 m1_3 m2_0 m2_1 m2_2 m2_3 m3_0 m3_1 m3_2 m3_3 m4_0 m4_1 m4_2 m4_3 m5_0 m5_1 m5_2 m5_3)))))
theorem s22_1_eq (x2 : Int) (x3 : Int) (x4 : Int) (x5 : Int) (x6 : Int) (x8 : Int) (x10 : Int) (x13 : List UInt8) (x14 : Int) (x16 : Int) (x18 : Int) (x20 : Int) (x22 : Int) (x24 : Int) (x26 : Int) (m0_0 : List V) (m0_1 : List V) (m0_2 : List UInt8) (m0_3 : Int) (m1_0 : List V) (m1_1 : List V) (m1_2 : List UInt8) (m1_3 : Int) (m2_0 : List V) (m2_1 : List V) (m2_2 : List UInt8) (m2_3 : Int) (m3_0 : List V) (m3_1 : List V) (m3_2 : List UInt8) (m3_3 : Int) (m4_0 : List V) (m4_1 : List V) (m4_2 : List UInt8) (m4_3 : Int) (m5_0 : List V) (m5_1 : List V) (m5_2 : List UInt8) (m5_3 : Int) : goK qk false 0 fa22 1 (T22_1 x2 x3 x4 x5 x6 x8 x10 x13 x14 x16 x18 x20 x22 x24 x26 m0_0 m0_1 m0_2 m0_3 m1_0 m1_1 m1_2 m1_3 m2_0 m2_1 m2_2 m2_3 m3_0 m3_1 m3_2 m3_3 m4_0 m4_1 m4_2 m4_3 m5_0 m5_1 m5_2 m5_3) = s22_1 x2 x3 x4 x5 x6 x8 x10 x13 x14 x16 x18 x20 x22 x24 x26 m0_0 m0_1 m0_2 m0_3 m1_0 m1_1 m1_2 m1_3 m2_0 m2_1 m2_2 m2_3 m3_0 m3_1 m3_2 m3_3 m4_0 m4_1 m4_2 m4_3 m5_0 m5_1 m5_2 m5_3 := by kernel_rfl
theorem s22_1_run (x2 : Int) (x3 : Int) (x4 : Int) (x5 : Int) (x6 : Int) (x8 : Int) (x10 : Int) (x13 : List UInt8) (x14 : Int) (x16 : Int) (x18 : Int) (x20 : Int) (x22 : Int) (x24 : Int) (x26 : Int) (m0_0 : List V) (m0_1 : List V) (m0_2 : List UInt8) (m0_3 : Int) (m1_0 : List V) (m1_1 : List V) (m1_2 : List UInt8) (m1_3 : Int) (m2_0 : List V) (m2_1 : List V) (m2_2 : List UInt8) (m2_3 : Int) (m3_0 : List V) (m3_1 : List V) (m3_2 : List UInt8) (m3_3 : Int) (m4_0 : List V) (m4_1 : List V) (m4_2 : List UInt8) (m4_3 : Int) (m5_0 : List V) (m5_1 : List V) (m5_2 : List UInt8) (m5_3 : Int) {o o' : Out} (h : s22_1 x2 x3 x4 x5 x6 x8 x10 x13 x14 x16 x18 x20 x22 x24 x26 m0_0 m0_1 m0_2 m0_3 m1_0 m1_1 m1_2 m1_3 m2_0 m2_1 m2_2 m2_3 m3_0 m3_1 m3_2 m3_3 m4_0 m4_1 m4_2 m4_3 m5_0 m5_1 m5_2 m5_3 = some o) (hg : Go qk false 0 fa22 o o') : Go qk false 0 fa22 (.head 1 (T22_1 x2 x3 x4 x5 x6 x8 x10 x13 x14 x16 x18 x20 x22 x24 x26 m0_0 m0_1 m0_2 m0_3 m1_0 m1_1 m1_2 m1_3 m2_0 m2_1 m2_2 m2_3 m3_0 m3_1 m3_2 m3_3 m4_0 m4_1 m4_2 m4_3 m5_0 m5_1 m5_2 m5_3)) o' := .step ((s22_1_eq x2 x3 x4 x5 x6 x8 x10 x13 x14 x16 x18 x20 x22 x24 x26 m0_0 m0_1 m0_2 m0_3 m1_0 m1_1 m1_2 m1_3 m2_0 m2_1 m2_2 m2_3 m3_0 m3_1 m3_2 m3_3 m4_0 m4_1 m4_2 m4_3 m5_0 m5_1 m5_2 m5_3).trans h) hg
noncomputable def s22_2 (m0_0 : List V) (m0_1 : List V) (m0_2 : List UInt8) (m0_3 : Int) (m1_0 : List V) (m1_1 : List V) (m2_0 : List V) (m2_1 : List V) (m2_3 : Int) (m3_0 : List V) (m3_1 : List V) (m3_2 : List UInt8) (m3_3 : Int) (m4_0 : List V) (m4_1 : List V) (m4_2 : List UInt8) (m4_3 : Int) (m5_0 : List V) (m5_1 : List V) (m5_2 : List UInt8) (m5_3 : Int) : R :=
  pcK qcfg 18 [V.agg [V.sl m0_0, V.sl m0_1, V.str m0_2, V.int .i64 m0_3]] fun r =>
  kS r fun r18 =>
  cond (r18 == [78, 2, 0, 0, 0, 3, 0, 1, 109, 4, 0, 1, 112, 1, 2])
 (pcK qcfg 16 [V.agg [V.sl m0_0, V.sl m0_1, V.str m0_2, V.int .i64 m0_3]] fun r_1 =>
  kI .i64 r_1 fun r16 =>
  cond (r16 == (15 : Int))
 (cond (([112] : List UInt8) == [112])
 (cond (([112] : List UInt8) == [112])
 (cond (([] : List UInt8) == [])
 (idxK m3_1 0 fun v =>
  kI .i64 v fun n =>
  cond (n == (4 : Int))
 (idxK m4_1 2 fun v_1 =>
  kI .i64 v_1 fun n_1 =>
  cond (n_1 == (9 : Int))
 (pcK qcfg 20 [V.agg [V.sl m5_0, V.sl m5_1, V.str m5_2, V.int .i64 m5_3], V.agg [V.sl m0_0, V.sl m0_1, V.str m0_2, V.int .i64 m0_3]] fun r_2 =>
  kB r_2 fun r20 =>
  cond r20
 (pcK qcfg 13 [V.agg [V.sl m0_0, V.sl m0_1, V.str m0_2, V.int .i64 m0_3]] fun r_3 =>
  kB r_3 fun r13 =>
  cond r13
 (pcK qcfg 13 [V.agg [V.sl [], V.sl [], V.str [], V.int .i64 0]] fun r_4 =>
  kB r_4 fun r13_1 =>
  some (.done (V.bool (!r13_1))))
 (some (.done (V.bool false))))
 (some (.done (V.bool false))))
 (some (.done (V.bool false))))
 (some (.done (V.bool false))))
 (some (.done (V.bool false))))
 (some (.done (V.bool false))))
 (some (.done (V.bool false))))
 (some (.done (V.bool false))))
 (some (.done (V.bool false)))
theorem s22_2_eq (m0_0 : List V) (m0_1 : List V) (m0_2 : List UInt8) (m0_3 : Int) (m1_0 : List V) (m1_1 : List V) (m2_0 : List V) (m2_1 : List V) (m2_3 : Int) (m3_0 : List V) (m3_1 : List V) (m3_2 : List UInt8) (m3_3 : Int) (m4_0 : List V) (m4_1 : List V) (m4_2 : List UInt8) (m4_3 : Int) (m5_0 : List V) (m5_1 : List V) (m5_2 : List UInt8) (m5_3 : Int) : goK qk false 0 fa22 2 (T22_2 0 0 0 1 0 8 0 [112] 0 0 0 0 4 1 0 m0_0 m0_1 m0_2 m0_3 m1_0 m1_1 [112] 7 m2_0 m2_1 [] m2_3 m3_0 m3_1 m3_2 m3_3 m4_0 m4_1 m4_2 m4_3 m5_0 m5_1 m5_2 m5_3) = s22_2 m0_0 m0_1 m0_2 m0_3 m1_0 m1_1 m2_0 m2_1 m2_3 m3_0 m3_1 m3_2 m3_3 m4_0 m4_1 m4_2 m4_3 m5_0 m5_1 m5_2 m5_3 := by kernel_rfl
theorem s22_2_run (m0_0 : List V) (m0_1 : List V) (m0_2 : List UInt8) (m0_3 : Int) (m1_0 : List V) (m1_1 : List V) (m2_0 : List V) (m2_1 : List V) (m2_3 : Int) (m3_0 : List V) (m3_1 : List V) (m3_2 : List UInt8) (m3_3 : Int) (m4_0 : List V) (m4_1 : List V) (m4_2 : List UInt8) (m4_3 : Int) (m5_0 : List V) (m5_1 : List V) (m5_2 : List UInt8) (m5_3 : Int) {o o' : Out} (h : s22_2 m0_0 m0_1 m0_2 m0_3 m1_0 m1_1 m2_0 m2_1 m2_3 m3_0 m3_1 m3_2 m3_3 m4_0 m4_1 m4_2 m4_3 m5_0 m5_1 m5_2 m5_3 = some o) (hg : Go qk false 0 fa22 o o') : Go qk false 0 fa22 (.head 2 (T22_2 0 0 0 1 0 8 0 [112] 0 0 0 0 4 1 0 m0_0 m0_1 m0_2 m0_3 m1_0 m1_1 [112] 7 m2_0 m2_1 [] m2_3 m3_0 m3_1 m3_2 m3_3 m4_0 m4_1 m4_2 m4_3 m5_0 m5_1 m5_2 m5_3)) o' := .step ((s22_2_eq m0_0 m0_1 m0_2 m0_3 m1_0 m1_1 m2_0 m2_1 m2_3 m3_0 m3_1 m3_2 m3_3 m4_0 m4_1 m4_2 m4_3 m5_0 m5_1 m5_2 m5_3).trans h) hg
/-! ### budwood/budwoodlaw11.InnerPuts -/
noncomputable def fa3 : FA := ⟨3, 77, [.tmp 6], [4],
 (.seq
 (.ops false [o1 3 (.box 25 (t' 0)) 0, o1 4 (.box 25 (t' 1)) 0, o1 6 (.assign (.const (.bool false))) 4])
 (.seq
 (.ops false [o1 11 (.load 25 (t' 3)) 25, o1 12 (.call ⟨(.value (.func 10)), #[(t' 11)], #[25]⟩) 25, o0 (.store 25 (t' 3) (t' 12)) 0])
 (.seq
 (.ops false [o1 13 (.load 25 (t' 4)) 25, o1 14 (.call ⟨(.value (.func 10)), #[(t' 13)], #[25]⟩) 25, o0 (.store 25 (t' 4) (t' 14)) 0])
 (.seq
 (.ops false [mv 15 2 9, mv 16 2 9, o1 17 (.call ⟨(.builtin .len), #[(t' 16)], #[9]⟩) 3, o1 18 (.call ⟨(.builtin .min), #[(t' 17), (.const (.int .i64 (300)))], #[3, 3]⟩) 3, o1 19 (.slice 9 (t' 15) none (some (t' 18)) none) 9, asg 2 19 9])
 (.seq
 (.ops false [mv 21 2 9, o1 22 (.call ⟨(.value (.func 11)), #[(t' 21)], #[9]⟩) 28, mv 20 22 28, o1 23 (.extract (t' 20) 0) 25, o1 24 (.extract (t' 20) 1) 27, o1 7 (.alloc 25) 0, o0 (.store 25 (t' 7) (t' 23)) 0, asg 8 24 27])
 (.seq
 (.ops false [mv 26 2 9, o1 27 (.call ⟨(.value (.func 12)), #[(t' 26)], #[9]⟩) 31, mv 25 27 31, o1 28 (.extract (t' 25) 0) 30, o1 29 (.extract (t' 25) 1) 27, o1 9 (.alloc 30) 0, o0 (.store 30 (t' 9) (t' 28)) 0, asg 10 29 27])
 (.seq
 (.ops true [o1 30 (.load 25 (t' 3)) 25, o1 31 (.call ⟨(.value (.func 13)), #[(t' 30)], #[25]⟩) 4, o1 32 (.load 25 (t' 3)) 25, ⟨(some 33), .call ⟨(.value (.func 15)), #[(t' 32)], #[25]⟩, 30, none, false, true, false⟩, ⟨(some 34), .call ⟨(.value (.func 14)), #[(t' 33)], #[30]⟩, 4, none, false, true, false⟩, o1 35 (.binOp .eql 4 (t' 31) (t' 34) 4) 4, mv 36 35 4, o2 37 (.load 25 (t' 3)) 25 36 true, o2 38 (.call ⟨(.value (.func 16)), #[(t' 37)], #[25]⟩) 3 36 true, o2 39 (.load 25 (t' 3)) 25 36 true, ⟨(some 40), .call ⟨(.value (.func 15)), #[(t' 39)], #[25]⟩, 30, (some (36, true)), false, true, false⟩, ⟨(some 41), .call ⟨(.value (.func 17)), #[(t' 40)], #[30]⟩, 3, (some (36, true)), false, true, false⟩, o2 42 (.binOp .eql 3 (t' 38) (t' 41) 3) 4 36 true, o1 43 (.pick (t' 36) (t' 42) (.const (.bool false))) 4, mv 44 43 4, o2 45 (.load 25 (t' 3)) 25 44 true, o2 46 (.call ⟨(.value (.func 18)), #[(t' 45)], #[25]⟩) 9 44 true, o2 47 (.load 25 (t' 3)) 25 44 true, ⟨(some 48), .call ⟨(.value (.func 15)), #[(t' 47)], #[25]⟩, 30, (some (44, true)), false, true, false⟩, ⟨(some 49), .call ⟨(.value (.func 19)), #[(t' 48)], #[30]⟩, 9, (some (44, true)), false, true, false⟩, o2 50 (.binOp .eql 9 (t' 46) (t' 49) 9) 4 44 true, o1 51 (.pick (t' 44) (t' 50) (.const (.bool false))) 4, mv 52 51 4, o2 53 (.load 25 (t' 3)) 25 52 true, o2 54 (.load 25 (t' 4)) 25 52 true, o2 55 (.call ⟨(.value (.func 20)), #[(t' 53), (t' 54)], #[25, 25]⟩) 4 52 true, o2 56 (.load 25 (t' 3)) 25 52 true, o2 57 (.call ⟨(.value (.func 15)), #[(t' 56)], #[25]⟩) 30 52 true, o2 58 (.load 25 (t' 4)) 25 52 true, ⟨(some 59), .call ⟨(.value (.func 15)), #[(t' 58)], #[25]⟩, 30, (some (52, true)), false, true, false⟩, ⟨(some 60), .call ⟨(.value (.func 21)), #[(t' 57), (t' 59)], #[30, 30]⟩, 4, (some (52, true)), false, true, false⟩, o2 61 (.binOp .eql 4 (t' 55) (t' 60) 4) 4 52 true, o1 62 (.pick (t' 52) (t' 61) (.const (.bool false))) 4, mv 63 62 4, o2 64 (.load 25 (t' 7)) 25 63 true, o2 65 (.call ⟨(.value (.func 15)), #[(t' 64)], #[25]⟩) 30 63 true, o2 66 (.load 30 (t' 9)) 30 63 true, ⟨(some 67), .call ⟨(.value (.func 21)), #[(t' 65), (t' 66)], #[30, 30]⟩, 4, (some (63, true)), false, true, false⟩, o1 68 (.pick (t' 63) (t' 67) (.const (.bool false))) 4, mv 69 68 4, o2 70 (.move (t' 8)) 27 69 true, o2 71 (.move (t' 10)) 27 69 true, o2 72 (.binOp .eql 27 (t' 70) (t' 71) 27) 4 69 true, o1 73 (.pick (t' 69) (t' 72) (.const (.bool false))) 4, mv 74 73 4, ⟨(some 75), .call ⟨(.value (.func 22)), #[], #[]⟩, 4, (some (74, true)), false, true, false⟩, o1 76 (.pick (t' 74) (t' 75) (.const (.bool false))) 4, asg 6 76 4])
 (.ret))))))))⟩
theorem fa3_eq : fnA qcfg.P (qcfg.rxf 3) 3 = some fa3 := by kernel_rfl
noncomputable def e3 (a0Seps : List V) (a0Kids : List V) (a0High : List UInt8) (a0Next : Int) (a1Seps : List V) (a1Kids : List V) (a1High : List UInt8) (a1Next : Int) (a2 : List UInt8) : R :=
  pcK qcfg 10 [V.agg [V.sl a0Seps, V.sl a0Kids, V.str a0High, V.int .i64 a0Next]] fun r =>
  d25 r fun r10Seps r10Kids r10High r10Next =>
  pcK qcfg 10 [V.agg [V.sl a1Seps, V.sl a1Kids, V.str a1High, V.int .i64 a1Next]] fun r_1 =>
  d25 r_1 fun r10Seps_1 r10Kids_1 r10High_1 r10Next_1 =>
  gd (decide (0 ≤ (if 300 < (a2.length : Int) then 300 else (a2.length : Int)))) <|
  gd (decide ((if 300 < (a2.length : Int) then 300 else (a2.length : Int)).toNat ≤ a2.length)) <|
  pcK qcfg 11 [V.str (a2.take ((if 300 < (a2.length : Int) then 300 else (a2.length : Int)).toNat))] fun r_2 =>
  d28 r_2 fun r11_0 r11_1 r11_2 r11_3 r11_4 =>
  pcK qcfg 12 [V.str (a2.take ((if 300 < (a2.length : Int) then 300 else (a2.length : Int)).toNat))] fun r_3 =>
  d31 r_3 fun r12_0 r12_1 r12_2 r12_3 r12_4 =>
  pcK qcfg 13 [V.agg [V.sl r10Seps, V.sl r10Kids, V.str r10High, V.int .i64 r10Next]] fun r_4 =>
  kB r_4 fun r13 =>
  pcK qcfg 15 [V.agg [V.sl r10Seps, V.sl r10Kids, V.str r10High, V.int .i64 r10Next]] fun r_5 =>
  d30 r_5 fun r15Seps r15Kids r15High r15Next =>
  pcK qcfg 14 [V.agg [V.sl r15Seps, V.sl r15Kids, V.str r15High, V.int .i64 r15Next]] fun r_6 =>
  kB r_6 fun r14 =>
  cond (r13 == r14)
 (pcK qcfg 16 [V.agg [V.sl r10Seps, V.sl r10Kids, V.str r10High, V.int .i64 r10Next]] fun r_7 =>
  kI .i64 r_7 fun r16 =>
  pcK qcfg 15 [V.agg [V.sl r10Seps, V.sl r10Kids, V.str r10High, V.int .i64 r10Next]] fun r_8 =>
  d30 r_8 fun r15Seps_1 r15Kids_1 r15High_1 r15Next_1 =>
  pcK qcfg 17 [V.agg [V.sl r15Seps_1, V.sl r15Kids_1, V.str r15High_1, V.int .i64 r15Next_1]] fun r_9 =>
  kI .i64 r_9 fun r17 =>
  cond (r16 == r17)
 (pcK qcfg 18 [V.agg [V.sl r10Seps, V.sl r10Kids, V.str r10High, V.int .i64 r10Next]] fun r_10 =>
  kS r_10 fun r18 =>
  pcK qcfg 15 [V.agg [V.sl r10Seps, V.sl r10Kids, V.str r10High, V.int .i64 r10Next]] fun r_11 =>
  d30 r_11 fun r15Seps_2 r15Kids_2 r15High_2 r15Next_2 =>
  pcK qcfg 19 [V.agg [V.sl r15Seps_2, V.sl r15Kids_2, V.str r15High_2, V.int .i64 r15Next_2]] fun r_12 =>
  kS r_12 fun r19 =>
  cond (r18 == r19)
 (pcK qcfg 20 [V.agg [V.sl r10Seps, V.sl r10Kids, V.str r10High, V.int .i64 r10Next], V.agg [V.sl r10Seps_1, V.sl r10Kids_1, V.str r10High_1, V.int .i64 r10Next_1]] fun r_13 =>
  kB r_13 fun r20 =>
  pcK qcfg 15 [V.agg [V.sl r10Seps, V.sl r10Kids, V.str r10High, V.int .i64 r10Next]] fun r_14 =>
  d30 r_14 fun r15Seps_3 r15Kids_3 r15High_3 r15Next_3 =>
  pcK qcfg 15 [V.agg [V.sl r10Seps_1, V.sl r10Kids_1, V.str r10High_1, V.int .i64 r10Next_1]] fun r_15 =>
  d30 r_15 fun r15Seps_4 r15Kids_4 r15High_4 r15Next_4 =>
  pcK qcfg 21 [V.agg [V.sl r15Seps_3, V.sl r15Kids_3, V.str r15High_3, V.int .i64 r15Next_3], V.agg [V.sl r15Seps_4, V.sl r15Kids_4, V.str r15High_4, V.int .i64 r15Next_4]] fun r_16 =>
  kB r_16 fun r21 =>
  cond (r20 == r21)
 (pcK qcfg 15 [V.agg [V.sl r11_0, V.sl r11_1, V.str r11_2, V.int .i64 r11_3]] fun r_17 =>
  d30 r_17 fun r15Seps_5 r15Kids_5 r15High_5 r15Next_5 =>
  pcK qcfg 21 [V.agg [V.sl r15Seps_5, V.sl r15Kids_5, V.str r15High_5, V.int .i64 r15Next_5], V.agg [V.sl r12_0, V.sl r12_1, V.str r12_2, V.int .i64 r12_3]] fun r_18 =>
  kB r_18 fun r21_1 =>
  cond r21_1
 (cond (r11_4 == r12_4)
 (pcK qcfg 22 [] fun r_19 =>
  kB r_19 fun r22 =>
  some (.done (V.bool r22)))
 (some (.done (V.bool false))))
 (some (.done (V.bool false))))
 (some (.done (V.bool false))))
 (some (.done (V.bool false))))
 (some (.done (V.bool false))))
 (some (.done (V.bool false)))
theorem e3_eq (a0Seps : List V) (a0Kids : List V) (a0High : List UInt8) (a0Next : Int) (a1Seps : List V) (a1Kids : List V) (a1High : List UInt8) (a1Next : Int) (a2 : List UInt8) : enterK qk false fa3 [V.agg [V.sl a0Seps, V.sl a0Kids, V.str a0High, V.int .i64 a0Next], V.agg [V.sl a1Seps, V.sl a1Kids, V.str a1High, V.int .i64 a1Next], V.str a2] [] = e3 a0Seps a0Kids a0High a0Next a1Seps a1Kids a1High a1Next a2 := by kernel_rfl
theorem e3_run (a0Seps : List V) (a0Kids : List V) (a0High : List UInt8) (a0Next : Int) (a1Seps : List V) (a1Kids : List V) (a1High : List UInt8) (a1Next : Int) (a2 : List UInt8) {o : Out} {v : V} (h : e3 a0Seps a0Kids a0High a0Next a1Seps a1Kids a1High a1Next a2 = some o) (hg : Go qk false 0 fa3 o (.done v)) : pcW qcfg 3 [V.agg [V.sl a0Seps, V.sl a0Kids, V.str a0High, V.int .i64 a0Next], V.agg [V.sl a1Seps, V.sl a1Kids, V.str a1High, V.int .i64 a1Next], V.str a2] = some v := pcW_go qik rfl fa3_eq ((e3_eq a0Seps a0Kids a0High a0Next a1Seps a1Kids a1High a1Next a2).trans h) hg
theorem e3_done (a0Seps : List V) (a0Kids : List V) (a0High : List UInt8) (a0Next : Int) (a1Seps : List V) (a1Kids : List V) (a1High : List UInt8) (a1Next : Int) (a2 : List UInt8) {v : V} (h : e3 a0Seps a0Kids a0High a0Next a1Seps a1Kids a1High a1Next a2 = some (.done v)) : pcW qcfg 3 [V.agg [V.sl a0Seps, V.sl a0Kids, V.str a0High, V.int .i64 a0Next], V.agg [V.sl a1Seps, V.sl a1Kids, V.str a1High, V.int .i64 a1Next], V.str a2] = some v := e3_run a0Seps a0Kids a0High a0Next a1Seps a1Kids a1High a1Next a2 h (.refl _)
/-! ### budwood/budwoodlaw11.InnerDoes -/
noncomputable def fa4 : FA := ⟨3, 187, [.tmp 6], [4],
 (.seq
 (.ops false [o1 3 (.box 25 (t' 0)) 0, o1 5 (.box 44 (t' 2)) 0, o1 6 (.assign (.const (.bool false))) 4])
 (.seq
 (.ops false [o1 31 (.load 25 (t' 3)) 25, o1 32 (.call ⟨(.value (.func 10)), #[(t' 31)], #[25]⟩) 25, o0 (.store 25 (t' 3) (t' 32)) 0])
 (.seq
 (.ops false [mv 33 1 9, mv 34 1 9, o1 35 (.call ⟨(.builtin .len), #[(t' 34)], #[9]⟩) 3, o1 36 (.call ⟨(.builtin .min), #[(t' 35), (.const (.int .i64 (40)))], #[3, 3]⟩) 3, o1 37 (.slice 9 (t' 33) none (some (t' 36)) none) 9, asg 1 37 9])
 (.seq
 (.ops false [o1 39 (.load 25 (t' 3)) 25, mv 40 1 9, o1 41 (.call ⟨(.value (.func 23)), #[(t' 39), (t' 40)], #[25, 9]⟩) 45, mv 38 41 45, o1 42 (.extract (t' 38) 0) 3, o1 43 (.extract (t' 38) 1) 27, asg 7 42 3, asg 8 43 27])
 (.seq
 (.ops false [o1 45 (.load 25 (t' 3)) 25, o1 46 (.call ⟨(.value (.func 15)), #[(t' 45)], #[25]⟩) 30, mv 47 1 9, o1 48 (.call ⟨(.value (.func 24)), #[(t' 46), (t' 47)], #[30, 9]⟩) 45, mv 44 48 45, o1 49 (.extract (t' 44) 0) 3, o1 50 (.extract (t' 44) 1) 27, asg 9 49 3, asg 10 50 27])
 (.seq
 (.ops false [o1 52 (.load 25 (t' 3)) 25, mv 53 1 9, o1 54 (.indexAddr 44 (t' 5) (.const (.int .i64 (1)))) 0, o1 55 (.load 3 (t' 54)) 3, o1 56 (.call ⟨(.value (.func 25)), #[(t' 52), (t' 53), (t' 55)], #[25, 9, 3]⟩) 28, mv 51 56 28, o1 57 (.extract (t' 51) 0) 25, o1 58 (.extract (t' 51) 1) 27, o1 11 (.alloc 25) 0, o0 (.store 25 (t' 11) (t' 57)) 0, asg 12 58 27])
 (.seq
 (.ops true [o1 60 (.load 25 (t' 3)) 25, o1 61 (.call ⟨(.value (.func 15)), #[(t' 60)], #[25]⟩) 30, mv 62 1 9, o1 63 (.indexAddr 44 (t' 5) (.const (.int .i64 (1)))) 0, o1 64 (.load 3 (t' 63)) 3, ⟨(some 65), .call ⟨(.value (.func 26)), #[(t' 61), (t' 62), (t' 64)], #[30, 9, 3]⟩, 31, none, false, true, false⟩, mv 59 65 31, o1 66 (.extract (t' 59) 0) 30, o1 67 (.extract (t' 59) 1) 27, ⟨(some 13), .alloc 30, 0, none, true, false, false⟩, ⟨(some 13), .box 30 (t' 66), 0, none, true, false, false⟩, asg 14 67 27])
 (.seq
 (.ops false [o1 69 (.load 25 (t' 3)) 25, o1 70 (.indexAddr 44 (t' 5) (.const (.int .i64 (0)))) 0, o1 71 (.load 3 (t' 70)) 3, o1 72 (.call ⟨(.value (.func 27)), #[(t' 69), (t' 71)], #[25, 3]⟩) 28, mv 68 72 28, o1 73 (.extract (t' 68) 0) 25, o1 74 (.extract (t' 68) 1) 27, o1 15 (.alloc 25) 0, o0 (.store 25 (t' 15) (t' 73)) 0, asg 16 74 27])
 (.seq
 (.ops true [o1 76 (.load 25 (t' 3)) 25, o1 77 (.call ⟨(.value (.func 15)), #[(t' 76)], #[25]⟩) 30, o1 78 (.indexAddr 44 (t' 5) (.const (.int .i64 (0)))) 0, o1 79 (.load 3 (t' 78)) 3, ⟨(some 80), .call ⟨(.value (.func 28)), #[(t' 77), (t' 79)], #[30, 3]⟩, 31, none, false, true, false⟩, mv 75 80 31, o1 81 (.extract (t' 75) 0) 30, o1 82 (.extract (t' 75) 1) 27, ⟨(some 17), .alloc 30, 0, none, true, false, false⟩, ⟨(some 17), .box 30 (t' 81), 0, none, true, false, false⟩, asg 18 82 27])
 (.seq
 (.ops false [o1 84 (.load 25 (t' 3)) 25, o1 85 (.indexAddr 44 (t' 5) (.const (.int .i64 (0)))) 0, o1 86 (.load 3 (t' 85)) 3, o1 87 (.indexAddr 44 (t' 5) (.const (.int .i64 (1)))) 0, o1 88 (.load 3 (t' 87)) 3, o1 89 (.call ⟨(.value (.func 29)), #[(t' 84), (t' 86), (t' 88)], #[25, 3, 3]⟩) 28, mv 83 89 28, o1 90 (.extract (t' 83) 0) 25, o1 91 (.extract (t' 83) 1) 27, o1 19 (.alloc 25) 0, o0 (.store 25 (t' 19) (t' 90)) 0, asg 20 91 27])
 (.seq
 (.ops true [o1 93 (.load 25 (t' 3)) 25, o1 94 (.call ⟨(.value (.func 15)), #[(t' 93)], #[25]⟩) 30, o1 95 (.indexAddr 44 (t' 5) (.const (.int .i64 (0)))) 0, o1 96 (.load 3 (t' 95)) 3, o1 97 (.indexAddr 44 (t' 5) (.const (.int .i64 (1)))) 0, o1 98 (.load 3 (t' 97)) 3, ⟨(some 99), .call ⟨(.value (.func 30)), #[(t' 94), (t' 96), (t' 98)], #[30, 3, 3]⟩, 31, none, false, true, false⟩, mv 92 99 31, o1 100 (.extract (t' 92) 0) 30, o1 101 (.extract (t' 92) 1) 27, ⟨(some 21), .alloc 30, 0, none, true, false, false⟩, ⟨(some 21), .box 30 (t' 100), 0, none, true, false, false⟩, asg 22 101 27])
 (.seq
 (.ops false [o1 103 (.load 25 (t' 3)) 25, o1 104 (.indexAddr 44 (t' 5) (.const (.int .i64 (1)))) 0, o1 105 (.load 3 (t' 104)) 3, o1 106 (.call ⟨(.value (.func 31)), #[(t' 103), (t' 105)], #[25, 3]⟩) 54, mv 102 106 54, o1 107 (.extract (t' 102) 0) 25, o1 108 (.extract (t' 102) 1) 25, o1 109 (.extract (t' 102) 2) 9, o1 110 (.extract (t' 102) 3) 27, o1 23 (.alloc 25) 0, o1 24 (.alloc 25) 0, o0 (.store 25 (t' 23) (t' 107)) 0, o0 (.store 25 (t' 24) (t' 108)) 0, asg 25 109 9, asg 26 110 27])
 (.seq
 (.ops true [o1 112 (.load 25 (t' 3)) 25, o1 113 (.call ⟨(.value (.func 15)), #[(t' 112)], #[25]⟩) 30, o1 114 (.indexAddr 44 (t' 5) (.const (.int .i64 (1)))) 0, o1 115 (.load 3 (t' 114)) 3, ⟨(some 116), .call ⟨(.value (.func 32)), #[(t' 113), (t' 115)], #[30, 3]⟩, 56, none, false, true, false⟩, mv 111 116 56, o1 117 (.extract (t' 111) 0) 30, o1 118 (.extract (t' 111) 1) 30, o1 119 (.extract (t' 111) 2) 9, o1 120 (.extract (t' 111) 3) 27, ⟨(some 27), .alloc 30, 0, none, true, false, false⟩, ⟨(some 28), .alloc 30, 0, none, true, false, false⟩, ⟨(some 27), .box 30 (t' 117), 0, none, true, false, false⟩, ⟨(some 28), .box 30 (t' 118), 0, none, true, false, false⟩, asg 29 119 9, asg 30 120 27])
 (.seq
 (.ops true [mv 121 7 3, mv 122 9 3, o1 123 (.binOp .eql 3 (t' 121) (t' 122) 3) 4, mv 124 123 4, o2 125 (.move (t' 8)) 27 124 true, o2 126 (.move (t' 10)) 27 124 true, o2 127 (.binOp .eql 27 (t' 125) (t' 126) 27) 4 124 true, o1 128 (.pick (t' 124) (t' 127) (.const (.bool false))) 4, mv 129 128 4, o2 130 (.load 25 (t' 11)) 25 129 true, o2 131 (.call ⟨(.value (.func 15)), #[(t' 130)], #[25]⟩) 30 129 true, o2 132 (.load 30 (t' 13)) 30 129 true, ⟨(some 133), .call ⟨(.value (.func 21)), #[(t' 131), (t' 132)], #[30, 30]⟩, 4, (some (129, true)), false, true, false⟩, o1 134 (.pick (t' 129) (t' 133) (.const (.bool false))) 4, mv 135 134 4, o2 136 (.move (t' 12)) 27 135 true, o2 137 (.move (t' 14)) 27 135 true, o2 138 (.binOp .eql 27 (t' 136) (t' 137) 27) 4 135 true, o1 139 (.pick (t' 135) (t' 138) (.const (.bool false))) 4, mv 140 139 4, o2 141 (.load 25 (t' 15)) 25 140 true, o2 142 (.call ⟨(.value (.func 15)), #[(t' 141)], #[25]⟩) 30 140 true, o2 143 (.load 30 (t' 17)) 30 140 true, ⟨(some 144), .call ⟨(.value (.func 21)), #[(t' 142), (t' 143)], #[30, 30]⟩, 4, (some (140, true)), false, true, false⟩, o1 145 (.pick (t' 140) (t' 144) (.const (.bool false))) 4, mv 146 145 4, o2 147 (.move (t' 16)) 27 146 true, o2 148 (.move (t' 18)) 27 146 true, o2 149 (.binOp .eql 27 (t' 147) (t' 148) 27) 4 146 true, o1 150 (.pick (t' 146) (t' 149) (.const (.bool false))) 4, mv 151 150 4, o2 152 (.load 25 (t' 19)) 25 151 true, o2 153 (.call ⟨(.value (.func 15)), #[(t' 152)], #[25]⟩) 30 151 true, o2 154 (.load 30 (t' 21)) 30 151 true, ⟨(some 155), .call ⟨(.value (.func 21)), #[(t' 153), (t' 154)], #[30, 30]⟩, 4, (some (151, true)), false, true, false⟩, o1 156 (.pick (t' 151) (t' 155) (.const (.bool false))) 4, mv 157 156 4, o2 158 (.move (t' 20)) 27 157 true, o2 159 (.move (t' 22)) 27 157 true, o2 160 (.binOp .eql 27 (t' 158) (t' 159) 27) 4 157 true, o1 161 (.pick (t' 157) (t' 160) (.const (.bool false))) 4, mv 162 161 4, o2 163 (.load 25 (t' 23)) 25 162 true, o2 164 (.call ⟨(.value (.func 15)), #[(t' 163)], #[25]⟩) 30 162 true, o2 165 (.load 30 (t' 27)) 30 162 true, ⟨(some 166), .call ⟨(.value (.func 21)), #[(t' 164), (t' 165)], #[30, 30]⟩, 4, (some (162, true)), false, true, false⟩, o1 167 (.pick (t' 162) (t' 166) (.const (.bool false))) 4, mv 168 167 4, o2 169 (.load 25 (t' 24)) 25 168 true, o2 170 (.call ⟨(.value (.func 15)), #[(t' 169)], #[25]⟩) 30 168 true, o2 171 (.load 30 (t' 28)) 30 168 true, ⟨(some 172), .call ⟨(.value (.func 21)), #[(t' 170), (t' 171)], #[30, 30]⟩, 4, (some (168, true)), false, true, false⟩, o1 173 (.pick (t' 168) (t' 172) (.const (.bool false))) 4, mv 174 173 4, o2 175 (.move (t' 25)) 9 174 true, o2 176 (.move (t' 29)) 9 174 true, o2 177 (.binOp .eql 9 (t' 175) (t' 176) 9) 4 174 true, o1 178 (.pick (t' 174) (t' 177) (.const (.bool false))) 4, mv 179 178 4, o2 180 (.move (t' 26)) 27 179 true, o2 181 (.move (t' 30)) 27 179 true, o2 182 (.binOp .eql 27 (t' 180) (t' 181) 27) 4 179 true, o1 183 (.pick (t' 179) (t' 182) (.const (.bool false))) 4, mv 184 183 4, ⟨(some 185), .call ⟨(.value (.func 22)), #[], #[]⟩, 4, (some (184, true)), false, true, false⟩, o1 186 (.pick (t' 184) (t' 185) (.const (.bool false))) 4, asg 6 186 4])
 (.ret)))))))))))))))⟩
theorem fa4_eq : fnA qcfg.P (qcfg.rxf 4) 4 = some fa4 := by kernel_rfl
noncomputable def e4 (a0Seps : List V) (a0Kids : List V) (a0High : List UInt8) (a0Next : Int) (a1 : List UInt8) (a20 : Int) (a21 : Int) : R :=
  pcK qcfg 10 [V.agg [V.sl a0Seps, V.sl a0Kids, V.str a0High, V.int .i64 a0Next]] fun r =>
  d25 r fun r10Seps r10Kids r10High r10Next =>
  gd (decide (0 ≤ (if 40 < (a1.length : Int) then 40 else (a1.length : Int)))) <|
  gd (decide ((if 40 < (a1.length : Int) then 40 else (a1.length : Int)).toNat ≤ a1.length)) <|
  pcK qcfg 23 [V.agg [V.sl r10Seps, V.sl r10Kids, V.str r10High, V.int .i64 r10Next], V.str (a1.take ((if 40 < (a1.length : Int) then 40 else (a1.length : Int)).toNat))] fun r_1 =>
  d45 r_1 fun r23_0 r23_1 =>
  pcK qcfg 15 [V.agg [V.sl r10Seps, V.sl r10Kids, V.str r10High, V.int .i64 r10Next]] fun r_2 =>
  d30 r_2 fun r15Seps r15Kids r15High r15Next =>
  pcK qcfg 24 [V.agg [V.sl r15Seps, V.sl r15Kids, V.str r15High, V.int .i64 r15Next], V.str (a1.take ((if 40 < (a1.length : Int) then 40 else (a1.length : Int)).toNat))] fun r_3 =>
  d45 r_3 fun r24_0 r24_1 =>
  pcK qcfg 25 [V.agg [V.sl r10Seps, V.sl r10Kids, V.str r10High, V.int .i64 r10Next], V.str (a1.take ((if 40 < (a1.length : Int) then 40 else (a1.length : Int)).toNat)), V.int .i64 a21] fun r_4 =>
  d28 r_4 fun r25_0 r25_1 r25_2 r25_3 r25_4 =>
  pcK qcfg 15 [V.agg [V.sl r10Seps, V.sl r10Kids, V.str r10High, V.int .i64 r10Next]] fun r_5 =>
  d30 r_5 fun r15Seps_1 r15Kids_1 r15High_1 r15Next_1 =>
  pcK qcfg 26 [V.agg [V.sl r15Seps_1, V.sl r15Kids_1, V.str r15High_1, V.int .i64 r15Next_1], V.str (a1.take ((if 40 < (a1.length : Int) then 40 else (a1.length : Int)).toNat)), V.int .i64 a21] fun r_6 =>
  d31 r_6 fun r26_0 r26_1 r26_2 r26_3 r26_4 =>
  pcK qcfg 27 [V.agg [V.sl r10Seps, V.sl r10Kids, V.str r10High, V.int .i64 r10Next], V.int .i64 a20] fun r_7 =>
  d28 r_7 fun r27_0 r27_1 r27_2 r27_3 r27_4 =>
  pcK qcfg 15 [V.agg [V.sl r10Seps, V.sl r10Kids, V.str r10High, V.int .i64 r10Next]] fun r_8 =>
  d30 r_8 fun r15Seps_2 r15Kids_2 r15High_2 r15Next_2 =>
  pcK qcfg 28 [V.agg [V.sl r15Seps_2, V.sl r15Kids_2, V.str r15High_2, V.int .i64 r15Next_2], V.int .i64 a20] fun r_9 =>
  d31 r_9 fun r28_0 r28_1 r28_2 r28_3 r28_4 =>
  pcK qcfg 29 [V.agg [V.sl r10Seps, V.sl r10Kids, V.str r10High, V.int .i64 r10Next], V.int .i64 a20, V.int .i64 a21] fun r_10 =>
  d28 r_10 fun r29_0 r29_1 r29_2 r29_3 r29_4 =>
  pcK qcfg 15 [V.agg [V.sl r10Seps, V.sl r10Kids, V.str r10High, V.int .i64 r10Next]] fun r_11 =>
  d30 r_11 fun r15Seps_3 r15Kids_3 r15High_3 r15Next_3 =>
  pcK qcfg 30 [V.agg [V.sl r15Seps_3, V.sl r15Kids_3, V.str r15High_3, V.int .i64 r15Next_3], V.int .i64 a20, V.int .i64 a21] fun r_12 =>
  d31 r_12 fun r30_0 r30_1 r30_2 r30_3 r30_4 =>
  pcK qcfg 31 [V.agg [V.sl r10Seps, V.sl r10Kids, V.str r10High, V.int .i64 r10Next], V.int .i64 a21] fun r_13 =>
  d54 r_13 fun r31_0 r31_1 r31_2 r31_3 r31_4 r31_5 r31_6 r31_7 r31_8 r31_9 =>
  pcK qcfg 15 [V.agg [V.sl r10Seps, V.sl r10Kids, V.str r10High, V.int .i64 r10Next]] fun r_14 =>
  d30 r_14 fun r15Seps_4 r15Kids_4 r15High_4 r15Next_4 =>
  pcK qcfg 32 [V.agg [V.sl r15Seps_4, V.sl r15Kids_4, V.str r15High_4, V.int .i64 r15Next_4], V.int .i64 a21] fun r_15 =>
  d56 r_15 fun r32_0 r32_1 r32_2 r32_3 r32_4 r32_5 r32_6 r32_7 r32_8 r32_9 =>
  cond (r23_0 == r24_0)
 (cond (r23_1 == r24_1)
 (pcK qcfg 15 [V.agg [V.sl r25_0, V.sl r25_1, V.str r25_2, V.int .i64 r25_3]] fun r_16 =>
  d30 r_16 fun r15Seps_5 r15Kids_5 r15High_5 r15Next_5 =>
  pcK qcfg 21 [V.agg [V.sl r15Seps_5, V.sl r15Kids_5, V.str r15High_5, V.int .i64 r15Next_5], V.agg [V.sl r26_0, V.sl r26_1, V.str r26_2, V.int .i64 r26_3]] fun r_17 =>
  kB r_17 fun r21 =>
  cond r21
 (cond (r25_4 == r26_4)
 (pcK qcfg 15 [V.agg [V.sl r27_0, V.sl r27_1, V.str r27_2, V.int .i64 r27_3]] fun r_18 =>
  d30 r_18 fun r15Seps_6 r15Kids_6 r15High_6 r15Next_6 =>
  pcK qcfg 21 [V.agg [V.sl r15Seps_6, V.sl r15Kids_6, V.str r15High_6, V.int .i64 r15Next_6], V.agg [V.sl r28_0, V.sl r28_1, V.str r28_2, V.int .i64 r28_3]] fun r_19 =>
  kB r_19 fun r21_1 =>
  cond r21_1
 (cond (r27_4 == r28_4)
 (pcK qcfg 15 [V.agg [V.sl r29_0, V.sl r29_1, V.str r29_2, V.int .i64 r29_3]] fun r_20 =>
  d30 r_20 fun r15Seps_7 r15Kids_7 r15High_7 r15Next_7 =>
  pcK qcfg 21 [V.agg [V.sl r15Seps_7, V.sl r15Kids_7, V.str r15High_7, V.int .i64 r15Next_7], V.agg [V.sl r30_0, V.sl r30_1, V.str r30_2, V.int .i64 r30_3]] fun r_21 =>
  kB r_21 fun r21_2 =>
  cond r21_2
 (cond (r29_4 == r30_4)
 (pcK qcfg 15 [V.agg [V.sl r31_0, V.sl r31_1, V.str r31_2, V.int .i64 r31_3]] fun r_22 =>
  d30 r_22 fun r15Seps_8 r15Kids_8 r15High_8 r15Next_8 =>
  pcK qcfg 21 [V.agg [V.sl r15Seps_8, V.sl r15Kids_8, V.str r15High_8, V.int .i64 r15Next_8], V.agg [V.sl r32_0, V.sl r32_1, V.str r32_2, V.int .i64 r32_3]] fun r_23 =>
  kB r_23 fun r21_3 =>
  cond r21_3
 (pcK qcfg 15 [V.agg [V.sl r31_4, V.sl r31_5, V.str r31_6, V.int .i64 r31_7]] fun r_24 =>
  d30 r_24 fun r15Seps_9 r15Kids_9 r15High_9 r15Next_9 =>
  pcK qcfg 21 [V.agg [V.sl r15Seps_9, V.sl r15Kids_9, V.str r15High_9, V.int .i64 r15Next_9], V.agg [V.sl r32_4, V.sl r32_5, V.str r32_6, V.int .i64 r32_7]] fun r_25 =>
  kB r_25 fun r21_4 =>
  cond r21_4
 (cond (r31_8 == r32_8)
 (cond (r31_9 == r32_9)
 (pcK qcfg 22 [] fun r_26 =>
  kB r_26 fun r22 =>
  some (.done (V.bool r22)))
 (some (.done (V.bool false))))
 (some (.done (V.bool false))))
 (some (.done (V.bool false))))
 (some (.done (V.bool false))))
 (some (.done (V.bool false))))
 (some (.done (V.bool false))))
 (some (.done (V.bool false))))
 (some (.done (V.bool false))))
 (some (.done (V.bool false))))
 (some (.done (V.bool false))))
 (some (.done (V.bool false))))
 (some (.done (V.bool false)))
theorem e4_eq (a0Seps : List V) (a0Kids : List V) (a0High : List UInt8) (a0Next : Int) (a1 : List UInt8) (a20 : Int) (a21 : Int) : enterK qk false fa4 [V.agg [V.sl a0Seps, V.sl a0Kids, V.str a0High, V.int .i64 a0Next], V.str a1, V.agg [V.int .i64 a20, V.int .i64 a21]] [] = e4 a0Seps a0Kids a0High a0Next a1 a20 a21 := by kernel_rfl
theorem e4_run (a0Seps : List V) (a0Kids : List V) (a0High : List UInt8) (a0Next : Int) (a1 : List UInt8) (a20 : Int) (a21 : Int) {o : Out} {v : V} (h : e4 a0Seps a0Kids a0High a0Next a1 a20 a21 = some o) (hg : Go qk false 0 fa4 o (.done v)) : pcW qcfg 4 [V.agg [V.sl a0Seps, V.sl a0Kids, V.str a0High, V.int .i64 a0Next], V.str a1, V.agg [V.int .i64 a20, V.int .i64 a21]] = some v := pcW_go qik rfl fa4_eq ((e4_eq a0Seps a0Kids a0High a0Next a1 a20 a21).trans h) hg
theorem e4_done (a0Seps : List V) (a0Kids : List V) (a0High : List UInt8) (a0Next : Int) (a1 : List UInt8) (a20 : Int) (a21 : Int) {v : V} (h : e4 a0Seps a0Kids a0High a0Next a1 a20 a21 = some (.done v)) : pcW qcfg 4 [V.agg [V.sl a0Seps, V.sl a0Kids, V.str a0High, V.int .i64 a0Next], V.str a1, V.agg [V.int .i64 a20, V.int .i64 a21]] = some v := e4_run a0Seps a0Kids a0High a0Next a1 a20 a21 h (.refl _)
/-! ### budwood/budwoodlaw11.InnerBack -/
noncomputable def fa5 : FA := ⟨2, 112, [.tmp 4], [4],
 (.seq
 (.ops false [o1 2 (.box 25 (t' 0)) 0, o1 4 (.assign (.const (.bool false))) 4])
 (.seq
 (.ops false [o1 16 (.load 25 (t' 2)) 25, o1 17 (.call ⟨(.value (.func 10)), #[(t' 16)], #[25]⟩) 25, o0 (.store 25 (t' 2) (t' 17)) 0])
 (.seq
 (.ops false [mv 18 1 9, mv 19 1 9, o1 20 (.call ⟨(.builtin .len), #[(t' 19)], #[9]⟩) 3, o1 21 (.call ⟨(.builtin .min), #[(t' 20), (.const (.int .i64 (252)))], #[3, 3]⟩) 3, o1 22 (.slice 9 (t' 18) none (some (t' 21)) none) 9, asg 1 22 9])
 (.seq
 (.ops false [o1 23 (.load 25 (t' 2)) 25, o1 24 (.call ⟨(.value (.func 18)), #[(t' 23)], #[25]⟩) 9, asg 5 24 9])
 (.seq
 (.seq
 (.ops false [o1 25 (.load 25 (t' 2)) 25, o1 26 (.call ⟨(.value (.func 13)), #[(t' 25)], #[25]⟩) 4])
 (.cond (t' 26)
 (.seq
 (.seq
 (.ops false [mv 27 5 9, o1 28 (.call ⟨(.builtin .len), #[(t' 27)], #[9]⟩) 3, o1 29 (.load 25 (t' 2)) 25, o1 30 (.call ⟨(.value (.func 16)), #[(t' 29)], #[25]⟩) 3, o1 31 (.binOp .neq 3 (t' 28) (t' 30) 3) 4, mv 32 31 4, o2 33 (.move (t' 5)) 9 32 false, o2 34 (.call ⟨(.builtin .len), #[(t' 33)], #[9]⟩) 3 32 false, o2 35 (.binOp .gtr 3 (t' 34) (.const (.int .i64 (252))) 3) 4 32 false, o1 36 (.pick (t' 32) (.const (.bool true)) (t' 35)) 4])
 (.cond (t' 36)
 (.seq
 (.ops false [o1 4 (.assign (.const (.bool false))) 4])
 (.ret))
 (.skip)))
 (.seq
 (.ops false [mv 38 5 9, o1 39 (.call ⟨(.value (.func 33)), #[(t' 38), (.const (.int .i64 (252)))], #[9, 3]⟩) 59, mv 37 39 59, o1 40 (.extract (t' 37) 0) 9, o1 41 (.extract (t' 37) 1) 27, asg 6 40 9, asg 7 41 27])
 (.seq
 (.ops false [mv 43 5 9, o1 44 (.call ⟨(.value (.func 11)), #[(t' 43)], #[9]⟩) 28, mv 42 44 28, o1 45 (.extract (t' 42) 0) 25, o1 46 (.extract (t' 42) 1) 27, o1 8 (.alloc 25) 0, o0 (.store 25 (t' 8) (t' 45)) 0, asg 9 46 27])
 (.seq
 (.ops false [mv 48 6 9, o1 49 (.call ⟨(.value (.func 11)), #[(t' 48)], #[9]⟩) 28, mv 47 49 28, o1 50 (.extract (t' 47) 0) 25, o1 51 (.extract (t' 47) 1) 27, o1 10 (.alloc 25) 0, o0 (.store 25 (t' 10) (t' 50)) 0, asg 11 51 27])
 (.seq
 (.ops false [mv 52 9 27, o1 53 (.binOp .neq 27 (t' 52) (.const (.int .i64 (0))) 27) 4, mv 54 53 4, o2 55 (.move (t' 11)) 27 54 false, o2 56 (.binOp .neq 27 (t' 55) (.const (.int .i64 (0))) 27) 4 54 false, o1 57 (.pick (t' 54) (.const (.bool true)) (t' 56)) 4, mv 58 57 4, o2 59 (.load 25 (t' 8)) 25 58 false, o2 60 (.load 25 (t' 2)) 25 58 false, o2 61 (.call ⟨(.value (.func 20)), #[(t' 59), (t' 60)], #[25, 25]⟩) 4 58 false, o2 62 (.unOp .not 4 (t' 61)) 4 58 false, o1 63 (.pick (t' 58) (.const (.bool true)) (t' 62)) 4, mv 64 63 4, o2 65 (.load 25 (t' 10)) 25 64 false, o2 66 (.load 25 (t' 2)) 25 64 false, o2 67 (.call ⟨(.value (.func 20)), #[(t' 65), (t' 66)], #[25, 25]⟩) 4 64 false, o2 68 (.unOp .not 4 (t' 67)) 4 64 false, o1 69 (.pick (t' 64) (.const (.bool true)) (t' 68)) 4])
 (.cond (t' 69)
 (.seq
 (.ops false [o1 4 (.assign (.const (.bool false))) 4])
 (.ret))
 (.skip)))))))
 (.skip)))
 (.seq
 (.ops false [mv 71 1 9, o1 72 (.call ⟨(.value (.func 11)), #[(t' 71)], #[9]⟩) 28, mv 70 72 28, o1 73 (.extract (t' 70) 0) 25, o1 74 (.extract (t' 70) 1) 27, o1 12 (.alloc 25) 0, o0 (.store 25 (t' 12) (t' 73)) 0, asg 13 74 27])
 (.seq
 (.seq
 (.ops false [mv 75 13 27, o1 76 (.binOp .neq 27 (t' 75) (.const (.int .i64 (0))) 27) 4])
 (.cond (t' 76)
 (.seq
 (.ops false [o1 77 (.load 25 (t' 2)) 25, o1 78 (.call ⟨(.value (.func 13)), #[(t' 77)], #[25]⟩) 4, mv 79 78 4, o2 80 (.move (t' 5)) 9 79 false, o2 81 (.binOp .eql 9 (t' 80) (.const (.string ⟨⟨[]⟩⟩)) 9) 4 79 false, o1 82 (.pick (t' 79) (.const (.bool true)) (t' 81)) 4, mv 83 82 4, o2 84 (.call ⟨(.value (.func 22)), #[], #[]⟩) 4 83 true, o1 85 (.pick (t' 83) (t' 84) (.const (.bool false))) 4, asg 4 85 4])
 (.ret))
 (.skip)))
 (.seq
 (.ops false [o1 87 (.load 25 (t' 12)) 25, o1 88 (.call ⟨(.value (.func 18)), #[(t' 87)], #[25]⟩) 9, mv 89 1 9, o1 90 (.call ⟨(.builtin .len), #[(t' 89)], #[9]⟩) 3, o1 91 (.call ⟨(.value (.func 33)), #[(t' 88), (t' 90)], #[9, 3]⟩) 59, mv 86 91 59, o1 92 (.extract (t' 86) 0) 9, o1 93 (.extract (t' 86) 1) 27, asg 14 92 9, asg 15 93 27])
 (.seq
 (.ops false [o1 94 (.load 25 (t' 12)) 25, o1 95 (.call ⟨(.value (.func 13)), #[(t' 94)], #[25]⟩) 4, mv 96 95 4, o2 97 (.move (t' 14)) 9 96 true, o2 98 (.move (t' 1)) 9 96 true, o2 99 (.binOp .eql 9 (t' 97) (t' 98) 9) 4 96 true, o1 100 (.pick (t' 96) (t' 99) (.const (.bool false))) 4, mv 101 100 4, o2 102 (.load 25 (t' 2)) 25 101 true, o2 103 (.call ⟨(.value (.func 13)), #[(t' 102)], #[25]⟩) 4 101 true, o2 104 (.move (t' 103)) 4 101 true, o2 105 (.move (t' 5)) 9 104 false, o2 106 (.binOp .eql 9 (t' 105) (.const (.string ⟨⟨[]⟩⟩)) 9) 4 104 false, o2 107 (.pick (t' 104) (.const (.bool true)) (t' 106)) 4 101 true, o1 108 (.pick (t' 101) (t' 107) (.const (.bool false))) 4, mv 109 108 4, o2 110 (.call ⟨(.value (.func 22)), #[], #[]⟩) 4 109 true, o1 111 (.pick (t' 109) (t' 110) (.const (.bool false))) 4, asg 4 111 4])
 (.ret))))))))))⟩
theorem fa5_eq : fnA qcfg.P (qcfg.rxf 5) 5 = some fa5 := by kernel_rfl
noncomputable def e5 (a0Seps : List V) (a0Kids : List V) (a0High : List UInt8) (a0Next : Int) (a1 : List UInt8) : R :=
  pcK qcfg 10 [V.agg [V.sl a0Seps, V.sl a0Kids, V.str a0High, V.int .i64 a0Next]] fun r =>
  d25 r fun r10Seps r10Kids r10High r10Next =>
  gd (decide (0 ≤ (if 252 < (a1.length : Int) then 252 else (a1.length : Int)))) <|
  gd (decide ((if 252 < (a1.length : Int) then 252 else (a1.length : Int)).toNat ≤ a1.length)) <|
  pcK qcfg 18 [V.agg [V.sl r10Seps, V.sl r10Kids, V.str r10High, V.int .i64 r10Next]] fun r_1 =>
  kS r_1 fun r18 =>
  pcK qcfg 13 [V.agg [V.sl r10Seps, V.sl r10Kids, V.str r10High, V.int .i64 r10Next]] fun r_2 =>
  kB r_2 fun r13 =>
  cond r13
 (pcK qcfg 16 [V.agg [V.sl r10Seps, V.sl r10Kids, V.str r10High, V.int .i64 r10Next]] fun r_3 =>
  kI .i64 r_3 fun r16 =>
  cond ((r18.length : Int) != r16)
 (some (.done (V.bool false)))
 (cond (decide ((r18.length : Int) > 252))
 (some (.done (V.bool false)))
 (pcK qcfg 33 [V.str r18, V.int .i64 252] fun r_4 =>
  d59 r_4 fun r33_0 r33_1 =>
  pcK qcfg 11 [V.str r18] fun r_5 =>
  d28 r_5 fun r11_0 r11_1 r11_2 r11_3 r11_4 =>
  pcK qcfg 11 [V.str r33_0] fun r_6 =>
  d28 r_6 fun r11_0_1 r11_1_1 r11_2_1 r11_3_1 r11_4_1 =>
  cond (r11_4 != (0 : Int))
 (some (.done (V.bool false)))
 (cond (r11_4_1 != (0 : Int))
 (some (.done (V.bool false)))
 (pcK qcfg 20 [V.agg [V.sl r11_0, V.sl r11_1, V.str r11_2, V.int .i64 r11_3], V.agg [V.sl r10Seps, V.sl r10Kids, V.str r10High, V.int .i64 r10Next]] fun r_7 =>
  kB r_7 fun r20 =>
  cond (!r20)
 (some (.done (V.bool false)))
 (pcK qcfg 20 [V.agg [V.sl r11_0_1, V.sl r11_1_1, V.str r11_2_1, V.int .i64 r11_3_1], V.agg [V.sl r10Seps, V.sl r10Kids, V.str r10High, V.int .i64 r10Next]] fun r_8 =>
  kB r_8 fun r20_1 =>
  cond (!r20_1)
 (some (.done (V.bool false)))
 (pcK qcfg 11 [V.str (a1.take ((if 252 < (a1.length : Int) then 252 else (a1.length : Int)).toNat))] fun r_9 =>
  d28 r_9 fun r11_0_2 r11_1_2 r11_2_2 r11_3_2 r11_4_2 =>
  cond (r11_4_2 != (0 : Int))
 (pcK qcfg 13 [V.agg [V.sl r10Seps, V.sl r10Kids, V.str r10High, V.int .i64 r10Next]] fun r_10 =>
  kB r_10 fun r13_1 =>
  cond r13_1
 (pcK qcfg 22 [] fun r_11 =>
  kB r_11 fun r22 =>
  some (.done (V.bool r22)))
 (cond (r18 == [])
 (pcK qcfg 22 [] fun r_12 =>
  kB r_12 fun r22_1 =>
  some (.done (V.bool r22_1)))
 (some (.done (V.bool false)))))
 (pcK qcfg 18 [V.agg [V.sl r11_0_2, V.sl r11_1_2, V.str r11_2_2, V.int .i64 r11_3_2]] fun r_13 =>
  kS r_13 fun r18_1 =>
  pcK qcfg 33 [V.str r18_1, V.int .i64 ((a1.take ((if 252 < (a1.length : Int) then 252 else (a1.length : Int)).toNat)).length : Int)] fun r_14 =>
  d59 r_14 fun r33_0_1 r33_1_1 =>
  pcK qcfg 13 [V.agg [V.sl r11_0_2, V.sl r11_1_2, V.str r11_2_2, V.int .i64 r11_3_2]] fun r_15 =>
  kB r_15 fun r13_2 =>
  cond r13_2
 (cond (r33_0_1 == (a1.take ((if 252 < (a1.length : Int) then 252 else (a1.length : Int)).toNat)))
 (pcK qcfg 13 [V.agg [V.sl r10Seps, V.sl r10Kids, V.str r10High, V.int .i64 r10Next]] fun r_16 =>
  kB r_16 fun r13_3 =>
  cond r13_3
 (pcK qcfg 22 [] fun r_17 =>
  kB r_17 fun r22_2 =>
  some (.done (V.bool r22_2)))
 (cond (r18 == [])
 (pcK qcfg 22 [] fun r_18 =>
  kB r_18 fun r22_3 =>
  some (.done (V.bool r22_3)))
 (some (.done (V.bool false)))))
 (some (.done (V.bool false))))
 (some (.done (V.bool false)))))))))))
 (pcK qcfg 11 [V.str (a1.take ((if 252 < (a1.length : Int) then 252 else (a1.length : Int)).toNat))] fun r_19 =>
  d28 r_19 fun r11_0_3 r11_1_3 r11_2_3 r11_3_3 r11_4_3 =>
  cond (r11_4_3 != (0 : Int))
 (pcK qcfg 13 [V.agg [V.sl r10Seps, V.sl r10Kids, V.str r10High, V.int .i64 r10Next]] fun r_20 =>
  kB r_20 fun r13_4 =>
  cond r13_4
 (pcK qcfg 22 [] fun r_21 =>
  kB r_21 fun r22_4 =>
  some (.done (V.bool r22_4)))
 (cond (r18 == [])
 (pcK qcfg 22 [] fun r_22 =>
  kB r_22 fun r22_5 =>
  some (.done (V.bool r22_5)))
 (some (.done (V.bool false)))))
 (pcK qcfg 18 [V.agg [V.sl r11_0_3, V.sl r11_1_3, V.str r11_2_3, V.int .i64 r11_3_3]] fun r_23 =>
  kS r_23 fun r18_2 =>
  pcK qcfg 33 [V.str r18_2, V.int .i64 ((a1.take ((if 252 < (a1.length : Int) then 252 else (a1.length : Int)).toNat)).length : Int)] fun r_24 =>
  d59 r_24 fun r33_0_2 r33_1_2 =>
  pcK qcfg 13 [V.agg [V.sl r11_0_3, V.sl r11_1_3, V.str r11_2_3, V.int .i64 r11_3_3]] fun r_25 =>
  kB r_25 fun r13_5 =>
  cond r13_5
 (cond (r33_0_2 == (a1.take ((if 252 < (a1.length : Int) then 252 else (a1.length : Int)).toNat)))
 (pcK qcfg 13 [V.agg [V.sl r10Seps, V.sl r10Kids, V.str r10High, V.int .i64 r10Next]] fun r_26 =>
  kB r_26 fun r13_6 =>
  cond r13_6
 (pcK qcfg 22 [] fun r_27 =>
  kB r_27 fun r22_6 =>
  some (.done (V.bool r22_6)))
 (cond (r18 == [])
 (pcK qcfg 22 [] fun r_28 =>
  kB r_28 fun r22_7 =>
  some (.done (V.bool r22_7)))
 (some (.done (V.bool false)))))
 (some (.done (V.bool false))))
 (some (.done (V.bool false)))))
theorem e5_eq (a0Seps : List V) (a0Kids : List V) (a0High : List UInt8) (a0Next : Int) (a1 : List UInt8) : enterK qk false fa5 [V.agg [V.sl a0Seps, V.sl a0Kids, V.str a0High, V.int .i64 a0Next], V.str a1] [] = e5 a0Seps a0Kids a0High a0Next a1 := by kernel_rfl
theorem e5_run (a0Seps : List V) (a0Kids : List V) (a0High : List UInt8) (a0Next : Int) (a1 : List UInt8) {o : Out} {v : V} (h : e5 a0Seps a0Kids a0High a0Next a1 = some o) (hg : Go qk false 0 fa5 o (.done v)) : pcW qcfg 5 [V.agg [V.sl a0Seps, V.sl a0Kids, V.str a0High, V.int .i64 a0Next], V.str a1] = some v := pcW_go qik rfl fa5_eq ((e5_eq a0Seps a0Kids a0High a0Next a1).trans h) hg
theorem e5_done (a0Seps : List V) (a0Kids : List V) (a0High : List UInt8) (a0Next : Int) (a1 : List UInt8) {v : V} (h : e5 a0Seps a0Kids a0High a0Next a1 = some (.done v)) : pcW qcfg 5 [V.agg [V.sl a0Seps, V.sl a0Kids, V.str a0High, V.int .i64 a0Next], V.str a1] = some v := e5_run a0Seps a0Kids a0High a0Next a1 h (.refl _)
/-! ### budwood/budwoodlaw11.InnerLeads -/
noncomputable def fa6 : FA := ⟨3, 154, [.tmp 6], [4],
 (.seq
 (.ops false [o1 3 (.box 25 (t' 0)) 0, o1 4 (.box 62 (t' 1)) 0, o1 6 (.assign (.const (.bool false))) 4])
 (.seq
 (.ops false [o1 20 (.load 25 (t' 3)) 25, o1 21 (.call ⟨(.value (.func 10)), #[(t' 20)], #[25]⟩) 25, o0 (.store 25 (t' 3) (t' 21)) 0])
 (.seq
 (.ops true [o1 22 (.indexAddr 62 (t' 4) (.const (.int .i64 (0)))) 0, o1 23 (.load 9 (t' 22)) 9, o1 24 (.indexAddr 62 (t' 4) (.const (.int .i64 (0)))) 0, o1 25 (.load 9 (t' 24)) 9, o1 26 (.call ⟨(.builtin .len), #[(t' 25)], #[9]⟩) 3, o1 27 (.call ⟨(.builtin .min), #[(t' 26), (.const (.int .i64 (40)))], #[3, 3]⟩) 3, o1 28 (.slice 9 (t' 23) none (some (t' 27)) none) 9, o1 29 (.indexAddr 62 (t' 4) (.const (.int .i64 (1)))) 0, o1 30 (.load 9 (t' 29)) 9, o1 31 (.indexAddr 62 (t' 4) (.const (.int .i64 (1)))) 0, o1 32 (.load 9 (t' 31)) 9, o1 33 (.call ⟨(.builtin .len), #[(t' 32)], #[9]⟩) 3, o1 34 (.call ⟨(.builtin .min), #[(t' 33), (.const (.int .i64 (40)))], #[3, 3]⟩) 3, o1 35 (.slice 9 (t' 30) none (some (t' 34)) none) 9, asg 7 28 9, asg 8 35 9])
 (.seq
 (.ops false [mv 36 2 3, o1 37 (.binOp .and 3 (t' 36) (.const (.int .i64 (1023))) 3) 3, asg 9 37 3])
 (.seq
 (.ops false [o1 39 (.load 25 (t' 3)) 25, mv 40 8 9, o1 41 (.call ⟨(.value (.func 23)), #[(t' 39), (t' 40)], #[25, 9]⟩) 45, mv 38 41 45, o1 42 (.extract (t' 38) 0) 3, o1 43 (.extract (t' 38) 1) 27, asg 10 42 3, asg 11 43 27])
 (.seq
 (.ops false [o1 45 (.load 25 (t' 3)) 25, mv 46 7 9, o1 47 (.call ⟨(.value (.func 23)), #[(t' 45), (t' 46)], #[25, 9]⟩) 45, mv 44 47 45, o1 48 (.extract (t' 44) 0) 3, o1 49 (.extract (t' 44) 1) 27, asg 12 48 3, asg 13 49 27])
 (.seq
 (.ops false [o1 51 (.load 25 (t' 3)) 25, mv 52 7 9, mv 53 9 3, o1 54 (.call ⟨(.value (.func 25)), #[(t' 51), (t' 52), (t' 53)], #[25, 9, 3]⟩) 28, mv 50 54 28, o1 55 (.extract (t' 50) 0) 25, o1 56 (.extract (t' 50) 1) 27, o1 14 (.alloc 25) 0, o0 (.store 25 (t' 14) (t' 55)) 0, asg 15 56 27])
 (.seq
 (.seq
 (.ops false [mv 57 11 27, o1 58 (.binOp .neq 27 (t' 57) (.const (.int .i64 (0))) 27) 4, mv 59 58 4, o2 60 (.move (t' 13)) 27 59 false, o2 61 (.binOp .neq 27 (t' 60) (.const (.int .i64 (0))) 27) 4 59 false, o1 62 (.pick (t' 59) (.const (.bool true)) (t' 61)) 4, mv 63 62 4, o2 64 (.move (t' 15)) 27 63 false, o2 65 (.binOp .neq 27 (t' 64) (.const (.int .i64 (0))) 27) 4 63 false, o1 66 (.pick (t' 63) (.const (.bool true)) (t' 65)) 4])
 (.cond (t' 66)
 (.seq
 (.ops false [o1 67 (.call ⟨(.value (.func 22)), #[], #[]⟩) 4, asg 6 67 4])
 (.ret))
 (.skip)))
 (.seq
 (.ops false [o1 69 (.load 25 (t' 14)) 25, mv 70 8 9, o1 71 (.call ⟨(.value (.func 23)), #[(t' 69), (t' 70)], #[25, 9]⟩) 45, mv 68 71 45, o1 72 (.extract (t' 68) 0) 3, o1 73 (.extract (t' 68) 1) 27, asg 16 72 3, asg 17 73 27])
 (.seq
 (.seq
 (.ops false [mv 74 17 27, o1 75 (.binOp .neq 27 (t' 74) (.const (.int .i64 (0))) 27) 4, mv 76 75 4, o2 77 (.move (t' 16)) 3 76 false, o2 78 (.move (t' 10)) 3 76 false, o2 79 (.move (t' 12)) 3 76 false, o2 80 (.call ⟨(.builtin .min), #[(t' 77), (t' 78), (t' 79)], #[3, 3, 3]⟩) 3 76 false, o2 81 (.binOp .lss 3 (t' 80) (.const (.int .i64 (0))) 3) 4 76 false, o1 82 (.pick (t' 76) (.const (.bool true)) (t' 81)) 4, mv 83 82 4, o2 84 (.move (t' 16)) 3 83 false, o2 85 (.fieldAddr 25 (t' 14) 1) 0 83 false, o2 86 (.load 23 (t' 85)) 23 83 false, o2 87 (.call ⟨(.builtin .len), #[(t' 86)], #[23]⟩) 3 83 false, o2 88 (.binOp .geq 3 (t' 84) (t' 87) 3) 4 83 false, o1 89 (.pick (t' 83) (.const (.bool true)) (t' 88)) 4, mv 90 89 4, o2 91 (.move (t' 10)) 3 90 false, o2 92 (.fieldAddr 25 (t' 3) 1) 0 90 false, o2 93 (.load 23 (t' 92)) 23 90 false, o2 94 (.call ⟨(.builtin .len), #[(t' 93)], #[23]⟩) 3 90 false, o2 95 (.binOp .geq 3 (t' 91) (t' 94) 3) 4 90 false, o1 96 (.pick (t' 90) (.const (.bool true)) (t' 95)) 4, mv 97 96 4, o2 98 (.move (t' 12)) 3 97 false, o2 99 (.fieldAddr 25 (t' 3) 1) 0 97 false, o2 100 (.load 23 (t' 99)) 23 97 false, o2 101 (.call ⟨(.builtin .len), #[(t' 100)], #[23]⟩) 3 97 false, o2 102 (.binOp .geq 3 (t' 98) (t' 101) 3) 4 97 false, o1 103 (.pick (t' 97) (.const (.bool true)) (t' 102)) 4])
 (.cond (t' 103)
 (.seq
 (.ops false [o1 6 (.assign (.const (.bool false))) 4])
 (.ret))
 (.skip)))
 (.seq
 (.seq
 (.ops false [mv 104 10 3, mv 105 12 3, o1 106 (.binOp .eql 3 (t' 104) (t' 105) 3) 4, mv 107 106 4, o2 108 (.move (t' 8)) 9 107 true, o2 109 (.move (t' 7)) 9 107 true, o2 110 (.call ⟨(.value (.func 34)), #[(t' 108), (t' 109)], #[9, 9]⟩) 4 107 true, o2 111 (.unOp .not 4 (t' 110)) 4 107 true, o1 112 (.pick (t' 107) (t' 111) (.const (.bool false))) 4])
 (.cond (t' 112)
 (.seq
 (.ops false [o1 113 (.fieldAddr 25 (t' 14) 1) 0, o1 114 (.load 23 (t' 113)) 23, mv 115 16 3, o1 116 (.indexAddr 23 (t' 114) (t' 115)) 0, o1 117 (.load 3 (t' 116)) 3, mv 118 9 3, o1 119 (.binOp .neq 3 (t' 117) (t' 118) 3) 4, mv 120 119 4, o2 121 (.move (t' 16)) 3 120 false, o2 122 (.move (t' 12)) 3 120 false, o2 123 (.binOp .add 3 (t' 122) (.const (.int .i64 (1))) 3) 3 120 false, o2 124 (.binOp .neq 3 (t' 121) (t' 123) 3) 4 120 false, o1 125 (.pick (t' 120) (.const (.bool true)) (t' 124)) 4])
 (.cond (t' 125)
 (.seq
 (.ops false [o1 6 (.assign (.const (.bool false))) 4])
 (.ret))
 (.skip)))
 (.seq
 (.ops true [o1 126 (.fieldAddr 25 (t' 14) 1) 0, o1 127 (.load 23 (t' 126)) 23, mv 128 16 3, o1 129 (.indexAddr 23 (t' 127) (t' 128)) 0, o1 130 (.load 3 (t' 129)) 3, o1 131 (.fieldAddr 25 (t' 3) 1) 0, o1 132 (.load 23 (t' 131)) 23, mv 133 10 3, o1 134 (.indexAddr 23 (t' 132) (t' 133)) 0, o1 135 (.load 3 (t' 134)) 3, o1 136 (.binOp .neq 3 (t' 130) (t' 135) 3) 4])
 (.cond (t' 136)
 (.seq
 (.ops false [o1 6 (.assign (.const (.bool false))) 4])
 (.ret))
 (.skip)))))
 (.seq
 (.ops false [o1 138 (.load 25 (t' 14)) 25, mv 139 12 3, o1 140 (.binOp .add 3 (t' 139) (.const (.int .i64 (1))) 3) 3, o1 141 (.call ⟨(.value (.func 27)), #[(t' 138), (t' 140)], #[25, 3]⟩) 28, mv 137 141 28, o1 142 (.extract (t' 137) 0) 25, o1 143 (.extract (t' 137) 1) 27, o1 18 (.alloc 25) 0, o0 (.store 25 (t' 18) (t' 142)) 0, asg 19 143 27])
 (.seq
 (.ops false [mv 144 19 27, o1 145 (.binOp .eql 27 (t' 144) (.const (.int .i64 (0))) 27) 4, mv 146 145 4, o2 147 (.load 25 (t' 18)) 25 146 true, o2 148 (.load 25 (t' 3)) 25 146 true, o2 149 (.call ⟨(.value (.func 20)), #[(t' 147), (t' 148)], #[25, 25]⟩) 4 146 true, o1 150 (.pick (t' 146) (t' 149) (.const (.bool false))) 4, mv 151 150 4, o2 152 (.call ⟨(.value (.func 22)), #[], #[]⟩) 4 151 true, o1 153 (.pick (t' 151) (t' 152) (.const (.bool false))) 4, asg 6 153 4])
 (.ret))))))))))))))⟩
theorem fa6_eq : fnA qcfg.P (qcfg.rxf 6) 6 = some fa6 := by kernel_rfl
noncomputable def e6 (a0Seps : List V) (a0Kids : List V) (a0High : List UInt8) (a0Next : Int) (a10 : List UInt8) (a11 : List UInt8) (a2 : Int) : R :=
  pcK qcfg 10 [V.agg [V.sl a0Seps, V.sl a0Kids, V.str a0High, V.int .i64 a0Next]] fun r =>
  d25 r fun r10Seps r10Kids r10High r10Next =>
  gd (decide (0 ≤ (if 40 < (a10.length : Int) then 40 else (a10.length : Int)))) <|
  gd (decide ((if 40 < (a10.length : Int) then 40 else (a10.length : Int)).toNat ≤ a10.length)) <|
  gd (decide (0 ≤ (if 40 < (a11.length : Int) then 40 else (a11.length : Int)))) <|
  gd (decide ((if 40 < (a11.length : Int) then 40 else (a11.length : Int)).toNat ≤ a11.length)) <|
  pcK qcfg 23 [V.agg [V.sl r10Seps, V.sl r10Kids, V.str r10High, V.int .i64 r10Next], V.str (a11.take ((if 40 < (a11.length : Int) then 40 else (a11.length : Int)).toNat))] fun r_1 =>
  d45 r_1 fun r23_0 r23_1 =>
  pcK qcfg 23 [V.agg [V.sl r10Seps, V.sl r10Kids, V.str r10High, V.int .i64 r10Next], V.str (a10.take ((if 40 < (a10.length : Int) then 40 else (a10.length : Int)).toNat))] fun r_2 =>
  d45 r_2 fun r23_0_1 r23_1_1 =>
  pcK qcfg 25 [V.agg [V.sl r10Seps, V.sl r10Kids, V.str r10High, V.int .i64 r10Next], V.str (a10.take ((if 40 < (a10.length : Int) then 40 else (a10.length : Int)).toNat)), V.int .i64 (W .i64 (((BitVec.ofInt (IntKind.bits .i64) a2 &&& BitVec.ofInt (IntKind.bits .i64) 1023).toNat : Int)))] fun r_3 =>
  d28 r_3 fun r25_0 r25_1 r25_2 r25_3 r25_4 =>
  cond (r23_1 != (0 : Int))
 (pcK qcfg 22 [] fun r_4 =>
  kB r_4 fun r22 =>
  some (.done (V.bool r22)))
 (cond (r23_1_1 != (0 : Int))
 (pcK qcfg 22 [] fun r_5 =>
  kB r_5 fun r22_1 =>
  some (.done (V.bool r22_1)))
 (cond (r25_4 != (0 : Int))
 (pcK qcfg 22 [] fun r_6 =>
  kB r_6 fun r22_2 =>
  some (.done (V.bool r22_2)))
 (pcK qcfg 23 [V.agg [V.sl r25_0, V.sl r25_1, V.str r25_2, V.int .i64 r25_3], V.str (a11.take ((if 40 < (a11.length : Int) then 40 else (a11.length : Int)).toNat))] fun r_7 =>
  d45 r_7 fun r23_0_2 r23_1_2 =>
  cond (r23_1_2 != (0 : Int))
 (some (.done (V.bool false)))
 (cond (decide ((if r23_0_1 < (if r23_0 < r23_0_2 then r23_0 else r23_0_2) then r23_0_1 else (if r23_0 < r23_0_2 then r23_0 else r23_0_2)) < 0))
 (some (.done (V.bool false)))
 (cond (decide (r23_0_2 ≥ (r25_1.length : Int)))
 (some (.done (V.bool false)))
 (cond (decide (r23_0 ≥ (r10Kids.length : Int)))
 (some (.done (V.bool false)))
 (cond (decide (r23_0_1 ≥ (r10Kids.length : Int)))
 (some (.done (V.bool false)))
 (cond (r23_0 == r23_0_1)
 (pcK qcfg 34 [V.str (a11.take ((if 40 < (a11.length : Int) then 40 else (a11.length : Int)).toNat)), V.str (a10.take ((if 40 < (a10.length : Int) then 40 else (a10.length : Int)).toNat))] fun r_8 =>
  kB r_8 fun r34 =>
  cond (!r34)
 (gd (decide (0 ≤ r23_0_2)) <|
  idxK r25_1 r23_0_2.toNat fun v =>
  kI .i64 v fun n =>
  cond (n != (W .i64 (((BitVec.ofInt (IntKind.bits .i64) a2 &&& BitVec.ofInt (IntKind.bits .i64) 1023).toNat : Int))))
 (some (.done (V.bool false)))
 (cond (r23_0_2 != (W .i64 (r23_0_1 + 1)))
 (some (.done (V.bool false)))
 (pcK qcfg 27 [V.agg [V.sl r25_0, V.sl r25_1, V.str r25_2, V.int .i64 r25_3], V.int .i64 (W .i64 (r23_0_1 + 1))] fun r_9 =>
  d28 r_9 fun r27_0 r27_1 r27_2 r27_3 r27_4 =>
  cond (r27_4 == (0 : Int))
 (pcK qcfg 20 [V.agg [V.sl r27_0, V.sl r27_1, V.str r27_2, V.int .i64 r27_3], V.agg [V.sl r10Seps, V.sl r10Kids, V.str r10High, V.int .i64 r10Next]] fun r_10 =>
  kB r_10 fun r20 =>
  cond r20
 (pcK qcfg 22 [] fun r_11 =>
  kB r_11 fun r22_3 =>
  some (.done (V.bool r22_3)))
 (some (.done (V.bool false))))
 (some (.done (V.bool false))))))
 (gd (decide (0 ≤ r23_0_2)) <|
  idxK r25_1 r23_0_2.toNat fun v_1 =>
  kI .i64 v_1 fun n_1 =>
  gd (decide (0 ≤ r23_0)) <|
  idxK r10Kids r23_0.toNat fun v_2 =>
  kI .i64 v_2 fun n_2 =>
  cond (n_1 != n_2)
 (some (.done (V.bool false)))
 (pcK qcfg 27 [V.agg [V.sl r25_0, V.sl r25_1, V.str r25_2, V.int .i64 r25_3], V.int .i64 (W .i64 (r23_0_1 + 1))] fun r_12 =>
  d28 r_12 fun r27_0_1 r27_1_1 r27_2_1 r27_3_1 r27_4_1 =>
  cond (r27_4_1 == (0 : Int))
 (pcK qcfg 20 [V.agg [V.sl r27_0_1, V.sl r27_1_1, V.str r27_2_1, V.int .i64 r27_3_1], V.agg [V.sl r10Seps, V.sl r10Kids, V.str r10High, V.int .i64 r10Next]] fun r_13 =>
  kB r_13 fun r20_1 =>
  cond r20_1
 (pcK qcfg 22 [] fun r_14 =>
  kB r_14 fun r22_4 =>
  some (.done (V.bool r22_4)))
 (some (.done (V.bool false))))
 (some (.done (V.bool false))))))
 (gd (decide (0 ≤ r23_0_2)) <|
  idxK r25_1 r23_0_2.toNat fun v_3 =>
  kI .i64 v_3 fun n_3 =>
  gd (decide (0 ≤ r23_0)) <|
  idxK r10Kids r23_0.toNat fun v_4 =>
  kI .i64 v_4 fun n_4 =>
  cond (n_3 != n_4)
 (some (.done (V.bool false)))
 (pcK qcfg 27 [V.agg [V.sl r25_0, V.sl r25_1, V.str r25_2, V.int .i64 r25_3], V.int .i64 (W .i64 (r23_0_1 + 1))] fun r_15 =>
  d28 r_15 fun r27_0_2 r27_1_2 r27_2_2 r27_3_2 r27_4_2 =>
  cond (r27_4_2 == (0 : Int))
 (pcK qcfg 20 [V.agg [V.sl r27_0_2, V.sl r27_1_2, V.str r27_2_2, V.int .i64 r27_3_2], V.agg [V.sl r10Seps, V.sl r10Kids, V.str r10High, V.int .i64 r10Next]] fun r_16 =>
  kB r_16 fun r20_2 =>
  cond r20_2
 (pcK qcfg 22 [] fun r_17 =>
  kB r_17 fun r22_5 =>
  some (.done (V.bool r22_5)))
 (some (.done (V.bool false))))
 (some (.done (V.bool false)))))))))))))
theorem e6_eq (a0Seps : List V) (a0Kids : List V) (a0High : List UInt8) (a0Next : Int) (a10 : List UInt8) (a11 : List UInt8) (a2 : Int) : enterK qk false fa6 [V.agg [V.sl a0Seps, V.sl a0Kids, V.str a0High, V.int .i64 a0Next], V.agg [V.str a10, V.str a11], V.int .i64 a2] [] = e6 a0Seps a0Kids a0High a0Next a10 a11 a2 := by kernel_rfl
theorem e6_run (a0Seps : List V) (a0Kids : List V) (a0High : List UInt8) (a0Next : Int) (a10 : List UInt8) (a11 : List UInt8) (a2 : Int) {o : Out} {v : V} (h : e6 a0Seps a0Kids a0High a0Next a10 a11 a2 = some o) (hg : Go qk false 0 fa6 o (.done v)) : pcW qcfg 6 [V.agg [V.sl a0Seps, V.sl a0Kids, V.str a0High, V.int .i64 a0Next], V.agg [V.str a10, V.str a11], V.int .i64 a2] = some v := pcW_go qik rfl fa6_eq ((e6_eq a0Seps a0Kids a0High a0Next a10 a11 a2).trans h) hg
theorem e6_done (a0Seps : List V) (a0Kids : List V) (a0High : List UInt8) (a0Next : Int) (a10 : List UInt8) (a11 : List UInt8) (a2 : Int) {v : V} (h : e6 a0Seps a0Kids a0High a0Next a10 a11 a2 = some (.done v)) : pcW qcfg 6 [V.agg [V.sl a0Seps, V.sl a0Kids, V.str a0High, V.int .i64 a0Next], V.agg [V.str a10, V.str a11], V.int .i64 a2] = some v := e6_run a0Seps a0Kids a0High a0Next a10 a11 a2 h (.refl _)
/-! ### budwood/budwoodlaw11.InnerSplits -/
noncomputable def fa7 : FA := ⟨3, 157, [.tmp 6], [4],
 (.seq
 (.ops false [o1 3 (.box 25 (t' 0)) 0, o1 6 (.assign (.const (.bool false))) 4])
 (.seq
 (.ops false [o1 16 (.load 25 (t' 3)) 25, o1 17 (.call ⟨(.value (.func 10)), #[(t' 16)], #[25]⟩) 25, o0 (.store 25 (t' 3) (t' 17)) 0])
 (.seq
 (.ops false [mv 18 1 9, mv 19 1 9, o1 20 (.call ⟨(.builtin .len), #[(t' 19)], #[9]⟩) 3, o1 21 (.call ⟨(.builtin .min), #[(t' 20), (.const (.int .i64 (40)))], #[3, 3]⟩) 3, o1 22 (.slice 9 (t' 18) none (some (t' 21)) none) 9, asg 1 22 9])
 (.seq
 (.ops false [o1 24 (.load 25 (t' 3)) 25, mv 25 2 3, o1 26 (.binOp .and 3 (t' 25) (.const (.int .i64 (1023))) 3) 3, o1 27 (.call ⟨(.value (.func 31)), #[(t' 24), (t' 26)], #[25, 3]⟩) 54, mv 23 27 54, o1 28 (.extract (t' 23) 0) 25, o1 29 (.extract (t' 23) 1) 25, o1 30 (.extract (t' 23) 2) 9, o1 31 (.extract (t' 23) 3) 27, o1 7 (.alloc 25) 0, o1 8 (.alloc 25) 0, o0 (.store 25 (t' 7) (t' 28)) 0, o0 (.store 25 (t' 8) (t' 29)) 0, asg 9 30 9, asg 10 31 27])
 (.seq
 (.seq
 (.ops false [o1 32 (.load 25 (t' 3)) 25, o1 33 (.call ⟨(.value (.func 13)), #[(t' 32)], #[25]⟩) 4, o1 34 (.unOp .not 4 (t' 33)) 4, mv 35 34 4, o2 36 (.fieldAddr 25 (t' 3) 1) 0 35 false, o2 37 (.load 23 (t' 36)) 23 35 false, o2 38 (.call ⟨(.builtin .len), #[(t' 37)], #[23]⟩) 3 35 false, o2 39 (.binOp .lss 3 (t' 38) (.const (.int .i64 (3))) 3) 4 35 false, o1 40 (.pick (t' 35) (.const (.bool true)) (t' 39)) 4])
 (.cond (t' 40)
 (.seq
 (.ops false [mv 41 10 27, o1 42 (.binOp .eql 27 (t' 41) (.const (.int .i64 (1))) 27) 4, mv 43 42 4, o2 44 (.call ⟨(.value (.func 22)), #[], #[]⟩) 4 43 true, o1 45 (.pick (t' 43) (t' 44) (.const (.bool false))) 4, asg 6 45 4])
 (.ret))
 (.skip)))
 (.seq
 (.seq
 (.ops false [mv 46 10 27, o1 47 (.binOp .neq 27 (t' 46) (.const (.int .i64 (0))) 27) 4, mv 48 47 4, o2 49 (.load 25 (t' 7)) 25 48 false, o2 50 (.call ⟨(.value (.func 13)), #[(t' 49)], #[25]⟩) 4 48 false, o2 51 (.unOp .not 4 (t' 50)) 4 48 false, o1 52 (.pick (t' 48) (.const (.bool true)) (t' 51)) 4, mv 53 52 4, o2 54 (.load 25 (t' 8)) 25 53 false, o2 55 (.call ⟨(.value (.func 13)), #[(t' 54)], #[25]⟩) 4 53 false, o2 56 (.unOp .not 4 (t' 55)) 4 53 false, o1 57 (.pick (t' 53) (.const (.bool true)) (t' 56)) 4, mv 58 57 4, o2 59 (.fieldAddr 25 (t' 7) 1) 0 58 false, o2 60 (.load 23 (t' 59)) 23 58 false, o2 61 (.call ⟨(.builtin .len), #[(t' 60)], #[23]⟩) 3 58 false, o2 62 (.fieldAddr 25 (t' 8) 1) 0 58 false, o2 63 (.load 23 (t' 62)) 23 58 false, o2 64 (.call ⟨(.builtin .len), #[(t' 63)], #[23]⟩) 3 58 false, o2 65 (.binOp .add 3 (t' 61) (t' 64) 3) 3 58 false, o2 66 (.fieldAddr 25 (t' 3) 1) 0 58 false, o2 67 (.load 23 (t' 66)) 23 58 false, o2 68 (.call ⟨(.builtin .len), #[(t' 67)], #[23]⟩) 3 58 false, o2 69 (.binOp .neq 3 (t' 65) (t' 68) 3) 4 58 false, o1 70 (.pick (t' 58) (.const (.bool true)) (t' 69)) 4, mv 71 70 4, o2 72 (.fieldAddr 25 (t' 7) 2) 0 71 false, o2 73 (.load 9 (t' 72)) 9 71 false, o2 74 (.move (t' 9)) 9 71 false, o2 75 (.binOp .neq 9 (t' 73) (t' 74) 9) 4 71 false, o1 76 (.pick (t' 71) (.const (.bool true)) (t' 75)) 4, mv 77 76 4, o2 78 (.fieldAddr 25 (t' 7) 3) 0 77 false, o2 79 (.load 3 (t' 78)) 3 77 false, o2 80 (.move (t' 2)) 3 77 false, o2 81 (.binOp .and 3 (t' 80) (.const (.int .i64 (1023))) 3) 3 77 false, o2 82 (.binOp .add 3 (t' 81) (.const (.int .i64 (1))) 3) 3 77 false, o2 83 (.binOp .neq 3 (t' 79) (t' 82) 3) 4 77 false, o1 84 (.pick (t' 77) (.const (.bool true)) (t' 83)) 4, mv 85 84 4, o2 86 (.fieldAddr 25 (t' 8) 2) 0 85 false, o2 87 (.load 9 (t' 86)) 9 85 false, o2 88 (.fieldAddr 25 (t' 3) 2) 0 85 false, o2 89 (.load 9 (t' 88)) 9 85 false, o2 90 (.binOp .neq 9 (t' 87) (t' 89) 9) 4 85 false, o1 91 (.pick (t' 85) (.const (.bool true)) (t' 90)) 4, mv 92 91 4, o2 93 (.fieldAddr 25 (t' 8) 3) 0 92 false, o2 94 (.load 3 (t' 93)) 3 92 false, o2 95 (.fieldAddr 25 (t' 3) 3) 0 92 false, o2 96 (.load 3 (t' 95)) 3 92 false, o2 97 (.binOp .neq 3 (t' 94) (t' 96) 3) 4 92 false, o1 98 (.pick (t' 92) (.const (.bool true)) (t' 97)) 4])
 (.cond (t' 98)
 (.seq
 (.ops false [o1 6 (.assign (.const (.bool false))) 4])
 (.ret))
 (.skip)))
 (.seq
 (.ops false [o1 100 (.load 25 (t' 3)) 25, mv 101 1 9, o1 102 (.call ⟨(.value (.func 23)), #[(t' 100), (t' 101)], #[25, 9]⟩) 45, mv 99 102 45, o1 103 (.extract (t' 99) 0) 3, o1 104 (.extract (t' 99) 1) 27, asg 11 103 3, asg 12 104 27])
 (.seq
 (.seq
 (.ops false [mv 105 12 27, o1 106 (.binOp .neq 27 (t' 105) (.const (.int .i64 (0))) 27) 4])
 (.cond (t' 106)
 (.seq
 (.ops false [o1 107 (.call ⟨(.value (.func 22)), #[], #[]⟩) 4, asg 6 107 4])
 (.ret))
 (.skip)))
 (.seq
 (.ops false [o1 108 (.load 25 (t' 8)) 25, o1 13 (.alloc 25) 0, o0 (.store 25 (t' 13) (t' 108)) 0])
 (.seq
 (.seq
 (.ops false [mv 109 1 9, mv 110 9 9, o1 111 (.call ⟨(.value (.func 34)), #[(t' 109), (t' 110)], #[9, 9]⟩) 4])
 (.cond (t' 111)
 (.ops false [o1 112 (.load 25 (t' 7)) 25, o0 (.store 25 (t' 13) (t' 112)) 0])
 (.skip)))
 (.seq
 (.ops false [o1 114 (.load 25 (t' 13)) 25, mv 115 1 9, o1 116 (.call ⟨(.value (.func 23)), #[(t' 114), (t' 115)], #[25, 9]⟩) 45, mv 113 116 45, o1 117 (.extract (t' 113) 0) 3, o1 118 (.extract (t' 113) 1) 27, asg 14 117 3, asg 15 118 27])
 (.seq
 (.ops true [mv 119 15 27, o1 120 (.binOp .eql 27 (t' 119) (.const (.int .i64 (0))) 27) 4, mv 121 120 4, o2 122 (.move (t' 14)) 3 121 true, o2 123 (.move (t' 11)) 3 121 true, o2 124 (.call ⟨(.builtin .min), #[(t' 122), (t' 123)], #[3, 3]⟩) 3 121 true, o2 125 (.binOp .geq 3 (t' 124) (.const (.int .i64 (0))) 3) 4 121 true, o1 126 (.pick (t' 121) (t' 125) (.const (.bool false))) 4, mv 127 126 4, o2 128 (.move (t' 14)) 3 127 true, o2 129 (.fieldAddr 25 (t' 13) 1) 0 127 true, o2 130 (.load 23 (t' 129)) 23 127 true, o2 131 (.call ⟨(.builtin .len), #[(t' 130)], #[23]⟩) 3 127 true, o2 132 (.binOp .lss 3 (t' 128) (t' 131) 3) 4 127 true, o1 133 (.pick (t' 127) (t' 132) (.const (.bool false))) 4, mv 134 133 4, o2 135 (.move (t' 11)) 3 134 true, o2 136 (.fieldAddr 25 (t' 3) 1) 0 134 true, o2 137 (.load 23 (t' 136)) 23 134 true, o2 138 (.call ⟨(.builtin .len), #[(t' 137)], #[23]⟩) 3 134 true, o2 139 (.binOp .lss 3 (t' 135) (t' 138) 3) 4 134 true, o1 140 (.pick (t' 134) (t' 139) (.const (.bool false))) 4, mv 141 140 4, o2 142 (.fieldAddr 25 (t' 13) 1) 0 141 true, o2 143 (.load 23 (t' 142)) 23 141 true, o2 144 (.move (t' 14)) 3 141 true, o2 145 (.indexAddr 23 (t' 143) (t' 144)) 0 141 true, o2 146 (.load 3 (t' 145)) 3 141 true, o2 147 (.fieldAddr 25 (t' 3) 1) 0 141 true, o2 148 (.load 23 (t' 147)) 23 141 true, o2 149 (.move (t' 11)) 3 141 true, o2 150 (.indexAddr 23 (t' 148) (t' 149)) 0 141 true, o2 151 (.load 3 (t' 150)) 3 141 true, o2 152 (.binOp .eql 3 (t' 146) (t' 151) 3) 4 141 true, o1 153 (.pick (t' 141) (t' 152) (.const (.bool false))) 4, mv 154 153 4, ⟨(some 155), .call ⟨(.value (.func 22)), #[], #[]⟩, 4, (some (154, true)), false, true, false⟩, o1 156 (.pick (t' 154) (t' 155) (.const (.bool false))) 4, asg 6 156 4])
 (.ret)))))))))))))⟩
theorem fa7_eq : fnA qcfg.P (qcfg.rxf 7) 7 = some fa7 := by kernel_rfl
noncomputable def e7 (a0Seps : List V) (a0Kids : List V) (a0High : List UInt8) (a0Next : Int) (a1 : List UInt8) (a2 : Int) : R :=
  pcK qcfg 10 [V.agg [V.sl a0Seps, V.sl a0Kids, V.str a0High, V.int .i64 a0Next]] fun r =>
  d25 r fun r10Seps r10Kids r10High r10Next =>
  gd (decide (0 ≤ (if 40 < (a1.length : Int) then 40 else (a1.length : Int)))) <|
  gd (decide ((if 40 < (a1.length : Int) then 40 else (a1.length : Int)).toNat ≤ a1.length)) <|
  pcK qcfg 31 [V.agg [V.sl r10Seps, V.sl r10Kids, V.str r10High, V.int .i64 r10Next], V.int .i64 (W .i64 (((BitVec.ofInt (IntKind.bits .i64) a2 &&& BitVec.ofInt (IntKind.bits .i64) 1023).toNat : Int)))] fun r_1 =>
  d54 r_1 fun r31_0 r31_1 r31_2 r31_3 r31_4 r31_5 r31_6 r31_7 r31_8 r31_9 =>
  pcK qcfg 13 [V.agg [V.sl r10Seps, V.sl r10Kids, V.str r10High, V.int .i64 r10Next]] fun r_2 =>
  kB r_2 fun r13 =>
  cond (!r13)
 (cond (r31_9 == (1 : Int))
 (pcK qcfg 22 [] fun r_3 =>
  kB r_3 fun r22 =>
  some (.done (V.bool r22)))
 (some (.done (V.bool false))))
 (cond (decide ((r10Kids.length : Int) < 3))
 (cond (r31_9 == (1 : Int))
 (pcK qcfg 22 [] fun r_4 =>
  kB r_4 fun r22_1 =>
  some (.done (V.bool r22_1)))
 (some (.done (V.bool false))))
 (cond (r31_9 != (0 : Int))
 (some (.done (V.bool false)))
 (pcK qcfg 13 [V.agg [V.sl r31_0, V.sl r31_1, V.str r31_2, V.int .i64 r31_3]] fun r_5 =>
  kB r_5 fun r13_1 =>
  cond (!r13_1)
 (some (.done (V.bool false)))
 (pcK qcfg 13 [V.agg [V.sl r31_4, V.sl r31_5, V.str r31_6, V.int .i64 r31_7]] fun r_6 =>
  kB r_6 fun r13_2 =>
  cond (!r13_2)
 (some (.done (V.bool false)))
 (cond ((W .i64 ((r31_1.length : Int) + (r31_5.length : Int))) != (r10Kids.length : Int))
 (some (.done (V.bool false)))
 (cond (!(r31_2 == r31_8))
 (some (.done (V.bool false)))
 (cond (r31_3 != (W .i64 ((W .i64 (((BitVec.ofInt (IntKind.bits .i64) a2 &&& BitVec.ofInt (IntKind.bits .i64) 1023).toNat : Int))) + 1)))
 (some (.done (V.bool false)))
 (cond (!(r31_6 == r10High))
 (some (.done (V.bool false)))
 (cond (r31_7 != r10Next)
 (some (.done (V.bool false)))
 (pcK qcfg 23 [V.agg [V.sl r10Seps, V.sl r10Kids, V.str r10High, V.int .i64 r10Next], V.str (a1.take ((if 40 < (a1.length : Int) then 40 else (a1.length : Int)).toNat))] fun r_7 =>
  d45 r_7 fun r23_0 r23_1 =>
  cond (r23_1 != (0 : Int))
 (pcK qcfg 22 [] fun r_8 =>
  kB r_8 fun r22_2 =>
  some (.done (V.bool r22_2)))
 (pcK qcfg 34 [V.str (a1.take ((if 40 < (a1.length : Int) then 40 else (a1.length : Int)).toNat)), V.str r31_8] fun r_9 =>
  kB r_9 fun r34 =>
  cond r34
 (pcK qcfg 23 [V.agg [V.sl r31_0, V.sl r31_1, V.str r31_2, V.int .i64 r31_3], V.str (a1.take ((if 40 < (a1.length : Int) then 40 else (a1.length : Int)).toNat))] fun r_10 =>
  d45 r_10 fun r23_0_1 r23_1_1 =>
  cond (r23_1_1 == (0 : Int))
 (cond (decide ((if r23_0 < r23_0_1 then r23_0 else r23_0_1) ≥ 0))
 (cond (decide (r23_0_1 < (r31_1.length : Int)))
 (cond (decide (r23_0 < (r10Kids.length : Int)))
 (gd (decide (0 ≤ r23_0_1)) <|
  idxK r31_1 r23_0_1.toNat fun v =>
  kI .i64 v fun n =>
  gd (decide (0 ≤ r23_0)) <|
  idxK r10Kids r23_0.toNat fun v_1 =>
  kI .i64 v_1 fun n_1 =>
  cond (n == n_1)
 (pcK qcfg 22 [] fun r_11 =>
  kB r_11 fun r22_3 =>
  some (.done (V.bool r22_3)))
 (some (.done (V.bool false))))
 (some (.done (V.bool false))))
 (some (.done (V.bool false))))
 (some (.done (V.bool false))))
 (some (.done (V.bool false))))
 (pcK qcfg 23 [V.agg [V.sl r31_4, V.sl r31_5, V.str r31_6, V.int .i64 r31_7], V.str (a1.take ((if 40 < (a1.length : Int) then 40 else (a1.length : Int)).toNat))] fun r_12 =>
  d45 r_12 fun r23_0_2 r23_1_2 =>
  cond (r23_1_2 == (0 : Int))
 (cond (decide ((if r23_0 < r23_0_2 then r23_0 else r23_0_2) ≥ 0))
 (cond (decide (r23_0_2 < (r31_5.length : Int)))
 (cond (decide (r23_0 < (r10Kids.length : Int)))
 (gd (decide (0 ≤ r23_0_2)) <|
  idxK r31_5 r23_0_2.toNat fun v_2 =>
  kI .i64 v_2 fun n_2 =>
  gd (decide (0 ≤ r23_0)) <|
  idxK r10Kids r23_0.toNat fun v_3 =>
  kI .i64 v_3 fun n_3 =>
  cond (n_2 == n_3)
 (pcK qcfg 22 [] fun r_13 =>
  kB r_13 fun r22_4 =>
  some (.done (V.bool r22_4)))
 (some (.done (V.bool false))))
 (some (.done (V.bool false))))
 (some (.done (V.bool false))))
 (some (.done (V.bool false))))
 (some (.done (V.bool false)))))))))))))))
theorem e7_eq (a0Seps : List V) (a0Kids : List V) (a0High : List UInt8) (a0Next : Int) (a1 : List UInt8) (a2 : Int) : enterK qk false fa7 [V.agg [V.sl a0Seps, V.sl a0Kids, V.str a0High, V.int .i64 a0Next], V.str a1, V.int .i64 a2] [] = e7 a0Seps a0Kids a0High a0Next a1 a2 := by kernel_rfl
theorem e7_run (a0Seps : List V) (a0Kids : List V) (a0High : List UInt8) (a0Next : Int) (a1 : List UInt8) (a2 : Int) {o : Out} {v : V} (h : e7 a0Seps a0Kids a0High a0Next a1 a2 = some o) (hg : Go qk false 0 fa7 o (.done v)) : pcW qcfg 7 [V.agg [V.sl a0Seps, V.sl a0Kids, V.str a0High, V.int .i64 a0Next], V.str a1, V.int .i64 a2] = some v := pcW_go qik rfl fa7_eq ((e7_eq a0Seps a0Kids a0High a0Next a1 a2).trans h) hg
theorem e7_done (a0Seps : List V) (a0Kids : List V) (a0High : List UInt8) (a0Next : Int) (a1 : List UInt8) (a2 : Int) {v : V} (h : e7 a0Seps a0Kids a0High a0Next a1 a2 = some (.done v)) : pcW qcfg 7 [V.agg [V.sl a0Seps, V.sl a0Kids, V.str a0High, V.int .i64 a0Next], V.str a1, V.int .i64 a2] = some v := e7_run a0Seps a0Kids a0High a0Next a1 a2 h (.refl _)
/-! ### budwood/budwoodlaw11.InnerAll -/
noncomputable def fa8 : FA := ⟨2, 123, [.tmp 4], [4],
 (.seq
 (.ops false [o1 2 (.box 25 (t' 0)) 0, o1 4 (.assign (.const (.bool false))) 4])
 (.seq
 (.ops false [o1 11 (.load 25 (t' 2)) 25, o1 12 (.call ⟨(.value (.func 10)), #[(t' 11)], #[25]⟩) 25, o0 (.store 25 (t' 2) (t' 12)) 0])
 (.seq
 (.seq
 (.ops false [o1 13 (.load 25 (t' 2)) 25, o1 14 (.call ⟨(.value (.func 15)), #[(t' 13)], #[25]⟩) 30, o1 15 (.call ⟨(.value (.func 14)), #[(t' 14)], #[30]⟩) 4, o1 16 (.unOp .not 4 (t' 15)) 4])
 (.cond (t' 16)
 (.seq
 (.ops false [o1 17 (.load 25 (t' 2)) 25, o1 18 (.call ⟨(.value (.func 18)), #[(t' 17)], #[25]⟩) 9, o1 19 (.binOp .eql 9 (t' 18) (.const (.string ⟨⟨[]⟩⟩)) 9) 4, mv 20 19 4, o2 21 (.call ⟨(.value (.func 22)), #[], #[]⟩) 4 20 true, o1 22 (.pick (t' 20) (t' 21) (.const (.bool false))) 4, asg 4 22 4])
 (.ret))
 (.skip)))
 (.seq
 (.seq
 (.ops false [o1 5 (.assign (.const (.int .i64 (1)))) 3])
 (.block 0
 (.loop ([0, 3] ++ List.range' 6 117)
 (.seq
 (.seq
 (.ops false [mv 23 5 3, o1 24 (.fieldAddr 25 (t' 2) 1) 0, o1 25 (.load 23 (t' 24)) 23, o1 26 (.call ⟨(.builtin .len), #[(t' 25)], #[23]⟩) 3, o1 27 (.binOp .lss 3 (t' 23) (t' 26) 3) 4])
 (.cond (t' 27)
 (.skip)
 (.exit 0)))
 (.seq
 (.block 1
 (.seq
 (.ops true [o1 31 (.load 25 (t' 2)) 25, o1 32 (.fieldAddr 25 (t' 2) 0) 0, o1 33 (.load 22 (t' 32)) 22, mv 34 5 3, o1 35 (.binOp .sub 3 (t' 34) (.const (.int .i64 (1))) 3) 3, o1 36 (.indexAddr 22 (t' 33) (t' 35)) 0, o1 37 (.load 9 (t' 36)) 9, ⟨(some 38), .call ⟨(.value (.func 23)), #[(t' 31), (t' 37)], #[25, 9]⟩, 45, none, false, true, false⟩, mv 30 38 45, o1 39 (.extract (t' 30) 0) 3, o1 40 (.extract (t' 30) 1) 27, asg 6 39 3, asg 7 40 27])
 (.seq
 (.ops false [mv 41 6 3, mv 42 5 3, o1 43 (.binOp .neq 3 (t' 41) (t' 42) 3) 4, mv 44 43 4, o2 45 (.move (t' 7)) 27 44 false, o2 46 (.binOp .neq 27 (t' 45) (.const (.int .i64 (0))) 27) 4 44 false, o1 47 (.pick (t' 44) (.const (.bool true)) (t' 46)) 4])
 (.cond (t' 47)
 (.seq
 (.ops false [o1 4 (.assign (.const (.bool false))) 4])
 (.ret))
 (.skip)))))
 (.ops false [mv 28 5 3, o1 29 (.binOp .add 3 (t' 28) (.const (.int .i64 (1))) 3) 3, asg 5 29 3]))))))
 (.seq
 (.ops false [mv 48 1 9, mv 49 1 9, o1 50 (.call ⟨(.builtin .len), #[(t' 49)], #[9]⟩) 3, o1 51 (.call ⟨(.builtin .min), #[(t' 50), (.const (.int .i64 (16)))], #[3, 3]⟩) 3, o1 52 (.slice 9 (t' 48) none (some (t' 51)) none) 9, asg 8 52 9])
 (.seq
 (.ops false [o1 54 (.load 25 (t' 2)) 25, mv 55 8 9, o1 56 (.call ⟨(.value (.func 23)), #[(t' 54), (t' 55)], #[25, 9]⟩) 45, mv 53 56 45, o1 57 (.extract (t' 53) 0) 3, o1 58 (.extract (t' 53) 1) 27, asg 9 57 3, asg 10 58 27])
 (.seq
 (.seq
 (.ops false [mv 59 8 9, o1 60 (.binOp .eql 9 (t' 59) (.const (.string ⟨⟨[]⟩⟩)) 9) 4, mv 61 60 4, o2 62 (.fieldAddr 25 (t' 2) 2) 0 61 false, o2 63 (.load 9 (t' 62)) 9 61 false, o2 64 (.binOp .neq 9 (t' 63) (.const (.string ⟨⟨[]⟩⟩)) 9) 4 61 false, o2 65 (.move (t' 64)) 4 61 false, o2 66 (.move (t' 8)) 9 65 true, o2 67 (.fieldAddr 25 (t' 2) 2) 0 65 true, o2 68 (.load 9 (t' 67)) 9 65 true, o2 69 (.binOp .geq 9 (t' 66) (t' 68) 9) 4 65 true, o2 70 (.pick (t' 65) (t' 69) (.const (.bool false))) 4 61 false, o1 71 (.pick (t' 61) (.const (.bool true)) (t' 70)) 4])
 (.cond (t' 71)
 (.seq
 (.ops false [mv 72 10 27, o1 73 (.binOp .eql 27 (t' 72) (.const (.int .i64 (1))) 27) 4, mv 74 73 4, o2 75 (.call ⟨(.value (.func 22)), #[], #[]⟩) 4 74 true, o1 76 (.pick (t' 74) (t' 75) (.const (.bool false))) 4, asg 4 76 4])
 (.ret))
 (.skip)))
 (.seq
 (.ops false [mv 77 10 27, o1 78 (.binOp .eql 27 (t' 77) (.const (.int .i64 (0))) 27) 4, mv 79 78 4, o2 80 (.move (t' 9)) 3 79 true, o2 81 (.binOp .geq 3 (t' 80) (.const (.int .i64 (0))) 3) 4 79 true, o1 82 (.pick (t' 79) (t' 81) (.const (.bool false))) 4, mv 83 82 4, o2 84 (.move (t' 9)) 3 83 true, o2 85 (.fieldAddr 25 (t' 2) 1) 0 83 true, o2 86 (.load 23 (t' 85)) 23 83 true, o2 87 (.call ⟨(.builtin .len), #[(t' 86)], #[23]⟩) 3 83 true, o2 88 (.binOp .lss 3 (t' 84) (t' 87) 3) 4 83 true, o1 89 (.pick (t' 83) (t' 88) (.const (.bool false))) 4, mv 90 89 4, o2 91 (.move (t' 9)) 3 90 true, o2 92 (.binOp .eql 3 (t' 91) (.const (.int .i64 (0))) 3) 4 90 true, o2 93 (.move (t' 92)) 4 90 true, o2 94 (.fieldAddr 25 (t' 2) 0) 0 93 false, o2 95 (.load 22 (t' 94)) 22 93 false, o2 96 (.move (t' 9)) 3 93 false, o2 97 (.binOp .sub 3 (t' 96) (.const (.int .i64 (1))) 3) 3 93 false, o2 98 (.indexAddr 22 (t' 95) (t' 97)) 0 93 false, o2 99 (.load 9 (t' 98)) 9 93 false, o2 100 (.move (t' 8)) 9 93 false, o2 101 (.binOp .leq 9 (t' 99) (t' 100) 9) 4 93 false, o2 102 (.pick (t' 93) (.const (.bool true)) (t' 101)) 4 90 true, o1 103 (.pick (t' 90) (t' 102) (.const (.bool false))) 4, mv 104 103 4, o2 105 (.move (t' 9)) 3 104 true, o2 106 (.fieldAddr 25 (t' 2) 0) 0 104 true, o2 107 (.load 22 (t' 106)) 22 104 true, o2 108 (.call ⟨(.builtin .len), #[(t' 107)], #[22]⟩) 3 104 true, o2 109 (.binOp .eql 3 (t' 105) (t' 108) 3) 4 104 true, o2 110 (.move (t' 109)) 4 104 true, o2 111 (.move (t' 8)) 9 110 false, o2 112 (.fieldAddr 25 (t' 2) 0) 0 110 false, o2 113 (.load 22 (t' 112)) 22 110 false, o2 114 (.move (t' 9)) 3 110 false, o2 115 (.indexAddr 22 (t' 113) (t' 114)) 0 110 false, o2 116 (.load 9 (t' 115)) 9 110 false, o2 117 (.binOp .lss 9 (t' 111) (t' 116) 9) 4 110 false, o2 118 (.pick (t' 110) (.const (.bool true)) (t' 117)) 4 104 true, o1 119 (.pick (t' 104) (t' 118) (.const (.bool false))) 4, mv 120 119 4, o2 121 (.call ⟨(.value (.func 22)), #[], #[]⟩) 4 120 true, o1 122 (.pick (t' 120) (t' 121) (.const (.bool false))) 4, asg 4 122 4])
 (.ret)))))))))⟩
theorem fa8_eq : fnA qcfg.P (qcfg.rxf 8) 8 = some fa8 := by kernel_rfl
def T8_0 (x1 : List UInt8) (x5 : Int) (m0_0 : List V) (m0_1 : List V) (m0_2 : List UInt8) (m0_3 : Int) : S := ⟨[V.junk, V.str x1, V.ptr 0 0 0, V.junk, V.bool false, V.int .i64 x5] ++ (JU 117), [O.box 25 (V.agg [V.sl m0_0, V.sl m0_1, V.str m0_2, V.int .i64 m0_3]) false]⟩
noncomputable def e8 (a0Seps : List V) (a0Kids : List V) (a0High : List UInt8) (a0Next : Int) (a1 : List UInt8) : R :=
  pcK qcfg 10 [V.agg [V.sl a0Seps, V.sl a0Kids, V.str a0High, V.int .i64 a0Next]] fun r =>
  d25 r fun r10Seps r10Kids r10High r10Next =>
  pcK qcfg 15 [V.agg [V.sl r10Seps, V.sl r10Kids, V.str r10High, V.int .i64 r10Next]] fun r_1 =>
  d30 r_1 fun r15Seps r15Kids r15High r15Next =>
  pcK qcfg 14 [V.agg [V.sl r15Seps, V.sl r15Kids, V.str r15High, V.int .i64 r15Next]] fun r_2 =>
  kB r_2 fun r14 =>
  cond (!r14)
 (pcK qcfg 18 [V.agg [V.sl r10Seps, V.sl r10Kids, V.str r10High, V.int .i64 r10Next]] fun r_3 =>
  kS r_3 fun r18 =>
  cond (r18 == [])
 (pcK qcfg 22 [] fun r_4 =>
  kB r_4 fun r22 =>
  some (.done (V.bool r22)))
 (some (.done (V.bool false))))
 (some (.head 0 (T8_0 a1 1 r10Seps r10Kids r10High r10Next)))
theorem e8_eq (a0Seps : List V) (a0Kids : List V) (a0High : List UInt8) (a0Next : Int) (a1 : List UInt8) : enterK qk false fa8 [V.agg [V.sl a0Seps, V.sl a0Kids, V.str a0High, V.int .i64 a0Next], V.str a1] [] = e8 a0Seps a0Kids a0High a0Next a1 := by kernel_rfl
theorem e8_run (a0Seps : List V) (a0Kids : List V) (a0High : List UInt8) (a0Next : Int) (a1 : List UInt8) {o : Out} {v : V} (h : e8 a0Seps a0Kids a0High a0Next a1 = some o) (hg : Go qk false 0 fa8 o (.done v)) : pcW qcfg 8 [V.agg [V.sl a0Seps, V.sl a0Kids, V.str a0High, V.int .i64 a0Next], V.str a1] = some v := pcW_go qik rfl fa8_eq ((e8_eq a0Seps a0Kids a0High a0Next a1).trans h) hg
noncomputable def s8_0 (x1 : List UInt8) (x5 : Int) (m0_0 : List V) (m0_1 : List V) (m0_2 : List UInt8) (m0_3 : Int) : R :=
  cond (decide (x5 < (m0_1.length : Int)))
 (gd (decide (0 ≤ W .i64 (x5 - 1))) <|
  idxK m0_0 ((W .i64 (x5 - 1)).toNat) fun v =>
  kS v fun s =>
  pcK qcfg 23 [V.agg [V.sl m0_0, V.sl m0_1, V.str m0_2, V.int .i64 m0_3], V.str s] fun r =>
  d45 r fun r23_0 r23_1 =>
  cond (r23_0 != x5)
 (some (.done (V.bool false)))
 (cond (r23_1 != (0 : Int))
 (some (.done (V.bool false)))
 (some (.head 0 (T8_0 x1 (W .i64 (x5 + 1)) m0_0 m0_1 m0_2 m0_3)))))
 (gd (decide (0 ≤ (if 16 < (x1.length : Int) then 16 else (x1.length : Int)))) <|
  gd (decide ((if 16 < (x1.length : Int) then 16 else (x1.length : Int)).toNat ≤ x1.length)) <|
  pcK qcfg 23 [V.agg [V.sl m0_0, V.sl m0_1, V.str m0_2, V.int .i64 m0_3], V.str (x1.take ((if 16 < (x1.length : Int) then 16 else (x1.length : Int)).toNat))] fun r_1 =>
  d45 r_1 fun r23_0_1 r23_1_1 =>
  cond ((x1.take ((if 16 < (x1.length : Int) then 16 else (x1.length : Int)).toNat)) == [])
 (cond (r23_1_1 == (1 : Int))
 (pcK qcfg 22 [] fun r_2 =>
  kB r_2 fun r22 =>
  some (.done (V.bool r22)))
 (some (.done (V.bool false))))
 (cond (!(m0_2 == []))
 (cond (!Op.bytesLess (x1.take ((if 16 < (x1.length : Int) then 16 else (x1.length : Int)).toNat)) m0_2)
 (cond (r23_1_1 == (1 : Int))
 (pcK qcfg 22 [] fun r_3 =>
  kB r_3 fun r22_1 =>
  some (.done (V.bool r22_1)))
 (some (.done (V.bool false))))
 (cond (r23_1_1 == (0 : Int))
 (cond (decide (r23_0_1 ≥ 0))
 (cond (decide (r23_0_1 < (m0_1.length : Int)))
 (cond (r23_0_1 == (0 : Int))
 (cond (r23_0_1 == (m0_0.length : Int))
 (pcK qcfg 22 [] fun r_4 =>
  kB r_4 fun r22_2 =>
  some (.done (V.bool r22_2)))
 (gd (decide (0 ≤ r23_0_1)) <|
  idxK m0_0 r23_0_1.toNat fun v_1 =>
  kS v_1 fun s_1 =>
  cond (Op.bytesLess (x1.take ((if 16 < (x1.length : Int) then 16 else (x1.length : Int)).toNat)) s_1)
 (pcK qcfg 22 [] fun r_5 =>
  kB r_5 fun r22_3 =>
  some (.done (V.bool r22_3)))
 (some (.done (V.bool false)))))
 (gd (decide (0 ≤ W .i64 (r23_0_1 - 1))) <|
  idxK m0_0 ((W .i64 (r23_0_1 - 1)).toNat) fun v_2 =>
  kS v_2 fun s_2 =>
  cond (Op.bytesLess s_2 (x1.take ((if 16 < (x1.length : Int) then 16 else (x1.length : Int)).toNat)) || s_2 == (x1.take ((if 16 < (x1.length : Int) then 16 else (x1.length : Int)).toNat)))
 (cond (r23_0_1 == (m0_0.length : Int))
 (pcK qcfg 22 [] fun r_6 =>
  kB r_6 fun r22_4 =>
  some (.done (V.bool r22_4)))
 (gd (decide (0 ≤ r23_0_1)) <|
  idxK m0_0 r23_0_1.toNat fun v_3 =>
  kS v_3 fun s_3 =>
  cond (Op.bytesLess (x1.take ((if 16 < (x1.length : Int) then 16 else (x1.length : Int)).toNat)) s_3)
 (pcK qcfg 22 [] fun r_7 =>
  kB r_7 fun r22_5 =>
  some (.done (V.bool r22_5)))
 (some (.done (V.bool false)))))
 (some (.done (V.bool false)))))
 (some (.done (V.bool false))))
 (some (.done (V.bool false))))
 (some (.done (V.bool false)))))
 (cond (r23_1_1 == (0 : Int))
 (cond (decide (r23_0_1 ≥ 0))
 (cond (decide (r23_0_1 < (m0_1.length : Int)))
 (cond (r23_0_1 == (0 : Int))
 (cond (r23_0_1 == (m0_0.length : Int))
 (pcK qcfg 22 [] fun r_8 =>
  kB r_8 fun r22_6 =>
  some (.done (V.bool r22_6)))
 (gd (decide (0 ≤ r23_0_1)) <|
  idxK m0_0 r23_0_1.toNat fun v_4 =>
  kS v_4 fun s_4 =>
  cond (Op.bytesLess (x1.take ((if 16 < (x1.length : Int) then 16 else (x1.length : Int)).toNat)) s_4)
 (pcK qcfg 22 [] fun r_9 =>
  kB r_9 fun r22_7 =>
  some (.done (V.bool r22_7)))
 (some (.done (V.bool false)))))
 (gd (decide (0 ≤ W .i64 (r23_0_1 - 1))) <|
  idxK m0_0 ((W .i64 (r23_0_1 - 1)).toNat) fun v_5 =>
  kS v_5 fun s_5 =>
  cond (Op.bytesLess s_5 (x1.take ((if 16 < (x1.length : Int) then 16 else (x1.length : Int)).toNat)) || s_5 == (x1.take ((if 16 < (x1.length : Int) then 16 else (x1.length : Int)).toNat)))
 (cond (r23_0_1 == (m0_0.length : Int))
 (pcK qcfg 22 [] fun r_10 =>
  kB r_10 fun r22_8 =>
  some (.done (V.bool r22_8)))
 (gd (decide (0 ≤ r23_0_1)) <|
  idxK m0_0 r23_0_1.toNat fun v_6 =>
  kS v_6 fun s_6 =>
  cond (Op.bytesLess (x1.take ((if 16 < (x1.length : Int) then 16 else (x1.length : Int)).toNat)) s_6)
 (pcK qcfg 22 [] fun r_11 =>
  kB r_11 fun r22_9 =>
  some (.done (V.bool r22_9)))
 (some (.done (V.bool false)))))
 (some (.done (V.bool false)))))
 (some (.done (V.bool false))))
 (some (.done (V.bool false))))
 (some (.done (V.bool false))))))
theorem s8_0_eq (x1 : List UInt8) (x5 : Int) (m0_0 : List V) (m0_1 : List V) (m0_2 : List UInt8) (m0_3 : Int) : goK qk false 0 fa8 0 (T8_0 x1 x5 m0_0 m0_1 m0_2 m0_3) = s8_0 x1 x5 m0_0 m0_1 m0_2 m0_3 := by kernel_rfl
theorem s8_0_run (x1 : List UInt8) (x5 : Int) (m0_0 : List V) (m0_1 : List V) (m0_2 : List UInt8) (m0_3 : Int) {o o' : Out} (h : s8_0 x1 x5 m0_0 m0_1 m0_2 m0_3 = some o) (hg : Go qk false 0 fa8 o o') : Go qk false 0 fa8 (.head 0 (T8_0 x1 x5 m0_0 m0_1 m0_2 m0_3)) o' := .step ((s8_0_eq x1 x5 m0_0 m0_1 m0_2 m0_3).trans h) hg
/-! ### budwood/budwoodlaw11.InnerTurns -/
noncomputable def fa9 : FA := ⟨3, 92, [.tmp 6], [4],
 (.seq
 (.ops false [o1 3 (.box 25 (t' 0)) 0, o1 6 (.assign (.const (.bool false))) 4])
 (.seq
 (.ops false [o1 13 (.load 25 (t' 3)) 25, o1 14 (.call ⟨(.value (.func 10)), #[(t' 13)], #[25]⟩) 25, o0 (.store 25 (t' 3) (t' 14)) 0])
 (.seq
 (.seq
 (.ops false [o1 15 (.load 25 (t' 3)) 25, o1 16 (.call ⟨(.value (.func 15)), #[(t' 15)], #[25]⟩) 30, o1 17 (.call ⟨(.value (.func 14)), #[(t' 16)], #[30]⟩) 4, o1 18 (.unOp .not 4 (t' 17)) 4])
 (.cond (t' 18)
 (.seq
 (.ops false [o1 19 (.load 25 (t' 3)) 25, o1 20 (.call ⟨(.value (.func 18)), #[(t' 19)], #[25]⟩) 9, o1 21 (.binOp .eql 9 (t' 20) (.const (.string ⟨⟨[]⟩⟩)) 9) 4, mv 22 21 4, o2 23 (.call ⟨(.value (.func 22)), #[], #[]⟩) 4 22 true, o1 24 (.pick (t' 22) (t' 23) (.const (.bool false))) 4, asg 6 24 4])
 (.ret))
 (.skip)))
 (.seq
 (.ops false [mv 25 1 3, o1 26 (.binOp .and 3 (t' 25) (.const (.int .i64 (65535))) 3) 3, o1 27 (.fieldAddr 25 (t' 3) 1) 0, o1 28 (.load 23 (t' 27)) 23, o1 29 (.call ⟨(.builtin .len), #[(t' 28)], #[23]⟩) 3, o1 30 (.binOp .rem 3 (t' 26) (t' 29) 3) 3, mv 31 2 3, o1 32 (.binOp .and 3 (t' 31) (.const (.int .i64 (1023))) 3) 3, asg 7 30 3, asg 8 32 3])
 (.seq
 (.ops false [o1 34 (.load 25 (t' 3)) 25, mv 35 7 3, mv 36 8 3, o1 37 (.call ⟨(.value (.func 29)), #[(t' 34), (t' 35), (t' 36)], #[25, 3, 3]⟩) 28, mv 33 37 28, o1 38 (.extract (t' 33) 0) 25, o1 39 (.extract (t' 33) 1) 27, o1 9 (.alloc 25) 0, o0 (.store 25 (t' 9) (t' 38)) 0, asg 10 39 27])
 (.seq
 (.seq
 (.ops false [mv 40 10 27, o1 41 (.binOp .neq 27 (t' 40) (.const (.int .i64 (0))) 27) 4, mv 42 41 4, o2 43 (.fieldAddr 25 (t' 9) 1) 0 42 false, o2 44 (.load 23 (t' 43)) 23 42 false, o2 45 (.call ⟨(.builtin .len), #[(t' 44)], #[23]⟩) 3 42 false, o2 46 (.fieldAddr 25 (t' 3) 1) 0 42 false, o2 47 (.load 23 (t' 46)) 23 42 false, o2 48 (.call ⟨(.builtin .len), #[(t' 47)], #[23]⟩) 3 42 false, o2 49 (.binOp .neq 3 (t' 45) (t' 48) 3) 4 42 false, o1 50 (.pick (t' 42) (.const (.bool true)) (t' 49)) 4, mv 51 50 4, o2 52 (.fieldAddr 25 (t' 9) 1) 0 51 false, o2 53 (.load 23 (t' 52)) 23 51 false, o2 54 (.move (t' 7)) 3 51 false, o2 55 (.indexAddr 23 (t' 53) (t' 54)) 0 51 false, o2 56 (.load 3 (t' 55)) 3 51 false, o2 57 (.move (t' 8)) 3 51 false, o2 58 (.binOp .neq 3 (t' 56) (t' 57) 3) 4 51 false, o1 59 (.pick (t' 51) (.const (.bool true)) (t' 58)) 4])
 (.cond (t' 59)
 (.seq
 (.ops false [o1 6 (.assign (.const (.bool false))) 4])
 (.ret))
 (.skip)))
 (.seq
 (.ops true [o1 61 (.load 25 (t' 9)) 25, mv 62 7 3, o1 63 (.fieldAddr 25 (t' 3) 1) 0, o1 64 (.load 23 (t' 63)) 23, mv 65 7 3, o1 66 (.indexAddr 23 (t' 64) (t' 65)) 0, o1 67 (.load 3 (t' 66)) 3, ⟨(some 68), .call ⟨(.value (.func 29)), #[(t' 61), (t' 62), (t' 67)], #[25, 3, 3]⟩, 28, none, false, true, false⟩, mv 60 68 28, o1 69 (.extract (t' 60) 0) 25, o1 70 (.extract (t' 60) 1) 27, ⟨(some 11), .alloc 25, 0, none, true, false, false⟩, ⟨(some 11), .box 25 (t' 69), 0, none, true, false, false⟩, asg 12 70 27])
 (.seq
 (.ops true [mv 71 12 27, o1 72 (.binOp .eql 27 (t' 71) (.const (.int .i64 (0))) 27) 4, mv 73 72 4, o2 74 (.load 25 (t' 11)) 25 73 true, o2 75 (.load 25 (t' 3)) 25 73 true, ⟨(some 76), .call ⟨(.value (.func 20)), #[(t' 74), (t' 75)], #[25, 25]⟩, 4, (some (73, true)), false, true, false⟩, o1 77 (.pick (t' 73) (t' 76) (.const (.bool false))) 4, mv 78 77 4, o2 79 (.load 25 (t' 9)) 25 78 true, o2 80 (.call ⟨(.value (.func 16)), #[(t' 79)], #[25]⟩) 3 78 true, o2 81 (.load 25 (t' 3)) 25 78 true, ⟨(some 82), .call ⟨(.value (.func 16)), #[(t' 81)], #[25]⟩, 3, (some (78, true)), false, true, false⟩, o2 83 (.binOp .eql 3 (t' 80) (t' 82) 3) 4 78 true, o1 84 (.pick (t' 78) (t' 83) (.const (.bool false))) 4, mv 85 84 4, o2 86 (.load 25 (t' 9)) 25 85 true, ⟨(some 87), .call ⟨(.value (.func 13)), #[(t' 86)], #[25]⟩, 4, (some (85, true)), false, true, false⟩, o1 88 (.pick (t' 85) (t' 87) (.const (.bool false))) 4, mv 89 88 4, ⟨(some 90), .call ⟨(.value (.func 22)), #[], #[]⟩, 4, (some (89, true)), false, true, false⟩, o1 91 (.pick (t' 89) (t' 90) (.const (.bool false))) 4, asg 6 91 4])
 (.ret)))))))))⟩
theorem fa9_eq : fnA qcfg.P (qcfg.rxf 9) 9 = some fa9 := by kernel_rfl
noncomputable def e9 (a0Seps : List V) (a0Kids : List V) (a0High : List UInt8) (a0Next : Int) (a1 : Int) (a2 : Int) : R :=
  pcK qcfg 10 [V.agg [V.sl a0Seps, V.sl a0Kids, V.str a0High, V.int .i64 a0Next]] fun r =>
  d25 r fun r10Seps r10Kids r10High r10Next =>
  pcK qcfg 15 [V.agg [V.sl r10Seps, V.sl r10Kids, V.str r10High, V.int .i64 r10Next]] fun r_1 =>
  d30 r_1 fun r15Seps r15Kids r15High r15Next =>
  pcK qcfg 14 [V.agg [V.sl r15Seps, V.sl r15Kids, V.str r15High, V.int .i64 r15Next]] fun r_2 =>
  kB r_2 fun r14 =>
  cond (!r14)
 (pcK qcfg 18 [V.agg [V.sl r10Seps, V.sl r10Kids, V.str r10High, V.int .i64 r10Next]] fun r_3 =>
  kS r_3 fun r18 =>
  cond (r18 == [])
 (pcK qcfg 22 [] fun r_4 =>
  kB r_4 fun r22 =>
  some (.done (V.bool r22)))
 (some (.done (V.bool false))))
 (gd (!decide ((r10Kids.length : Int) = 0)) <|
  pcK qcfg 29 [V.agg [V.sl r10Seps, V.sl r10Kids, V.str r10High, V.int .i64 r10Next], V.int .i64 ((W .i64 (((BitVec.ofInt (IntKind.bits .i64) a1 &&& BitVec.ofInt (IntKind.bits .i64) 65535).toNat : Int))).tmod (r10Kids.length : Int)), V.int .i64 (W .i64 (((BitVec.ofInt (IntKind.bits .i64) a2 &&& BitVec.ofInt (IntKind.bits .i64) 1023).toNat : Int)))] fun r_5 =>
  d28 r_5 fun r29_0 r29_1 r29_2 r29_3 r29_4 =>
  cond (r29_4 != (0 : Int))
 (some (.done (V.bool false)))
 (cond ((r29_1.length : Int) != (r10Kids.length : Int))
 (some (.done (V.bool false)))
 (gd (decide (0 ≤ (W .i64 (((BitVec.ofInt (IntKind.bits .i64) a1 &&& BitVec.ofInt (IntKind.bits .i64) 65535).toNat : Int))).tmod (r10Kids.length : Int))) <|
  idxK r29_1 (((W .i64 (((BitVec.ofInt (IntKind.bits .i64) a1 &&& BitVec.ofInt (IntKind.bits .i64) 65535).toNat : Int))).tmod (r10Kids.length : Int)).toNat) fun v =>
  kI .i64 v fun n =>
  cond (n != (W .i64 (((BitVec.ofInt (IntKind.bits .i64) a2 &&& BitVec.ofInt (IntKind.bits .i64) 1023).toNat : Int))))
 (some (.done (V.bool false)))
 (gd (decide (0 ≤ (W .i64 (((BitVec.ofInt (IntKind.bits .i64) a1 &&& BitVec.ofInt (IntKind.bits .i64) 65535).toNat : Int))).tmod (r10Kids.length : Int))) <|
  idxK r10Kids (((W .i64 (((BitVec.ofInt (IntKind.bits .i64) a1 &&& BitVec.ofInt (IntKind.bits .i64) 65535).toNat : Int))).tmod (r10Kids.length : Int)).toNat) fun v_1 =>
  kI .i64 v_1 fun n_1 =>
  pcK qcfg 29 [V.agg [V.sl r29_0, V.sl r29_1, V.str r29_2, V.int .i64 r29_3], V.int .i64 ((W .i64 (((BitVec.ofInt (IntKind.bits .i64) a1 &&& BitVec.ofInt (IntKind.bits .i64) 65535).toNat : Int))).tmod (r10Kids.length : Int)), V.int .i64 n_1] fun r_6 =>
  d28 r_6 fun r29_0_1 r29_1_1 r29_2_1 r29_3_1 r29_4_1 =>
  cond (r29_4_1 == (0 : Int))
 (pcK qcfg 20 [V.agg [V.sl r29_0_1, V.sl r29_1_1, V.str r29_2_1, V.int .i64 r29_3_1], V.agg [V.sl r10Seps, V.sl r10Kids, V.str r10High, V.int .i64 r10Next]] fun r_7 =>
  kB r_7 fun r20 =>
  cond r20
 (pcK qcfg 16 [V.agg [V.sl r29_0, V.sl r29_1, V.str r29_2, V.int .i64 r29_3]] fun r_8 =>
  kI .i64 r_8 fun r16 =>
  pcK qcfg 16 [V.agg [V.sl r10Seps, V.sl r10Kids, V.str r10High, V.int .i64 r10Next]] fun r_9 =>
  kI .i64 r_9 fun r16_1 =>
  cond (r16 == r16_1)
 (pcK qcfg 13 [V.agg [V.sl r29_0, V.sl r29_1, V.str r29_2, V.int .i64 r29_3]] fun r_10 =>
  kB r_10 fun r13 =>
  cond r13
 (pcK qcfg 22 [] fun r_11 =>
  kB r_11 fun r22_1 =>
  some (.done (V.bool r22_1)))
 (some (.done (V.bool false))))
 (some (.done (V.bool false))))
 (some (.done (V.bool false))))
 (some (.done (V.bool false)))))))
theorem e9_eq (a0Seps : List V) (a0Kids : List V) (a0High : List UInt8) (a0Next : Int) (a1 : Int) (a2 : Int) : enterK qk false fa9 [V.agg [V.sl a0Seps, V.sl a0Kids, V.str a0High, V.int .i64 a0Next], V.int .i64 a1, V.int .i64 a2] [] = e9 a0Seps a0Kids a0High a0Next a1 a2 := by kernel_rfl
theorem e9_run (a0Seps : List V) (a0Kids : List V) (a0High : List UInt8) (a0Next : Int) (a1 : Int) (a2 : Int) {o : Out} {v : V} (h : e9 a0Seps a0Kids a0High a0Next a1 a2 = some o) (hg : Go qk false 0 fa9 o (.done v)) : pcW qcfg 9 [V.agg [V.sl a0Seps, V.sl a0Kids, V.str a0High, V.int .i64 a0Next], V.int .i64 a1, V.int .i64 a2] = some v := pcW_go qik rfl fa9_eq ((e9_eq a0Seps a0Kids a0High a0Next a1 a2).trans h) hg
theorem e9_done (a0Seps : List V) (a0Kids : List V) (a0High : List UInt8) (a0Next : Int) (a1 : Int) (a2 : Int) {v : V} (h : e9 a0Seps a0Kids a0High a0Next a1 a2 = some (.done v)) : pcW qcfg 9 [V.agg [V.sl a0Seps, V.sl a0Kids, V.str a0High, V.int .i64 a0Next], V.int .i64 a1, V.int .i64 a2] = some v := e9_run a0Seps a0Kids a0High a0Next a1 a2 h (.refl _)
end Go.Proofs.Ytndkhelglfakfaa
