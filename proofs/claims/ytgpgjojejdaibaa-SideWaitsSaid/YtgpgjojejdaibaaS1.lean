/-
  The functions' graphs (printed by walk.py).
-/
import Derived.Test.YtgpgjojejdaibaaS0
namespace Go.Proofs.Ytgpgjojejdaibaa
open Go Go.Lite
set_option maxRecDepth 100000
set_option linter.unusedVariables false
def d66 (v : V) (k : List UInt8 → Int → R) : R := kA v fun cs => unc cs fun c cs => kS c fun x0 => unc cs fun c cs => kI .i64 c fun x1 => unn cs <| (k x0 x1)
@[simp] theorem d66_mk (x0 : List UInt8) (x1 : Int) (k : List UInt8 → Int → R) : d66 (.agg [V.str x0, V.int .i64 x1]) k = k x0 x1 := rfl
@[congr] theorem d66_wc {v v' : V} {k : List UInt8 → Int → R} (h : v = v') : d66 v k = d66 v' k := by rw [h]
def d71 (v : V) (k : List UInt8 → Int → R) : R := kA v fun cs => unc cs fun c cs => kS c fun x0 => unc cs fun c cs => kI .i64 c fun x1 => unn cs <| (k x0 x1)
@[simp] theorem d71_mk (x0 : List UInt8) (x1 : Int) (k : List UInt8 → Int → R) : d71 (.agg [V.str x0, V.int .i64 x1]) k = k x0 x1 := rfl
@[congr] theorem d71_wc {v v' : V} {k : List UInt8 → Int → R} (h : v = v') : d71 v k = d71 v' k := by rw [h]
def d27 (v : V) (k : List V → Int → R) : R := kT v fun vs => unc vs fun c vs => kL c fun x0 => unc vs fun c vs => kI .i64 c fun x1 => unn vs (k x0 x1)
@[simp] theorem d27_mk (x0 : List V) (x1 : Int) (k : List V → Int → R) : d27 (.tup [V.sl x0, V.int .i64 x1]) k = k x0 x1 := rfl
@[congr] theorem d27_wc {v v' : V} {k : List V → Int → R} (h : v = v') : d27 v k = d27 v' k := by rw [h]
def d30 (v : V) (k : List V → Int → R) : R := kT v fun vs => unc vs fun c vs => kL c fun x0 => unc vs fun c vs => kI .i64 c fun x1 => unn vs (k x0 x1)
@[simp] theorem d30_mk (x0 : List V) (x1 : Int) (k : List V → Int → R) : d30 (.tup [V.sl x0, V.int .i64 x1]) k = k x0 x1 := rfl
@[congr] theorem d30_wc {v v' : V} {k : List V → Int → R} (h : v = v') : d30 v k = d30 v' k := by rw [h]
def d41 (v : V) (k : Int → List UInt8 → Int → R) : R := kA v fun cs => unc cs fun c cs => kI .i64 c fun x0 => unc cs fun c cs => kS c fun x1 => unc cs fun c cs => kI .i64 c fun x2 => unn cs <| (k x0 x1 x2)
@[simp] theorem d41_mk (x0 : Int) (x1 : List UInt8) (x2 : Int) (k : Int → List UInt8 → Int → R) : d41 (.agg [V.int .i64 x0, V.str x1, V.int .i64 x2]) k = k x0 x1 x2 := rfl
@[congr] theorem d41_wc {v v' : V} {k : Int → List UInt8 → Int → R} (h : v = v') : d41 v k = d41 v' k := by rw [h]
def d43 (v : V) (k : Int → List UInt8 → Int → R) : R := kA v fun cs => unc cs fun c cs => kI .i64 c fun x0 => unc cs fun c cs => kS c fun x1 => unc cs fun c cs => kI .i64 c fun x2 => unn cs <| (k x0 x1 x2)
@[simp] theorem d43_mk (x0 : Int) (x1 : List UInt8) (x2 : Int) (k : Int → List UInt8 → Int → R) : d43 (.agg [V.int .i64 x0, V.str x1, V.int .i64 x2]) k = k x0 x1 x2 := rfl
@[congr] theorem d43_wc {v v' : V} {k : Int → List UInt8 → Int → R} (h : v = v') : d43 v k = d43 v' k := by rw [h]
/-! ### budwood/side.New -/
noncomputable def fa22 : FA := ⟨0, 5, [.tmp 0], [47],
 (.seq
 (.ops false [⟨(some 0), .assign (.const (.pointer none)), 47, none, false, false, false⟩])
 (.seq
 (.ops false [⟨(some 1), .build 78 #[], 78, none, false, false, false⟩, ⟨(some 2), .box 78 (.tmp 1), 55, none, false, false, false⟩, ⟨(some 3), .build 57 #[(0, (.tmp 2))], 57, none, false, false, false⟩, ⟨(some 4), .box 57 (.tmp 3), 47, none, false, false, false⟩, asg 0 4 47])
 (.ret)))⟩
theorem fa22_eq : fnA scfg.P (scfg.rxf 22) 22 = some fa22 := by kernel_rfl
/-! ### (*budwood/budwoodref19.File).Note -/
noncomputable def fa24 : FA := ⟨2, 24, [.tmp 4], [26],
 (.seq
 (.ops false [⟨(some 3), .box 43 (.tmp 1), 0, none, false, false, false⟩, ⟨(some 4), .assign (.const (.int .i64 (0))), 26, none, false, false, false⟩])
 (.seq
 (.seq
 (.ops false [⟨(some 5), .load 43 (.tmp 3), 43, none, false, false, false⟩, ⟨(some 6), .call ⟨(.value (.func 41)), #[(.tmp 5)], #[43]⟩, 4, none, false, false, false⟩, ⟨(some 7), .unOp .not 4 (.tmp 6), 4, none, false, false, false⟩])
 (.cond (.tmp 7)
 (.seq
 (.ops false [⟨(some 4), .assign (.const (.int .i64 (1))), 26, none, false, false, false⟩])
 (.ret))
 (.skip)))
 (.seq
 (.seq
 (.ops false [mv 8 0 49, ⟨(some 9), .nilCheck (.tmp 8), 0, none, false, false, false⟩, ⟨(some 10), .fieldAddr 51 (.tmp 9) 0, 0, none, false, false, false⟩, ⟨(some 11), .load 33 (.tmp 10), 33, none, false, false, false⟩, ⟨(some 12), .call ⟨(.builtin .len), #[(.tmp 11)], #[33]⟩, 3, none, false, false, false⟩, ⟨(some 13), .binOp .geq 3 (.tmp 12) (.const (.int .i64 (1024))) 3, 4, none, false, false, false⟩])
 (.cond (.tmp 13)
 (.seq
 (.ops false [⟨(some 4), .assign (.const (.int .i64 (6))), 26, none, false, false, false⟩])
 (.ret))
 (.skip)))
 (.seq
 (.ops true [mv 14 0 49, mv 15 0 49, ⟨(some 16), .nilCheck (.tmp 15), 0, none, false, false, false⟩, ⟨(some 17), .fieldAddr 51 (.tmp 16) 0, 0, none, false, false, false⟩, ⟨(some 18), .load 33 (.tmp 17), 33, none, true, false, false⟩, ⟨(some 19), .load 43 (.tmp 3), 43, none, true, false, false⟩, ⟨(some 20), .buildSlice 33 1 #[(0, (.tmp 19))], 33, none, true, false, false⟩, ⟨(some 21), .call ⟨(.builtin .append), #[(.tmp 18), (.tmp 20)], #[33, 33]⟩, 33, none, false, false, false⟩, ⟨(some 22), .nilCheck (.tmp 14), 0, none, false, false, false⟩, ⟨(some 23), .fieldAddr 51 (.tmp 22) 0, 0, none, false, false, false⟩, ⟨none, .store 33 (.tmp 23) (.tmp 21), 0, none, false, false, false⟩])
 (.seq
 (.ops false [⟨(some 4), .assign (.const (.int .i64 (0))), 26, none, false, false, false⟩])
 (.ret))))))⟩
theorem fa24_eq : fnA scfg.P (scfg.rxf 24) 24 = some fa24 := by kernel_rfl
/-! ### (*budwood/side.queue(budwood/side.Change)).Take -/
noncomputable def fa25 : FA := ⟨2, 32, [.tmp 4], [23],
 (.seq
 (.ops false [⟨(some 4), .assign (.const (.slice none 0 0)), 23, none, false, false, false⟩])
 (.seq
 (.ops false [mv 7 1 3, mv 8 0 55, ⟨(some 9), .nilCheck (.tmp 8), 0, none, false, false, false⟩, ⟨(some 10), .fieldAddr 78 (.tmp 9) 0, 0, none, false, false, false⟩, ⟨(some 11), .load 23 (.tmp 10), 23, none, false, false, false⟩, ⟨(some 12), .call ⟨(.builtin .len), #[(.tmp 11)], #[23]⟩, 3, none, false, false, false⟩, ⟨(some 13), .call ⟨(.builtin .min), #[(.tmp 7), (.tmp 12)], #[3, 3]⟩, 3, none, false, false, false⟩, ⟨(some 14), .call ⟨(.builtin .max), #[(.const (.int .i64 (0))), (.tmp 13)], #[3, 3]⟩, 3, none, false, false, false⟩, asg 5 14 3])
 (.seq
 (.ops false [mv 15 0 55, ⟨(some 16), .nilCheck (.tmp 15), 0, none, false, false, false⟩, ⟨(some 17), .fieldAddr 78 (.tmp 16) 0, 0, none, false, false, false⟩, ⟨(some 18), .load 23 (.tmp 17), 23, none, false, false, false⟩, mv 19 5 3, ⟨(some 20), .slice 23 (.tmp 18) none (some (.tmp 19)) none, 23, none, false, false, false⟩, ⟨(some 21), .call ⟨(.value (.func 43)), #[(.tmp 20)], #[23]⟩, 23, none, false, false, false⟩, asg 6 21 23])
 (.seq
 (.ops false [mv 22 0 55, mv 23 0 55, ⟨(some 24), .nilCheck (.tmp 23), 0, none, false, false, false⟩, ⟨(some 25), .fieldAddr 78 (.tmp 24) 0, 0, none, false, false, false⟩, ⟨(some 26), .load 23 (.tmp 25), 23, none, false, false, false⟩, mv 27 5 3, ⟨(some 28), .slice 23 (.tmp 26) (some (.tmp 27)) none none, 23, none, false, false, false⟩, ⟨(some 29), .nilCheck (.tmp 22), 0, none, false, false, false⟩, ⟨(some 30), .fieldAddr 78 (.tmp 29) 0, 0, none, false, false, false⟩, ⟨none, .store 23 (.tmp 30) (.tmp 28), 0, none, false, false, false⟩])
 (.seq
 (.ops false [mv 31 6 23, asg 4 31 23])
 (.ret))))))⟩
theorem fa25_eq : fnA scfg.P (scfg.rxf 25) 25 = some fa25 := by kernel_rfl
/-! ### (*budwood/budwoodref19.File).Take -/
noncomputable def fa26 : FA := ⟨2, 42, [.tmp 4], [33],
 (.seq
 (.ops false [⟨(some 4), .assign (.const (.slice none 0 0)), 33, none, false, false, false⟩])
 (.seq
 (.ops false [mv 7 1 3, asg 5 7 3])
 (.seq
 (.seq
 (.ops false [mv 8 5 3, ⟨(some 9), .binOp .lss 3 (.tmp 8) (.const (.int .i64 (0))) 3, 4, none, false, false, false⟩])
 (.cond (.tmp 9)
 (.ops false [⟨(some 5), .assign (.const (.int .i64 (0))), 3, none, false, false, false⟩])
 (.skip)))
 (.seq
 (.seq
 (.ops false [mv 10 5 3, mv 11 0 49, ⟨(some 12), .nilCheck (.tmp 11), 0, none, false, false, false⟩, ⟨(some 13), .fieldAddr 51 (.tmp 12) 0, 0, none, false, false, false⟩, ⟨(some 14), .load 33 (.tmp 13), 33, none, false, false, false⟩, ⟨(some 15), .call ⟨(.builtin .len), #[(.tmp 14)], #[33]⟩, 3, none, false, false, false⟩, ⟨(some 16), .binOp .gtr 3 (.tmp 10) (.tmp 15) 3, 4, none, false, false, false⟩])
 (.cond (.tmp 16)
 (.ops false [mv 17 0 49, ⟨(some 18), .nilCheck (.tmp 17), 0, none, false, false, false⟩, ⟨(some 19), .fieldAddr 51 (.tmp 18) 0, 0, none, false, false, false⟩, ⟨(some 20), .load 33 (.tmp 19), 33, none, false, false, false⟩, ⟨(some 21), .call ⟨(.builtin .len), #[(.tmp 20)], #[33]⟩, 3, none, false, false, false⟩, asg 5 21 3])
 (.skip)))
 (.seq
 (.ops false [⟨(some 22), .buildSlice 33 0 #[], 33, none, false, false, false⟩, mv 23 0 49, ⟨(some 24), .nilCheck (.tmp 23), 0, none, false, false, false⟩, ⟨(some 25), .fieldAddr 51 (.tmp 24) 0, 0, none, false, false, false⟩, ⟨(some 26), .load 33 (.tmp 25), 33, none, false, false, false⟩, mv 27 5 3, ⟨(some 28), .slice 33 (.tmp 26) none (some (.tmp 27)) none, 33, none, false, false, false⟩, ⟨(some 29), .call ⟨(.builtin .append), #[(.tmp 22), (.tmp 28)], #[33, 33]⟩, 33, none, false, false, false⟩, asg 6 29 33])
 (.seq
 (.ops false [mv 30 0 49, ⟨(some 31), .buildSlice 33 0 #[], 33, none, false, false, false⟩, mv 32 0 49, ⟨(some 33), .nilCheck (.tmp 32), 0, none, false, false, false⟩, ⟨(some 34), .fieldAddr 51 (.tmp 33) 0, 0, none, false, false, false⟩, ⟨(some 35), .load 33 (.tmp 34), 33, none, false, false, false⟩, mv 36 5 3, ⟨(some 37), .slice 33 (.tmp 35) (some (.tmp 36)) none none, 33, none, false, false, false⟩, ⟨(some 38), .call ⟨(.builtin .append), #[(.tmp 31), (.tmp 37)], #[33, 33]⟩, 33, none, false, false, false⟩, ⟨(some 39), .nilCheck (.tmp 30), 0, none, false, false, false⟩, ⟨(some 40), .fieldAddr 51 (.tmp 39) 0, 0, none, false, false, false⟩, ⟨none, .store 33 (.tmp 40) (.tmp 38), 0, none, false, false, false⟩])
 (.seq
 (.ops false [mv 41 6 33, asg 4 41 33])
 (.ret))))))))⟩
theorem fa26_eq : fnA scfg.P (scfg.rxf 26) 26 = some fa26 := by kernel_rfl
noncomputable def hkI1 : KC := sk0.inl [(22, fa22), (24, fa24), (25, fa25), (26, fa26)]
theorem hikI1 : IKOK hkI1 := inl_ok sik0 (by
  intro x hx
  simp only [List.mem_cons, List.not_mem_nil, or_false] at hx
  rcases hx with rfl | rfl | rfl | rfl
  · exact ⟨rfl, fa22_eq, rfl⟩
  · exact ⟨rfl, fa24_eq, rfl⟩
  · exact ⟨rfl, fa25_eq, rfl⟩
  · exact ⟨rfl, fa26_eq, rfl⟩)
/-! ### (*budwood/side.File).Note -/
noncomputable def fa23 : FA := ⟨2, 32, [.tmp 4], [26],
 (.seq
 (.ops false [⟨(some 3), .box 41 (.tmp 1), 0, none, false, false, false⟩, ⟨(some 4), .assign (.const (.int .i64 (0))), 26, none, false, false, false⟩])
 (.seq
 (.block 0
 (.seq
 (.ops false [⟨(some 6), .load 41 (.tmp 3), 41, none, false, false, false⟩, ⟨(some 7), .call ⟨(.value (.func 37)), #[(.tmp 6)], #[41]⟩, 4, none, false, false, false⟩, ⟨(some 8), .unOp .not 4 (.tmp 7), 4, none, false, false, false⟩, asg 5 8 4])
 (.cond (.tmp 5)
 (.seq
 (.ops false [⟨(some 4), .assign (.const (.int .i64 (1))), 26, none, false, false, false⟩])
 (.ret))
 (.seq
 (.ops false [mv 10 0 47, ⟨(some 11), .nilCheck (.tmp 10), 0, none, false, false, false⟩, ⟨(some 12), .fieldAddr 57 (.tmp 11) 0, 0, none, false, false, false⟩, ⟨(some 13), .load 55 (.tmp 12), 55, none, false, false, false⟩, ⟨(some 14), .call ⟨(.value (.func 27)), #[(.tmp 13)], #[55]⟩, 3, none, false, false, false⟩, ⟨(some 15), .binOp .geq 3 (.tmp 14) (.const (.int .i64 (1024))) 3, 4, none, false, false, false⟩, asg 9 15 4])
 (.cond (.tmp 9)
 (.seq
 (.ops false [⟨(some 4), .assign (.const (.int .i64 (6))), 26, none, false, false, false⟩])
 (.ret))
 (.skip))))))
 (.seq
 (.ops true [mv 16 0 47, ⟨(some 17), .nilCheck (.tmp 16), 0, none, false, false, false⟩, ⟨(some 18), .fieldAddr 57 (.tmp 17) 0, 0, none, false, false, false⟩, ⟨(some 19), .load 55 (.tmp 18), 55, none, true, false, false⟩, mv 20 0 47, ⟨(some 21), .nilCheck (.tmp 20), 0, none, false, false, false⟩, ⟨(some 22), .fieldAddr 57 (.tmp 21) 0, 0, none, false, false, false⟩, ⟨(some 23), .load 55 (.tmp 22), 55, none, true, false, false⟩, ⟨(some 24), .nilCheck (.tmp 23), 0, none, false, false, false⟩, ⟨(some 25), .fieldAddr 78 (.tmp 24) 0, 0, none, false, false, false⟩, ⟨(some 26), .load 23 (.tmp 25), 23, none, true, false, false⟩, ⟨(some 27), .load 41 (.tmp 3), 41, none, true, false, false⟩, ⟨(some 28), .buildSlice 23 1 #[(0, (.tmp 27))], 23, none, true, false, false⟩, ⟨(some 29), .call ⟨(.builtin .append), #[(.tmp 26), (.tmp 28)], #[23, 23]⟩, 23, none, false, false, false⟩, ⟨(some 30), .nilCheck (.tmp 19), 0, none, false, false, false⟩, ⟨(some 31), .fieldAddr 78 (.tmp 30) 0, 0, none, false, false, false⟩, ⟨none, .store 23 (.tmp 31) (.tmp 29), 0, none, false, false, false⟩])
 (.seq
 (.ops false [⟨(some 4), .assign (.const (.int .i64 (0))), 26, none, false, false, false⟩])
 (.ret)))))⟩
theorem fa23_eq : fnA scfg.P (scfg.rxf 23) 23 = some fa23 := by kernel_rfl
noncomputable def sk : KC := hkI1.inl [(23, fa23)]
theorem sik : IKOK sk := inl_ok hikI1 (by
  intro x hx
  simp only [List.mem_cons, List.not_mem_nil, or_false] at hx
  rcases hx with rfl
  · exact ⟨rfl, fa23_eq, rfl⟩)
/-! ### (*budwood/side.queue(budwood/side.Change)).Len -/
noncomputable def fa27 : FA := ⟨1, 8, [.tmp 2], [3],
 (.seq
 (.ops false [⟨(some 2), .assign (.const (.int .i64 (0))), 3, none, false, false, false⟩])
 (.seq
 (.ops false [mv 3 0 55, ⟨(some 4), .nilCheck (.tmp 3), 0, none, false, false, false⟩, ⟨(some 5), .fieldAddr 78 (.tmp 4) 0, 0, none, false, false, false⟩, ⟨(some 6), .load 23 (.tmp 5), 23, none, false, false, false⟩, ⟨(some 7), .call ⟨(.builtin .len), #[(.tmp 6)], #[23]⟩, 3, none, false, false, false⟩, asg 2 7 3])
 (.ret)))⟩
theorem fa27_eq : fnA scfg.P (scfg.rxf 27) 27 = some fa27 := by kernel_rfl
noncomputable def e27 (a0l : List V) : R :=
  some (.done (V.int .i64 (a0l.length : Int)))
theorem e27_eq (a0l : List V) : enterK sk false fa27 [V.ref (V.agg [V.sl a0l]) 0] [] = e27 a0l := by kernel_rfl
theorem e27_run (a0l : List V) {o : Out} {v : V} (h : e27 a0l = some o) (hg : Go sk false 0 fa27 o (.done v)) : pcW scfg 27 [V.ref (V.agg [V.sl a0l]) 0] = some v := pcW_go sik rfl fa27_eq ((e27_eq a0l).trans h) hg
theorem e27_done (a0l : List V) {v : V} (h : e27 a0l = some (.done v)) : pcW scfg 27 [V.ref (V.agg [V.sl a0l]) 0] = some v := e27_run a0l h (.refl _)
/-! ### (*budwood/side.queue(budwood/side.Change)).All -/
noncomputable def fa28 : FA := ⟨1, 8, [.tmp 2], [23],
 (.seq
 (.ops false [⟨(some 2), .assign (.const (.slice none 0 0)), 23, none, false, false, false⟩])
 (.seq
 (.ops false [mv 3 0 55, ⟨(some 4), .nilCheck (.tmp 3), 0, none, false, false, false⟩, ⟨(some 5), .fieldAddr 78 (.tmp 4) 0, 0, none, false, false, false⟩, ⟨(some 6), .load 23 (.tmp 5), 23, none, false, false, false⟩, ⟨(some 7), .call ⟨(.value (.func 43)), #[(.tmp 6)], #[23]⟩, 23, none, false, false, false⟩, asg 2 7 23])
 (.ret)))⟩
theorem fa28_eq : fnA scfg.P (scfg.rxf 28) 28 = some fa28 := by kernel_rfl
noncomputable def e28 (a0l : List V) : R :=
  pcK scfg 43 [V.sl a0l] fun r =>
  kF 41 r fun r43 =>
  gd ((r43 : List V).all fun x => x.cells.all V.flat1) <|
  some (.done (V.fr 41 r43))
theorem e28_eq (a0l : List V) : enterK sk false fa28 [V.ref (V.agg [V.sl a0l]) 0] [] = e28 a0l := by kernel_rfl
theorem e28_run (a0l : List V) {o : Out} {v : V} (h : e28 a0l = some o) (hg : Go sk false 0 fa28 o (.done v)) : pcW scfg 28 [V.ref (V.agg [V.sl a0l]) 0] = some v := pcW_go sik rfl fa28_eq ((e28_eq a0l).trans h) hg
theorem e28_done (a0l : List V) {v : V} (h : e28 a0l = some (.done v)) : pcW scfg 28 [V.ref (V.agg [V.sl a0l]) 0] = some v := e28_run a0l h (.refl _)
/-! ### budwood/build.page -/
noncomputable def fa44 : FA := ⟨1, 9, [.tmp 2], [4],
 (.seq
 (.ops false [⟨(some 2), .assign (.const (.bool false)), 4, none, false, false, false⟩])
 (.seq
 (.ops false [mv 3 0 3, ⟨(some 4), .binOp .geq 3 (.tmp 3) (.const (.int .i64 (0))) 3, 4, none, false, false, false⟩, mv 5 4 4, ⟨(some 6), .move (.tmp 0), 3, (some (5, true)), false, false, false⟩, ⟨(some 7), .binOp .lss 3 (.tmp 6) (.const (.int .i64 (1024))) 3, 4, (some (5, true)), false, false, false⟩, ⟨(some 8), .pick (.tmp 5) (.tmp 7) (.const (.bool false)), 4, none, false, false, false⟩, asg 2 8 4])
 (.ret)))⟩
theorem fa44_eq : fnA scfg.P (scfg.rxf 44) 44 = some fa44 := by kernel_rfl
noncomputable def e44 (a0 : Int) : R :=
  cond (decide (a0 ≥ 0))
 (some (.done (V.bool (decide (a0 < 1024)))))
 (some (.done (V.bool false)))
theorem e44_eq (a0 : Int) : enterK sk false fa44 [V.int .i64 a0] [] = e44 a0 := by kernel_rfl
theorem e44_run (a0 : Int) {o : Out} {v : V} (h : e44 a0 = some o) (hg : Go sk false 0 fa44 o (.done v)) : pcW scfg 44 [V.int .i64 a0] = some v := pcW_go sik rfl fa44_eq ((e44_eq a0).trans h) hg
theorem e44_done (a0 : Int) {v : V} (h : e44 a0 = some (.done v)) : pcW scfg 44 [V.int .i64 a0] = some v := e44_run a0 h (.refl _)
/-! ### budwood/rec.Key -/
noncomputable def fa45 : FA := ⟨1, 10, [.tmp 2], [4],
 (.seq
 (.ops false [⟨(some 2), .assign (.const (.bool false)), 4, none, false, false, false⟩])
 (.seq
 (.ops false [mv 3 0 9, ⟨(some 4), .binOp .neq 9 (.tmp 3) (.const (.string ⟨⟨[]⟩⟩)) 9, 4, none, false, false, false⟩, mv 5 4 4, ⟨(some 6), .move (.tmp 0), 9, (some (5, true)), false, false, false⟩, ⟨(some 7), .call ⟨(.builtin .len), #[(.tmp 6)], #[9]⟩, 3, (some (5, true)), false, false, false⟩, ⟨(some 8), .binOp .leq 3 (.tmp 7) (.const (.int .i64 (16))) 3, 4, (some (5, true)), false, false, false⟩, ⟨(some 9), .pick (.tmp 5) (.tmp 8) (.const (.bool false)), 4, none, false, false, false⟩, asg 2 9 4])
 (.ret)))⟩
theorem fa45_eq : fnA scfg.P (scfg.rxf 45) 45 = some fa45 := by kernel_rfl
noncomputable def e45 (a0 : List UInt8) : R :=
  cond (!(a0 == []))
 (some (.done (V.bool (decide ((a0.length : Int) ≤ 16)))))
 (some (.done (V.bool false)))
theorem e45_eq (a0 : List UInt8) : enterK sk false fa45 [V.str a0] [] = e45 a0 := by kernel_rfl
theorem e45_run (a0 : List UInt8) {o : Out} {v : V} (h : e45 a0 = some o) (hg : Go sk false 0 fa45 o (.done v)) : pcW scfg 45 [V.str a0] = some v := pcW_go sik rfl fa45_eq ((e45_eq a0).trans h) hg
theorem e45_done (a0 : List UInt8) {v : V} (h : e45 a0 = some (.done v)) : pcW scfg 45 [V.str a0] = some v := e45_run a0 h (.refl _)
/-! ### budwood/budwoodref05.Key -/
noncomputable def fa46 : FA := ⟨1, 11, [.tmp 2], [4],
 (.seq
 (.ops false [⟨(some 2), .assign (.const (.bool false)), 4, none, false, false, false⟩])
 (.seq
 (.ops false [mv 3 0 9, ⟨(some 4), .call ⟨(.builtin .len), #[(.tmp 3)], #[9]⟩, 3, none, false, false, false⟩, ⟨(some 5), .binOp .geq 3 (.tmp 4) (.const (.int .i64 (1))) 3, 4, none, false, false, false⟩, mv 6 5 4, ⟨(some 7), .move (.tmp 0), 9, (some (6, true)), false, false, false⟩, ⟨(some 8), .call ⟨(.builtin .len), #[(.tmp 7)], #[9]⟩, 3, (some (6, true)), false, false, false⟩, ⟨(some 9), .binOp .leq 3 (.tmp 8) (.const (.int .i64 (16))) 3, 4, (some (6, true)), false, false, false⟩, ⟨(some 10), .pick (.tmp 6) (.tmp 9) (.const (.bool false)), 4, none, false, false, false⟩, asg 2 10 4])
 (.ret)))⟩
theorem fa46_eq : fnA scfg.P (scfg.rxf 46) 46 = some fa46 := by kernel_rfl
noncomputable def e46 (a0 : List UInt8) : R :=
  cond (decide ((a0.length : Int) ≥ 1))
 (some (.done (V.bool (decide ((a0.length : Int) ≤ 16)))))
 (some (.done (V.bool false)))
theorem e46_eq (a0 : List UInt8) : enterK sk false fa46 [V.str a0] [] = e46 a0 := by kernel_rfl
theorem e46_run (a0 : List UInt8) {o : Out} {v : V} (h : e46 a0 = some o) (hg : Go sk false 0 fa46 o (.done v)) : pcW scfg 46 [V.str a0] = some v := pcW_go sik rfl fa46_eq ((e46_eq a0).trans h) hg
theorem e46_done (a0 : List UInt8) {v : V} (h : e46 a0 = some (.done v)) : pcW scfg 46 [V.str a0] = some v := e46_run a0 h (.refl _)
/-! ### budwood/budwoodref05.Less -/
noncomputable def fa47 : FA := ⟨2, 37, [.tmp 4], [4],
 (.seq
 (.ops false [⟨(some 4), .assign (.const (.bool false)), 4, none, false, false, false⟩])
 (.seq
 (.seq
 (.ops false [⟨(some 5), .assign (.const (.int .i64 (0))), 3, none, false, false, false⟩])
 (.block 0
 (.loop ([2, 3] ++ List.range' 6 31)
 (.seq
 (.seq
 (.ops false [mv 6 5 3, mv 7 0 9, ⟨(some 8), .call ⟨(.builtin .len), #[(.tmp 7)], #[9]⟩, 3, none, false, false, false⟩, ⟨(some 9), .binOp .lss 3 (.tmp 6) (.tmp 8) 3, 4, none, false, false, false⟩, mv 10 9 4, ⟨(some 11), .move (.tmp 5), 3, (some (10, true)), false, false, false⟩, ⟨(some 12), .move (.tmp 1), 9, (some (10, true)), false, false, false⟩, ⟨(some 13), .call ⟨(.builtin .len), #[(.tmp 12)], #[9]⟩, 3, (some (10, true)), false, false, false⟩, ⟨(some 14), .binOp .lss 3 (.tmp 11) (.tmp 13) 3, 4, (some (10, true)), false, false, false⟩, ⟨(some 15), .pick (.tmp 10) (.tmp 14) (.const (.bool false)), 4, none, false, false, false⟩])
 (.cond (.tmp 15)
 (.skip)
 (.exit 0)))
 (.seq
 (.block 1
 (.seq
 (.ops true [mv 18 0 9, mv 19 5 3, ⟨(some 20), .index 9 (.tmp 18) (.tmp 19), 5, none, false, false, false⟩, mv 21 1 9, mv 22 5 3, ⟨(some 23), .index 9 (.tmp 21) (.tmp 22), 5, none, false, false, false⟩, ⟨(some 24), .binOp .neq 5 (.tmp 20) (.tmp 23) 5, 4, none, false, false, false⟩])
 (.cond (.tmp 24)
 (.seq
 (.ops true [mv 25 0 9, mv 26 5 3, ⟨(some 27), .index 9 (.tmp 25) (.tmp 26), 5, none, false, false, false⟩, mv 28 1 9, mv 29 5 3, ⟨(some 30), .index 9 (.tmp 28) (.tmp 29), 5, none, false, false, false⟩, ⟨(some 31), .binOp .lss 5 (.tmp 27) (.tmp 30) 5, 4, none, false, false, false⟩, asg 4 31 4])
 (.ret))
 (.skip))))
 (.ops false [mv 16 5 3, ⟨(some 17), .binOp .add 3 (.tmp 16) (.const (.int .i64 (1))) 3, 3, none, false, false, false⟩, asg 5 17 3]))))))
 (.seq
 (.ops false [mv 32 0 9, ⟨(some 33), .call ⟨(.builtin .len), #[(.tmp 32)], #[9]⟩, 3, none, false, false, false⟩, mv 34 1 9, ⟨(some 35), .call ⟨(.builtin .len), #[(.tmp 34)], #[9]⟩, 3, none, false, false, false⟩, ⟨(some 36), .binOp .lss 3 (.tmp 33) (.tmp 35) 3, 4, none, false, false, false⟩, asg 4 36 4])
 (.ret))))⟩
theorem fa47_eq : fnA scfg.P (scfg.rxf 47) 47 = some fa47 := by kernel_rfl
def T47_0 (x0 : List UInt8) (x1 : List UInt8) (x5 : Int) : S := ⟨[V.str x0, V.str x1, V.junk, V.junk, V.bool false, V.int .i64 x5] ++ (JU 31), []⟩
noncomputable def e47 (a0 : List UInt8) (a1 : List UInt8) : R :=
  some (.head 0 (T47_0 a0 a1 0))
theorem e47_eq (a0 : List UInt8) (a1 : List UInt8) : enterK sk false fa47 [V.str a0, V.str a1] [] = e47 a0 a1 := by kernel_rfl
theorem e47_run (a0 : List UInt8) (a1 : List UInt8) {o : Out} {v : V} (h : e47 a0 a1 = some o) (hg : Go sk false 0 fa47 o (.done v)) : pcW scfg 47 [V.str a0, V.str a1] = some v := pcW_go sik rfl fa47_eq ((e47_eq a0 a1).trans h) hg
noncomputable def s47_0 (x0 : List UInt8) (x1 : List UInt8) (x5 : Int) : R :=
  cond (decide (x5 < (x0.length : Int)))
 (cond (decide (x5 < (x1.length : Int)))
 (gd (decide (0 ≤ x5)) <|
  idxK x0 x5.toNat fun c =>
  gd (decide (0 ≤ x5)) <|
  idxK x1 x5.toNat fun c_1 =>
  cond ((c.toNat : Int) != (c_1.toNat : Int))
 (gd (decide (0 ≤ x5)) <|
  idxK x0 x5.toNat fun c_2 =>
  gd (decide (0 ≤ x5)) <|
  idxK x1 x5.toNat fun c_3 =>
  some (.done (V.bool (decide ((c_2.toNat : Int) < (c_3.toNat : Int))))))
 (some (.head 0 (T47_0 x0 x1 (W .i64 (x5 + 1))))))
 (some (.done (V.bool (decide ((x0.length : Int) < (x1.length : Int)))))))
 (some (.done (V.bool (decide ((x0.length : Int) < (x1.length : Int))))))
theorem s47_0_eq (x0 : List UInt8) (x1 : List UInt8) (x5 : Int) : goK sk false 0 fa47 0 (T47_0 x0 x1 x5) = s47_0 x0 x1 x5 := by kernel_rfl
theorem s47_0_run (x0 : List UInt8) (x1 : List UInt8) (x5 : Int) {o o' : Out} (h : s47_0 x0 x1 x5 = some o) (hg : Go sk false 0 fa47 o o') : Go sk false 0 fa47 (.head 0 (T47_0 x0 x1 x5)) o' := .step ((s47_0_eq x0 x1 x5).trans h) hg
/-! ### budwood/build.Right -/
noncomputable def fa29 : FA := ⟨1, 53, [.tmp 2], [4],
 (.seq
 (.ops false [⟨(some 2), .assign (.const (.bool false)), 4, none, false, false, false⟩])
 (.seq
 (.seq
 (.ops false [mv 5 0 22, ⟨(some 6), .call ⟨(.builtin .len), #[(.tmp 5)], #[22]⟩, 3, none, false, false, false⟩, ⟨(some 7), .binOp .eql 3 (.tmp 6) (.const (.int .i64 (0))) 3, 4, none, false, false, false⟩, mv 8 7 4, ⟨(some 9), .move (.tmp 0), 22, (some (8, false)), false, false, false⟩, ⟨(some 10), .call ⟨(.builtin .len), #[(.tmp 9)], #[22]⟩, 3, (some (8, false)), false, false, false⟩, ⟨(some 11), .binOp .gtr 3 (.tmp 10) (.const (.int .i64 (1024))) 3, 4, (some (8, false)), false, false, false⟩, ⟨(some 12), .pick (.tmp 8) (.const (.bool true)) (.tmp 11), 4, none, false, false, false⟩, mv 13 12 4, ⟨(some 14), .move (.tmp 0), 22, (some (13, false)), false, false, false⟩, ⟨(some 15), .indexAddr 22 (.tmp 14) (.const (.int .i64 (0))), 0, (some (13, false)), false, false, false⟩, ⟨(some 16), .fieldAddr 66 (.tmp 15) 0, 0, (some (13, false)), false, false, false⟩, ⟨(some 17), .load 9 (.tmp 16), 9, (some (13, false)), false, false, false⟩, ⟨(some 18), .binOp .neq 9 (.tmp 17) (.const (.string ⟨⟨[]⟩⟩)) 9, 4, (some (13, false)), false, false, false⟩, ⟨(some 19), .pick (.tmp 13) (.const (.bool true)) (.tmp 18), 4, none, false, false, false⟩])
 (.cond (.tmp 19)
 (.seq
 (.ops false [⟨(some 2), .assign (.const (.bool false)), 4, none, false, false, false⟩])
 (.ret))
 (.skip)))
 (.seq
 (.seq
 (.ops false [mv 20 0 22, ⟨(some 21), .call ⟨(.builtin .len), #[(.tmp 20)], #[22]⟩, 3, none, false, false, false⟩, ⟨(some 22), .move (.const (.int .i64 (0))), 3, none, false, false, false⟩])
 (.block 0
 (.loop ([1] ++ List.range' 3 17 ++ List.range' 23 30)
 (.seq
 (.ops false [⟨(some 23), .binOp .lss 3 (.tmp 22) (.tmp 21) 3, 0, none, false, false, false⟩])
 (.seq
 (.cond (.tmp 23)
 (.skip)
 (.exit 0))
 (.seq
 (.block 1
 (.seq
 (.ops false [mv 24 22 3, ⟨(some 25), .indexAddr 22 (.tmp 20) (.tmp 22), 0, none, false, false, false⟩, ⟨(some 26), .load 66 (.tmp 25), 66, none, false, false, false⟩, ⟨(some 4), .alloc 66, 0, none, false, false, false⟩, asg 3 24 3, ⟨none, .store 66 (.tmp 4) (.tmp 26), 0, none, false, false, false⟩])
 (.seq
 (.ops true [⟨(some 27), .fieldAddr 66 (.tmp 4) 1, 0, none, false, false, false⟩, ⟨(some 28), .load 3 (.tmp 27), 3, none, false, false, false⟩, ⟨(some 29), .call ⟨(.value (.func 44)), #[(.tmp 28)], #[3]⟩, 4, none, false, true, false⟩, ⟨(some 30), .unOp .not 4 (.tmp 29), 4, none, false, false, false⟩, mv 31 30 4, ⟨(some 32), .move (.tmp 3), 3, (some (31, false)), false, false, false⟩, ⟨(some 33), .binOp .gtr 3 (.tmp 32) (.const (.int .i64 (0))) 3, 4, (some (31, false)), false, false, false⟩, ⟨(some 34), .move (.tmp 33), 4, (some (31, false)), false, false, false⟩, ⟨(some 35), .fieldAddr 66 (.tmp 4) 0, 0, (some (34, true)), false, false, false⟩, ⟨(some 36), .load 9 (.tmp 35), 9, (some (34, true)), false, false, false⟩, ⟨(some 37), .call ⟨(.value (.func 45)), #[(.tmp 36)], #[9]⟩, 4, (some (34, true)), false, true, false⟩, ⟨(some 38), .unOp .not 4 (.tmp 37), 4, (some (34, true)), false, false, false⟩, ⟨(some 39), .move (.tmp 38), 4, (some (34, true)), false, false, false⟩, ⟨(some 40), .fieldAddr 66 (.tmp 4) 0, 0, (some (39, false)), false, false, false⟩, ⟨(some 41), .load 9 (.tmp 40), 9, (some (39, false)), false, false, false⟩, ⟨(some 42), .move (.tmp 0), 22, (some (39, false)), false, false, false⟩, ⟨(some 43), .move (.tmp 3), 3, (some (39, false)), false, false, false⟩, ⟨(some 44), .binOp .sub 3 (.tmp 43) (.const (.int .i64 (1))) 3, 3, (some (39, false)), false, false, false⟩, ⟨(some 45), .indexAddr 22 (.tmp 42) (.tmp 44), 0, (some (39, false)), false, false, false⟩, ⟨(some 46), .fieldAddr 66 (.tmp 45) 0, 0, (some (39, false)), false, false, false⟩, ⟨(some 47), .load 9 (.tmp 46), 9, (some (39, false)), false, false, false⟩, ⟨(some 48), .binOp .leq 9 (.tmp 41) (.tmp 47) 9, 4, (some (39, false)), false, false, false⟩, ⟨(some 49), .pick (.tmp 39) (.const (.bool true)) (.tmp 48), 4, (some (34, true)), false, false, false⟩, ⟨(some 50), .pick (.tmp 34) (.tmp 49) (.const (.bool false)), 4, (some (31, false)), false, false, false⟩, ⟨(some 51), .pick (.tmp 31) (.const (.bool true)) (.tmp 50), 4, none, false, false, false⟩])
 (.cond (.tmp 51)
 (.seq
 (.ops false [⟨(some 2), .assign (.const (.bool false)), 4, none, false, false, false⟩])
 (.ret))
 (.skip)))))
 (.ops false [⟨(some 52), .binOp .add 3 (.tmp 22) (.const (.int .i64 (1))) 3, 3, none, false, false, false⟩, mv 22 52 3])))))))
 (.seq
 (.ops false [⟨(some 2), .assign (.const (.bool true)), 4, none, false, false, false⟩])
 (.ret)))))⟩
theorem fa29_eq : fnA scfg.P (scfg.rxf 29) 29 = some fa29 := by kernel_rfl
def T29_0 (x0 : List V) (x20 : List V) (x21 : Int) (x22 : Int) : S := ⟨[V.sl x0, V.junk, V.bool false] ++ (JU 17) ++ [V.sl x20, V.int .i64 x21, V.int .i64 x22] ++ (JU 30), []⟩
noncomputable def e29 (a0 : List V) : R :=
  cond ((a0.length : Int) == (0 : Int))
 (some (.done (V.bool false)))
 (cond (decide ((a0.length : Int) > 1024))
 (some (.done (V.bool false)))
 (idxK a0 0 fun v =>
  d66 v fun low0 page =>
  cond (!(low0 == []))
 (some (.done (V.bool false)))
 (some (.head 0 (T29_0 a0 a0 (a0.length : Int) 0)))))
theorem e29_eq (a0 : List V) : enterK sk false fa29 [V.sl a0] [] = e29 a0 := by kernel_rfl
theorem e29_run (a0 : List V) {o : Out} {v : V} (h : e29 a0 = some o) (hg : Go sk false 0 fa29 o (.done v)) : pcW scfg 29 [V.sl a0] = some v := pcW_go sik rfl fa29_eq ((e29_eq a0).trans h) hg
noncomputable def s29_0 (x0 : List V) (x20 : List V) (x21 : Int) (x22 : Int) : R :=
  cond (decide (x22 < x21))
 (gd (decide (0 ≤ x22)) <|
  idxK x20 x22.toNat fun v =>
  d66 v fun low0 page =>
  pcK scfg 44 [V.int .i64 page] fun r =>
  kB r fun r44 =>
  cond (!r44)
 (some (.done (V.bool false)))
 (cond (decide (x22 > 0))
 (pcK scfg 45 [V.str low0] fun r_1 =>
  kB r_1 fun r45 =>
  cond (!r45)
 (some (.done (V.bool false)))
 (gd (decide (0 ≤ W .i64 (x22 - 1))) <|
  idxK x0 ((W .i64 (x22 - 1)).toNat) fun v_1 =>
  d66 v_1 fun low0_1 page_1 =>
  cond (Op.bytesLess low0 low0_1 || low0 == low0_1)
 (some (.done (V.bool false)))
 (some (.head 0 (T29_0 x0 x20 x21 (W .i64 (x22 + 1)))))))
 (some (.head 0 (T29_0 x0 x20 x21 (W .i64 (x22 + 1)))))))
 (some (.done (V.bool true)))
theorem s29_0_eq (x0 : List V) (x20 : List V) (x21 : Int) (x22 : Int) : goK sk false 0 fa29 0 (T29_0 x0 x20 x21 x22) = s29_0 x0 x20 x21 x22 := by kernel_rfl
theorem s29_0_run (x0 : List V) (x20 : List V) (x21 : Int) (x22 : Int) {o o' : Out} (h : s29_0 x0 x20 x21 x22 = some o) (hg : Go sk false 0 fa29 o o') : Go sk false 0 fa29 (.head 0 (T29_0 x0 x20 x21 x22)) o' := .step ((s29_0_eq x0 x20 x21 x22).trans h) hg
/-! ### budwood/budwoodref17.Right -/
noncomputable def fa33 : FA := ⟨1, 74, [.tmp 2], [4],
 (.seq
 (.ops false [⟨(some 2), .assign (.const (.bool false)), 4, none, false, false, false⟩])
 (.seq
 (.seq
 (.ops false [⟨(some 3), .assign (.const (.int .i64 (0))), 3, none, false, false, false⟩])
 (.block 0
 (.loop ([1] ++ List.range' 4 70)
 (.seq
 (.seq
 (.ops false [mv 4 3 3, mv 5 0 29, ⟨(some 6), .call ⟨(.builtin .len), #[(.tmp 5)], #[29]⟩, 3, none, false, false, false⟩, ⟨(some 7), .binOp .lss 3 (.tmp 4) (.tmp 6) 3, 4, none, false, false, false⟩])
 (.cond (.tmp 7)
 (.skip)
 (.exit 0)))
 (.seq
 (.block 1
 (.seq
 (.seq
 (.ops false [mv 10 0 29, mv 11 3 3, ⟨(some 12), .indexAddr 29 (.tmp 10) (.tmp 11), 0, none, false, false, false⟩, ⟨(some 13), .fieldAddr 71 (.tmp 12) 1, 0, none, false, false, false⟩, ⟨(some 14), .load 3 (.tmp 13), 3, none, false, false, false⟩, ⟨(some 15), .binOp .lss 3 (.tmp 14) (.const (.int .i64 (0))) 3, 4, none, false, false, false⟩, mv 16 15 4, ⟨(some 17), .move (.tmp 0), 29, (some (16, false)), false, false, false⟩, ⟨(some 18), .move (.tmp 3), 3, (some (16, false)), false, false, false⟩, ⟨(some 19), .indexAddr 29 (.tmp 17) (.tmp 18), 0, (some (16, false)), false, false, false⟩, ⟨(some 20), .fieldAddr 71 (.tmp 19) 1, 0, (some (16, false)), false, false, false⟩, ⟨(some 21), .load 3 (.tmp 20), 3, (some (16, false)), false, false, false⟩, ⟨(some 22), .binOp .gtr 3 (.tmp 21) (.const (.int .i64 (1023))) 3, 4, (some (16, false)), false, false, false⟩, ⟨(some 23), .pick (.tmp 16) (.const (.bool true)) (.tmp 22), 4, none, false, false, false⟩, mv 24 23 4, ⟨(some 25), .move (.tmp 3), 3, (some (24, false)), false, false, false⟩, ⟨(some 26), .binOp .eql 3 (.tmp 25) (.const (.int .i64 (0))) 3, 4, (some (24, false)), false, false, false⟩, ⟨(some 27), .move (.tmp 26), 4, (some (24, false)), false, false, false⟩, ⟨(some 28), .move (.tmp 0), 29, (some (27, true)), false, false, false⟩, ⟨(some 29), .move (.tmp 3), 3, (some (27, true)), false, false, false⟩, ⟨(some 30), .indexAddr 29 (.tmp 28) (.tmp 29), 0, (some (27, true)), false, false, false⟩, ⟨(some 31), .fieldAddr 71 (.tmp 30) 0, 0, (some (27, true)), false, false, false⟩, ⟨(some 32), .load 9 (.tmp 31), 9, (some (27, true)), false, false, false⟩, ⟨(some 33), .binOp .neq 9 (.tmp 32) (.const (.string ⟨⟨[]⟩⟩)) 9, 4, (some (27, true)), false, false, false⟩, ⟨(some 34), .pick (.tmp 27) (.tmp 33) (.const (.bool false)), 4, (some (24, false)), false, false, false⟩, ⟨(some 35), .pick (.tmp 24) (.const (.bool true)) (.tmp 34), 4, none, false, false, false⟩, mv 36 35 4, ⟨(some 37), .move (.tmp 3), 3, (some (36, false)), false, false, false⟩, ⟨(some 38), .binOp .gtr 3 (.tmp 37) (.const (.int .i64 (0))) 3, 4, (some (36, false)), false, false, false⟩, ⟨(some 39), .move (.tmp 38), 4, (some (36, false)), false, false, false⟩, ⟨(some 40), .move (.tmp 0), 29, (some (39, true)), false, false, false⟩, ⟨(some 41), .move (.tmp 3), 3, (some (39, true)), false, false, false⟩, ⟨(some 42), .indexAddr 29 (.tmp 40) (.tmp 41), 0, (some (39, true)), false, false, false⟩, ⟨(some 43), .fieldAddr 71 (.tmp 42) 0, 0, (some (39, true)), false, false, false⟩, ⟨(some 44), .load 9 (.tmp 43), 9, (some (39, true)), false, false, false⟩, ⟨(some 45), .call ⟨(.value (.func 46)), #[(.tmp 44)], #[9]⟩, 4, (some (39, true)), false, false, false⟩, ⟨(some 46), .unOp .not 4 (.tmp 45), 4, (some (39, true)), false, false, false⟩, ⟨(some 47), .pick (.tmp 39) (.tmp 46) (.const (.bool false)), 4, (some (36, false)), false, false, false⟩, ⟨(some 48), .pick (.tmp 36) (.const (.bool true)) (.tmp 47), 4, none, false, false, false⟩])
 (.cond (.tmp 48)
 (.seq
 (.ops false [⟨(some 2), .assign (.const (.bool false)), 4, none, false, false, false⟩])
 (.ret))
 (.skip)))
 (.seq
 (.ops true [mv 49 3 3, ⟨(some 50), .binOp .gtr 3 (.tmp 49) (.const (.int .i64 (0))) 3, 4, none, false, false, false⟩, mv 51 50 4, ⟨(some 52), .move (.tmp 0), 29, (some (51, true)), false, false, false⟩, ⟨(some 53), .move (.tmp 3), 3, (some (51, true)), false, false, false⟩, ⟨(some 54), .binOp .sub 3 (.tmp 53) (.const (.int .i64 (1))) 3, 3, (some (51, true)), false, false, false⟩, ⟨(some 55), .indexAddr 29 (.tmp 52) (.tmp 54), 0, (some (51, true)), false, false, false⟩, ⟨(some 56), .fieldAddr 71 (.tmp 55) 0, 0, (some (51, true)), false, false, false⟩, ⟨(some 57), .load 9 (.tmp 56), 9, (some (51, true)), false, false, false⟩, ⟨(some 58), .move (.tmp 0), 29, (some (51, true)), false, false, false⟩, ⟨(some 59), .move (.tmp 3), 3, (some (51, true)), false, false, false⟩, ⟨(some 60), .indexAddr 29 (.tmp 58) (.tmp 59), 0, (some (51, true)), false, false, false⟩, ⟨(some 61), .fieldAddr 71 (.tmp 60) 0, 0, (some (51, true)), false, false, false⟩, ⟨(some 62), .load 9 (.tmp 61), 9, (some (51, true)), false, false, false⟩, ⟨(some 63), .call ⟨(.value (.func 47)), #[(.tmp 57), (.tmp 62)], #[9, 9]⟩, 4, (some (51, true)), false, true, false⟩, ⟨(some 64), .unOp .not 4 (.tmp 63), 4, (some (51, true)), false, false, false⟩, ⟨(some 65), .pick (.tmp 51) (.tmp 64) (.const (.bool false)), 4, none, false, false, false⟩])
 (.cond (.tmp 65)
 (.seq
 (.ops false [⟨(some 2), .assign (.const (.bool false)), 4, none, false, false, false⟩])
 (.ret))
 (.skip)))))
 (.ops false [mv 8 3 3, ⟨(some 9), .binOp .add 3 (.tmp 8) (.const (.int .i64 (1))) 3, 3, none, false, false, false⟩, asg 3 9 3]))))))
 (.seq
 (.ops false [mv 66 0 29, ⟨(some 67), .call ⟨(.builtin .len), #[(.tmp 66)], #[29]⟩, 3, none, false, false, false⟩, ⟨(some 68), .binOp .geq 3 (.tmp 67) (.const (.int .i64 (1))) 3, 4, none, false, false, false⟩, mv 69 68 4, ⟨(some 70), .move (.tmp 0), 29, (some (69, true)), false, false, false⟩, ⟨(some 71), .call ⟨(.builtin .len), #[(.tmp 70)], #[29]⟩, 3, (some (69, true)), false, false, false⟩, ⟨(some 72), .binOp .leq 3 (.tmp 71) (.const (.int .i64 (1024))) 3, 4, (some (69, true)), false, false, false⟩, ⟨(some 73), .pick (.tmp 69) (.tmp 72) (.const (.bool false)), 4, none, false, false, false⟩, asg 2 73 4])
 (.ret))))⟩
theorem fa33_eq : fnA scfg.P (scfg.rxf 33) 33 = some fa33 := by kernel_rfl
def T33_0 (x0 : List V) (x3 : Int) : S := ⟨[V.sl x0, V.junk, V.bool false, V.int .i64 x3] ++ (JU 70), []⟩
noncomputable def e33 (a0 : List V) : R :=
  some (.head 0 (T33_0 a0 0))
theorem e33_eq (a0 : List V) : enterK sk false fa33 [V.sl a0] [] = e33 a0 := by kernel_rfl
theorem e33_run (a0 : List V) {o : Out} {v : V} (h : e33 a0 = some o) (hg : Go sk false 0 fa33 o (.done v)) : pcW scfg 33 [V.sl a0] = some v := pcW_go sik rfl fa33_eq ((e33_eq a0).trans h) hg
noncomputable def s33_0 (x0 : List V) (x3 : Int) : R :=
  cond (decide (x3 < (x0.length : Int)))
 (gd (decide (0 ≤ x3)) <|
  idxK x0 x3.toNat fun v =>
  d71 v fun low0 page =>
  cond (decide (page < 0))
 (some (.done (V.bool false)))
 (gd (decide (0 ≤ x3)) <|
  idxK x0 x3.toNat fun v_1 =>
  d71 v_1 fun low0_1 page_1 =>
  cond (decide (page_1 > 1023))
 (some (.done (V.bool false)))
 (cond (x3 == (0 : Int))
 (gd (decide (0 ≤ x3)) <|
  idxK x0 x3.toNat fun v_2 =>
  d71 v_2 fun low0_2 page_2 =>
  cond (!(low0_2 == []))
 (some (.done (V.bool false)))
 (cond (decide (x3 > 0))
 (gd (decide (0 ≤ x3)) <|
  idxK x0 x3.toNat fun v_3 =>
  d71 v_3 fun low0_3 page_3 =>
  pcK scfg 46 [V.str low0_3] fun r =>
  kB r fun r46 =>
  cond (!r46)
 (some (.done (V.bool false)))
 (cond (decide (x3 > 0))
 (gd (decide (0 ≤ W .i64 (x3 - 1))) <|
  idxK x0 ((W .i64 (x3 - 1)).toNat) fun v_4 =>
  d71 v_4 fun low0_4 page_4 =>
  gd (decide (0 ≤ x3)) <|
  idxK x0 x3.toNat fun v_5 =>
  d71 v_5 fun low0_5 page_5 =>
  pcK scfg 47 [V.str low0_4, V.str low0_5] fun r_1 =>
  kB r_1 fun r47 =>
  cond (!r47)
 (some (.done (V.bool false)))
 (some (.head 0 (T33_0 x0 (W .i64 (x3 + 1))))))
 (some (.head 0 (T33_0 x0 (W .i64 (x3 + 1)))))))
 (cond (decide (x3 > 0))
 (gd (decide (0 ≤ W .i64 (x3 - 1))) <|
  idxK x0 ((W .i64 (x3 - 1)).toNat) fun v_6 =>
  d71 v_6 fun low0_6 page_6 =>
  gd (decide (0 ≤ x3)) <|
  idxK x0 x3.toNat fun v_7 =>
  d71 v_7 fun low0_7 page_7 =>
  pcK scfg 47 [V.str low0_6, V.str low0_7] fun r_2 =>
  kB r_2 fun r47_1 =>
  cond (!r47_1)
 (some (.done (V.bool false)))
 (some (.head 0 (T33_0 x0 (W .i64 (x3 + 1))))))
 (some (.head 0 (T33_0 x0 (W .i64 (x3 + 1))))))))
 (cond (decide (x3 > 0))
 (gd (decide (0 ≤ x3)) <|
  idxK x0 x3.toNat fun v_8 =>
  d71 v_8 fun low0_8 page_8 =>
  pcK scfg 46 [V.str low0_8] fun r_3 =>
  kB r_3 fun r46_1 =>
  cond (!r46_1)
 (some (.done (V.bool false)))
 (cond (decide (x3 > 0))
 (gd (decide (0 ≤ W .i64 (x3 - 1))) <|
  idxK x0 ((W .i64 (x3 - 1)).toNat) fun v_9 =>
  d71 v_9 fun low0_9 page_9 =>
  gd (decide (0 ≤ x3)) <|
  idxK x0 x3.toNat fun v_10 =>
  d71 v_10 fun low0_10 page_10 =>
  pcK scfg 47 [V.str low0_9, V.str low0_10] fun r_4 =>
  kB r_4 fun r47_2 =>
  cond (!r47_2)
 (some (.done (V.bool false)))
 (some (.head 0 (T33_0 x0 (W .i64 (x3 + 1))))))
 (some (.head 0 (T33_0 x0 (W .i64 (x3 + 1)))))))
 (cond (decide (x3 > 0))
 (gd (decide (0 ≤ W .i64 (x3 - 1))) <|
  idxK x0 ((W .i64 (x3 - 1)).toNat) fun v_11 =>
  d71 v_11 fun low0_11 page_11 =>
  gd (decide (0 ≤ x3)) <|
  idxK x0 x3.toNat fun v_12 =>
  d71 v_12 fun low0_12 page_12 =>
  pcK scfg 47 [V.str low0_11, V.str low0_12] fun r_5 =>
  kB r_5 fun r47_3 =>
  cond (!r47_3)
 (some (.done (V.bool false)))
 (some (.head 0 (T33_0 x0 (W .i64 (x3 + 1))))))
 (some (.head 0 (T33_0 x0 (W .i64 (x3 + 1))))))))))
 (cond (decide ((x0.length : Int) ≥ 1))
 (some (.done (V.bool (decide ((x0.length : Int) ≤ 1024)))))
 (some (.done (V.bool false))))
theorem s33_0_eq (x0 : List V) (x3 : Int) : goK sk false 0 fa33 0 (T33_0 x0 x3) = s33_0 x0 x3 := by kernel_rfl
theorem s33_0_run (x0 : List V) (x3 : Int) {o o' : Out} (h : s33_0 x0 x3 = some o) (hg : Go sk false 0 fa33 o o') : Go sk false 0 fa33 (.head 0 (T33_0 x0 x3)) o' := .step ((s33_0_eq x0 x3).trans h) hg
/-! ### (budwood/side.Change).right -/
noncomputable def fa37 : FA := ⟨1, 34, [.tmp 2], [4],
 (.seq
 (.ops false [⟨(some 1), .box 41 (.tmp 0), 0, none, false, false, false⟩, ⟨(some 2), .assign (.const (.bool false)), 4, none, false, false, false⟩])
 (.seq
 (.ops false [⟨(some 4), .fieldAddr 41 (.tmp 1) 1, 0, none, false, false, false⟩, ⟨(some 5), .load 9 (.tmp 4), 9, none, false, false, false⟩, ⟨(some 6), .call ⟨(.value (.func 45)), #[(.tmp 5)], #[9]⟩, 4, none, false, false, false⟩, asg 3 6 4])
 (.seq
 (.seq
 (.ops false [⟨(some 7), .fieldAddr 41 (.tmp 1) 0, 0, none, false, false, false⟩, ⟨(some 8), .load 3 (.tmp 7), 3, none, false, false, false⟩, ⟨(some 9), .binOp .neq 3 (.tmp 8) (.const (.int .i64 (1))) 3, 4, none, false, false, false⟩])
 (.cond (.tmp 9)
 (.ops false [⟨(some 10), .fieldAddr 41 (.tmp 1) 1, 0, none, false, false, false⟩, ⟨(some 11), .load 9 (.tmp 10), 9, none, false, false, false⟩, ⟨(some 12), .binOp .eql 9 (.tmp 11) (.const (.string ⟨⟨[]⟩⟩)) 9, 4, none, false, false, false⟩, asg 3 12 4])
 (.skip)))
 (.seq
 (.ops false [⟨(some 13), .fieldAddr 41 (.tmp 1) 0, 0, none, false, false, false⟩, ⟨(some 14), .load 3 (.tmp 13), 3, none, false, false, false⟩, ⟨(some 15), .binOp .geq 3 (.tmp 14) (.const (.int .i64 (1))) 3, 4, none, false, false, false⟩, mv 16 15 4, ⟨(some 17), .fieldAddr 41 (.tmp 1) 0, 0, (some (16, true)), false, false, false⟩, ⟨(some 18), .load 3 (.tmp 17), 3, (some (16, true)), false, false, false⟩, ⟨(some 19), .binOp .leq 3 (.tmp 18) (.const (.int .i64 (3))) 3, 4, (some (16, true)), false, false, false⟩, ⟨(some 20), .pick (.tmp 16) (.tmp 19) (.const (.bool false)), 4, none, false, false, false⟩, mv 21 20 4, ⟨(some 22), .move (.tmp 3), 4, (some (21, true)), false, false, false⟩, ⟨(some 23), .pick (.tmp 21) (.tmp 22) (.const (.bool false)), 4, none, false, false, false⟩, mv 24 23 4, ⟨(some 25), .fieldAddr 41 (.tmp 1) 2, 0, (some (24, true)), false, false, false⟩, ⟨(some 26), .load 3 (.tmp 25), 3, (some (24, true)), false, false, false⟩, ⟨(some 27), .binOp .geq 3 (.tmp 26) (.const (.int .i64 (0))) 3, 4, (some (24, true)), false, false, false⟩, ⟨(some 28), .pick (.tmp 24) (.tmp 27) (.const (.bool false)), 4, none, false, false, false⟩, mv 29 28 4, ⟨(some 30), .fieldAddr 41 (.tmp 1) 2, 0, (some (29, true)), false, false, false⟩, ⟨(some 31), .load 3 (.tmp 30), 3, (some (29, true)), false, false, false⟩, ⟨(some 32), .binOp .lss 3 (.tmp 31) (.const (.int .i64 (1024))) 3, 4, (some (29, true)), false, false, false⟩, ⟨(some 33), .pick (.tmp 29) (.tmp 32) (.const (.bool false)), 4, none, false, false, false⟩, asg 2 33 4])
 (.ret)))))⟩
theorem fa37_eq : fnA scfg.P (scfg.rxf 37) 37 = some fa37 := by kernel_rfl
noncomputable def e37 (a0Kind : Int) (a0Low : List UInt8) (a0Page : Int) : R :=
  pcK scfg 45 [V.str a0Low] fun r =>
  kB r fun r45 =>
  cond (a0Kind != (1 : Int))
 (cond (decide (a0Kind ≥ 1))
 (cond (decide (a0Kind ≤ 3))
 (cond (a0Low == [])
 (cond (decide (a0Page ≥ 0))
 (some (.done (V.bool (decide (a0Page < 1024)))))
 (some (.done (V.bool false))))
 (some (.done (V.bool false))))
 (some (.done (V.bool false))))
 (some (.done (V.bool false))))
 (cond (decide (a0Kind ≥ 1))
 (cond (decide (a0Kind ≤ 3))
 (cond r45
 (cond (decide (a0Page ≥ 0))
 (some (.done (V.bool (decide (a0Page < 1024)))))
 (some (.done (V.bool false))))
 (some (.done (V.bool false))))
 (some (.done (V.bool false))))
 (some (.done (V.bool false))))
theorem e37_eq (a0Kind : Int) (a0Low : List UInt8) (a0Page : Int) : enterK sk false fa37 [V.agg [V.int .i64 a0Kind, V.str a0Low, V.int .i64 a0Page]] [] = e37 a0Kind a0Low a0Page := by kernel_rfl
theorem e37_run (a0Kind : Int) (a0Low : List UInt8) (a0Page : Int) {o : Out} {v : V} (h : e37 a0Kind a0Low a0Page = some o) (hg : Go sk false 0 fa37 o (.done v)) : pcW scfg 37 [V.agg [V.int .i64 a0Kind, V.str a0Low, V.int .i64 a0Page]] = some v := pcW_go sik rfl fa37_eq ((e37_eq a0Kind a0Low a0Page).trans h) hg
theorem e37_done (a0Kind : Int) (a0Low : List UInt8) (a0Page : Int) {v : V} (h : e37 a0Kind a0Low a0Page = some (.done v)) : pcW scfg 37 [V.agg [V.int .i64 a0Kind, V.str a0Low, V.int .i64 a0Page]] = some v := e37_run a0Kind a0Low a0Page h (.refl _)
/-! ### budwood/budwoodref19.Right -/
noncomputable def fa41 : FA := ⟨1, 30, [.tmp 2], [4],
 (.seq
 (.ops false [⟨(some 1), .box 43 (.tmp 0), 0, none, false, false, false⟩, ⟨(some 2), .assign (.const (.bool false)), 4, none, false, false, false⟩])
 (.seq
 (.seq
 (.ops false [⟨(some 3), .fieldAddr 43 (.tmp 1) 2, 0, none, false, false, false⟩, ⟨(some 4), .load 3 (.tmp 3), 3, none, false, false, false⟩, ⟨(some 5), .binOp .lss 3 (.tmp 4) (.const (.int .i64 (0))) 3, 4, none, false, false, false⟩, mv 6 5 4, ⟨(some 7), .fieldAddr 43 (.tmp 1) 2, 0, (some (6, false)), false, false, false⟩, ⟨(some 8), .load 3 (.tmp 7), 3, (some (6, false)), false, false, false⟩, ⟨(some 9), .binOp .gtr 3 (.tmp 8) (.const (.int .i64 (1023))) 3, 4, (some (6, false)), false, false, false⟩, ⟨(some 10), .pick (.tmp 6) (.const (.bool true)) (.tmp 9), 4, none, false, false, false⟩])
 (.cond (.tmp 10)
 (.seq
 (.ops false [⟨(some 2), .assign (.const (.bool false)), 4, none, false, false, false⟩])
 (.ret))
 (.skip)))
 (.seq
 (.seq
 (.ops false [⟨(some 11), .fieldAddr 43 (.tmp 1) 0, 0, none, false, false, false⟩, ⟨(some 12), .load 3 (.tmp 11), 3, none, false, false, false⟩, ⟨(some 13), .binOp .eql 3 (.tmp 12) (.const (.int .i64 (1))) 3, 4, none, false, false, false⟩])
 (.cond (.tmp 13)
 (.seq
 (.ops false [⟨(some 14), .fieldAddr 43 (.tmp 1) 1, 0, none, false, false, false⟩, ⟨(some 15), .load 9 (.tmp 14), 9, none, false, false, false⟩, ⟨(some 16), .call ⟨(.value (.func 46)), #[(.tmp 15)], #[9]⟩, 4, none, false, false, false⟩, asg 2 16 4])
 (.ret))
 (.skip)))
 (.seq
 (.ops false [⟨(some 17), .fieldAddr 43 (.tmp 1) 0, 0, none, false, false, false⟩, ⟨(some 18), .load 3 (.tmp 17), 3, none, false, false, false⟩, ⟨(some 19), .binOp .eql 3 (.tmp 18) (.const (.int .i64 (2))) 3, 4, none, false, false, false⟩, mv 20 19 4, ⟨(some 21), .fieldAddr 43 (.tmp 1) 0, 0, (some (20, false)), false, false, false⟩, ⟨(some 22), .load 3 (.tmp 21), 3, (some (20, false)), false, false, false⟩, ⟨(some 23), .binOp .eql 3 (.tmp 22) (.const (.int .i64 (3))) 3, 4, (some (20, false)), false, false, false⟩, ⟨(some 24), .pick (.tmp 20) (.const (.bool true)) (.tmp 23), 4, none, false, false, false⟩, mv 25 24 4, ⟨(some 26), .fieldAddr 43 (.tmp 1) 1, 0, (some (25, true)), false, false, false⟩, ⟨(some 27), .load 9 (.tmp 26), 9, (some (25, true)), false, false, false⟩, ⟨(some 28), .binOp .eql 9 (.tmp 27) (.const (.string ⟨⟨[]⟩⟩)) 9, 4, (some (25, true)), false, false, false⟩, ⟨(some 29), .pick (.tmp 25) (.tmp 28) (.const (.bool false)), 4, none, false, false, false⟩, asg 2 29 4])
 (.ret)))))⟩
theorem fa41_eq : fnA scfg.P (scfg.rxf 41) 41 = some fa41 := by kernel_rfl
noncomputable def e41 (a0Kind : Int) (a0Low : List UInt8) (a0Page : Int) : R :=
  cond (decide (a0Page < 0))
 (some (.done (V.bool false)))
 (cond (decide (a0Page > 1023))
 (some (.done (V.bool false)))
 (cond (a0Kind == (1 : Int))
 (pcK scfg 46 [V.str a0Low] fun r =>
  kB r fun r46 =>
  some (.done (V.bool r46)))
 (cond (a0Kind == (2 : Int))
 (some (.done (V.bool (a0Low == []))))
 (cond (a0Kind == (3 : Int))
 (some (.done (V.bool (a0Low == []))))
 (some (.done (V.bool false)))))))
theorem e41_eq (a0Kind : Int) (a0Low : List UInt8) (a0Page : Int) : enterK sk false fa41 [V.agg [V.int .i64 a0Kind, V.str a0Low, V.int .i64 a0Page]] [] = e41 a0Kind a0Low a0Page := by kernel_rfl
theorem e41_run (a0Kind : Int) (a0Low : List UInt8) (a0Page : Int) {o : Out} {v : V} (h : e41 a0Kind a0Low a0Page = some o) (hg : Go sk false 0 fa41 o (.done v)) : pcW scfg 41 [V.agg [V.int .i64 a0Kind, V.str a0Low, V.int .i64 a0Page]] = some v := pcW_go sik rfl fa41_eq ((e41_eq a0Kind a0Low a0Page).trans h) hg
theorem e41_done (a0Kind : Int) (a0Low : List UInt8) (a0Page : Int) {v : V} (h : e41 a0Kind a0Low a0Page = some (.done v)) : pcW scfg 41 [V.agg [V.int .i64 a0Kind, V.str a0Low, V.int .i64 a0Page]] = some v := e41_run a0Kind a0Low a0Page h (.refl _)
/-! ### budwood/side.find$1 -/
noncomputable def fa53 : FA := ⟨2, 8, [.tmp 3], [4],
 (.seq
 (.ops false [⟨(some 2), .box 66 (.tmp 0), 0, none, false, false, false⟩, ⟨(some 3), .assign (.const (.bool false)), 4, none, false, false, false⟩])
 (.seq
 (.ops false [⟨(some 4), .fieldAddr 66 (.tmp 2) 1, 0, none, false, false, false⟩, ⟨(some 5), .load 3 (.tmp 4), 3, none, false, false, false⟩, ⟨(some 6), .load 3 (.tmp 1), 3, none, false, false, false⟩, ⟨(some 7), .binOp .eql 3 (.tmp 5) (.tmp 6) 3, 4, none, false, false, false⟩, asg 3 7 4])
 (.ret)))⟩
theorem fa53_eq : fnA scfg.P (scfg.rxf 53) 53 = some fa53 := by kernel_rfl
noncomputable def e53 (a0Low : List UInt8) (a0Page : Int) (c0 : Int) : R :=
  some (.done (V.bool (a0Page == c0)))
theorem e53_eq (a0Low : List UInt8) (a0Page : Int) (c0 : Int) : enterK sk false fa53 [V.agg [V.str a0Low, V.int .i64 a0Page], V.ref (V.int .i64 c0) 0] [] = e53 a0Low a0Page c0 := by kernel_rfl
theorem e53_run (a0Low : List UInt8) (a0Page : Int) (c0 : Int) {o : Out} {v : V} (h : e53 a0Low a0Page c0 = some o) (hg : Go sk false 0 fa53 o (.done v)) : pcW scfg 53 [V.agg [V.str a0Low, V.int .i64 a0Page], V.ref (V.int .i64 c0) 0] = some v := pcW_go sik rfl fa53_eq ((e53_eq a0Low a0Page c0).trans h) hg
theorem e53_done (a0Low : List UInt8) (a0Page : Int) (c0 : Int) {v : V} (h : e53 a0Low a0Page c0 = some (.done v)) : pcW scfg 53 [V.agg [V.str a0Low, V.int .i64 a0Page], V.ref (V.int .i64 c0) 0] = some v := e53_run a0Low a0Page c0 h (.refl _)
/-! ### budwood/side.add$1 -/
noncomputable def fa49 : FA := ⟨2, 16, [.tmp 3], [4],
 (.seq
 (.ops false [⟨(some 2), .box 66 (.tmp 0), 0, none, false, false, false⟩, ⟨(some 3), .assign (.const (.bool false)), 4, none, false, false, false⟩])
 (.seq
 (.ops false [⟨(some 4), .fieldAddr 66 (.tmp 2) 0, 0, none, false, false, false⟩, ⟨(some 5), .load 9 (.tmp 4), 9, none, false, false, false⟩, ⟨(some 6), .fieldAddr 41 (.tmp 1) 1, 0, none, false, false, false⟩, ⟨(some 7), .load 9 (.tmp 6), 9, none, false, false, false⟩, ⟨(some 8), .binOp .eql 9 (.tmp 5) (.tmp 7) 9, 4, none, false, false, false⟩, mv 9 8 4, ⟨(some 10), .fieldAddr 66 (.tmp 2) 1, 0, (some (9, false)), false, false, false⟩, ⟨(some 11), .load 3 (.tmp 10), 3, (some (9, false)), false, false, false⟩, ⟨(some 12), .fieldAddr 41 (.tmp 1) 2, 0, (some (9, false)), false, false, false⟩, ⟨(some 13), .load 3 (.tmp 12), 3, (some (9, false)), false, false, false⟩, ⟨(some 14), .binOp .eql 3 (.tmp 11) (.tmp 13) 3, 4, (some (9, false)), false, false, false⟩, ⟨(some 15), .pick (.tmp 9) (.const (.bool true)) (.tmp 14), 4, none, false, false, false⟩, asg 3 15 4])
 (.ret)))⟩
theorem fa49_eq : fnA scfg.P (scfg.rxf 49) 49 = some fa49 := by kernel_rfl
noncomputable def e49 (a0Low : List UInt8) (a0Page : Int) (c0_kind : Int) (c0_low : List UInt8) (c0_page : Int) : R :=
  cond (a0Low == c0_low)
 (some (.done (V.bool true)))
 (some (.done (V.bool (a0Page == c0_page))))
theorem e49_eq (a0Low : List UInt8) (a0Page : Int) (c0_kind : Int) (c0_low : List UInt8) (c0_page : Int) : enterK sk false fa49 [V.agg [V.str a0Low, V.int .i64 a0Page], V.ref (V.agg [V.int .i64 c0_kind, V.str c0_low, V.int .i64 c0_page]) 0] [] = e49 a0Low a0Page c0_kind c0_low c0_page := by kernel_rfl
theorem e49_run (a0Low : List UInt8) (a0Page : Int) (c0_kind : Int) (c0_low : List UInt8) (c0_page : Int) {o : Out} {v : V} (h : e49 a0Low a0Page c0_kind c0_low c0_page = some o) (hg : Go sk false 0 fa49 o (.done v)) : pcW scfg 49 [V.agg [V.str a0Low, V.int .i64 a0Page], V.ref (V.agg [V.int .i64 c0_kind, V.str c0_low, V.int .i64 c0_page]) 0] = some v := pcW_go sik rfl fa49_eq ((e49_eq a0Low a0Page c0_kind c0_low c0_page).trans h) hg
theorem e49_done (a0Low : List UInt8) (a0Page : Int) (c0_kind : Int) (c0_low : List UInt8) (c0_page : Int) {v : V} (h : e49 a0Low a0Page c0_kind c0_low c0_page = some (.done v)) : pcW scfg 49 [V.agg [V.str a0Low, V.int .i64 a0Page], V.ref (V.agg [V.int .i64 c0_kind, V.str c0_low, V.int .i64 c0_page]) 0] = some v := e49_run a0Low a0Page c0_kind c0_low c0_page h (.refl _)
/-! ### slices.IndexFunc(()budwood/build.Kid,budwood/build.Kid) -/
noncomputable def fa52 : FA := ⟨2, 19, [.tmp 4], [3],
 (.seq
 (.ops false [⟨(some 4), .assign (.const (.int .i64 (0))), 3, none, false, false, false⟩])
 (.seq
 (.seq
 (.ops false [mv 6 0 22, ⟨(some 7), .call ⟨(.builtin .len), #[(.tmp 6)], #[22]⟩, 3, none, false, false, false⟩, ⟨(some 8), .move (.const (.int .i64 (0))), 3, none, false, false, false⟩])
 (.block 0
 (.loop ([2, 3, 5, 6] ++ List.range' 9 10)
 (.seq
 (.ops false [⟨(some 9), .binOp .lss 3 (.tmp 8) (.tmp 7) 3, 0, none, false, false, false⟩])
 (.seq
 (.cond (.tmp 9)
 (.skip)
 (.exit 0))
 (.seq
 (.block 1
 (.seq
 (.ops false [mv 10 8 3, asg 5 10 3])
 (.seq
 (.ops false [mv 11 1 84, mv 12 0 22, mv 13 5 3, ⟨(some 14), .indexAddr 22 (.tmp 12) (.tmp 13), 0, none, false, false, false⟩, ⟨(some 15), .load 66 (.tmp 14), 66, none, false, false, false⟩, ⟨(some 16), .call ⟨(.value (.tmp 11)), #[(.tmp 15)], #[66]⟩, 4, none, false, false, false⟩])
 (.cond (.tmp 16)
 (.seq
 (.ops false [mv 17 5 3, asg 4 17 3])
 (.ret))
 (.skip)))))
 (.ops false [⟨(some 18), .binOp .add 3 (.tmp 8) (.const (.int .i64 (1))) 3, 3, none, false, false, false⟩, mv 8 18 3])))))))
 (.seq
 (.ops false [⟨(some 4), .assign (.const (.int .i64 (-1))), 3, none, false, false, false⟩])
 (.ret))))⟩
theorem fa52_eq : fnA scfg.P (scfg.rxf 52) 52 = some fa52 := by kernel_rfl
def T52a_0 (x0 : List V) (x1 : Int) (x1_1 : List UInt8) (x1_2 : Int) (x7 : Int) (x8 : Int) : S := ⟨[V.sl x0, V.fn 49 [V.ref (V.agg [V.int .i64 x1, V.str x1_1, V.int .i64 x1_2]) 0], V.junk, V.junk, V.int .i64 0, V.junk, V.junk, V.int .i64 x7, V.int .i64 x8] ++ (JU 10), []⟩
noncomputable def e52a (a0 : List V) (c0_kind : Int) (c0_low : List UInt8) (c0_page : Int) : R :=
  some (.head 0 (T52a_0 a0 c0_kind c0_low c0_page (a0.length : Int) 0))
theorem e52a_eq (a0 : List V) (c0_kind : Int) (c0_low : List UInt8) (c0_page : Int) : enterK sk false fa52 [V.sl a0, V.fn 49 [V.ref (V.agg [V.int .i64 c0_kind, V.str c0_low, V.int .i64 c0_page]) 0]] [] = e52a a0 c0_kind c0_low c0_page := by kernel_rfl
theorem e52a_run (a0 : List V) (c0_kind : Int) (c0_low : List UInt8) (c0_page : Int) {o : Out} {v : V} (h : e52a a0 c0_kind c0_low c0_page = some o) (hg : Go sk false 0 fa52 o (.done v)) : pcW scfg 52 [V.sl a0, V.fn 49 [V.ref (V.agg [V.int .i64 c0_kind, V.str c0_low, V.int .i64 c0_page]) 0]] = some v := pcW_go sik rfl fa52_eq ((e52a_eq a0 c0_kind c0_low c0_page).trans h) hg
noncomputable def s52a_0 (x0 : List V) (x1 : Int) (x1_1 : List UInt8) (x1_2 : Int) (x7 : Int) (x8 : Int) : R :=
  cond (decide (x8 < x7))
 (gd (decide (0 ≤ x8)) <|
  idxK x0 x8.toNat fun v =>
  d66 v fun low0 page =>
  pcK scfg 49 [V.agg [V.str low0, V.int .i64 page], V.ref (V.agg [V.int .i64 x1, V.str x1_1, V.int .i64 x1_2]) 0] fun r =>
  kB r fun r49 =>
  cond r49
 (some (.done (V.int .i64 x8)))
 (some (.head 0 (T52a_0 x0 x1 x1_1 x1_2 x7 (W .i64 (x8 + 1))))))
 (some (.done (V.int .i64 (-1))))
theorem s52a_0_eq (x0 : List V) (x1 : Int) (x1_1 : List UInt8) (x1_2 : Int) (x7 : Int) (x8 : Int) : goK sk false 0 fa52 0 (T52a_0 x0 x1 x1_1 x1_2 x7 x8) = s52a_0 x0 x1 x1_1 x1_2 x7 x8 := by kernel_rfl
theorem s52a_0_run (x0 : List V) (x1 : Int) (x1_1 : List UInt8) (x1_2 : Int) (x7 : Int) (x8 : Int) {o o' : Out} (h : s52a_0 x0 x1 x1_1 x1_2 x7 x8 = some o) (hg : Go sk false 0 fa52 o o') : Go sk false 0 fa52 (.head 0 (T52a_0 x0 x1 x1_1 x1_2 x7 x8)) o' := .step ((s52a_0_eq x0 x1 x1_1 x1_2 x7 x8).trans h) hg
def T52b_0 (x0 : List V) (x1 : Int) (x7 : Int) (x8 : Int) : S := ⟨[V.sl x0, V.fn 53 [V.ref (V.int .i64 x1) 0], V.junk, V.junk, V.int .i64 0, V.junk, V.junk, V.int .i64 x7, V.int .i64 x8] ++ (JU 10), []⟩
noncomputable def e52b (a0 : List V) (c0 : Int) : R :=
  some (.head 0 (T52b_0 a0 c0 (a0.length : Int) 0))
theorem e52b_eq (a0 : List V) (c0 : Int) : enterK sk false fa52 [V.sl a0, V.fn 53 [V.ref (V.int .i64 c0) 0]] [] = e52b a0 c0 := by kernel_rfl
theorem e52b_run (a0 : List V) (c0 : Int) {o : Out} {v : V} (h : e52b a0 c0 = some o) (hg : Go sk false 0 fa52 o (.done v)) : pcW scfg 52 [V.sl a0, V.fn 53 [V.ref (V.int .i64 c0) 0]] = some v := pcW_go sik rfl fa52_eq ((e52b_eq a0 c0).trans h) hg
noncomputable def s52b_0 (x0 : List V) (x1 : Int) (x7 : Int) (x8 : Int) : R :=
  cond (decide (x8 < x7))
 (gd (decide (0 ≤ x8)) <|
  idxK x0 x8.toNat fun v =>
  d66 v fun low0 page =>
  pcK scfg 53 [V.agg [V.str low0, V.int .i64 page], V.ref (V.int .i64 x1) 0] fun r =>
  kB r fun r53 =>
  cond r53
 (some (.done (V.int .i64 x8)))
 (some (.head 0 (T52b_0 x0 x1 x7 (W .i64 (x8 + 1))))))
 (some (.done (V.int .i64 (-1))))
theorem s52b_0_eq (x0 : List V) (x1 : Int) (x7 : Int) (x8 : Int) : goK sk false 0 fa52 0 (T52b_0 x0 x1 x7 x8) = s52b_0 x0 x1 x7 x8 := by kernel_rfl
theorem s52b_0_run (x0 : List V) (x1 : Int) (x7 : Int) (x8 : Int) {o o' : Out} (h : s52b_0 x0 x1 x7 x8 = some o) (hg : Go sk false 0 fa52 o o') : Go sk false 0 fa52 (.head 0 (T52b_0 x0 x1 x7 x8)) o' := .step ((s52b_0_eq x0 x1 x7 x8).trans h) hg
/-! ### slices.ContainsFunc(()budwood/build.Kid,budwood/build.Kid) -/
noncomputable def fa50 : FA := ⟨2, 9, [.tmp 4], [4],
 (.seq
 (.ops false [⟨(some 4), .assign (.const (.bool false)), 4, none, false, false, false⟩])
 (.seq
 (.ops false [mv 5 0 22, mv 6 1 84, ⟨(some 7), .call ⟨(.value (.func 52)), #[(.tmp 5), (.tmp 6)], #[22, 84]⟩, 3, none, false, false, false⟩, ⟨(some 8), .binOp .geq 3 (.tmp 7) (.const (.int .i64 (0))) 3, 4, none, false, false, false⟩, asg 4 8 4])
 (.ret)))⟩
theorem fa50_eq : fnA scfg.P (scfg.rxf 50) 50 = some fa50 := by kernel_rfl
noncomputable def e50 (a0 : List V) (c0_kind : Int) (c0_low : List UInt8) (c0_page : Int) : R :=
  pcK scfg 52 [V.sl a0, V.fn 49 [V.ref (V.agg [V.int .i64 c0_kind, V.str c0_low, V.int .i64 c0_page]) 0]] fun r =>
  kI .i64 r fun r52 =>
  some (.done (V.bool (decide (r52 ≥ 0))))
theorem e50_eq (a0 : List V) (c0_kind : Int) (c0_low : List UInt8) (c0_page : Int) : enterK sk false fa50 [V.sl a0, V.fn 49 [V.ref (V.agg [V.int .i64 c0_kind, V.str c0_low, V.int .i64 c0_page]) 0]] [] = e50 a0 c0_kind c0_low c0_page := by kernel_rfl
theorem e50_run (a0 : List V) (c0_kind : Int) (c0_low : List UInt8) (c0_page : Int) {o : Out} {v : V} (h : e50 a0 c0_kind c0_low c0_page = some o) (hg : Go sk false 0 fa50 o (.done v)) : pcW scfg 50 [V.sl a0, V.fn 49 [V.ref (V.agg [V.int .i64 c0_kind, V.str c0_low, V.int .i64 c0_page]) 0]] = some v := pcW_go sik rfl fa50_eq ((e50_eq a0 c0_kind c0_low c0_page).trans h) hg
theorem e50_done (a0 : List V) (c0_kind : Int) (c0_low : List UInt8) (c0_page : Int) {v : V} (h : e50 a0 c0_kind c0_low c0_page = some (.done v)) : pcW scfg 50 [V.sl a0, V.fn 49 [V.ref (V.agg [V.int .i64 c0_kind, V.str c0_low, V.int .i64 c0_page]) 0]] = some v := e50_run a0 c0_kind c0_low c0_page h (.refl _)
/-! ### budwood/side.find -/
noncomputable def fa39 : FA := ⟨2, 8, [.tmp 4], [3],
 (.seq
 (.ops false [⟨(some 3), .box 3 (.tmp 1), 0, none, false, false, false⟩, ⟨(some 4), .assign (.const (.int .i64 (0))), 3, none, false, false, false⟩])
 (.seq
 (.ops false [mv 5 0 22, ⟨(some 6), .makeFunc (.func 53) #[] #[(.tmp 3)], 84, none, false, false, false⟩, ⟨(some 7), .call ⟨(.value (.func 52)), #[(.tmp 5), (.tmp 6)], #[22, 84]⟩, 3, none, false, false, false⟩, asg 4 7 3])
 (.ret)))⟩
theorem fa39_eq : fnA scfg.P (scfg.rxf 39) 39 = some fa39 := by kernel_rfl
noncomputable def e39 (a0 : List V) (a1 : Int) : R :=
  pcK scfg 52 [V.sl a0, V.fn 53 [V.ref (V.int .i64 a1) 0]] fun r =>
  kI .i64 r fun r52 =>
  some (.done (V.int .i64 r52))
theorem e39_eq (a0 : List V) (a1 : Int) : enterK sk false fa39 [V.sl a0, V.int .i64 a1] [] = e39 a0 a1 := by kernel_rfl
theorem e39_run (a0 : List V) (a1 : Int) {o : Out} {v : V} (h : e39 a0 a1 = some o) (hg : Go sk false 0 fa39 o (.done v)) : pcW scfg 39 [V.sl a0, V.int .i64 a1] = some v := pcW_go sik rfl fa39_eq ((e39_eq a0 a1).trans h) hg
theorem e39_done (a0 : List V) (a1 : Int) {v : V} (h : e39 a0 a1 = some (.done v)) : pcW scfg 39 [V.sl a0, V.int .i64 a1] = some v := e39_run a0 a1 h (.refl _)
/-! ### slices.Index(()budwood/build.Kid,budwood/build.Kid) -/
noncomputable def fa48 : FA := ⟨2, 19, [.tmp 4], [3],
 (.seq
 (.ops false [⟨(some 3), .box 66 (.tmp 1), 0, none, false, false, false⟩, ⟨(some 4), .assign (.const (.int .i64 (0))), 3, none, false, false, false⟩])
 (.seq
 (.seq
 (.ops false [mv 6 0 22, ⟨(some 7), .call ⟨(.builtin .len), #[(.tmp 6)], #[22]⟩, 3, none, false, false, false⟩, ⟨(some 8), .move (.const (.int .i64 (0))), 3, none, false, false, false⟩])
 (.block 0
 (.loop ([1, 2, 5, 6] ++ List.range' 9 10)
 (.seq
 (.ops false [⟨(some 9), .binOp .lss 3 (.tmp 8) (.tmp 7) 3, 0, none, false, false, false⟩])
 (.seq
 (.cond (.tmp 9)
 (.skip)
 (.exit 0))
 (.seq
 (.block 1
 (.seq
 (.ops false [mv 10 8 3, asg 5 10 3])
 (.seq
 (.ops true [⟨(some 11), .load 66 (.tmp 3), 66, none, false, false, false⟩, mv 12 0 22, mv 13 5 3, ⟨(some 14), .indexAddr 22 (.tmp 12) (.tmp 13), 0, none, false, false, false⟩, ⟨(some 15), .load 66 (.tmp 14), 66, none, false, false, false⟩, ⟨(some 16), .binOp .eql 66 (.tmp 11) (.tmp 15) 66, 4, none, false, false, false⟩])
 (.cond (.tmp 16)
 (.seq
 (.ops false [mv 17 5 3, asg 4 17 3])
 (.ret))
 (.skip)))))
 (.ops false [⟨(some 18), .binOp .add 3 (.tmp 8) (.const (.int .i64 (1))) 3, 3, none, false, false, false⟩, mv 8 18 3])))))))
 (.seq
 (.ops false [⟨(some 4), .assign (.const (.int .i64 (-1))), 3, none, false, false, false⟩])
 (.ret))))⟩
theorem fa48_eq : fnA scfg.P (scfg.rxf 48) 48 = some fa48 := by kernel_rfl
def T48_0 (x0 : List V) (x7 : Int) (x8 : Int) (m0_0 : List UInt8) (m0_1 : Int) : S := ⟨[V.sl x0, V.junk, V.junk, V.ptr 0 0 0, V.int .i64 0, V.junk, V.junk, V.int .i64 x7, V.int .i64 x8] ++ (JU 10), [O.box 66 (V.agg [V.str m0_0, V.int .i64 m0_1]) false]⟩
noncomputable def e48 (a0 : List V) (a1Low : List UInt8) (a1Page : Int) : R :=
  some (.head 0 (T48_0 a0 (a0.length : Int) 0 a1Low a1Page))
theorem e48_eq (a0 : List V) (a1Low : List UInt8) (a1Page : Int) : enterK sk false fa48 [V.sl a0, V.agg [V.str a1Low, V.int .i64 a1Page]] [] = e48 a0 a1Low a1Page := by kernel_rfl
theorem e48_run (a0 : List V) (a1Low : List UInt8) (a1Page : Int) {o : Out} {v : V} (h : e48 a0 a1Low a1Page = some o) (hg : Go sk false 0 fa48 o (.done v)) : pcW scfg 48 [V.sl a0, V.agg [V.str a1Low, V.int .i64 a1Page]] = some v := pcW_go sik rfl fa48_eq ((e48_eq a0 a1Low a1Page).trans h) hg
noncomputable def s48_0 (x0 : List V) (x7 : Int) (x8 : Int) (m0_0 : List UInt8) (m0_1 : Int) : R :=
  cond (decide (x8 < x7))
 (gd (decide (0 ≤ x8)) <|
  idxK x0 x8.toNat fun v =>
  d66 v fun low0 page =>
  cond ((m0_0 == low0) && ((m0_1 == page) && true))
 (some (.done (V.int .i64 x8)))
 (some (.head 0 (T48_0 x0 x7 (W .i64 (x8 + 1)) m0_0 m0_1))))
 (some (.done (V.int .i64 (-1))))
theorem s48_0_eq (x0 : List V) (x7 : Int) (x8 : Int) (m0_0 : List UInt8) (m0_1 : Int) : goK sk false 0 fa48 0 (T48_0 x0 x7 x8 m0_0 m0_1) = s48_0 x0 x7 x8 m0_0 m0_1 := by kernel_rfl
theorem s48_0_run (x0 : List V) (x7 : Int) (x8 : Int) (m0_0 : List UInt8) (m0_1 : Int) {o o' : Out} (h : s48_0 x0 x7 x8 m0_0 m0_1 = some o) (hg : Go sk false 0 fa48 o o') : Go sk false 0 fa48 (.head 0 (T48_0 x0 x7 x8 m0_0 m0_1)) o' := .step ((s48_0_eq x0 x7 x8 m0_0 m0_1).trans h) hg
/-! ### slices.Contains(()budwood/build.Kid,budwood/build.Kid) -/
noncomputable def fa35 : FA := ⟨2, 9, [.tmp 4], [4],
 (.seq
 (.ops false [⟨(some 3), .box 66 (.tmp 1), 0, none, false, false, false⟩, ⟨(some 4), .assign (.const (.bool false)), 4, none, false, false, false⟩])
 (.seq
 (.ops false [mv 5 0 22, ⟨(some 6), .load 66 (.tmp 3), 66, none, false, false, false⟩, ⟨(some 7), .call ⟨(.value (.func 48)), #[(.tmp 5), (.tmp 6)], #[22, 66]⟩, 3, none, false, false, false⟩, ⟨(some 8), .binOp .geq 3 (.tmp 7) (.const (.int .i64 (0))) 3, 4, none, false, false, false⟩, asg 4 8 4])
 (.ret)))⟩
theorem fa35_eq : fnA scfg.P (scfg.rxf 35) 35 = some fa35 := by kernel_rfl
noncomputable def e35 (a0 : List V) (a1Low : List UInt8) (a1Page : Int) : R :=
  pcK scfg 48 [V.sl a0, V.agg [V.str a1Low, V.int .i64 a1Page]] fun r =>
  kI .i64 r fun r48 =>
  some (.done (V.bool (decide (r48 ≥ 0))))
theorem e35_eq (a0 : List V) (a1Low : List UInt8) (a1Page : Int) : enterK sk false fa35 [V.sl a0, V.agg [V.str a1Low, V.int .i64 a1Page]] [] = e35 a0 a1Low a1Page := by kernel_rfl
theorem e35_run (a0 : List V) (a1Low : List UInt8) (a1Page : Int) {o : Out} {v : V} (h : e35 a0 a1Low a1Page = some o) (hg : Go sk false 0 fa35 o (.done v)) : pcW scfg 35 [V.sl a0, V.agg [V.str a1Low, V.int .i64 a1Page]] = some v := pcW_go sik rfl fa35_eq ((e35_eq a0 a1Low a1Page).trans h) hg
theorem e35_done (a0 : List V) (a1Low : List UInt8) (a1Page : Int) {v : V} (h : e35 a0 a1Low a1Page = some (.done v)) : pcW scfg 35 [V.sl a0, V.agg [V.str a1Low, V.int .i64 a1Page]] = some v := e35_run a0 a1Low a1Page h (.refl _)
/-! ### budwood/budwoodref19.has -/
noncomputable def fa36 : FA := ⟨2, 18, [.tmp 4], [4],
 (.seq
 (.ops false [⟨(some 3), .box 71 (.tmp 1), 0, none, false, false, false⟩, ⟨(some 4), .assign (.const (.bool false)), 4, none, false, false, false⟩])
 (.seq
 (.seq
 (.ops false [⟨(some 5), .assign (.const (.int .i64 (0))), 3, none, false, false, false⟩])
 (.block 0
 (.loop ([1, 2] ++ List.range' 6 12)
 (.seq
 (.seq
 (.ops false [mv 6 5 3, mv 7 0 29, ⟨(some 8), .call ⟨(.builtin .len), #[(.tmp 7)], #[29]⟩, 3, none, false, false, false⟩, ⟨(some 9), .binOp .lss 3 (.tmp 6) (.tmp 8) 3, 4, none, false, false, false⟩])
 (.cond (.tmp 9)
 (.skip)
 (.exit 0)))
 (.seq
 (.block 1
 (.seq
 (.ops true [mv 12 0 29, mv 13 5 3, ⟨(some 14), .indexAddr 29 (.tmp 12) (.tmp 13), 0, none, false, false, false⟩, ⟨(some 15), .load 71 (.tmp 14), 71, none, false, false, false⟩, ⟨(some 16), .load 71 (.tmp 3), 71, none, false, false, false⟩, ⟨(some 17), .binOp .eql 71 (.tmp 15) (.tmp 16) 71, 4, none, false, false, false⟩])
 (.cond (.tmp 17)
 (.seq
 (.ops false [⟨(some 4), .assign (.const (.bool true)), 4, none, false, false, false⟩])
 (.ret))
 (.skip))))
 (.ops false [mv 10 5 3, ⟨(some 11), .binOp .add 3 (.tmp 10) (.const (.int .i64 (1))) 3, 3, none, false, false, false⟩, asg 5 11 3]))))))
 (.seq
 (.ops false [⟨(some 4), .assign (.const (.bool false)), 4, none, false, false, false⟩])
 (.ret))))⟩
theorem fa36_eq : fnA scfg.P (scfg.rxf 36) 36 = some fa36 := by kernel_rfl
def T36_0 (x0 : List V) (x5 : Int) (m0_0 : List UInt8) (m0_1 : Int) : S := ⟨[V.sl x0, V.junk, V.junk, V.ptr 0 0 0, V.bool false, V.int .i64 x5] ++ (JU 12), [O.box 71 (V.agg [V.str m0_0, V.int .i64 m0_1]) false]⟩
noncomputable def e36 (a0 : List V) (a1Low : List UInt8) (a1Page : Int) : R :=
  some (.head 0 (T36_0 a0 0 a1Low a1Page))
theorem e36_eq (a0 : List V) (a1Low : List UInt8) (a1Page : Int) : enterK sk false fa36 [V.sl a0, V.agg [V.str a1Low, V.int .i64 a1Page]] [] = e36 a0 a1Low a1Page := by kernel_rfl
theorem e36_run (a0 : List V) (a1Low : List UInt8) (a1Page : Int) {o : Out} {v : V} (h : e36 a0 a1Low a1Page = some o) (hg : Go sk false 0 fa36 o (.done v)) : pcW scfg 36 [V.sl a0, V.agg [V.str a1Low, V.int .i64 a1Page]] = some v := pcW_go sik rfl fa36_eq ((e36_eq a0 a1Low a1Page).trans h) hg
noncomputable def s36_0 (x0 : List V) (x5 : Int) (m0_0 : List UInt8) (m0_1 : Int) : R :=
  cond (decide (x5 < (x0.length : Int)))
 (gd (decide (0 ≤ x5)) <|
  idxK x0 x5.toNat fun v =>
  d71 v fun low0 page =>
  cond ((low0 == m0_0) && ((page == m0_1) && true))
 (some (.done (V.bool true)))
 (some (.head 0 (T36_0 x0 (W .i64 (x5 + 1)) m0_0 m0_1))))
 (some (.done (V.bool false)))
theorem s36_0_eq (x0 : List V) (x5 : Int) (m0_0 : List UInt8) (m0_1 : Int) : goK sk false 0 fa36 0 (T36_0 x0 x5 m0_0 m0_1) = s36_0 x0 x5 m0_0 m0_1 := by kernel_rfl
theorem s36_0_run (x0 : List V) (x5 : Int) (m0_0 : List UInt8) (m0_1 : Int) {o o' : Out} (h : s36_0 x0 x5 m0_0 m0_1 = some o) (hg : Go sk false 0 fa36 o o') : Go sk false 0 fa36 (.head 0 (T36_0 x0 x5 m0_0 m0_1)) o' := .step ((s36_0_eq x0 x5 m0_0 m0_1).trans h) hg
/-! ### budwood/side.add -/
noncomputable def fa38 : FA := ⟨2, 43, [.tmp 4, .tmp 5], [22, 26],
 (.seq
 (.ops false [⟨(some 3), .box 41 (.tmp 1), 0, none, false, false, false⟩, ⟨(some 4), .assign (.const (.slice none 0 0)), 22, none, false, false, false⟩, ⟨(some 5), .assign (.const (.int .i64 (0))), 26, none, false, false, false⟩])
 (.seq
 (.ops false [⟨(some 8), .makeFunc (.func 49) #[] #[(.tmp 3)], 84, none, false, false, false⟩, asg 6 8 84])
 (.seq
 (.block 0
 (.seq
 (.ops false [mv 10 0 22, mv 11 6 84, ⟨(some 12), .call ⟨(.value (.func 50)), #[(.tmp 10), (.tmp 11)], #[22, 84]⟩, 4, none, false, false, false⟩, asg 9 12 4])
 (.cond (.tmp 9)
 (.seq
 (.ops false [⟨(some 4), .assign (.const (.slice none 0 0)), 22, none, false, false, false⟩, ⟨(some 5), .assign (.const (.int .i64 (8))), 26, none, false, false, false⟩])
 (.ret))
 (.seq
 (.ops false [mv 14 0 22, ⟨(some 15), .call ⟨(.builtin .len), #[(.tmp 14)], #[22]⟩, 3, none, false, false, false⟩, ⟨(some 16), .binOp .geq 3 (.tmp 15) (.const (.int .i64 (1024))) 3, 4, none, false, false, false⟩, asg 13 16 4])
 (.cond (.tmp 13)
 (.seq
 (.ops false [⟨(some 4), .assign (.const (.slice none 0 0)), 22, none, false, false, false⟩, ⟨(some 5), .assign (.const (.int .i64 (1))), 26, none, false, false, false⟩])
 (.ret))
 (.skip))))))
 (.seq
 (.ops false [⟨(some 7), .assign (.const (.int .i64 (0))), 3, none, false, false, false⟩])
 (.seq
 (.block 1
 (.loop ([1, 2, 6] ++ List.range' 8 35)
 (.seq
 (.seq
 (.ops true [mv 17 7 3, mv 18 0 22, ⟨(some 19), .call ⟨(.builtin .len), #[(.tmp 18)], #[22]⟩, 3, none, false, false, false⟩, ⟨(some 20), .binOp .lss 3 (.tmp 17) (.tmp 19) 3, 4, none, false, false, false⟩, mv 21 20 4, ⟨(some 22), .move (.tmp 0), 22, (some (21, true)), false, false, false⟩, ⟨(some 23), .move (.tmp 7), 3, (some (21, true)), false, false, false⟩, ⟨(some 24), .indexAddr 22 (.tmp 22) (.tmp 23), 0, (some (21, true)), false, false, false⟩, ⟨(some 25), .fieldAddr 66 (.tmp 24) 0, 0, (some (21, true)), false, false, false⟩, ⟨(some 26), .load 9 (.tmp 25), 9, (some (21, true)), false, false, false⟩, ⟨(some 27), .fieldAddr 41 (.tmp 3) 1, 0, (some (21, true)), false, false, false⟩, ⟨(some 28), .load 9 (.tmp 27), 9, (some (21, true)), false, false, false⟩, ⟨(some 29), .binOp .lss 9 (.tmp 26) (.tmp 28) 9, 4, (some (21, true)), false, false, false⟩, ⟨(some 30), .pick (.tmp 21) (.tmp 29) (.const (.bool false)), 4, none, false, false, false⟩])
 (.cond (.tmp 30)
 (.skip)
 (.exit 1)))
 (.block 2
 (.ops false [mv 31 7 3, ⟨(some 32), .binOp .add 3 (.tmp 31) (.const (.int .i64 (1))) 3, 3, none, false, false, false⟩, asg 7 32 3])))))
 (.seq
 (.ops true [mv 33 0 22, ⟨(some 34), .call ⟨(.value (.func 32)), #[(.tmp 33)], #[22]⟩, 22, none, true, false, false⟩, mv 35 7 3, ⟨(some 36), .fieldAddr 41 (.tmp 3) 1, 0, none, false, false, false⟩, ⟨(some 37), .load 9 (.tmp 36), 9, none, true, false, false⟩, ⟨(some 38), .fieldAddr 41 (.tmp 3) 2, 0, none, false, false, false⟩, ⟨(some 39), .load 3 (.tmp 38), 3, none, true, false, false⟩, ⟨(some 40), .build 66 #[(0, (.tmp 37)), (1, (.tmp 39))], 66, none, false, false, false⟩, ⟨(some 41), .buildSlice 22 1 #[(0, (.tmp 40))], 22, none, true, false, false⟩, ⟨(some 42), .call ⟨(.value (.func 51)), #[(.tmp 34), (.tmp 35), (.tmp 41)], #[22, 3, 22]⟩, 22, none, false, true, false⟩, asg 4 42 22, ⟨(some 5), .assign (.const (.int .i64 (0))), 26, none, false, false, false⟩])
 (.ret)))))))⟩
theorem fa38_eq : fnA scfg.P (scfg.rxf 38) 38 = some fa38 := by kernel_rfl
def T38_0 (x0 : List V) (x7 : Int) (m0_0 : Int) (m0_1 : List UInt8) (m0_2 : Int) : S := ⟨[V.sl x0, V.junk, V.junk, V.ptr 0 0 0, V.own 1, V.int .i64 0, V.junk, V.int .i64 x7] ++ (JU 35), [O.box 41 (V.agg [V.int .i64 m0_0, V.str m0_1, V.int .i64 m0_2]) false, O.row 66 [] 0]⟩
noncomputable def e38 (a0 : List V) (a1Kind : Int) (a1Low : List UInt8) (a1Page : Int) : R :=
  pcK scfg 50 [V.sl a0, V.fn 49 [V.ref (V.agg [V.int .i64 a1Kind, V.str a1Low, V.int .i64 a1Page]) 0]] fun r =>
  kB r fun r50 =>
  cond r50
 (some (.done (V.tup [V.sl [], V.int .i64 8])))
 (cond (decide ((a0.length : Int) ≥ 1024))
 (some (.done (V.tup [V.sl [], V.int .i64 1])))
 (some (.head 0 (T38_0 a0 0 a1Kind a1Low a1Page))))
theorem e38_eq (a0 : List V) (a1Kind : Int) (a1Low : List UInt8) (a1Page : Int) : enterK sk false fa38 [V.sl a0, V.agg [V.int .i64 a1Kind, V.str a1Low, V.int .i64 a1Page]] [] = e38 a0 a1Kind a1Low a1Page := by kernel_rfl
theorem e38_run (a0 : List V) (a1Kind : Int) (a1Low : List UInt8) (a1Page : Int) {o : Out} {v : V} (h : e38 a0 a1Kind a1Low a1Page = some o) (hg : Go sk false 0 fa38 o (.done v)) : pcW scfg 38 [V.sl a0, V.agg [V.int .i64 a1Kind, V.str a1Low, V.int .i64 a1Page]] = some v := pcW_go sik rfl fa38_eq ((e38_eq a0 a1Kind a1Low a1Page).trans h) hg
noncomputable def s38_0 (x0 : List V) (x7 : Int) (m0_0 : Int) (m0_1 : List UInt8) (m0_2 : Int) : R :=
  cond (decide (x7 < (x0.length : Int)))
 (gd (decide (0 ≤ x7)) <|
  idxK x0 x7.toNat fun v =>
  d66 v fun low0 page =>
  cond (Op.bytesLess low0 m0_1)
 (some (.head 0 (T38_0 x0 (W .i64 (x7 + 1)) m0_0 m0_1 m0_2)))
 (pcK scfg 32 [V.sl x0] fun r =>
  kF 66 r fun r32 =>
  gd (decide (0 ≤ x7 ∧ x7.toNat ≤ r32.length ∧ r32.length + ([V.agg [V.str m0_1, V.int .i64 m0_2]] : List V).length ≤ 16777216)) <|
  some (.done (V.tup [V.sl (((r32.take x7.toNat) ++ [V.agg [V.str m0_1, V.int .i64 m0_2]]) ++ (r32.drop x7.toNat)), V.int .i64 0]))))
 (pcK scfg 32 [V.sl x0] fun r_1 =>
  kF 66 r_1 fun r32_1 =>
  gd (decide (0 ≤ x7 ∧ x7.toNat ≤ r32_1.length ∧ r32_1.length + ([V.agg [V.str m0_1, V.int .i64 m0_2]] : List V).length ≤ 16777216)) <|
  some (.done (V.tup [V.sl (((r32_1.take x7.toNat) ++ [V.agg [V.str m0_1, V.int .i64 m0_2]]) ++ (r32_1.drop x7.toNat)), V.int .i64 0])))
theorem s38_0_eq (x0 : List V) (x7 : Int) (m0_0 : Int) (m0_1 : List UInt8) (m0_2 : Int) : goK sk false 0 fa38 0 (T38_0 x0 x7 m0_0 m0_1 m0_2) = s38_0 x0 x7 m0_0 m0_1 m0_2 := by kernel_rfl
theorem s38_0_run (x0 : List V) (x7 : Int) (m0_0 : Int) (m0_1 : List UInt8) (m0_2 : Int) {o o' : Out} (h : s38_0 x0 x7 m0_0 m0_1 m0_2 = some o) (hg : Go sk false 0 fa38 o o') : Go sk false 0 fa38 (.head 0 (T38_0 x0 x7 m0_0 m0_1 m0_2)) o' := .step ((s38_0_eq x0 x7 m0_0 m0_1 m0_2).trans h) hg
/-! ### budwood/budwoodref19.add -/
noncomputable def fa42 : FA := ⟨2, 74, [.tmp 4, .tmp 5], [29, 26],
 (.seq
 (.ops false [⟨(some 3), .box 43 (.tmp 1), 0, none, false, false, false⟩, ⟨(some 4), .assign (.const (.slice none 0 0)), 29, none, false, false, false⟩, ⟨(some 5), .assign (.const (.int .i64 (0))), 26, none, false, false, false⟩])
 (.seq
 (.seq
 (.ops false [⟨(some 6), .assign (.const (.int .i64 (0))), 3, none, false, false, false⟩])
 (.block 0
 (.loop ([1, 2] ++ List.range' 7 67)
 (.seq
 (.seq
 (.ops false [mv 9 6 3, mv 10 0 29, ⟨(some 11), .call ⟨(.builtin .len), #[(.tmp 10)], #[29]⟩, 3, none, false, false, false⟩, ⟨(some 12), .binOp .lss 3 (.tmp 9) (.tmp 11) 3, 4, none, false, false, false⟩])
 (.cond (.tmp 12)
 (.skip)
 (.exit 0)))
 (.seq
 (.block 1
 (.seq
 (.ops true [mv 15 0 29, mv 16 6 3, ⟨(some 17), .indexAddr 29 (.tmp 15) (.tmp 16), 0, none, false, false, false⟩, ⟨(some 18), .fieldAddr 71 (.tmp 17) 0, 0, none, false, false, false⟩, ⟨(some 19), .load 9 (.tmp 18), 9, none, false, false, false⟩, ⟨(some 20), .fieldAddr 43 (.tmp 3) 1, 0, none, false, false, false⟩, ⟨(some 21), .load 9 (.tmp 20), 9, none, false, false, false⟩, ⟨(some 22), .binOp .eql 9 (.tmp 19) (.tmp 21) 9, 4, none, false, false, false⟩, mv 23 22 4, ⟨(some 24), .move (.tmp 0), 29, (some (23, false)), false, false, false⟩, ⟨(some 25), .move (.tmp 6), 3, (some (23, false)), false, false, false⟩, ⟨(some 26), .indexAddr 29 (.tmp 24) (.tmp 25), 0, (some (23, false)), false, false, false⟩, ⟨(some 27), .fieldAddr 71 (.tmp 26) 1, 0, (some (23, false)), false, false, false⟩, ⟨(some 28), .load 3 (.tmp 27), 3, (some (23, false)), false, false, false⟩, ⟨(some 29), .fieldAddr 43 (.tmp 3) 2, 0, (some (23, false)), false, false, false⟩, ⟨(some 30), .load 3 (.tmp 29), 3, (some (23, false)), false, false, false⟩, ⟨(some 31), .binOp .eql 3 (.tmp 28) (.tmp 30) 3, 4, (some (23, false)), false, false, false⟩, ⟨(some 32), .pick (.tmp 23) (.const (.bool true)) (.tmp 31), 4, none, false, false, false⟩])
 (.cond (.tmp 32)
 (.seq
 (.ops false [⟨(some 4), .assign (.const (.slice none 0 0)), 29, none, false, false, false⟩, ⟨(some 5), .assign (.const (.int .i64 (8))), 26, none, false, false, false⟩])
 (.ret))
 (.skip))))
 (.ops false [mv 13 6 3, ⟨(some 14), .binOp .add 3 (.tmp 13) (.const (.int .i64 (1))) 3, 3, none, false, false, false⟩, asg 6 14 3]))))))
 (.seq
 (.seq
 (.ops false [mv 33 0 29, ⟨(some 34), .call ⟨(.builtin .len), #[(.tmp 33)], #[29]⟩, 3, none, false, false, false⟩, ⟨(some 35), .binOp .geq 3 (.tmp 34) (.const (.int .i64 (1024))) 3, 4, none, false, false, false⟩])
 (.cond (.tmp 35)
 (.seq
 (.ops false [⟨(some 4), .assign (.const (.slice none 0 0)), 29, none, false, false, false⟩, ⟨(some 5), .assign (.const (.int .i64 (1))), 26, none, false, false, false⟩])
 (.ret))
 (.skip)))
 (.seq
 (.ops false [⟨(some 36), .buildSlice 29 0 #[], 29, none, false, false, false⟩, asg 7 36 29, ⟨(some 8), .assign (.const (.int .i64 (0))), 3, none, false, false, false⟩])
 (.seq
 (.block 2
 (.loop ([1, 2, 6] ++ List.range' 9 65)
 (.seq
 (.seq
 (.ops true [mv 37 8 3, mv 38 0 29, ⟨(some 39), .call ⟨(.builtin .len), #[(.tmp 38)], #[29]⟩, 3, none, false, false, false⟩, ⟨(some 40), .binOp .lss 3 (.tmp 37) (.tmp 39) 3, 4, none, false, false, false⟩, mv 41 40 4, ⟨(some 42), .move (.tmp 0), 29, (some (41, true)), false, false, false⟩, ⟨(some 43), .move (.tmp 8), 3, (some (41, true)), false, false, false⟩, ⟨(some 44), .indexAddr 29 (.tmp 42) (.tmp 43), 0, (some (41, true)), false, false, false⟩, ⟨(some 45), .fieldAddr 71 (.tmp 44) 0, 0, (some (41, true)), false, false, false⟩, ⟨(some 46), .load 9 (.tmp 45), 9, (some (41, true)), false, false, false⟩, ⟨(some 47), .fieldAddr 43 (.tmp 3) 1, 0, (some (41, true)), false, false, false⟩, ⟨(some 48), .load 9 (.tmp 47), 9, (some (41, true)), false, false, false⟩, ⟨(some 49), .call ⟨(.value (.func 47)), #[(.tmp 46), (.tmp 48)], #[9, 9]⟩, 4, (some (41, true)), false, true, false⟩, ⟨(some 50), .pick (.tmp 41) (.tmp 49) (.const (.bool false)), 4, none, false, false, false⟩])
 (.cond (.tmp 50)
 (.skip)
 (.exit 2)))
 (.block 3
 (.seq
 (.ops false [mv 51 7 29, mv 52 0 29, mv 53 8 3, ⟨(some 54), .indexAddr 29 (.tmp 52) (.tmp 53), 0, none, false, false, false⟩, ⟨(some 55), .load 71 (.tmp 54), 71, none, false, false, false⟩, ⟨(some 56), .buildSlice 29 1 #[(0, (.tmp 55))], 29, none, false, false, false⟩, ⟨(some 57), .call ⟨(.builtin .append), #[(.tmp 51), (.tmp 56)], #[29, 29]⟩, 29, none, false, false, false⟩, asg 7 57 29])
 (.ops false [mv 58 8 3, ⟨(some 59), .binOp .add 3 (.tmp 58) (.const (.int .i64 (1))) 3, 3, none, false, false, false⟩, asg 8 59 3]))))))
 (.seq
 (.ops false [mv 60 7 29, ⟨(some 61), .fieldAddr 43 (.tmp 3) 1, 0, none, false, false, false⟩, ⟨(some 62), .load 9 (.tmp 61), 9, none, false, false, false⟩, ⟨(some 63), .fieldAddr 43 (.tmp 3) 2, 0, none, false, false, false⟩, ⟨(some 64), .load 3 (.tmp 63), 3, none, false, false, false⟩, ⟨(some 65), .build 71 #[(0, (.tmp 62)), (1, (.tmp 64))], 71, none, false, false, false⟩, ⟨(some 66), .buildSlice 29 1 #[(0, (.tmp 65))], 29, none, false, false, false⟩, ⟨(some 67), .call ⟨(.builtin .append), #[(.tmp 60), (.tmp 66)], #[29, 29]⟩, 29, none, false, false, false⟩, asg 7 67 29])
 (.seq
 (.ops false [mv 68 7 29, mv 69 0 29, mv 70 8 3, ⟨(some 71), .slice 29 (.tmp 69) (some (.tmp 70)) none none, 29, none, false, false, false⟩, ⟨(some 72), .call ⟨(.builtin .append), #[(.tmp 68), (.tmp 71)], #[29, 29]⟩, 29, none, false, false, false⟩, asg 7 72 29])
 (.seq
 (.ops false [mv 73 7 29, asg 4 73 29, ⟨(some 5), .assign (.const (.int .i64 (0))), 26, none, false, false, false⟩])
 (.ret)))))))))⟩
theorem fa42_eq : fnA scfg.P (scfg.rxf 42) 42 = some fa42 := by kernel_rfl
def T42_0 (x0 : List V) (x6 : Int) (m0_0 : Int) (m0_1 : List UInt8) (m0_2 : Int) : S := ⟨[V.sl x0, V.junk, V.junk, V.ptr 0 0 0, V.own 1, V.int .i64 0, V.int .i64 x6] ++ (JU 67), [O.box 43 (V.agg [V.int .i64 m0_0, V.str m0_1, V.int .i64 m0_2]) false, O.row 71 [] 0]⟩
def T42_1 (x0 : List V) (x8 : Int) (m0_0 : Int) (m0_1 : List UInt8) (m0_2 : Int) (m2 : List V) : S := ⟨[V.sl x0, V.junk, V.junk, V.ptr 0 0 0, V.own 1, V.int .i64 0, V.junk, V.own 2, V.int .i64 x8] ++ (JU 65), [O.box 43 (V.agg [V.int .i64 m0_0, V.str m0_1, V.int .i64 m0_2]) false, O.row 71 [] 0, O.row 71 m2 0]⟩
noncomputable def e42 (a0 : List V) (a1Kind : Int) (a1Low : List UInt8) (a1Page : Int) : R :=
  some (.head 0 (T42_0 a0 0 a1Kind a1Low a1Page))
theorem e42_eq (a0 : List V) (a1Kind : Int) (a1Low : List UInt8) (a1Page : Int) : enterK sk false fa42 [V.sl a0, V.agg [V.int .i64 a1Kind, V.str a1Low, V.int .i64 a1Page]] [] = e42 a0 a1Kind a1Low a1Page := by kernel_rfl
theorem e42_run (a0 : List V) (a1Kind : Int) (a1Low : List UInt8) (a1Page : Int) {o : Out} {v : V} (h : e42 a0 a1Kind a1Low a1Page = some o) (hg : Go sk false 0 fa42 o (.done v)) : pcW scfg 42 [V.sl a0, V.agg [V.int .i64 a1Kind, V.str a1Low, V.int .i64 a1Page]] = some v := pcW_go sik rfl fa42_eq ((e42_eq a0 a1Kind a1Low a1Page).trans h) hg
noncomputable def s42_0 (x0 : List V) (x6 : Int) (m0_0 : Int) (m0_1 : List UInt8) (m0_2 : Int) : R :=
  cond (decide (x6 < (x0.length : Int)))
 (gd (decide (0 ≤ x6)) <|
  idxK x0 x6.toNat fun v =>
  d71 v fun low0 page =>
  cond (low0 == m0_1)
 (some (.done (V.tup [V.sl [], V.int .i64 8])))
 (gd (decide (0 ≤ x6)) <|
  idxK x0 x6.toNat fun v_1 =>
  d71 v_1 fun low0_1 page_1 =>
  cond (page_1 == m0_2)
 (some (.done (V.tup [V.sl [], V.int .i64 8])))
 (some (.head 0 (T42_0 x0 (W .i64 (x6 + 1)) m0_0 m0_1 m0_2)))))
 (cond (decide ((x0.length : Int) ≥ 1024))
 (some (.done (V.tup [V.sl [], V.int .i64 1])))
 (some (.head 1 (T42_1 x0 0 m0_0 m0_1 m0_2 []))))
theorem s42_0_eq (x0 : List V) (x6 : Int) (m0_0 : Int) (m0_1 : List UInt8) (m0_2 : Int) : goK sk false 0 fa42 0 (T42_0 x0 x6 m0_0 m0_1 m0_2) = s42_0 x0 x6 m0_0 m0_1 m0_2 := by kernel_rfl
theorem s42_0_run (x0 : List V) (x6 : Int) (m0_0 : Int) (m0_1 : List UInt8) (m0_2 : Int) {o o' : Out} (h : s42_0 x0 x6 m0_0 m0_1 m0_2 = some o) (hg : Go sk false 0 fa42 o o') : Go sk false 0 fa42 (.head 0 (T42_0 x0 x6 m0_0 m0_1 m0_2)) o' := .step ((s42_0_eq x0 x6 m0_0 m0_1 m0_2).trans h) hg
noncomputable def s42_1 (x0 : List V) (x8 : Int) (m0_0 : Int) (m0_1 : List UInt8) (m0_2 : Int) (m2 : List V) : R :=
  cond (decide (x8 < (x0.length : Int)))
 (gd (decide (0 ≤ x8)) <|
  idxK x0 x8.toNat fun v =>
  d71 v fun low0 page =>
  pcK scfg 47 [V.str low0, V.str m0_1] fun r =>
  kB r fun r47 =>
  cond r47
 (gd (decide (0 ≤ x8)) <|
  idxK x0 x8.toNat fun v_1 =>
  d71 v_1 fun low0_1 page_1 =>
  gd (decide (m2.length + ([V.agg [V.str low0_1, V.int .i64 page_1]] : List V).length ≤ 16777216)) <|
  some (.head 1 (T42_1 x0 (W .i64 (x8 + 1)) m0_0 m0_1 m0_2 (m2 ++ [V.agg [V.str low0_1, V.int .i64 page_1]]))))
 (gd (decide (m2.length + ([V.agg [V.str m0_1, V.int .i64 m0_2]] : List V).length ≤ 16777216)) <|
  gd (wfl 2 x0) <|
  gd (decide (0 ≤ x8)) <|
  gd (decide (x8.toNat ≤ x0.length)) <|
  gd (wfl 2 ((x0.take x0.length).drop x8.toNat)) <|
  gd (decide ((m2 ++ [V.agg [V.str m0_1, V.int .i64 m0_2]]).length + ((x0.take x0.length).drop x8.toNat).length ≤ 16777216)) <|
  some (.done (V.tup [V.sl ((m2 ++ [V.agg [V.str m0_1, V.int .i64 m0_2]]) ++ ((x0.take x0.length).drop x8.toNat)), V.int .i64 0]))))
 (gd (decide (m2.length + ([V.agg [V.str m0_1, V.int .i64 m0_2]] : List V).length ≤ 16777216)) <|
  gd (wfl 2 x0) <|
  gd (decide (0 ≤ x8)) <|
  gd (decide (x8.toNat ≤ x0.length)) <|
  gd (wfl 2 ((x0.take x0.length).drop x8.toNat)) <|
  gd (decide ((m2 ++ [V.agg [V.str m0_1, V.int .i64 m0_2]]).length + ((x0.take x0.length).drop x8.toNat).length ≤ 16777216)) <|
  some (.done (V.tup [V.sl ((m2 ++ [V.agg [V.str m0_1, V.int .i64 m0_2]]) ++ ((x0.take x0.length).drop x8.toNat)), V.int .i64 0])))
theorem s42_1_eq (x0 : List V) (x8 : Int) (m0_0 : Int) (m0_1 : List UInt8) (m0_2 : Int) (m2 : List V) : goK sk false 0 fa42 1 (T42_1 x0 x8 m0_0 m0_1 m0_2 m2) = s42_1 x0 x8 m0_0 m0_1 m0_2 m2 := by kernel_rfl
theorem s42_1_run (x0 : List V) (x8 : Int) (m0_0 : Int) (m0_1 : List UInt8) (m0_2 : Int) (m2 : List V) {o o' : Out} (h : s42_1 x0 x8 m0_0 m0_1 m0_2 m2 = some o) (hg : Go sk false 0 fa42 o o') : Go sk false 0 fa42 (.head 1 (T42_1 x0 x8 m0_0 m0_1 m0_2 m2)) o' := .step ((s42_1_eq x0 x8 m0_0 m0_1 m0_2 m2).trans h) hg
/-! ### budwood/side.Do -/
noncomputable def fa19 : FA := ⟨2, 61, [.tmp 4, .tmp 5], [22, 26],
 (.seq
 (.ops false [⟨(some 3), .box 41 (.tmp 1), 0, none, false, false, false⟩, ⟨(some 4), .assign (.const (.slice none 0 0)), 22, none, false, false, false⟩, ⟨(some 5), .assign (.const (.int .i64 (0))), 26, none, false, false, false⟩])
 (.seq
 (.seq
 (.ops false [mv 9 0 22, ⟨(some 10), .call ⟨(.value (.func 29)), #[(.tmp 9)], #[22]⟩, 4, none, false, false, false⟩, ⟨(some 11), .unOp .not 4 (.tmp 10), 4, none, false, false, false⟩, mv 12 11 4, ⟨(some 13), .load 41 (.tmp 3), 41, (some (12, false)), false, false, false⟩, ⟨(some 14), .call ⟨(.value (.func 37)), #[(.tmp 13)], #[41]⟩, 4, (some (12, false)), false, false, false⟩, ⟨(some 15), .unOp .not 4 (.tmp 14), 4, (some (12, false)), false, false, false⟩, ⟨(some 16), .pick (.tmp 12) (.const (.bool true)) (.tmp 15), 4, none, false, false, false⟩])
 (.cond (.tmp 16)
 (.seq
 (.ops false [⟨(some 4), .assign (.const (.slice none 0 0)), 22, none, false, false, false⟩, ⟨(some 5), .assign (.const (.int .i64 (1))), 26, none, false, false, false⟩])
 (.ret))
 (.skip)))
 (.seq
 (.seq
 (.ops false [⟨(some 17), .fieldAddr 41 (.tmp 3) 0, 0, none, false, false, false⟩, ⟨(some 18), .load 3 (.tmp 17), 3, none, false, false, false⟩, ⟨(some 19), .binOp .eql 3 (.tmp 18) (.const (.int .i64 (1))) 3, 4, none, false, false, false⟩])
 (.cond (.tmp 19)
 (.seq
 (.ops false [mv 20 0 22, ⟨(some 21), .load 41 (.tmp 3), 41, none, false, false, false⟩, ⟨(some 22), .call ⟨(.value (.func 38)), #[(.tmp 20), (.tmp 21)], #[22, 41]⟩, 27, none, false, false, false⟩, ⟨(some 23), .extract (.tmp 22) 0, 22, none, false, false, false⟩, ⟨(some 24), .extract (.tmp 22) 1, 26, none, false, false, false⟩, asg 4 23 22, asg 5 24 26])
 (.ret))
 (.skip)))
 (.seq
 (.ops false [mv 25 0 22, ⟨(some 26), .fieldAddr 41 (.tmp 3) 2, 0, none, false, false, false⟩, ⟨(some 27), .load 3 (.tmp 26), 3, none, false, false, false⟩, ⟨(some 28), .call ⟨(.value (.func 39)), #[(.tmp 25), (.tmp 27)], #[22, 3]⟩, 3, none, false, false, false⟩, asg 6 28 3])
 (.seq
 (.ops false [⟨(some 7), .assign (.const (.int .i64 (0))), 3, none, false, false, false⟩])
 (.seq
 (.seq
 (.ops false [⟨(some 29), .fieldAddr 41 (.tmp 3) 0, 0, none, false, false, false⟩, ⟨(some 30), .load 3 (.tmp 29), 3, none, false, false, false⟩, ⟨(some 31), .binOp .eql 3 (.tmp 30) (.const (.int .i64 (3))) 3, 4, none, false, false, false⟩])
 (.cond (.tmp 31)
 (.ops false [mv 32 0 22, ⟨(some 33), .call ⟨(.builtin .len), #[(.tmp 32)], #[22]⟩, 3, none, false, false, false⟩, ⟨(some 34), .binOp .sub 3 (.tmp 33) (.const (.int .i64 (1))) 3, 3, none, false, false, false⟩, asg 7 34 3])
 (.skip)))
 (.seq
 (.seq
 (.ops false [mv 35 6 3, ⟨(some 36), .binOp .lss 3 (.tmp 35) (.const (.int .i64 (0))) 3, 4, none, false, false, false⟩, mv 37 36 4, ⟨(some 38), .move (.tmp 6), 3, (some (37, false)), false, false, false⟩, ⟨(some 39), .move (.tmp 7), 3, (some (37, false)), false, false, false⟩, ⟨(some 40), .binOp .eql 3 (.tmp 38) (.tmp 39) 3, 4, (some (37, false)), false, false, false⟩, ⟨(some 41), .pick (.tmp 37) (.const (.bool true)) (.tmp 40), 4, none, false, false, false⟩])
 (.cond (.tmp 41)
 (.seq
 (.ops false [⟨(some 4), .assign (.const (.slice none 0 0)), 22, none, false, false, false⟩, ⟨(some 5), .assign (.const (.int .i64 (7))), 26, none, false, false, false⟩])
 (.ret))
 (.skip)))
 (.seq
 (.ops false [mv 42 0 22, ⟨(some 43), .call ⟨(.value (.func 32)), #[(.tmp 42)], #[22]⟩, 22, none, false, false, false⟩, mv 44 6 3, mv 45 6 3, ⟨(some 46), .binOp .add 3 (.tmp 45) (.const (.int .i64 (1))) 3, 3, none, false, false, false⟩, ⟨(some 47), .call ⟨(.value (.func 40)), #[(.tmp 43), (.tmp 44), (.tmp 46)], #[22, 3, 3]⟩, 22, none, false, false, false⟩, asg 8 47 22])
 (.seq
 (.seq
 (.ops false [⟨(some 48), .fieldAddr 41 (.tmp 3) 0, 0, none, false, false, false⟩, ⟨(some 49), .load 3 (.tmp 48), 3, none, false, false, false⟩, ⟨(some 50), .binOp .eql 3 (.tmp 49) (.const (.int .i64 (3))) 3, 4, none, false, false, false⟩])
 (.cond (.tmp 50)
 (.ops false [mv 51 8 22, mv 52 6 3, mv 53 0 22, mv 54 6 3, ⟨(some 55), .indexAddr 22 (.tmp 53) (.tmp 54), 0, none, false, false, false⟩, ⟨(some 56), .fieldAddr 66 (.tmp 55) 0, 0, none, false, false, false⟩, ⟨(some 57), .load 9 (.tmp 56), 9, none, false, false, false⟩, ⟨(some 58), .indexAddr 22 (.tmp 51) (.tmp 52), 0, none, false, false, false⟩, ⟨(some 59), .fieldAddr 66 (.tmp 58) 0, 0, none, false, false, false⟩, ⟨none, .store 9 (.tmp 59) (.tmp 57), 0, none, false, false, false⟩])
 (.skip)))
 (.seq
 (.ops false [mv 60 8 22, asg 4 60 22, ⟨(some 5), .assign (.const (.int .i64 (0))), 26, none, false, false, false⟩])
 (.ret)))))))))))⟩
theorem fa19_eq : fnA scfg.P (scfg.rxf 19) 19 = some fa19 := by kernel_rfl
noncomputable def e19 (a0 : List V) (a1Kind : Int) (a1Low : List UInt8) (a1Page : Int) : R :=
  pcK scfg 29 [V.sl a0] fun r =>
  kB r fun r29 =>
  cond (!r29)
 (some (.done (V.tup [V.sl [], V.int .i64 1])))
 (pcK scfg 37 [V.agg [V.int .i64 a1Kind, V.str a1Low, V.int .i64 a1Page]] fun r_1 =>
  kB r_1 fun r37 =>
  cond (!r37)
 (some (.done (V.tup [V.sl [], V.int .i64 1])))
 (cond (a1Kind == (1 : Int))
 (pcK scfg 38 [V.sl a0, V.agg [V.int .i64 a1Kind, V.str a1Low, V.int .i64 a1Page]] fun r_2 =>
  d27 r_2 fun r38_0 r38_1 =>
  some (.done (V.tup [V.sl r38_0, V.int .i64 r38_1])))
 (pcK scfg 39 [V.sl a0, V.int .i64 a1Page] fun r_3 =>
  kI .i64 r_3 fun r39 =>
  cond (a1Kind == (3 : Int))
 (cond (decide (r39 < 0))
 (some (.done (V.tup [V.sl [], V.int .i64 7])))
 (cond (r39 == (W .i64 ((a0.length : Int) - 1)))
 (some (.done (V.tup [V.sl [], V.int .i64 7])))
 (pcK scfg 32 [V.sl a0] fun r_4 =>
  kF 66 r_4 fun r32 =>
  gd (decide (0 ≤ r39 ∧ r39 ≤ W .i64 (r39 + 1) ∧ (W .i64 (r39 + 1)).toNat ≤ r32.length ∧ r32.length ≤ 16777216)) <|
  cond (a1Kind == (3 : Int))
 (gd (decide (0 ≤ r39)) <|
  idxK a0 r39.toNat fun v =>
  d66 v fun low0 page =>
  gd (decide (0 ≤ r39)) <|
  gd (decide (r39.toNat < ((r32.take r39.toNat) ++ (r32.drop ((W .i64 (r39 + 1)).toNat))).length)) <|
  idxK ((r32.take r39.toNat) ++ (r32.drop ((W .i64 (r39 + 1)).toNat))) r39.toNat fun v_1 =>
  d66 v_1 fun low0_1 page_1 =>
  some (.done (V.tup [V.sl (((r32.take r39.toNat) ++ (r32.drop ((W .i64 (r39 + 1)).toNat))).set r39.toNat (V.agg [V.str low0, V.int .i64 page_1])), V.int .i64 0])))
 (some (.done (V.tup [V.sl ((r32.take r39.toNat) ++ (r32.drop ((W .i64 (r39 + 1)).toNat))), V.int .i64 0]))))))
 (cond (decide (r39 < 0))
 (some (.done (V.tup [V.sl [], V.int .i64 7])))
 (cond (r39 == (0 : Int))
 (some (.done (V.tup [V.sl [], V.int .i64 7])))
 (pcK scfg 32 [V.sl a0] fun r_5 =>
  kF 66 r_5 fun r32_1 =>
  gd (decide (0 ≤ r39 ∧ r39 ≤ W .i64 (r39 + 1) ∧ (W .i64 (r39 + 1)).toNat ≤ r32_1.length ∧ r32_1.length ≤ 16777216)) <|
  cond (a1Kind == (3 : Int))
 (gd (decide (0 ≤ r39)) <|
  idxK a0 r39.toNat fun v_2 =>
  d66 v_2 fun low0_2 page_2 =>
  gd (decide (0 ≤ r39)) <|
  gd (decide (r39.toNat < ((r32_1.take r39.toNat) ++ (r32_1.drop ((W .i64 (r39 + 1)).toNat))).length)) <|
  idxK ((r32_1.take r39.toNat) ++ (r32_1.drop ((W .i64 (r39 + 1)).toNat))) r39.toNat fun v_3 =>
  d66 v_3 fun low0_3 page_3 =>
  some (.done (V.tup [V.sl (((r32_1.take r39.toNat) ++ (r32_1.drop ((W .i64 (r39 + 1)).toNat))).set r39.toNat (V.agg [V.str low0_2, V.int .i64 page_3])), V.int .i64 0])))
 (some (.done (V.tup [V.sl ((r32_1.take r39.toNat) ++ (r32_1.drop ((W .i64 (r39 + 1)).toNat))), V.int .i64 0])))))))))
theorem e19_eq (a0 : List V) (a1Kind : Int) (a1Low : List UInt8) (a1Page : Int) : enterK sk false fa19 [V.sl a0, V.agg [V.int .i64 a1Kind, V.str a1Low, V.int .i64 a1Page]] [] = e19 a0 a1Kind a1Low a1Page := by kernel_rfl
theorem e19_run (a0 : List V) (a1Kind : Int) (a1Low : List UInt8) (a1Page : Int) {o : Out} {v : V} (h : e19 a0 a1Kind a1Low a1Page = some o) (hg : Go sk false 0 fa19 o (.done v)) : pcW scfg 19 [V.sl a0, V.agg [V.int .i64 a1Kind, V.str a1Low, V.int .i64 a1Page]] = some v := pcW_go sik rfl fa19_eq ((e19_eq a0 a1Kind a1Low a1Page).trans h) hg
theorem e19_done (a0 : List V) (a1Kind : Int) (a1Low : List UInt8) (a1Page : Int) {v : V} (h : e19 a0 a1Kind a1Low a1Page = some (.done v)) : pcW scfg 19 [V.sl a0, V.agg [V.int .i64 a1Kind, V.str a1Low, V.int .i64 a1Page]] = some v := e19_run a0 a1Kind a1Low a1Page h (.refl _)
/-! ### budwood/budwoodref19.Do -/
noncomputable def fa20 : FA := ⟨2, 89, [.tmp 4, .tmp 5], [29, 26],
 (.seq
 (.ops false [⟨(some 3), .box 43 (.tmp 1), 0, none, false, false, false⟩, ⟨(some 4), .assign (.const (.slice none 0 0)), 29, none, false, false, false⟩, ⟨(some 5), .assign (.const (.int .i64 (0))), 26, none, false, false, false⟩])
 (.seq
 (.seq
 (.ops false [mv 8 0 29, ⟨(some 9), .call ⟨(.value (.func 33)), #[(.tmp 8)], #[29]⟩, 4, none, false, false, false⟩, ⟨(some 10), .unOp .not 4 (.tmp 9), 4, none, false, false, false⟩, mv 11 10 4, ⟨(some 12), .load 43 (.tmp 3), 43, (some (11, false)), false, false, false⟩, ⟨(some 13), .call ⟨(.value (.func 41)), #[(.tmp 12)], #[43]⟩, 4, (some (11, false)), false, false, false⟩, ⟨(some 14), .unOp .not 4 (.tmp 13), 4, (some (11, false)), false, false, false⟩, ⟨(some 15), .pick (.tmp 11) (.const (.bool true)) (.tmp 14), 4, none, false, false, false⟩])
 (.cond (.tmp 15)
 (.seq
 (.ops false [⟨(some 4), .assign (.const (.slice none 0 0)), 29, none, false, false, false⟩, ⟨(some 5), .assign (.const (.int .i64 (1))), 26, none, false, false, false⟩])
 (.ret))
 (.skip)))
 (.seq
 (.seq
 (.ops false [⟨(some 16), .fieldAddr 43 (.tmp 3) 0, 0, none, false, false, false⟩, ⟨(some 17), .load 3 (.tmp 16), 3, none, false, false, false⟩, ⟨(some 18), .binOp .eql 3 (.tmp 17) (.const (.int .i64 (1))) 3, 4, none, false, false, false⟩])
 (.cond (.tmp 18)
 (.seq
 (.ops false [mv 19 0 29, ⟨(some 20), .load 43 (.tmp 3), 43, none, false, false, false⟩, ⟨(some 21), .call ⟨(.value (.func 42)), #[(.tmp 19), (.tmp 20)], #[29, 43]⟩, 30, none, false, false, false⟩, ⟨(some 22), .extract (.tmp 21) 0, 29, none, false, false, false⟩, ⟨(some 23), .extract (.tmp 21) 1, 26, none, false, false, false⟩, asg 4 22 29, asg 5 23 26])
 (.ret))
 (.skip)))
 (.seq
 (.ops false [⟨(some 6), .assign (.const (.int .i64 (0))), 3, none, false, false, false⟩])
 (.seq
 (.block 0
 (.loop ([1, 2] ++ List.range' 7 82)
 (.seq
 (.seq
 (.ops true [mv 24 6 3, mv 25 0 29, ⟨(some 26), .call ⟨(.builtin .len), #[(.tmp 25)], #[29]⟩, 3, none, false, false, false⟩, ⟨(some 27), .binOp .lss 3 (.tmp 24) (.tmp 26) 3, 4, none, false, false, false⟩, mv 28 27 4, ⟨(some 29), .move (.tmp 0), 29, (some (28, true)), false, false, false⟩, ⟨(some 30), .move (.tmp 6), 3, (some (28, true)), false, false, false⟩, ⟨(some 31), .indexAddr 29 (.tmp 29) (.tmp 30), 0, (some (28, true)), false, false, false⟩, ⟨(some 32), .fieldAddr 71 (.tmp 31) 1, 0, (some (28, true)), false, false, false⟩, ⟨(some 33), .load 3 (.tmp 32), 3, (some (28, true)), false, false, false⟩, ⟨(some 34), .fieldAddr 43 (.tmp 3) 2, 0, (some (28, true)), false, false, false⟩, ⟨(some 35), .load 3 (.tmp 34), 3, (some (28, true)), false, false, false⟩, ⟨(some 36), .binOp .neq 3 (.tmp 33) (.tmp 35) 3, 4, (some (28, true)), false, false, false⟩, ⟨(some 37), .pick (.tmp 28) (.tmp 36) (.const (.bool false)), 4, none, false, false, false⟩])
 (.cond (.tmp 37)
 (.skip)
 (.exit 0)))
 (.block 1
 (.ops false [mv 38 6 3, ⟨(some 39), .binOp .add 3 (.tmp 38) (.const (.int .i64 (1))) 3, 3, none, false, false, false⟩, asg 6 39 3])))))
 (.seq
 (.seq
 (.ops false [mv 40 6 3, mv 41 0 29, ⟨(some 42), .call ⟨(.builtin .len), #[(.tmp 41)], #[29]⟩, 3, none, false, false, false⟩, ⟨(some 43), .binOp .eql 3 (.tmp 40) (.tmp 42) 3, 4, none, false, false, false⟩, mv 44 43 4, ⟨(some 45), .fieldAddr 43 (.tmp 3) 0, 0, (some (44, false)), false, false, false⟩, ⟨(some 46), .load 3 (.tmp 45), 3, (some (44, false)), false, false, false⟩, ⟨(some 47), .binOp .eql 3 (.tmp 46) (.const (.int .i64 (2))) 3, 4, (some (44, false)), false, false, false⟩, ⟨(some 48), .move (.tmp 47), 4, (some (44, false)), false, false, false⟩, ⟨(some 49), .move (.tmp 6), 3, (some (48, true)), false, false, false⟩, ⟨(some 50), .binOp .eql 3 (.tmp 49) (.const (.int .i64 (0))) 3, 4, (some (48, true)), false, false, false⟩, ⟨(some 51), .pick (.tmp 48) (.tmp 50) (.const (.bool false)), 4, (some (44, false)), false, false, false⟩, ⟨(some 52), .pick (.tmp 44) (.const (.bool true)) (.tmp 51), 4, none, false, false, false⟩, mv 53 52 4, ⟨(some 54), .fieldAddr 43 (.tmp 3) 0, 0, (some (53, false)), false, false, false⟩, ⟨(some 55), .load 3 (.tmp 54), 3, (some (53, false)), false, false, false⟩, ⟨(some 56), .binOp .eql 3 (.tmp 55) (.const (.int .i64 (3))) 3, 4, (some (53, false)), false, false, false⟩, ⟨(some 57), .move (.tmp 56), 4, (some (53, false)), false, false, false⟩, ⟨(some 58), .move (.tmp 6), 3, (some (57, true)), false, false, false⟩, ⟨(some 59), .move (.tmp 0), 29, (some (57, true)), false, false, false⟩, ⟨(some 60), .call ⟨(.builtin .len), #[(.tmp 59)], #[29]⟩, 3, (some (57, true)), false, false, false⟩, ⟨(some 61), .binOp .sub 3 (.tmp 60) (.const (.int .i64 (1))) 3, 3, (some (57, true)), false, false, false⟩, ⟨(some 62), .binOp .eql 3 (.tmp 58) (.tmp 61) 3, 4, (some (57, true)), false, false, false⟩, ⟨(some 63), .pick (.tmp 57) (.tmp 62) (.const (.bool false)), 4, (some (53, false)), false, false, false⟩, ⟨(some 64), .pick (.tmp 53) (.const (.bool true)) (.tmp 63), 4, none, false, false, false⟩])
 (.cond (.tmp 64)
 (.seq
 (.ops false [⟨(some 4), .assign (.const (.slice none 0 0)), 29, none, false, false, false⟩, ⟨(some 5), .assign (.const (.int .i64 (7))), 26, none, false, false, false⟩])
 (.ret))
 (.skip)))
 (.seq
 (.ops false [⟨(some 65), .buildSlice 29 0 #[], 29, none, false, false, false⟩, mv 66 0 29, mv 67 6 3, ⟨(some 68), .slice 29 (.tmp 66) none (some (.tmp 67)) none, 29, none, false, false, false⟩, ⟨(some 69), .call ⟨(.builtin .append), #[(.tmp 65), (.tmp 68)], #[29, 29]⟩, 29, none, false, false, false⟩, asg 7 69 29])
 (.seq
 (.ops false [mv 70 7 29, mv 71 0 29, mv 72 6 3, ⟨(some 73), .binOp .add 3 (.tmp 72) (.const (.int .i64 (1))) 3, 3, none, false, false, false⟩, ⟨(some 74), .slice 29 (.tmp 71) (some (.tmp 73)) none none, 29, none, false, false, false⟩, ⟨(some 75), .call ⟨(.builtin .append), #[(.tmp 70), (.tmp 74)], #[29, 29]⟩, 29, none, false, false, false⟩, asg 7 75 29])
 (.seq
 (.seq
 (.ops false [⟨(some 76), .fieldAddr 43 (.tmp 3) 0, 0, none, false, false, false⟩, ⟨(some 77), .load 3 (.tmp 76), 3, none, false, false, false⟩, ⟨(some 78), .binOp .eql 3 (.tmp 77) (.const (.int .i64 (3))) 3, 4, none, false, false, false⟩])
 (.cond (.tmp 78)
 (.ops false [mv 79 7 29, mv 80 6 3, mv 81 0 29, mv 82 6 3, ⟨(some 83), .indexAddr 29 (.tmp 81) (.tmp 82), 0, none, false, false, false⟩, ⟨(some 84), .fieldAddr 71 (.tmp 83) 0, 0, none, false, false, false⟩, ⟨(some 85), .load 9 (.tmp 84), 9, none, false, false, false⟩, ⟨(some 86), .indexAddr 29 (.tmp 79) (.tmp 80), 0, none, false, false, false⟩, ⟨(some 87), .fieldAddr 71 (.tmp 86) 0, 0, none, false, false, false⟩, ⟨none, .store 9 (.tmp 87) (.tmp 85), 0, none, false, false, false⟩])
 (.skip)))
 (.seq
 (.ops false [mv 88 7 29, asg 4 88 29, ⟨(some 5), .assign (.const (.int .i64 (0))), 26, none, false, false, false⟩])
 (.ret)))))))))))⟩
theorem fa20_eq : fnA scfg.P (scfg.rxf 20) 20 = some fa20 := by kernel_rfl
def T20_0 (x0 : List V) (x6 : Int) (m0_0 : Int) (m0_1 : List UInt8) (m0_2 : Int) : S := ⟨[V.sl x0, V.junk, V.junk, V.ptr 0 0 0, V.own 1, V.int .i64 0, V.int .i64 x6] ++ (JU 82), [O.box 43 (V.agg [V.int .i64 m0_0, V.str m0_1, V.int .i64 m0_2]) false, O.row 71 [] 0]⟩
noncomputable def e20 (a0 : List V) (a1Kind : Int) (a1Low : List UInt8) (a1Page : Int) : R :=
  pcK scfg 33 [V.sl a0] fun r =>
  kB r fun r33 =>
  cond (!r33)
 (some (.done (V.tup [V.sl [], V.int .i64 1])))
 (pcK scfg 41 [V.agg [V.int .i64 a1Kind, V.str a1Low, V.int .i64 a1Page]] fun r_1 =>
  kB r_1 fun r41 =>
  cond (!r41)
 (some (.done (V.tup [V.sl [], V.int .i64 1])))
 (cond (a1Kind == (1 : Int))
 (pcK scfg 42 [V.sl a0, V.agg [V.int .i64 a1Kind, V.str a1Low, V.int .i64 a1Page]] fun r_2 =>
  d30 r_2 fun r42_0 r42_1 =>
  some (.done (V.tup [V.sl r42_0, V.int .i64 r42_1])))
 (some (.head 0 (T20_0 a0 0 a1Kind a1Low a1Page)))))
theorem e20_eq (a0 : List V) (a1Kind : Int) (a1Low : List UInt8) (a1Page : Int) : enterK sk false fa20 [V.sl a0, V.agg [V.int .i64 a1Kind, V.str a1Low, V.int .i64 a1Page]] [] = e20 a0 a1Kind a1Low a1Page := by kernel_rfl
theorem e20_run (a0 : List V) (a1Kind : Int) (a1Low : List UInt8) (a1Page : Int) {o : Out} {v : V} (h : e20 a0 a1Kind a1Low a1Page = some o) (hg : Go sk false 0 fa20 o (.done v)) : pcW scfg 20 [V.sl a0, V.agg [V.int .i64 a1Kind, V.str a1Low, V.int .i64 a1Page]] = some v := pcW_go sik rfl fa20_eq ((e20_eq a0 a1Kind a1Low a1Page).trans h) hg
noncomputable def s20_0 (x0 : List V) (x6 : Int) (m0_0 : Int) (m0_1 : List UInt8) (m0_2 : Int) : R :=
  cond (decide (x6 < (x0.length : Int)))
 (gd (decide (0 ≤ x6)) <|
  idxK x0 x6.toNat fun v =>
  d71 v fun low0 page =>
  cond (page != m0_2)
 (some (.head 0 (T20_0 x0 (W .i64 (x6 + 1)) m0_0 m0_1 m0_2)))
 (cond (x6 == (x0.length : Int))
 (some (.done (V.tup [V.sl [], V.int .i64 7])))
 (cond (m0_0 == (2 : Int))
 (cond (x6 == (0 : Int))
 (some (.done (V.tup [V.sl [], V.int .i64 7])))
 (cond (m0_0 == (3 : Int))
 (cond (x6 == (W .i64 ((x0.length : Int) - 1)))
 (some (.done (V.tup [V.sl [], V.int .i64 7])))
 (gd (wfl 2 x0) <|
  gd (decide (0 ≤ x6)) <|
  gd (decide (x6.toNat ≤ x0.length)) <|
  gd (wfl 2 (x0.take x6.toNat)) <|
  gd (decide (0 + (x0.take x6.toNat).length ≤ 16777216)) <|
  gd (wfl 2 x0) <|
  gd (decide (0 ≤ W .i64 (x6 + 1))) <|
  gd (decide ((W .i64 (x6 + 1)).toNat ≤ x0.length)) <|
  gd (wfl 2 ((x0.take x0.length).drop ((W .i64 (x6 + 1)).toNat))) <|
  gd (decide ((x0.take x6.toNat).length + ((x0.take x0.length).drop ((W .i64 (x6 + 1)).toNat)).length ≤ 16777216)) <|
  cond (m0_0 == (3 : Int))
 (gd (decide (0 ≤ x6)) <|
  idxK x0 x6.toNat fun v_1 =>
  d71 v_1 fun low0_1 page_1 =>
  gd (decide (0 ≤ x6)) <|
  gd (decide (x6.toNat < ((x0.take x6.toNat) ++ ((x0.take x0.length).drop ((W .i64 (x6 + 1)).toNat))).length)) <|
  idxK ((x0.take x6.toNat) ++ ((x0.take x0.length).drop ((W .i64 (x6 + 1)).toNat))) x6.toNat fun v_2 =>
  d71 v_2 fun low0_2 page_2 =>
  some (.done (V.tup [V.sl (((x0.take x6.toNat) ++ ((x0.take x0.length).drop ((W .i64 (x6 + 1)).toNat))).set x6.toNat (V.agg [V.str low0_1, V.int .i64 page_2])), V.int .i64 0])))
 (some (.done (V.tup [V.sl ((x0.take x6.toNat) ++ ((x0.take x0.length).drop ((W .i64 (x6 + 1)).toNat))), V.int .i64 0])))))
 (gd (wfl 2 x0) <|
  gd (decide (0 ≤ x6)) <|
  gd (decide (x6.toNat ≤ x0.length)) <|
  gd (wfl 2 (x0.take x6.toNat)) <|
  gd (decide (0 + (x0.take x6.toNat).length ≤ 16777216)) <|
  gd (wfl 2 x0) <|
  gd (decide (0 ≤ W .i64 (x6 + 1))) <|
  gd (decide ((W .i64 (x6 + 1)).toNat ≤ x0.length)) <|
  gd (wfl 2 ((x0.take x0.length).drop ((W .i64 (x6 + 1)).toNat))) <|
  gd (decide ((x0.take x6.toNat).length + ((x0.take x0.length).drop ((W .i64 (x6 + 1)).toNat)).length ≤ 16777216)) <|
  cond (m0_0 == (3 : Int))
 (gd (decide (0 ≤ x6)) <|
  idxK x0 x6.toNat fun v_3 =>
  d71 v_3 fun low0_3 page_3 =>
  gd (decide (0 ≤ x6)) <|
  gd (decide (x6.toNat < ((x0.take x6.toNat) ++ ((x0.take x0.length).drop ((W .i64 (x6 + 1)).toNat))).length)) <|
  idxK ((x0.take x6.toNat) ++ ((x0.take x0.length).drop ((W .i64 (x6 + 1)).toNat))) x6.toNat fun v_4 =>
  d71 v_4 fun low0_4 page_4 =>
  some (.done (V.tup [V.sl (((x0.take x6.toNat) ++ ((x0.take x0.length).drop ((W .i64 (x6 + 1)).toNat))).set x6.toNat (V.agg [V.str low0_3, V.int .i64 page_4])), V.int .i64 0])))
 (some (.done (V.tup [V.sl ((x0.take x6.toNat) ++ ((x0.take x0.length).drop ((W .i64 (x6 + 1)).toNat))), V.int .i64 0]))))))
 (cond (m0_0 == (3 : Int))
 (cond (x6 == (W .i64 ((x0.length : Int) - 1)))
 (some (.done (V.tup [V.sl [], V.int .i64 7])))
 (gd (wfl 2 x0) <|
  gd (decide (0 ≤ x6)) <|
  gd (decide (x6.toNat ≤ x0.length)) <|
  gd (wfl 2 (x0.take x6.toNat)) <|
  gd (decide (0 + (x0.take x6.toNat).length ≤ 16777216)) <|
  gd (wfl 2 x0) <|
  gd (decide (0 ≤ W .i64 (x6 + 1))) <|
  gd (decide ((W .i64 (x6 + 1)).toNat ≤ x0.length)) <|
  gd (wfl 2 ((x0.take x0.length).drop ((W .i64 (x6 + 1)).toNat))) <|
  gd (decide ((x0.take x6.toNat).length + ((x0.take x0.length).drop ((W .i64 (x6 + 1)).toNat)).length ≤ 16777216)) <|
  cond (m0_0 == (3 : Int))
 (gd (decide (0 ≤ x6)) <|
  idxK x0 x6.toNat fun v_5 =>
  d71 v_5 fun low0_5 page_5 =>
  gd (decide (0 ≤ x6)) <|
  gd (decide (x6.toNat < ((x0.take x6.toNat) ++ ((x0.take x0.length).drop ((W .i64 (x6 + 1)).toNat))).length)) <|
  idxK ((x0.take x6.toNat) ++ ((x0.take x0.length).drop ((W .i64 (x6 + 1)).toNat))) x6.toNat fun v_6 =>
  d71 v_6 fun low0_6 page_6 =>
  some (.done (V.tup [V.sl (((x0.take x6.toNat) ++ ((x0.take x0.length).drop ((W .i64 (x6 + 1)).toNat))).set x6.toNat (V.agg [V.str low0_5, V.int .i64 page_6])), V.int .i64 0])))
 (some (.done (V.tup [V.sl ((x0.take x6.toNat) ++ ((x0.take x0.length).drop ((W .i64 (x6 + 1)).toNat))), V.int .i64 0])))))
 (gd (wfl 2 x0) <|
  gd (decide (0 ≤ x6)) <|
  gd (decide (x6.toNat ≤ x0.length)) <|
  gd (wfl 2 (x0.take x6.toNat)) <|
  gd (decide (0 + (x0.take x6.toNat).length ≤ 16777216)) <|
  gd (wfl 2 x0) <|
  gd (decide (0 ≤ W .i64 (x6 + 1))) <|
  gd (decide ((W .i64 (x6 + 1)).toNat ≤ x0.length)) <|
  gd (wfl 2 ((x0.take x0.length).drop ((W .i64 (x6 + 1)).toNat))) <|
  gd (decide ((x0.take x6.toNat).length + ((x0.take x0.length).drop ((W .i64 (x6 + 1)).toNat)).length ≤ 16777216)) <|
  cond (m0_0 == (3 : Int))
 (gd (decide (0 ≤ x6)) <|
  idxK x0 x6.toNat fun v_7 =>
  d71 v_7 fun low0_7 page_7 =>
  gd (decide (0 ≤ x6)) <|
  gd (decide (x6.toNat < ((x0.take x6.toNat) ++ ((x0.take x0.length).drop ((W .i64 (x6 + 1)).toNat))).length)) <|
  idxK ((x0.take x6.toNat) ++ ((x0.take x0.length).drop ((W .i64 (x6 + 1)).toNat))) x6.toNat fun v_8 =>
  d71 v_8 fun low0_8 page_8 =>
  some (.done (V.tup [V.sl (((x0.take x6.toNat) ++ ((x0.take x0.length).drop ((W .i64 (x6 + 1)).toNat))).set x6.toNat (V.agg [V.str low0_7, V.int .i64 page_8])), V.int .i64 0])))
 (some (.done (V.tup [V.sl ((x0.take x6.toNat) ++ ((x0.take x0.length).drop ((W .i64 (x6 + 1)).toNat))), V.int .i64 0]))))))))
 (cond (x6 == (x0.length : Int))
 (some (.done (V.tup [V.sl [], V.int .i64 7])))
 (cond (m0_0 == (2 : Int))
 (cond (x6 == (0 : Int))
 (some (.done (V.tup [V.sl [], V.int .i64 7])))
 (cond (m0_0 == (3 : Int))
 (cond (x6 == (W .i64 ((x0.length : Int) - 1)))
 (some (.done (V.tup [V.sl [], V.int .i64 7])))
 (gd (wfl 2 x0) <|
  gd (decide (0 ≤ x6)) <|
  gd (decide (x6.toNat ≤ x0.length)) <|
  gd (wfl 2 (x0.take x6.toNat)) <|
  gd (decide (0 + (x0.take x6.toNat).length ≤ 16777216)) <|
  gd (wfl 2 x0) <|
  gd (decide (0 ≤ W .i64 (x6 + 1))) <|
  gd (decide ((W .i64 (x6 + 1)).toNat ≤ x0.length)) <|
  gd (wfl 2 ((x0.take x0.length).drop ((W .i64 (x6 + 1)).toNat))) <|
  gd (decide ((x0.take x6.toNat).length + ((x0.take x0.length).drop ((W .i64 (x6 + 1)).toNat)).length ≤ 16777216)) <|
  cond (m0_0 == (3 : Int))
 (gd (decide (0 ≤ x6)) <|
  idxK x0 x6.toNat fun v_9 =>
  d71 v_9 fun low0_9 page_9 =>
  gd (decide (0 ≤ x6)) <|
  gd (decide (x6.toNat < ((x0.take x6.toNat) ++ ((x0.take x0.length).drop ((W .i64 (x6 + 1)).toNat))).length)) <|
  idxK ((x0.take x6.toNat) ++ ((x0.take x0.length).drop ((W .i64 (x6 + 1)).toNat))) x6.toNat fun v_10 =>
  d71 v_10 fun low0_10 page_10 =>
  some (.done (V.tup [V.sl (((x0.take x6.toNat) ++ ((x0.take x0.length).drop ((W .i64 (x6 + 1)).toNat))).set x6.toNat (V.agg [V.str low0_9, V.int .i64 page_10])), V.int .i64 0])))
 (some (.done (V.tup [V.sl ((x0.take x6.toNat) ++ ((x0.take x0.length).drop ((W .i64 (x6 + 1)).toNat))), V.int .i64 0])))))
 (gd (wfl 2 x0) <|
  gd (decide (0 ≤ x6)) <|
  gd (decide (x6.toNat ≤ x0.length)) <|
  gd (wfl 2 (x0.take x6.toNat)) <|
  gd (decide (0 + (x0.take x6.toNat).length ≤ 16777216)) <|
  gd (wfl 2 x0) <|
  gd (decide (0 ≤ W .i64 (x6 + 1))) <|
  gd (decide ((W .i64 (x6 + 1)).toNat ≤ x0.length)) <|
  gd (wfl 2 ((x0.take x0.length).drop ((W .i64 (x6 + 1)).toNat))) <|
  gd (decide ((x0.take x6.toNat).length + ((x0.take x0.length).drop ((W .i64 (x6 + 1)).toNat)).length ≤ 16777216)) <|
  cond (m0_0 == (3 : Int))
 (gd (decide (0 ≤ x6)) <|
  idxK x0 x6.toNat fun v_11 =>
  d71 v_11 fun low0_11 page_11 =>
  gd (decide (0 ≤ x6)) <|
  gd (decide (x6.toNat < ((x0.take x6.toNat) ++ ((x0.take x0.length).drop ((W .i64 (x6 + 1)).toNat))).length)) <|
  idxK ((x0.take x6.toNat) ++ ((x0.take x0.length).drop ((W .i64 (x6 + 1)).toNat))) x6.toNat fun v_12 =>
  d71 v_12 fun low0_12 page_12 =>
  some (.done (V.tup [V.sl (((x0.take x6.toNat) ++ ((x0.take x0.length).drop ((W .i64 (x6 + 1)).toNat))).set x6.toNat (V.agg [V.str low0_11, V.int .i64 page_12])), V.int .i64 0])))
 (some (.done (V.tup [V.sl ((x0.take x6.toNat) ++ ((x0.take x0.length).drop ((W .i64 (x6 + 1)).toNat))), V.int .i64 0]))))))
 (cond (m0_0 == (3 : Int))
 (cond (x6 == (W .i64 ((x0.length : Int) - 1)))
 (some (.done (V.tup [V.sl [], V.int .i64 7])))
 (gd (wfl 2 x0) <|
  gd (decide (0 ≤ x6)) <|
  gd (decide (x6.toNat ≤ x0.length)) <|
  gd (wfl 2 (x0.take x6.toNat)) <|
  gd (decide (0 + (x0.take x6.toNat).length ≤ 16777216)) <|
  gd (wfl 2 x0) <|
  gd (decide (0 ≤ W .i64 (x6 + 1))) <|
  gd (decide ((W .i64 (x6 + 1)).toNat ≤ x0.length)) <|
  gd (wfl 2 ((x0.take x0.length).drop ((W .i64 (x6 + 1)).toNat))) <|
  gd (decide ((x0.take x6.toNat).length + ((x0.take x0.length).drop ((W .i64 (x6 + 1)).toNat)).length ≤ 16777216)) <|
  cond (m0_0 == (3 : Int))
 (gd (decide (0 ≤ x6)) <|
  idxK x0 x6.toNat fun v_13 =>
  d71 v_13 fun low0_13 page_13 =>
  gd (decide (0 ≤ x6)) <|
  gd (decide (x6.toNat < ((x0.take x6.toNat) ++ ((x0.take x0.length).drop ((W .i64 (x6 + 1)).toNat))).length)) <|
  idxK ((x0.take x6.toNat) ++ ((x0.take x0.length).drop ((W .i64 (x6 + 1)).toNat))) x6.toNat fun v_14 =>
  d71 v_14 fun low0_14 page_14 =>
  some (.done (V.tup [V.sl (((x0.take x6.toNat) ++ ((x0.take x0.length).drop ((W .i64 (x6 + 1)).toNat))).set x6.toNat (V.agg [V.str low0_13, V.int .i64 page_14])), V.int .i64 0])))
 (some (.done (V.tup [V.sl ((x0.take x6.toNat) ++ ((x0.take x0.length).drop ((W .i64 (x6 + 1)).toNat))), V.int .i64 0])))))
 (gd (wfl 2 x0) <|
  gd (decide (0 ≤ x6)) <|
  gd (decide (x6.toNat ≤ x0.length)) <|
  gd (wfl 2 (x0.take x6.toNat)) <|
  gd (decide (0 + (x0.take x6.toNat).length ≤ 16777216)) <|
  gd (wfl 2 x0) <|
  gd (decide (0 ≤ W .i64 (x6 + 1))) <|
  gd (decide ((W .i64 (x6 + 1)).toNat ≤ x0.length)) <|
  gd (wfl 2 ((x0.take x0.length).drop ((W .i64 (x6 + 1)).toNat))) <|
  gd (decide ((x0.take x6.toNat).length + ((x0.take x0.length).drop ((W .i64 (x6 + 1)).toNat)).length ≤ 16777216)) <|
  cond (m0_0 == (3 : Int))
 (gd (decide (0 ≤ x6)) <|
  idxK x0 x6.toNat fun v_15 =>
  d71 v_15 fun low0_15 page_15 =>
  gd (decide (0 ≤ x6)) <|
  gd (decide (x6.toNat < ((x0.take x6.toNat) ++ ((x0.take x0.length).drop ((W .i64 (x6 + 1)).toNat))).length)) <|
  idxK ((x0.take x6.toNat) ++ ((x0.take x0.length).drop ((W .i64 (x6 + 1)).toNat))) x6.toNat fun v_16 =>
  d71 v_16 fun low0_16 page_16 =>
  some (.done (V.tup [V.sl (((x0.take x6.toNat) ++ ((x0.take x0.length).drop ((W .i64 (x6 + 1)).toNat))).set x6.toNat (V.agg [V.str low0_15, V.int .i64 page_16])), V.int .i64 0])))
 (some (.done (V.tup [V.sl ((x0.take x6.toNat) ++ ((x0.take x0.length).drop ((W .i64 (x6 + 1)).toNat))), V.int .i64 0])))))))
theorem s20_0_eq (x0 : List V) (x6 : Int) (m0_0 : Int) (m0_1 : List UInt8) (m0_2 : Int) : goK sk false 0 fa20 0 (T20_0 x0 x6 m0_0 m0_1 m0_2) = s20_0 x0 x6 m0_0 m0_1 m0_2 := by kernel_rfl
theorem s20_0_run (x0 : List V) (x6 : Int) (m0_0 : Int) (m0_1 : List UInt8) (m0_2 : Int) {o o' : Out} (h : s20_0 x0 x6 m0_0 m0_1 m0_2 = some o) (hg : Go sk false 0 fa20 o o') : Go sk false 0 fa20 (.head 0 (T20_0 x0 x6 m0_0 m0_1 m0_2)) o' := .step ((s20_0_eq x0 x6 m0_0 m0_1 m0_2).trans h) hg
/-! ### budwood/side.Replay -/
noncomputable def fa11 : FA := ⟨2, 34, [.tmp 4, .tmp 5], [22, 26],
 (.seq
 (.ops false [⟨(some 4), .assign (.const (.slice none 0 0)), 22, none, false, false, false⟩, ⟨(some 5), .assign (.const (.int .i64 (0))), 26, none, false, false, false⟩])
 (.seq
 (.seq
 (.ops false [mv 11 0 22, ⟨(some 12), .call ⟨(.value (.func 29)), #[(.tmp 11)], #[22]⟩, 4, none, false, false, false⟩, ⟨(some 13), .unOp .not 4 (.tmp 12), 4, none, false, false, false⟩])
 (.cond (.tmp 13)
 (.seq
 (.ops false [⟨(some 4), .assign (.const (.slice none 0 0)), 22, none, false, false, false⟩, ⟨(some 5), .assign (.const (.int .i64 (1))), 26, none, false, false, false⟩])
 (.ret))
 (.skip)))
 (.seq
 (.ops false [mv 14 0 22, ⟨(some 15), .call ⟨(.value (.func 32)), #[(.tmp 14)], #[22]⟩, 22, none, false, false, false⟩, asg 6 15 22])
 (.seq
 (.seq
 (.ops false [mv 16 1 23, ⟨(some 17), .call ⟨(.builtin .len), #[(.tmp 16)], #[23]⟩, 3, none, false, false, false⟩, ⟨(some 18), .move (.const (.int .i64 (0))), 3, none, false, false, false⟩])
 (.block 0
 (.loop (List.range' 0 4 ++ List.range' 7 9 ++ List.range' 19 15)
 (.seq
 (.ops false [⟨(some 19), .binOp .lss 3 (.tmp 18) (.tmp 17) 3, 0, none, false, false, false⟩])
 (.seq
 (.cond (.tmp 19)
 (.skip)
 (.exit 0))
 (.seq
 (.block 1
 (.seq
 (.ops false [⟨(some 20), .indexAddr 23 (.tmp 16) (.tmp 18), 0, none, false, false, false⟩, ⟨(some 21), .load 41 (.tmp 20), 41, none, false, false, false⟩, ⟨(some 8), .alloc 41, 0, none, false, false, false⟩, ⟨none, .store 41 (.tmp 8) (.tmp 21), 0, none, false, false, false⟩])
 (.seq
 (.ops false [mv 23 6 22, ⟨(some 24), .load 41 (.tmp 8), 41, none, false, false, false⟩, ⟨(some 25), .call ⟨(.value (.func 19)), #[(.tmp 23), (.tmp 24)], #[22, 41]⟩, 27, none, false, false, false⟩, mv 22 25 27, ⟨(some 26), .extract (.tmp 22) 0, 22, none, false, false, false⟩, ⟨(some 27), .extract (.tmp 22) 1, 26, none, false, false, false⟩, asg 9 26 22, asg 10 27 26])
 (.seq
 (.seq
 (.ops false [mv 28 10 26, ⟨(some 29), .binOp .neq 26 (.tmp 28) (.const (.int .i64 (0))) 26, 4, none, false, false, false⟩])
 (.cond (.tmp 29)
 (.seq
 (.ops false [mv 30 10 26, ⟨(some 4), .assign (.const (.slice none 0 0)), 22, none, false, false, false⟩, asg 5 30 26])
 (.ret))
 (.skip)))
 (.ops false [mv 31 9 22, asg 6 31 22])))))
 (.ops false [⟨(some 32), .binOp .add 3 (.tmp 18) (.const (.int .i64 (1))) 3, 3, none, false, false, false⟩, mv 18 32 3])))))))
 (.seq
 (.ops false [mv 33 6 22, asg 4 33 22, ⟨(some 5), .assign (.const (.int .i64 (0))), 26, none, false, false, false⟩])
 (.ret))))))⟩
theorem fa11_eq : fnA scfg.P (scfg.rxf 11) 11 = some fa11 := by kernel_rfl
def T11_0 (x16 : List V) (x17 : Int) (m1 : List V) : S := ⟨(JU 4) ++ [V.own 0, V.int .i64 0, V.own 1] ++ (JU 9) ++ [V.sl x16, V.int .i64 x17, V.int .i64 0] ++ (JU 15), [O.row 66 [] 0, O.row 66 m1 0]⟩
def T11_0b (x6 : List V) (x16 : List V) (x17 : Int) (x18 : Int) : S := ⟨(JU 4) ++ [V.own 0, V.int .i64 0, V.sl x6] ++ (JU 9) ++ [V.sl x16, V.int .i64 x17, V.int .i64 x18] ++ (JU 15), [O.row 66 [] 0]⟩
noncomputable def e11 (a0 : List V) (a1 : List V) : R :=
  pcK scfg 29 [V.sl a0] fun r =>
  kB r fun r29 =>
  cond (!r29)
 (some (.done (V.tup [V.sl [], V.int .i64 1])))
 (pcK scfg 32 [V.sl a0] fun r_1 =>
  kF 66 r_1 fun r32 =>
  some (.head 0 (T11_0 a1 (a1.length : Int) r32)))
theorem e11_eq (a0 : List V) (a1 : List V) : enterK sk false fa11 [V.sl a0, V.sl a1] [] = e11 a0 a1 := by kernel_rfl
theorem e11_run (a0 : List V) (a1 : List V) {o : Out} {v : V} (h : e11 a0 a1 = some o) (hg : Go sk false 0 fa11 o (.done v)) : pcW scfg 11 [V.sl a0, V.sl a1] = some v := pcW_go sik rfl fa11_eq ((e11_eq a0 a1).trans h) hg
noncomputable def s11_0 (x16 : List V) (x17 : Int) (m1 : List V) : R :=
  cond (decide (0 < x17))
 (idxK x16 0 fun v =>
  d41 v fun kind0 low0 page =>
  pcK scfg 19 [V.sl m1, V.agg [V.int .i64 kind0, V.str low0, V.int .i64 page]] fun r =>
  d27 r fun r19_0 r19_1 =>
  cond (r19_1 != (0 : Int))
 (some (.done (V.tup [V.sl [], V.int .i64 r19_1])))
 (some (.head 0 (T11_0b r19_0 x16 x17 1))))
 (some (.done (V.tup [V.sl m1, V.int .i64 0])))
theorem s11_0_eq (x16 : List V) (x17 : Int) (m1 : List V) : goK sk false 0 fa11 0 (T11_0 x16 x17 m1) = s11_0 x16 x17 m1 := by kernel_rfl
theorem s11_0_run (x16 : List V) (x17 : Int) (m1 : List V) {o o' : Out} (h : s11_0 x16 x17 m1 = some o) (hg : Go sk false 0 fa11 o o') : Go sk false 0 fa11 (.head 0 (T11_0 x16 x17 m1)) o' := .step ((s11_0_eq x16 x17 m1).trans h) hg
noncomputable def s11_0b (x6 : List V) (x16 : List V) (x17 : Int) (x18 : Int) : R :=
  cond (decide (x18 < x17))
 (gd (decide (0 ≤ x18)) <|
  idxK x16 x18.toNat fun v =>
  d41 v fun kind0 low0 page =>
  pcK scfg 19 [V.sl x6, V.agg [V.int .i64 kind0, V.str low0, V.int .i64 page]] fun r =>
  d27 r fun r19_0 r19_1 =>
  cond (r19_1 != (0 : Int))
 (some (.done (V.tup [V.sl [], V.int .i64 r19_1])))
 (some (.head 0 (T11_0b r19_0 x16 x17 (W .i64 (x18 + 1))))))
 (some (.done (V.tup [V.sl x6, V.int .i64 0])))
theorem s11_0b_eq (x6 : List V) (x16 : List V) (x17 : Int) (x18 : Int) : goK sk false 0 fa11 0 (T11_0b x6 x16 x17 x18) = s11_0b x6 x16 x17 x18 := by kernel_rfl
theorem s11_0b_run (x6 : List V) (x16 : List V) (x17 : Int) (x18 : Int) {o o' : Out} (h : s11_0b x6 x16 x17 x18 = some o) (hg : Go sk false 0 fa11 o o') : Go sk false 0 fa11 (.head 0 (T11_0b x6 x16 x17 x18)) o' := .step ((s11_0b_eq x6 x16 x17 x18).trans h) hg
/-! ### budwood/budwoodref19.Replay -/
noncomputable def fa12 : FA := ⟨2, 34, [.tmp 4, .tmp 5], [29, 26],
 (.seq
 (.ops false [⟨(some 4), .assign (.const (.slice none 0 0)), 29, none, false, false, false⟩, ⟨(some 5), .assign (.const (.int .i64 (0))), 26, none, false, false, false⟩])
 (.seq
 (.seq
 (.ops false [mv 10 0 29, ⟨(some 11), .call ⟨(.value (.func 33)), #[(.tmp 10)], #[29]⟩, 4, none, false, false, false⟩, ⟨(some 12), .unOp .not 4 (.tmp 11), 4, none, false, false, false⟩])
 (.cond (.tmp 12)
 (.seq
 (.ops false [⟨(some 4), .assign (.const (.slice none 0 0)), 29, none, false, false, false⟩, ⟨(some 5), .assign (.const (.int .i64 (1))), 26, none, false, false, false⟩])
 (.ret))
 (.skip)))
 (.seq
 (.ops false [mv 13 0 29, asg 6 13 29])
 (.seq
 (.seq
 (.ops false [⟨(some 7), .assign (.const (.int .i64 (0))), 3, none, false, false, false⟩])
 (.block 0
 (.loop ([0, 2, 3] ++ List.range' 8 26)
 (.seq
 (.seq
 (.ops false [mv 14 7 3, mv 15 1 33, ⟨(some 16), .call ⟨(.builtin .len), #[(.tmp 15)], #[33]⟩, 3, none, false, false, false⟩, ⟨(some 17), .binOp .lss 3 (.tmp 14) (.tmp 16) 3, 4, none, false, false, false⟩])
 (.cond (.tmp 17)
 (.skip)
 (.exit 0)))
 (.seq
 (.block 1
 (.seq
 (.ops false [mv 21 6 29, mv 22 1 33, mv 23 7 3, ⟨(some 24), .indexAddr 33 (.tmp 22) (.tmp 23), 0, none, false, false, false⟩, ⟨(some 25), .load 43 (.tmp 24), 43, none, false, false, false⟩, ⟨(some 26), .call ⟨(.value (.func 20)), #[(.tmp 21), (.tmp 25)], #[29, 43]⟩, 30, none, false, false, false⟩, mv 20 26 30, ⟨(some 27), .extract (.tmp 20) 0, 29, none, false, false, false⟩, ⟨(some 28), .extract (.tmp 20) 1, 26, none, false, false, false⟩, asg 8 27 29, asg 9 28 26])
 (.seq
 (.seq
 (.ops false [mv 29 9 26, ⟨(some 30), .binOp .neq 26 (.tmp 29) (.const (.int .i64 (0))) 26, 4, none, false, false, false⟩])
 (.cond (.tmp 30)
 (.seq
 (.ops false [mv 31 9 26, ⟨(some 4), .assign (.const (.slice none 0 0)), 29, none, false, false, false⟩, asg 5 31 26])
 (.ret))
 (.skip)))
 (.ops false [mv 32 8 29, asg 6 32 29]))))
 (.ops false [mv 18 7 3, ⟨(some 19), .binOp .add 3 (.tmp 18) (.const (.int .i64 (1))) 3, 3, none, false, false, false⟩, asg 7 19 3]))))))
 (.seq
 (.ops false [mv 33 6 29, asg 4 33 29, ⟨(some 5), .assign (.const (.int .i64 (0))), 26, none, false, false, false⟩])
 (.ret))))))⟩
theorem fa12_eq : fnA scfg.P (scfg.rxf 12) 12 = some fa12 := by kernel_rfl
def T12_0 (x1 : List V) (x6 : List V) (x7 : Int) : S := ⟨[V.junk, V.sl x1, V.junk, V.junk, V.own 0, V.int .i64 0, V.sl x6, V.int .i64 x7] ++ (JU 26), [O.row 71 [] 0]⟩
noncomputable def e12 (a0 : List V) (a1 : List V) : R :=
  pcK scfg 33 [V.sl a0] fun r =>
  kB r fun r33 =>
  cond (!r33)
 (some (.done (V.tup [V.sl [], V.int .i64 1])))
 (some (.head 0 (T12_0 a1 a0 0)))
theorem e12_eq (a0 : List V) (a1 : List V) : enterK sk false fa12 [V.sl a0, V.sl a1] [] = e12 a0 a1 := by kernel_rfl
theorem e12_run (a0 : List V) (a1 : List V) {o : Out} {v : V} (h : e12 a0 a1 = some o) (hg : Go sk false 0 fa12 o (.done v)) : pcW scfg 12 [V.sl a0, V.sl a1] = some v := pcW_go sik rfl fa12_eq ((e12_eq a0 a1).trans h) hg
noncomputable def s12_0 (x1 : List V) (x6 : List V) (x7 : Int) : R :=
  cond (decide (x7 < (x1.length : Int)))
 (gd (decide (0 ≤ x7)) <|
  idxK x1 x7.toNat fun v =>
  d43 v fun kind0 low0 page =>
  pcK scfg 20 [V.sl x6, V.agg [V.int .i64 kind0, V.str low0, V.int .i64 page]] fun r =>
  d30 r fun r20_0 r20_1 =>
  cond (r20_1 != (0 : Int))
 (some (.done (V.tup [V.sl [], V.int .i64 r20_1])))
 (some (.head 0 (T12_0 x1 r20_0 (W .i64 (x7 + 1))))))
 (some (.done (V.tup [V.sl x6, V.int .i64 0])))
theorem s12_0_eq (x1 : List V) (x6 : List V) (x7 : Int) : goK sk false 0 fa12 0 (T12_0 x1 x6 x7) = s12_0 x1 x6 x7 := by kernel_rfl
theorem s12_0_run (x1 : List V) (x6 : List V) (x7 : Int) {o o' : Out} (h : s12_0 x1 x6 x7 = some o) (hg : Go sk false 0 fa12 o o') : Go sk false 0 fa12 (.head 0 (T12_0 x1 x6 x7)) o' := .step ((s12_0_eq x1 x6 x7).trans h) hg
/-! ### budwood/side.apart -/
noncomputable def fa34 : FA := ⟨1, 24, [.tmp 2], [4],
 (.seq
 (.ops false [⟨(some 2), .assign (.const (.bool false)), 4, none, false, false, false⟩])
 (.seq
 (.seq
 (.ops false [mv 6 0 22, ⟨(some 7), .call ⟨(.value (.func 29)), #[(.tmp 6)], #[22]⟩, 4, none, false, false, false⟩, ⟨(some 8), .unOp .not 4 (.tmp 7), 4, none, false, false, false⟩])
 (.cond (.tmp 8)
 (.seq
 (.ops false [⟨(some 2), .assign (.const (.bool false)), 4, none, false, false, false⟩])
 (.ret))
 (.skip)))
 (.seq
 (.ops false [⟨(some 9), .makeMap 82 none, 82, none, false, false, false⟩, asg 3 9 82])
 (.seq
 (.seq
 (.ops false [mv 10 0 22, ⟨(some 11), .call ⟨(.builtin .len), #[(.tmp 10)], #[22]⟩, 3, none, false, false, false⟩, ⟨(some 12), .move (.const (.int .i64 (0))), 3, none, false, false, false⟩])
 (.block 0
 (.loop ([0, 1] ++ List.range' 4 6 ++ List.range' 13 11)
 (.seq
 (.ops false [⟨(some 13), .binOp .lss 3 (.tmp 12) (.tmp 11) 3, 0, none, false, false, false⟩])
 (.seq
 (.cond (.tmp 13)
 (.skip)
 (.exit 0))
 (.seq
 (.block 1
 (.seq
 (.ops false [⟨(some 14), .indexAddr 22 (.tmp 10) (.tmp 12), 0, none, false, false, false⟩, ⟨(some 15), .load 66 (.tmp 14), 66, none, false, false, false⟩, ⟨(some 5), .alloc 66, 0, none, false, false, false⟩, ⟨none, .store 66 (.tmp 5) (.tmp 15), 0, none, false, false, false⟩])
 (.seq
 (.seq
 (.ops false [mv 16 3 82, ⟨(some 17), .fieldAddr 66 (.tmp 5) 1, 0, none, false, false, false⟩, ⟨(some 18), .load 3 (.tmp 17), 3, none, false, false, false⟩, ⟨(some 19), .lookup 82 (.tmp 16) (.tmp 18) false, 4, none, false, false, false⟩])
 (.cond (.tmp 19)
 (.seq
 (.ops false [⟨(some 2), .assign (.const (.bool false)), 4, none, false, false, false⟩])
 (.ret))
 (.skip)))
 (.ops false [mv 20 3 82, ⟨(some 21), .fieldAddr 66 (.tmp 5) 1, 0, none, false, false, false⟩, ⟨(some 22), .load 3 (.tmp 21), 3, none, false, false, false⟩, ⟨none, .mapUpdate 82 (.tmp 20) (.tmp 22) (.const (.bool true)), 0, none, false, false, false⟩]))))
 (.ops false [⟨(some 23), .binOp .add 3 (.tmp 12) (.const (.int .i64 (1))) 3, 3, none, false, false, false⟩, mv 12 23 3])))))))
 (.seq
 (.ops false [⟨(some 2), .assign (.const (.bool true)), 4, none, false, false, false⟩])
 (.ret))))))⟩
theorem fa34_eq : fnA scfg.P (scfg.rxf 34) 34 = some fa34 := by kernel_rfl
def T34_0 (x10 : List V) (x11 : Int) (x12 : Int) (m0 : List (V × V)) : S := ⟨[V.junk, V.junk, V.bool false, V.mp 0] ++ (JU 6) ++ [V.sl x10, V.int .i64 x11, V.int .i64 x12] ++ (JU 11), [O.map m0]⟩
noncomputable def e34 (a0 : List V) : R :=
  pcK scfg 29 [V.sl a0] fun r =>
  kB r fun r29 =>
  cond (!r29)
 (some (.done (V.bool false)))
 (some (.head 0 (T34_0 a0 (a0.length : Int) 0 [])))
theorem e34_eq (a0 : List V) : enterK sk false fa34 [V.sl a0] [] = e34 a0 := by kernel_rfl
theorem e34_run (a0 : List V) {o : Out} {v : V} (h : e34 a0 = some o) (hg : Go sk false 0 fa34 o (.done v)) : pcW scfg 34 [V.sl a0] = some v := pcW_go sik rfl fa34_eq ((e34_eq a0).trans h) hg
noncomputable def s34_0 (x10 : List V) (x11 : Int) (x12 : Int) (m0 : List (V × V)) : R :=
  cond (decide (x12 < x11))
 (gd (decide (0 ≤ x12)) <|
  idxK x10 x12.toNat fun v =>
  d66 v fun low0 page =>
  mfK m0 (V.int .i64 page)
 (opt (mapPut m0 (V.int .i64 page) (V.bool true)) fun es =>
  some (.head 0 (T34_0 x10 x11 (W .i64 (x12 + 1)) es))) fun r =>
  kB r fun b =>
  cond b
 (some (.done (V.bool false)))
 (opt (mapPut m0 (V.int .i64 page) (V.bool true)) fun es_1 =>
  some (.head 0 (T34_0 x10 x11 (W .i64 (x12 + 1)) es_1))))
 (some (.done (V.bool true)))
theorem s34_0_eq (x10 : List V) (x11 : Int) (x12 : Int) (m0 : List (V × V)) : goK sk false 0 fa34 0 (T34_0 x10 x11 x12 m0) = s34_0 x10 x11 x12 m0 := by kernel_rfl
theorem s34_0_run (x10 : List V) (x11 : Int) (x12 : Int) (m0 : List (V × V)) {o o' : Out} (h : s34_0 x10 x11 x12 m0 = some o) (hg : Go sk false 0 fa34 o o') : Go sk false 0 fa34 (.head 0 (T34_0 x10 x11 x12 m0)) o' := .step ((s34_0_eq x10 x11 x12 m0).trans h) hg
/-! ### budwood/budwoodref19.Apart -/
noncomputable def fa30 : FA := ⟨1, 29, [.tmp 2], [4],
 (.seq
 (.ops false [⟨(some 2), .assign (.const (.bool false)), 4, none, false, false, false⟩])
 (.seq
 (.seq
 (.ops false [⟨(some 3), .assign (.const (.int .i64 (0))), 3, none, false, false, false⟩])
 (.block 0
 (.loop ([1] ++ List.range' 4 25)
 (.seq
 (.seq
 (.ops false [mv 5 3 3, mv 6 0 29, ⟨(some 7), .call ⟨(.builtin .len), #[(.tmp 6)], #[29]⟩, 3, none, false, false, false⟩, ⟨(some 8), .binOp .lss 3 (.tmp 5) (.tmp 7) 3, 4, none, false, false, false⟩])
 (.cond (.tmp 8)
 (.skip)
 (.exit 0)))
 (.seq
 (.block 1
 (.seq
 (.ops false [⟨(some 4), .assign (.const (.int .i64 (0))), 3, none, false, false, false⟩])
 (.block 2
 (.loop ([1] ++ List.range' 5 24)
 (.seq
 (.seq
 (.ops false [mv 11 4 3, mv 12 3 3, ⟨(some 13), .binOp .lss 3 (.tmp 11) (.tmp 12) 3, 4, none, false, false, false⟩])
 (.cond (.tmp 13)
 (.skip)
 (.exit 2)))
 (.seq
 (.block 3
 (.seq
 (.ops true [mv 16 0 29, mv 17 3 3, ⟨(some 18), .indexAddr 29 (.tmp 16) (.tmp 17), 0, none, false, false, false⟩, ⟨(some 19), .fieldAddr 71 (.tmp 18) 1, 0, none, false, false, false⟩, ⟨(some 20), .load 3 (.tmp 19), 3, none, false, false, false⟩, mv 21 0 29, mv 22 4 3, ⟨(some 23), .indexAddr 29 (.tmp 21) (.tmp 22), 0, none, false, false, false⟩, ⟨(some 24), .fieldAddr 71 (.tmp 23) 1, 0, none, false, false, false⟩, ⟨(some 25), .load 3 (.tmp 24), 3, none, false, false, false⟩, ⟨(some 26), .binOp .eql 3 (.tmp 20) (.tmp 25) 3, 4, none, false, false, false⟩])
 (.cond (.tmp 26)
 (.seq
 (.ops false [⟨(some 2), .assign (.const (.bool false)), 4, none, false, false, false⟩])
 (.ret))
 (.skip))))
 (.ops false [mv 14 4 3, ⟨(some 15), .binOp .add 3 (.tmp 14) (.const (.int .i64 (1))) 3, 3, none, false, false, false⟩, asg 4 15 3])))))))
 (.ops false [mv 9 3 3, ⟨(some 10), .binOp .add 3 (.tmp 9) (.const (.int .i64 (1))) 3, 3, none, false, false, false⟩, asg 3 10 3]))))))
 (.seq
 (.ops false [mv 27 0 29, ⟨(some 28), .call ⟨(.value (.func 33)), #[(.tmp 27)], #[29]⟩, 4, none, false, false, false⟩, asg 2 28 4])
 (.ret))))⟩
theorem fa30_eq : fnA scfg.P (scfg.rxf 30) 30 = some fa30 := by kernel_rfl
def T30_0 (x0 : List V) (x3 : Int) : S := ⟨[V.sl x0, V.junk, V.bool false, V.int .i64 x3] ++ (JU 25), []⟩
def T30_1 (x0 : List V) (x3 : Int) (x4 : Int) : S := ⟨[V.sl x0, V.junk, V.bool false, V.int .i64 x3, V.int .i64 x4] ++ (JU 24), []⟩
noncomputable def e30 (a0 : List V) : R :=
  some (.head 0 (T30_0 a0 0))
theorem e30_eq (a0 : List V) : enterK sk false fa30 [V.sl a0] [] = e30 a0 := by kernel_rfl
theorem e30_run (a0 : List V) {o : Out} {v : V} (h : e30 a0 = some o) (hg : Go sk false 0 fa30 o (.done v)) : pcW scfg 30 [V.sl a0] = some v := pcW_go sik rfl fa30_eq ((e30_eq a0).trans h) hg
noncomputable def s30_0 (x0 : List V) (x3 : Int) : R :=
  cond (decide (x3 < (x0.length : Int)))
 (some (.head 1 (T30_1 x0 x3 0)))
 (pcK scfg 33 [V.sl x0] fun r =>
  kB r fun r33 =>
  some (.done (V.bool r33)))
theorem s30_0_eq (x0 : List V) (x3 : Int) : goK sk false 0 fa30 0 (T30_0 x0 x3) = s30_0 x0 x3 := by kernel_rfl
theorem s30_0_run (x0 : List V) (x3 : Int) {o o' : Out} (h : s30_0 x0 x3 = some o) (hg : Go sk false 0 fa30 o o') : Go sk false 0 fa30 (.head 0 (T30_0 x0 x3)) o' := .step ((s30_0_eq x0 x3).trans h) hg
noncomputable def s30_1 (x0 : List V) (x3 : Int) (x4 : Int) : R :=
  cond (decide (x4 < x3))
 (gd (decide (0 ≤ x3)) <|
  idxK x0 x3.toNat fun v =>
  d71 v fun low0 page =>
  gd (decide (0 ≤ x4)) <|
  idxK x0 x4.toNat fun v_1 =>
  d71 v_1 fun low0_1 page_1 =>
  cond (page == page_1)
 (some (.done (V.bool false)))
 (some (.head 1 (T30_1 x0 x3 (W .i64 (x4 + 1))))))
 (some (.head 0 (T30_0 x0 (W .i64 (x3 + 1)))))
theorem s30_1_eq (x0 : List V) (x3 : Int) (x4 : Int) : goK sk false 0 fa30 1 (T30_1 x0 x3 x4) = s30_1 x0 x3 x4 := by kernel_rfl
theorem s30_1_run (x0 : List V) (x3 : Int) (x4 : Int) {o o' : Out} (h : s30_1 x0 x3 x4 = some o) (hg : Go sk false 0 fa30 o o') : Go sk false 0 fa30 (.head 1 (T30_1 x0 x3 x4)) o' := .step ((s30_1_eq x0 x3 x4).trans h) hg
/-! ### budwood/side.Diff -/
noncomputable def fa17 : FA := ⟨2, 57, [.tmp 4], [23],
 (.seq
 (.ops false [⟨(some 4), .assign (.const (.slice none 0 0)), 23, none, false, false, false⟩])
 (.seq
 (.seq
 (.ops false [mv 10 0 22, ⟨(some 11), .call ⟨(.value (.func 34)), #[(.tmp 10)], #[22]⟩, 4, none, false, false, false⟩, ⟨(some 12), .unOp .not 4 (.tmp 11), 4, none, false, false, false⟩, mv 13 12 4, ⟨(some 14), .move (.tmp 1), 22, (some (13, false)), false, false, false⟩, ⟨(some 15), .call ⟨(.value (.func 34)), #[(.tmp 14)], #[22]⟩, 4, (some (13, false)), false, false, false⟩, ⟨(some 16), .unOp .not 4 (.tmp 15), 4, (some (13, false)), false, false, false⟩, ⟨(some 17), .pick (.tmp 13) (.const (.bool true)) (.tmp 16), 4, none, false, false, false⟩])
 (.cond (.tmp 17)
 (.seq
 (.ops false [⟨(some 4), .assign (.const (.slice none 0 0)), 23, none, false, false, false⟩])
 (.ret))
 (.skip)))
 (.seq
 (.ops false [⟨(some 5), .assign (.const (.slice none 0 0)), 23, none, false, false, false⟩])
 (.seq
 (.seq
 (.ops false [mv 18 0 22, ⟨(some 19), .slice 22 (.tmp 18) (some (.const (.int .i64 (1)))) none none, 22, none, false, false, false⟩, ⟨(some 20), .call ⟨(.builtin .len), #[(.tmp 19)], #[22]⟩, 3, none, false, false, false⟩, ⟨(some 21), .move (.const (.int .i64 (0))), 3, none, false, false, false⟩])
 (.block 0
 (.loop ([2, 3] ++ List.range' 6 13 ++ List.range' 22 35)
 (.seq
 (.ops false [⟨(some 22), .binOp .lss 3 (.tmp 21) (.tmp 20) 3, 0, none, false, false, false⟩])
 (.seq
 (.cond (.tmp 22)
 (.skip)
 (.exit 0))
 (.seq
 (.block 1
 (.seq
 (.ops false [⟨(some 23), .indexAddr 22 (.tmp 19) (.tmp 21), 0, none, false, false, false⟩, ⟨(some 24), .load 66 (.tmp 23), 66, none, false, false, false⟩, ⟨(some 7), .alloc 66, 0, none, false, false, false⟩, ⟨none, .store 66 (.tmp 7) (.tmp 24), 0, none, false, false, false⟩])
 (.seq
 (.ops false [mv 25 1 22, ⟨(some 26), .load 66 (.tmp 7), 66, none, false, false, false⟩, ⟨(some 27), .call ⟨(.value (.func 35)), #[(.tmp 25), (.tmp 26)], #[22, 66]⟩, 4, none, false, false, false⟩, ⟨(some 28), .unOp .not 4 (.tmp 27), 4, none, false, false, false⟩])
 (.cond (.tmp 28)
 (.ops false [mv 29 5 23, ⟨(some 30), .fieldAddr 66 (.tmp 7) 1, 0, none, false, false, false⟩, ⟨(some 31), .load 3 (.tmp 30), 3, none, false, false, false⟩, ⟨(some 32), .build 41 #[(0, (.const (.int .i64 (2)))), (2, (.tmp 31))], 41, none, false, false, false⟩, ⟨(some 33), .buildSlice 23 1 #[(0, (.tmp 32))], 23, none, false, false, false⟩, ⟨(some 34), .call ⟨(.builtin .append), #[(.tmp 29), (.tmp 33)], #[23, 23]⟩, 23, none, false, false, false⟩, asg 5 34 23])
 (.skip)))))
 (.ops false [⟨(some 35), .binOp .add 3 (.tmp 21) (.const (.int .i64 (1))) 3, 3, none, false, false, false⟩, mv 21 35 3])))))))
 (.seq
 (.seq
 (.ops false [mv 36 1 22, ⟨(some 37), .slice 22 (.tmp 36) (some (.const (.int .i64 (1)))) none none, 22, none, false, false, false⟩, ⟨(some 38), .call ⟨(.builtin .len), #[(.tmp 37)], #[22]⟩, 3, none, false, false, false⟩, ⟨(some 39), .move (.const (.int .i64 (0))), 3, none, false, false, false⟩])
 (.block 2
 (.loop ([1, 2, 3] ++ List.range' 6 31 ++ List.range' 40 17)
 (.seq
 (.ops false [⟨(some 40), .binOp .lss 3 (.tmp 39) (.tmp 38) 3, 0, none, false, false, false⟩])
 (.seq
 (.cond (.tmp 40)
 (.skip)
 (.exit 2))
 (.seq
 (.block 3
 (.seq
 (.ops false [⟨(some 41), .indexAddr 22 (.tmp 37) (.tmp 39), 0, none, false, false, false⟩, ⟨(some 42), .load 66 (.tmp 41), 66, none, false, false, false⟩, ⟨(some 9), .alloc 66, 0, none, false, false, false⟩, ⟨none, .store 66 (.tmp 9) (.tmp 42), 0, none, false, false, false⟩])
 (.seq
 (.ops false [mv 43 0 22, ⟨(some 44), .load 66 (.tmp 9), 66, none, false, false, false⟩, ⟨(some 45), .call ⟨(.value (.func 35)), #[(.tmp 43), (.tmp 44)], #[22, 66]⟩, 4, none, false, false, false⟩, ⟨(some 46), .unOp .not 4 (.tmp 45), 4, none, false, false, false⟩])
 (.cond (.tmp 46)
 (.ops false [mv 47 5 23, ⟨(some 48), .fieldAddr 66 (.tmp 9) 0, 0, none, false, false, false⟩, ⟨(some 49), .load 9 (.tmp 48), 9, none, false, false, false⟩, ⟨(some 50), .fieldAddr 66 (.tmp 9) 1, 0, none, false, false, false⟩, ⟨(some 51), .load 3 (.tmp 50), 3, none, false, false, false⟩, ⟨(some 52), .build 41 #[(0, (.const (.int .i64 (1)))), (1, (.tmp 49)), (2, (.tmp 51))], 41, none, false, false, false⟩, ⟨(some 53), .buildSlice 23 1 #[(0, (.tmp 52))], 23, none, false, false, false⟩, ⟨(some 54), .call ⟨(.builtin .append), #[(.tmp 47), (.tmp 53)], #[23, 23]⟩, 23, none, false, false, false⟩, asg 5 54 23])
 (.skip)))))
 (.ops false [⟨(some 55), .binOp .add 3 (.tmp 39) (.const (.int .i64 (1))) 3, 3, none, false, false, false⟩, mv 39 55 3])))))))
 (.seq
 (.ops false [mv 56 5 23, asg 4 56 23])
 (.ret)))))))⟩
theorem fa17_eq : fnA scfg.P (scfg.rxf 17) 17 = some fa17 := by kernel_rfl
def T17_0 (x0 : List V) (x1 : List V) (x19 : List V) (x20 : Int) (x21 : Int) (m1 : List V) : S := ⟨[V.sl x0, V.sl x1, V.junk, V.junk, V.own 0, V.own 1] ++ (JU 13) ++ [V.sl x19, V.int .i64 x20, V.int .i64 x21] ++ (JU 35), [O.row 41 [] 0, O.row 41 m1 0]⟩
def T17_1 (x0 : List V) (x37 : List V) (x38 : Int) (x39 : Int) (m1 : List V) : S := ⟨[V.sl x0, V.junk, V.junk, V.junk, V.own 0, V.own 1] ++ (JU 31) ++ [V.sl x37, V.int .i64 x38, V.int .i64 x39] ++ (JU 17), [O.row 41 [] 0, O.row 41 m1 0]⟩
noncomputable def e17 (a0 : List V) (a1 : List V) : R :=
  pcK scfg 34 [V.sl a0] fun r =>
  kB r fun r34 =>
  cond (!r34)
 (some (.done (V.fr 41 [])))
 (pcK scfg 34 [V.sl a1] fun r_1 =>
  kB r_1 fun r34_1 =>
  cond (!r34_1)
 (some (.done (V.fr 41 [])))
 (gd (wfl 2 a0) <|
  gd (decide (1 ≤ a0.length)) <|
  some (.head 0 (T17_0 a0 a1 ((a0.take a0.length).drop 1) (((a0.take a0.length).drop 1).length : Int) 0 []))))
theorem e17_eq (a0 : List V) (a1 : List V) : enterK sk false fa17 [V.sl a0, V.sl a1] [] = e17 a0 a1 := by kernel_rfl
theorem e17_run (a0 : List V) (a1 : List V) {o : Out} {v : V} (h : e17 a0 a1 = some o) (hg : Go sk false 0 fa17 o (.done v)) : pcW scfg 17 [V.sl a0, V.sl a1] = some v := pcW_go sik rfl fa17_eq ((e17_eq a0 a1).trans h) hg
noncomputable def s17_0 (x0 : List V) (x1 : List V) (x19 : List V) (x20 : Int) (x21 : Int) (m1 : List V) : R :=
  cond (decide (x21 < x20))
 (gd (decide (0 ≤ x21)) <|
  idxK x19 x21.toNat fun v =>
  d66 v fun low0 page =>
  pcK scfg 35 [V.sl x1, V.agg [V.str low0, V.int .i64 page]] fun r =>
  kB r fun r35 =>
  cond (!r35)
 (gd (decide (m1.length + ([V.agg [V.int .i64 2, V.str [], V.int .i64 page]] : List V).length ≤ 16777216)) <|
  some (.head 0 (T17_0 x0 x1 x19 x20 (W .i64 (x21 + 1)) (m1 ++ [V.agg [V.int .i64 2, V.str [], V.int .i64 page]]))))
 (some (.head 0 (T17_0 x0 x1 x19 x20 (W .i64 (x21 + 1)) m1))))
 (gd (wfl 2 x1) <|
  gd (decide (1 ≤ x1.length)) <|
  some (.head 1 (T17_1 x0 ((x1.take x1.length).drop 1) (((x1.take x1.length).drop 1).length : Int) 0 m1)))
theorem s17_0_eq (x0 : List V) (x1 : List V) (x19 : List V) (x20 : Int) (x21 : Int) (m1 : List V) : goK sk false 0 fa17 0 (T17_0 x0 x1 x19 x20 x21 m1) = s17_0 x0 x1 x19 x20 x21 m1 := by kernel_rfl
theorem s17_0_run (x0 : List V) (x1 : List V) (x19 : List V) (x20 : Int) (x21 : Int) (m1 : List V) {o o' : Out} (h : s17_0 x0 x1 x19 x20 x21 m1 = some o) (hg : Go sk false 0 fa17 o o') : Go sk false 0 fa17 (.head 0 (T17_0 x0 x1 x19 x20 x21 m1)) o' := .step ((s17_0_eq x0 x1 x19 x20 x21 m1).trans h) hg
noncomputable def s17_1 (x0 : List V) (x37 : List V) (x38 : Int) (x39 : Int) (m1 : List V) : R :=
  cond (decide (x39 < x38))
 (gd (decide (0 ≤ x39)) <|
  idxK x37 x39.toNat fun v =>
  d66 v fun low0 page =>
  pcK scfg 35 [V.sl x0, V.agg [V.str low0, V.int .i64 page]] fun r =>
  kB r fun r35 =>
  cond (!r35)
 (gd (decide (m1.length + ([V.agg [V.int .i64 1, V.str low0, V.int .i64 page]] : List V).length ≤ 16777216)) <|
  some (.head 1 (T17_1 x0 x37 x38 (W .i64 (x39 + 1)) (m1 ++ [V.agg [V.int .i64 1, V.str low0, V.int .i64 page]]))))
 (some (.head 1 (T17_1 x0 x37 x38 (W .i64 (x39 + 1)) m1))))
 (gd ((m1 : List V).all fun x => x.cells.all V.flat1) <|
  some (.done (V.fr 41 m1)))
theorem s17_1_eq (x0 : List V) (x37 : List V) (x38 : Int) (x39 : Int) (m1 : List V) : goK sk false 0 fa17 1 (T17_1 x0 x37 x38 x39 m1) = s17_1 x0 x37 x38 x39 m1 := by kernel_rfl
theorem s17_1_run (x0 : List V) (x37 : List V) (x38 : Int) (x39 : Int) (m1 : List V) {o o' : Out} (h : s17_1 x0 x37 x38 x39 m1 = some o) (hg : Go sk false 0 fa17 o o') : Go sk false 0 fa17 (.head 1 (T17_1 x0 x37 x38 x39 m1)) o' := .step ((s17_1_eq x0 x37 x38 x39 m1).trans h) hg
/-! ### budwood/budwoodref19.Diff -/
noncomputable def fa18 : FA := ⟨2, 68, [.tmp 4], [33],
 (.seq
 (.ops false [⟨(some 4), .assign (.const (.slice none 0 0)), 33, none, false, false, false⟩])
 (.seq
 (.ops false [⟨(some 8), .buildSlice 33 0 #[], 33, none, false, false, false⟩, asg 5 8 33])
 (.seq
 (.seq
 (.ops false [mv 9 0 29, ⟨(some 10), .call ⟨(.value (.func 30)), #[(.tmp 9)], #[29]⟩, 4, none, false, false, false⟩, ⟨(some 11), .unOp .not 4 (.tmp 10), 4, none, false, false, false⟩, mv 12 11 4, ⟨(some 13), .move (.tmp 1), 29, (some (12, false)), false, false, false⟩, ⟨(some 14), .call ⟨(.value (.func 30)), #[(.tmp 13)], #[29]⟩, 4, (some (12, false)), false, false, false⟩, ⟨(some 15), .unOp .not 4 (.tmp 14), 4, (some (12, false)), false, false, false⟩, ⟨(some 16), .pick (.tmp 12) (.const (.bool true)) (.tmp 15), 4, none, false, false, false⟩])
 (.cond (.tmp 16)
 (.seq
 (.ops false [mv 17 5 33, asg 4 17 33])
 (.ret))
 (.skip)))
 (.seq
 (.seq
 (.ops false [⟨(some 6), .assign (.const (.int .i64 (1))), 3, none, false, false, false⟩])
 (.block 0
 (.loop ([2, 3] ++ List.range' 7 61)
 (.seq
 (.seq
 (.ops false [mv 18 6 3, mv 19 0 29, ⟨(some 20), .call ⟨(.builtin .len), #[(.tmp 19)], #[29]⟩, 3, none, false, false, false⟩, ⟨(some 21), .binOp .lss 3 (.tmp 18) (.tmp 20) 3, 4, none, false, false, false⟩])
 (.cond (.tmp 21)
 (.skip)
 (.exit 0)))
 (.seq
 (.block 1
 (.seq
 (.ops false [mv 24 1 29, mv 25 0 29, mv 26 6 3, ⟨(some 27), .indexAddr 29 (.tmp 25) (.tmp 26), 0, none, false, false, false⟩, ⟨(some 28), .load 71 (.tmp 27), 71, none, false, false, false⟩, ⟨(some 29), .call ⟨(.value (.func 36)), #[(.tmp 24), (.tmp 28)], #[29, 71]⟩, 4, none, false, false, false⟩, ⟨(some 30), .unOp .not 4 (.tmp 29), 4, none, false, false, false⟩])
 (.cond (.tmp 30)
 (.ops false [mv 31 5 33, mv 32 0 29, mv 33 6 3, ⟨(some 34), .indexAddr 29 (.tmp 32) (.tmp 33), 0, none, false, false, false⟩, ⟨(some 35), .fieldAddr 71 (.tmp 34) 1, 0, none, false, false, false⟩, ⟨(some 36), .load 3 (.tmp 35), 3, none, false, false, false⟩, ⟨(some 37), .build 43 #[(0, (.const (.int .i64 (2)))), (1, (.const (.string ⟨⟨[]⟩⟩))), (2, (.tmp 36))], 43, none, false, false, false⟩, ⟨(some 38), .buildSlice 33 1 #[(0, (.tmp 37))], 33, none, false, false, false⟩, ⟨(some 39), .call ⟨(.builtin .append), #[(.tmp 31), (.tmp 38)], #[33, 33]⟩, 33, none, false, false, false⟩, asg 5 39 33])
 (.skip))))
 (.ops false [mv 22 6 3, ⟨(some 23), .binOp .add 3 (.tmp 22) (.const (.int .i64 (1))) 3, 3, none, false, false, false⟩, asg 6 23 3]))))))
 (.seq
 (.seq
 (.ops false [⟨(some 7), .assign (.const (.int .i64 (1))), 3, none, false, false, false⟩])
 (.block 2
 (.loop ([2, 3, 6] ++ List.range' 8 60)
 (.seq
 (.seq
 (.ops false [mv 40 7 3, mv 41 1 29, ⟨(some 42), .call ⟨(.builtin .len), #[(.tmp 41)], #[29]⟩, 3, none, false, false, false⟩, ⟨(some 43), .binOp .lss 3 (.tmp 40) (.tmp 42) 3, 4, none, false, false, false⟩])
 (.cond (.tmp 43)
 (.skip)
 (.exit 2)))
 (.seq
 (.block 3
 (.seq
 (.ops false [mv 46 0 29, mv 47 1 29, mv 48 7 3, ⟨(some 49), .indexAddr 29 (.tmp 47) (.tmp 48), 0, none, false, false, false⟩, ⟨(some 50), .load 71 (.tmp 49), 71, none, false, false, false⟩, ⟨(some 51), .call ⟨(.value (.func 36)), #[(.tmp 46), (.tmp 50)], #[29, 71]⟩, 4, none, false, false, false⟩, ⟨(some 52), .unOp .not 4 (.tmp 51), 4, none, false, false, false⟩])
 (.cond (.tmp 52)
 (.ops true [mv 53 5 33, mv 54 1 29, mv 55 7 3, ⟨(some 56), .indexAddr 29 (.tmp 54) (.tmp 55), 0, none, false, false, false⟩, ⟨(some 57), .fieldAddr 71 (.tmp 56) 0, 0, none, false, false, false⟩, ⟨(some 58), .load 9 (.tmp 57), 9, none, false, false, false⟩, mv 59 1 29, mv 60 7 3, ⟨(some 61), .indexAddr 29 (.tmp 59) (.tmp 60), 0, none, false, false, false⟩, ⟨(some 62), .fieldAddr 71 (.tmp 61) 1, 0, none, false, false, false⟩, ⟨(some 63), .load 3 (.tmp 62), 3, none, false, false, false⟩, ⟨(some 64), .build 43 #[(0, (.const (.int .i64 (1)))), (1, (.tmp 58)), (2, (.tmp 63))], 43, none, false, false, false⟩, ⟨(some 65), .buildSlice 33 1 #[(0, (.tmp 64))], 33, none, false, false, false⟩, ⟨(some 66), .call ⟨(.builtin .append), #[(.tmp 53), (.tmp 65)], #[33, 33]⟩, 33, none, false, false, false⟩, asg 5 66 33])
 (.skip))))
 (.ops false [mv 44 7 3, ⟨(some 45), .binOp .add 3 (.tmp 44) (.const (.int .i64 (1))) 3, 3, none, false, false, false⟩, asg 7 45 3]))))))
 (.seq
 (.ops false [mv 67 5 33, asg 4 67 33])
 (.ret)))))))⟩
theorem fa18_eq : fnA scfg.P (scfg.rxf 18) 18 = some fa18 := by kernel_rfl
def T18_0 (x0 : List V) (x1 : List V) (x6 : Int) (m1 : List V) : S := ⟨[V.sl x0, V.sl x1, V.junk, V.junk, V.own 0, V.own 1, V.int .i64 x6] ++ (JU 61), [O.row 43 [] 0, O.row 43 m1 0]⟩
def T18_1 (x0 : List V) (x1 : List V) (x7 : Int) (m1 : List V) : S := ⟨[V.sl x0, V.sl x1, V.junk, V.junk, V.own 0, V.own 1, V.junk, V.int .i64 x7] ++ (JU 60), [O.row 43 [] 0, O.row 43 m1 0]⟩
noncomputable def e18 (a0 : List V) (a1 : List V) : R :=
  pcK scfg 30 [V.sl a0] fun r =>
  kB r fun r30 =>
  cond (!r30)
 (some (.done (V.fr 43 [])))
 (pcK scfg 30 [V.sl a1] fun r_1 =>
  kB r_1 fun r30_1 =>
  cond (!r30_1)
 (some (.done (V.fr 43 [])))
 (some (.head 0 (T18_0 a0 a1 1 []))))
theorem e18_eq (a0 : List V) (a1 : List V) : enterK sk false fa18 [V.sl a0, V.sl a1] [] = e18 a0 a1 := by kernel_rfl
theorem e18_run (a0 : List V) (a1 : List V) {o : Out} {v : V} (h : e18 a0 a1 = some o) (hg : Go sk false 0 fa18 o (.done v)) : pcW scfg 18 [V.sl a0, V.sl a1] = some v := pcW_go sik rfl fa18_eq ((e18_eq a0 a1).trans h) hg
noncomputable def s18_0 (x0 : List V) (x1 : List V) (x6 : Int) (m1 : List V) : R :=
  cond (decide (x6 < (x0.length : Int)))
 (gd (decide (0 ≤ x6)) <|
  idxK x0 x6.toNat fun v =>
  d71 v fun low0 page =>
  pcK scfg 36 [V.sl x1, V.agg [V.str low0, V.int .i64 page]] fun r =>
  kB r fun r36 =>
  cond (!r36)
 (gd (decide (0 ≤ x6)) <|
  idxK x0 x6.toNat fun v_1 =>
  d71 v_1 fun low0_1 page_1 =>
  gd (decide (m1.length + ([V.agg [V.int .i64 2, V.str [], V.int .i64 page_1]] : List V).length ≤ 16777216)) <|
  some (.head 0 (T18_0 x0 x1 (W .i64 (x6 + 1)) (m1 ++ [V.agg [V.int .i64 2, V.str [], V.int .i64 page_1]]))))
 (some (.head 0 (T18_0 x0 x1 (W .i64 (x6 + 1)) m1))))
 (some (.head 1 (T18_1 x0 x1 1 m1)))
theorem s18_0_eq (x0 : List V) (x1 : List V) (x6 : Int) (m1 : List V) : goK sk false 0 fa18 0 (T18_0 x0 x1 x6 m1) = s18_0 x0 x1 x6 m1 := by kernel_rfl
theorem s18_0_run (x0 : List V) (x1 : List V) (x6 : Int) (m1 : List V) {o o' : Out} (h : s18_0 x0 x1 x6 m1 = some o) (hg : Go sk false 0 fa18 o o') : Go sk false 0 fa18 (.head 0 (T18_0 x0 x1 x6 m1)) o' := .step ((s18_0_eq x0 x1 x6 m1).trans h) hg
noncomputable def s18_1 (x0 : List V) (x1 : List V) (x7 : Int) (m1 : List V) : R :=
  cond (decide (x7 < (x1.length : Int)))
 (gd (decide (0 ≤ x7)) <|
  idxK x1 x7.toNat fun v =>
  d71 v fun low0 page =>
  pcK scfg 36 [V.sl x0, V.agg [V.str low0, V.int .i64 page]] fun r =>
  kB r fun r36 =>
  cond (!r36)
 (gd (decide (0 ≤ x7)) <|
  idxK x1 x7.toNat fun v_1 =>
  d71 v_1 fun low0_1 page_1 =>
  gd (decide (0 ≤ x7)) <|
  idxK x1 x7.toNat fun v_2 =>
  d71 v_2 fun low0_2 page_2 =>
  gd (decide (m1.length + ([V.agg [V.int .i64 1, V.str low0_1, V.int .i64 page_2]] : List V).length ≤ 16777216)) <|
  some (.head 1 (T18_1 x0 x1 (W .i64 (x7 + 1)) (m1 ++ [V.agg [V.int .i64 1, V.str low0_1, V.int .i64 page_2]]))))
 (some (.head 1 (T18_1 x0 x1 (W .i64 (x7 + 1)) m1))))
 (gd ((m1 : List V).all fun x => x.cells.all V.flat1) <|
  some (.done (V.fr 43 m1)))
theorem s18_1_eq (x0 : List V) (x1 : List V) (x7 : Int) (m1 : List V) : goK sk false 0 fa18 1 (T18_1 x0 x1 x7 m1) = s18_1 x0 x1 x7 m1 := by kernel_rfl
theorem s18_1_run (x0 : List V) (x1 : List V) (x7 : Int) (m1 : List V) {o o' : Out} (h : s18_1 x0 x1 x7 m1 = some o) (hg : Go sk false 0 fa18 o o') : Go sk false 0 fa18 (.head 1 (T18_1 x0 x1 x7 m1)) o' := .step ((s18_1_eq x0 x1 x7 m1).trans h) hg
/-! ### budwood/budwoodlaw17.Cut -/
noncomputable def fa9 : FA := ⟨1, 39, [.tmp 2], [22],
 (.seq
 (.ops false [⟨(some 2), .assign (.const (.slice none 0 0)), 22, none, false, false, false⟩])
 (.seq
 (.ops false [⟨(some 5), .buildSlice 22 0 #[], 22, none, false, false, false⟩, asg 3 5 22])
 (.seq
 (.seq
 (.ops false [⟨(some 4), .assign (.const (.int .i64 (0))), 3, none, false, false, false⟩])
 (.block 0
 (.loop ([1] ++ List.range' 5 34)
 (.seq
 (.seq
 (.ops false [mv 6 4 3, mv 7 0 22, ⟨(some 8), .call ⟨(.builtin .len), #[(.tmp 7)], #[22]⟩, 3, none, false, false, false⟩, ⟨(some 9), .binOp .lss 3 (.tmp 6) (.tmp 8) 3, 4, none, false, false, false⟩, mv 10 9 4, ⟨(some 11), .move (.tmp 4), 3, (some (10, true)), false, false, false⟩, ⟨(some 12), .binOp .lss 3 (.tmp 11) (.const (.int .i64 (60))) 3, 4, (some (10, true)), false, false, false⟩, ⟨(some 13), .pick (.tmp 10) (.tmp 12) (.const (.bool false)), 4, none, false, false, false⟩])
 (.cond (.tmp 13)
 (.skip)
 (.exit 0)))
 (.seq
 (.block 1
 (.ops true [mv 16 3 22, mv 17 0 22, mv 18 4 3, ⟨(some 19), .indexAddr 22 (.tmp 17) (.tmp 18), 0, none, false, false, false⟩, ⟨(some 20), .fieldAddr 66 (.tmp 19) 0, 0, none, false, false, false⟩, ⟨(some 21), .load 9 (.tmp 20), 9, none, false, false, false⟩, mv 22 0 22, mv 23 4 3, ⟨(some 24), .indexAddr 22 (.tmp 22) (.tmp 23), 0, none, false, false, false⟩, ⟨(some 25), .fieldAddr 66 (.tmp 24) 0, 0, none, false, false, false⟩, ⟨(some 26), .load 9 (.tmp 25), 9, none, false, false, false⟩, ⟨(some 27), .call ⟨(.builtin .len), #[(.tmp 26)], #[9]⟩, 3, none, false, false, false⟩, ⟨(some 28), .call ⟨(.builtin .min), #[(.tmp 27), (.const (.int .i64 (20)))], #[3, 3]⟩, 3, none, false, false, false⟩, ⟨(some 29), .slice 9 (.tmp 21) none (some (.tmp 28)) none, 9, none, false, false, false⟩, mv 30 0 22, mv 31 4 3, ⟨(some 32), .indexAddr 22 (.tmp 30) (.tmp 31), 0, none, false, false, false⟩, ⟨(some 33), .fieldAddr 66 (.tmp 32) 1, 0, none, false, false, false⟩, ⟨(some 34), .load 3 (.tmp 33), 3, none, false, false, false⟩, ⟨(some 35), .build 66 #[(0, (.tmp 29)), (1, (.tmp 34))], 66, none, false, false, false⟩, ⟨(some 36), .buildSlice 22 1 #[(0, (.tmp 35))], 22, none, false, false, false⟩, ⟨(some 37), .call ⟨(.builtin .append), #[(.tmp 16), (.tmp 36)], #[22, 22]⟩, 22, none, false, false, false⟩, asg 3 37 22]))
 (.ops false [mv 14 4 3, ⟨(some 15), .binOp .add 3 (.tmp 14) (.const (.int .i64 (1))) 3, 3, none, false, false, false⟩, asg 4 15 3]))))))
 (.seq
 (.ops false [mv 38 3 22, asg 2 38 22])
 (.ret)))))⟩
theorem fa9_eq : fnA scfg.P (scfg.rxf 9) 9 = some fa9 := by kernel_rfl
def T9_0 (x0 : List V) (x4 : Int) (m1 : List V) : S := ⟨[V.sl x0, V.junk, V.own 0, V.own 1, V.int .i64 x4] ++ (JU 34), [O.row 66 [] 0, O.row 66 m1 0]⟩
noncomputable def e9 (a0 : List V) : R :=
  some (.head 0 (T9_0 a0 0 []))
theorem e9_eq (a0 : List V) : enterK sk false fa9 [V.sl a0] [] = e9 a0 := by kernel_rfl
theorem e9_run (a0 : List V) {o : Out} {v : V} (h : e9 a0 = some o) (hg : Go sk false 0 fa9 o (.done v)) : pcW scfg 9 [V.sl a0] = some v := pcW_go sik rfl fa9_eq ((e9_eq a0).trans h) hg
noncomputable def s9_0 (x0 : List V) (x4 : Int) (m1 : List V) : R :=
  cond (decide (x4 < (x0.length : Int)))
 (cond (decide (x4 < 60))
 (gd (decide (0 ≤ x4)) <|
  idxK x0 x4.toNat fun v =>
  d66 v fun low0 page =>
  gd (decide (0 ≤ x4)) <|
  idxK x0 x4.toNat fun v_1 =>
  d66 v_1 fun low0_1 page_1 =>
  gd (decide (0 ≤ (if 20 < (low0_1.length : Int) then 20 else (low0_1.length : Int)))) <|
  gd (decide ((if 20 < (low0_1.length : Int) then 20 else (low0_1.length : Int)).toNat ≤ low0.length)) <|
  gd (decide (0 ≤ x4)) <|
  idxK x0 x4.toNat fun v_2 =>
  d66 v_2 fun low0_2 page_2 =>
  gd (decide (m1.length + ([V.agg [V.str (low0.take ((if 20 < (low0_1.length : Int) then 20 else (low0_1.length : Int)).toNat)), V.int .i64 page_2]] : List V).length ≤ 16777216)) <|
  some (.head 0 (T9_0 x0 (W .i64 (x4 + 1)) (m1 ++ [V.agg [V.str (low0.take ((if 20 < (low0_1.length : Int) then 20 else (low0_1.length : Int)).toNat)), V.int .i64 page_2]]))))
 (gd ((m1 : List V).all fun x => x.cells.all V.flat1) <|
  some (.done (V.fr 66 m1))))
 (gd ((m1 : List V).all fun x => x.cells.all V.flat1) <|
  some (.done (V.fr 66 m1)))
theorem s9_0_eq (x0 : List V) (x4 : Int) (m1 : List V) : goK sk false 0 fa9 0 (T9_0 x0 x4 m1) = s9_0 x0 x4 m1 := by kernel_rfl
theorem s9_0_run (x0 : List V) (x4 : Int) (m1 : List V) {o o' : Out} (h : s9_0 x0 x4 m1 = some o) (hg : Go sk false 0 fa9 o o') : Go sk false 0 fa9 (.head 0 (T9_0 x0 x4 m1)) o' := .step ((s9_0_eq x0 x4 m1).trans h) hg
/-! ### budwood/budwoodlaw19.cut -/
noncomputable def fa10 : FA := ⟨1, 34, [.tmp 2], [23],
 (.seq
 (.ops false [⟨(some 2), .assign (.const (.slice none 0 0)), 23, none, false, false, false⟩])
 (.seq
 (.ops false [⟨(some 6), .buildSlice 23 0 #[], 23, none, false, false, false⟩, asg 3 6 23])
 (.seq
 (.seq
 (.ops false [⟨(some 4), .assign (.const (.int .i64 (0))), 3, none, false, false, false⟩])
 (.block 0
 (.loop ([1] ++ List.range' 5 29)
 (.seq
 (.seq
 (.ops false [mv 7 4 3, mv 8 0 23, ⟨(some 9), .call ⟨(.builtin .len), #[(.tmp 8)], #[23]⟩, 3, none, false, false, false⟩, ⟨(some 10), .binOp .lss 3 (.tmp 7) (.tmp 9) 3, 4, none, false, false, false⟩, mv 11 10 4, ⟨(some 12), .move (.tmp 4), 3, (some (11, true)), false, false, false⟩, ⟨(some 13), .binOp .lss 3 (.tmp 12) (.const (.int .i64 (40))) 3, 4, (some (11, true)), false, false, false⟩, ⟨(some 14), .pick (.tmp 11) (.tmp 13) (.const (.bool false)), 4, none, false, false, false⟩])
 (.cond (.tmp 14)
 (.skip)
 (.exit 0)))
 (.seq
 (.block 1
 (.seq
 (.ops false [mv 17 0 23, mv 18 4 3, ⟨(some 19), .indexAddr 23 (.tmp 17) (.tmp 18), 0, none, false, false, false⟩, ⟨(some 20), .load 41 (.tmp 19), 41, none, false, false, false⟩, ⟨(some 5), .alloc 41, 0, none, false, false, false⟩, ⟨none, .store 41 (.tmp 5) (.tmp 20), 0, none, false, false, false⟩])
 (.seq
 (.ops false [⟨(some 21), .fieldAddr 41 (.tmp 5) 1, 0, none, false, false, false⟩, ⟨(some 22), .load 9 (.tmp 21), 9, none, false, false, false⟩, ⟨(some 23), .fieldAddr 41 (.tmp 5) 1, 0, none, false, false, false⟩, ⟨(some 24), .load 9 (.tmp 23), 9, none, false, false, false⟩, ⟨(some 25), .call ⟨(.builtin .len), #[(.tmp 24)], #[9]⟩, 3, none, false, false, false⟩, ⟨(some 26), .call ⟨(.builtin .min), #[(.tmp 25), (.const (.int .i64 (20)))], #[3, 3]⟩, 3, none, false, false, false⟩, ⟨(some 27), .slice 9 (.tmp 22) none (some (.tmp 26)) none, 9, none, false, false, false⟩, ⟨(some 28), .fieldAddr 41 (.tmp 5) 1, 0, none, false, false, false⟩, ⟨none, .store 9 (.tmp 28) (.tmp 27), 0, none, false, false, false⟩])
 (.ops false [mv 29 3 23, ⟨(some 30), .load 41 (.tmp 5), 41, none, false, false, false⟩, ⟨(some 31), .buildSlice 23 1 #[(0, (.tmp 30))], 23, none, false, false, false⟩, ⟨(some 32), .call ⟨(.builtin .append), #[(.tmp 29), (.tmp 31)], #[23, 23]⟩, 23, none, false, false, false⟩, asg 3 32 23]))))
 (.ops false [mv 15 4 3, ⟨(some 16), .binOp .add 3 (.tmp 15) (.const (.int .i64 (1))) 3, 3, none, false, false, false⟩, asg 4 16 3]))))))
 (.seq
 (.ops false [mv 33 3 23, asg 2 33 23])
 (.ret)))))⟩
theorem fa10_eq : fnA scfg.P (scfg.rxf 10) 10 = some fa10 := by kernel_rfl
def T10_0 (x0 : List V) (x4 : Int) (m1 : List V) : S := ⟨[V.sl x0, V.junk, V.own 0, V.own 1, V.int .i64 x4] ++ (JU 29), [O.row 41 [] 0, O.row 41 m1 0]⟩
noncomputable def e10 (a0 : List V) : R :=
  some (.head 0 (T10_0 a0 0 []))
theorem e10_eq (a0 : List V) : enterK sk false fa10 [V.sl a0] [] = e10 a0 := by kernel_rfl
theorem e10_run (a0 : List V) {o : Out} {v : V} (h : e10 a0 = some o) (hg : Go sk false 0 fa10 o (.done v)) : pcW scfg 10 [V.sl a0] = some v := pcW_go sik rfl fa10_eq ((e10_eq a0).trans h) hg
noncomputable def s10_0 (x0 : List V) (x4 : Int) (m1 : List V) : R :=
  cond (decide (x4 < (x0.length : Int)))
 (cond (decide (x4 < 40))
 (gd (decide (0 ≤ x4)) <|
  idxK x0 x4.toNat fun v =>
  d41 v fun kind0 low0 page =>
  gd (decide (0 ≤ (if 20 < (low0.length : Int) then 20 else (low0.length : Int)))) <|
  gd (decide ((if 20 < (low0.length : Int) then 20 else (low0.length : Int)).toNat ≤ low0.length)) <|
  gd (decide (m1.length + ([V.agg [V.int .i64 kind0, V.str (low0.take ((if 20 < (low0.length : Int) then 20 else (low0.length : Int)).toNat)), V.int .i64 page]] : List V).length ≤ 16777216)) <|
  some (.head 0 (T10_0 x0 (W .i64 (x4 + 1)) (m1 ++ [V.agg [V.int .i64 kind0, V.str (low0.take ((if 20 < (low0.length : Int) then 20 else (low0.length : Int)).toNat)), V.int .i64 page]]))))
 (gd ((m1 : List V).all fun x => x.cells.all V.flat1) <|
  some (.done (V.fr 41 m1))))
 (gd ((m1 : List V).all fun x => x.cells.all V.flat1) <|
  some (.done (V.fr 41 m1)))
theorem s10_0_eq (x0 : List V) (x4 : Int) (m1 : List V) : goK sk false 0 fa10 0 (T10_0 x0 x4 m1) = s10_0 x0 x4 m1 := by kernel_rfl
theorem s10_0_run (x0 : List V) (x4 : Int) (m1 : List V) {o o' : Out} (h : s10_0 x0 x4 m1 = some o) (hg : Go sk false 0 fa10 o o') : Go sk false 0 fa10 (.head 0 (T10_0 x0 x4 m1)) o' := .step ((s10_0_eq x0 x4 m1).trans h) hg
/-! ### budwood/budwoodlaw19.kidsOf -/
noncomputable def fa13 : FA := ⟨1, 27, [.tmp 2], [29],
 (.seq
 (.ops false [⟨(some 2), .assign (.const (.slice none 0 0)), 29, none, false, false, false⟩])
 (.seq
 (.ops false [⟨(some 5), .buildSlice 29 0 #[], 29, none, false, false, false⟩, asg 3 5 29])
 (.seq
 (.seq
 (.ops false [⟨(some 4), .assign (.const (.int .i64 (0))), 3, none, false, false, false⟩])
 (.block 0
 (.loop ([1] ++ List.range' 5 22)
 (.seq
 (.seq
 (.ops false [mv 6 4 3, mv 7 0 22, ⟨(some 8), .call ⟨(.builtin .len), #[(.tmp 7)], #[22]⟩, 3, none, false, false, false⟩, ⟨(some 9), .binOp .lss 3 (.tmp 6) (.tmp 8) 3, 4, none, false, false, false⟩])
 (.cond (.tmp 9)
 (.skip)
 (.exit 0)))
 (.seq
 (.block 1
 (.ops true [mv 12 3 29, mv 13 0 22, mv 14 4 3, ⟨(some 15), .indexAddr 22 (.tmp 13) (.tmp 14), 0, none, false, false, false⟩, ⟨(some 16), .fieldAddr 66 (.tmp 15) 0, 0, none, false, false, false⟩, ⟨(some 17), .load 9 (.tmp 16), 9, none, false, false, false⟩, mv 18 0 22, mv 19 4 3, ⟨(some 20), .indexAddr 22 (.tmp 18) (.tmp 19), 0, none, false, false, false⟩, ⟨(some 21), .fieldAddr 66 (.tmp 20) 1, 0, none, false, false, false⟩, ⟨(some 22), .load 3 (.tmp 21), 3, none, false, false, false⟩, ⟨(some 23), .build 71 #[(0, (.tmp 17)), (1, (.tmp 22))], 71, none, false, false, false⟩, ⟨(some 24), .buildSlice 29 1 #[(0, (.tmp 23))], 29, none, false, false, false⟩, ⟨(some 25), .call ⟨(.builtin .append), #[(.tmp 12), (.tmp 24)], #[29, 29]⟩, 29, none, false, false, false⟩, asg 3 25 29]))
 (.ops false [mv 10 4 3, ⟨(some 11), .binOp .add 3 (.tmp 10) (.const (.int .i64 (1))) 3, 3, none, false, false, false⟩, asg 4 11 3]))))))
 (.seq
 (.ops false [mv 26 3 29, asg 2 26 29])
 (.ret)))))⟩
theorem fa13_eq : fnA scfg.P (scfg.rxf 13) 13 = some fa13 := by kernel_rfl
def T13_0 (x0 : List V) (x4 : Int) (m1 : List V) : S := ⟨[V.sl x0, V.junk, V.own 0, V.own 1, V.int .i64 x4] ++ (JU 22), [O.row 71 [] 0, O.row 71 m1 0]⟩
noncomputable def e13 (a0 : List V) : R :=
  some (.head 0 (T13_0 a0 0 []))
theorem e13_eq (a0 : List V) : enterK sk false fa13 [V.sl a0] [] = e13 a0 := by kernel_rfl
theorem e13_run (a0 : List V) {o : Out} {v : V} (h : e13 a0 = some o) (hg : Go sk false 0 fa13 o (.done v)) : pcW scfg 13 [V.sl a0] = some v := pcW_go sik rfl fa13_eq ((e13_eq a0).trans h) hg
noncomputable def s13_0 (x0 : List V) (x4 : Int) (m1 : List V) : R :=
  cond (decide (x4 < (x0.length : Int)))
 (gd (decide (0 ≤ x4)) <|
  idxK x0 x4.toNat fun v =>
  d66 v fun low0 page =>
  gd (decide (0 ≤ x4)) <|
  idxK x0 x4.toNat fun v_1 =>
  d66 v_1 fun low0_1 page_1 =>
  gd (decide (m1.length + ([V.agg [V.str low0, V.int .i64 page_1]] : List V).length ≤ 16777216)) <|
  some (.head 0 (T13_0 x0 (W .i64 (x4 + 1)) (m1 ++ [V.agg [V.str low0, V.int .i64 page_1]]))))
 (gd ((m1 : List V).all fun x => x.cells.all V.flat1) <|
  some (.done (V.fr 71 m1)))
theorem s13_0_eq (x0 : List V) (x4 : Int) (m1 : List V) : goK sk false 0 fa13 0 (T13_0 x0 x4 m1) = s13_0 x0 x4 m1 := by kernel_rfl
theorem s13_0_run (x0 : List V) (x4 : Int) (m1 : List V) {o o' : Out} (h : s13_0 x0 x4 m1 = some o) (hg : Go sk false 0 fa13 o o') : Go sk false 0 fa13 (.head 0 (T13_0 x0 x4 m1)) o' := .step ((s13_0_eq x0 x4 m1).trans h) hg
/-! ### budwood/budwoodlaw19.ref -/
noncomputable def fa14 : FA := ⟨1, 32, [.tmp 2], [33],
 (.seq
 (.ops false [⟨(some 2), .assign (.const (.slice none 0 0)), 33, none, false, false, false⟩])
 (.seq
 (.ops false [⟨(some 5), .buildSlice 33 0 #[], 33, none, false, false, false⟩, asg 3 5 33])
 (.seq
 (.seq
 (.ops false [⟨(some 4), .assign (.const (.int .i64 (0))), 3, none, false, false, false⟩])
 (.block 0
 (.loop ([1] ++ List.range' 5 27)
 (.seq
 (.seq
 (.ops false [mv 6 4 3, mv 7 0 23, ⟨(some 8), .call ⟨(.builtin .len), #[(.tmp 7)], #[23]⟩, 3, none, false, false, false⟩, ⟨(some 9), .binOp .lss 3 (.tmp 6) (.tmp 8) 3, 4, none, false, false, false⟩])
 (.cond (.tmp 9)
 (.skip)
 (.exit 0)))
 (.seq
 (.block 1
 (.ops true [mv 12 3 33, mv 13 0 23, mv 14 4 3, ⟨(some 15), .indexAddr 23 (.tmp 13) (.tmp 14), 0, none, false, false, false⟩, ⟨(some 16), .fieldAddr 41 (.tmp 15) 0, 0, none, false, false, false⟩, ⟨(some 17), .load 3 (.tmp 16), 3, none, false, false, false⟩, mv 18 0 23, mv 19 4 3, ⟨(some 20), .indexAddr 23 (.tmp 18) (.tmp 19), 0, none, false, false, false⟩, ⟨(some 21), .fieldAddr 41 (.tmp 20) 1, 0, none, false, false, false⟩, ⟨(some 22), .load 9 (.tmp 21), 9, none, false, false, false⟩, mv 23 0 23, mv 24 4 3, ⟨(some 25), .indexAddr 23 (.tmp 23) (.tmp 24), 0, none, false, false, false⟩, ⟨(some 26), .fieldAddr 41 (.tmp 25) 2, 0, none, false, false, false⟩, ⟨(some 27), .load 3 (.tmp 26), 3, none, false, false, false⟩, ⟨(some 28), .build 43 #[(0, (.tmp 17)), (1, (.tmp 22)), (2, (.tmp 27))], 43, none, false, false, false⟩, ⟨(some 29), .buildSlice 33 1 #[(0, (.tmp 28))], 33, none, false, false, false⟩, ⟨(some 30), .call ⟨(.builtin .append), #[(.tmp 12), (.tmp 29)], #[33, 33]⟩, 33, none, false, false, false⟩, asg 3 30 33]))
 (.ops false [mv 10 4 3, ⟨(some 11), .binOp .add 3 (.tmp 10) (.const (.int .i64 (1))) 3, 3, none, false, false, false⟩, asg 4 11 3]))))))
 (.seq
 (.ops false [mv 31 3 33, asg 2 31 33])
 (.ret)))))⟩
theorem fa14_eq : fnA scfg.P (scfg.rxf 14) 14 = some fa14 := by kernel_rfl
def T14_0 (x0 : List V) (x4 : Int) (m1 : List V) : S := ⟨[V.sl x0, V.junk, V.own 0, V.own 1, V.int .i64 x4] ++ (JU 27), [O.row 43 [] 0, O.row 43 m1 0]⟩
noncomputable def e14 (a0 : List V) : R :=
  some (.head 0 (T14_0 a0 0 []))
theorem e14_eq (a0 : List V) : enterK sk false fa14 [V.sl a0] [] = e14 a0 := by kernel_rfl
theorem e14_run (a0 : List V) {o : Out} {v : V} (h : e14 a0 = some o) (hg : Go sk false 0 fa14 o (.done v)) : pcW scfg 14 [V.sl a0] = some v := pcW_go sik rfl fa14_eq ((e14_eq a0).trans h) hg
noncomputable def s14_0 (x0 : List V) (x4 : Int) (m1 : List V) : R :=
  cond (decide (x4 < (x0.length : Int)))
 (gd (decide (0 ≤ x4)) <|
  idxK x0 x4.toNat fun v =>
  d41 v fun kind0 low0 page =>
  gd (decide (0 ≤ x4)) <|
  idxK x0 x4.toNat fun v_1 =>
  d41 v_1 fun kind0_1 low0_1 page_1 =>
  gd (decide (0 ≤ x4)) <|
  idxK x0 x4.toNat fun v_2 =>
  d41 v_2 fun kind0_2 low0_2 page_2 =>
  gd (decide (m1.length + ([V.agg [V.int .i64 kind0, V.str low0_1, V.int .i64 page_2]] : List V).length ≤ 16777216)) <|
  some (.head 0 (T14_0 x0 (W .i64 (x4 + 1)) (m1 ++ [V.agg [V.int .i64 kind0, V.str low0_1, V.int .i64 page_2]]))))
 (gd ((m1 : List V).all fun x => x.cells.all V.flat1) <|
  some (.done (V.fr 43 m1)))
theorem s14_0_eq (x0 : List V) (x4 : Int) (m1 : List V) : goK sk false 0 fa14 0 (T14_0 x0 x4 m1) = s14_0 x0 x4 m1 := by kernel_rfl
theorem s14_0_run (x0 : List V) (x4 : Int) (m1 : List V) {o o' : Out} (h : s14_0 x0 x4 m1 = some o) (hg : Go sk false 0 fa14 o o') : Go sk false 0 fa14 (.head 0 (T14_0 x0 x4 m1)) o' := .step ((s14_0_eq x0 x4 m1).trans h) hg
/-! ### budwood/budwoodref17.Kids -/
noncomputable def fa15 : FA := ⟨2, 26, [.tmp 4], [4],
 (.seq
 (.ops false [⟨(some 4), .assign (.const (.bool false)), 4, none, false, false, false⟩])
 (.seq
 (.seq
 (.ops false [mv 6 0 29, ⟨(some 7), .call ⟨(.builtin .len), #[(.tmp 6)], #[29]⟩, 3, none, false, false, false⟩, mv 8 1 29, ⟨(some 9), .call ⟨(.builtin .len), #[(.tmp 8)], #[29]⟩, 3, none, false, false, false⟩, ⟨(some 10), .binOp .neq 3 (.tmp 7) (.tmp 9) 3, 4, none, false, false, false⟩])
 (.cond (.tmp 10)
 (.seq
 (.ops false [⟨(some 4), .assign (.const (.bool false)), 4, none, false, false, false⟩])
 (.ret))
 (.skip)))
 (.seq
 (.seq
 (.ops false [⟨(some 5), .assign (.const (.int .i64 (0))), 3, none, false, false, false⟩])
 (.block 0
 (.loop ([2, 3] ++ List.range' 6 20)
 (.seq
 (.seq
 (.ops false [mv 11 5 3, mv 12 0 29, ⟨(some 13), .call ⟨(.builtin .len), #[(.tmp 12)], #[29]⟩, 3, none, false, false, false⟩, ⟨(some 14), .binOp .lss 3 (.tmp 11) (.tmp 13) 3, 4, none, false, false, false⟩])
 (.cond (.tmp 14)
 (.skip)
 (.exit 0)))
 (.seq
 (.block 1
 (.seq
 (.ops true [mv 17 0 29, mv 18 5 3, ⟨(some 19), .indexAddr 29 (.tmp 17) (.tmp 18), 0, none, false, false, false⟩, ⟨(some 20), .load 71 (.tmp 19), 71, none, false, false, false⟩, mv 21 1 29, mv 22 5 3, ⟨(some 23), .indexAddr 29 (.tmp 21) (.tmp 22), 0, none, false, false, false⟩, ⟨(some 24), .load 71 (.tmp 23), 71, none, false, false, false⟩, ⟨(some 25), .binOp .neq 71 (.tmp 20) (.tmp 24) 71, 4, none, false, false, false⟩])
 (.cond (.tmp 25)
 (.seq
 (.ops false [⟨(some 4), .assign (.const (.bool false)), 4, none, false, false, false⟩])
 (.ret))
 (.skip))))
 (.ops false [mv 15 5 3, ⟨(some 16), .binOp .add 3 (.tmp 15) (.const (.int .i64 (1))) 3, 3, none, false, false, false⟩, asg 5 16 3]))))))
 (.seq
 (.ops false [⟨(some 4), .assign (.const (.bool true)), 4, none, false, false, false⟩])
 (.ret)))))⟩
theorem fa15_eq : fnA scfg.P (scfg.rxf 15) 15 = some fa15 := by kernel_rfl
def T15_0 (x0 : List V) (x1 : List V) (x5 : Int) : S := ⟨[V.sl x0, V.sl x1, V.junk, V.junk, V.bool false, V.int .i64 x5] ++ (JU 20), []⟩
noncomputable def e15 (a0 : List V) (a1 : List V) : R :=
  cond ((a0.length : Int) != (a1.length : Int))
 (some (.done (V.bool false)))
 (some (.head 0 (T15_0 a0 a1 0)))
theorem e15_eq (a0 : List V) (a1 : List V) : enterK sk false fa15 [V.sl a0, V.sl a1] [] = e15 a0 a1 := by kernel_rfl
theorem e15_run (a0 : List V) (a1 : List V) {o : Out} {v : V} (h : e15 a0 a1 = some o) (hg : Go sk false 0 fa15 o (.done v)) : pcW scfg 15 [V.sl a0, V.sl a1] = some v := pcW_go sik rfl fa15_eq ((e15_eq a0 a1).trans h) hg
noncomputable def s15_0 (x0 : List V) (x1 : List V) (x5 : Int) : R :=
  cond (decide (x5 < (x0.length : Int)))
 (gd (decide (0 ≤ x5)) <|
  idxK x0 x5.toNat fun v =>
  d71 v fun low0 page =>
  gd (decide (0 ≤ x5)) <|
  idxK x1 x5.toNat fun v_1 =>
  d71 v_1 fun low0_1 page_1 =>
  cond (!((low0 == low0_1) && ((page == page_1) && true)))
 (some (.done (V.bool false)))
 (some (.head 0 (T15_0 x0 x1 (W .i64 (x5 + 1))))))
 (some (.done (V.bool true)))
theorem s15_0_eq (x0 : List V) (x1 : List V) (x5 : Int) : goK sk false 0 fa15 0 (T15_0 x0 x1 x5) = s15_0 x0 x1 x5 := by kernel_rfl
theorem s15_0_run (x0 : List V) (x1 : List V) (x5 : Int) {o o' : Out} (h : s15_0 x0 x1 x5 = some o) (hg : Go sk false 0 fa15 o o') : Go sk false 0 fa15 (.head 0 (T15_0 x0 x1 x5)) o' := .step ((s15_0_eq x0 x1 x5).trans h) hg
/-! ### budwood/budwoodref19.Same -/
noncomputable def fa16 : FA := ⟨2, 26, [.tmp 4], [4],
 (.seq
 (.ops false [⟨(some 4), .assign (.const (.bool false)), 4, none, false, false, false⟩])
 (.seq
 (.seq
 (.ops false [mv 6 0 33, ⟨(some 7), .call ⟨(.builtin .len), #[(.tmp 6)], #[33]⟩, 3, none, false, false, false⟩, mv 8 1 33, ⟨(some 9), .call ⟨(.builtin .len), #[(.tmp 8)], #[33]⟩, 3, none, false, false, false⟩, ⟨(some 10), .binOp .neq 3 (.tmp 7) (.tmp 9) 3, 4, none, false, false, false⟩])
 (.cond (.tmp 10)
 (.seq
 (.ops false [⟨(some 4), .assign (.const (.bool false)), 4, none, false, false, false⟩])
 (.ret))
 (.skip)))
 (.seq
 (.seq
 (.ops false [⟨(some 5), .assign (.const (.int .i64 (0))), 3, none, false, false, false⟩])
 (.block 0
 (.loop ([2, 3] ++ List.range' 6 20)
 (.seq
 (.seq
 (.ops false [mv 11 5 3, mv 12 0 33, ⟨(some 13), .call ⟨(.builtin .len), #[(.tmp 12)], #[33]⟩, 3, none, false, false, false⟩, ⟨(some 14), .binOp .lss 3 (.tmp 11) (.tmp 13) 3, 4, none, false, false, false⟩])
 (.cond (.tmp 14)
 (.skip)
 (.exit 0)))
 (.seq
 (.block 1
 (.seq
 (.ops true [mv 17 0 33, mv 18 5 3, ⟨(some 19), .indexAddr 33 (.tmp 17) (.tmp 18), 0, none, false, false, false⟩, ⟨(some 20), .load 43 (.tmp 19), 43, none, false, false, false⟩, mv 21 1 33, mv 22 5 3, ⟨(some 23), .indexAddr 33 (.tmp 21) (.tmp 22), 0, none, false, false, false⟩, ⟨(some 24), .load 43 (.tmp 23), 43, none, false, false, false⟩, ⟨(some 25), .binOp .neq 43 (.tmp 20) (.tmp 24) 43, 4, none, false, false, false⟩])
 (.cond (.tmp 25)
 (.seq
 (.ops false [⟨(some 4), .assign (.const (.bool false)), 4, none, false, false, false⟩])
 (.ret))
 (.skip))))
 (.ops false [mv 15 5 3, ⟨(some 16), .binOp .add 3 (.tmp 15) (.const (.int .i64 (1))) 3, 3, none, false, false, false⟩, asg 5 16 3]))))))
 (.seq
 (.ops false [⟨(some 4), .assign (.const (.bool true)), 4, none, false, false, false⟩])
 (.ret)))))⟩
theorem fa16_eq : fnA scfg.P (scfg.rxf 16) 16 = some fa16 := by kernel_rfl
def T16_0 (x0 : List V) (x1 : List V) (x5 : Int) : S := ⟨[V.sl x0, V.sl x1, V.junk, V.junk, V.bool false, V.int .i64 x5] ++ (JU 20), []⟩
noncomputable def e16 (a0 : List V) (a1 : List V) : R :=
  cond ((a0.length : Int) != (a1.length : Int))
 (some (.done (V.bool false)))
 (some (.head 0 (T16_0 a0 a1 0)))
theorem e16_eq (a0 : List V) (a1 : List V) : enterK sk false fa16 [V.sl a0, V.sl a1] [] = e16 a0 a1 := by kernel_rfl
theorem e16_run (a0 : List V) (a1 : List V) {o : Out} {v : V} (h : e16 a0 a1 = some o) (hg : Go sk false 0 fa16 o (.done v)) : pcW scfg 16 [V.sl a0, V.sl a1] = some v := pcW_go sik rfl fa16_eq ((e16_eq a0 a1).trans h) hg
noncomputable def s16_0 (x0 : List V) (x1 : List V) (x5 : Int) : R :=
  cond (decide (x5 < (x0.length : Int)))
 (gd (decide (0 ≤ x5)) <|
  idxK x0 x5.toNat fun v =>
  d43 v fun kind0 low0 page =>
  gd (decide (0 ≤ x5)) <|
  idxK x1 x5.toNat fun v_1 =>
  d43 v_1 fun kind0_1 low0_1 page_1 =>
  cond (!((kind0 == kind0_1) && ((low0 == low0_1) && ((page == page_1) && true))))
 (some (.done (V.bool false)))
 (some (.head 0 (T16_0 x0 x1 (W .i64 (x5 + 1))))))
 (some (.done (V.bool true)))
theorem s16_0_eq (x0 : List V) (x1 : List V) (x5 : Int) : goK sk false 0 fa16 0 (T16_0 x0 x1 x5) = s16_0 x0 x1 x5 := by kernel_rfl
theorem s16_0_run (x0 : List V) (x1 : List V) (x5 : Int) {o o' : Out} (h : s16_0 x0 x1 x5 = some o) (hg : Go sk false 0 fa16 o o') : Go sk false 0 fa16 (.head 0 (T16_0 x0 x1 x5)) o' := .step ((s16_0_eq x0 x1 x5).trans h) hg
/-! ### budwood/budwoodlaw19.alike -/
noncomputable def fa31 : FA := ⟨2, 26, [.tmp 4], [4],
 (.seq
 (.ops false [⟨(some 4), .assign (.const (.bool false)), 4, none, false, false, false⟩])
 (.seq
 (.seq
 (.ops false [mv 6 0 22, ⟨(some 7), .call ⟨(.builtin .len), #[(.tmp 6)], #[22]⟩, 3, none, false, false, false⟩, mv 8 1 22, ⟨(some 9), .call ⟨(.builtin .len), #[(.tmp 8)], #[22]⟩, 3, none, false, false, false⟩, ⟨(some 10), .binOp .neq 3 (.tmp 7) (.tmp 9) 3, 4, none, false, false, false⟩])
 (.cond (.tmp 10)
 (.seq
 (.ops false [⟨(some 4), .assign (.const (.bool false)), 4, none, false, false, false⟩])
 (.ret))
 (.skip)))
 (.seq
 (.seq
 (.ops false [⟨(some 5), .assign (.const (.int .i64 (0))), 3, none, false, false, false⟩])
 (.block 0
 (.loop ([2, 3] ++ List.range' 6 20)
 (.seq
 (.seq
 (.ops false [mv 11 5 3, mv 12 0 22, ⟨(some 13), .call ⟨(.builtin .len), #[(.tmp 12)], #[22]⟩, 3, none, false, false, false⟩, ⟨(some 14), .binOp .lss 3 (.tmp 11) (.tmp 13) 3, 4, none, false, false, false⟩])
 (.cond (.tmp 14)
 (.skip)
 (.exit 0)))
 (.seq
 (.block 1
 (.seq
 (.ops true [mv 17 0 22, mv 18 5 3, ⟨(some 19), .indexAddr 22 (.tmp 17) (.tmp 18), 0, none, false, false, false⟩, ⟨(some 20), .load 66 (.tmp 19), 66, none, false, false, false⟩, mv 21 1 22, mv 22 5 3, ⟨(some 23), .indexAddr 22 (.tmp 21) (.tmp 22), 0, none, false, false, false⟩, ⟨(some 24), .load 66 (.tmp 23), 66, none, false, false, false⟩, ⟨(some 25), .binOp .neq 66 (.tmp 20) (.tmp 24) 66, 4, none, false, false, false⟩])
 (.cond (.tmp 25)
 (.seq
 (.ops false [⟨(some 4), .assign (.const (.bool false)), 4, none, false, false, false⟩])
 (.ret))
 (.skip))))
 (.ops false [mv 15 5 3, ⟨(some 16), .binOp .add 3 (.tmp 15) (.const (.int .i64 (1))) 3, 3, none, false, false, false⟩, asg 5 16 3]))))))
 (.seq
 (.ops false [⟨(some 4), .assign (.const (.bool true)), 4, none, false, false, false⟩])
 (.ret)))))⟩
theorem fa31_eq : fnA scfg.P (scfg.rxf 31) 31 = some fa31 := by kernel_rfl
def T31_0 (x0 : List V) (x1 : List V) (x5 : Int) : S := ⟨[V.sl x0, V.sl x1, V.junk, V.junk, V.bool false, V.int .i64 x5] ++ (JU 20), []⟩
noncomputable def e31 (a0 : List V) (a1 : List V) : R :=
  cond ((a0.length : Int) != (a1.length : Int))
 (some (.done (V.bool false)))
 (some (.head 0 (T31_0 a0 a1 0)))
theorem e31_eq (a0 : List V) (a1 : List V) : enterK sk false fa31 [V.sl a0, V.sl a1] [] = e31 a0 a1 := by kernel_rfl
theorem e31_run (a0 : List V) (a1 : List V) {o : Out} {v : V} (h : e31 a0 a1 = some o) (hg : Go sk false 0 fa31 o (.done v)) : pcW scfg 31 [V.sl a0, V.sl a1] = some v := pcW_go sik rfl fa31_eq ((e31_eq a0 a1).trans h) hg
noncomputable def s31_0 (x0 : List V) (x1 : List V) (x5 : Int) : R :=
  cond (decide (x5 < (x0.length : Int)))
 (gd (decide (0 ≤ x5)) <|
  idxK x0 x5.toNat fun v =>
  d66 v fun low0 page =>
  gd (decide (0 ≤ x5)) <|
  idxK x1 x5.toNat fun v_1 =>
  d66 v_1 fun low0_1 page_1 =>
  cond (!((low0 == low0_1) && ((page == page_1) && true)))
 (some (.done (V.bool false)))
 (some (.head 0 (T31_0 x0 x1 (W .i64 (x5 + 1))))))
 (some (.done (V.bool true)))
theorem s31_0_eq (x0 : List V) (x1 : List V) (x5 : Int) : goK sk false 0 fa31 0 (T31_0 x0 x1 x5) = s31_0 x0 x1 x5 := by kernel_rfl
theorem s31_0_run (x0 : List V) (x1 : List V) (x5 : Int) {o o' : Out} (h : s31_0 x0 x1 x5 = some o) (hg : Go sk false 0 fa31 o o') : Go sk false 0 fa31 (.head 0 (T31_0 x0 x1 x5)) o' := .step ((s31_0_eq x0 x1 x5).trans h) hg
end Go.Proofs.Ytgpgjojejdaibaa
