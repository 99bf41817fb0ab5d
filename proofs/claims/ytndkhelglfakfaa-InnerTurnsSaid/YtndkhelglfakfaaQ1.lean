/-
  The functions' graphs (printed by walk.py).
-/
import Derived.Test.YtndkhelglfakfaaQ0
namespace Go.Proofs.Ytndkhelglfakfaa
open Go Go.Lite
set_option maxRecDepth 100000
set_option linter.unusedVariables false
def d59 (v : V) (k : List UInt8 → Int → R) : R := kT v fun vs => unc vs fun c vs => kS c fun x0 => unc vs fun c vs => kI .i64 c fun x1 => unn vs (k x0 x1)
@[simp] theorem d59_mk (x0 : List UInt8) (x1 : Int) (k : List UInt8 → Int → R) : d59 (.tup [V.str x0, V.int .i64 x1]) k = k x0 x1 := rfl
@[congr] theorem d59_wc {v v' : V} {k : List UInt8 → Int → R} (h : v = v') : d59 v k = d59 v' k := by rw [h]
def d74 (v : V) (k : List UInt8 → Int → Int → R) : R := kT v fun vs => unc vs fun c vs => kS c fun x0 => unc vs fun c vs => kI .i64 c fun x1 => unc vs fun c vs => kI .i64 c fun x2 => unn vs (k x0 x1 x2)
@[simp] theorem d74_mk (x0 : List UInt8) (x1 : Int) (x2 : Int) (k : List UInt8 → Int → Int → R) : d74 (.tup [V.str x0, V.int .i64 x1, V.int .i64 x2]) k = k x0 x1 x2 := rfl
@[congr] theorem d74_wc {v v' : V} {k : List UInt8 → Int → Int → R} (h : v = v') : d74 v k = d74 v' k := by rw [h]
def d97 (v : V) (k : Int → Int → R) : R := kT v fun vs => unc vs fun c vs => kI .u64 c fun x0 => unc vs fun c vs => kI .i64 c fun x1 => unn vs (k x0 x1)
@[simp] theorem d97_mk (x0 : Int) (x1 : Int) (k : Int → Int → R) : d97 (.tup [V.int .u64 x0, V.int .i64 x1]) k = k x0 x1 := rfl
@[congr] theorem d97_wc {v v' : V} {k : Int → Int → R} (h : v = v') : d97 v k = d97 v' k := by rw [h]
def d88 (v : V) (k : Int → Bool → R) : R := kT v fun vs => unc vs fun c vs => kI .i64 c fun x0 => unc vs fun c vs => kB c fun x1 => unn vs (k x0 x1)
@[simp] theorem d88_mk (x0 : Int) (x1 : Bool) (k : Int → Bool → R) : d88 (.tup [V.int .i64 x0, V.bool x1]) k = k x0 x1 := rfl
@[congr] theorem d88_wc {v v' : V} {k : Int → Bool → R} (h : v = v') : d88 v k = d88 v' k := by rw [h]
def d45 (v : V) (k : Int → Int → R) : R := kT v fun vs => unc vs fun c vs => kI .i64 c fun x0 => unc vs fun c vs => kI .i64 c fun x1 => unn vs (k x0 x1)
@[simp] theorem d45_mk (x0 : Int) (x1 : Int) (k : Int → Int → R) : d45 (.tup [V.int .i64 x0, V.int .i64 x1]) k = k x0 x1 := rfl
@[congr] theorem d45_wc {v v' : V} {k : Int → Int → R} (h : v = v') : d45 v k = d45 v' k := by rw [h]
/-! ### budwood/inner.both(string,int) -/
noncomputable def fa41 : FA := ⟨2, 6, [.tmp 4], [78],
 (.seq
 (.ops false [o1 2 (.box 22 (t' 0)) 0, o1 3 (.box 23 (t' 1)) 0, o1 4 (.assign (.const (.nilFunc))) 78])
 (.seq
 (.ops false [o1 5 (.makeFunc (.func 66) #[] #[(t' 2), (t' 3)]) 77, asg 4 5 78])
 (.ret)))⟩
theorem fa41_eq : fnA qcfg.P (qcfg.rxf 41) 41 = some fa41 := by kernel_rfl
/-! ### (*budwood/inner.reader).num -/
noncomputable def fa35 : FA := ⟨1, 37, [.tmp 2], [3],
 (.seq
 (.ops false [o1 2 (.assign (.const (.int .i64 (0)))) 3])
 (.seq
 (.ops true [mv 6 0 67, o1 7 (.nilCheck (t' 6)) 0, o1 8 (.fieldAddr 69 (t' 7) 0) 0, o1 9 (.load 9 (t' 8)) 9, mv 10 0 67, o1 11 (.nilCheck (t' 10)) 0, o1 12 (.fieldAddr 69 (t' 11) 1) 0, o1 13 (.load 3 (t' 12)) 3, ⟨(some 14), .call ⟨(.value (.func 63)), #[(t' 9), (t' 13), (.const (.int .i64 (2)))], #[9, 3, 3]⟩, 97, none, false, true, false⟩, mv 5 14 97, o1 15 (.extract (t' 5) 0) 83, o1 16 (.extract (t' 5) 1) 27, asg 3 15 83, asg 4 16 27])
 (.seq
 (.ops false [mv 17 0 67, mv 18 0 67, o1 19 (.nilCheck (t' 18)) 0, o1 20 (.fieldAddr 69 (t' 19) 2) 0, o1 21 (.load 4 (t' 20)) 4, mv 22 21 4, o2 23 (.move (t' 4)) 27 22 true, o2 24 (.binOp .eql 27 (t' 23) (.const (.int .i64 (0))) 27) 4 22 true, o1 25 (.pick (t' 22) (t' 24) (.const (.bool false))) 4, o1 26 (.nilCheck (t' 17)) 0, o1 27 (.fieldAddr 69 (t' 26) 2) 0, o0 (.store 4 (t' 27) (t' 25)) 0])
 (.seq
 (.ops false [mv 28 0 67, o1 29 (.nilCheck (t' 28)) 0, o1 30 (.fieldAddr 69 (t' 29) 1) 0, o1 31 (.load 3 (t' 30)) 3, o1 32 (.binOp .add 3 (t' 31) (.const (.int .i64 (2))) 3) 3, o1 33 (.nilCheck (t' 28)) 0, o1 34 (.fieldAddr 69 (t' 33) 1) 0, o0 (.store 3 (t' 34) (t' 32)) 0])
 (.seq
 (.ops false [mv 35 3 83, o1 36 (.convert 83 3 (t' 35)) 3, asg 2 36 3])
 (.ret))))))⟩
theorem fa35_eq : fnA qcfg.P (qcfg.rxf 35) 35 = some fa35 := by kernel_rfl
/-! ### (*budwood/inner.reader).text -/
noncomputable def fa36 : FA := ⟨1, 40, [.tmp 2], [9],
 (.seq
 (.ops false [o1 2 (.assign (.const (.string ⟨⟨[]⟩⟩))) 9])
 (.seq
 (.ops true [mv 7 0 67, o1 8 (.nilCheck (t' 7)) 0, o1 9 (.fieldAddr 69 (t' 8) 0) 0, o1 10 (.load 9 (t' 9)) 9, mv 11 0 67, o1 12 (.nilCheck (t' 11)) 0, o1 13 (.fieldAddr 69 (t' 12) 1) 0, o1 14 (.load 3 (t' 13)) 3, ⟨(some 15), .call ⟨(.value (.func 64)), #[(t' 10), (t' 14)], #[9, 3]⟩, 74, none, false, true, false⟩, mv 6 15 74, o1 16 (.extract (t' 6) 0) 9, o1 17 (.extract (t' 6) 1) 3, o1 18 (.extract (t' 6) 2) 27, asg 3 16 9, asg 4 17 3, asg 5 18 27])
 (.seq
 (.ops false [mv 19 0 67, mv 20 0 67, o1 21 (.nilCheck (t' 20)) 0, o1 22 (.fieldAddr 69 (t' 21) 2) 0, o1 23 (.load 4 (t' 22)) 4, mv 24 23 4, o2 25 (.move (t' 5)) 27 24 true, o2 26 (.binOp .eql 27 (t' 25) (.const (.int .i64 (0))) 27) 4 24 true, o1 27 (.pick (t' 24) (t' 26) (.const (.bool false))) 4, o1 28 (.nilCheck (t' 19)) 0, o1 29 (.fieldAddr 69 (t' 28) 2) 0, o0 (.store 4 (t' 29) (t' 27)) 0])
 (.seq
 (.ops false [mv 30 0 67, mv 31 0 67, o1 32 (.nilCheck (t' 31)) 0, o1 33 (.fieldAddr 69 (t' 32) 1) 0, o1 34 (.load 3 (t' 33)) 3, mv 35 4 3, o1 36 (.call ⟨(.builtin .max), #[(t' 34), (t' 35)], #[3, 3]⟩) 3, o1 37 (.nilCheck (t' 30)) 0, o1 38 (.fieldAddr 69 (t' 37) 1) 0, o0 (.store 3 (t' 38) (t' 36)) 0])
 (.seq
 (.ops false [mv 39 3 9, asg 2 39 9])
 (.ret))))))⟩
theorem fa36_eq : fnA qcfg.P (qcfg.rxf 36) 36 = some fa36 := by kernel_rfl
noncomputable def qk : KC := qk0.inl [(41, fa41), (35, fa35), (36, fa36)]
theorem qik : IKOK qk := inl_ok qik0 (by
  intro x hx
  simp only [List.mem_cons, List.not_mem_nil, or_false] at hx
  rcases hx with rfl | rfl | rfl
  · exact ⟨rfl, fa41_eq, rfl⟩
  · exact ⟨rfl, fa35_eq, rfl⟩
  · exact ⟨rfl, fa36_eq, rfl⟩)
/-! ### budwood/field.place -/
noncomputable def fa69 : FA := ⟨2, 13, [.tmp 4], [27],
 (.seq
 (.ops false [o1 4 (.assign (.const (.int .i64 (0)))) 27])
 (.seq
 (.seq
 (.ops false [mv 5 1 3, o1 6 (.binOp .lss 3 (t' 5) (.const (.int .i64 (0))) 3) 4, mv 7 6 4, o2 8 (.move (t' 1)) 3 7 false, o2 9 (.move (t' 0)) 9 7 false, o2 10 (.call ⟨(.builtin .len), #[(t' 9)], #[9]⟩) 3 7 false, o2 11 (.binOp .gtr 3 (t' 8) (t' 10) 3) 4 7 false, o1 12 (.pick (t' 7) (.const (.bool true)) (t' 11)) 4])
 (.cond (t' 12)
 (.seq
 (.ops false [o1 4 (.assign (.const (.int .i64 (1)))) 27])
 (.ret))
 (.skip)))
 (.seq
 (.ops false [o1 4 (.assign (.const (.int .i64 (0)))) 27])
 (.ret))))⟩
theorem fa69_eq : fnA qcfg.P (qcfg.rxf 69) 69 = some fa69 := by kernel_rfl
noncomputable def e69 (a0 : List UInt8) (a1 : Int) : R :=
  cond (decide (a1 < 0))
 (some (.done (V.int .i64 1)))
 (cond (decide (a1 > (a0.length : Int)))
 (some (.done (V.int .i64 1)))
 (some (.done (V.int .i64 0))))
theorem e69_eq (a0 : List UInt8) (a1 : Int) : enterK qk false fa69 [V.str a0, V.int .i64 a1] [] = e69 a0 a1 := by kernel_rfl
theorem e69_run (a0 : List UInt8) (a1 : Int) {o : Out} {v : V} (h : e69 a0 a1 = some o) (hg : Go qk false 0 fa69 o (.done v)) : pcW qcfg 69 [V.str a0, V.int .i64 a1] = some v := pcW_go qik rfl fa69_eq ((e69_eq a0 a1).trans h) hg
theorem e69_done (a0 : List UInt8) (a1 : Int) {v : V} (h : e69 a0 a1 = some (.done v)) : pcW qcfg 69 [V.str a0, V.int .i64 a1] = some v := e69_run a0 a1 h (.refl _)
/-! ### budwood/field.room -/
noncomputable def fa67 : FA := ⟨3, 27, [.tmp 6], [27],
 (.seq
 (.ops false [o1 6 (.assign (.const (.int .i64 (0)))) 27])
 (.seq
 (.block 0
 (.seq
 (.ops false [mv 8 2 3, o1 9 (.binOp .lss 3 (t' 8) (.const (.int .i64 (1))) 3) 4, mv 10 9 4, o2 11 (.move (t' 2)) 3 10 false, o2 12 (.binOp .gtr 3 (t' 11) (.const (.int .i64 (8))) 3) 4 10 false, o1 13 (.pick (t' 10) (.const (.bool true)) (t' 12)) 4, mv 14 13 4, o2 15 (.move (t' 0)) 9 14 false, o2 16 (.move (t' 1)) 3 14 false, o2 17 (.call ⟨(.value (.func 69)), #[(t' 15), (t' 16)], #[9, 3]⟩) 27 14 false, o2 18 (.binOp .neq 27 (t' 17) (.const (.int .i64 (0))) 27) 4 14 false, o1 19 (.pick (t' 14) (.const (.bool true)) (t' 18)) 4, asg 7 19 4])
 (.cond (t' 7)
 (.seq
 (.ops false [o1 6 (.assign (.const (.int .i64 (1)))) 27])
 (.ret))
 (.seq
 (.ops false [mv 21 0 9, o1 22 (.call ⟨(.builtin .len), #[(t' 21)], #[9]⟩) 3, mv 23 1 3, o1 24 (.binOp .sub 3 (t' 22) (t' 23) 3) 3, mv 25 2 3, o1 26 (.binOp .lss 3 (t' 24) (t' 25) 3) 4, asg 20 26 4])
 (.cond (t' 20)
 (.seq
 (.ops false [o1 6 (.assign (.const (.int .i64 (3)))) 27])
 (.ret))
 (.skip))))))
 (.seq
 (.ops false [o1 6 (.assign (.const (.int .i64 (0)))) 27])
 (.ret))))⟩
theorem fa67_eq : fnA qcfg.P (qcfg.rxf 67) 67 = some fa67 := by kernel_rfl
noncomputable def e67 (a0 : List UInt8) (a1 : Int) (a2 : Int) : R :=
  cond (decide (a2 < 1))
 (some (.done (V.int .i64 1)))
 (cond (decide (a2 > 8))
 (some (.done (V.int .i64 1)))
 (pcK qcfg 69 [V.str a0, V.int .i64 a1] fun r =>
  kI .i64 r fun r69 =>
  cond (r69 != (0 : Int))
 (some (.done (V.int .i64 1)))
 (cond (decide (W .i64 ((a0.length : Int) - a1) < a2))
 (some (.done (V.int .i64 3)))
 (some (.done (V.int .i64 0))))))
theorem e67_eq (a0 : List UInt8) (a1 : Int) (a2 : Int) : enterK qk false fa67 [V.str a0, V.int .i64 a1, V.int .i64 a2] [] = e67 a0 a1 a2 := by kernel_rfl
theorem e67_run (a0 : List UInt8) (a1 : Int) (a2 : Int) {o : Out} {v : V} (h : e67 a0 a1 a2 = some o) (hg : Go qk false 0 fa67 o (.done v)) : pcW qcfg 67 [V.str a0, V.int .i64 a1, V.int .i64 a2] = some v := pcW_go qik rfl fa67_eq ((e67_eq a0 a1 a2).trans h) hg
theorem e67_done (a0 : List UInt8) (a1 : Int) (a2 : Int) {v : V} (h : e67 a0 a1 a2 = some (.done v)) : pcW qcfg 67 [V.str a0, V.int .i64 a1, V.int .i64 a2] = some v := e67_run a0 a1 a2 h (.refl _)
/-! ### budwood/field.Get -/
noncomputable def fa63 : FA := ⟨3, 35, [.tmp 6, .tmp 7], [83, 27],
 (.seq
 (.ops false [o1 6 (.assign (.const (.int .u64 (0)))) 83, o1 7 (.assign (.const (.int .i64 (0)))) 27])
 (.seq
 (.seq
 (.ops false [mv 11 0 9, mv 12 1 3, mv 13 2 3, o1 14 (.call ⟨(.value (.func 67)), #[(t' 11), (t' 12), (t' 13)], #[9, 3, 3]⟩) 27, asg 8 14 27])
 (.seq
 (.ops false [mv 15 8 27, o1 16 (.binOp .neq 27 (t' 15) (.const (.int .i64 (0))) 27) 4])
 (.cond (t' 16)
 (.seq
 (.ops false [mv 17 8 27, o1 6 (.assign (.const (.int .u64 (0)))) 83, asg 7 17 27])
 (.ret))
 (.skip))))
 (.seq
 (.ops false [o1 9 (.assign (.const (.int .u64 (0)))) 83])
 (.seq
 (.seq
 (.ops false [mv 18 2 3, o1 19 (.move (.const (.int .i64 (0)))) 3])
 (.block 0
 (.loop (List.range' 2 4 ++ [8] ++ List.range' 10 8 ++ List.range' 20 15)
 (.seq
 (.ops false [o1 20 (.binOp .lss 3 (t' 19) (t' 18) 3) 4])
 (.seq
 (.cond (t' 20)
 (.skip)
 (.exit 0))
 (.seq
 (.block 1
 (.seq
 (.ops false [mv 21 19 3, asg 10 21 3])
 (.ops false [mv 22 9 83, mv 23 0 9, mv 24 1 3, mv 25 10 3, o1 26 (.binOp .add 3 (t' 24) (t' 25) 3) 3, o1 27 (.index 9 (t' 23) (t' 26)) 5, o1 28 (.convert 5 83 (t' 27)) 83, mv 29 10 3, o1 30 (.binOp .mul 3 (.const (.int .i64 (8))) (t' 29) 3) 3, o1 31 (.binOp .shl 83 (t' 28) (t' 30) 3) 83, o1 32 (.binOp .or 83 (t' 22) (t' 31) 83) 83, asg 9 32 83])))
 (.ops false [o1 33 (.binOp .add 3 (t' 19) (.const (.int .i64 (1))) 3) 3, mv 19 33 3])))))))
 (.seq
 (.ops false [mv 34 9 83, asg 6 34 83, o1 7 (.assign (.const (.int .i64 (0)))) 27])
 (.ret))))))⟩
theorem fa63_eq : fnA qcfg.P (qcfg.rxf 63) 63 = some fa63 := by kernel_rfl
def T63_0 (x0 : List UInt8) (x1 : Int) (x9 : Int) (x18 : Int) (x19 : Int) : S := ⟨[V.str x0, V.int .i64 x1] ++ (JU 4) ++ [V.int .u64 0, V.int .i64 0, V.junk, V.int .u64 x9] ++ (JU 8) ++ [V.int .i64 x18, V.int .i64 x19] ++ (JU 15), []⟩
noncomputable def e63 (a0 : List UInt8) (a1 : Int) (a2 : Int) : R :=
  pcK qcfg 67 [V.str a0, V.int .i64 a1, V.int .i64 a2] fun r =>
  kI .i64 r fun r67 =>
  cond (r67 != (0 : Int))
 (some (.done (V.tup [V.int .u64 0, V.int .i64 r67])))
 (some (.head 0 (T63_0 a0 a1 0 a2 0)))
theorem e63_eq (a0 : List UInt8) (a1 : Int) (a2 : Int) : enterK qk false fa63 [V.str a0, V.int .i64 a1, V.int .i64 a2] [] = e63 a0 a1 a2 := by kernel_rfl
theorem e63_run (a0 : List UInt8) (a1 : Int) (a2 : Int) {o : Out} {v : V} (h : e63 a0 a1 a2 = some o) (hg : Go qk false 0 fa63 o (.done v)) : pcW qcfg 63 [V.str a0, V.int .i64 a1, V.int .i64 a2] = some v := pcW_go qik rfl fa63_eq ((e63_eq a0 a1 a2).trans h) hg
noncomputable def s63_0 (x0 : List UInt8) (x1 : Int) (x9 : Int) (x18 : Int) (x19 : Int) : R :=
  cond (decide (x19 < x18))
 (gd (decide (0 ≤ W .i64 (x1 + x19))) <|
  idxK x0 ((W .i64 (x1 + x19)).toNat) fun c =>
  gd (!decide (W .i64 (8 * x19) < 0)) <|
  some (.head 0 (T63_0 x0 x1 (W .u64 (((BitVec.ofInt (IntKind.bits .u64) x9 ||| BitVec.ofInt (IntKind.bits .u64) (W .u64 (W .u64 ((c.toNat : Int)) * 2 ^ (min (W .i64 (8 * x19)).toNat (IntKind.bits .u64))))).toNat : Int))) x18 (W .i64 (x19 + 1)))))
 (some (.done (V.tup [V.int .u64 x9, V.int .i64 0])))
theorem s63_0_eq (x0 : List UInt8) (x1 : Int) (x9 : Int) (x18 : Int) (x19 : Int) : goK qk false 0 fa63 0 (T63_0 x0 x1 x9 x18 x19) = s63_0 x0 x1 x9 x18 x19 := by kernel_rfl
theorem s63_0_run (x0 : List UInt8) (x1 : Int) (x9 : Int) (x18 : Int) (x19 : Int) {o o' : Out} (h : s63_0 x0 x1 x9 x18 x19 = some o) (hg : Go qk false 0 fa63 o o') : Go qk false 0 fa63 (.head 0 (T63_0 x0 x1 x9 x18 x19)) o' := .step ((s63_0_eq x0 x1 x9 x18 x19).trans h) hg
/-! ### budwood/field.Put -/
noncomputable def fa47 : FA := ⟨4, 48, [.tmp 8, .tmp 9], [9, 27],
 (.seq
 (.ops false [o1 8 (.assign (.const (.string ⟨⟨[]⟩⟩))) 9, o1 9 (.assign (.const (.int .i64 (0)))) 27])
 (.seq
 (.seq
 (.ops false [mv 13 0 9, mv 14 1 3, mv 15 2 3, o1 16 (.call ⟨(.value (.func 67)), #[(t' 13), (t' 14), (t' 15)], #[9, 3, 3]⟩) 27, asg 10 16 27])
 (.seq
 (.ops false [mv 17 10 27, o1 18 (.binOp .neq 27 (t' 17) (.const (.int .i64 (0))) 27) 4])
 (.cond (t' 18)
 (.seq
 (.ops false [mv 19 10 27, o1 8 (.assign (.const (.string ⟨⟨[]⟩⟩))) 9, asg 9 19 27])
 (.ret))
 (.skip))))
 (.seq
 (.seq
 (.ops false [mv 20 2 3, o1 21 (.binOp .lss 3 (t' 20) (.const (.int .i64 (8))) 3) 4, mv 22 21 4, o2 23 (.move (t' 3)) 83 22 true, o2 24 (.move (t' 2)) 3 22 true, o2 25 (.binOp .mul 3 (.const (.int .i64 (8))) (t' 24) 3) 3 22 true, o2 26 (.binOp .shr 83 (t' 23) (t' 25) 3) 83 22 true, o2 27 (.binOp .gtr 83 (t' 26) (.const (.int .u64 (0))) 83) 4 22 true, o1 28 (.pick (t' 22) (t' 27) (.const (.bool false))) 4])
 (.cond (t' 28)
 (.seq
 (.ops false [o1 8 (.assign (.const (.string ⟨⟨[]⟩⟩))) 9, o1 9 (.assign (.const (.int .i64 (2)))) 27])
 (.ret))
 (.skip)))
 (.seq
 (.ops false [mv 29 2 3, o1 30 (.makeSlice 81 (t' 29) (t' 29)) 81, asg 11 30 81])
 (.seq
 (.seq
 (.ops false [mv 31 2 3, o1 32 (.move (.const (.int .i64 (0)))) 3])
 (.block 0
 (.loop ([2] ++ List.range' 4 4 ++ [10] ++ List.range' 12 19 ++ List.range' 33 15)
 (.seq
 (.ops false [o1 33 (.binOp .lss 3 (t' 32) (t' 31) 3) 4])
 (.seq
 (.cond (t' 33)
 (.skip)
 (.exit 0))
 (.seq
 (.block 1
 (.seq
 (.ops false [mv 34 32 3, asg 12 34 3])
 (.ops false [mv 35 11 81, mv 36 12 3, mv 37 3 83, mv 38 12 3, o1 39 (.binOp .mul 3 (.const (.int .i64 (8))) (t' 38) 3) 3, o1 40 (.binOp .shr 83 (t' 37) (t' 39) 3) 83, o1 41 (.convert 83 5 (t' 40)) 5, o1 42 (.indexAddr 81 (t' 35) (t' 36)) 0, o0 (.store 5 (t' 42) (t' 41)) 0])))
 (.ops false [o1 43 (.binOp .add 3 (t' 32) (.const (.int .i64 (1))) 3) 3, mv 32 43 3])))))))
 (.seq
 (.ops false [mv 44 0 9, mv 45 1 3, mv 46 11 81, o1 47 (.call ⟨(.value (.func 68)), #[(t' 44), (t' 45), (t' 46)], #[9, 3, 81]⟩) 9, asg 8 47 9, o1 9 (.assign (.const (.int .i64 (0)))) 27])
 (.ret)))))))⟩
theorem fa47_eq : fnA qcfg.P (qcfg.rxf 47) 47 = some fa47 := by kernel_rfl
def T47_0 (x0 : List UInt8) (x1 : Int) (x3 : Int) (x31 : Int) (x32 : Int) (m0 : List V) : S := ⟨[V.str x0, V.int .i64 x1, V.junk, V.int .u64 x3] ++ (JU 4) ++ [V.str [], V.int .i64 0, V.junk, V.own 0] ++ (JU 19) ++ [V.int .i64 x31, V.int .i64 x32] ++ (JU 15), [O.row 5 m0 0]⟩
noncomputable def e47 (a0 : List UInt8) (a1 : Int) (a2 : Int) (a3 : Int) : R :=
  pcK qcfg 67 [V.str a0, V.int .i64 a1, V.int .i64 a2] fun r =>
  kI .i64 r fun r67 =>
  cond (r67 != (0 : Int))
 (some (.done (V.tup [V.str [], V.int .i64 r67])))
 (cond (decide (a2 < 8))
 (gd (!decide (W .i64 (8 * a2) < 0)) <|
  cond (decide (a3.fdiv (2 ^ (min (W .i64 (8 * a2)).toNat (IntKind.bits .u64))) > 0))
 (some (.done (V.tup [V.str [], V.int .i64 2])))
 (gd (decide (0 ≤ a2)) <|
  gd (decide (a2 ≤ a2)) <|
  gd (decide (a2.toNat ≤ 16777216)) <|
  some (.head 0 (T47_0 a0 a1 a3 a2 0 (List.replicate a2.toNat (V.int .u8 0))))))
 (gd (decide (0 ≤ a2)) <|
  gd (decide (a2 ≤ a2)) <|
  gd (decide (a2.toNat ≤ 16777216)) <|
  some (.head 0 (T47_0 a0 a1 a3 a2 0 (List.replicate a2.toNat (V.int .u8 0))))))
theorem e47_eq (a0 : List UInt8) (a1 : Int) (a2 : Int) (a3 : Int) : enterK qk false fa47 [V.str a0, V.int .i64 a1, V.int .i64 a2, V.int .u64 a3] [] = e47 a0 a1 a2 a3 := by kernel_rfl
theorem e47_run (a0 : List UInt8) (a1 : Int) (a2 : Int) (a3 : Int) {o : Out} {v : V} (h : e47 a0 a1 a2 a3 = some o) (hg : Go qk false 0 fa47 o (.done v)) : pcW qcfg 47 [V.str a0, V.int .i64 a1, V.int .i64 a2, V.int .u64 a3] = some v := pcW_go qik rfl fa47_eq ((e47_eq a0 a1 a2 a3).trans h) hg
noncomputable def s47_0 (x0 : List UInt8) (x1 : Int) (x3 : Int) (x31 : Int) (x32 : Int) (m0 : List V) : R :=
  cond (decide (x32 < x31))
 (gd (!decide (W .i64 (8 * x32) < 0)) <|
  gd (decide (0 ≤ x32)) <|
  gd (decide (x32.toNat < m0.length)) <|
  idxK m0 x32.toNat fun v =>
  kI .u8 v fun n =>
  some (.head 0 (T47_0 x0 x1 x3 x31 (W .i64 (x32 + 1)) ((m0).set x32.toNat (V.int .u8 (W .u8 (x3.fdiv (2 ^ (min (W .i64 (8 * x32)).toNat (IntKind.bits .u64))))))))))
 (pcK qcfg 68 [V.str x0, V.int .i64 x1, V.sl m0] fun r =>
  kS r fun r68 =>
  some (.done (V.tup [V.str r68, V.int .i64 0])))
theorem s47_0_eq (x0 : List UInt8) (x1 : Int) (x3 : Int) (x31 : Int) (x32 : Int) (m0 : List V) : goK qk false 0 fa47 0 (T47_0 x0 x1 x3 x31 x32 m0) = s47_0 x0 x1 x3 x31 x32 m0 := by kernel_rfl
theorem s47_0_run (x0 : List UInt8) (x1 : Int) (x3 : Int) (x31 : Int) (x32 : Int) (m0 : List V) {o o' : Out} (h : s47_0 x0 x1 x3 x31 x32 m0 = some o) (hg : Go qk false 0 fa47 o o') : Go qk false 0 fa47 (.head 0 (T47_0 x0 x1 x3 x31 x32 m0)) o' := .step ((s47_0_eq x0 x1 x3 x31 x32 m0).trans h) hg
/-! ### budwood/field.Text -/
noncomputable def fa64 : FA := ⟨2, 44, [.tmp 4, .tmp 5, .tmp 6], [9, 3, 27],
 (.seq
 (.ops false [o1 4 (.assign (.const (.string ⟨⟨[]⟩⟩))) 9, o1 5 (.assign (.const (.int .i64 (0)))) 3, o1 6 (.assign (.const (.int .i64 (0)))) 27])
 (.seq
 (.seq
 (.ops false [mv 9 0 9, mv 10 1 3, o1 11 (.call ⟨(.value (.func 69)), #[(t' 9), (t' 10)], #[9, 3]⟩) 27, asg 7 11 27])
 (.seq
 (.ops false [mv 12 7 27, o1 13 (.binOp .neq 27 (t' 12) (.const (.int .i64 (0))) 27) 4])
 (.cond (t' 13)
 (.seq
 (.ops false [mv 14 7 27, o1 4 (.assign (.const (.string ⟨⟨[]⟩⟩))) 9, o1 5 (.assign (.const (.int .i64 (0)))) 3, asg 6 14 27])
 (.ret))
 (.skip))))
 (.seq
 (.seq
 (.ops false [mv 15 1 3, mv 16 0 9, o1 17 (.call ⟨(.builtin .len), #[(t' 16)], #[9]⟩) 3, o1 18 (.binOp .eql 3 (t' 15) (t' 17) 3) 4, mv 19 18 4, o2 20 (.move (t' 0)) 9 19 false, o2 21 (.call ⟨(.builtin .len), #[(t' 20)], #[9]⟩) 3 19 false, o2 22 (.move (t' 1)) 3 19 false, o2 23 (.binOp .sub 3 (t' 21) (t' 22) 3) 3 19 false, o2 24 (.binOp .sub 3 (t' 23) (.const (.int .i64 (1))) 3) 3 19 false, o2 25 (.move (t' 0)) 9 19 false, o2 26 (.move (t' 1)) 3 19 false, o2 27 (.index 9 (t' 25) (t' 26)) 5 19 false, o2 28 (.convert 5 3 (t' 27)) 3 19 false, o2 29 (.binOp .lss 3 (t' 24) (t' 28) 3) 4 19 false, o1 30 (.pick (t' 19) (.const (.bool true)) (t' 29)) 4])
 (.cond (t' 30)
 (.seq
 (.ops false [o1 4 (.assign (.const (.string ⟨⟨[]⟩⟩))) 9, o1 5 (.assign (.const (.int .i64 (0)))) 3, o1 6 (.assign (.const (.int .i64 (3)))) 27])
 (.ret))
 (.skip)))
 (.seq
 (.ops false [mv 31 1 3, o1 32 (.binOp .add 3 (t' 31) (.const (.int .i64 (1))) 3) 3, mv 33 0 9, mv 34 1 3, o1 35 (.index 9 (t' 33) (t' 34)) 5, o1 36 (.convert 5 3 (t' 35)) 3, o1 37 (.binOp .add 3 (t' 32) (t' 36) 3) 3, asg 8 37 3])
 (.seq
 (.ops false [mv 38 0 9, mv 39 1 3, o1 40 (.binOp .add 3 (t' 39) (.const (.int .i64 (1))) 3) 3, mv 41 8 3, o1 42 (.slice 9 (t' 38) (some (t' 40)) (some (t' 41)) none) 9, mv 43 8 3, asg 4 42 9, asg 5 43 3, o1 6 (.assign (.const (.int .i64 (0)))) 27])
 (.ret))))))⟩
theorem fa64_eq : fnA qcfg.P (qcfg.rxf 64) 64 = some fa64 := by kernel_rfl
noncomputable def e64 (a0 : List UInt8) (a1 : Int) : R :=
  pcK qcfg 69 [V.str a0, V.int .i64 a1] fun r =>
  kI .i64 r fun r69 =>
  cond (r69 != (0 : Int))
 (some (.done (V.tup [V.str [], V.int .i64 0, V.int .i64 r69])))
 (cond (a1 == (a0.length : Int))
 (some (.done (V.tup [V.str [], V.int .i64 0, V.int .i64 3])))
 (gd (decide (0 ≤ a1)) <|
  idxK a0 a1.toNat fun c =>
  cond (decide (W .i64 ((W .i64 ((a0.length : Int) - a1)) - 1) < W .i64 ((c.toNat : Int))))
 (some (.done (V.tup [V.str [], V.int .i64 0, V.int .i64 3])))
 (gd (decide (0 ≤ a1)) <|
  idxK a0 a1.toNat fun c_1 =>
  gd (decide (0 ≤ W .i64 (a1 + 1))) <|
  gd (decide (0 ≤ W .i64 ((W .i64 (a1 + 1)) + (W .i64 ((c_1.toNat : Int)))))) <|
  gd (decide ((W .i64 (a1 + 1)).toNat ≤ (W .i64 ((W .i64 (a1 + 1)) + (W .i64 ((c_1.toNat : Int))))).toNat)) <|
  gd (decide ((W .i64 ((W .i64 (a1 + 1)) + (W .i64 ((c_1.toNat : Int))))).toNat ≤ a0.length)) <|
  some (.done (V.tup [V.str ((a0.take ((W .i64 ((W .i64 (a1 + 1)) + (W .i64 ((c_1.toNat : Int))))).toNat)).drop ((W .i64 (a1 + 1)).toNat)), V.int .i64 (W .i64 ((W .i64 (a1 + 1)) + (W .i64 ((c_1.toNat : Int))))), V.int .i64 0])))))
theorem e64_eq (a0 : List UInt8) (a1 : Int) : enterK qk false fa64 [V.str a0, V.int .i64 a1] [] = e64 a0 a1 := by kernel_rfl
theorem e64_run (a0 : List UInt8) (a1 : Int) {o : Out} {v : V} (h : e64 a0 a1 = some o) (hg : Go qk false 0 fa64 o (.done v)) : pcW qcfg 64 [V.str a0, V.int .i64 a1] = some v := pcW_go qik rfl fa64_eq ((e64_eq a0 a1).trans h) hg
theorem e64_done (a0 : List UInt8) (a1 : Int) {v : V} (h : e64 a0 a1 = some (.done v)) : pcW qcfg 64 [V.str a0, V.int .i64 a1] = some v := e64_run a0 a1 h (.refl _)
/-! ### budwood/field.PutText -/
noncomputable def fa48 : FA := ⟨3, 44, [.tmp 6, .tmp 7, .tmp 8], [9, 3, 27],
 (.seq
 (.ops false [o1 6 (.assign (.const (.string ⟨⟨[]⟩⟩))) 9, o1 7 (.assign (.const (.int .i64 (0)))) 3, o1 8 (.assign (.const (.int .i64 (0)))) 27])
 (.seq
 (.seq
 (.ops false [mv 10 0 9, mv 11 1 3, o1 12 (.call ⟨(.value (.func 69)), #[(t' 10), (t' 11)], #[9, 3]⟩) 27, asg 9 12 27])
 (.block 0
 (.seq
 (.ops false [mv 14 9 27, o1 15 (.binOp .neq 27 (t' 14) (.const (.int .i64 (0))) 27) 4, asg 13 15 4])
 (.cond (t' 13)
 (.seq
 (.ops false [mv 16 9 27, o1 6 (.assign (.const (.string ⟨⟨[]⟩⟩))) 9, o1 7 (.assign (.const (.int .i64 (0)))) 3, asg 8 16 27])
 (.ret))
 (.seq
 (.ops false [mv 18 2 9, o1 19 (.call ⟨(.builtin .len), #[(t' 18)], #[9]⟩) 3, o1 20 (.binOp .gtr 3 (t' 19) (.const (.int .i64 (255))) 3) 4, asg 17 20 4])
 (.cond (t' 17)
 (.seq
 (.ops false [o1 6 (.assign (.const (.string ⟨⟨[]⟩⟩))) 9, o1 7 (.assign (.const (.int .i64 (0)))) 3, o1 8 (.assign (.const (.int .i64 (2)))) 27])
 (.ret))
 (.seq
 (.ops false [mv 22 0 9, o1 23 (.call ⟨(.builtin .len), #[(t' 22)], #[9]⟩) 3, mv 24 1 3, o1 25 (.binOp .sub 3 (t' 23) (t' 24) 3) 3, mv 26 2 9, o1 27 (.call ⟨(.builtin .len), #[(t' 26)], #[9]⟩) 3, o1 28 (.binOp .add 3 (t' 27) (.const (.int .i64 (1))) 3) 3, o1 29 (.binOp .lss 3 (t' 25) (t' 28) 3) 4, asg 21 29 4])
 (.cond (t' 21)
 (.seq
 (.ops false [o1 6 (.assign (.const (.string ⟨⟨[]⟩⟩))) 9, o1 7 (.assign (.const (.int .i64 (0)))) 3, o1 8 (.assign (.const (.int .i64 (3)))) 27])
 (.ret))
 (.skip)))))))))
 (.seq
 (.ops false [mv 30 0 9, mv 31 1 3, mv 32 2 9, o1 33 (.call ⟨(.builtin .len), #[(t' 32)], #[9]⟩) 3, o1 34 (.convert 3 5 (t' 33)) 5, o1 35 (.buildSlice 81 1 #[(0, (t' 34))]) 81, mv 36 2 9, o1 37 (.call ⟨(.builtin .append), #[(t' 35), (t' 36)], #[81, 9]⟩) 81, o1 38 (.call ⟨(.value (.func 68)), #[(t' 30), (t' 31), (t' 37)], #[9, 3, 81]⟩) 9, mv 39 1 3, mv 40 2 9, o1 41 (.call ⟨(.builtin .len), #[(t' 40)], #[9]⟩) 3, o1 42 (.binOp .add 3 (t' 39) (t' 41) 3) 3, o1 43 (.binOp .add 3 (t' 42) (.const (.int .i64 (1))) 3) 3, asg 6 38 9, asg 7 43 3, o1 8 (.assign (.const (.int .i64 (0)))) 27])
 (.ret))))⟩
theorem fa48_eq : fnA qcfg.P (qcfg.rxf 48) 48 = some fa48 := by kernel_rfl
noncomputable def e48 (a0 : List UInt8) (a1 : Int) (a2 : List UInt8) : R :=
  pcK qcfg 69 [V.str a0, V.int .i64 a1] fun r =>
  kI .i64 r fun r69 =>
  cond (r69 != (0 : Int))
 (some (.done (V.tup [V.str [], V.int .i64 0, V.int .i64 r69])))
 (cond (decide ((a2.length : Int) > 255))
 (some (.done (V.tup [V.str [], V.int .i64 0, V.int .i64 2])))
 (cond (decide (W .i64 ((a0.length : Int) - a1) < W .i64 ((a2.length : Int) + 1)))
 (some (.done (V.tup [V.str [], V.int .i64 0, V.int .i64 3])))
 (gd (wfl 1 (bytesV a2)) <|
  gd (decide (([V.int .u8 (W .u8 ((a2.length : Int)))] : List V).length + (bytesV a2).length ≤ 16777216)) <|
  pcK qcfg 68 [V.str a0, V.int .i64 a1, V.sl ([V.int .u8 (W .u8 ((a2.length : Int)))] ++ (bytesV a2))] fun r_1 =>
  kS r_1 fun r68 =>
  some (.done (V.tup [V.str r68, V.int .i64 (W .i64 ((W .i64 (a1 + (a2.length : Int))) + 1)), V.int .i64 0])))))
theorem e48_eq (a0 : List UInt8) (a1 : Int) (a2 : List UInt8) : enterK qk false fa48 [V.str a0, V.int .i64 a1, V.str a2] [] = e48 a0 a1 a2 := by kernel_rfl
theorem e48_run (a0 : List UInt8) (a1 : Int) (a2 : List UInt8) {o : Out} {v : V} (h : e48 a0 a1 a2 = some o) (hg : Go qk false 0 fa48 o (.done v)) : pcW qcfg 48 [V.str a0, V.int .i64 a1, V.str a2] = some v := pcW_go qik rfl fa48_eq ((e48_eq a0 a1 a2).trans h) hg
theorem e48_done (a0 : List UInt8) (a1 : Int) (a2 : List UInt8) {v : V} (h : e48 a0 a1 a2 = some (.done v)) : pcW qcfg 48 [V.str a0, V.int .i64 a1, V.str a2] = some v := e48_run a0 a1 a2 h (.refl _)
/-! ### budwood/field.Pad -/
noncomputable def fa46 : FA := ⟨2, 26, [.tmp 4, .tmp 5], [9, 27],
 (.seq
 (.ops false [o1 4 (.assign (.const (.string ⟨⟨[]⟩⟩))) 9, o1 5 (.assign (.const (.int .i64 (0)))) 27])
 (.seq
 (.block 0
 (.seq
 (.ops false [mv 7 1 3, o1 8 (.binOp .lss 3 (t' 7) (.const (.int .i64 (0))) 3) 4, mv 9 8 4, o2 10 (.move (t' 1)) 3 9 false, o2 11 (.binOp .gtr 3 (t' 10) (.const (.int .i64 (65536))) 3) 4 9 false, o1 12 (.pick (t' 9) (.const (.bool true)) (t' 11)) 4, asg 6 12 4])
 (.cond (t' 6)
 (.seq
 (.ops false [o1 4 (.assign (.const (.string ⟨⟨[]⟩⟩))) 9, o1 5 (.assign (.const (.int .i64 (1)))) 27])
 (.ret))
 (.seq
 (.ops false [mv 14 0 9, o1 15 (.call ⟨(.builtin .len), #[(t' 14)], #[9]⟩) 3, mv 16 1 3, o1 17 (.binOp .gtr 3 (t' 15) (t' 16) 3) 4, asg 13 17 4])
 (.cond (t' 13)
 (.seq
 (.ops false [o1 4 (.assign (.const (.string ⟨⟨[]⟩⟩))) 9, o1 5 (.assign (.const (.int .i64 (2)))) 27])
 (.ret))
 (.skip))))))
 (.seq
 (.ops false [mv 18 0 9, mv 19 1 3, mv 20 0 9, o1 21 (.call ⟨(.builtin .len), #[(t' 20)], #[9]⟩) 3, o1 22 (.binOp .sub 3 (t' 19) (t' 21) 3) 3, o1 23 (.makeSlice 81 (t' 22) (t' 22)) 81, o1 24 (.convert 81 9 (t' 23)) 9, o1 25 (.binOp .add 9 (t' 18) (t' 24) 9) 9, asg 4 25 9, o1 5 (.assign (.const (.int .i64 (0)))) 27])
 (.ret))))⟩
theorem fa46_eq : fnA qcfg.P (qcfg.rxf 46) 46 = some fa46 := by kernel_rfl
noncomputable def e46 (a0 : List UInt8) (a1 : Int) : R :=
  cond (decide (a1 < 0))
 (some (.done (V.tup [V.str [], V.int .i64 1])))
 (cond (decide (a1 > 65536))
 (some (.done (V.tup [V.str [], V.int .i64 1])))
 (cond (decide ((a0.length : Int) > a1))
 (some (.done (V.tup [V.str [], V.int .i64 2])))
 (gd (decide (0 ≤ W .i64 (a1 - (a0.length : Int)))) <|
  gd (decide (W .i64 (a1 - (a0.length : Int)) ≤ W .i64 (a1 - (a0.length : Int)))) <|
  gd (decide ((W .i64 (a1 - (a0.length : Int))).toNat ≤ 16777216)) <|
  opt (numsOf (List.replicate ((W .i64 (a1 - (a0.length : Int))).toNat) (V.int .u8 0))) fun ns =>
  gd (decide (a0.length + (ns.map fun n => UInt8.ofNat n.toNat).length ≤ 4611686018427387904)) <|
  some (.done (V.tup [V.str (a0 ++ (ns.map fun n => UInt8.ofNat n.toNat)), V.int .i64 0])))))
theorem e46_eq (a0 : List UInt8) (a1 : Int) : enterK qk false fa46 [V.str a0, V.int .i64 a1] [] = e46 a0 a1 := by kernel_rfl
theorem e46_run (a0 : List UInt8) (a1 : Int) {o : Out} {v : V} (h : e46 a0 a1 = some o) (hg : Go qk false 0 fa46 o (.done v)) : pcW qcfg 46 [V.str a0, V.int .i64 a1] = some v := pcW_go qik rfl fa46_eq ((e46_eq a0 a1).trans h) hg
theorem e46_done (a0 : List UInt8) (a1 : Int) {v : V} (h : e46 a0 a1 = some (.done v)) : pcW qcfg 46 [V.str a0, V.int .i64 a1] = some v := e46_run a0 a1 h (.refl _)
/-! ### budwood/field.Bare -/
noncomputable def fa37 : FA := ⟨1, 20, [.tmp 2], [9],
 (.seq
 (.ops false [o1 2 (.assign (.const (.string ⟨⟨[]⟩⟩))) 9])
 (.seq
 (.ops false [mv 4 0 9, o1 5 (.call ⟨(.builtin .len), #[(t' 4)], #[9]⟩) 3, asg 3 5 3])
 (.seq
 (.block 0
 (.loop ([1] ++ List.range' 4 16)
 (.seq
 (.seq
 (.ops false [mv 6 3 3, o1 7 (.binOp .gtr 3 (t' 6) (.const (.int .i64 (0))) 3) 4, mv 8 7 4, o2 9 (.move (t' 0)) 9 8 true, o2 10 (.move (t' 3)) 3 8 true, o2 11 (.binOp .sub 3 (t' 10) (.const (.int .i64 (1))) 3) 3 8 true, o2 12 (.index 9 (t' 9) (t' 11)) 5 8 true, o2 13 (.binOp .eql 5 (t' 12) (.const (.int .u8 (0))) 5) 4 8 true, o1 14 (.pick (t' 8) (t' 13) (.const (.bool false))) 4])
 (.cond (t' 14)
 (.skip)
 (.exit 0)))
 (.block 1
 (.ops false [mv 15 3 3, o1 16 (.binOp .sub 3 (t' 15) (.const (.int .i64 (1))) 3) 3, asg 3 16 3])))))
 (.seq
 (.ops false [mv 17 0 9, mv 18 3 3, o1 19 (.slice 9 (t' 17) none (some (t' 18)) none) 9, asg 2 19 9])
 (.ret)))))⟩
theorem fa37_eq : fnA qcfg.P (qcfg.rxf 37) 37 = some fa37 := by kernel_rfl
def T37_0 (x0 : List UInt8) (x3 : Int) : S := ⟨[V.str x0, V.junk, V.str [], V.int .i64 x3] ++ (JU 16), []⟩
noncomputable def e37 (a0 : List UInt8) : R :=
  some (.head 0 (T37_0 a0 (a0.length : Int)))
theorem e37_eq (a0 : List UInt8) : enterK qk false fa37 [V.str a0] [] = e37 a0 := by kernel_rfl
theorem e37_run (a0 : List UInt8) {o : Out} {v : V} (h : e37 a0 = some o) (hg : Go qk false 0 fa37 o (.done v)) : pcW qcfg 37 [V.str a0] = some v := pcW_go qik rfl fa37_eq ((e37_eq a0).trans h) hg
noncomputable def s37_0 (x0 : List UInt8) (x3 : Int) : R :=
  cond (decide (x3 > 0))
 (gd (decide (0 ≤ W .i64 (x3 - 1))) <|
  idxK x0 ((W .i64 (x3 - 1)).toNat) fun c =>
  cond ((c.toNat : Int) == (0 : Int))
 (some (.head 0 (T37_0 x0 (W .i64 (x3 - 1)))))
 (gd (decide (0 ≤ x3)) <|
  gd (decide (x3.toNat ≤ x0.length)) <|
  some (.done (V.str (x0.take x3.toNat)))))
 (gd (decide (0 ≤ x3)) <|
  gd (decide (x3.toNat ≤ x0.length)) <|
  some (.done (V.str (x0.take x3.toNat))))
theorem s37_0_eq (x0 : List UInt8) (x3 : Int) : goK qk false 0 fa37 0 (T37_0 x0 x3) = s37_0 x0 x3 := by kernel_rfl
theorem s37_0_run (x0 : List UInt8) (x3 : Int) {o o' : Out} (h : s37_0 x0 x3 = some o) (hg : Go qk false 0 fa37 o o') : Go qk false 0 fa37 (.head 0 (T37_0 x0 x3)) o' := .step ((s37_0_eq x0 x3).trans h) hg
/-! ### budwood/budwoodref01.bad -/
noncomputable def fa76 : FA := ⟨3, 29, [.tmp 6], [27],
 (.seq
 (.ops false [o1 6 (.assign (.const (.int .i64 (0)))) 27])
 (.seq
 (.seq
 (.ops false [mv 7 2 3, o1 8 (.binOp .lss 3 (t' 7) (.const (.int .i64 (1))) 3) 4, mv 9 8 4, o2 10 (.move (t' 2)) 3 9 false, o2 11 (.binOp .gtr 3 (t' 10) (.const (.int .i64 (8))) 3) 4 9 false, o1 12 (.pick (t' 9) (.const (.bool true)) (t' 11)) 4, mv 13 12 4, o2 14 (.move (t' 1)) 3 13 false, o2 15 (.binOp .lss 3 (t' 14) (.const (.int .i64 (0))) 3) 4 13 false, o1 16 (.pick (t' 13) (.const (.bool true)) (t' 15)) 4, mv 17 16 4, o2 18 (.move (t' 1)) 3 17 false, o2 19 (.move (t' 0)) 9 17 false, o2 20 (.call ⟨(.builtin .len), #[(t' 19)], #[9]⟩) 3 17 false, o2 21 (.binOp .gtr 3 (t' 18) (t' 20) 3) 4 17 false, o1 22 (.pick (t' 17) (.const (.bool true)) (t' 21)) 4])
 (.cond (t' 22)
 (.seq
 (.ops false [o1 6 (.assign (.const (.int .i64 (1)))) 27])
 (.ret))
 (.skip)))
 (.seq
 (.seq
 (.ops false [mv 23 1 3, mv 24 2 3, o1 25 (.binOp .add 3 (t' 23) (t' 24) 3) 3, mv 26 0 9, o1 27 (.call ⟨(.builtin .len), #[(t' 26)], #[9]⟩) 3, o1 28 (.binOp .gtr 3 (t' 25) (t' 27) 3) 4])
 (.cond (t' 28)
 (.seq
 (.ops false [o1 6 (.assign (.const (.int .i64 (3)))) 27])
 (.ret))
 (.skip)))
 (.seq
 (.ops false [o1 6 (.assign (.const (.int .i64 (0)))) 27])
 (.ret)))))⟩
theorem fa76_eq : fnA qcfg.P (qcfg.rxf 76) 76 = some fa76 := by kernel_rfl
noncomputable def e76 (a0 : List UInt8) (a1 : Int) (a2 : Int) : R :=
  cond (decide (a2 < 1))
 (some (.done (V.int .i64 1)))
 (cond (decide (a2 > 8))
 (some (.done (V.int .i64 1)))
 (cond (decide (a1 < 0))
 (some (.done (V.int .i64 1)))
 (cond (decide (a1 > (a0.length : Int)))
 (some (.done (V.int .i64 1)))
 (cond (decide (W .i64 (a1 + a2) > (a0.length : Int)))
 (some (.done (V.int .i64 3)))
 (some (.done (V.int .i64 0)))))))
theorem e76_eq (a0 : List UInt8) (a1 : Int) (a2 : Int) : enterK qk false fa76 [V.str a0, V.int .i64 a1, V.int .i64 a2] [] = e76 a0 a1 a2 := by kernel_rfl
theorem e76_run (a0 : List UInt8) (a1 : Int) (a2 : Int) {o : Out} {v : V} (h : e76 a0 a1 a2 = some o) (hg : Go qk false 0 fa76 o (.done v)) : pcW qcfg 76 [V.str a0, V.int .i64 a1, V.int .i64 a2] = some v := pcW_go qik rfl fa76_eq ((e76_eq a0 a1 a2).trans h) hg
theorem e76_done (a0 : List UInt8) (a1 : Int) (a2 : Int) {v : V} (h : e76 a0 a1 a2 = some (.done v)) : pcW qcfg 76 [V.str a0, V.int .i64 a1, V.int .i64 a2] = some v := e76_run a0 a1 a2 h (.refl _)
/-! ### budwood/budwoodref01.little -/
noncomputable def fa62 : FA := ⟨2, 18, [.tmp 4], [9],
 (.seq
 (.ops false [o1 4 (.assign (.const (.string ⟨⟨[]⟩⟩))) 9])
 (.seq
 (.seq
 (.ops false [mv 5 1 3, o1 6 (.binOp .eql 3 (t' 5) (.const (.int .i64 (0))) 3) 4])
 (.cond (t' 6)
 (.seq
 (.ops false [o1 4 (.assign (.const (.string ⟨⟨[]⟩⟩))) 9])
 (.ret))
 (.skip)))
 (.seq
 (.ops true [mv 7 0 83, o1 8 (.binOp .rem 83 (t' 7) (.const (.int .u64 (256))) 83) 83, o1 9 (.convert 83 5 (t' 8)) 5, ⟨(some 10), .buildSlice 81 1 #[(0, (t' 9))], 81, none, true, false, false⟩, o1 11 (.convert 81 9 (t' 10)) 9, mv 12 0 83, o1 13 (.binOp .quo 83 (t' 12) (.const (.int .u64 (256))) 83) 83, mv 14 1 3, o1 15 (.binOp .sub 3 (t' 14) (.const (.int .i64 (1))) 3) 3, ⟨(some 16), .call ⟨(.value (.func 62)), #[(t' 13), (t' 15)], #[83, 3]⟩, 9, none, false, true, false⟩, o1 17 (.binOp .add 9 (t' 11) (t' 16) 9) 9, asg 4 17 9])
 (.ret))))⟩
theorem fa62_eq : fnA qcfg.P (qcfg.rxf 62) 62 = some fa62 := by kernel_rfl
noncomputable def e62 (a0 : Int) (a1 : Int) : R :=
  cond (a1 == (0 : Int))
 (some (.done (V.str [])))
 (pcK qcfg 62 [V.int .u64 (W .u64 ((a0.tdiv 256))), V.int .i64 (W .i64 (a1 - 1))] fun r =>
  kS r fun r62 =>
  gd (decide (([UInt8.ofNat (W .u8 (a0.tmod 256)).toNat] : List UInt8).length + r62.length ≤ 4611686018427387904)) <|
  some (.done (V.str ([UInt8.ofNat (W .u8 (a0.tmod 256)).toNat] ++ r62))))
theorem e62_eq (a0 : Int) (a1 : Int) : enterK qk false fa62 [V.int .u64 a0, V.int .i64 a1] [] = e62 a0 a1 := by kernel_rfl
theorem e62_run (a0 : Int) (a1 : Int) {o : Out} {v : V} (h : e62 a0 a1 = some o) (hg : Go qk false 0 fa62 o (.done v)) : pcW qcfg 62 [V.int .u64 a0, V.int .i64 a1] = some v := pcW_go qik rfl fa62_eq ((e62_eq a0 a1).trans h) hg
theorem e62_done (a0 : Int) (a1 : Int) {v : V} (h : e62 a0 a1 = some (.done v)) : pcW qcfg 62 [V.int .u64 a0, V.int .i64 a1] = some v := e62_run a0 a1 h (.refl _)
/-! ### budwood/budwoodref01.Get -/
noncomputable def fa65 : FA := ⟨3, 34, [.tmp 6, .tmp 7], [83, 27],
 (.seq
 (.ops false [o1 6 (.assign (.const (.int .u64 (0)))) 83, o1 7 (.assign (.const (.int .i64 (0)))) 27])
 (.seq
 (.ops false [mv 11 0 9, mv 12 1 3, mv 13 2 3, o1 14 (.call ⟨(.value (.func 76)), #[(t' 11), (t' 12), (t' 13)], #[9, 3, 3]⟩) 27, asg 8 14 27])
 (.seq
 (.seq
 (.ops false [mv 15 8 27, o1 16 (.binOp .neq 27 (t' 15) (.const (.int .i64 (0))) 27) 4])
 (.cond (t' 16)
 (.seq
 (.ops false [mv 17 8 27, o1 6 (.assign (.const (.int .u64 (0)))) 83, asg 7 17 27])
 (.ret))
 (.skip)))
 (.seq
 (.ops false [o1 9 (.assign (.const (.int .u64 (0)))) 83])
 (.seq
 (.seq
 (.ops false [mv 18 2 3, o1 19 (.binOp .sub 3 (t' 18) (.const (.int .i64 (1))) 3) 3, asg 10 19 3])
 (.block 0
 (.loop (List.range' 2 4 ++ [8] ++ List.range' 11 23)
 (.seq
 (.seq
 (.ops false [mv 20 10 3, o1 21 (.binOp .geq 3 (t' 20) (.const (.int .i64 (0))) 3) 4])
 (.cond (t' 21)
 (.skip)
 (.exit 0)))
 (.seq
 (.block 1
 (.ops false [mv 24 9 83, o1 25 (.binOp .mul 83 (.const (.int .u64 (256))) (t' 24) 83) 83, mv 26 0 9, mv 27 1 3, mv 28 10 3, o1 29 (.binOp .add 3 (t' 27) (t' 28) 3) 3, o1 30 (.index 9 (t' 26) (t' 29)) 5, o1 31 (.convert 5 83 (t' 30)) 83, o1 32 (.binOp .add 83 (t' 25) (t' 31) 83) 83, asg 9 32 83]))
 (.ops false [mv 22 10 3, o1 23 (.binOp .sub 3 (t' 22) (.const (.int .i64 (1))) 3) 3, asg 10 23 3]))))))
 (.seq
 (.ops false [mv 33 9 83, asg 6 33 83, o1 7 (.assign (.const (.int .i64 (0)))) 27])
 (.ret)))))))⟩
theorem fa65_eq : fnA qcfg.P (qcfg.rxf 65) 65 = some fa65 := by kernel_rfl
def T65_0 (x0 : List UInt8) (x1 : Int) (x9 : Int) (x10 : Int) : S := ⟨[V.str x0, V.int .i64 x1] ++ (JU 4) ++ [V.int .u64 0, V.int .i64 0, V.junk, V.int .u64 x9, V.int .i64 x10] ++ (JU 23), []⟩
noncomputable def e65 (a0 : List UInt8) (a1 : Int) (a2 : Int) : R :=
  pcK qcfg 76 [V.str a0, V.int .i64 a1, V.int .i64 a2] fun r =>
  kI .i64 r fun r76 =>
  cond (r76 != (0 : Int))
 (some (.done (V.tup [V.int .u64 0, V.int .i64 r76])))
 (some (.head 0 (T65_0 a0 a1 0 (W .i64 (a2 - 1)))))
theorem e65_eq (a0 : List UInt8) (a1 : Int) (a2 : Int) : enterK qk false fa65 [V.str a0, V.int .i64 a1, V.int .i64 a2] [] = e65 a0 a1 a2 := by kernel_rfl
theorem e65_run (a0 : List UInt8) (a1 : Int) (a2 : Int) {o : Out} {v : V} (h : e65 a0 a1 a2 = some o) (hg : Go qk false 0 fa65 o (.done v)) : pcW qcfg 65 [V.str a0, V.int .i64 a1, V.int .i64 a2] = some v := pcW_go qik rfl fa65_eq ((e65_eq a0 a1 a2).trans h) hg
noncomputable def s65_0 (x0 : List UInt8) (x1 : Int) (x9 : Int) (x10 : Int) : R :=
  cond (decide (x10 ≥ 0))
 (gd (decide (0 ≤ W .i64 (x1 + x10))) <|
  idxK x0 ((W .i64 (x1 + x10)).toNat) fun c =>
  some (.head 0 (T65_0 x0 x1 (W .u64 ((W .u64 (256 * x9)) + (W .u64 ((c.toNat : Int))))) (W .i64 (x10 - 1)))))
 (some (.done (V.tup [V.int .u64 x9, V.int .i64 0])))
theorem s65_0_eq (x0 : List UInt8) (x1 : Int) (x9 : Int) (x10 : Int) : goK qk false 0 fa65 0 (T65_0 x0 x1 x9 x10) = s65_0 x0 x1 x9 x10 := by kernel_rfl
theorem s65_0_run (x0 : List UInt8) (x1 : Int) (x9 : Int) (x10 : Int) {o o' : Out} (h : s65_0 x0 x1 x9 x10 = some o) (hg : Go qk false 0 fa65 o o') : Go qk false 0 fa65 (.head 0 (T65_0 x0 x1 x9 x10)) o' := .step ((s65_0_eq x0 x1 x9 x10).trans h) hg
/-! ### budwood/budwoodref01.Text -/
noncomputable def fa39 : FA := ⟨2, 37, [.tmp 4, .tmp 5, .tmp 6], [9, 3, 27],
 (.seq
 (.ops false [o1 4 (.assign (.const (.string ⟨⟨[]⟩⟩))) 9, o1 5 (.assign (.const (.int .i64 (0)))) 3, o1 6 (.assign (.const (.int .i64 (0)))) 27])
 (.seq
 (.seq
 (.ops false [mv 8 1 3, o1 9 (.binOp .lss 3 (t' 8) (.const (.int .i64 (0))) 3) 4, mv 10 9 4, o2 11 (.move (t' 1)) 3 10 false, o2 12 (.move (t' 0)) 9 10 false, o2 13 (.call ⟨(.builtin .len), #[(t' 12)], #[9]⟩) 3 10 false, o2 14 (.binOp .gtr 3 (t' 11) (t' 13) 3) 4 10 false, o1 15 (.pick (t' 10) (.const (.bool true)) (t' 14)) 4])
 (.cond (t' 15)
 (.seq
 (.ops false [o1 4 (.assign (.const (.string ⟨⟨[]⟩⟩))) 9, o1 5 (.assign (.const (.int .i64 (0)))) 3, o1 6 (.assign (.const (.int .i64 (1)))) 27])
 (.ret))
 (.skip)))
 (.seq
 (.seq
 (.ops false [mv 16 1 3, mv 17 0 9, o1 18 (.call ⟨(.builtin .len), #[(t' 17)], #[9]⟩) 3, o1 19 (.binOp .eql 3 (t' 16) (t' 18) 3) 4])
 (.cond (t' 19)
 (.seq
 (.ops false [o1 4 (.assign (.const (.string ⟨⟨[]⟩⟩))) 9, o1 5 (.assign (.const (.int .i64 (0)))) 3, o1 6 (.assign (.const (.int .i64 (3)))) 27])
 (.ret))
 (.skip)))
 (.seq
 (.ops false [mv 20 1 3, o1 21 (.binOp .add 3 (t' 20) (.const (.int .i64 (1))) 3) 3, mv 22 0 9, mv 23 1 3, o1 24 (.index 9 (t' 22) (t' 23)) 5, o1 25 (.convert 5 3 (t' 24)) 3, o1 26 (.binOp .add 3 (t' 21) (t' 25) 3) 3, asg 7 26 3])
 (.seq
 (.seq
 (.ops false [mv 27 7 3, mv 28 0 9, o1 29 (.call ⟨(.builtin .len), #[(t' 28)], #[9]⟩) 3, o1 30 (.binOp .gtr 3 (t' 27) (t' 29) 3) 4])
 (.cond (t' 30)
 (.seq
 (.ops false [o1 4 (.assign (.const (.string ⟨⟨[]⟩⟩))) 9, o1 5 (.assign (.const (.int .i64 (0)))) 3, o1 6 (.assign (.const (.int .i64 (3)))) 27])
 (.ret))
 (.skip)))
 (.seq
 (.ops false [mv 31 0 9, mv 32 1 3, o1 33 (.binOp .add 3 (t' 32) (.const (.int .i64 (1))) 3) 3, mv 34 7 3, o1 35 (.slice 9 (t' 31) (some (t' 33)) (some (t' 34)) none) 9, mv 36 7 3, asg 4 35 9, asg 5 36 3, o1 6 (.assign (.const (.int .i64 (0)))) 27])
 (.ret)))))))⟩
theorem fa39_eq : fnA qcfg.P (qcfg.rxf 39) 39 = some fa39 := by kernel_rfl
noncomputable def e39 (a0 : List UInt8) (a1 : Int) : R :=
  cond (decide (a1 < 0))
 (some (.done (V.tup [V.str [], V.int .i64 0, V.int .i64 1])))
 (cond (decide (a1 > (a0.length : Int)))
 (some (.done (V.tup [V.str [], V.int .i64 0, V.int .i64 1])))
 (cond (a1 == (a0.length : Int))
 (some (.done (V.tup [V.str [], V.int .i64 0, V.int .i64 3])))
 (gd (decide (0 ≤ a1)) <|
  idxK a0 a1.toNat fun c =>
  cond (decide (W .i64 ((W .i64 (a1 + 1)) + (W .i64 ((c.toNat : Int)))) > (a0.length : Int)))
 (some (.done (V.tup [V.str [], V.int .i64 0, V.int .i64 3])))
 (gd (decide (0 ≤ W .i64 (a1 + 1))) <|
  gd (decide (0 ≤ W .i64 ((W .i64 (a1 + 1)) + (W .i64 ((c.toNat : Int)))))) <|
  gd (decide ((W .i64 (a1 + 1)).toNat ≤ (W .i64 ((W .i64 (a1 + 1)) + (W .i64 ((c.toNat : Int))))).toNat)) <|
  gd (decide ((W .i64 ((W .i64 (a1 + 1)) + (W .i64 ((c.toNat : Int))))).toNat ≤ a0.length)) <|
  some (.done (V.tup [V.str ((a0.take ((W .i64 ((W .i64 (a1 + 1)) + (W .i64 ((c.toNat : Int))))).toNat)).drop ((W .i64 (a1 + 1)).toNat)), V.int .i64 (W .i64 ((W .i64 (a1 + 1)) + (W .i64 ((c.toNat : Int))))), V.int .i64 0]))))))
theorem e39_eq (a0 : List UInt8) (a1 : Int) : enterK qk false fa39 [V.str a0, V.int .i64 a1] [] = e39 a0 a1 := by kernel_rfl
theorem e39_run (a0 : List UInt8) (a1 : Int) {o : Out} {v : V} (h : e39 a0 a1 = some o) (hg : Go qk false 0 fa39 o (.done v)) : pcW qcfg 39 [V.str a0, V.int .i64 a1] = some v := pcW_go qik rfl fa39_eq ((e39_eq a0 a1).trans h) hg
theorem e39_done (a0 : List UInt8) (a1 : Int) {v : V} (h : e39 a0 a1 = some (.done v)) : pcW qcfg 39 [V.str a0, V.int .i64 a1] = some v := e39_run a0 a1 h (.refl _)
/-! ### budwood/budwoodref01.Pad -/
noncomputable def fa33 : FA := ⟨2, 23, [.tmp 4, .tmp 5], [9, 27],
 (.seq
 (.ops false [o1 4 (.assign (.const (.string ⟨⟨[]⟩⟩))) 9, o1 5 (.assign (.const (.int .i64 (0)))) 27])
 (.seq
 (.seq
 (.ops false [mv 6 1 3, o1 7 (.binOp .lss 3 (t' 6) (.const (.int .i64 (0))) 3) 4, mv 8 7 4, o2 9 (.move (t' 1)) 3 8 false, o2 10 (.binOp .gtr 3 (t' 9) (.const (.int .i64 (65536))) 3) 4 8 false, o1 11 (.pick (t' 8) (.const (.bool true)) (t' 10)) 4])
 (.cond (t' 11)
 (.seq
 (.ops false [o1 4 (.assign (.const (.string ⟨⟨[]⟩⟩))) 9, o1 5 (.assign (.const (.int .i64 (1)))) 27])
 (.ret))
 (.skip)))
 (.seq
 (.seq
 (.ops false [mv 12 0 9, o1 13 (.call ⟨(.builtin .len), #[(t' 12)], #[9]⟩) 3, mv 14 1 3, o1 15 (.binOp .gtr 3 (t' 13) (t' 14) 3) 4])
 (.cond (t' 15)
 (.seq
 (.ops false [o1 4 (.assign (.const (.string ⟨⟨[]⟩⟩))) 9, o1 5 (.assign (.const (.int .i64 (2)))) 27])
 (.ret))
 (.skip)))
 (.seq
 (.ops false [mv 16 0 9, mv 17 1 3, mv 18 0 9, o1 19 (.call ⟨(.builtin .len), #[(t' 18)], #[9]⟩) 3, o1 20 (.binOp .sub 3 (t' 17) (t' 19) 3) 3, o1 21 (.call ⟨(.value (.func 62)), #[(.const (.int .u64 (0))), (t' 20)], #[83, 3]⟩) 9, o1 22 (.binOp .add 9 (t' 16) (t' 21) 9) 9, asg 4 22 9, o1 5 (.assign (.const (.int .i64 (0)))) 27])
 (.ret)))))⟩
theorem fa33_eq : fnA qcfg.P (qcfg.rxf 33) 33 = some fa33 := by kernel_rfl
noncomputable def e33 (a0 : List UInt8) (a1 : Int) : R :=
  cond (decide (a1 < 0))
 (some (.done (V.tup [V.str [], V.int .i64 1])))
 (cond (decide (a1 > 65536))
 (some (.done (V.tup [V.str [], V.int .i64 1])))
 (cond (decide ((a0.length : Int) > a1))
 (some (.done (V.tup [V.str [], V.int .i64 2])))
 (pcK qcfg 62 [V.int .u64 0, V.int .i64 (W .i64 (a1 - (a0.length : Int)))] fun r =>
  kS r fun r62 =>
  gd (decide (a0.length + r62.length ≤ 4611686018427387904)) <|
  some (.done (V.tup [V.str (a0 ++ r62), V.int .i64 0])))))
theorem e33_eq (a0 : List UInt8) (a1 : Int) : enterK qk false fa33 [V.str a0, V.int .i64 a1] [] = e33 a0 a1 := by kernel_rfl
theorem e33_run (a0 : List UInt8) (a1 : Int) {o : Out} {v : V} (h : e33 a0 a1 = some o) (hg : Go qk false 0 fa33 o (.done v)) : pcW qcfg 33 [V.str a0, V.int .i64 a1] = some v := pcW_go qik rfl fa33_eq ((e33_eq a0 a1).trans h) hg
theorem e33_done (a0 : List UInt8) (a1 : Int) {v : V} (h : e33 a0 a1 = some (.done v)) : pcW qcfg 33 [V.str a0, V.int .i64 a1] = some v := e33_run a0 a1 h (.refl _)
/-! ### budwood/budwoodref02.Same -/
noncomputable def fa53 : FA := ⟨2, 26, [.tmp 4], [4],
 (.seq
 (.ops false [o1 4 (.assign (.const (.bool false))) 4])
 (.seq
 (.seq
 (.ops false [mv 6 0 22, o1 7 (.call ⟨(.builtin .len), #[(t' 6)], #[22]⟩) 3, mv 8 1 22, o1 9 (.call ⟨(.builtin .len), #[(t' 8)], #[22]⟩) 3, o1 10 (.binOp .neq 3 (t' 7) (t' 9) 3) 4])
 (.cond (t' 10)
 (.seq
 (.ops false [o1 4 (.assign (.const (.bool false))) 4])
 (.ret))
 (.skip)))
 (.seq
 (.seq
 (.ops false [o1 5 (.assign (.const (.int .i64 (0)))) 3])
 (.block 0
 (.loop ([2, 3] ++ List.range' 6 20)
 (.seq
 (.seq
 (.ops false [mv 11 5 3, mv 12 0 22, o1 13 (.call ⟨(.builtin .len), #[(t' 12)], #[22]⟩) 3, o1 14 (.binOp .lss 3 (t' 11) (t' 13) 3) 4])
 (.cond (t' 14)
 (.skip)
 (.exit 0)))
 (.seq
 (.block 1
 (.seq
 (.ops true [mv 17 0 22, mv 18 5 3, o1 19 (.indexAddr 22 (t' 17) (t' 18)) 0, o1 20 (.load 9 (t' 19)) 9, mv 21 1 22, mv 22 5 3, o1 23 (.indexAddr 22 (t' 21) (t' 22)) 0, o1 24 (.load 9 (t' 23)) 9, o1 25 (.binOp .neq 9 (t' 20) (t' 24) 9) 4])
 (.cond (t' 25)
 (.seq
 (.ops false [o1 4 (.assign (.const (.bool false))) 4])
 (.ret))
 (.skip))))
 (.ops false [mv 15 5 3, o1 16 (.binOp .add 3 (t' 15) (.const (.int .i64 (1))) 3) 3, asg 5 16 3]))))))
 (.seq
 (.ops false [o1 4 (.assign (.const (.bool true))) 4])
 (.ret)))))⟩
theorem fa53_eq : fnA qcfg.P (qcfg.rxf 53) 53 = some fa53 := by kernel_rfl
def T53_0 (x0 : List V) (x1 : List V) (x5 : Int) : S := ⟨[V.sl x0, V.sl x1, V.junk, V.junk, V.bool false, V.int .i64 x5] ++ (JU 20), []⟩
noncomputable def e53 (a0 : List V) (a1 : List V) : R :=
  cond ((a0.length : Int) != (a1.length : Int))
 (some (.done (V.bool false)))
 (some (.head 0 (T53_0 a0 a1 0)))
theorem e53_eq (a0 : List V) (a1 : List V) : enterK qk false fa53 [V.sl a0, V.sl a1] [] = e53 a0 a1 := by kernel_rfl
theorem e53_run (a0 : List V) (a1 : List V) {o : Out} {v : V} (h : e53 a0 a1 = some o) (hg : Go qk false 0 fa53 o (.done v)) : pcW qcfg 53 [V.sl a0, V.sl a1] = some v := pcW_go qik rfl fa53_eq ((e53_eq a0 a1).trans h) hg
noncomputable def s53_0 (x0 : List V) (x1 : List V) (x5 : Int) : R :=
  cond (decide (x5 < (x0.length : Int)))
 (gd (decide (0 ≤ x5)) <|
  idxK x0 x5.toNat fun v =>
  kS v fun s =>
  gd (decide (0 ≤ x5)) <|
  idxK x1 x5.toNat fun v_1 =>
  kS v_1 fun s_1 =>
  cond (!(s == s_1))
 (some (.done (V.bool false)))
 (some (.head 0 (T53_0 x0 x1 (W .i64 (x5 + 1))))))
 (some (.done (V.bool true)))
theorem s53_0_eq (x0 : List V) (x1 : List V) (x5 : Int) : goK qk false 0 fa53 0 (T53_0 x0 x1 x5) = s53_0 x0 x1 x5 := by kernel_rfl
theorem s53_0_run (x0 : List V) (x1 : List V) (x5 : Int) {o o' : Out} (h : s53_0 x0 x1 x5 = some o) (hg : Go qk false 0 fa53 o o') : Go qk false 0 fa53 (.head 0 (T53_0 x0 x1 x5)) o' := .step ((s53_0_eq x0 x1 x5).trans h) hg
/-! ### budwood/budwoodref02.Ints -/
noncomputable def fa54 : FA := ⟨2, 26, [.tmp 4], [4],
 (.seq
 (.ops false [o1 4 (.assign (.const (.bool false))) 4])
 (.seq
 (.seq
 (.ops false [mv 6 0 23, o1 7 (.call ⟨(.builtin .len), #[(t' 6)], #[23]⟩) 3, mv 8 1 23, o1 9 (.call ⟨(.builtin .len), #[(t' 8)], #[23]⟩) 3, o1 10 (.binOp .neq 3 (t' 7) (t' 9) 3) 4])
 (.cond (t' 10)
 (.seq
 (.ops false [o1 4 (.assign (.const (.bool false))) 4])
 (.ret))
 (.skip)))
 (.seq
 (.seq
 (.ops false [o1 5 (.assign (.const (.int .i64 (0)))) 3])
 (.block 0
 (.loop ([2, 3] ++ List.range' 6 20)
 (.seq
 (.seq
 (.ops false [mv 11 5 3, mv 12 0 23, o1 13 (.call ⟨(.builtin .len), #[(t' 12)], #[23]⟩) 3, o1 14 (.binOp .lss 3 (t' 11) (t' 13) 3) 4])
 (.cond (t' 14)
 (.skip)
 (.exit 0)))
 (.seq
 (.block 1
 (.seq
 (.ops true [mv 17 0 23, mv 18 5 3, o1 19 (.indexAddr 23 (t' 17) (t' 18)) 0, o1 20 (.load 3 (t' 19)) 3, mv 21 1 23, mv 22 5 3, o1 23 (.indexAddr 23 (t' 21) (t' 22)) 0, o1 24 (.load 3 (t' 23)) 3, o1 25 (.binOp .neq 3 (t' 20) (t' 24) 3) 4])
 (.cond (t' 25)
 (.seq
 (.ops false [o1 4 (.assign (.const (.bool false))) 4])
 (.ret))
 (.skip))))
 (.ops false [mv 15 5 3, o1 16 (.binOp .add 3 (t' 15) (.const (.int .i64 (1))) 3) 3, asg 5 16 3]))))))
 (.seq
 (.ops false [o1 4 (.assign (.const (.bool true))) 4])
 (.ret)))))⟩
theorem fa54_eq : fnA qcfg.P (qcfg.rxf 54) 54 = some fa54 := by kernel_rfl
def T54_0 (x0 : List V) (x1 : List V) (x5 : Int) : S := ⟨[V.sl x0, V.sl x1, V.junk, V.junk, V.bool false, V.int .i64 x5] ++ (JU 20), []⟩
noncomputable def e54 (a0 : List V) (a1 : List V) : R :=
  cond ((a0.length : Int) != (a1.length : Int))
 (some (.done (V.bool false)))
 (some (.head 0 (T54_0 a0 a1 0)))
theorem e54_eq (a0 : List V) (a1 : List V) : enterK qk false fa54 [V.sl a0, V.sl a1] [] = e54 a0 a1 := by kernel_rfl
theorem e54_run (a0 : List V) (a1 : List V) {o : Out} {v : V} (h : e54 a0 a1 = some o) (hg : Go qk false 0 fa54 o (.done v)) : pcW qcfg 54 [V.sl a0, V.sl a1] = some v := pcW_go qik rfl fa54_eq ((e54_eq a0 a1).trans h) hg
noncomputable def s54_0 (x0 : List V) (x1 : List V) (x5 : Int) : R :=
  cond (decide (x5 < (x0.length : Int)))
 (gd (decide (0 ≤ x5)) <|
  idxK x0 x5.toNat fun v =>
  kI .i64 v fun n =>
  gd (decide (0 ≤ x5)) <|
  idxK x1 x5.toNat fun v_1 =>
  kI .i64 v_1 fun n_1 =>
  cond (n != n_1)
 (some (.done (V.bool false)))
 (some (.head 0 (T54_0 x0 x1 (W .i64 (x5 + 1))))))
 (some (.done (V.bool true)))
theorem s54_0_eq (x0 : List V) (x1 : List V) (x5 : Int) : goK qk false 0 fa54 0 (T54_0 x0 x1 x5) = s54_0 x0 x1 x5 := by kernel_rfl
theorem s54_0_run (x0 : List V) (x1 : List V) (x5 : Int) {o o' : Out} (h : s54_0 x0 x1 x5 = some o) (hg : Go qk false 0 fa54 o o') : Go qk false 0 fa54 (.head 0 (T54_0 x0 x1 x5)) o' := .step ((s54_0_eq x0 x1 x5).trans h) hg
/-! ### budwood/budwoodref05.Less -/
noncomputable def fa34 : FA := ⟨2, 37, [.tmp 4], [4],
 (.seq
 (.ops false [o1 4 (.assign (.const (.bool false))) 4])
 (.seq
 (.seq
 (.ops false [o1 5 (.assign (.const (.int .i64 (0)))) 3])
 (.block 0
 (.loop ([2, 3] ++ List.range' 6 31)
 (.seq
 (.seq
 (.ops false [mv 6 5 3, mv 7 0 9, o1 8 (.call ⟨(.builtin .len), #[(t' 7)], #[9]⟩) 3, o1 9 (.binOp .lss 3 (t' 6) (t' 8) 3) 4, mv 10 9 4, o2 11 (.move (t' 5)) 3 10 true, o2 12 (.move (t' 1)) 9 10 true, o2 13 (.call ⟨(.builtin .len), #[(t' 12)], #[9]⟩) 3 10 true, o2 14 (.binOp .lss 3 (t' 11) (t' 13) 3) 4 10 true, o1 15 (.pick (t' 10) (t' 14) (.const (.bool false))) 4])
 (.cond (t' 15)
 (.skip)
 (.exit 0)))
 (.seq
 (.block 1
 (.seq
 (.ops true [mv 18 0 9, mv 19 5 3, o1 20 (.index 9 (t' 18) (t' 19)) 5, mv 21 1 9, mv 22 5 3, o1 23 (.index 9 (t' 21) (t' 22)) 5, o1 24 (.binOp .neq 5 (t' 20) (t' 23) 5) 4])
 (.cond (t' 24)
 (.seq
 (.ops true [mv 25 0 9, mv 26 5 3, o1 27 (.index 9 (t' 25) (t' 26)) 5, mv 28 1 9, mv 29 5 3, o1 30 (.index 9 (t' 28) (t' 29)) 5, o1 31 (.binOp .lss 5 (t' 27) (t' 30) 5) 4, asg 4 31 4])
 (.ret))
 (.skip))))
 (.ops false [mv 16 5 3, o1 17 (.binOp .add 3 (t' 16) (.const (.int .i64 (1))) 3) 3, asg 5 17 3]))))))
 (.seq
 (.ops false [mv 32 0 9, o1 33 (.call ⟨(.builtin .len), #[(t' 32)], #[9]⟩) 3, mv 34 1 9, o1 35 (.call ⟨(.builtin .len), #[(t' 34)], #[9]⟩) 3, o1 36 (.binOp .lss 3 (t' 33) (t' 35) 3) 4, asg 4 36 4])
 (.ret))))⟩
theorem fa34_eq : fnA qcfg.P (qcfg.rxf 34) 34 = some fa34 := by kernel_rfl
def T34_0 (x0 : List UInt8) (x1 : List UInt8) (x5 : Int) : S := ⟨[V.str x0, V.str x1, V.junk, V.junk, V.bool false, V.int .i64 x5] ++ (JU 31), []⟩
noncomputable def e34 (a0 : List UInt8) (a1 : List UInt8) : R :=
  some (.head 0 (T34_0 a0 a1 0))
theorem e34_eq (a0 : List UInt8) (a1 : List UInt8) : enterK qk false fa34 [V.str a0, V.str a1] [] = e34 a0 a1 := by kernel_rfl
theorem e34_run (a0 : List UInt8) (a1 : List UInt8) {o : Out} {v : V} (h : e34 a0 a1 = some o) (hg : Go qk false 0 fa34 o (.done v)) : pcW qcfg 34 [V.str a0, V.str a1] = some v := pcW_go qik rfl fa34_eq ((e34_eq a0 a1).trans h) hg
noncomputable def s34_0 (x0 : List UInt8) (x1 : List UInt8) (x5 : Int) : R :=
  cond (decide (x5 < (x0.length : Int)))
 (cond (decide (x5 < (x1.length : Int)))
 (gd (decide (0 ≤ x5)) <|
  idxK x0 x5.toNat fun c =>
  gd (decide (0 ≤ x5)) <|
  idxK x1 x5.toNat fun c_1 =>
  cond ((c.toNat : Int) != (c_1.toNat : Int))
 (gd (decide (0 ≤ x5)) <|
  idxK x0 x5.toNat fun c_2 =>
  gd (decide (0 ≤ x5)) <|
  idxK x1 x5.toNat fun c_3 =>
  some (.done (V.bool (decide ((c_2.toNat : Int) < (c_3.toNat : Int))))))
 (some (.head 0 (T34_0 x0 x1 (W .i64 (x5 + 1))))))
 (some (.done (V.bool (decide ((x0.length : Int) < (x1.length : Int)))))))
 (some (.done (V.bool (decide ((x0.length : Int) < (x1.length : Int))))))
theorem s34_0_eq (x0 : List UInt8) (x1 : List UInt8) (x5 : Int) : goK qk false 0 fa34 0 (T34_0 x0 x1 x5) = s34_0 x0 x1 x5 := by kernel_rfl
theorem s34_0_run (x0 : List UInt8) (x1 : List UInt8) (x5 : Int) {o o' : Out} (h : s34_0 x0 x1 x5 = some o) (hg : Go qk false 0 fa34 o o') : Go qk false 0 fa34 (.head 0 (T34_0 x0 x1 x5)) o' := .step ((s34_0_eq x0 x1 x5).trans h) hg
/-! ### budwood/budwoodref05.Key -/
noncomputable def fa45 : FA := ⟨1, 11, [.tmp 2], [4],
 (.seq
 (.ops false [o1 2 (.assign (.const (.bool false))) 4])
 (.seq
 (.ops false [mv 3 0 9, o1 4 (.call ⟨(.builtin .len), #[(t' 3)], #[9]⟩) 3, o1 5 (.binOp .geq 3 (t' 4) (.const (.int .i64 (1))) 3) 4, mv 6 5 4, o2 7 (.move (t' 0)) 9 6 true, o2 8 (.call ⟨(.builtin .len), #[(t' 7)], #[9]⟩) 3 6 true, o2 9 (.binOp .leq 3 (t' 8) (.const (.int .i64 (16))) 3) 4 6 true, o1 10 (.pick (t' 6) (t' 9) (.const (.bool false))) 4, asg 2 10 4])
 (.ret)))⟩
theorem fa45_eq : fnA qcfg.P (qcfg.rxf 45) 45 = some fa45 := by kernel_rfl
noncomputable def e45 (a0 : List UInt8) : R :=
  cond (decide ((a0.length : Int) ≥ 1))
 (some (.done (V.bool (decide ((a0.length : Int) ≤ 16)))))
 (some (.done (V.bool false)))
theorem e45_eq (a0 : List UInt8) : enterK qk false fa45 [V.str a0] [] = e45 a0 := by kernel_rfl
theorem e45_run (a0 : List UInt8) {o : Out} {v : V} (h : e45 a0 = some o) (hg : Go qk false 0 fa45 o (.done v)) : pcW qcfg 45 [V.str a0] = some v := pcW_go qik rfl fa45_eq ((e45_eq a0).trans h) hg
theorem e45_done (a0 : List UInt8) {v : V} (h : e45 a0 = some (.done v)) : pcW qcfg 45 [V.str a0] = some v := e45_run a0 h (.refl _)
/-! ### budwood/rec.Key -/
noncomputable def fa42 : FA := ⟨1, 10, [.tmp 2], [4],
 (.seq
 (.ops false [o1 2 (.assign (.const (.bool false))) 4])
 (.seq
 (.ops false [mv 3 0 9, o1 4 (.binOp .neq 9 (t' 3) (.const (.string ⟨⟨[]⟩⟩)) 9) 4, mv 5 4 4, o2 6 (.move (t' 0)) 9 5 true, o2 7 (.call ⟨(.builtin .len), #[(t' 6)], #[9]⟩) 3 5 true, o2 8 (.binOp .leq 3 (t' 7) (.const (.int .i64 (16))) 3) 4 5 true, o1 9 (.pick (t' 5) (t' 8) (.const (.bool false))) 4, asg 2 9 4])
 (.ret)))⟩
theorem fa42_eq : fnA qcfg.P (qcfg.rxf 42) 42 = some fa42 := by kernel_rfl
noncomputable def e42 (a0 : List UInt8) : R :=
  cond (!(a0 == []))
 (some (.done (V.bool (decide ((a0.length : Int) ≤ 16)))))
 (some (.done (V.bool false)))
theorem e42_eq (a0 : List UInt8) : enterK qk false fa42 [V.str a0] [] = e42 a0 := by kernel_rfl
theorem e42_run (a0 : List UInt8) {o : Out} {v : V} (h : e42 a0 = some o) (hg : Go qk false 0 fa42 o (.done v)) : pcW qcfg 42 [V.str a0] = some v := pcW_go qik rfl fa42_eq ((e42_eq a0).trans h) hg
theorem e42_done (a0 : List UInt8) {v : V} (h : e42 a0 = some (.done v)) : pcW qcfg 42 [V.str a0] = some v := e42_run a0 h (.refl _)
/-! ### slices.Equal(()string,string) -/
noncomputable def fa51 : FA := ⟨2, 26, [.tmp 4], [4],
 (.seq
 (.ops false [o1 4 (.assign (.const (.bool false))) 4])
 (.seq
 (.seq
 (.ops false [mv 6 0 22, o1 7 (.call ⟨(.builtin .len), #[(t' 6)], #[22]⟩) 3, mv 8 1 22, o1 9 (.call ⟨(.builtin .len), #[(t' 8)], #[22]⟩) 3, o1 10 (.binOp .neq 3 (t' 7) (t' 9) 3) 4])
 (.cond (t' 10)
 (.seq
 (.ops false [o1 4 (.assign (.const (.bool false))) 4])
 (.ret))
 (.skip)))
 (.seq
 (.seq
 (.ops false [mv 11 0 22, o1 12 (.call ⟨(.builtin .len), #[(t' 11)], #[22]⟩) 3, o1 13 (.move (.const (.int .i64 (0)))) 3])
 (.block 0
 (.loop ([2, 3] ++ List.range' 5 7 ++ List.range' 14 12)
 (.seq
 (.ops false [o1 14 (.binOp .lss 3 (t' 13) (t' 12) 3) 0])
 (.seq
 (.cond (t' 14)
 (.skip)
 (.exit 0))
 (.seq
 (.block 1
 (.seq
 (.ops false [mv 15 13 3, asg 5 15 3])
 (.seq
 (.ops true [mv 16 0 22, mv 17 5 3, o1 18 (.indexAddr 22 (t' 16) (t' 17)) 0, o1 19 (.load 9 (t' 18)) 9, mv 20 1 22, mv 21 5 3, o1 22 (.indexAddr 22 (t' 20) (t' 21)) 0, o1 23 (.load 9 (t' 22)) 9, o1 24 (.binOp .neq 9 (t' 19) (t' 23) 9) 4])
 (.cond (t' 24)
 (.seq
 (.ops false [o1 4 (.assign (.const (.bool false))) 4])
 (.ret))
 (.skip)))))
 (.ops false [o1 25 (.binOp .add 3 (t' 13) (.const (.int .i64 (1))) 3) 3, mv 13 25 3])))))))
 (.seq
 (.ops false [o1 4 (.assign (.const (.bool true))) 4])
 (.ret)))))⟩
theorem fa51_eq : fnA qcfg.P (qcfg.rxf 51) 51 = some fa51 := by kernel_rfl
def T51_0 (x0 : List V) (x1 : List V) (x12 : Int) (x13 : Int) : S := ⟨[V.sl x0, V.sl x1, V.junk, V.junk, V.bool false] ++ (JU 7) ++ [V.int .i64 x12, V.int .i64 x13] ++ (JU 12), []⟩
noncomputable def e51 (a0 : List V) (a1 : List V) : R :=
  cond ((a0.length : Int) != (a1.length : Int))
 (some (.done (V.bool false)))
 (some (.head 0 (T51_0 a0 a1 (a0.length : Int) 0)))
theorem e51_eq (a0 : List V) (a1 : List V) : enterK qk false fa51 [V.sl a0, V.sl a1] [] = e51 a0 a1 := by kernel_rfl
theorem e51_run (a0 : List V) (a1 : List V) {o : Out} {v : V} (h : e51 a0 a1 = some o) (hg : Go qk false 0 fa51 o (.done v)) : pcW qcfg 51 [V.sl a0, V.sl a1] = some v := pcW_go qik rfl fa51_eq ((e51_eq a0 a1).trans h) hg
noncomputable def s51_0 (x0 : List V) (x1 : List V) (x12 : Int) (x13 : Int) : R :=
  cond (decide (x13 < x12))
 (gd (decide (0 ≤ x13)) <|
  idxK x0 x13.toNat fun v =>
  kS v fun s =>
  gd (decide (0 ≤ x13)) <|
  idxK x1 x13.toNat fun v_1 =>
  kS v_1 fun s_1 =>
  cond (!(s == s_1))
 (some (.done (V.bool false)))
 (some (.head 0 (T51_0 x0 x1 x12 (W .i64 (x13 + 1))))))
 (some (.done (V.bool true)))
theorem s51_0_eq (x0 : List V) (x1 : List V) (x12 : Int) (x13 : Int) : goK qk false 0 fa51 0 (T51_0 x0 x1 x12 x13) = s51_0 x0 x1 x12 x13 := by kernel_rfl
theorem s51_0_run (x0 : List V) (x1 : List V) (x12 : Int) (x13 : Int) {o o' : Out} (h : s51_0 x0 x1 x12 x13 = some o) (hg : Go qk false 0 fa51 o o') : Go qk false 0 fa51 (.head 0 (T51_0 x0 x1 x12 x13)) o' := .step ((s51_0_eq x0 x1 x12 x13).trans h) hg
/-! ### slices.Equal(()int,int) -/
noncomputable def fa52 : FA := ⟨2, 26, [.tmp 4], [4],
 (.seq
 (.ops false [o1 4 (.assign (.const (.bool false))) 4])
 (.seq
 (.seq
 (.ops false [mv 6 0 23, o1 7 (.call ⟨(.builtin .len), #[(t' 6)], #[23]⟩) 3, mv 8 1 23, o1 9 (.call ⟨(.builtin .len), #[(t' 8)], #[23]⟩) 3, o1 10 (.binOp .neq 3 (t' 7) (t' 9) 3) 4])
 (.cond (t' 10)
 (.seq
 (.ops false [o1 4 (.assign (.const (.bool false))) 4])
 (.ret))
 (.skip)))
 (.seq
 (.seq
 (.ops false [mv 11 0 23, o1 12 (.call ⟨(.builtin .len), #[(t' 11)], #[23]⟩) 3, o1 13 (.move (.const (.int .i64 (0)))) 3])
 (.block 0
 (.loop ([2, 3] ++ List.range' 5 7 ++ List.range' 14 12)
 (.seq
 (.ops false [o1 14 (.binOp .lss 3 (t' 13) (t' 12) 3) 0])
 (.seq
 (.cond (t' 14)
 (.skip)
 (.exit 0))
 (.seq
 (.block 1
 (.seq
 (.ops false [mv 15 13 3, asg 5 15 3])
 (.seq
 (.ops true [mv 16 0 23, mv 17 5 3, o1 18 (.indexAddr 23 (t' 16) (t' 17)) 0, o1 19 (.load 3 (t' 18)) 3, mv 20 1 23, mv 21 5 3, o1 22 (.indexAddr 23 (t' 20) (t' 21)) 0, o1 23 (.load 3 (t' 22)) 3, o1 24 (.binOp .neq 3 (t' 19) (t' 23) 3) 4])
 (.cond (t' 24)
 (.seq
 (.ops false [o1 4 (.assign (.const (.bool false))) 4])
 (.ret))
 (.skip)))))
 (.ops false [o1 25 (.binOp .add 3 (t' 13) (.const (.int .i64 (1))) 3) 3, mv 13 25 3])))))))
 (.seq
 (.ops false [o1 4 (.assign (.const (.bool true))) 4])
 (.ret)))))⟩
theorem fa52_eq : fnA qcfg.P (qcfg.rxf 52) 52 = some fa52 := by kernel_rfl
def T52_0 (x0 : List V) (x1 : List V) (x12 : Int) (x13 : Int) : S := ⟨[V.sl x0, V.sl x1, V.junk, V.junk, V.bool false] ++ (JU 7) ++ [V.int .i64 x12, V.int .i64 x13] ++ (JU 12), []⟩
noncomputable def e52 (a0 : List V) (a1 : List V) : R :=
  cond ((a0.length : Int) != (a1.length : Int))
 (some (.done (V.bool false)))
 (some (.head 0 (T52_0 a0 a1 (a0.length : Int) 0)))
theorem e52_eq (a0 : List V) (a1 : List V) : enterK qk false fa52 [V.sl a0, V.sl a1] [] = e52 a0 a1 := by kernel_rfl
theorem e52_run (a0 : List V) (a1 : List V) {o : Out} {v : V} (h : e52 a0 a1 = some o) (hg : Go qk false 0 fa52 o (.done v)) : pcW qcfg 52 [V.sl a0, V.sl a1] = some v := pcW_go qik rfl fa52_eq ((e52_eq a0 a1).trans h) hg
noncomputable def s52_0 (x0 : List V) (x1 : List V) (x12 : Int) (x13 : Int) : R :=
  cond (decide (x13 < x12))
 (gd (decide (0 ≤ x13)) <|
  idxK x0 x13.toNat fun v =>
  kI .i64 v fun n =>
  gd (decide (0 ≤ x13)) <|
  idxK x1 x13.toNat fun v_1 =>
  kI .i64 v_1 fun n_1 =>
  cond (n != n_1)
 (some (.done (V.bool false)))
 (some (.head 0 (T52_0 x0 x1 x12 (W .i64 (x13 + 1))))))
 (some (.done (V.bool true)))
theorem s52_0_eq (x0 : List V) (x1 : List V) (x12 : Int) (x13 : Int) : goK qk false 0 fa52 0 (T52_0 x0 x1 x12 x13) = s52_0 x0 x1 x12 x13 := by kernel_rfl
theorem s52_0_run (x0 : List V) (x1 : List V) (x12 : Int) (x13 : Int) {o o' : Out} (h : s52_0 x0 x1 x12 x13 = some o) (hg : Go qk false 0 fa52 o o') : Go qk false 0 fa52 (.head 0 (T52_0 x0 x1 x12 x13)) o' := .step ((s52_0_eq x0 x1 x12 x13).trans h) hg
/-! ### cmp.isNaN(string) -/
noncomputable def fa77 : FA := ⟨1, 6, [.tmp 2], [4],
 (.seq
 (.ops false [o1 2 (.assign (.const (.bool false))) 4])
 (.seq
 (.ops false [mv 3 0 9, mv 4 0 9, o1 5 (.binOp .neq 9 (t' 3) (t' 4) 9) 4, asg 2 5 4])
 (.ret)))⟩
theorem fa77_eq : fnA qcfg.P (qcfg.rxf 77) 77 = some fa77 := by kernel_rfl
noncomputable def e77 (a0 : List UInt8) : R :=
  some (.done (V.bool (!(a0 == a0))))
theorem e77_eq (a0 : List UInt8) : enterK qk false fa77 [V.str a0] [] = e77 a0 := by kernel_rfl
theorem e77_run (a0 : List UInt8) {o : Out} {v : V} (h : e77 a0 = some o) (hg : Go qk false 0 fa77 o (.done v)) : pcW qcfg 77 [V.str a0] = some v := pcW_go qik rfl fa77_eq ((e77_eq a0).trans h) hg
theorem e77_done (a0 : List UInt8) {v : V} (h : e77 a0 = some (.done v)) : pcW qcfg 77 [V.str a0] = some v := e77_run a0 h (.refl _)
/-! ### slices.isNaN(string) -/
noncomputable def fa71 : FA := ⟨1, 6, [.tmp 2], [4],
 (.seq
 (.ops false [o1 2 (.assign (.const (.bool false))) 4])
 (.seq
 (.ops false [mv 3 0 9, mv 4 0 9, o1 5 (.binOp .neq 9 (t' 3) (t' 4) 9) 4, asg 2 5 4])
 (.ret)))⟩
theorem fa71_eq : fnA qcfg.P (qcfg.rxf 71) 71 = some fa71 := by kernel_rfl
noncomputable def e71 (a0 : List UInt8) : R :=
  some (.done (V.bool (!(a0 == a0))))
theorem e71_eq (a0 : List UInt8) : enterK qk false fa71 [V.str a0] [] = e71 a0 := by kernel_rfl
theorem e71_run (a0 : List UInt8) {o : Out} {v : V} (h : e71 a0 = some o) (hg : Go qk false 0 fa71 o (.done v)) : pcW qcfg 71 [V.str a0] = some v := pcW_go qik rfl fa71_eq ((e71_eq a0).trans h) hg
theorem e71_done (a0 : List UInt8) {v : V} (h : e71 a0 = some (.done v)) : pcW qcfg 71 [V.str a0] = some v := e71_run a0 h (.refl _)
/-! ### cmp.Less(string) -/
noncomputable def fa70 : FA := ⟨2, 17, [.tmp 4], [4],
 (.seq
 (.ops false [o1 4 (.assign (.const (.bool false))) 4])
 (.seq
 (.ops false [mv 5 0 9, o1 6 (.call ⟨(.value (.func 77)), #[(t' 5)], #[9]⟩) 4, mv 7 6 4, o2 8 (.move (t' 1)) 9 7 true, o2 9 (.call ⟨(.value (.func 77)), #[(t' 8)], #[9]⟩) 4 7 true, o2 10 (.unOp .not 4 (t' 9)) 4 7 true, o1 11 (.pick (t' 7) (t' 10) (.const (.bool false))) 4, mv 12 11 4, o2 13 (.move (t' 0)) 9 12 false, o2 14 (.move (t' 1)) 9 12 false, o2 15 (.binOp .lss 9 (t' 13) (t' 14) 9) 4 12 false, o1 16 (.pick (t' 12) (.const (.bool true)) (t' 15)) 4, asg 4 16 4])
 (.ret)))⟩
theorem fa70_eq : fnA qcfg.P (qcfg.rxf 70) 70 = some fa70 := by kernel_rfl
noncomputable def e70 (a0 : List UInt8) (a1 : List UInt8) : R :=
  pcK qcfg 77 [V.str a0] fun r =>
  kB r fun r77 =>
  cond r77
 (pcK qcfg 77 [V.str a1] fun r_1 =>
  kB r_1 fun r77_1 =>
  cond (!r77_1)
 (some (.done (V.bool true)))
 (some (.done (V.bool (Op.bytesLess a0 a1)))))
 (some (.done (V.bool (Op.bytesLess a0 a1))))
theorem e70_eq (a0 : List UInt8) (a1 : List UInt8) : enterK qk false fa70 [V.str a0, V.str a1] [] = e70 a0 a1 := by kernel_rfl
theorem e70_run (a0 : List UInt8) (a1 : List UInt8) {o : Out} {v : V} (h : e70 a0 a1 = some o) (hg : Go qk false 0 fa70 o (.done v)) : pcW qcfg 70 [V.str a0, V.str a1] = some v := pcW_go qik rfl fa70_eq ((e70_eq a0 a1).trans h) hg
theorem e70_done (a0 : List UInt8) (a1 : List UInt8) {v : V} (h : e70 a0 a1 = some (.done v)) : pcW qcfg 70 [V.str a0, V.str a1] = some v := e70_run a0 a1 h (.refl _)
/-! ### slices.BinarySearch(()string,string) -/
noncomputable def fa55 : FA := ⟨2, 54, [.tmp 4, .tmp 5], [3, 4],
 (.seq
 (.ops false [o1 4 (.assign (.const (.int .i64 (0)))) 3, o1 5 (.assign (.const (.bool false))) 4])
 (.seq
 (.ops false [mv 10 0 22, o1 11 (.call ⟨(.builtin .len), #[(t' 10)], #[22]⟩) 3, asg 6 11 3])
 (.seq
 (.ops false [mv 12 6 3, o1 7 (.assign (.const (.int .i64 (0)))) 3, asg 8 12 3])
 (.seq
 (.block 0
 (.loop ([2, 3] ++ List.range' 9 45)
 (.seq
 (.seq
 (.ops false [mv 13 7 3, mv 14 8 3, o1 15 (.binOp .lss 3 (t' 13) (t' 14) 3) 4])
 (.cond (t' 15)
 (.skip)
 (.exit 0)))
 (.block 1
 (.seq
 (.ops false [mv 16 7 3, mv 17 8 3, o1 18 (.binOp .add 3 (t' 16) (t' 17) 3) 3, o1 19 (.convert 3 103 (t' 18)) 103, o1 20 (.binOp .shr 103 (t' 19) (.const (.int .u64 (1))) 103) 103, o1 21 (.convert 103 3 (t' 20)) 3, asg 9 21 3])
 (.seq
 (.ops false [mv 22 0 22, mv 23 9 3, o1 24 (.indexAddr 22 (t' 22) (t' 23)) 0, o1 25 (.load 9 (t' 24)) 9, mv 26 1 9, o1 27 (.call ⟨(.value (.func 70)), #[(t' 25), (t' 26)], #[9, 9]⟩) 4])
 (.cond (t' 27)
 (.ops false [mv 28 9 3, o1 29 (.binOp .add 3 (t' 28) (.const (.int .i64 (1))) 3) 3, asg 7 29 3])
 (.ops false [mv 30 9 3, asg 8 30 3]))))))))
 (.seq
 (.ops false [mv 31 7 3, mv 32 7 3, mv 33 6 3, o1 34 (.binOp .lss 3 (t' 32) (t' 33) 3) 4, mv 35 34 4, o2 36 (.move (t' 0)) 22 35 true, o2 37 (.move (t' 7)) 3 35 true, o2 38 (.indexAddr 22 (t' 36) (t' 37)) 0 35 true, o2 39 (.load 9 (t' 38)) 9 35 true, o2 40 (.move (t' 1)) 9 35 true, o2 41 (.binOp .eql 9 (t' 39) (t' 40) 9) 4 35 true, o2 42 (.move (t' 41)) 4 35 true, o2 43 (.move (t' 0)) 22 42 false, o2 44 (.move (t' 7)) 3 42 false, o2 45 (.indexAddr 22 (t' 43) (t' 44)) 0 42 false, o2 46 (.load 9 (t' 45)) 9 42 false, o2 47 (.call ⟨(.value (.func 71)), #[(t' 46)], #[9]⟩) 4 42 false, o2 48 (.move (t' 47)) 4 42 false, o2 49 (.move (t' 1)) 9 48 true, o2 50 (.call ⟨(.value (.func 71)), #[(t' 49)], #[9]⟩) 4 48 true, o2 51 (.pick (t' 48) (t' 50) (.const (.bool false))) 4 42 false, o2 52 (.pick (t' 42) (.const (.bool true)) (t' 51)) 4 35 true, o1 53 (.pick (t' 35) (t' 52) (.const (.bool false))) 4, asg 4 31 3, asg 5 53 4])
 (.ret))))))⟩
theorem fa55_eq : fnA qcfg.P (qcfg.rxf 55) 55 = some fa55 := by kernel_rfl
def T55_0 (x0 : List V) (x1 : List UInt8) (x6 : Int) (x7 : Int) (x8 : Int) : S := ⟨[V.sl x0, V.str x1, V.junk, V.junk, V.int .i64 0, V.bool false, V.int .i64 x6, V.int .i64 x7, V.int .i64 x8] ++ (JU 45), []⟩
noncomputable def e55 (a0 : List V) (a1 : List UInt8) : R :=
  some (.head 0 (T55_0 a0 a1 (a0.length : Int) 0 (a0.length : Int)))
theorem e55_eq (a0 : List V) (a1 : List UInt8) : enterK qk false fa55 [V.sl a0, V.str a1] [] = e55 a0 a1 := by kernel_rfl
theorem e55_run (a0 : List V) (a1 : List UInt8) {o : Out} {v : V} (h : e55 a0 a1 = some o) (hg : Go qk false 0 fa55 o (.done v)) : pcW qcfg 55 [V.sl a0, V.str a1] = some v := pcW_go qik rfl fa55_eq ((e55_eq a0 a1).trans h) hg
noncomputable def s55_0 (x0 : List V) (x1 : List UInt8) (x6 : Int) (x7 : Int) (x8 : Int) : R :=
  cond (decide (x7 < x8))
 (gd (decide (0 ≤ W .i64 ((W .u64 (W .i64 (x7 + x8))).fdiv (2 ^ (min 1 (IntKind.bits .u64)))))) <|
  idxK x0 ((W .i64 ((W .u64 (W .i64 (x7 + x8))).fdiv (2 ^ (min 1 (IntKind.bits .u64))))).toNat) fun v =>
  kS v fun s =>
  pcK qcfg 70 [V.str s, V.str x1] fun r =>
  kB r fun r70 =>
  cond r70
 (some (.head 0 (T55_0 x0 x1 x6 (W .i64 ((W .i64 ((W .u64 (W .i64 (x7 + x8))).fdiv (2 ^ (min 1 (IntKind.bits .u64))))) + 1)) x8)))
 (some (.head 0 (T55_0 x0 x1 x6 x7 (W .i64 ((W .u64 (W .i64 (x7 + x8))).fdiv (2 ^ (min 1 (IntKind.bits .u64)))))))))
 (cond (decide (x7 < x6))
 (gd (decide (0 ≤ x7)) <|
  idxK x0 x7.toNat fun v_1 =>
  kS v_1 fun s_1 =>
  cond (s_1 == x1)
 (some (.done (V.tup [V.int .i64 x7, V.bool true])))
 (gd (decide (0 ≤ x7)) <|
  idxK x0 x7.toNat fun v_2 =>
  kS v_2 fun s_2 =>
  pcK qcfg 71 [V.str s_2] fun r_1 =>
  kB r_1 fun r71 =>
  cond r71
 (pcK qcfg 71 [V.str x1] fun r_2 =>
  kB r_2 fun r71_1 =>
  some (.done (V.tup [V.int .i64 x7, V.bool r71_1])))
 (some (.done (V.tup [V.int .i64 x7, V.bool false])))))
 (some (.done (V.tup [V.int .i64 x7, V.bool false]))))
theorem s55_0_eq (x0 : List V) (x1 : List UInt8) (x6 : Int) (x7 : Int) (x8 : Int) : goK qk false 0 fa55 0 (T55_0 x0 x1 x6 x7 x8) = s55_0 x0 x1 x6 x7 x8 := by kernel_rfl
theorem s55_0_run (x0 : List V) (x1 : List UInt8) (x6 : Int) (x7 : Int) (x8 : Int) {o o' : Out} (h : s55_0 x0 x1 x6 x7 x8 = some o) (hg : Go qk false 0 fa55 o o') : Go qk false 0 fa55 (.head 0 (T55_0 x0 x1 x6 x7 x8)) o' := .step ((s55_0_eq x0 x1 x6 x7 x8).trans h) hg
/-! ### budwood/inner.page -/
noncomputable def fa40 : FA := ⟨1, 9, [.tmp 2], [4],
 (.seq
 (.ops false [o1 2 (.assign (.const (.bool false))) 4])
 (.seq
 (.ops false [mv 3 0 3, o1 4 (.binOp .geq 3 (t' 3) (.const (.int .i64 (0))) 3) 4, mv 5 4 4, o2 6 (.move (t' 0)) 3 5 true, o2 7 (.binOp .lss 3 (t' 6) (.const (.int .i64 (1024))) 3) 4 5 true, o1 8 (.pick (t' 5) (t' 7) (.const (.bool false))) 4, asg 2 8 4])
 (.ret)))⟩
theorem fa40_eq : fnA qcfg.P (qcfg.rxf 40) 40 = some fa40 := by kernel_rfl
noncomputable def e40 (a0 : Int) : R :=
  cond (decide (a0 ≥ 0))
 (some (.done (V.bool (decide (a0 < 1024)))))
 (some (.done (V.bool false)))
theorem e40_eq (a0 : Int) : enterK qk false fa40 [V.int .i64 a0] [] = e40 a0 := by kernel_rfl
theorem e40_run (a0 : Int) {o : Out} {v : V} (h : e40 a0 = some o) (hg : Go qk false 0 fa40 o (.done v)) : pcW qcfg 40 [V.int .i64 a0] = some v := pcW_go qik rfl fa40_eq ((e40_eq a0).trans h) hg
theorem e40_done (a0 : Int) {v : V} (h : e40 a0 = some (.done v)) : pcW qcfg 40 [V.int .i64 a0] = some v := e40_run a0 h (.refl _)
/-! ### budwood/inner.Size -/
noncomputable def fa16 : FA := ⟨1, 24, [.tmp 2], [3],
 (.seq
 (.ops false [o1 1 (.box 25 (t' 0)) 0, o1 2 (.assign (.const (.int .i64 (0)))) 3])
 (.seq
 (.ops false [o1 6 (.fieldAddr 25 (t' 1) 2) 0, o1 7 (.load 9 (t' 6)) 9, o1 8 (.call ⟨(.builtin .len), #[(t' 7)], #[9]⟩) 3, o1 9 (.binOp .add 3 (.const (.int .i64 (7))) (t' 8) 3) 3, asg 3 9 3])
 (.seq
 (.seq
 (.ops false [o1 10 (.fieldAddr 25 (t' 1) 0) 0, o1 11 (.load 22 (t' 10)) 22, o1 12 (.call ⟨(.builtin .len), #[(t' 11)], #[22]⟩) 3, o1 13 (.move (.const (.int .i64 (0)))) 3])
 (.block 0
 (.loop ([0, 1] ++ List.range' 4 7 ++ List.range' 14 10)
 (.seq
 (.ops false [o1 14 (.binOp .lss 3 (t' 13) (t' 12) 3) 0])
 (.seq
 (.cond (t' 14)
 (.skip)
 (.exit 0))
 (.seq
 (.block 1
 (.seq
 (.ops false [o1 15 (.indexAddr 22 (t' 11) (t' 13)) 0, o1 16 (.load 9 (t' 15)) 9, asg 5 16 9])
 (.ops false [mv 17 3 3, mv 18 5 9, o1 19 (.call ⟨(.builtin .len), #[(t' 18)], #[9]⟩) 3, o1 20 (.binOp .add 3 (.const (.int .i64 (3))) (t' 19) 3) 3, o1 21 (.binOp .add 3 (t' 17) (t' 20) 3) 3, asg 3 21 3])))
 (.ops false [o1 22 (.binOp .add 3 (t' 13) (.const (.int .i64 (1))) 3) 3, mv 13 22 3])))))))
 (.seq
 (.ops false [mv 23 3 3, asg 2 23 3])
 (.ret)))))⟩
theorem fa16_eq : fnA qcfg.P (qcfg.rxf 16) 16 = some fa16 := by kernel_rfl
def T16_0 (x3 : Int) (x11 : List V) (x12 : Int) (x13 : Int) : S := ⟨[V.junk, V.junk, V.int .i64 0, V.int .i64 x3] ++ (JU 7) ++ [V.sl x11, V.int .i64 x12, V.int .i64 x13] ++ (JU 10), []⟩
noncomputable def e16 (a0Seps : List V) (a0Kids : List V) (a0High : List UInt8) (a0Next : Int) : R :=
  some (.head 0 (T16_0 (W .i64 (7 + (a0High.length : Int))) a0Seps (a0Seps.length : Int) 0))
theorem e16_eq (a0Seps : List V) (a0Kids : List V) (a0High : List UInt8) (a0Next : Int) : enterK qk false fa16 [V.agg [V.sl a0Seps, V.sl a0Kids, V.str a0High, V.int .i64 a0Next]] [] = e16 a0Seps a0Kids a0High a0Next := by kernel_rfl
theorem e16_run (a0Seps : List V) (a0Kids : List V) (a0High : List UInt8) (a0Next : Int) {o : Out} {v : V} (h : e16 a0Seps a0Kids a0High a0Next = some o) (hg : Go qk false 0 fa16 o (.done v)) : pcW qcfg 16 [V.agg [V.sl a0Seps, V.sl a0Kids, V.str a0High, V.int .i64 a0Next]] = some v := pcW_go qik rfl fa16_eq ((e16_eq a0Seps a0Kids a0High a0Next).trans h) hg
noncomputable def s16_0 (x3 : Int) (x11 : List V) (x12 : Int) (x13 : Int) : R :=
  cond (decide (x13 < x12))
 (gd (decide (0 ≤ x13)) <|
  idxK x11 x13.toNat fun v =>
  kS v fun s =>
  some (.head 0 (T16_0 (W .i64 (x3 + (W .i64 (3 + (s.length : Int))))) x11 x12 (W .i64 (x13 + 1)))))
 (some (.done (V.int .i64 x3)))
theorem s16_0_eq (x3 : Int) (x11 : List V) (x12 : Int) (x13 : Int) : goK qk false 0 fa16 0 (T16_0 x3 x11 x12 x13) = s16_0 x3 x11 x12 x13 := by kernel_rfl
theorem s16_0_run (x3 : Int) (x11 : List V) (x12 : Int) (x13 : Int) {o o' : Out} (h : s16_0 x3 x11 x12 x13 = some o) (hg : Go qk false 0 fa16 o o') : Go qk false 0 fa16 (.head 0 (T16_0 x3 x11 x12 x13)) o' := .step ((s16_0_eq x3 x11 x12 x13).trans h) hg
/-! ### budwood/inner.fits -/
noncomputable def fa43 : FA := ⟨1, 11, [.tmp 2], [4],
 (.seq
 (.ops false [o1 1 (.box 25 (t' 0)) 0, o1 2 (.assign (.const (.bool false))) 4])
 (.seq
 (.ops true [o1 3 (.load 25 (t' 1)) 25, o1 4 (.call ⟨(.value (.func 16)), #[(t' 3)], #[25]⟩) 3, o1 5 (.fieldAddr 25 (t' 1) 2) 0, o1 6 (.load 9 (t' 5)) 9, o1 7 (.call ⟨(.builtin .len), #[(t' 6)], #[9]⟩) 3, o1 8 (.binOp .sub 3 (t' 4) (t' 7) 3) 3, o1 9 (.binOp .add 3 (t' 8) (.const (.int .i64 (16))) 3) 3, o1 10 (.binOp .leq 3 (t' 9) (.const (.int .i64 (252))) 3) 4, asg 2 10 4])
 (.ret)))⟩
theorem fa43_eq : fnA qcfg.P (qcfg.rxf 43) 43 = some fa43 := by kernel_rfl
noncomputable def e43 (a0Seps : List V) (a0Kids : List V) (a0High : List UInt8) (a0Next : Int) : R :=
  pcK qcfg 16 [V.agg [V.sl a0Seps, V.sl a0Kids, V.str a0High, V.int .i64 a0Next]] fun r =>
  kI .i64 r fun r16 =>
  some (.done (V.bool (decide (W .i64 ((W .i64 (r16 - (a0High.length : Int))) + 16) ≤ 252))))
theorem e43_eq (a0Seps : List V) (a0Kids : List V) (a0High : List UInt8) (a0Next : Int) : enterK qk false fa43 [V.agg [V.sl a0Seps, V.sl a0Kids, V.str a0High, V.int .i64 a0Next]] [] = e43 a0Seps a0Kids a0High a0Next := by kernel_rfl
theorem e43_run (a0Seps : List V) (a0Kids : List V) (a0High : List UInt8) (a0Next : Int) {o : Out} {v : V} (h : e43 a0Seps a0Kids a0High a0Next = some o) (hg : Go qk false 0 fa43 o (.done v)) : pcW qcfg 43 [V.agg [V.sl a0Seps, V.sl a0Kids, V.str a0High, V.int .i64 a0Next]] = some v := pcW_go qik rfl fa43_eq ((e43_eq a0Seps a0Kids a0High a0Next).trans h) hg
theorem e43_done (a0Seps : List V) (a0Kids : List V) (a0High : List UInt8) (a0Next : Int) {v : V} (h : e43 a0Seps a0Kids a0High a0Next = some (.done v)) : pcW qcfg 43 [V.agg [V.sl a0Seps, V.sl a0Kids, V.str a0High, V.int .i64 a0Next]] = some v := e43_run a0Seps a0Kids a0High a0Next h (.refl _)
/-! ### budwood/inner.Right -/
noncomputable def fa13 : FA := ⟨1, 74, [.cell 2 4], [4],
 (.seq
 (.ops false [o1 1 (.box 25 (t' 0)) 0, o1 2 (.alloc 4) 0])
 (.seq
 (.seq
 (.ops false [o1 7 (.fieldAddr 25 (t' 1) 1) 0, o1 8 (.load 23 (t' 7)) 23, o1 9 (.call ⟨(.builtin .len), #[(t' 8)], #[23]⟩) 3, o1 10 (.fieldAddr 25 (t' 1) 0) 0, o1 11 (.load 22 (t' 10)) 22, o1 12 (.call ⟨(.builtin .len), #[(t' 11)], #[22]⟩) 3, o1 13 (.binOp .add 3 (t' 12) (.const (.int .i64 (1))) 3) 3, o1 14 (.binOp .neq 3 (t' 9) (t' 13) 3) 4, mv 15 14 4, o2 16 (.fieldAddr 25 (t' 1) 1) 0 15 false, o2 17 (.load 23 (t' 16)) 23 15 false, o2 18 (.indexAddr 23 (t' 17) (.const (.int .i64 (0)))) 0 15 false, o2 19 (.load 3 (t' 18)) 3 15 false, o2 20 (.call ⟨(.value (.func 40)), #[(t' 19)], #[3]⟩) 4 15 false, o2 21 (.unOp .not 4 (t' 20)) 4 15 false, o1 22 (.pick (t' 15) (.const (.bool true)) (t' 21)) 4])
 (.cond (t' 22)
 (.seq
 (.ops false [o0 (.store 4 (t' 2) (.const (.bool false))) 0])
 (.ret))
 (.skip)))
 (.seq
 (.ops false [o1 3 (.alloc 9) 0, o0 (.store 9 (t' 3) (.const (.string ⟨⟨[]⟩⟩))) 0])
 (.seq
 (.seq
 (.ops true [o1 23 (.fieldAddr 25 (t' 1) 0) 0, o1 24 (.load 22 (t' 23)) 22, o1 25 (.fieldAddr 25 (t' 1) 1) 0, o1 26 (.load 23 (t' 25)) 23, o1 27 (.slice 23 (t' 26) (some (.const (.int .i64 (1)))) none none) 23, ⟨(some 28), .call ⟨(.value (.func 41)), #[(t' 24), (t' 27)], #[22, 23]⟩, 78, none, false, true, false⟩])
 (.block 0
 (.seq
 (.start 28)
 (.block 1000028
 (.loop ([0] ++ List.range' 4 24 ++ List.range' 29 45)
 (.uncons 28 [29, 30] ([29, 30, 4, 5] ++ List.range' 31 14)
 (.seq
 (.seq
 (.ops false [asg 4 29 9])
 (.ops false [asg 5 30 3]))
 (.block 1
 (.seq
 (.seq
 (.ops false [mv 31 4 9, o1 32 (.call ⟨(.value (.func 42)), #[(t' 31)], #[9]⟩) 4, o1 33 (.unOp .not 4 (t' 32)) 4, mv 34 33 4, o2 35 (.move (t' 4)) 9 34 false, o2 36 (.load 9 (t' 3)) 9 34 false, o2 37 (.binOp .leq 9 (t' 35) (t' 36) 9) 4 34 false, o1 38 (.pick (t' 34) (.const (.bool true)) (t' 37)) 4, mv 39 38 4, o2 40 (.move (t' 5)) 3 39 false, o2 41 (.call ⟨(.value (.func 40)), #[(t' 40)], #[3]⟩) 4 39 false, o2 42 (.unOp .not 4 (t' 41)) 4 39 false, o1 43 (.pick (t' 39) (.const (.bool true)) (t' 42)) 4])
 (.cond (t' 43)
 (.seq
 (.ops false [o0 (.store 4 (t' 2) (.const (.bool false))) 0])
 (.ret))
 (.skip)))
 (.ops false [mv 44 4 9, o0 (.store 9 (t' 3) (t' 44)) 0]))))
 (.exit 1000028)))))))
 (.seq
 (.ops false [o1 45 (.fieldAddr 25 (t' 1) 2) 0, o1 46 (.load 9 (t' 45)) 9, o1 47 (.binOp .eql 9 (t' 46) (.const (.string ⟨⟨[]⟩⟩)) 9) 4, mv 48 47 4, o2 49 (.fieldAddr 25 (t' 1) 2) 0 48 false, o2 50 (.load 9 (t' 49)) 9 48 false, o2 51 (.call ⟨(.value (.func 42)), #[(t' 50)], #[9]⟩) 4 48 false, o2 52 (.move (t' 51)) 4 48 false, o2 53 (.load 9 (t' 3)) 9 52 true, o2 54 (.fieldAddr 25 (t' 1) 2) 0 52 true, o2 55 (.load 9 (t' 54)) 9 52 true, o2 56 (.binOp .lss 9 (t' 53) (t' 55) 9) 4 52 true, o2 57 (.pick (t' 52) (t' 56) (.const (.bool false))) 4 48 false, o1 58 (.pick (t' 48) (.const (.bool true)) (t' 57)) 4, asg 6 58 4])
 (.seq
 (.ops false [mv 59 6 4, mv 60 59 4, o2 61 (.fieldAddr 25 (t' 1) 3) 0 60 true, o2 62 (.load 3 (t' 61)) 3 60 true, o2 63 (.binOp .geq 3 (t' 62) (.const (.int .i64 (0))) 3) 4 60 true, o1 64 (.pick (t' 60) (t' 63) (.const (.bool false))) 4, mv 65 64 4, o2 66 (.fieldAddr 25 (t' 1) 3) 0 65 true, o2 67 (.load 3 (t' 66)) 3 65 true, o2 68 (.binOp .leq 3 (t' 67) (.const (.int .i64 (1024))) 3) 4 65 true, o1 69 (.pick (t' 65) (t' 68) (.const (.bool false))) 4, mv 70 69 4, o2 71 (.load 25 (t' 1)) 25 70 true, o2 72 (.call ⟨(.value (.func 43)), #[(t' 71)], #[25]⟩) 4 70 true, o1 73 (.pick (t' 70) (t' 72) (.const (.bool false))) 4, o0 (.store 4 (t' 2) (t' 73)) 0])
 (.ret)))))))⟩
theorem fa13_eq : fnA qcfg.P (qcfg.rxf 13) 13 = some fa13 := by kernel_rfl
def T13_0 (x28 : List V) (m0_0 : List V) (m0_1 : List V) (m0_2 : List UInt8) (m0_3 : Int) (m2 : List UInt8) : S := ⟨[V.junk, V.ptr 0 0 0, V.ptr 1 0 0, V.ptr 2 0 0] ++ (JU 24) ++ [V.rest [9, 3] x28] ++ (JU 45), [O.box 25 (V.agg [V.sl m0_0, V.sl m0_1, V.str m0_2, V.int .i64 m0_3]) false, O.box 4 (V.bool false) false, O.box 9 (V.str m2) false]⟩
noncomputable def e13 (a0Seps : List V) (a0Kids : List V) (a0High : List UInt8) (a0Next : Int) : R :=
  cond ((a0Kids.length : Int) != (W .i64 ((a0Seps.length : Int) + 1)))
 (some (.done (V.bool false)))
 (idxK a0Kids 0 fun v =>
  kI .i64 v fun n =>
  pcK qcfg 40 [V.int .i64 n] fun r =>
  kB r fun r40 =>
  cond (!r40)
 (some (.done (V.bool false)))
 (gd (wfl 1 a0Kids) <|
  gd (decide (1 ≤ a0Kids.length)) <|
  opt (bothP [V.ref (V.sl a0Seps) 0, V.ref (V.sl ((a0Kids.take a0Kids.length).drop 1)) 0]) fun rs =>
  some (.head 0 (T13_0 (rs.map V.tup) a0Seps a0Kids a0High a0Next []))))
theorem e13_eq (a0Seps : List V) (a0Kids : List V) (a0High : List UInt8) (a0Next : Int) : enterK qk false fa13 [V.agg [V.sl a0Seps, V.sl a0Kids, V.str a0High, V.int .i64 a0Next]] [] = e13 a0Seps a0Kids a0High a0Next := by kernel_rfl
theorem e13_run (a0Seps : List V) (a0Kids : List V) (a0High : List UInt8) (a0Next : Int) {o : Out} {v : V} (h : e13 a0Seps a0Kids a0High a0Next = some o) (hg : Go qk false 0 fa13 o (.done v)) : pcW qcfg 13 [V.agg [V.sl a0Seps, V.sl a0Kids, V.str a0High, V.int .i64 a0Next]] = some v := pcW_go qik rfl fa13_eq ((e13_eq a0Seps a0Kids a0High a0Next).trans h) hg
noncomputable def s13_0 (x28 : List V) (m0_0 : List V) (m0_1 : List V) (m0_2 : List UInt8) (m0_3 : Int) (m2 : List UInt8) : R :=
  restK x28
 (cond (m0_2 == [])
 (cond (decide (m0_3 ≥ 0))
 (cond (decide (m0_3 ≤ 1024))
 (pcK qcfg 43 [V.agg [V.sl m0_0, V.sl m0_1, V.str m0_2, V.int .i64 m0_3]] fun r =>
  kB r fun r43 =>
  some (.done (V.bool r43)))
 (some (.done (V.bool false))))
 (some (.done (V.bool false))))
 (pcK qcfg 42 [V.str m0_2] fun r_1 =>
  kB r_1 fun r42 =>
  cond r42
 (cond (Op.bytesLess m2 m0_2)
 (cond (decide (m0_3 ≥ 0))
 (cond (decide (m0_3 ≤ 1024))
 (pcK qcfg 43 [V.agg [V.sl m0_0, V.sl m0_1, V.str m0_2, V.int .i64 m0_3]] fun r_2 =>
  kB r_2 fun r43_1 =>
  some (.done (V.bool r43_1)))
 (some (.done (V.bool false))))
 (some (.done (V.bool false))))
 (some (.done (V.bool false))))
 (some (.done (V.bool false))))) fun x0 l =>
  kT x0 fun vs => unc vs fun c vs => kS c fun s =>
  unc vs fun c_1 vs => kI .i64 c_1 fun n =>
  unn vs <| pcK qcfg 42 [V.str s] fun r_3 =>
  kB r_3 fun r42_1 =>
  cond (!r42_1)
 (some (.done (V.bool false)))
 (cond (Op.bytesLess s m2 || s == m2)
 (some (.done (V.bool false)))
 (pcK qcfg 40 [V.int .i64 n] fun r_4 =>
  kB r_4 fun r40 =>
  cond (!r40)
 (some (.done (V.bool false)))
 (some (.head 0 (T13_0 l m0_0 m0_1 m0_2 m0_3 s)))))
theorem s13_0_eq (x28 : List V) (m0_0 : List V) (m0_1 : List V) (m0_2 : List UInt8) (m0_3 : Int) (m2 : List UInt8) : goK qk false 0 fa13 0 (T13_0 x28 m0_0 m0_1 m0_2 m0_3 m2) = s13_0 x28 m0_0 m0_1 m0_2 m0_3 m2 := by kernel_rfl
theorem s13_0_run (x28 : List V) (m0_0 : List V) (m0_1 : List V) (m0_2 : List UInt8) (m0_3 : Int) (m2 : List UInt8) {o o' : Out} (h : s13_0 x28 m0_0 m0_1 m0_2 m0_3 m2 = some o) (hg : Go qk false 0 fa13 o o') : Go qk false 0 fa13 (.head 0 (T13_0 x28 m0_0 m0_1 m0_2 m0_3 m2)) o' := .step ((s13_0_eq x28 m0_0 m0_1 m0_2 m0_3 m2).trans h) hg
/-! ### budwood/inner.Encode -/
noncomputable def fa18 : FA := ⟨1, 85, [.tmp 2], [9],
 (.seq
 (.ops false [o1 1 (.box 25 (t' 0)) 0, o1 2 (.assign (.const (.string ⟨⟨[]⟩⟩))) 9])
 (.seq
 (.seq
 (.ops false [o1 9 (.load 25 (t' 1)) 25, o1 10 (.call ⟨(.value (.func 13)), #[(t' 9)], #[25]⟩) 4, o1 11 (.unOp .not 4 (t' 10)) 4])
 (.cond (t' 11)
 (.seq
 (.ops false [o1 2 (.assign (.const (.string ⟨⟨[]⟩⟩))) 9])
 (.ret))
 (.skip)))
 (.seq
 (.ops true [⟨(some 13), .buildSlice 81 1 #[(0, (.const (.int .u8 (78))))], 81, none, true, false, false⟩, o1 14 (.convert 81 9 (t' 13)) 9, ⟨(some 15), .load 25 (t' 1), 25, none, true, false, false⟩, ⟨(some 16), .call ⟨(.value (.func 16)), #[(t' 15)], #[25]⟩, 3, none, false, true, false⟩, ⟨(some 17), .call ⟨(.value (.func 46)), #[(t' 14), (t' 16)], #[9, 3]⟩, 59, none, false, true, false⟩, mv 12 17 59, o1 18 (.extract (t' 12) 0) 9, o1 19 (.extract (t' 12) 1) 27, ⟨(some 3), .alloc 9, 0, none, true, false, false⟩, ⟨(some 3), .box 9 (t' 18), 0, none, true, false, false⟩, asg 4 19 27])
 (.seq
 (.ops false [o1 21 (.load 9 (t' 3)) 9, o1 22 (.fieldAddr 25 (t' 1) 0) 0, o1 23 (.load 22 (t' 22)) 22, o1 24 (.call ⟨(.builtin .len), #[(t' 23)], #[22]⟩) 3, o1 25 (.convert 3 83 (t' 24)) 83, o1 26 (.call ⟨(.value (.func 47)), #[(t' 21), (.const (.int .i64 (1))), (.const (.int .i64 (1))), (t' 25)], #[9, 3, 3, 83]⟩) 59, mv 20 26 59, o1 27 (.extract (t' 20) 0) 9, o1 28 (.extract (t' 20) 1) 27, o0 (.store 9 (t' 3) (t' 27)) 0])
 (.seq
 (.ops false [o1 30 (.load 9 (t' 3)) 9, o1 31 (.fieldAddr 25 (t' 1) 3) 0, o1 32 (.load 3 (t' 31)) 3, o1 33 (.convert 3 83 (t' 32)) 83, o1 34 (.call ⟨(.value (.func 47)), #[(t' 30), (.const (.int .i64 (2))), (.const (.int .i64 (2))), (t' 33)], #[9, 3, 3, 83]⟩) 59, mv 29 34 59, o1 35 (.extract (t' 29) 0) 9, o1 36 (.extract (t' 29) 1) 27, o0 (.store 9 (t' 3) (t' 35)) 0])
 (.seq
 (.ops false [o1 38 (.load 9 (t' 3)) 9, o1 39 (.fieldAddr 25 (t' 1) 2) 0, o1 40 (.load 9 (t' 39)) 9, o1 41 (.call ⟨(.value (.func 48)), #[(t' 38), (.const (.int .i64 (4))), (t' 40)], #[9, 3, 9]⟩) 74, mv 37 41 74, o1 42 (.extract (t' 37) 0) 9, o1 43 (.extract (t' 37) 1) 3, o1 44 (.extract (t' 37) 2) 27, o1 5 (.alloc 3) 0, o0 (.store 9 (t' 3) (t' 42)) 0, o0 (.store 3 (t' 5) (t' 43)) 0, asg 6 44 27])
 (.seq
 (.ops true [o1 46 (.load 9 (t' 3)) 9, o1 47 (.load 3 (t' 5)) 3, o1 48 (.fieldAddr 25 (t' 1) 1) 0, o1 49 (.load 23 (t' 48)) 23, o1 50 (.indexAddr 23 (t' 49) (.const (.int .i64 (0)))) 0, o1 51 (.load 3 (t' 50)) 3, o1 52 (.convert 3 83 (t' 51)) 83, ⟨(some 53), .call ⟨(.value (.func 47)), #[(t' 46), (t' 47), (.const (.int .i64 (2))), (t' 52)], #[9, 3, 3, 83]⟩, 59, none, false, true, false⟩, mv 45 53 59, o1 54 (.extract (t' 45) 0) 9, o1 55 (.extract (t' 45) 1) 27, o0 (.store 9 (t' 3) (t' 54)) 0])
 (.seq
 (.ops false [o1 56 (.load 3 (t' 5)) 3, o1 57 (.binOp .add 3 (t' 56) (.const (.int .i64 (2))) 3) 3, o0 (.store 3 (t' 5) (t' 57)) 0])
 (.seq
 (.seq
 (.ops true [o1 58 (.fieldAddr 25 (t' 1) 0) 0, o1 59 (.load 22 (t' 58)) 22, o1 60 (.fieldAddr 25 (t' 1) 1) 0, o1 61 (.load 23 (t' 60)) 23, o1 62 (.slice 23 (t' 61) (some (.const (.int .i64 (1)))) none none) 23, ⟨(some 63), .call ⟨(.value (.func 41)), #[(t' 59), (t' 62)], #[22, 23]⟩, 78, none, false, true, false⟩])
 (.block 0
 (.seq
 (.start 63)
 (.block 1000063
 (.loop ([0, 1, 4] ++ List.range' 6 57 ++ List.range' 64 21)
 (.uncons 63 [64, 65] ([64, 65, 7, 8] ++ List.range' 67 4 ++ [66, 71, 72, 73] ++ List.range' 75 5 ++ [74] ++ List.range' 80 4)
 (.seq
 (.seq
 (.ops false [asg 7 64 9])
 (.ops false [asg 8 65 3]))
 (.block 1
 (.seq
 (.ops false [o1 67 (.load 9 (t' 3)) 9, o1 68 (.load 3 (t' 5)) 3, mv 69 7 9, o1 70 (.call ⟨(.value (.func 48)), #[(t' 67), (t' 68), (t' 69)], #[9, 3, 9]⟩) 74, mv 66 70 74, o1 71 (.extract (t' 66) 0) 9, o1 72 (.extract (t' 66) 1) 3, o1 73 (.extract (t' 66) 2) 27, o0 (.store 9 (t' 3) (t' 71)) 0, o0 (.store 3 (t' 5) (t' 72)) 0])
 (.seq
 (.ops false [o1 75 (.load 9 (t' 3)) 9, o1 76 (.load 3 (t' 5)) 3, mv 77 8 3, o1 78 (.convert 3 83 (t' 77)) 83, o1 79 (.call ⟨(.value (.func 47)), #[(t' 75), (t' 76), (.const (.int .i64 (2))), (t' 78)], #[9, 3, 3, 83]⟩) 59, mv 74 79 59, o1 80 (.extract (t' 74) 0) 9, o1 81 (.extract (t' 74) 1) 27, o0 (.store 9 (t' 3) (t' 80)) 0])
 (.ops false [o1 82 (.load 3 (t' 5)) 3, o1 83 (.binOp .add 3 (t' 82) (.const (.int .i64 (2))) 3) 3, o0 (.store 3 (t' 5) (t' 83)) 0])))))
 (.exit 1000063)))))))
 (.seq
 (.ops false [o1 84 (.load 9 (t' 3)) 9, asg 2 84 9])
 (.ret)))))))))))⟩
theorem fa18_eq : fnA qcfg.P (qcfg.rxf 18) 18 = some fa18 := by kernel_rfl
def T18_0 (x63 : List V) (m0 : List UInt8) (m1 : Int) : S := ⟨[V.junk, V.junk, V.str [], V.ptr 0 0 0, V.junk, V.ptr 1 0 0] ++ (JU 57) ++ [V.rest [9, 3] x63] ++ (JU 21), [O.box 9 (V.str m0) false, O.box 3 (V.int .i64 m1) false]⟩
noncomputable def e18 (a0Seps : List V) (a0Kids : List V) (a0High : List UInt8) (a0Next : Int) : R :=
  pcK qcfg 13 [V.agg [V.sl a0Seps, V.sl a0Kids, V.str a0High, V.int .i64 a0Next]] fun r =>
  kB r fun r13 =>
  cond (!r13)
 (some (.done (V.str [])))
 (pcK qcfg 16 [V.agg [V.sl a0Seps, V.sl a0Kids, V.str a0High, V.int .i64 a0Next]] fun r_1 =>
  kI .i64 r_1 fun r16 =>
  pcK qcfg 46 [V.str [UInt8.ofNat ((78 : Int)).toNat], V.int .i64 r16] fun r_2 =>
  d59 r_2 fun r46_0 r46_1 =>
  pcK qcfg 47 [V.str r46_0, V.int .i64 1, V.int .i64 1, V.int .u64 (W .u64 ((a0Seps.length : Int)))] fun r_3 =>
  d59 r_3 fun r47_0 r47_1 =>
  pcK qcfg 47 [V.str r47_0, V.int .i64 2, V.int .i64 2, V.int .u64 (W .u64 (a0Next))] fun r_4 =>
  d59 r_4 fun r47_0_1 r47_1_1 =>
  pcK qcfg 48 [V.str r47_0_1, V.int .i64 4, V.str a0High] fun r_5 =>
  d74 r_5 fun r48_0 r48_1 r48_2 =>
  idxK a0Kids 0 fun v =>
  kI .i64 v fun n =>
  pcK qcfg 47 [V.str r48_0, V.int .i64 r48_1, V.int .i64 2, V.int .u64 (W .u64 (n))] fun r_6 =>
  d59 r_6 fun r47_0_2 r47_1_2 =>
  gd (wfl 1 a0Kids) <|
  gd (decide (1 ≤ a0Kids.length)) <|
  opt (bothP [V.ref (V.sl a0Seps) 0, V.ref (V.sl ((a0Kids.take a0Kids.length).drop 1)) 0]) fun rs =>
  some (.head 0 (T18_0 (rs.map V.tup) r47_0_2 (W .i64 (r48_1 + 2)))))
theorem e18_eq (a0Seps : List V) (a0Kids : List V) (a0High : List UInt8) (a0Next : Int) : enterK qk false fa18 [V.agg [V.sl a0Seps, V.sl a0Kids, V.str a0High, V.int .i64 a0Next]] [] = e18 a0Seps a0Kids a0High a0Next := by kernel_rfl
theorem e18_run (a0Seps : List V) (a0Kids : List V) (a0High : List UInt8) (a0Next : Int) {o : Out} {v : V} (h : e18 a0Seps a0Kids a0High a0Next = some o) (hg : Go qk false 0 fa18 o (.done v)) : pcW qcfg 18 [V.agg [V.sl a0Seps, V.sl a0Kids, V.str a0High, V.int .i64 a0Next]] = some v := pcW_go qik rfl fa18_eq ((e18_eq a0Seps a0Kids a0High a0Next).trans h) hg
noncomputable def s18_0 (x63 : List V) (m0 : List UInt8) (m1 : Int) : R :=
  restK x63
 (some (.done (V.str m0))) fun x0 l =>
  kT x0 fun vs => unc vs fun c vs => kS c fun s =>
  unc vs fun c_1 vs => kI .i64 c_1 fun n =>
  unn vs <| pcK qcfg 48 [V.str m0, V.int .i64 m1, V.str s] fun r =>
  d74 r fun r48_0 r48_1 r48_2 =>
  pcK qcfg 47 [V.str r48_0, V.int .i64 r48_1, V.int .i64 2, V.int .u64 (W .u64 (n))] fun r_1 =>
  d59 r_1 fun r47_0 r47_1 =>
  some (.head 0 (T18_0 l r47_0 (W .i64 (r48_1 + 2))))
theorem s18_0_eq (x63 : List V) (m0 : List UInt8) (m1 : Int) : goK qk false 0 fa18 0 (T18_0 x63 m0 m1) = s18_0 x63 m0 m1 := by kernel_rfl
theorem s18_0_run (x63 : List V) (m0 : List UInt8) (m1 : Int) {o o' : Out} (h : s18_0 x63 m0 m1 = some o) (hg : Go qk false 0 fa18 o o') : Go qk false 0 fa18 (.head 0 (T18_0 x63 m0 m1)) o' := .step ((s18_0_eq x63 m0 m1).trans h) hg
/-! ### budwood/inner.Decode -/
noncomputable def fa11 : FA := ⟨1, 86, [.cell 2 25, .tmp 3], [25, 27],
 (.seq
 (.ops false [o1 2 (.alloc 25) 0, o1 3 (.assign (.const (.int .i64 (0)))) 27])
 (.seq
 (.seq
 (.ops false [mv 7 0 9, o1 8 (.call ⟨(.builtin .len), #[(t' 7)], #[9]⟩) 3, o1 9 (.binOp .leq 3 (t' 8) (.const (.int .i64 (4))) 3) 4, mv 10 9 4, o2 11 (.move (t' 0)) 9 10 false, o2 12 (.call ⟨(.builtin .len), #[(t' 11)], #[9]⟩) 3 10 false, o2 13 (.binOp .gtr 3 (t' 12) (.const (.int .i64 (252))) 3) 4 10 false, o1 14 (.pick (t' 10) (.const (.bool true)) (t' 13)) 4, mv 15 14 4, o2 16 (.move (t' 0)) 9 15 false, o2 17 (.index 9 (t' 16) (.const (.int .i64 (0)))) 5 15 false, o2 18 (.binOp .neq 5 (t' 17) (.const (.int .u8 (78))) 5) 4 15 false, o1 19 (.pick (t' 15) (.const (.bool true)) (t' 18)) 4])
 (.cond (t' 19)
 (.seq
 (.ops false [o1 20 (.build 25 #[]) 25, o0 (.store 25 (t' 2) (t' 20)) 0, o1 3 (.assign (.const (.int .i64 (4)))) 27])
 (.ret))
 (.skip)))
 (.seq
 (.ops false [mv 21 0 9, o1 22 (.build 69 #[(0, (t' 21)), (1, (.const (.int .i64 (2)))), (2, (.const (.bool true)))]) 69, o1 23 (.box 69 (t' 22)) 67, asg 4 23 67])
 (.seq
 (.ops false [mv 24 4 67, o1 25 (.call ⟨(.value (.func 35)), #[(t' 24)], #[67]⟩) 3, o1 26 (.build 25 #[(3, (t' 25))]) 25, o1 5 (.alloc 25) 0, o0 (.store 25 (t' 5) (t' 26)) 0])
 (.seq
 (.ops false [mv 27 4 67, o1 28 (.call ⟨(.value (.func 36)), #[(t' 27)], #[67]⟩) 9, o1 29 (.fieldAddr 25 (t' 5) 2) 0, o0 (.store 9 (t' 29) (t' 28)) 0])
 (.seq
 (.ops true [o1 30 (.fieldAddr 25 (t' 5) 1) 0, ⟨(some 31), .load 23 (t' 30), 23, none, true, false, false⟩, mv 32 4 67, ⟨(some 33), .call ⟨(.value (.func 35)), #[(t' 32)], #[67]⟩, 3, none, true, false, false⟩, ⟨(some 34), .buildSlice 23 1 #[(0, (t' 33))], 23, none, true, false, false⟩, o1 35 (.call ⟨(.builtin .append), #[(t' 31), (t' 34)], #[23, 23]⟩) 23, o1 36 (.fieldAddr 25 (t' 5) 1) 0, o0 (.store 23 (t' 36) (t' 35)) 0])
 (.seq
 (.seq
 (.ops false [o1 6 (.assign (.const (.int .i64 (0)))) 3])
 (.block 0
 (.loop ([1] ++ List.range' 7 79)
 (.seq
 (.seq
 (.ops false [mv 37 4 67, o1 38 (.nilCheck (t' 37)) 0, o1 39 (.fieldAddr 69 (t' 38) 2) 0, o1 40 (.load 4 (t' 39)) 4, mv 41 40 4, o2 42 (.move (t' 6)) 3 41 true, o2 43 (.move (t' 0)) 9 41 true, o2 44 (.index 9 (t' 43) (.const (.int .i64 (1)))) 5 41 true, o2 45 (.convert 5 3 (t' 44)) 3 41 true, o2 46 (.binOp .lss 3 (t' 42) (t' 45) 3) 4 41 true, o1 47 (.pick (t' 41) (t' 46) (.const (.bool false))) 4])
 (.cond (t' 47)
 (.skip)
 (.exit 0)))
 (.seq
 (.block 1
 (.seq
 (.ops true [o1 50 (.fieldAddr 25 (t' 5) 0) 0, ⟨(some 51), .load 22 (t' 50), 22, none, true, false, false⟩, mv 52 4 67, ⟨(some 53), .call ⟨(.value (.func 36)), #[(t' 52)], #[67]⟩, 9, none, true, false, false⟩, ⟨(some 54), .buildSlice 22 1 #[(0, (t' 53))], 22, none, true, false, false⟩, o1 55 (.call ⟨(.builtin .append), #[(t' 51), (t' 54)], #[22, 22]⟩) 22, o1 56 (.fieldAddr 25 (t' 5) 0) 0, o0 (.store 22 (t' 56) (t' 55)) 0])
 (.ops true [o1 57 (.fieldAddr 25 (t' 5) 1) 0, ⟨(some 58), .load 23 (t' 57), 23, none, true, false, false⟩, mv 59 4 67, ⟨(some 60), .call ⟨(.value (.func 35)), #[(t' 59)], #[67]⟩, 3, none, true, false, false⟩, ⟨(some 61), .buildSlice 23 1 #[(0, (t' 60))], 23, none, true, false, false⟩, o1 62 (.call ⟨(.builtin .append), #[(t' 58), (t' 61)], #[23, 23]⟩) 23, o1 63 (.fieldAddr 25 (t' 5) 1) 0, o0 (.store 23 (t' 63) (t' 62)) 0])))
 (.ops false [mv 48 6 3, o1 49 (.binOp .add 3 (t' 48) (.const (.int .i64 (1))) 3) 3, asg 6 49 3]))))))
 (.seq
 (.seq
 (.ops false [mv 64 4 67, o1 65 (.nilCheck (t' 64)) 0, o1 66 (.fieldAddr 69 (t' 65) 2) 0, o1 67 (.load 4 (t' 66)) 4, o1 68 (.unOp .not 4 (t' 67)) 4, mv 69 68 4, o2 70 (.load 25 (t' 5)) 25 69 false, o2 71 (.call ⟨(.value (.func 13)), #[(t' 70)], #[25]⟩) 4 69 false, o2 72 (.unOp .not 4 (t' 71)) 4 69 false, o1 73 (.pick (t' 69) (.const (.bool true)) (t' 72)) 4, mv 74 73 4, o2 75 (.move (t' 0)) 9 74 false, o2 76 (.move (t' 4)) 67 74 false, o2 77 (.nilCheck (t' 76)) 0 74 false, o2 78 (.fieldAddr 69 (t' 77) 1) 0 74 false, o2 79 (.load 3 (t' 78)) 3 74 false, o2 80 (.slice 9 (t' 75) (some (t' 79)) none none) 9 74 false, o2 81 (.call ⟨(.value (.func 37)), #[(t' 80)], #[9]⟩) 9 74 false, o2 82 (.binOp .neq 9 (t' 81) (.const (.string ⟨⟨[]⟩⟩)) 9) 4 74 false, o1 83 (.pick (t' 74) (.const (.bool true)) (t' 82)) 4])
 (.cond (t' 83)
 (.seq
 (.ops false [o1 84 (.build 25 #[]) 25, o0 (.store 25 (t' 2) (t' 84)) 0, o1 3 (.assign (.const (.int .i64 (4)))) 27])
 (.ret))
 (.skip)))
 (.seq
 (.ops false [o1 85 (.load 25 (t' 5)) 25, o0 (.store 25 (t' 2) (t' 85)) 0, o1 3 (.assign (.const (.int .i64 (0)))) 27])
 (.ret))))))))))⟩
theorem fa11_eq : fnA qcfg.P (qcfg.rxf 11) 11 = some fa11 := by kernel_rfl
def T11_0 (x0 : List UInt8) (m1_0 : List UInt8) (m1_1 : Int) (m1_2 : Bool) (m2_2 : List UInt8) (m2_3 : Int) (m5 : List V) : S := ⟨[V.str x0, V.junk, V.ptr 0 0 0, V.int .i64 0, V.ptr 1 0 0, V.ptr 2 0 0, V.int .i64 0] ++ (JU 79), [O.box 25 (V.agg [V.tail 3 0, V.tail 4 0, V.str [], V.int .i64 0]) false, O.box 69 (V.agg [V.str m1_0, V.int .i64 m1_1, V.bool m1_2]) false, O.box 25 (V.agg [V.nilS, V.tail 5 0, V.str m2_2, V.int .i64 m2_3]) false, O.row 9 [] 0, O.row 3 [] 0, O.row 3 m5 0]⟩
def T11_0b (x0 : List UInt8) (x6 : Int) (m1_0 : List UInt8) (m1_1 : Int) (m1_2 : Bool) (m2_2 : List UInt8) (m2_3 : Int) (m5 : List V) (m6 : List V) : S := ⟨[V.str x0, V.junk, V.ptr 0 0 0, V.int .i64 0, V.ptr 1 0 0, V.ptr 2 0 0, V.int .i64 x6] ++ (JU 79), [O.box 25 (V.agg [V.tail 3 0, V.tail 4 0, V.str [], V.int .i64 0]) false, O.box 69 (V.agg [V.str m1_0, V.int .i64 m1_1, V.bool m1_2]) false, O.box 25 (V.agg [V.tail 5 0, V.tail 6 0, V.str m2_2, V.int .i64 m2_3]) false, O.row 9 [] 0, O.row 3 [] 0, O.row 9 m5 0, O.row 3 m6 0]⟩
noncomputable def e11 (a0 : List UInt8) : R :=
  cond (decide ((a0.length : Int) ≤ 4))
 (some (.done (V.tup [V.agg [V.sl [], V.sl [], V.str [], V.int .i64 0], V.int .i64 4])))
 (cond (decide ((a0.length : Int) > 252))
 (some (.done (V.tup [V.agg [V.sl [], V.sl [], V.str [], V.int .i64 0], V.int .i64 4])))
 (idxK a0 0 fun c =>
  cond ((c.toNat : Int) != (78 : Int))
 (some (.done (V.tup [V.agg [V.sl [], V.sl [], V.str [], V.int .i64 0], V.int .i64 4])))
 (pcK qcfg 63 [V.str a0, V.int .i64 2, V.int .i64 2] fun r =>
  d97 r fun r63_0 r63_1 =>
  pcK qcfg 64 [V.str a0, V.int .i64 4] fun r_1 =>
  d74 r_1 fun r64_0 r64_1 r64_2 =>
  cond (r63_1 == (0 : Int))
 (pcK qcfg 63 [V.str a0, V.int .i64 (if 4 < r64_1 then r64_1 else 4), V.int .i64 2] fun r_2 =>
  d97 r_2 fun r63_0_1 r63_1_1 =>
  cond (r64_2 == (0 : Int))
 (gd (decide (([V.int .i64 (W .i64 (r63_0_1))] : List V).length ≤ 16777216)) <|
  some (.head 0 (T11_0 a0 a0 (W .i64 ((if 4 < r64_1 then r64_1 else 4) + 2)) (r63_1_1 == (0 : Int)) r64_0 (W .i64 (r63_0)) [V.int .i64 (W .i64 (r63_0_1))])))
 (gd (decide (([V.int .i64 (W .i64 (r63_0_1))] : List V).length ≤ 16777216)) <|
  some (.head 0 (T11_0 a0 a0 (W .i64 ((if 4 < r64_1 then r64_1 else 4) + 2)) false r64_0 (W .i64 (r63_0)) [V.int .i64 (W .i64 (r63_0_1))]))))
 (pcK qcfg 63 [V.str a0, V.int .i64 (if 4 < r64_1 then r64_1 else 4), V.int .i64 2] fun r_3 =>
  d97 r_3 fun r63_0_2 r63_1_2 =>
  gd (decide (([V.int .i64 (W .i64 (r63_0_2))] : List V).length ≤ 16777216)) <|
  some (.head 0 (T11_0 a0 a0 (W .i64 ((if 4 < r64_1 then r64_1 else 4) + 2)) false r64_0 (W .i64 (r63_0)) [V.int .i64 (W .i64 (r63_0_2))]))))))
theorem e11_eq (a0 : List UInt8) : enterK qk false fa11 [V.str a0] [] = e11 a0 := by kernel_rfl
theorem e11_run (a0 : List UInt8) {o : Out} {v : V} (h : e11 a0 = some o) (hg : Go qk false 0 fa11 o (.done v)) : pcW qcfg 11 [V.str a0] = some v := pcW_go qik rfl fa11_eq ((e11_eq a0).trans h) hg
noncomputable def s11_0 (x0 : List UInt8) (m1_0 : List UInt8) (m1_1 : Int) (m1_2 : Bool) (m2_2 : List UInt8) (m2_3 : Int) (m5 : List V) : R :=
  cond m1_2
 (idxK x0 1 fun c =>
  cond (decide (0 < W .i64 ((c.toNat : Int))))
 (pcK qcfg 64 [V.str m1_0, V.int .i64 m1_1] fun r =>
  d74 r fun r64_0 r64_1 r64_2 =>
  cond m1_2
 (gd (decide (([V.str r64_0] : List V).length ≤ 16777216)) <|
  pcK qcfg 63 [V.str m1_0, V.int .i64 (if m1_1 < r64_1 then r64_1 else m1_1), V.int .i64 2] fun r_1 =>
  d97 r_1 fun r63_0 r63_1 =>
  cond (r64_2 == (0 : Int))
 (gd (decide (m5.length + ([V.int .i64 (W .i64 (r63_0))] : List V).length ≤ 16777216)) <|
  some (.head 0 (T11_0b x0 1 m1_0 (W .i64 ((if m1_1 < r64_1 then r64_1 else m1_1) + 2)) (r63_1 == (0 : Int)) m2_2 m2_3 [V.str r64_0] (m5 ++ [V.int .i64 (W .i64 (r63_0))]))))
 (gd (decide (m5.length + ([V.int .i64 (W .i64 (r63_0))] : List V).length ≤ 16777216)) <|
  some (.head 0 (T11_0b x0 1 m1_0 (W .i64 ((if m1_1 < r64_1 then r64_1 else m1_1) + 2)) false m2_2 m2_3 [V.str r64_0] (m5 ++ [V.int .i64 (W .i64 (r63_0))])))))
 (gd (decide (([V.str r64_0] : List V).length ≤ 16777216)) <|
  pcK qcfg 63 [V.str m1_0, V.int .i64 (if m1_1 < r64_1 then r64_1 else m1_1), V.int .i64 2] fun r_2 =>
  d97 r_2 fun r63_0_1 r63_1_1 =>
  gd (decide (m5.length + ([V.int .i64 (W .i64 (r63_0_1))] : List V).length ≤ 16777216)) <|
  some (.head 0 (T11_0b x0 1 m1_0 (W .i64 ((if m1_1 < r64_1 then r64_1 else m1_1) + 2)) false m2_2 m2_3 [V.str r64_0] (m5 ++ [V.int .i64 (W .i64 (r63_0_1))])))))
 (cond (!m1_2)
 (some (.done (V.tup [V.agg [V.sl [], V.sl [], V.str [], V.int .i64 0], V.int .i64 4])))
 (pcK qcfg 13 [V.agg [V.sl [], V.sl m5, V.str m2_2, V.int .i64 m2_3]] fun r_3 =>
  kB r_3 fun r13 =>
  cond (!r13)
 (some (.done (V.tup [V.agg [V.sl [], V.sl [], V.str [], V.int .i64 0], V.int .i64 4])))
 (gd (decide (0 ≤ m1_1)) <|
  gd (decide (m1_1.toNat ≤ x0.length)) <|
  pcK qcfg 37 [V.str ((x0.take x0.length).drop m1_1.toNat)] fun r_4 =>
  kS r_4 fun r37 =>
  cond (!(r37 == []))
 (some (.done (V.tup [V.agg [V.sl [], V.sl [], V.str [], V.int .i64 0], V.int .i64 4])))
 (some (.done (V.tup [V.agg [V.sl [], V.sl m5, V.str m2_2, V.int .i64 m2_3], V.int .i64 0])))))))
 (cond (!m1_2)
 (some (.done (V.tup [V.agg [V.sl [], V.sl [], V.str [], V.int .i64 0], V.int .i64 4])))
 (pcK qcfg 13 [V.agg [V.sl [], V.sl m5, V.str m2_2, V.int .i64 m2_3]] fun r_5 =>
  kB r_5 fun r13_1 =>
  cond (!r13_1)
 (some (.done (V.tup [V.agg [V.sl [], V.sl [], V.str [], V.int .i64 0], V.int .i64 4])))
 (gd (decide (0 ≤ m1_1)) <|
  gd (decide (m1_1.toNat ≤ x0.length)) <|
  pcK qcfg 37 [V.str ((x0.take x0.length).drop m1_1.toNat)] fun r_6 =>
  kS r_6 fun r37_1 =>
  cond (!(r37_1 == []))
 (some (.done (V.tup [V.agg [V.sl [], V.sl [], V.str [], V.int .i64 0], V.int .i64 4])))
 (some (.done (V.tup [V.agg [V.sl [], V.sl m5, V.str m2_2, V.int .i64 m2_3], V.int .i64 0]))))))
theorem s11_0_eq (x0 : List UInt8) (m1_0 : List UInt8) (m1_1 : Int) (m1_2 : Bool) (m2_2 : List UInt8) (m2_3 : Int) (m5 : List V) : goK qk false 0 fa11 0 (T11_0 x0 m1_0 m1_1 m1_2 m2_2 m2_3 m5) = s11_0 x0 m1_0 m1_1 m1_2 m2_2 m2_3 m5 := by kernel_rfl
theorem s11_0_run (x0 : List UInt8) (m1_0 : List UInt8) (m1_1 : Int) (m1_2 : Bool) (m2_2 : List UInt8) (m2_3 : Int) (m5 : List V) {o o' : Out} (h : s11_0 x0 m1_0 m1_1 m1_2 m2_2 m2_3 m5 = some o) (hg : Go qk false 0 fa11 o o') : Go qk false 0 fa11 (.head 0 (T11_0 x0 m1_0 m1_1 m1_2 m2_2 m2_3 m5)) o' := .step ((s11_0_eq x0 m1_0 m1_1 m1_2 m2_2 m2_3 m5).trans h) hg
noncomputable def s11_0b (x0 : List UInt8) (x6 : Int) (m1_0 : List UInt8) (m1_1 : Int) (m1_2 : Bool) (m2_2 : List UInt8) (m2_3 : Int) (m5 : List V) (m6 : List V) : R :=
  cond m1_2
 (idxK x0 1 fun c =>
  cond (decide (x6 < W .i64 ((c.toNat : Int))))
 (pcK qcfg 64 [V.str m1_0, V.int .i64 m1_1] fun r =>
  d74 r fun r64_0 r64_1 r64_2 =>
  cond m1_2
 (gd (decide (m5.length + ([V.str r64_0] : List V).length ≤ 16777216)) <|
  pcK qcfg 63 [V.str m1_0, V.int .i64 (if m1_1 < r64_1 then r64_1 else m1_1), V.int .i64 2] fun r_1 =>
  d97 r_1 fun r63_0 r63_1 =>
  cond (r64_2 == (0 : Int))
 (gd (decide (m6.length + ([V.int .i64 (W .i64 (r63_0))] : List V).length ≤ 16777216)) <|
  some (.head 0 (T11_0b x0 (W .i64 (x6 + 1)) m1_0 (W .i64 ((if m1_1 < r64_1 then r64_1 else m1_1) + 2)) (r63_1 == (0 : Int)) m2_2 m2_3 (m5 ++ [V.str r64_0]) (m6 ++ [V.int .i64 (W .i64 (r63_0))]))))
 (gd (decide (m6.length + ([V.int .i64 (W .i64 (r63_0))] : List V).length ≤ 16777216)) <|
  some (.head 0 (T11_0b x0 (W .i64 (x6 + 1)) m1_0 (W .i64 ((if m1_1 < r64_1 then r64_1 else m1_1) + 2)) false m2_2 m2_3 (m5 ++ [V.str r64_0]) (m6 ++ [V.int .i64 (W .i64 (r63_0))])))))
 (gd (decide (m5.length + ([V.str r64_0] : List V).length ≤ 16777216)) <|
  pcK qcfg 63 [V.str m1_0, V.int .i64 (if m1_1 < r64_1 then r64_1 else m1_1), V.int .i64 2] fun r_2 =>
  d97 r_2 fun r63_0_1 r63_1_1 =>
  gd (decide (m6.length + ([V.int .i64 (W .i64 (r63_0_1))] : List V).length ≤ 16777216)) <|
  some (.head 0 (T11_0b x0 (W .i64 (x6 + 1)) m1_0 (W .i64 ((if m1_1 < r64_1 then r64_1 else m1_1) + 2)) false m2_2 m2_3 (m5 ++ [V.str r64_0]) (m6 ++ [V.int .i64 (W .i64 (r63_0_1))])))))
 (cond (!m1_2)
 (some (.done (V.tup [V.agg [V.sl [], V.sl [], V.str [], V.int .i64 0], V.int .i64 4])))
 (pcK qcfg 13 [V.agg [V.sl m5, V.sl m6, V.str m2_2, V.int .i64 m2_3]] fun r_3 =>
  kB r_3 fun r13 =>
  cond (!r13)
 (some (.done (V.tup [V.agg [V.sl [], V.sl [], V.str [], V.int .i64 0], V.int .i64 4])))
 (gd (decide (0 ≤ m1_1)) <|
  gd (decide (m1_1.toNat ≤ x0.length)) <|
  pcK qcfg 37 [V.str ((x0.take x0.length).drop m1_1.toNat)] fun r_4 =>
  kS r_4 fun r37 =>
  cond (!(r37 == []))
 (some (.done (V.tup [V.agg [V.sl [], V.sl [], V.str [], V.int .i64 0], V.int .i64 4])))
 (some (.done (V.tup [V.agg [V.sl m5, V.sl m6, V.str m2_2, V.int .i64 m2_3], V.int .i64 0])))))))
 (cond (!m1_2)
 (some (.done (V.tup [V.agg [V.sl [], V.sl [], V.str [], V.int .i64 0], V.int .i64 4])))
 (pcK qcfg 13 [V.agg [V.sl m5, V.sl m6, V.str m2_2, V.int .i64 m2_3]] fun r_5 =>
  kB r_5 fun r13_1 =>
  cond (!r13_1)
 (some (.done (V.tup [V.agg [V.sl [], V.sl [], V.str [], V.int .i64 0], V.int .i64 4])))
 (gd (decide (0 ≤ m1_1)) <|
  gd (decide (m1_1.toNat ≤ x0.length)) <|
  pcK qcfg 37 [V.str ((x0.take x0.length).drop m1_1.toNat)] fun r_6 =>
  kS r_6 fun r37_1 =>
  cond (!(r37_1 == []))
 (some (.done (V.tup [V.agg [V.sl [], V.sl [], V.str [], V.int .i64 0], V.int .i64 4])))
 (some (.done (V.tup [V.agg [V.sl m5, V.sl m6, V.str m2_2, V.int .i64 m2_3], V.int .i64 0]))))))
theorem s11_0b_eq (x0 : List UInt8) (x6 : Int) (m1_0 : List UInt8) (m1_1 : Int) (m1_2 : Bool) (m2_2 : List UInt8) (m2_3 : Int) (m5 : List V) (m6 : List V) : goK qk false 0 fa11 0 (T11_0b x0 x6 m1_0 m1_1 m1_2 m2_2 m2_3 m5 m6) = s11_0b x0 x6 m1_0 m1_1 m1_2 m2_2 m2_3 m5 m6 := by kernel_rfl
theorem s11_0b_run (x0 : List UInt8) (x6 : Int) (m1_0 : List UInt8) (m1_1 : Int) (m1_2 : Bool) (m2_2 : List UInt8) (m2_3 : Int) (m5 : List V) (m6 : List V) {o o' : Out} (h : s11_0b x0 x6 m1_0 m1_1 m1_2 m2_2 m2_3 m5 m6 = some o) (hg : Go qk false 0 fa11 o o') : Go qk false 0 fa11 (.head 0 (T11_0b x0 x6 m1_0 m1_1 m1_2 m2_2 m2_3 m5 m6)) o' := .step ((s11_0b_eq x0 x6 m1_0 m1_1 m1_2 m2_2 m2_3 m5 m6).trans h) hg
/-! ### budwood/inner.Same -/
noncomputable def fa20 : FA := ⟨2, 31, [.tmp 4], [4],
 (.seq
 (.ops false [o1 2 (.box 25 (t' 0)) 0, o1 3 (.box 25 (t' 1)) 0, o1 4 (.assign (.const (.bool false))) 4])
 (.seq
 (.ops false [o1 5 (.fieldAddr 25 (t' 2) 0) 0, o1 6 (.load 22 (t' 5)) 22, o1 7 (.fieldAddr 25 (t' 3) 0) 0, o1 8 (.load 22 (t' 7)) 22, o1 9 (.call ⟨(.value (.func 51)), #[(t' 6), (t' 8)], #[22, 22]⟩) 4, mv 10 9 4, o2 11 (.fieldAddr 25 (t' 2) 1) 0 10 true, o2 12 (.load 23 (t' 11)) 23 10 true, o2 13 (.fieldAddr 25 (t' 3) 1) 0 10 true, o2 14 (.load 23 (t' 13)) 23 10 true, o2 15 (.call ⟨(.value (.func 52)), #[(t' 12), (t' 14)], #[23, 23]⟩) 4 10 true, o1 16 (.pick (t' 10) (t' 15) (.const (.bool false))) 4, mv 17 16 4, o2 18 (.fieldAddr 25 (t' 2) 2) 0 17 true, o2 19 (.load 9 (t' 18)) 9 17 true, o2 20 (.fieldAddr 25 (t' 3) 2) 0 17 true, o2 21 (.load 9 (t' 20)) 9 17 true, o2 22 (.binOp .eql 9 (t' 19) (t' 21) 9) 4 17 true, o1 23 (.pick (t' 17) (t' 22) (.const (.bool false))) 4, mv 24 23 4, o2 25 (.fieldAddr 25 (t' 2) 3) 0 24 true, o2 26 (.load 3 (t' 25)) 3 24 true, o2 27 (.fieldAddr 25 (t' 3) 3) 0 24 true, o2 28 (.load 3 (t' 27)) 3 24 true, o2 29 (.binOp .eql 3 (t' 26) (t' 28) 3) 4 24 true, o1 30 (.pick (t' 24) (t' 29) (.const (.bool false))) 4, asg 4 30 4])
 (.ret)))⟩
theorem fa20_eq : fnA qcfg.P (qcfg.rxf 20) 20 = some fa20 := by kernel_rfl
noncomputable def e20 (a0Seps : List V) (a0Kids : List V) (a0High : List UInt8) (a0Next : Int) (a1Seps : List V) (a1Kids : List V) (a1High : List UInt8) (a1Next : Int) : R :=
  pcK qcfg 51 [V.sl a0Seps, V.sl a1Seps] fun r =>
  kB r fun r51 =>
  cond r51
 (pcK qcfg 52 [V.sl a0Kids, V.sl a1Kids] fun r_1 =>
  kB r_1 fun r52 =>
  cond r52
 (cond (a0High == a1High)
 (some (.done (V.bool (a0Next == a1Next))))
 (some (.done (V.bool false))))
 (some (.done (V.bool false))))
 (some (.done (V.bool false)))
theorem e20_eq (a0Seps : List V) (a0Kids : List V) (a0High : List UInt8) (a0Next : Int) (a1Seps : List V) (a1Kids : List V) (a1High : List UInt8) (a1Next : Int) : enterK qk false fa20 [V.agg [V.sl a0Seps, V.sl a0Kids, V.str a0High, V.int .i64 a0Next], V.agg [V.sl a1Seps, V.sl a1Kids, V.str a1High, V.int .i64 a1Next]] [] = e20 a0Seps a0Kids a0High a0Next a1Seps a1Kids a1High a1Next := by kernel_rfl
theorem e20_run (a0Seps : List V) (a0Kids : List V) (a0High : List UInt8) (a0Next : Int) (a1Seps : List V) (a1Kids : List V) (a1High : List UInt8) (a1Next : Int) {o : Out} {v : V} (h : e20 a0Seps a0Kids a0High a0Next a1Seps a1Kids a1High a1Next = some o) (hg : Go qk false 0 fa20 o (.done v)) : pcW qcfg 20 [V.agg [V.sl a0Seps, V.sl a0Kids, V.str a0High, V.int .i64 a0Next], V.agg [V.sl a1Seps, V.sl a1Kids, V.str a1High, V.int .i64 a1Next]] = some v := pcW_go qik rfl fa20_eq ((e20_eq a0Seps a0Kids a0High a0Next a1Seps a1Kids a1High a1Next).trans h) hg
theorem e20_done (a0Seps : List V) (a0Kids : List V) (a0High : List UInt8) (a0Next : Int) (a1Seps : List V) (a1Kids : List V) (a1High : List UInt8) (a1Next : Int) {v : V} (h : e20 a0Seps a0Kids a0High a0Next a1Seps a1Kids a1High a1Next = some (.done v)) : pcW qcfg 20 [V.agg [V.sl a0Seps, V.sl a0Kids, V.str a0High, V.int .i64 a0Next], V.agg [V.sl a1Seps, V.sl a1Kids, V.str a1High, V.int .i64 a1Next]] = some v := e20_run a0Seps a0Kids a0High a0Next a1Seps a1Kids a1High a1Next h (.refl _)
/-! ### budwood/inner.Find -/
noncomputable def fa23 : FA := ⟨2, 38, [.tmp 4, .tmp 5], [3, 27],
 (.seq
 (.ops false [o1 2 (.box 25 (t' 0)) 0, o1 4 (.assign (.const (.int .i64 (0)))) 3, o1 5 (.assign (.const (.int .i64 (0)))) 27])
 (.seq
 (.seq
 (.ops false [o1 8 (.load 25 (t' 2)) 25, o1 9 (.call ⟨(.value (.func 13)), #[(t' 8)], #[25]⟩) 4, o1 10 (.unOp .not 4 (t' 9)) 4, mv 11 10 4, o2 12 (.move (t' 1)) 9 11 false, o2 13 (.call ⟨(.value (.func 42)), #[(t' 12)], #[9]⟩) 4 11 false, o2 14 (.unOp .not 4 (t' 13)) 4 11 false, o1 15 (.pick (t' 11) (.const (.bool true)) (t' 14)) 4, mv 16 15 4, o2 17 (.fieldAddr 25 (t' 2) 2) 0 16 false, o2 18 (.load 9 (t' 17)) 9 16 false, o2 19 (.binOp .neq 9 (t' 18) (.const (.string ⟨⟨[]⟩⟩)) 9) 4 16 false, o2 20 (.move (t' 19)) 4 16 false, o2 21 (.move (t' 1)) 9 20 true, o2 22 (.fieldAddr 25 (t' 2) 2) 0 20 true, o2 23 (.load 9 (t' 22)) 9 20 true, o2 24 (.binOp .geq 9 (t' 21) (t' 23) 9) 4 20 true, o2 25 (.pick (t' 20) (t' 24) (.const (.bool false))) 4 16 false, o1 26 (.pick (t' 16) (.const (.bool true)) (t' 25)) 4])
 (.cond (t' 26)
 (.seq
 (.ops false [o1 4 (.assign (.const (.int .i64 (0)))) 3, o1 5 (.assign (.const (.int .i64 (1)))) 27])
 (.ret))
 (.skip)))
 (.seq
 (.ops false [o1 28 (.fieldAddr 25 (t' 2) 0) 0, o1 29 (.load 22 (t' 28)) 22, mv 30 1 9, o1 31 (.call ⟨(.value (.func 55)), #[(t' 29), (t' 30)], #[22, 9]⟩) 88, mv 27 31 88, o1 32 (.extract (t' 27) 0) 3, o1 33 (.extract (t' 27) 1) 4, asg 6 32 3, asg 7 33 4])
 (.seq
 (.seq
 (.ops false [mv 34 7 4])
 (.cond (t' 34)
 (.ops false [mv 35 6 3, o1 36 (.binOp .add 3 (t' 35) (.const (.int .i64 (1))) 3) 3, asg 6 36 3])
 (.skip)))
 (.seq
 (.ops false [mv 37 6 3, asg 4 37 3, o1 5 (.assign (.const (.int .i64 (0)))) 27])
 (.ret))))))⟩
theorem fa23_eq : fnA qcfg.P (qcfg.rxf 23) 23 = some fa23 := by kernel_rfl
noncomputable def e23 (a0Seps : List V) (a0Kids : List V) (a0High : List UInt8) (a0Next : Int) (a1 : List UInt8) : R :=
  pcK qcfg 13 [V.agg [V.sl a0Seps, V.sl a0Kids, V.str a0High, V.int .i64 a0Next]] fun r =>
  kB r fun r13 =>
  cond (!r13)
 (some (.done (V.tup [V.int .i64 0, V.int .i64 1])))
 (pcK qcfg 42 [V.str a1] fun r_1 =>
  kB r_1 fun r42 =>
  cond (!r42)
 (some (.done (V.tup [V.int .i64 0, V.int .i64 1])))
 (cond (!(a0High == []))
 (cond (!Op.bytesLess a1 a0High)
 (some (.done (V.tup [V.int .i64 0, V.int .i64 1])))
 (pcK qcfg 55 [V.sl a0Seps, V.str a1] fun r_2 =>
  d88 r_2 fun r55_0 r55_1 =>
  cond r55_1
 (some (.done (V.tup [V.int .i64 (W .i64 (r55_0 + 1)), V.int .i64 0])))
 (some (.done (V.tup [V.int .i64 r55_0, V.int .i64 0])))))
 (pcK qcfg 55 [V.sl a0Seps, V.str a1] fun r_3 =>
  d88 r_3 fun r55_0_1 r55_1_1 =>
  cond r55_1_1
 (some (.done (V.tup [V.int .i64 (W .i64 (r55_0_1 + 1)), V.int .i64 0])))
 (some (.done (V.tup [V.int .i64 r55_0_1, V.int .i64 0]))))))
theorem e23_eq (a0Seps : List V) (a0Kids : List V) (a0High : List UInt8) (a0Next : Int) (a1 : List UInt8) : enterK qk false fa23 [V.agg [V.sl a0Seps, V.sl a0Kids, V.str a0High, V.int .i64 a0Next], V.str a1] [] = e23 a0Seps a0Kids a0High a0Next a1 := by kernel_rfl
theorem e23_run (a0Seps : List V) (a0Kids : List V) (a0High : List UInt8) (a0Next : Int) (a1 : List UInt8) {o : Out} {v : V} (h : e23 a0Seps a0Kids a0High a0Next a1 = some o) (hg : Go qk false 0 fa23 o (.done v)) : pcW qcfg 23 [V.agg [V.sl a0Seps, V.sl a0Kids, V.str a0High, V.int .i64 a0Next], V.str a1] = some v := pcW_go qik rfl fa23_eq ((e23_eq a0Seps a0Kids a0High a0Next a1).trans h) hg
theorem e23_done (a0Seps : List V) (a0Kids : List V) (a0High : List UInt8) (a0Next : Int) (a1 : List UInt8) {v : V} (h : e23 a0Seps a0Kids a0High a0Next a1 = some (.done v)) : pcW qcfg 23 [V.agg [V.sl a0Seps, V.sl a0Kids, V.str a0High, V.int .i64 a0Next], V.str a1] = some v := e23_run a0Seps a0Kids a0High a0Next a1 h (.refl _)
/-! ### budwood/inner.Put -/
noncomputable def fa25 : FA := ⟨3, 61, [.cell 6 25, .tmp 7], [25, 27],
 (.seq
 (.ops false [o1 3 (.box 25 (t' 0)) 0, o1 6 (.alloc 25) 0, o1 7 (.assign (.const (.int .i64 (0)))) 27])
 (.seq
 (.ops false [o1 11 (.load 25 (t' 3)) 25, mv 12 1 9, o1 13 (.call ⟨(.value (.func 23)), #[(t' 11), (t' 12)], #[25, 9]⟩) 45, mv 10 13 45, o1 14 (.extract (t' 10) 0) 3, o1 15 (.extract (t' 10) 1) 27, asg 8 14 3, asg 9 15 27])
 (.seq
 (.block 0
 (.seq
 (.ops false [mv 17 9 27, o1 18 (.binOp .neq 27 (t' 17) (.const (.int .i64 (0))) 27) 4, mv 19 18 4, o2 20 (.move (t' 2)) 3 19 false, o2 21 (.call ⟨(.value (.func 40)), #[(t' 20)], #[3]⟩) 4 19 false, o2 22 (.unOp .not 4 (t' 21)) 4 19 false, o1 23 (.pick (t' 19) (.const (.bool true)) (t' 22)) 4, asg 16 23 4])
 (.cond (t' 16)
 (.seq
 (.ops false [o1 24 (.build 25 #[]) 25, o0 (.store 25 (t' 6) (t' 24)) 0, o1 7 (.assign (.const (.int .i64 (1)))) 27])
 (.ret))
 (.seq
 (.ops false [mv 26 8 3, o1 27 (.binOp .gtr 3 (t' 26) (.const (.int .i64 (0))) 3) 4, mv 28 27 4, o2 29 (.fieldAddr 25 (t' 3) 0) 0 28 true, o2 30 (.load 22 (t' 29)) 22 28 true, o2 31 (.move (t' 8)) 3 28 true, o2 32 (.binOp .sub 3 (t' 31) (.const (.int .i64 (1))) 3) 3 28 true, o2 33 (.indexAddr 22 (t' 30) (t' 32)) 0 28 true, o2 34 (.load 9 (t' 33)) 9 28 true, o2 35 (.move (t' 1)) 9 28 true, o2 36 (.binOp .eql 9 (t' 34) (t' 35) 9) 4 28 true, o1 37 (.pick (t' 28) (t' 36) (.const (.bool false))) 4, asg 25 37 4])
 (.cond (t' 25)
 (.seq
 (.ops false [o1 38 (.build 25 #[]) 25, o0 (.store 25 (t' 6) (t' 38)) 0, o1 7 (.assign (.const (.int .i64 (8)))) 27])
 (.ret))
 (.skip))))))
 (.seq
 (.ops false [o1 39 (.fieldAddr 25 (t' 3) 0) 0, o1 40 (.load 22 (t' 39)) 22, o1 41 (.call ⟨(.value (.func 57)), #[(t' 40)], #[22]⟩) 22, mv 42 8 3, mv 43 1 9, o1 44 (.buildSlice 22 1 #[(0, (t' 43))]) 22, o1 45 (.call ⟨(.value (.func 56)), #[(t' 41), (t' 42), (t' 44)], #[22, 3, 22]⟩) 22, o1 46 (.fieldAddr 25 (t' 3) 0) 0, o0 (.store 22 (t' 46) (t' 45)) 0])
 (.seq
 (.ops false [o1 47 (.fieldAddr 25 (t' 3) 1) 0, o1 48 (.load 23 (t' 47)) 23, o1 49 (.call ⟨(.value (.func 59)), #[(t' 48)], #[23]⟩) 23, mv 50 8 3, o1 51 (.binOp .add 3 (t' 50) (.const (.int .i64 (1))) 3) 3, mv 52 2 3, o1 53 (.buildSlice 23 1 #[(0, (t' 52))]) 23, o1 54 (.call ⟨(.value (.func 58)), #[(t' 49), (t' 51), (t' 53)], #[23, 3, 23]⟩) 23, o1 55 (.fieldAddr 25 (t' 3) 1) 0, o0 (.store 23 (t' 55) (t' 54)) 0])
 (.seq
 (.seq
 (.ops false [o1 56 (.load 25 (t' 3)) 25, o1 57 (.call ⟨(.value (.func 43)), #[(t' 56)], #[25]⟩) 4, o1 58 (.unOp .not 4 (t' 57)) 4])
 (.cond (t' 58)
 (.seq
 (.ops false [o1 59 (.build 25 #[]) 25, o0 (.store 25 (t' 6) (t' 59)) 0, o1 7 (.assign (.const (.int .i64 (6)))) 27])
 (.ret))
 (.skip)))
 (.seq
 (.ops false [o1 60 (.load 25 (t' 3)) 25, o0 (.store 25 (t' 6) (t' 60)) 0, o1 7 (.assign (.const (.int .i64 (0)))) 27])
 (.ret))))))))⟩
theorem fa25_eq : fnA qcfg.P (qcfg.rxf 25) 25 = some fa25 := by kernel_rfl
noncomputable def e25 (a0Seps : List V) (a0Kids : List V) (a0High : List UInt8) (a0Next : Int) (a1 : List UInt8) (a2 : Int) : R :=
  pcK qcfg 23 [V.agg [V.sl a0Seps, V.sl a0Kids, V.str a0High, V.int .i64 a0Next], V.str a1] fun r =>
  d45 r fun r23_0 r23_1 =>
  cond (r23_1 != (0 : Int))
 (some (.done (V.tup [V.agg [V.sl [], V.sl [], V.str [], V.int .i64 0], V.int .i64 1])))
 (pcK qcfg 40 [V.int .i64 a2] fun r_1 =>
  kB r_1 fun r40 =>
  cond (!r40)
 (some (.done (V.tup [V.agg [V.sl [], V.sl [], V.str [], V.int .i64 0], V.int .i64 1])))
 (cond (decide (r23_0 > 0))
 (gd (decide (0 ≤ W .i64 (r23_0 - 1))) <|
  idxK a0Seps ((W .i64 (r23_0 - 1)).toNat) fun v =>
  kS v fun s =>
  cond (s == a1)
 (some (.done (V.tup [V.agg [V.sl [], V.sl [], V.str [], V.int .i64 0], V.int .i64 8])))
 (pcK qcfg 57 [V.sl a0Seps] fun r_2 =>
  kF 9 r_2 fun r57 =>
  gd (decide (0 ≤ r23_0 ∧ r23_0.toNat ≤ r57.length ∧ r57.length + ([V.str a1] : List V).length ≤ 16777216)) <|
  pcK qcfg 59 [V.sl a0Kids] fun r_3 =>
  kF 3 r_3 fun r59 =>
  gd (decide (0 ≤ W .i64 (r23_0 + 1) ∧ (W .i64 (r23_0 + 1)).toNat ≤ r59.length ∧ r59.length + ([V.int .i64 a2] : List V).length ≤ 16777216)) <|
  pcK qcfg 43 [V.agg [V.sl (((r57.take r23_0.toNat) ++ [V.str a1]) ++ (r57.drop r23_0.toNat)), V.sl (((r59.take ((W .i64 (r23_0 + 1)).toNat)) ++ [V.int .i64 a2]) ++ (r59.drop ((W .i64 (r23_0 + 1)).toNat))), V.str a0High, V.int .i64 a0Next]] fun r_4 =>
  kB r_4 fun r43 =>
  cond (!r43)
 (some (.done (V.tup [V.agg [V.sl [], V.sl [], V.str [], V.int .i64 0], V.int .i64 6])))
 (some (.done (V.tup [V.agg [V.sl (((r57.take r23_0.toNat) ++ [V.str a1]) ++ (r57.drop r23_0.toNat)), V.sl (((r59.take ((W .i64 (r23_0 + 1)).toNat)) ++ [V.int .i64 a2]) ++ (r59.drop ((W .i64 (r23_0 + 1)).toNat))), V.str a0High, V.int .i64 a0Next], V.int .i64 0])))))
 (pcK qcfg 57 [V.sl a0Seps] fun r_5 =>
  kF 9 r_5 fun r57_1 =>
  gd (decide (0 ≤ r23_0 ∧ r23_0.toNat ≤ r57_1.length ∧ r57_1.length + ([V.str a1] : List V).length ≤ 16777216)) <|
  pcK qcfg 59 [V.sl a0Kids] fun r_6 =>
  kF 3 r_6 fun r59_1 =>
  gd (decide (0 ≤ W .i64 (r23_0 + 1) ∧ (W .i64 (r23_0 + 1)).toNat ≤ r59_1.length ∧ r59_1.length + ([V.int .i64 a2] : List V).length ≤ 16777216)) <|
  pcK qcfg 43 [V.agg [V.sl (((r57_1.take r23_0.toNat) ++ [V.str a1]) ++ (r57_1.drop r23_0.toNat)), V.sl (((r59_1.take ((W .i64 (r23_0 + 1)).toNat)) ++ [V.int .i64 a2]) ++ (r59_1.drop ((W .i64 (r23_0 + 1)).toNat))), V.str a0High, V.int .i64 a0Next]] fun r_7 =>
  kB r_7 fun r43_1 =>
  cond (!r43_1)
 (some (.done (V.tup [V.agg [V.sl [], V.sl [], V.str [], V.int .i64 0], V.int .i64 6])))
 (some (.done (V.tup [V.agg [V.sl (((r57_1.take r23_0.toNat) ++ [V.str a1]) ++ (r57_1.drop r23_0.toNat)), V.sl (((r59_1.take ((W .i64 (r23_0 + 1)).toNat)) ++ [V.int .i64 a2]) ++ (r59_1.drop ((W .i64 (r23_0 + 1)).toNat))), V.str a0High, V.int .i64 a0Next], V.int .i64 0]))))))
theorem e25_eq (a0Seps : List V) (a0Kids : List V) (a0High : List UInt8) (a0Next : Int) (a1 : List UInt8) (a2 : Int) : enterK qk false fa25 [V.agg [V.sl a0Seps, V.sl a0Kids, V.str a0High, V.int .i64 a0Next], V.str a1, V.int .i64 a2] [] = e25 a0Seps a0Kids a0High a0Next a1 a2 := by kernel_rfl
theorem e25_run (a0Seps : List V) (a0Kids : List V) (a0High : List UInt8) (a0Next : Int) (a1 : List UInt8) (a2 : Int) {o : Out} {v : V} (h : e25 a0Seps a0Kids a0High a0Next a1 a2 = some o) (hg : Go qk false 0 fa25 o (.done v)) : pcW qcfg 25 [V.agg [V.sl a0Seps, V.sl a0Kids, V.str a0High, V.int .i64 a0Next], V.str a1, V.int .i64 a2] = some v := pcW_go qik rfl fa25_eq ((e25_eq a0Seps a0Kids a0High a0Next a1 a2).trans h) hg
theorem e25_done (a0Seps : List V) (a0Kids : List V) (a0High : List UInt8) (a0Next : Int) (a1 : List UInt8) (a2 : Int) {v : V} (h : e25 a0Seps a0Kids a0High a0Next a1 a2 = some (.done v)) : pcW qcfg 25 [V.agg [V.sl a0Seps, V.sl a0Kids, V.str a0High, V.int .i64 a0Next], V.str a1, V.int .i64 a2] = some v := e25_run a0Seps a0Kids a0High a0Next a1 a2 h (.refl _)
/-! ### budwood/inner.Del -/
noncomputable def fa27 : FA := ⟨2, 48, [.cell 4 25, .tmp 5], [25, 27],
 (.seq
 (.ops false [o1 2 (.box 25 (t' 0)) 0, o1 4 (.alloc 25) 0, o1 5 (.assign (.const (.int .i64 (0)))) 27])
 (.seq
 (.seq
 (.ops false [o1 7 (.load 25 (t' 2)) 25, o1 8 (.call ⟨(.value (.func 13)), #[(t' 7)], #[25]⟩) 4, o1 9 (.unOp .not 4 (t' 8)) 4, mv 10 9 4, o2 11 (.move (t' 1)) 3 10 false, o2 12 (.binOp .lss 3 (t' 11) (.const (.int .i64 (0))) 3) 4 10 false, o1 13 (.pick (t' 10) (.const (.bool true)) (t' 12)) 4, mv 14 13 4, o2 15 (.move (t' 1)) 3 14 false, o2 16 (.fieldAddr 25 (t' 2) 1) 0 14 false, o2 17 (.load 23 (t' 16)) 23 14 false, o2 18 (.call ⟨(.builtin .len), #[(t' 17)], #[23]⟩) 3 14 false, o2 19 (.binOp .geq 3 (t' 15) (t' 18) 3) 4 14 false, o1 20 (.pick (t' 14) (.const (.bool true)) (t' 19)) 4, mv 21 20 4, o2 22 (.fieldAddr 25 (t' 2) 1) 0 21 false, o2 23 (.load 23 (t' 22)) 23 21 false, o2 24 (.call ⟨(.builtin .len), #[(t' 23)], #[23]⟩) 3 21 false, o2 25 (.binOp .eql 3 (t' 24) (.const (.int .i64 (1))) 3) 4 21 false, o1 26 (.pick (t' 21) (.const (.bool true)) (t' 25)) 4])
 (.cond (t' 26)
 (.seq
 (.ops false [o1 27 (.build 25 #[]) 25, o0 (.store 25 (t' 4) (t' 27)) 0, o1 5 (.assign (.const (.int .i64 (1)))) 27])
 (.ret))
 (.skip)))
 (.seq
 (.ops false [mv 28 1 3, o1 29 (.binOp .sub 3 (t' 28) (.const (.int .i64 (1))) 3) 3, o1 30 (.call ⟨(.builtin .max), #[(.const (.int .i64 (0))), (t' 29)], #[3, 3]⟩) 3, asg 6 30 3])
 (.seq
 (.ops false [o1 31 (.fieldAddr 25 (t' 2) 0) 0, o1 32 (.load 22 (t' 31)) 22, o1 33 (.call ⟨(.value (.func 57)), #[(t' 32)], #[22]⟩) 22, mv 34 6 3, mv 35 6 3, o1 36 (.binOp .add 3 (t' 35) (.const (.int .i64 (1))) 3) 3, o1 37 (.call ⟨(.value (.func 60)), #[(t' 33), (t' 34), (t' 36)], #[22, 3, 3]⟩) 22, o1 38 (.fieldAddr 25 (t' 2) 0) 0, o0 (.store 22 (t' 38) (t' 37)) 0])
 (.seq
 (.ops false [o1 39 (.fieldAddr 25 (t' 2) 1) 0, o1 40 (.load 23 (t' 39)) 23, o1 41 (.call ⟨(.value (.func 59)), #[(t' 40)], #[23]⟩) 23, mv 42 1 3, mv 43 1 3, o1 44 (.binOp .add 3 (t' 43) (.const (.int .i64 (1))) 3) 3, o1 45 (.call ⟨(.value (.func 61)), #[(t' 41), (t' 42), (t' 44)], #[23, 3, 3]⟩) 23, o1 46 (.fieldAddr 25 (t' 2) 1) 0, o0 (.store 23 (t' 46) (t' 45)) 0])
 (.seq
 (.ops false [o1 47 (.load 25 (t' 2)) 25, o0 (.store 25 (t' 4) (t' 47)) 0, o1 5 (.assign (.const (.int .i64 (0)))) 27])
 (.ret)))))))⟩
theorem fa27_eq : fnA qcfg.P (qcfg.rxf 27) 27 = some fa27 := by kernel_rfl
noncomputable def e27 (a0Seps : List V) (a0Kids : List V) (a0High : List UInt8) (a0Next : Int) (a1 : Int) : R :=
  pcK qcfg 13 [V.agg [V.sl a0Seps, V.sl a0Kids, V.str a0High, V.int .i64 a0Next]] fun r =>
  kB r fun r13 =>
  cond (!r13)
 (some (.done (V.tup [V.agg [V.sl [], V.sl [], V.str [], V.int .i64 0], V.int .i64 1])))
 (cond (decide (a1 < 0))
 (some (.done (V.tup [V.agg [V.sl [], V.sl [], V.str [], V.int .i64 0], V.int .i64 1])))
 (cond (decide (a1 ≥ (a0Kids.length : Int)))
 (some (.done (V.tup [V.agg [V.sl [], V.sl [], V.str [], V.int .i64 0], V.int .i64 1])))
 (cond ((a0Kids.length : Int) == (1 : Int))
 (some (.done (V.tup [V.agg [V.sl [], V.sl [], V.str [], V.int .i64 0], V.int .i64 1])))
 (pcK qcfg 57 [V.sl a0Seps] fun r_1 =>
  kF 9 r_1 fun r57 =>
  gd (decide (0 ≤ (if 0 < W .i64 (a1 - 1) then W .i64 (a1 - 1) else 0) ∧ (if 0 < W .i64 (a1 - 1) then W .i64 (a1 - 1) else 0) ≤ W .i64 ((if 0 < W .i64 (a1 - 1) then W .i64 (a1 - 1) else 0) + 1) ∧ (W .i64 ((if 0 < W .i64 (a1 - 1) then W .i64 (a1 - 1) else 0) + 1)).toNat ≤ r57.length ∧ r57.length ≤ 16777216)) <|
  pcK qcfg 59 [V.sl a0Kids] fun r_2 =>
  kF 3 r_2 fun r59 =>
  gd (decide (0 ≤ a1 ∧ a1 ≤ W .i64 (a1 + 1) ∧ (W .i64 (a1 + 1)).toNat ≤ r59.length ∧ r59.length ≤ 16777216)) <|
  some (.done (V.tup [V.agg [V.sl ((r57.take ((if 0 < W .i64 (a1 - 1) then W .i64 (a1 - 1) else 0).toNat)) ++ (r57.drop ((W .i64 ((if 0 < W .i64 (a1 - 1) then W .i64 (a1 - 1) else 0) + 1)).toNat))), V.sl ((r59.take a1.toNat) ++ (r59.drop ((W .i64 (a1 + 1)).toNat))), V.str a0High, V.int .i64 a0Next], V.int .i64 0]))))))
theorem e27_eq (a0Seps : List V) (a0Kids : List V) (a0High : List UInt8) (a0Next : Int) (a1 : Int) : enterK qk false fa27 [V.agg [V.sl a0Seps, V.sl a0Kids, V.str a0High, V.int .i64 a0Next], V.int .i64 a1] [] = e27 a0Seps a0Kids a0High a0Next a1 := by kernel_rfl
theorem e27_run (a0Seps : List V) (a0Kids : List V) (a0High : List UInt8) (a0Next : Int) (a1 : Int) {o : Out} {v : V} (h : e27 a0Seps a0Kids a0High a0Next a1 = some o) (hg : Go qk false 0 fa27 o (.done v)) : pcW qcfg 27 [V.agg [V.sl a0Seps, V.sl a0Kids, V.str a0High, V.int .i64 a0Next], V.int .i64 a1] = some v := pcW_go qik rfl fa27_eq ((e27_eq a0Seps a0Kids a0High a0Next a1).trans h) hg
theorem e27_done (a0Seps : List V) (a0Kids : List V) (a0High : List UInt8) (a0Next : Int) (a1 : Int) {v : V} (h : e27 a0Seps a0Kids a0High a0Next a1 = some (.done v)) : pcW qcfg 27 [V.agg [V.sl a0Seps, V.sl a0Kids, V.str a0High, V.int .i64 a0Next], V.int .i64 a1] = some v := e27_run a0Seps a0Kids a0High a0Next a1 h (.refl _)
/-! ### budwood/inner.Turn -/
noncomputable def fa29 : FA := ⟨3, 42, [.cell 6 25, .tmp 7], [25, 27],
 (.seq
 (.ops false [o1 3 (.box 25 (t' 0)) 0, o1 6 (.alloc 25) 0, o1 7 (.assign (.const (.int .i64 (0)))) 27])
 (.seq
 (.seq
 (.ops false [o1 8 (.load 25 (t' 3)) 25, o1 9 (.call ⟨(.value (.func 13)), #[(t' 8)], #[25]⟩) 4, o1 10 (.unOp .not 4 (t' 9)) 4, mv 11 10 4, o2 12 (.move (t' 1)) 3 11 false, o2 13 (.binOp .lss 3 (t' 12) (.const (.int .i64 (0))) 3) 4 11 false, o1 14 (.pick (t' 11) (.const (.bool true)) (t' 13)) 4, mv 15 14 4, o2 16 (.move (t' 1)) 3 15 false, o2 17 (.fieldAddr 25 (t' 3) 1) 0 15 false, o2 18 (.load 23 (t' 17)) 23 15 false, o2 19 (.call ⟨(.builtin .len), #[(t' 18)], #[23]⟩) 3 15 false, o2 20 (.binOp .geq 3 (t' 16) (t' 19) 3) 4 15 false, o1 21 (.pick (t' 15) (.const (.bool true)) (t' 20)) 4, mv 22 21 4, o2 23 (.move (t' 2)) 3 22 false, o2 24 (.call ⟨(.value (.func 40)), #[(t' 23)], #[3]⟩) 4 22 false, o2 25 (.unOp .not 4 (t' 24)) 4 22 false, o1 26 (.pick (t' 22) (.const (.bool true)) (t' 25)) 4])
 (.cond (t' 26)
 (.seq
 (.ops false [o1 27 (.build 25 #[]) 25, o0 (.store 25 (t' 6) (t' 27)) 0, o1 7 (.assign (.const (.int .i64 (1)))) 27])
 (.ret))
 (.skip)))
 (.seq
 (.ops true [o1 28 (.fieldAddr 25 (t' 3) 0) 0, o1 29 (.load 22 (t' 28)) 22, o1 30 (.call ⟨(.value (.func 57)), #[(t' 29)], #[22]⟩) 22, o1 31 (.fieldAddr 25 (t' 3) 1) 0, o1 32 (.load 23 (t' 31)) 23, ⟨(some 33), .call ⟨(.value (.func 59)), #[(t' 32)], #[23]⟩, 23, none, false, true, false⟩, o1 34 (.fieldAddr 25 (t' 3) 0) 0, o0 (.store 22 (t' 34) (t' 30)) 0, o1 35 (.fieldAddr 25 (t' 3) 1) 0, o0 (.store 23 (t' 35) (t' 33)) 0])
 (.seq
 (.ops false [o1 36 (.fieldAddr 25 (t' 3) 1) 0, o1 37 (.load 23 (t' 36)) 23, mv 38 1 3, mv 39 2 3, o1 40 (.indexAddr 23 (t' 37) (t' 38)) 0, o0 (.store 3 (t' 40) (t' 39)) 0])
 (.seq
 (.ops false [o1 41 (.load 25 (t' 3)) 25, o0 (.store 25 (t' 6) (t' 41)) 0, o1 7 (.assign (.const (.int .i64 (0)))) 27])
 (.ret))))))⟩
theorem fa29_eq : fnA qcfg.P (qcfg.rxf 29) 29 = some fa29 := by kernel_rfl
noncomputable def e29 (a0Seps : List V) (a0Kids : List V) (a0High : List UInt8) (a0Next : Int) (a1 : Int) (a2 : Int) : R :=
  pcK qcfg 13 [V.agg [V.sl a0Seps, V.sl a0Kids, V.str a0High, V.int .i64 a0Next]] fun r =>
  kB r fun r13 =>
  cond (!r13)
 (some (.done (V.tup [V.agg [V.sl [], V.sl [], V.str [], V.int .i64 0], V.int .i64 1])))
 (cond (decide (a1 < 0))
 (some (.done (V.tup [V.agg [V.sl [], V.sl [], V.str [], V.int .i64 0], V.int .i64 1])))
 (cond (decide (a1 ≥ (a0Kids.length : Int)))
 (some (.done (V.tup [V.agg [V.sl [], V.sl [], V.str [], V.int .i64 0], V.int .i64 1])))
 (pcK qcfg 40 [V.int .i64 a2] fun r_1 =>
  kB r_1 fun r40 =>
  cond (!r40)
 (some (.done (V.tup [V.agg [V.sl [], V.sl [], V.str [], V.int .i64 0], V.int .i64 1])))
 (pcK qcfg 57 [V.sl a0Seps] fun r_2 =>
  kF 9 r_2 fun r57 =>
  pcK qcfg 59 [V.sl a0Kids] fun r_3 =>
  kF 3 r_3 fun r59 =>
  gd (decide (0 ≤ a1)) <|
  gd (decide (a1.toNat < r59.length)) <|
  idxK r59 (0 + a1.toNat) fun v =>
  kI .i64 v fun n =>
  some (.done (V.tup [V.agg [V.sl r57, V.sl ((r59).set (0 + a1.toNat) (V.int .i64 a2)), V.str a0High, V.int .i64 a0Next], V.int .i64 0]))))))
theorem e29_eq (a0Seps : List V) (a0Kids : List V) (a0High : List UInt8) (a0Next : Int) (a1 : Int) (a2 : Int) : enterK qk false fa29 [V.agg [V.sl a0Seps, V.sl a0Kids, V.str a0High, V.int .i64 a0Next], V.int .i64 a1, V.int .i64 a2] [] = e29 a0Seps a0Kids a0High a0Next a1 a2 := by kernel_rfl
theorem e29_run (a0Seps : List V) (a0Kids : List V) (a0High : List UInt8) (a0Next : Int) (a1 : Int) (a2 : Int) {o : Out} {v : V} (h : e29 a0Seps a0Kids a0High a0Next a1 a2 = some o) (hg : Go qk false 0 fa29 o (.done v)) : pcW qcfg 29 [V.agg [V.sl a0Seps, V.sl a0Kids, V.str a0High, V.int .i64 a0Next], V.int .i64 a1, V.int .i64 a2] = some v := pcW_go qik rfl fa29_eq ((e29_eq a0Seps a0Kids a0High a0Next a1 a2).trans h) hg
theorem e29_done (a0Seps : List V) (a0Kids : List V) (a0High : List UInt8) (a0Next : Int) (a1 : Int) (a2 : Int) {v : V} (h : e29 a0Seps a0Kids a0High a0Next a1 a2 = some (.done v)) : pcW qcfg 29 [V.agg [V.sl a0Seps, V.sl a0Kids, V.str a0High, V.int .i64 a0Next], V.int .i64 a1, V.int .i64 a2] = some v := e29_run a0Seps a0Kids a0High a0Next a1 a2 h (.refl _)
/-! ### budwood/inner.Split -/
noncomputable def fa31 : FA := ⟨2, 72, [.cell 4 25, .cell 5 25, .tmp 6, .tmp 7], [25, 25, 9, 27],
 (.seq
 (.ops false [o1 2 (.box 25 (t' 0)) 0, o1 4 (.alloc 25) 0, o1 5 (.alloc 25) 0, o1 6 (.assign (.const (.string ⟨⟨[]⟩⟩))) 9, o1 7 (.assign (.const (.int .i64 (0)))) 27])
 (.seq
 (.seq
 (.ops false [o1 12 (.load 25 (t' 2)) 25, o1 13 (.call ⟨(.value (.func 13)), #[(t' 12)], #[25]⟩) 4, o1 14 (.unOp .not 4 (t' 13)) 4, mv 15 14 4, o2 16 (.fieldAddr 25 (t' 2) 1) 0 15 false, o2 17 (.load 23 (t' 16)) 23 15 false, o2 18 (.call ⟨(.builtin .len), #[(t' 17)], #[23]⟩) 3 15 false, o2 19 (.binOp .lss 3 (t' 18) (.const (.int .i64 (3))) 3) 4 15 false, o1 20 (.pick (t' 15) (.const (.bool true)) (t' 19)) 4, mv 21 20 4, o2 22 (.move (t' 1)) 3 21 false, o2 23 (.call ⟨(.value (.func 40)), #[(t' 22)], #[3]⟩) 4 21 false, o2 24 (.unOp .not 4 (t' 23)) 4 21 false, o1 25 (.pick (t' 21) (.const (.bool true)) (t' 24)) 4])
 (.cond (t' 25)
 (.seq
 (.ops false [o1 26 (.build 25 #[]) 25, o1 27 (.build 25 #[]) 25, o0 (.store 25 (t' 4) (t' 26)) 0, o0 (.store 25 (t' 5) (t' 27)) 0, o1 6 (.assign (.const (.string ⟨⟨[]⟩⟩))) 9, o1 7 (.assign (.const (.int .i64 (1)))) 27])
 (.ret))
 (.skip)))
 (.seq
 (.ops false [o1 28 (.fieldAddr 25 (t' 2) 0) 0, o1 29 (.load 22 (t' 28)) 22, o1 30 (.call ⟨(.builtin .len), #[(t' 29)], #[22]⟩) 3, o1 31 (.binOp .quo 3 (t' 30) (.const (.int .i64 (2))) 3) 3, asg 8 31 3])
 (.seq
 (.ops false [o1 32 (.fieldAddr 25 (t' 2) 0) 0, o1 33 (.load 22 (t' 32)) 22, mv 34 8 3, o1 35 (.indexAddr 22 (t' 33) (t' 34)) 0, o1 36 (.load 9 (t' 35)) 9, asg 9 36 9])
 (.seq
 (.ops true [o1 37 (.fieldAddr 25 (t' 2) 0) 0, o1 38 (.load 22 (t' 37)) 22, mv 39 8 3, o1 40 (.slice 22 (t' 38) none (some (t' 39)) none) 22, o1 41 (.call ⟨(.value (.func 57)), #[(t' 40)], #[22]⟩) 22, o1 42 (.fieldAddr 25 (t' 2) 1) 0, o1 43 (.load 23 (t' 42)) 23, mv 44 8 3, o1 45 (.binOp .add 3 (t' 44) (.const (.int .i64 (1))) 3) 3, o1 46 (.slice 23 (t' 43) none (some (t' 45)) none) 23, ⟨(some 47), .call ⟨(.value (.func 59)), #[(t' 46)], #[23]⟩, 23, none, false, true, false⟩, mv 48 9 9, mv 49 1 3, o1 50 (.binOp .add 3 (t' 49) (.const (.int .i64 (1))) 3) 3, o1 51 (.build 25 #[(0, (t' 41)), (1, (t' 47)), (2, (t' 48)), (3, (t' 50))]) 25, ⟨(some 10), .alloc 25, 0, none, true, false, false⟩, ⟨(some 10), .box 25 (t' 51), 0, none, true, false, false⟩])
 (.seq
 (.ops true [o1 52 (.fieldAddr 25 (t' 2) 0) 0, o1 53 (.load 22 (t' 52)) 22, mv 54 8 3, o1 55 (.binOp .add 3 (t' 54) (.const (.int .i64 (1))) 3) 3, o1 56 (.slice 22 (t' 53) (some (t' 55)) none none) 22, o1 57 (.call ⟨(.value (.func 57)), #[(t' 56)], #[22]⟩) 22, o1 58 (.fieldAddr 25 (t' 2) 1) 0, o1 59 (.load 23 (t' 58)) 23, mv 60 8 3, o1 61 (.binOp .add 3 (t' 60) (.const (.int .i64 (1))) 3) 3, o1 62 (.slice 23 (t' 59) (some (t' 61)) none none) 23, o1 63 (.call ⟨(.value (.func 59)), #[(t' 62)], #[23]⟩) 23, o1 64 (.fieldAddr 25 (t' 2) 2) 0, o1 65 (.load 9 (t' 64)) 9, o1 66 (.fieldAddr 25 (t' 2) 3) 0, o1 67 (.load 3 (t' 66)) 3, o1 68 (.build 25 #[(0, (t' 57)), (1, (t' 63)), (2, (t' 65)), (3, (t' 67))]) 25, ⟨(some 11), .alloc 25, 0, none, true, false, false⟩, ⟨(some 11), .box 25 (t' 68), 0, none, true, false, false⟩])
 (.seq
 (.ops true [⟨(some 69), .load 25 (t' 10), 25, none, true, false, false⟩, ⟨(some 70), .load 25 (t' 11), 25, none, true, false, false⟩, mv 71 9 9, ⟨none, .store 25 (t' 4) (t' 69), 0, none, true, false, false⟩, o0 (.store 25 (t' 5) (t' 70)) 0, asg 6 71 9, o1 7 (.assign (.const (.int .i64 (0)))) 27])
 (.ret))))))))⟩
theorem fa31_eq : fnA qcfg.P (qcfg.rxf 31) 31 = some fa31 := by kernel_rfl
noncomputable def e31 (a0Seps : List V) (a0Kids : List V) (a0High : List UInt8) (a0Next : Int) (a1 : Int) : R :=
  pcK qcfg 13 [V.agg [V.sl a0Seps, V.sl a0Kids, V.str a0High, V.int .i64 a0Next]] fun r =>
  kB r fun r13 =>
  cond (!r13)
 (some (.done (V.tup [V.agg [V.sl [], V.sl [], V.str [], V.int .i64 0], V.agg [V.sl [], V.sl [], V.str [], V.int .i64 0], V.str [], V.int .i64 1])))
 (cond (decide ((a0Kids.length : Int) < 3))
 (some (.done (V.tup [V.agg [V.sl [], V.sl [], V.str [], V.int .i64 0], V.agg [V.sl [], V.sl [], V.str [], V.int .i64 0], V.str [], V.int .i64 1])))
 (pcK qcfg 40 [V.int .i64 a1] fun r_1 =>
  kB r_1 fun r40 =>
  cond (!r40)
 (some (.done (V.tup [V.agg [V.sl [], V.sl [], V.str [], V.int .i64 0], V.agg [V.sl [], V.sl [], V.str [], V.int .i64 0], V.str [], V.int .i64 1])))
 (gd (decide (0 ≤ W .i64 (((a0Seps.length : Int).tdiv 2)))) <|
  idxK a0Seps ((W .i64 (((a0Seps.length : Int).tdiv 2))).toNat) fun v =>
  kS v fun s =>
  gd (wfl 1 a0Seps) <|
  gd (decide (0 ≤ W .i64 (((a0Seps.length : Int).tdiv 2)))) <|
  gd (decide ((W .i64 (((a0Seps.length : Int).tdiv 2))).toNat ≤ a0Seps.length)) <|
  pcK qcfg 57 [V.sl (a0Seps.take ((W .i64 (((a0Seps.length : Int).tdiv 2))).toNat))] fun r_2 =>
  kF 9 r_2 fun r57 =>
  gd (wfl 1 a0Kids) <|
  gd (decide (0 ≤ W .i64 ((W .i64 (((a0Seps.length : Int).tdiv 2))) + 1))) <|
  gd (decide ((W .i64 ((W .i64 (((a0Seps.length : Int).tdiv 2))) + 1)).toNat ≤ a0Kids.length)) <|
  pcK qcfg 59 [V.sl (a0Kids.take ((W .i64 ((W .i64 (((a0Seps.length : Int).tdiv 2))) + 1)).toNat))] fun r_3 =>
  kF 3 r_3 fun r59 =>
  gd (wfl 1 a0Seps) <|
  gd (decide (0 ≤ W .i64 ((W .i64 (((a0Seps.length : Int).tdiv 2))) + 1))) <|
  gd (decide ((W .i64 ((W .i64 (((a0Seps.length : Int).tdiv 2))) + 1)).toNat ≤ a0Seps.length)) <|
  pcK qcfg 57 [V.sl ((a0Seps.take a0Seps.length).drop ((W .i64 ((W .i64 (((a0Seps.length : Int).tdiv 2))) + 1)).toNat))] fun r_4 =>
  kF 9 r_4 fun r57_1 =>
  gd (wfl 1 a0Kids) <|
  gd (decide (0 ≤ W .i64 ((W .i64 (((a0Seps.length : Int).tdiv 2))) + 1))) <|
  gd (decide ((W .i64 ((W .i64 (((a0Seps.length : Int).tdiv 2))) + 1)).toNat ≤ a0Kids.length)) <|
  pcK qcfg 59 [V.sl ((a0Kids.take a0Kids.length).drop ((W .i64 ((W .i64 (((a0Seps.length : Int).tdiv 2))) + 1)).toNat))] fun r_5 =>
  kF 3 r_5 fun r59_1 =>
  some (.done (V.tup [V.agg [V.sl r57, V.sl r59, V.str s, V.int .i64 (W .i64 (a1 + 1))], V.agg [V.sl r57_1, V.sl r59_1, V.str a0High, V.int .i64 a0Next], V.str s, V.int .i64 0])))))
theorem e31_eq (a0Seps : List V) (a0Kids : List V) (a0High : List UInt8) (a0Next : Int) (a1 : Int) : enterK qk false fa31 [V.agg [V.sl a0Seps, V.sl a0Kids, V.str a0High, V.int .i64 a0Next], V.int .i64 a1] [] = e31 a0Seps a0Kids a0High a0Next a1 := by kernel_rfl
theorem e31_run (a0Seps : List V) (a0Kids : List V) (a0High : List UInt8) (a0Next : Int) (a1 : Int) {o : Out} {v : V} (h : e31 a0Seps a0Kids a0High a0Next a1 = some o) (hg : Go qk false 0 fa31 o (.done v)) : pcW qcfg 31 [V.agg [V.sl a0Seps, V.sl a0Kids, V.str a0High, V.int .i64 a0Next], V.int .i64 a1] = some v := pcW_go qik rfl fa31_eq ((e31_eq a0Seps a0Kids a0High a0Next a1).trans h) hg
theorem e31_done (a0Seps : List V) (a0Kids : List V) (a0High : List UInt8) (a0Next : Int) (a1 : Int) {v : V} (h : e31 a0Seps a0Kids a0High a0Next a1 = some (.done v)) : pcW qcfg 31 [V.agg [V.sl a0Seps, V.sl a0Kids, V.str a0High, V.int .i64 a0Next], V.int .i64 a1] = some v := e31_run a0Seps a0Kids a0High a0Next a1 h (.refl _)
/-! ### budwood/budwoodref11.Size -/
noncomputable def fa17 : FA := ⟨1, 26, [.tmp 2], [3],
 (.seq
 (.ops false [o1 1 (.box 30 (t' 0)) 0, o1 2 (.assign (.const (.int .i64 (0)))) 3])
 (.seq
 (.ops false [o1 5 (.fieldAddr 30 (t' 1) 2) 0, o1 6 (.load 9 (t' 5)) 9, o1 7 (.call ⟨(.builtin .len), #[(t' 6)], #[9]⟩) 3, o1 8 (.binOp .add 3 (.const (.int .i64 (7))) (t' 7) 3) 3, asg 3 8 3])
 (.seq
 (.seq
 (.ops false [o1 4 (.assign (.const (.int .i64 (0)))) 3])
 (.block 0
 (.loop ([0] ++ List.range' 5 21)
 (.seq
 (.seq
 (.ops false [mv 9 4 3, o1 10 (.fieldAddr 30 (t' 1) 0) 0, o1 11 (.load 22 (t' 10)) 22, o1 12 (.call ⟨(.builtin .len), #[(t' 11)], #[22]⟩) 3, o1 13 (.binOp .lss 3 (t' 9) (t' 12) 3) 4])
 (.cond (t' 13)
 (.skip)
 (.exit 0)))
 (.seq
 (.block 1
 (.ops false [mv 16 3 3, o1 17 (.binOp .add 3 (t' 16) (.const (.int .i64 (3))) 3) 3, o1 18 (.fieldAddr 30 (t' 1) 0) 0, o1 19 (.load 22 (t' 18)) 22, mv 20 4 3, o1 21 (.indexAddr 22 (t' 19) (t' 20)) 0, o1 22 (.load 9 (t' 21)) 9, o1 23 (.call ⟨(.builtin .len), #[(t' 22)], #[9]⟩) 3, o1 24 (.binOp .add 3 (t' 17) (t' 23) 3) 3, asg 3 24 3]))
 (.ops false [mv 14 4 3, o1 15 (.binOp .add 3 (t' 14) (.const (.int .i64 (1))) 3) 3, asg 4 15 3]))))))
 (.seq
 (.ops false [mv 25 3 3, asg 2 25 3])
 (.ret)))))⟩
theorem fa17_eq : fnA qcfg.P (qcfg.rxf 17) 17 = some fa17 := by kernel_rfl
def T17_0 (x3 : Int) (x4 : Int) (m0_0 : List V) (m0_1 : List V) (m0_2 : List UInt8) (m0_3 : Int) : S := ⟨[V.junk, V.ptr 0 0 0, V.int .i64 0, V.int .i64 x3, V.int .i64 x4] ++ (JU 21), [O.box 30 (V.agg [V.sl m0_0, V.sl m0_1, V.str m0_2, V.int .i64 m0_3]) false]⟩
noncomputable def e17 (a0Seps : List V) (a0Kids : List V) (a0High : List UInt8) (a0Next : Int) : R :=
  some (.head 0 (T17_0 (W .i64 (7 + (a0High.length : Int))) 0 a0Seps a0Kids a0High a0Next))
theorem e17_eq (a0Seps : List V) (a0Kids : List V) (a0High : List UInt8) (a0Next : Int) : enterK qk false fa17 [V.agg [V.sl a0Seps, V.sl a0Kids, V.str a0High, V.int .i64 a0Next]] [] = e17 a0Seps a0Kids a0High a0Next := by kernel_rfl
theorem e17_run (a0Seps : List V) (a0Kids : List V) (a0High : List UInt8) (a0Next : Int) {o : Out} {v : V} (h : e17 a0Seps a0Kids a0High a0Next = some o) (hg : Go qk false 0 fa17 o (.done v)) : pcW qcfg 17 [V.agg [V.sl a0Seps, V.sl a0Kids, V.str a0High, V.int .i64 a0Next]] = some v := pcW_go qik rfl fa17_eq ((e17_eq a0Seps a0Kids a0High a0Next).trans h) hg
noncomputable def s17_0 (x3 : Int) (x4 : Int) (m0_0 : List V) (m0_1 : List V) (m0_2 : List UInt8) (m0_3 : Int) : R :=
  cond (decide (x4 < (m0_0.length : Int)))
 (gd (decide (0 ≤ x4)) <|
  idxK m0_0 x4.toNat fun v =>
  kS v fun s =>
  some (.head 0 (T17_0 (W .i64 ((W .i64 (x3 + 3)) + (s.length : Int))) (W .i64 (x4 + 1)) m0_0 m0_1 m0_2 m0_3)))
 (some (.done (V.int .i64 x3)))
theorem s17_0_eq (x3 : Int) (x4 : Int) (m0_0 : List V) (m0_1 : List V) (m0_2 : List UInt8) (m0_3 : Int) : goK qk false 0 fa17 0 (T17_0 x3 x4 m0_0 m0_1 m0_2 m0_3) = s17_0 x3 x4 m0_0 m0_1 m0_2 m0_3 := by kernel_rfl
theorem s17_0_run (x3 : Int) (x4 : Int) (m0_0 : List V) (m0_1 : List V) (m0_2 : List UInt8) (m0_3 : Int) {o o' : Out} (h : s17_0 x3 x4 m0_0 m0_1 m0_2 m0_3 = some o) (hg : Go qk false 0 fa17 o o') : Go qk false 0 fa17 (.head 0 (T17_0 x3 x4 m0_0 m0_1 m0_2 m0_3)) o' := .step ((s17_0_eq x3 x4 m0_0 m0_1 m0_2 m0_3).trans h) hg
/-! ### budwood/budwoodref11.page -/
noncomputable def fa44 : FA := ⟨1, 9, [.tmp 2], [4],
 (.seq
 (.ops false [o1 2 (.assign (.const (.bool false))) 4])
 (.seq
 (.ops false [mv 3 0 3, o1 4 (.binOp .geq 3 (t' 3) (.const (.int .i64 (0))) 3) 4, mv 5 4 4, o2 6 (.move (t' 0)) 3 5 true, o2 7 (.binOp .leq 3 (t' 6) (.const (.int .i64 (1023))) 3) 4 5 true, o1 8 (.pick (t' 5) (t' 7) (.const (.bool false))) 4, asg 2 8 4])
 (.ret)))⟩
theorem fa44_eq : fnA qcfg.P (qcfg.rxf 44) 44 = some fa44 := by kernel_rfl
noncomputable def e44 (a0 : Int) : R :=
  cond (decide (a0 ≥ 0))
 (some (.done (V.bool (decide (a0 ≤ 1023)))))
 (some (.done (V.bool false)))
theorem e44_eq (a0 : Int) : enterK qk false fa44 [V.int .i64 a0] [] = e44 a0 := by kernel_rfl
theorem e44_run (a0 : Int) {o : Out} {v : V} (h : e44 a0 = some o) (hg : Go qk false 0 fa44 o (.done v)) : pcW qcfg 44 [V.int .i64 a0] = some v := pcW_go qik rfl fa44_eq ((e44_eq a0).trans h) hg
theorem e44_done (a0 : Int) {v : V} (h : e44 a0 = some (.done v)) : pcW qcfg 44 [V.int .i64 a0] = some v := e44_run a0 h (.refl _)
/-! ### budwood/budwoodref11.Right -/
noncomputable def fa14 : FA := ⟨1, 101, [.tmp 2], [4],
 (.seq
 (.ops false [o1 1 (.box 30 (t' 0)) 0, o1 2 (.assign (.const (.bool false))) 4])
 (.seq
 (.seq
 (.ops false [o1 3 (.assign (.const (.int .i64 (0)))) 3])
 (.block 0
 (.loop ([0] ++ List.range' 4 97)
 (.seq
 (.seq
 (.ops false [mv 5 3 3, o1 6 (.fieldAddr 30 (t' 1) 1) 0, o1 7 (.load 23 (t' 6)) 23, o1 8 (.call ⟨(.builtin .len), #[(t' 7)], #[23]⟩) 3, o1 9 (.binOp .lss 3 (t' 5) (t' 8) 3) 4])
 (.cond (t' 9)
 (.skip)
 (.exit 0)))
 (.seq
 (.block 1
 (.seq
 (.ops false [o1 12 (.fieldAddr 30 (t' 1) 1) 0, o1 13 (.load 23 (t' 12)) 23, mv 14 3 3, o1 15 (.indexAddr 23 (t' 13) (t' 14)) 0, o1 16 (.load 3 (t' 15)) 3, o1 17 (.call ⟨(.value (.func 44)), #[(t' 16)], #[3]⟩) 4, o1 18 (.unOp .not 4 (t' 17)) 4])
 (.cond (t' 18)
 (.seq
 (.ops false [o1 2 (.assign (.const (.bool false))) 4])
 (.ret))
 (.skip))))
 (.ops false [mv 10 3 3, o1 11 (.binOp .add 3 (t' 10) (.const (.int .i64 (1))) 3) 3, asg 3 11 3]))))))
 (.seq
 (.seq
 (.ops false [o1 4 (.assign (.const (.int .i64 (0)))) 3])
 (.block 2
 (.loop ([0, 3] ++ List.range' 5 96)
 (.seq
 (.seq
 (.ops false [mv 19 4 3, o1 20 (.fieldAddr 30 (t' 1) 0) 0, o1 21 (.load 22 (t' 20)) 22, o1 22 (.call ⟨(.builtin .len), #[(t' 21)], #[22]⟩) 3, o1 23 (.binOp .lss 3 (t' 19) (t' 22) 3) 4])
 (.cond (t' 23)
 (.skip)
 (.exit 2)))
 (.seq
 (.block 3
 (.seq
 (.ops true [o1 26 (.fieldAddr 30 (t' 1) 0) 0, o1 27 (.load 22 (t' 26)) 22, mv 28 4 3, o1 29 (.indexAddr 22 (t' 27) (t' 28)) 0, o1 30 (.load 9 (t' 29)) 9, ⟨(some 31), .call ⟨(.value (.func 45)), #[(t' 30)], #[9]⟩, 4, none, false, true, false⟩, o1 32 (.unOp .not 4 (t' 31)) 4, mv 33 32 4, o2 34 (.move (t' 4)) 3 33 false, o2 35 (.binOp .gtr 3 (t' 34) (.const (.int .i64 (0))) 3) 4 33 false, o2 36 (.move (t' 35)) 4 33 false, o2 37 (.fieldAddr 30 (t' 1) 0) 0 36 true, o2 38 (.load 22 (t' 37)) 22 36 true, o2 39 (.move (t' 4)) 3 36 true, o2 40 (.binOp .sub 3 (t' 39) (.const (.int .i64 (1))) 3) 3 36 true, o2 41 (.indexAddr 22 (t' 38) (t' 40)) 0 36 true, o2 42 (.load 9 (t' 41)) 9 36 true, o2 43 (.fieldAddr 30 (t' 1) 0) 0 36 true, o2 44 (.load 22 (t' 43)) 22 36 true, o2 45 (.move (t' 4)) 3 36 true, o2 46 (.indexAddr 22 (t' 44) (t' 45)) 0 36 true, o2 47 (.load 9 (t' 46)) 9 36 true, ⟨(some 48), .call ⟨(.value (.func 34)), #[(t' 42), (t' 47)], #[9, 9]⟩, 4, (some (36, true)), false, true, false⟩, o2 49 (.unOp .not 4 (t' 48)) 4 36 true, o2 50 (.pick (t' 36) (t' 49) (.const (.bool false))) 4 33 false, o1 51 (.pick (t' 33) (.const (.bool true)) (t' 50)) 4, mv 52 51 4, o2 53 (.fieldAddr 30 (t' 1) 2) 0 52 false, o2 54 (.load 9 (t' 53)) 9 52 false, o2 55 (.binOp .neq 9 (t' 54) (.const (.string ⟨⟨[]⟩⟩)) 9) 4 52 false, o2 56 (.move (t' 55)) 4 52 false, o2 57 (.fieldAddr 30 (t' 1) 0) 0 56 true, o2 58 (.load 22 (t' 57)) 22 56 true, o2 59 (.move (t' 4)) 3 56 true, o2 60 (.indexAddr 22 (t' 58) (t' 59)) 0 56 true, o2 61 (.load 9 (t' 60)) 9 56 true, o2 62 (.fieldAddr 30 (t' 1) 2) 0 56 true, o2 63 (.load 9 (t' 62)) 9 56 true, ⟨(some 64), .call ⟨(.value (.func 34)), #[(t' 61), (t' 63)], #[9, 9]⟩, 4, (some (56, true)), false, true, false⟩, o2 65 (.unOp .not 4 (t' 64)) 4 56 true, o2 66 (.pick (t' 56) (t' 65) (.const (.bool false))) 4 52 false, o1 67 (.pick (t' 52) (.const (.bool true)) (t' 66)) 4])
 (.cond (t' 67)
 (.seq
 (.ops false [o1 2 (.assign (.const (.bool false))) 4])
 (.ret))
 (.skip))))
 (.ops false [mv 24 4 3, o1 25 (.binOp .add 3 (t' 24) (.const (.int .i64 (1))) 3) 3, asg 4 25 3]))))))
 (.seq
 (.ops true [o1 68 (.fieldAddr 30 (t' 1) 1) 0, o1 69 (.load 23 (t' 68)) 23, o1 70 (.call ⟨(.builtin .len), #[(t' 69)], #[23]⟩) 3, o1 71 (.fieldAddr 30 (t' 1) 0) 0, o1 72 (.load 22 (t' 71)) 22, o1 73 (.call ⟨(.builtin .len), #[(t' 72)], #[22]⟩) 3, o1 74 (.binOp .add 3 (t' 73) (.const (.int .i64 (1))) 3) 3, o1 75 (.binOp .eql 3 (t' 70) (t' 74) 3) 4, mv 76 75 4, o2 77 (.fieldAddr 30 (t' 1) 2) 0 76 true, o2 78 (.load 9 (t' 77)) 9 76 true, o2 79 (.call ⟨(.builtin .len), #[(t' 78)], #[9]⟩) 3 76 true, o2 80 (.binOp .leq 3 (t' 79) (.const (.int .i64 (16))) 3) 4 76 true, o1 81 (.pick (t' 76) (t' 80) (.const (.bool false))) 4, mv 82 81 4, o2 83 (.fieldAddr 30 (t' 1) 3) 0 82 true, o2 84 (.load 3 (t' 83)) 3 82 true, o2 85 (.binOp .geq 3 (t' 84) (.const (.int .i64 (0))) 3) 4 82 true, o1 86 (.pick (t' 82) (t' 85) (.const (.bool false))) 4, mv 87 86 4, o2 88 (.fieldAddr 30 (t' 1) 3) 0 87 true, o2 89 (.load 3 (t' 88)) 3 87 true, o2 90 (.binOp .leq 3 (t' 89) (.const (.int .i64 (1024))) 3) 4 87 true, o1 91 (.pick (t' 87) (t' 90) (.const (.bool false))) 4, mv 92 91 4, o2 93 (.load 30 (t' 1)) 30 92 true, o2 94 (.call ⟨(.value (.func 17)), #[(t' 93)], #[30]⟩) 3 92 true, o2 95 (.fieldAddr 30 (t' 1) 2) 0 92 true, o2 96 (.load 9 (t' 95)) 9 92 true, o2 97 (.call ⟨(.builtin .len), #[(t' 96)], #[9]⟩) 3 92 true, o2 98 (.binOp .sub 3 (t' 94) (t' 97) 3) 3 92 true, o2 99 (.binOp .leq 3 (t' 98) (.const (.int .i64 (236))) 3) 4 92 true, o1 100 (.pick (t' 92) (t' 99) (.const (.bool false))) 4, asg 2 100 4])
 (.ret)))))⟩
theorem fa14_eq : fnA qcfg.P (qcfg.rxf 14) 14 = some fa14 := by kernel_rfl
def T14_0 (x3 : Int) (m0_0 : List V) (m0_1 : List V) (m0_2 : List UInt8) (m0_3 : Int) : S := ⟨[V.junk, V.ptr 0 0 0, V.bool false, V.int .i64 x3] ++ (JU 97), [O.box 30 (V.agg [V.sl m0_0, V.sl m0_1, V.str m0_2, V.int .i64 m0_3]) false]⟩
def T14_1 (x4 : Int) (m0_0 : List V) (m0_1 : List V) (m0_2 : List UInt8) (m0_3 : Int) : S := ⟨[V.junk, V.ptr 0 0 0, V.bool false, V.junk, V.int .i64 x4] ++ (JU 96), [O.box 30 (V.agg [V.sl m0_0, V.sl m0_1, V.str m0_2, V.int .i64 m0_3]) false]⟩
noncomputable def e14 (a0Seps : List V) (a0Kids : List V) (a0High : List UInt8) (a0Next : Int) : R :=
  some (.head 0 (T14_0 0 a0Seps a0Kids a0High a0Next))
theorem e14_eq (a0Seps : List V) (a0Kids : List V) (a0High : List UInt8) (a0Next : Int) : enterK qk false fa14 [V.agg [V.sl a0Seps, V.sl a0Kids, V.str a0High, V.int .i64 a0Next]] [] = e14 a0Seps a0Kids a0High a0Next := by kernel_rfl
theorem e14_run (a0Seps : List V) (a0Kids : List V) (a0High : List UInt8) (a0Next : Int) {o : Out} {v : V} (h : e14 a0Seps a0Kids a0High a0Next = some o) (hg : Go qk false 0 fa14 o (.done v)) : pcW qcfg 14 [V.agg [V.sl a0Seps, V.sl a0Kids, V.str a0High, V.int .i64 a0Next]] = some v := pcW_go qik rfl fa14_eq ((e14_eq a0Seps a0Kids a0High a0Next).trans h) hg
noncomputable def s14_0 (x3 : Int) (m0_0 : List V) (m0_1 : List V) (m0_2 : List UInt8) (m0_3 : Int) : R :=
  cond (decide (x3 < (m0_1.length : Int)))
 (gd (decide (0 ≤ x3)) <|
  idxK m0_1 x3.toNat fun v =>
  kI .i64 v fun n =>
  pcK qcfg 44 [V.int .i64 n] fun r =>
  kB r fun r44 =>
  cond (!r44)
 (some (.done (V.bool false)))
 (some (.head 0 (T14_0 (W .i64 (x3 + 1)) m0_0 m0_1 m0_2 m0_3))))
 (some (.head 1 (T14_1 0 m0_0 m0_1 m0_2 m0_3)))
theorem s14_0_eq (x3 : Int) (m0_0 : List V) (m0_1 : List V) (m0_2 : List UInt8) (m0_3 : Int) : goK qk false 0 fa14 0 (T14_0 x3 m0_0 m0_1 m0_2 m0_3) = s14_0 x3 m0_0 m0_1 m0_2 m0_3 := by kernel_rfl
theorem s14_0_run (x3 : Int) (m0_0 : List V) (m0_1 : List V) (m0_2 : List UInt8) (m0_3 : Int) {o o' : Out} (h : s14_0 x3 m0_0 m0_1 m0_2 m0_3 = some o) (hg : Go qk false 0 fa14 o o') : Go qk false 0 fa14 (.head 0 (T14_0 x3 m0_0 m0_1 m0_2 m0_3)) o' := .step ((s14_0_eq x3 m0_0 m0_1 m0_2 m0_3).trans h) hg
noncomputable def s14_1 (x4 : Int) (m0_0 : List V) (m0_1 : List V) (m0_2 : List UInt8) (m0_3 : Int) : R :=
  cond (decide (x4 < (m0_0.length : Int)))
 (gd (decide (0 ≤ x4)) <|
  idxK m0_0 x4.toNat fun v =>
  kS v fun s =>
  pcK qcfg 45 [V.str s] fun r =>
  kB r fun r45 =>
  cond (!r45)
 (some (.done (V.bool false)))
 (cond (decide (x4 > 0))
 (gd (decide (0 ≤ W .i64 (x4 - 1))) <|
  idxK m0_0 ((W .i64 (x4 - 1)).toNat) fun v_1 =>
  kS v_1 fun s_1 =>
  gd (decide (0 ≤ x4)) <|
  idxK m0_0 x4.toNat fun v_2 =>
  kS v_2 fun s_2 =>
  pcK qcfg 34 [V.str s_1, V.str s_2] fun r_1 =>
  kB r_1 fun r34 =>
  cond (!r34)
 (some (.done (V.bool false)))
 (cond (!(m0_2 == []))
 (gd (decide (0 ≤ x4)) <|
  idxK m0_0 x4.toNat fun v_3 =>
  kS v_3 fun s_3 =>
  pcK qcfg 34 [V.str s_3, V.str m0_2] fun r_2 =>
  kB r_2 fun r34_1 =>
  cond (!r34_1)
 (some (.done (V.bool false)))
 (some (.head 1 (T14_1 (W .i64 (x4 + 1)) m0_0 m0_1 m0_2 m0_3))))
 (some (.head 1 (T14_1 (W .i64 (x4 + 1)) m0_0 m0_1 m0_2 m0_3)))))
 (cond (!(m0_2 == []))
 (gd (decide (0 ≤ x4)) <|
  idxK m0_0 x4.toNat fun v_4 =>
  kS v_4 fun s_4 =>
  pcK qcfg 34 [V.str s_4, V.str m0_2] fun r_3 =>
  kB r_3 fun r34_2 =>
  cond (!r34_2)
 (some (.done (V.bool false)))
 (some (.head 1 (T14_1 (W .i64 (x4 + 1)) m0_0 m0_1 m0_2 m0_3))))
 (some (.head 1 (T14_1 (W .i64 (x4 + 1)) m0_0 m0_1 m0_2 m0_3))))))
 (cond ((m0_1.length : Int) == (W .i64 ((m0_0.length : Int) + 1)))
 (cond (decide ((m0_2.length : Int) ≤ 16))
 (cond (decide (m0_3 ≥ 0))
 (cond (decide (m0_3 ≤ 1024))
 (pcK qcfg 17 [V.agg [V.sl m0_0, V.sl m0_1, V.str m0_2, V.int .i64 m0_3]] fun r_4 =>
  kI .i64 r_4 fun r17 =>
  some (.done (V.bool (decide (W .i64 (r17 - (m0_2.length : Int)) ≤ 236)))))
 (some (.done (V.bool false))))
 (some (.done (V.bool false))))
 (some (.done (V.bool false))))
 (some (.done (V.bool false))))
theorem s14_1_eq (x4 : Int) (m0_0 : List V) (m0_1 : List V) (m0_2 : List UInt8) (m0_3 : Int) : goK qk false 0 fa14 1 (T14_1 x4 m0_0 m0_1 m0_2 m0_3) = s14_1 x4 m0_0 m0_1 m0_2 m0_3 := by kernel_rfl
theorem s14_1_run (x4 : Int) (m0_0 : List V) (m0_1 : List V) (m0_2 : List UInt8) (m0_3 : Int) {o o' : Out} (h : s14_1 x4 m0_0 m0_1 m0_2 m0_3 = some o) (hg : Go qk false 0 fa14 o o') : Go qk false 0 fa14 (.head 1 (T14_1 x4 m0_0 m0_1 m0_2 m0_3)) o' := .step ((s14_1_eq x4 m0_0 m0_1 m0_2 m0_3).trans h) hg
/-! ### budwood/budwoodref11.two -/
noncomputable def fa49 : FA := ⟨1, 11, [.tmp 2], [9],
 (.seq
 (.ops false [o1 2 (.assign (.const (.string ⟨⟨[]⟩⟩))) 9])
 (.seq
 (.ops false [mv 3 0 3, o1 4 (.binOp .rem 3 (t' 3) (.const (.int .i64 (256))) 3) 3, o1 5 (.convert 3 5 (t' 4)) 5, mv 6 0 3, o1 7 (.binOp .quo 3 (t' 6) (.const (.int .i64 (256))) 3) 3, o1 8 (.convert 3 5 (t' 7)) 5, o1 9 (.buildSlice 81 2 #[(0, (t' 5)), (1, (t' 8))]) 81, o1 10 (.convert 81 9 (t' 9)) 9, asg 2 10 9])
 (.ret)))⟩
theorem fa49_eq : fnA qcfg.P (qcfg.rxf 49) 49 = some fa49 := by kernel_rfl
noncomputable def e49 (a0 : Int) : R :=
  some (.done (V.str [UInt8.ofNat (W .u8 (a0.tmod 256)).toNat, UInt8.ofNat (W .u8 (W .i64 ((a0.tdiv 256)))).toNat]))
theorem e49_eq (a0 : Int) : enterK qk false fa49 [V.int .i64 a0] [] = e49 a0 := by kernel_rfl
theorem e49_run (a0 : Int) {o : Out} {v : V} (h : e49 a0 = some o) (hg : Go qk false 0 fa49 o (.done v)) : pcW qcfg 49 [V.int .i64 a0] = some v := pcW_go qik rfl fa49_eq ((e49_eq a0).trans h) hg
theorem e49_done (a0 : Int) {v : V} (h : e49 a0 = some (.done v)) : pcW qcfg 49 [V.int .i64 a0] = some v := e49_run a0 h (.refl _)
/-! ### budwood/budwoodref11.text -/
noncomputable def fa50 : FA := ⟨1, 10, [.tmp 2], [9],
 (.seq
 (.ops false [o1 2 (.assign (.const (.string ⟨⟨[]⟩⟩))) 9])
 (.seq
 (.ops false [mv 3 0 9, o1 4 (.call ⟨(.builtin .len), #[(t' 3)], #[9]⟩) 3, o1 5 (.convert 3 5 (t' 4)) 5, o1 6 (.buildSlice 81 1 #[(0, (t' 5))]) 81, o1 7 (.convert 81 9 (t' 6)) 9, mv 8 0 9, o1 9 (.binOp .add 9 (t' 7) (t' 8) 9) 9, asg 2 9 9])
 (.ret)))⟩
theorem fa50_eq : fnA qcfg.P (qcfg.rxf 50) 50 = some fa50 := by kernel_rfl
noncomputable def e50 (a0 : List UInt8) : R :=
  gd (decide (([UInt8.ofNat (W .u8 ((a0.length : Int))).toNat] : List UInt8).length + a0.length ≤ 4611686018427387904)) <|
  some (.done (V.str ([UInt8.ofNat (W .u8 ((a0.length : Int))).toNat] ++ a0)))
theorem e50_eq (a0 : List UInt8) : enterK qk false fa50 [V.str a0] [] = e50 a0 := by kernel_rfl
theorem e50_run (a0 : List UInt8) {o : Out} {v : V} (h : e50 a0 = some o) (hg : Go qk false 0 fa50 o (.done v)) : pcW qcfg 50 [V.str a0] = some v := pcW_go qik rfl fa50_eq ((e50_eq a0).trans h) hg
theorem e50_done (a0 : List UInt8) {v : V} (h : e50 a0 = some (.done v)) : pcW qcfg 50 [V.str a0] = some v := e50_run a0 h (.refl _)
/-! ### budwood/budwoodref11.Encode -/
noncomputable def fa19 : FA := ⟨1, 53, [.tmp 2], [9],
 (.seq
 (.ops false [o1 1 (.box 30 (t' 0)) 0, o1 2 (.assign (.const (.string ⟨⟨[]⟩⟩))) 9])
 (.seq
 (.seq
 (.ops false [o1 5 (.load 30 (t' 1)) 30, o1 6 (.call ⟨(.value (.func 14)), #[(t' 5)], #[30]⟩) 4, o1 7 (.unOp .not 4 (t' 6)) 4])
 (.cond (t' 7)
 (.seq
 (.ops false [o1 2 (.assign (.const (.string ⟨⟨[]⟩⟩))) 9])
 (.ret))
 (.skip)))
 (.seq
 (.ops true [o1 8 (.fieldAddr 30 (t' 1) 0) 0, ⟨(some 9), .load 22 (t' 8), 22, none, true, false, false⟩, ⟨(some 10), .call ⟨(.builtin .len), #[(t' 9)], #[22]⟩, 3, none, true, false, false⟩, o1 11 (.convert 3 5 (t' 10)) 5, ⟨(some 12), .buildSlice 81 1 #[(0, (t' 11))], 81, none, true, false, false⟩, o1 13 (.convert 81 9 (t' 12)) 9, o1 14 (.binOp .add 9 (.const (.string ⟨⟨[78]⟩⟩)) (t' 13) 9) 9, o1 15 (.fieldAddr 30 (t' 1) 3) 0, ⟨(some 16), .load 3 (t' 15), 3, none, true, false, false⟩, ⟨(some 17), .call ⟨(.value (.func 49)), #[(t' 16)], #[3]⟩, 9, none, true, false, false⟩, o1 18 (.binOp .add 9 (t' 14) (t' 17) 9) 9, o1 19 (.fieldAddr 30 (t' 1) 2) 0, ⟨(some 20), .load 9 (t' 19), 9, none, true, false, false⟩, ⟨(some 21), .call ⟨(.value (.func 50)), #[(t' 20)], #[9]⟩, 9, none, true, false, false⟩, o1 22 (.binOp .add 9 (t' 18) (t' 21) 9) 9, o1 23 (.fieldAddr 30 (t' 1) 1) 0, ⟨(some 24), .load 23 (t' 23), 23, none, true, false, false⟩, ⟨(some 25), .indexAddr 23 (t' 24) (.const (.int .i64 (0))), 0, none, true, false, false⟩, ⟨(some 26), .load 3 (t' 25), 3, none, true, false, false⟩, ⟨(some 27), .call ⟨(.value (.func 49)), #[(t' 26)], #[3]⟩, 9, none, true, false, false⟩, o1 28 (.binOp .add 9 (t' 22) (t' 27) 9) 9, asg 3 28 9])
 (.seq
 (.seq
 (.ops false [o1 4 (.assign (.const (.int .i64 (0)))) 3])
 (.block 0
 (.loop ([0] ++ List.range' 5 48)
 (.seq
 (.seq
 (.ops false [mv 29 4 3, o1 30 (.fieldAddr 30 (t' 1) 0) 0, o1 31 (.load 22 (t' 30)) 22, o1 32 (.call ⟨(.builtin .len), #[(t' 31)], #[22]⟩) 3, o1 33 (.binOp .lss 3 (t' 29) (t' 32) 3) 4])
 (.cond (t' 33)
 (.skip)
 (.exit 0)))
 (.seq
 (.block 1
 (.ops true [mv 36 3 9, o1 37 (.fieldAddr 30 (t' 1) 0) 0, o1 38 (.load 22 (t' 37)) 22, mv 39 4 3, o1 40 (.indexAddr 22 (t' 38) (t' 39)) 0, o1 41 (.load 9 (t' 40)) 9, o1 42 (.call ⟨(.value (.func 50)), #[(t' 41)], #[9]⟩) 9, o1 43 (.fieldAddr 30 (t' 1) 1) 0, o1 44 (.load 23 (t' 43)) 23, mv 45 4 3, o1 46 (.binOp .add 3 (t' 45) (.const (.int .i64 (1))) 3) 3, o1 47 (.indexAddr 23 (t' 44) (t' 46)) 0, o1 48 (.load 3 (t' 47)) 3, ⟨(some 49), .call ⟨(.value (.func 49)), #[(t' 48)], #[3]⟩, 9, none, false, true, false⟩, o1 50 (.binOp .add 9 (t' 42) (t' 49) 9) 9, o1 51 (.binOp .add 9 (t' 36) (t' 50) 9) 9, asg 3 51 9]))
 (.ops false [mv 34 4 3, o1 35 (.binOp .add 3 (t' 34) (.const (.int .i64 (1))) 3) 3, asg 4 35 3]))))))
 (.seq
 (.ops false [mv 52 3 9, asg 2 52 9])
 (.ret))))))⟩
theorem fa19_eq : fnA qcfg.P (qcfg.rxf 19) 19 = some fa19 := by kernel_rfl
def T19_0 (x3 : List UInt8) (x4 : Int) (m0_0 : List V) (m0_1 : List V) (m0_2 : List UInt8) (m0_3 : Int) : S := ⟨[V.junk, V.ptr 0 0 0, V.str [], V.str x3, V.int .i64 x4] ++ (JU 48), [O.box 30 (V.agg [V.sl m0_0, V.sl m0_1, V.str m0_2, V.int .i64 m0_3]) false]⟩
noncomputable def e19 (a0Seps : List V) (a0Kids : List V) (a0High : List UInt8) (a0Next : Int) : R :=
  pcK qcfg 14 [V.agg [V.sl a0Seps, V.sl a0Kids, V.str a0High, V.int .i64 a0Next]] fun r =>
  kB r fun r14 =>
  cond (!r14)
 (some (.done (V.str [])))
 (gd (decide (([78] : List UInt8).length + ([UInt8.ofNat (W .u8 ((a0Seps.length : Int))).toNat] : List UInt8).length ≤ 4611686018427387904)) <|
  pcK qcfg 49 [V.int .i64 a0Next] fun r_1 =>
  kS r_1 fun r49 =>
  gd (decide (([78] ++ [UInt8.ofNat (W .u8 ((a0Seps.length : Int))).toNat] : List UInt8).length + r49.length ≤ 4611686018427387904)) <|
  pcK qcfg 50 [V.str a0High] fun r_2 =>
  kS r_2 fun r50 =>
  gd (decide ((([78] ++ [UInt8.ofNat (W .u8 ((a0Seps.length : Int))).toNat]) ++ r49).length + r50.length ≤ 4611686018427387904)) <|
  idxK a0Kids 0 fun v =>
  kI .i64 v fun n =>
  pcK qcfg 49 [V.int .i64 n] fun r_3 =>
  kS r_3 fun r49_1 =>
  gd (decide (((([78] ++ [UInt8.ofNat (W .u8 ((a0Seps.length : Int))).toNat]) ++ r49) ++ r50).length + r49_1.length ≤ 4611686018427387904)) <|
  some (.head 0 (T19_0 (((([78] ++ [UInt8.ofNat (W .u8 ((a0Seps.length : Int))).toNat]) ++ r49) ++ r50) ++ r49_1) 0 a0Seps a0Kids a0High a0Next)))
theorem e19_eq (a0Seps : List V) (a0Kids : List V) (a0High : List UInt8) (a0Next : Int) : enterK qk false fa19 [V.agg [V.sl a0Seps, V.sl a0Kids, V.str a0High, V.int .i64 a0Next]] [] = e19 a0Seps a0Kids a0High a0Next := by kernel_rfl
theorem e19_run (a0Seps : List V) (a0Kids : List V) (a0High : List UInt8) (a0Next : Int) {o : Out} {v : V} (h : e19 a0Seps a0Kids a0High a0Next = some o) (hg : Go qk false 0 fa19 o (.done v)) : pcW qcfg 19 [V.agg [V.sl a0Seps, V.sl a0Kids, V.str a0High, V.int .i64 a0Next]] = some v := pcW_go qik rfl fa19_eq ((e19_eq a0Seps a0Kids a0High a0Next).trans h) hg
noncomputable def s19_0 (x3 : List UInt8) (x4 : Int) (m0_0 : List V) (m0_1 : List V) (m0_2 : List UInt8) (m0_3 : Int) : R :=
  cond (decide (x4 < (m0_0.length : Int)))
 (gd (decide (0 ≤ x4)) <|
  idxK m0_0 x4.toNat fun v =>
  kS v fun s =>
  pcK qcfg 50 [V.str s] fun r =>
  kS r fun r50 =>
  gd (decide (0 ≤ W .i64 (x4 + 1))) <|
  idxK m0_1 ((W .i64 (x4 + 1)).toNat) fun v_1 =>
  kI .i64 v_1 fun n =>
  pcK qcfg 49 [V.int .i64 n] fun r_1 =>
  kS r_1 fun r49 =>
  gd (decide (r50.length + r49.length ≤ 4611686018427387904)) <|
  gd (decide (x3.length + (r50 ++ r49).length ≤ 4611686018427387904)) <|
  some (.head 0 (T19_0 (x3 ++ (r50 ++ r49)) (W .i64 (x4 + 1)) m0_0 m0_1 m0_2 m0_3)))
 (some (.done (V.str x3)))
theorem s19_0_eq (x3 : List UInt8) (x4 : Int) (m0_0 : List V) (m0_1 : List V) (m0_2 : List UInt8) (m0_3 : Int) : goK qk false 0 fa19 0 (T19_0 x3 x4 m0_0 m0_1 m0_2 m0_3) = s19_0 x3 x4 m0_0 m0_1 m0_2 m0_3 := by kernel_rfl
theorem s19_0_run (x3 : List UInt8) (x4 : Int) (m0_0 : List V) (m0_1 : List V) (m0_2 : List UInt8) (m0_3 : Int) {o o' : Out} (h : s19_0 x3 x4 m0_0 m0_1 m0_2 m0_3 = some o) (hg : Go qk false 0 fa19 o o') : Go qk false 0 fa19 (.head 0 (T19_0 x3 x4 m0_0 m0_1 m0_2 m0_3)) o' := .step ((s19_0_eq x3 x4 m0_0 m0_1 m0_2 m0_3).trans h) hg
/-! ### budwood/budwoodref11.num -/
noncomputable def fa38 : FA := ⟨2, 15, [.tmp 4], [3],
 (.seq
 (.ops false [o1 4 (.assign (.const (.int .i64 (0)))) 3])
 (.seq
 (.ops false [mv 8 0 9, mv 9 1 3, o1 10 (.call ⟨(.value (.func 65)), #[(t' 8), (t' 9), (.const (.int .i64 (2)))], #[9, 3, 3]⟩) 97, mv 7 10 97, o1 11 (.extract (t' 7) 0) 83, o1 12 (.extract (t' 7) 1) 27, asg 5 11 83, asg 6 12 27])
 (.seq
 (.ops false [mv 13 5 83, o1 14 (.convert 83 3 (t' 13)) 3, asg 4 14 3])
 (.ret))))⟩
theorem fa38_eq : fnA qcfg.P (qcfg.rxf 38) 38 = some fa38 := by kernel_rfl
noncomputable def e38 (a0 : List UInt8) (a1 : Int) : R :=
  pcK qcfg 65 [V.str a0, V.int .i64 a1, V.int .i64 2] fun r =>
  d97 r fun r65_0 r65_1 =>
  some (.done (V.int .i64 (W .i64 (r65_0))))
theorem e38_eq (a0 : List UInt8) (a1 : Int) : enterK qk false fa38 [V.str a0, V.int .i64 a1] [] = e38 a0 a1 := by kernel_rfl
theorem e38_run (a0 : List UInt8) (a1 : Int) {o : Out} {v : V} (h : e38 a0 a1 = some o) (hg : Go qk false 0 fa38 o (.done v)) : pcW qcfg 38 [V.str a0, V.int .i64 a1] = some v := pcW_go qik rfl fa38_eq ((e38_eq a0 a1).trans h) hg
theorem e38_done (a0 : List UInt8) (a1 : Int) {v : V} (h : e38 a0 a1 = some (.done v)) : pcW qcfg 38 [V.str a0, V.int .i64 a1] = some v := e38_run a0 a1 h (.refl _)
/-! ### budwood/budwoodref11.Decode -/
noncomputable def fa12 : FA := ⟨1, 105, [.cell 2 30, .tmp 3], [30, 27],
 (.seq
 (.ops false [o1 2 (.alloc 30) 0, o1 3 (.assign (.const (.int .i64 (0)))) 27])
 (.seq
 (.seq
 (.ops false [mv 14 0 9, o1 15 (.call ⟨(.builtin .len), #[(t' 14)], #[9]⟩) 3, o1 16 (.binOp .lss 3 (t' 15) (.const (.int .i64 (5))) 3) 4, mv 17 16 4, o2 18 (.move (t' 0)) 9 17 false, o2 19 (.call ⟨(.builtin .len), #[(t' 18)], #[9]⟩) 3 17 false, o2 20 (.binOp .gtr 3 (t' 19) (.const (.int .i64 (252))) 3) 4 17 false, o1 21 (.pick (t' 17) (.const (.bool true)) (t' 20)) 4])
 (.cond (t' 21)
 (.seq
 (.ops false [o1 22 (.build 30 #[]) 30, o0 (.store 30 (t' 2) (t' 22)) 0, o1 3 (.assign (.const (.int .i64 (4)))) 27])
 (.ret))
 (.skip)))
 (.seq
 (.ops false [mv 23 0 9, o1 24 (.call ⟨(.value (.func 38)), #[(t' 23), (.const (.int .i64 (2)))], #[9, 3]⟩) 3, o1 25 (.build 30 #[(3, (t' 24))]) 30, o1 4 (.alloc 30) 0, o0 (.store 30 (t' 4) (t' 25)) 0])
 (.seq
 (.ops false [mv 27 0 9, o1 28 (.call ⟨(.value (.func 39)), #[(t' 27), (.const (.int .i64 (4)))], #[9, 3]⟩) 74, mv 26 28 74, o1 29 (.extract (t' 26) 0) 9, o1 30 (.extract (t' 26) 1) 3, o1 31 (.extract (t' 26) 2) 27, asg 5 29 9, asg 6 30 3, asg 7 31 27])
 (.seq
 (.ops false [mv 32 5 9, o1 33 (.fieldAddr 30 (t' 4) 2) 0, o0 (.store 9 (t' 33) (t' 32)) 0])
 (.seq
 (.ops true [o1 34 (.fieldAddr 30 (t' 4) 1) 0, ⟨(some 35), .load 23 (t' 34), 23, none, true, false, false⟩, mv 36 0 9, mv 37 6 3, ⟨(some 38), .call ⟨(.value (.func 38)), #[(t' 36), (t' 37)], #[9, 3]⟩, 3, none, true, false, false⟩, ⟨(some 39), .buildSlice 23 1 #[(0, (t' 38))], 23, none, true, false, false⟩, o1 40 (.call ⟨(.builtin .append), #[(t' 35), (t' 39)], #[23, 23]⟩) 23, o1 41 (.fieldAddr 30 (t' 4) 1) 0, o0 (.store 23 (t' 41) (t' 40)) 0])
 (.seq
 (.ops false [mv 42 6 3, o1 43 (.binOp .add 3 (t' 42) (.const (.int .i64 (2))) 3) 3, asg 6 43 3])
 (.seq
 (.seq
 (.ops false [o1 8 (.assign (.const (.int .i64 (0)))) 3])
 (.block 0
 (.loop ([1, 5] ++ List.range' 9 96)
 (.seq
 (.seq
 (.ops false [mv 44 8 3, mv 45 0 9, o1 46 (.index 9 (t' 45) (.const (.int .i64 (1)))) 5, o1 47 (.convert 5 3 (t' 46)) 3, o1 48 (.binOp .lss 3 (t' 44) (t' 47) 3) 4, mv 49 48 4, o2 50 (.move (t' 7)) 27 49 true, o2 51 (.binOp .eql 27 (t' 50) (.const (.int .i64 (0))) 27) 4 49 true, o1 52 (.pick (t' 49) (t' 51) (.const (.bool false))) 4])
 (.cond (t' 52)
 (.skip)
 (.exit 0)))
 (.seq
 (.block 1
 (.seq
 (.ops false [mv 56 0 9, mv 57 6 3, o1 58 (.call ⟨(.value (.func 39)), #[(t' 56), (t' 57)], #[9, 3]⟩) 74, mv 55 58 74, o1 59 (.extract (t' 55) 0) 9, o1 60 (.extract (t' 55) 1) 3, o1 61 (.extract (t' 55) 2) 27, asg 9 59 9, asg 10 60 3, asg 11 61 27])
 (.seq
 (.ops false [mv 62 11 27, asg 7 62 27])
 (.seq
 (.ops false [o1 63 (.fieldAddr 30 (t' 4) 0) 0, o1 64 (.load 22 (t' 63)) 22, mv 65 9 9, o1 66 (.buildSlice 22 1 #[(0, (t' 65))]) 22, o1 67 (.call ⟨(.builtin .append), #[(t' 64), (t' 66)], #[22, 22]⟩) 22, o1 68 (.fieldAddr 30 (t' 4) 0) 0, o0 (.store 22 (t' 68) (t' 67)) 0])
 (.seq
 (.ops true [o1 69 (.fieldAddr 30 (t' 4) 1) 0, ⟨(some 70), .load 23 (t' 69), 23, none, true, false, false⟩, mv 71 0 9, mv 72 10 3, ⟨(some 73), .call ⟨(.value (.func 38)), #[(t' 71), (t' 72)], #[9, 3]⟩, 3, none, true, false, false⟩, ⟨(some 74), .buildSlice 23 1 #[(0, (t' 73))], 23, none, true, false, false⟩, o1 75 (.call ⟨(.builtin .append), #[(t' 70), (t' 74)], #[23, 23]⟩) 23, o1 76 (.fieldAddr 30 (t' 4) 1) 0, o0 (.store 23 (t' 76) (t' 75)) 0])
 (.ops false [mv 77 10 3, o1 78 (.binOp .add 3 (t' 77) (.const (.int .i64 (2))) 3) 3, asg 6 78 3]))))))
 (.ops false [mv 53 8 3, o1 54 (.binOp .add 3 (t' 53) (.const (.int .i64 (1))) 3) 3, asg 8 54 3]))))))
 (.seq
 (.ops false [o1 80 (.load 30 (t' 4)) 30, o1 81 (.call ⟨(.value (.func 19)), #[(t' 80)], #[30]⟩) 9, mv 82 0 9, o1 83 (.call ⟨(.builtin .len), #[(t' 82)], #[9]⟩) 3, o1 84 (.call ⟨(.value (.func 33)), #[(t' 81), (t' 83)], #[9, 3]⟩) 59, mv 79 84 59, o1 85 (.extract (t' 79) 0) 9, o1 86 (.extract (t' 79) 1) 27, asg 12 85 9, asg 13 86 27])
 (.seq
 (.seq
 (.ops false [mv 87 7 27, o1 88 (.binOp .neq 27 (t' 87) (.const (.int .i64 (0))) 27) 4, mv 89 88 4, o2 90 (.move (t' 13)) 27 89 false, o2 91 (.binOp .neq 27 (t' 90) (.const (.int .i64 (0))) 27) 4 89 false, o1 92 (.pick (t' 89) (.const (.bool true)) (t' 91)) 4, mv 93 92 4, o2 94 (.move (t' 12)) 9 93 false, o2 95 (.move (t' 0)) 9 93 false, o2 96 (.binOp .neq 9 (t' 94) (t' 95) 9) 4 93 false, o1 97 (.pick (t' 93) (.const (.bool true)) (t' 96)) 4, mv 98 97 4, o2 99 (.load 30 (t' 4)) 30 98 false, o2 100 (.call ⟨(.value (.func 14)), #[(t' 99)], #[30]⟩) 4 98 false, o2 101 (.unOp .not 4 (t' 100)) 4 98 false, o1 102 (.pick (t' 98) (.const (.bool true)) (t' 101)) 4])
 (.cond (t' 102)
 (.seq
 (.ops false [o1 103 (.build 30 #[]) 30, o0 (.store 30 (t' 2) (t' 103)) 0, o1 3 (.assign (.const (.int .i64 (4)))) 27])
 (.ret))
 (.skip)))
 (.seq
 (.ops false [o1 104 (.load 30 (t' 4)) 30, o0 (.store 30 (t' 2) (t' 104)) 0, o1 3 (.assign (.const (.int .i64 (0)))) 27])
 (.ret))))))))))))⟩
theorem fa12_eq : fnA qcfg.P (qcfg.rxf 12) 12 = some fa12 := by kernel_rfl
def T12_0 (x0 : List UInt8) (x6 : Int) (x7 : Int) (m1_2 : List UInt8) (m1_3 : Int) (m4 : List V) : S := ⟨[V.str x0, V.junk, V.ptr 0 0 0, V.int .i64 0, V.ptr 1 0 0, V.junk, V.int .i64 x6, V.int .i64 x7, V.int .i64 0] ++ (JU 96), [O.box 30 (V.agg [V.tail 2 0, V.tail 3 0, V.str [], V.int .i64 0]) false, O.box 30 (V.agg [V.nilS, V.tail 4 0, V.str m1_2, V.int .i64 m1_3]) false, O.row 9 [] 0, O.row 3 [] 0, O.row 3 m4 0]⟩
def T12_0b (x0 : List UInt8) (x6 : Int) (x7 : Int) (x8 : Int) (m1_2 : List UInt8) (m1_3 : Int) (m4 : List V) (m5 : List V) : S := ⟨[V.str x0, V.junk, V.ptr 0 0 0, V.int .i64 0, V.ptr 1 0 0, V.junk, V.int .i64 x6, V.int .i64 x7, V.int .i64 x8] ++ (JU 96), [O.box 30 (V.agg [V.tail 2 0, V.tail 3 0, V.str [], V.int .i64 0]) false, O.box 30 (V.agg [V.tail 4 0, V.tail 5 0, V.str m1_2, V.int .i64 m1_3]) false, O.row 9 [] 0, O.row 3 [] 0, O.row 9 m4 0, O.row 3 m5 0]⟩
noncomputable def e12 (a0 : List UInt8) : R :=
  cond (decide ((a0.length : Int) < 5))
 (some (.done (V.tup [V.agg [V.sl [], V.sl [], V.str [], V.int .i64 0], V.int .i64 4])))
 (cond (decide ((a0.length : Int) > 252))
 (some (.done (V.tup [V.agg [V.sl [], V.sl [], V.str [], V.int .i64 0], V.int .i64 4])))
 (pcK qcfg 38 [V.str a0, V.int .i64 2] fun r =>
  kI .i64 r fun r38 =>
  pcK qcfg 39 [V.str a0, V.int .i64 4] fun r_1 =>
  d74 r_1 fun r39_0 r39_1 r39_2 =>
  pcK qcfg 38 [V.str a0, V.int .i64 r39_1] fun r_2 =>
  kI .i64 r_2 fun r38_1 =>
  gd (decide (([V.int .i64 r38_1] : List V).length ≤ 16777216)) <|
  some (.head 0 (T12_0 a0 (W .i64 (r39_1 + 2)) r39_2 r39_0 r38 [V.int .i64 r38_1]))))
theorem e12_eq (a0 : List UInt8) : enterK qk false fa12 [V.str a0] [] = e12 a0 := by kernel_rfl
theorem e12_run (a0 : List UInt8) {o : Out} {v : V} (h : e12 a0 = some o) (hg : Go qk false 0 fa12 o (.done v)) : pcW qcfg 12 [V.str a0] = some v := pcW_go qik rfl fa12_eq ((e12_eq a0).trans h) hg
noncomputable def s12_0 (x0 : List UInt8) (x6 : Int) (x7 : Int) (m1_2 : List UInt8) (m1_3 : Int) (m4 : List V) : R :=
  idxK x0 1 fun c =>
  cond (decide (0 < W .i64 ((c.toNat : Int))))
 (cond (x7 == (0 : Int))
 (pcK qcfg 39 [V.str x0, V.int .i64 x6] fun r =>
  d74 r fun r39_0 r39_1 r39_2 =>
  gd (decide (([V.str r39_0] : List V).length ≤ 16777216)) <|
  pcK qcfg 38 [V.str x0, V.int .i64 r39_1] fun r_1 =>
  kI .i64 r_1 fun r38 =>
  gd (decide (m4.length + ([V.int .i64 r38] : List V).length ≤ 16777216)) <|
  some (.head 0 (T12_0b x0 (W .i64 (r39_1 + 2)) r39_2 1 m1_2 m1_3 [V.str r39_0] (m4 ++ [V.int .i64 r38]))))
 (pcK qcfg 19 [V.agg [V.sl [], V.sl m4, V.str m1_2, V.int .i64 m1_3]] fun r_2 =>
  kS r_2 fun r19 =>
  pcK qcfg 33 [V.str r19, V.int .i64 (x0.length : Int)] fun r_3 =>
  d59 r_3 fun r33_0 r33_1 =>
  cond (x7 != (0 : Int))
 (some (.done (V.tup [V.agg [V.sl [], V.sl [], V.str [], V.int .i64 0], V.int .i64 4])))
 (cond (r33_1 != (0 : Int))
 (some (.done (V.tup [V.agg [V.sl [], V.sl [], V.str [], V.int .i64 0], V.int .i64 4])))
 (cond (!(r33_0 == x0))
 (some (.done (V.tup [V.agg [V.sl [], V.sl [], V.str [], V.int .i64 0], V.int .i64 4])))
 (pcK qcfg 14 [V.agg [V.sl [], V.sl m4, V.str m1_2, V.int .i64 m1_3]] fun r_4 =>
  kB r_4 fun r14 =>
  cond (!r14)
 (some (.done (V.tup [V.agg [V.sl [], V.sl [], V.str [], V.int .i64 0], V.int .i64 4])))
 (some (.done (V.tup [V.agg [V.sl [], V.sl m4, V.str m1_2, V.int .i64 m1_3], V.int .i64 0]))))))))
 (pcK qcfg 19 [V.agg [V.sl [], V.sl m4, V.str m1_2, V.int .i64 m1_3]] fun r_5 =>
  kS r_5 fun r19_1 =>
  pcK qcfg 33 [V.str r19_1, V.int .i64 (x0.length : Int)] fun r_6 =>
  d59 r_6 fun r33_0_1 r33_1_1 =>
  cond (x7 != (0 : Int))
 (some (.done (V.tup [V.agg [V.sl [], V.sl [], V.str [], V.int .i64 0], V.int .i64 4])))
 (cond (r33_1_1 != (0 : Int))
 (some (.done (V.tup [V.agg [V.sl [], V.sl [], V.str [], V.int .i64 0], V.int .i64 4])))
 (cond (!(r33_0_1 == x0))
 (some (.done (V.tup [V.agg [V.sl [], V.sl [], V.str [], V.int .i64 0], V.int .i64 4])))
 (pcK qcfg 14 [V.agg [V.sl [], V.sl m4, V.str m1_2, V.int .i64 m1_3]] fun r_7 =>
  kB r_7 fun r14_1 =>
  cond (!r14_1)
 (some (.done (V.tup [V.agg [V.sl [], V.sl [], V.str [], V.int .i64 0], V.int .i64 4])))
 (some (.done (V.tup [V.agg [V.sl [], V.sl m4, V.str m1_2, V.int .i64 m1_3], V.int .i64 0])))))))
theorem s12_0_eq (x0 : List UInt8) (x6 : Int) (x7 : Int) (m1_2 : List UInt8) (m1_3 : Int) (m4 : List V) : goK qk false 0 fa12 0 (T12_0 x0 x6 x7 m1_2 m1_3 m4) = s12_0 x0 x6 x7 m1_2 m1_3 m4 := by kernel_rfl
theorem s12_0_run (x0 : List UInt8) (x6 : Int) (x7 : Int) (m1_2 : List UInt8) (m1_3 : Int) (m4 : List V) {o o' : Out} (h : s12_0 x0 x6 x7 m1_2 m1_3 m4 = some o) (hg : Go qk false 0 fa12 o o') : Go qk false 0 fa12 (.head 0 (T12_0 x0 x6 x7 m1_2 m1_3 m4)) o' := .step ((s12_0_eq x0 x6 x7 m1_2 m1_3 m4).trans h) hg
noncomputable def s12_0b (x0 : List UInt8) (x6 : Int) (x7 : Int) (x8 : Int) (m1_2 : List UInt8) (m1_3 : Int) (m4 : List V) (m5 : List V) : R :=
  idxK x0 1 fun c =>
  cond (decide (x8 < W .i64 ((c.toNat : Int))))
 (cond (x7 == (0 : Int))
 (pcK qcfg 39 [V.str x0, V.int .i64 x6] fun r =>
  d74 r fun r39_0 r39_1 r39_2 =>
  gd (decide (m4.length + ([V.str r39_0] : List V).length ≤ 16777216)) <|
  pcK qcfg 38 [V.str x0, V.int .i64 r39_1] fun r_1 =>
  kI .i64 r_1 fun r38 =>
  gd (decide (m5.length + ([V.int .i64 r38] : List V).length ≤ 16777216)) <|
  some (.head 0 (T12_0b x0 (W .i64 (r39_1 + 2)) r39_2 (W .i64 (x8 + 1)) m1_2 m1_3 (m4 ++ [V.str r39_0]) (m5 ++ [V.int .i64 r38]))))
 (pcK qcfg 19 [V.agg [V.sl m4, V.sl m5, V.str m1_2, V.int .i64 m1_3]] fun r_2 =>
  kS r_2 fun r19 =>
  pcK qcfg 33 [V.str r19, V.int .i64 (x0.length : Int)] fun r_3 =>
  d59 r_3 fun r33_0 r33_1 =>
  cond (x7 != (0 : Int))
 (some (.done (V.tup [V.agg [V.sl [], V.sl [], V.str [], V.int .i64 0], V.int .i64 4])))
 (cond (r33_1 != (0 : Int))
 (some (.done (V.tup [V.agg [V.sl [], V.sl [], V.str [], V.int .i64 0], V.int .i64 4])))
 (cond (!(r33_0 == x0))
 (some (.done (V.tup [V.agg [V.sl [], V.sl [], V.str [], V.int .i64 0], V.int .i64 4])))
 (pcK qcfg 14 [V.agg [V.sl m4, V.sl m5, V.str m1_2, V.int .i64 m1_3]] fun r_4 =>
  kB r_4 fun r14 =>
  cond (!r14)
 (some (.done (V.tup [V.agg [V.sl [], V.sl [], V.str [], V.int .i64 0], V.int .i64 4])))
 (some (.done (V.tup [V.agg [V.sl m4, V.sl m5, V.str m1_2, V.int .i64 m1_3], V.int .i64 0]))))))))
 (pcK qcfg 19 [V.agg [V.sl m4, V.sl m5, V.str m1_2, V.int .i64 m1_3]] fun r_5 =>
  kS r_5 fun r19_1 =>
  pcK qcfg 33 [V.str r19_1, V.int .i64 (x0.length : Int)] fun r_6 =>
  d59 r_6 fun r33_0_1 r33_1_1 =>
  cond (x7 != (0 : Int))
 (some (.done (V.tup [V.agg [V.sl [], V.sl [], V.str [], V.int .i64 0], V.int .i64 4])))
 (cond (r33_1_1 != (0 : Int))
 (some (.done (V.tup [V.agg [V.sl [], V.sl [], V.str [], V.int .i64 0], V.int .i64 4])))
 (cond (!(r33_0_1 == x0))
 (some (.done (V.tup [V.agg [V.sl [], V.sl [], V.str [], V.int .i64 0], V.int .i64 4])))
 (pcK qcfg 14 [V.agg [V.sl m4, V.sl m5, V.str m1_2, V.int .i64 m1_3]] fun r_7 =>
  kB r_7 fun r14_1 =>
  cond (!r14_1)
 (some (.done (V.tup [V.agg [V.sl [], V.sl [], V.str [], V.int .i64 0], V.int .i64 4])))
 (some (.done (V.tup [V.agg [V.sl m4, V.sl m5, V.str m1_2, V.int .i64 m1_3], V.int .i64 0])))))))
theorem s12_0b_eq (x0 : List UInt8) (x6 : Int) (x7 : Int) (x8 : Int) (m1_2 : List UInt8) (m1_3 : Int) (m4 : List V) (m5 : List V) : goK qk false 0 fa12 0 (T12_0b x0 x6 x7 x8 m1_2 m1_3 m4 m5) = s12_0b x0 x6 x7 x8 m1_2 m1_3 m4 m5 := by kernel_rfl
theorem s12_0b_run (x0 : List UInt8) (x6 : Int) (x7 : Int) (x8 : Int) (m1_2 : List UInt8) (m1_3 : Int) (m4 : List V) (m5 : List V) {o o' : Out} (h : s12_0b x0 x6 x7 x8 m1_2 m1_3 m4 m5 = some o) (hg : Go qk false 0 fa12 o o') : Go qk false 0 fa12 (.head 0 (T12_0b x0 x6 x7 x8 m1_2 m1_3 m4 m5)) o' := .step ((s12_0b_eq x0 x6 x7 x8 m1_2 m1_3 m4 m5).trans h) hg
/-! ### budwood/budwoodref11.Same -/
noncomputable def fa21 : FA := ⟨2, 31, [.tmp 4], [4],
 (.seq
 (.ops false [o1 2 (.box 30 (t' 0)) 0, o1 3 (.box 30 (t' 1)) 0, o1 4 (.assign (.const (.bool false))) 4])
 (.seq
 (.ops false [o1 5 (.fieldAddr 30 (t' 2) 0) 0, o1 6 (.load 22 (t' 5)) 22, o1 7 (.fieldAddr 30 (t' 3) 0) 0, o1 8 (.load 22 (t' 7)) 22, o1 9 (.call ⟨(.value (.func 53)), #[(t' 6), (t' 8)], #[22, 22]⟩) 4, mv 10 9 4, o2 11 (.fieldAddr 30 (t' 2) 1) 0 10 true, o2 12 (.load 23 (t' 11)) 23 10 true, o2 13 (.fieldAddr 30 (t' 3) 1) 0 10 true, o2 14 (.load 23 (t' 13)) 23 10 true, o2 15 (.call ⟨(.value (.func 54)), #[(t' 12), (t' 14)], #[23, 23]⟩) 4 10 true, o1 16 (.pick (t' 10) (t' 15) (.const (.bool false))) 4, mv 17 16 4, o2 18 (.fieldAddr 30 (t' 2) 2) 0 17 true, o2 19 (.load 9 (t' 18)) 9 17 true, o2 20 (.fieldAddr 30 (t' 3) 2) 0 17 true, o2 21 (.load 9 (t' 20)) 9 17 true, o2 22 (.binOp .eql 9 (t' 19) (t' 21) 9) 4 17 true, o1 23 (.pick (t' 17) (t' 22) (.const (.bool false))) 4, mv 24 23 4, o2 25 (.fieldAddr 30 (t' 2) 3) 0 24 true, o2 26 (.load 3 (t' 25)) 3 24 true, o2 27 (.fieldAddr 30 (t' 3) 3) 0 24 true, o2 28 (.load 3 (t' 27)) 3 24 true, o2 29 (.binOp .eql 3 (t' 26) (t' 28) 3) 4 24 true, o1 30 (.pick (t' 24) (t' 29) (.const (.bool false))) 4, asg 4 30 4])
 (.ret)))⟩
theorem fa21_eq : fnA qcfg.P (qcfg.rxf 21) 21 = some fa21 := by kernel_rfl
noncomputable def e21 (a0Seps : List V) (a0Kids : List V) (a0High : List UInt8) (a0Next : Int) (a1Seps : List V) (a1Kids : List V) (a1High : List UInt8) (a1Next : Int) : R :=
  pcK qcfg 53 [V.sl a0Seps, V.sl a1Seps] fun r =>
  kB r fun r53 =>
  cond r53
 (pcK qcfg 54 [V.sl a0Kids, V.sl a1Kids] fun r_1 =>
  kB r_1 fun r54 =>
  cond r54
 (cond (a0High == a1High)
 (some (.done (V.bool (a0Next == a1Next))))
 (some (.done (V.bool false))))
 (some (.done (V.bool false))))
 (some (.done (V.bool false)))
theorem e21_eq (a0Seps : List V) (a0Kids : List V) (a0High : List UInt8) (a0Next : Int) (a1Seps : List V) (a1Kids : List V) (a1High : List UInt8) (a1Next : Int) : enterK qk false fa21 [V.agg [V.sl a0Seps, V.sl a0Kids, V.str a0High, V.int .i64 a0Next], V.agg [V.sl a1Seps, V.sl a1Kids, V.str a1High, V.int .i64 a1Next]] [] = e21 a0Seps a0Kids a0High a0Next a1Seps a1Kids a1High a1Next := by kernel_rfl
theorem e21_run (a0Seps : List V) (a0Kids : List V) (a0High : List UInt8) (a0Next : Int) (a1Seps : List V) (a1Kids : List V) (a1High : List UInt8) (a1Next : Int) {o : Out} {v : V} (h : e21 a0Seps a0Kids a0High a0Next a1Seps a1Kids a1High a1Next = some o) (hg : Go qk false 0 fa21 o (.done v)) : pcW qcfg 21 [V.agg [V.sl a0Seps, V.sl a0Kids, V.str a0High, V.int .i64 a0Next], V.agg [V.sl a1Seps, V.sl a1Kids, V.str a1High, V.int .i64 a1Next]] = some v := pcW_go qik rfl fa21_eq ((e21_eq a0Seps a0Kids a0High a0Next a1Seps a1Kids a1High a1Next).trans h) hg
theorem e21_done (a0Seps : List V) (a0Kids : List V) (a0High : List UInt8) (a0Next : Int) (a1Seps : List V) (a1Kids : List V) (a1High : List UInt8) (a1Next : Int) {v : V} (h : e21 a0Seps a0Kids a0High a0Next a1Seps a1Kids a1High a1Next = some (.done v)) : pcW qcfg 21 [V.agg [V.sl a0Seps, V.sl a0Kids, V.str a0High, V.int .i64 a0Next], V.agg [V.sl a1Seps, V.sl a1Kids, V.str a1High, V.int .i64 a1Next]] = some v := e21_run a0Seps a0Kids a0High a0Next a1Seps a1Kids a1High a1Next h (.refl _)
/-! ### budwood/budwoodref11.Find -/
noncomputable def fa24 : FA := ⟨2, 45, [.tmp 4, .tmp 5], [3, 27],
 (.seq
 (.ops false [o1 2 (.box 30 (t' 0)) 0, o1 4 (.assign (.const (.int .i64 (0)))) 3, o1 5 (.assign (.const (.int .i64 (0)))) 27])
 (.seq
 (.seq
 (.ops false [o1 7 (.load 30 (t' 2)) 30, o1 8 (.call ⟨(.value (.func 14)), #[(t' 7)], #[30]⟩) 4, o1 9 (.unOp .not 4 (t' 8)) 4, mv 10 9 4, o2 11 (.move (t' 1)) 9 10 false, o2 12 (.call ⟨(.value (.func 45)), #[(t' 11)], #[9]⟩) 4 10 false, o2 13 (.unOp .not 4 (t' 12)) 4 10 false, o1 14 (.pick (t' 10) (.const (.bool true)) (t' 13)) 4, mv 15 14 4, o2 16 (.fieldAddr 30 (t' 2) 2) 0 15 false, o2 17 (.load 9 (t' 16)) 9 15 false, o2 18 (.binOp .neq 9 (t' 17) (.const (.string ⟨⟨[]⟩⟩)) 9) 4 15 false, o2 19 (.move (t' 18)) 4 15 false, o2 20 (.move (t' 1)) 9 19 true, o2 21 (.fieldAddr 30 (t' 2) 2) 0 19 true, o2 22 (.load 9 (t' 21)) 9 19 true, o2 23 (.call ⟨(.value (.func 34)), #[(t' 20), (t' 22)], #[9, 9]⟩) 4 19 true, o2 24 (.unOp .not 4 (t' 23)) 4 19 true, o2 25 (.pick (t' 19) (t' 24) (.const (.bool false))) 4 15 false, o1 26 (.pick (t' 15) (.const (.bool true)) (t' 25)) 4])
 (.cond (t' 26)
 (.seq
 (.ops false [o1 4 (.assign (.const (.int .i64 (0)))) 3, o1 5 (.assign (.const (.int .i64 (1)))) 27])
 (.ret))
 (.skip)))
 (.seq
 (.ops false [o1 6 (.assign (.const (.int .i64 (0)))) 3])
 (.seq
 (.block 0
 (.loop ([0, 3] ++ List.range' 7 38)
 (.seq
 (.seq
 (.ops false [mv 27 6 3, o1 28 (.fieldAddr 30 (t' 2) 0) 0, o1 29 (.load 22 (t' 28)) 22, o1 30 (.call ⟨(.builtin .len), #[(t' 29)], #[22]⟩) 3, o1 31 (.binOp .lss 3 (t' 27) (t' 30) 3) 4, mv 32 31 4, o2 33 (.move (t' 1)) 9 32 true, o2 34 (.fieldAddr 30 (t' 2) 0) 0 32 true, o2 35 (.load 22 (t' 34)) 22 32 true, o2 36 (.move (t' 6)) 3 32 true, o2 37 (.indexAddr 22 (t' 35) (t' 36)) 0 32 true, o2 38 (.load 9 (t' 37)) 9 32 true, o2 39 (.call ⟨(.value (.func 34)), #[(t' 33), (t' 38)], #[9, 9]⟩) 4 32 true, o2 40 (.unOp .not 4 (t' 39)) 4 32 true, o1 41 (.pick (t' 32) (t' 40) (.const (.bool false))) 4])
 (.cond (t' 41)
 (.skip)
 (.exit 0)))
 (.block 1
 (.ops false [mv 42 6 3, o1 43 (.binOp .add 3 (t' 42) (.const (.int .i64 (1))) 3) 3, asg 6 43 3])))))
 (.seq
 (.ops false [mv 44 6 3, asg 4 44 3, o1 5 (.assign (.const (.int .i64 (0)))) 27])
 (.ret))))))⟩
theorem fa24_eq : fnA qcfg.P (qcfg.rxf 24) 24 = some fa24 := by kernel_rfl
def T24_0 (x1 : List UInt8) (x6 : Int) (m0_0 : List V) (m0_1 : List V) (m0_2 : List UInt8) (m0_3 : Int) : S := ⟨[V.junk, V.str x1, V.ptr 0 0 0, V.junk, V.int .i64 0, V.int .i64 0, V.int .i64 x6] ++ (JU 38), [O.box 30 (V.agg [V.sl m0_0, V.sl m0_1, V.str m0_2, V.int .i64 m0_3]) false]⟩
noncomputable def e24 (a0Seps : List V) (a0Kids : List V) (a0High : List UInt8) (a0Next : Int) (a1 : List UInt8) : R :=
  pcK qcfg 14 [V.agg [V.sl a0Seps, V.sl a0Kids, V.str a0High, V.int .i64 a0Next]] fun r =>
  kB r fun r14 =>
  cond (!r14)
 (some (.done (V.tup [V.int .i64 0, V.int .i64 1])))
 (pcK qcfg 45 [V.str a1] fun r_1 =>
  kB r_1 fun r45 =>
  cond (!r45)
 (some (.done (V.tup [V.int .i64 0, V.int .i64 1])))
 (cond (!(a0High == []))
 (pcK qcfg 34 [V.str a1, V.str a0High] fun r_2 =>
  kB r_2 fun r34 =>
  cond (!r34)
 (some (.done (V.tup [V.int .i64 0, V.int .i64 1])))
 (some (.head 0 (T24_0 a1 0 a0Seps a0Kids a0High a0Next))))
 (some (.head 0 (T24_0 a1 0 a0Seps a0Kids a0High a0Next)))))
theorem e24_eq (a0Seps : List V) (a0Kids : List V) (a0High : List UInt8) (a0Next : Int) (a1 : List UInt8) : enterK qk false fa24 [V.agg [V.sl a0Seps, V.sl a0Kids, V.str a0High, V.int .i64 a0Next], V.str a1] [] = e24 a0Seps a0Kids a0High a0Next a1 := by kernel_rfl
theorem e24_run (a0Seps : List V) (a0Kids : List V) (a0High : List UInt8) (a0Next : Int) (a1 : List UInt8) {o : Out} {v : V} (h : e24 a0Seps a0Kids a0High a0Next a1 = some o) (hg : Go qk false 0 fa24 o (.done v)) : pcW qcfg 24 [V.agg [V.sl a0Seps, V.sl a0Kids, V.str a0High, V.int .i64 a0Next], V.str a1] = some v := pcW_go qik rfl fa24_eq ((e24_eq a0Seps a0Kids a0High a0Next a1).trans h) hg
noncomputable def s24_0 (x1 : List UInt8) (x6 : Int) (m0_0 : List V) (m0_1 : List V) (m0_2 : List UInt8) (m0_3 : Int) : R :=
  cond (decide (x6 < (m0_0.length : Int)))
 (gd (decide (0 ≤ x6)) <|
  idxK m0_0 x6.toNat fun v =>
  kS v fun s =>
  pcK qcfg 34 [V.str x1, V.str s] fun r =>
  kB r fun r34 =>
  cond (!r34)
 (some (.head 0 (T24_0 x1 (W .i64 (x6 + 1)) m0_0 m0_1 m0_2 m0_3)))
 (some (.done (V.tup [V.int .i64 x6, V.int .i64 0]))))
 (some (.done (V.tup [V.int .i64 x6, V.int .i64 0])))
theorem s24_0_eq (x1 : List UInt8) (x6 : Int) (m0_0 : List V) (m0_1 : List V) (m0_2 : List UInt8) (m0_3 : Int) : goK qk false 0 fa24 0 (T24_0 x1 x6 m0_0 m0_1 m0_2 m0_3) = s24_0 x1 x6 m0_0 m0_1 m0_2 m0_3 := by kernel_rfl
theorem s24_0_run (x1 : List UInt8) (x6 : Int) (m0_0 : List V) (m0_1 : List V) (m0_2 : List UInt8) (m0_3 : Int) {o o' : Out} (h : s24_0 x1 x6 m0_0 m0_1 m0_2 m0_3 = some o) (hg : Go qk false 0 fa24 o o') : Go qk false 0 fa24 (.head 0 (T24_0 x1 x6 m0_0 m0_1 m0_2 m0_3)) o' := .step ((s24_0_eq x1 x6 m0_0 m0_1 m0_2 m0_3).trans h) hg
/-! ### budwood/budwoodref11.Put -/
noncomputable def fa26 : FA := ⟨3, 90, [.cell 6 30, .tmp 7], [30, 27],
 (.seq
 (.ops false [o1 3 (.box 30 (t' 0)) 0, o1 6 (.alloc 30) 0, o1 7 (.assign (.const (.int .i64 (0)))) 27])
 (.seq
 (.ops false [o1 14 (.load 30 (t' 3)) 30, mv 15 1 9, o1 16 (.call ⟨(.value (.func 24)), #[(t' 14), (t' 15)], #[30, 9]⟩) 45, mv 13 16 45, o1 17 (.extract (t' 13) 0) 3, o1 18 (.extract (t' 13) 1) 27, asg 8 17 3, asg 9 18 27])
 (.seq
 (.seq
 (.ops false [mv 19 9 27, o1 20 (.binOp .neq 27 (t' 19) (.const (.int .i64 (0))) 27) 4, mv 21 20 4, o2 22 (.move (t' 2)) 3 21 false, o2 23 (.call ⟨(.value (.func 44)), #[(t' 22)], #[3]⟩) 4 21 false, o2 24 (.unOp .not 4 (t' 23)) 4 21 false, o1 25 (.pick (t' 21) (.const (.bool true)) (t' 24)) 4])
 (.cond (t' 25)
 (.seq
 (.ops false [o1 26 (.build 30 #[]) 30, o0 (.store 30 (t' 6) (t' 26)) 0, o1 7 (.assign (.const (.int .i64 (1)))) 27])
 (.ret))
 (.skip)))
 (.seq
 (.seq
 (.ops false [mv 27 8 3, o1 28 (.binOp .gtr 3 (t' 27) (.const (.int .i64 (0))) 3) 4, mv 29 28 4, o2 30 (.fieldAddr 30 (t' 3) 0) 0 29 true, o2 31 (.load 22 (t' 30)) 22 29 true, o2 32 (.move (t' 8)) 3 29 true, o2 33 (.binOp .sub 3 (t' 32) (.const (.int .i64 (1))) 3) 3 29 true, o2 34 (.indexAddr 22 (t' 31) (t' 33)) 0 29 true, o2 35 (.load 9 (t' 34)) 9 29 true, o2 36 (.move (t' 1)) 9 29 true, o2 37 (.binOp .eql 9 (t' 35) (t' 36) 9) 4 29 true, o1 38 (.pick (t' 29) (t' 37) (.const (.bool false))) 4])
 (.cond (t' 38)
 (.seq
 (.ops false [o1 39 (.build 30 #[]) 30, o0 (.store 30 (t' 6) (t' 39)) 0, o1 7 (.assign (.const (.int .i64 (8)))) 27])
 (.ret))
 (.skip)))
 (.seq
 (.ops false [o1 40 (.buildSlice 22 0 #[]) 22, o1 41 (.fieldAddr 30 (t' 3) 0) 0, o1 42 (.load 22 (t' 41)) 22, mv 43 8 3, o1 44 (.slice 22 (t' 42) none (some (t' 43)) none) 22, o1 45 (.call ⟨(.builtin .append), #[(t' 40), (t' 44)], #[22, 22]⟩) 22, asg 10 45 22])
 (.seq
 (.ops false [mv 46 10 22, mv 47 1 9, o1 48 (.buildSlice 22 1 #[(0, (t' 47))]) 22, o1 49 (.call ⟨(.builtin .append), #[(t' 46), (t' 48)], #[22, 22]⟩) 22, asg 10 49 22])
 (.seq
 (.ops false [mv 50 10 22, o1 51 (.fieldAddr 30 (t' 3) 0) 0, o1 52 (.load 22 (t' 51)) 22, mv 53 8 3, o1 54 (.slice 22 (t' 52) (some (t' 53)) none none) 22, o1 55 (.call ⟨(.builtin .append), #[(t' 50), (t' 54)], #[22, 22]⟩) 22, asg 10 55 22])
 (.seq
 (.ops false [o1 56 (.buildSlice 23 0 #[]) 23, o1 57 (.fieldAddr 30 (t' 3) 1) 0, o1 58 (.load 23 (t' 57)) 23, mv 59 8 3, o1 60 (.binOp .add 3 (t' 59) (.const (.int .i64 (1))) 3) 3, o1 61 (.slice 23 (t' 58) none (some (t' 60)) none) 23, o1 62 (.call ⟨(.builtin .append), #[(t' 56), (t' 61)], #[23, 23]⟩) 23, asg 11 62 23])
 (.seq
 (.ops false [mv 63 11 23, mv 64 2 3, o1 65 (.buildSlice 23 1 #[(0, (t' 64))]) 23, o1 66 (.call ⟨(.builtin .append), #[(t' 63), (t' 65)], #[23, 23]⟩) 23, asg 11 66 23])
 (.seq
 (.ops false [mv 67 11 23, o1 68 (.fieldAddr 30 (t' 3) 1) 0, o1 69 (.load 23 (t' 68)) 23, mv 70 8 3, o1 71 (.binOp .add 3 (t' 70) (.const (.int .i64 (1))) 3) 3, o1 72 (.slice 23 (t' 69) (some (t' 71)) none none) 23, o1 73 (.call ⟨(.builtin .append), #[(t' 67), (t' 72)], #[23, 23]⟩) 23, asg 11 73 23])
 (.seq
 (.ops false [mv 74 10 22, mv 75 11 23, o1 76 (.fieldAddr 30 (t' 3) 2) 0, o1 77 (.load 9 (t' 76)) 9, o1 78 (.fieldAddr 30 (t' 3) 3) 0, o1 79 (.load 3 (t' 78)) 3, o1 80 (.build 30 #[(0, (t' 74)), (1, (t' 75)), (2, (t' 77)), (3, (t' 79))]) 30, o1 12 (.alloc 30) 0, o0 (.store 30 (t' 12) (t' 80)) 0])
 (.seq
 (.seq
 (.ops true [o1 81 (.load 30 (t' 12)) 30, o1 82 (.call ⟨(.value (.func 17)), #[(t' 81)], #[30]⟩) 3, o1 83 (.fieldAddr 30 (t' 12) 2) 0, o1 84 (.load 9 (t' 83)) 9, o1 85 (.call ⟨(.builtin .len), #[(t' 84)], #[9]⟩) 3, o1 86 (.binOp .sub 3 (t' 82) (t' 85) 3) 3, o1 87 (.binOp .gtr 3 (t' 86) (.const (.int .i64 (236))) 3) 4])
 (.cond (t' 87)
 (.seq
 (.ops false [o1 88 (.build 30 #[]) 30, o0 (.store 30 (t' 6) (t' 88)) 0, o1 7 (.assign (.const (.int .i64 (6)))) 27])
 (.ret))
 (.skip)))
 (.seq
 (.ops false [o1 89 (.load 30 (t' 12)) 30, o0 (.store 30 (t' 6) (t' 89)) 0, o1 7 (.assign (.const (.int .i64 (0)))) 27])
 (.ret))))))))))))))⟩
theorem fa26_eq : fnA qcfg.P (qcfg.rxf 26) 26 = some fa26 := by kernel_rfl
noncomputable def e26 (a0Seps : List V) (a0Kids : List V) (a0High : List UInt8) (a0Next : Int) (a1 : List UInt8) (a2 : Int) : R :=
  pcK qcfg 24 [V.agg [V.sl a0Seps, V.sl a0Kids, V.str a0High, V.int .i64 a0Next], V.str a1] fun r =>
  d45 r fun r24_0 r24_1 =>
  cond (r24_1 != (0 : Int))
 (some (.done (V.tup [V.agg [V.sl [], V.sl [], V.str [], V.int .i64 0], V.int .i64 1])))
 (pcK qcfg 44 [V.int .i64 a2] fun r_1 =>
  kB r_1 fun r44 =>
  cond (!r44)
 (some (.done (V.tup [V.agg [V.sl [], V.sl [], V.str [], V.int .i64 0], V.int .i64 1])))
 (cond (decide (r24_0 > 0))
 (gd (decide (0 ≤ W .i64 (r24_0 - 1))) <|
  idxK a0Seps ((W .i64 (r24_0 - 1)).toNat) fun v =>
  kS v fun s =>
  cond (s == a1)
 (some (.done (V.tup [V.agg [V.sl [], V.sl [], V.str [], V.int .i64 0], V.int .i64 8])))
 (gd (wfl 1 a0Seps) <|
  gd (decide (0 ≤ r24_0)) <|
  gd (decide (r24_0.toNat ≤ a0Seps.length)) <|
  gd (wfl 1 (a0Seps.take r24_0.toNat)) <|
  gd (decide (0 + (a0Seps.take r24_0.toNat).length ≤ 16777216)) <|
  gd (decide ((a0Seps.take r24_0.toNat).length + ([V.str a1] : List V).length ≤ 16777216)) <|
  gd (wfl 1 a0Seps) <|
  gd (decide (0 ≤ r24_0)) <|
  gd (decide (r24_0.toNat ≤ a0Seps.length)) <|
  gd (wfl 1 ((a0Seps.take a0Seps.length).drop r24_0.toNat)) <|
  gd (decide (((a0Seps.take r24_0.toNat) ++ [V.str a1]).length + ((a0Seps.take a0Seps.length).drop r24_0.toNat).length ≤ 16777216)) <|
  gd (wfl 1 a0Kids) <|
  gd (decide (0 ≤ W .i64 (r24_0 + 1))) <|
  gd (decide ((W .i64 (r24_0 + 1)).toNat ≤ a0Kids.length)) <|
  gd (wfl 1 (a0Kids.take ((W .i64 (r24_0 + 1)).toNat))) <|
  gd (decide (0 + (a0Kids.take ((W .i64 (r24_0 + 1)).toNat)).length ≤ 16777216)) <|
  gd (decide ((a0Kids.take ((W .i64 (r24_0 + 1)).toNat)).length + ([V.int .i64 a2] : List V).length ≤ 16777216)) <|
  gd (wfl 1 a0Kids) <|
  gd (decide (0 ≤ W .i64 (r24_0 + 1))) <|
  gd (decide ((W .i64 (r24_0 + 1)).toNat ≤ a0Kids.length)) <|
  gd (wfl 1 ((a0Kids.take a0Kids.length).drop ((W .i64 (r24_0 + 1)).toNat))) <|
  gd (decide (((a0Kids.take ((W .i64 (r24_0 + 1)).toNat)) ++ [V.int .i64 a2]).length + ((a0Kids.take a0Kids.length).drop ((W .i64 (r24_0 + 1)).toNat)).length ≤ 16777216)) <|
  pcK qcfg 17 [V.agg [V.sl (((a0Seps.take r24_0.toNat) ++ [V.str a1]) ++ ((a0Seps.take a0Seps.length).drop r24_0.toNat)), V.sl (((a0Kids.take ((W .i64 (r24_0 + 1)).toNat)) ++ [V.int .i64 a2]) ++ ((a0Kids.take a0Kids.length).drop ((W .i64 (r24_0 + 1)).toNat))), V.str a0High, V.int .i64 a0Next]] fun r_2 =>
  kI .i64 r_2 fun r17 =>
  cond (decide (W .i64 (r17 - (a0High.length : Int)) > 236))
 (some (.done (V.tup [V.agg [V.sl [], V.sl [], V.str [], V.int .i64 0], V.int .i64 6])))
 (some (.done (V.tup [V.agg [V.sl (((a0Seps.take r24_0.toNat) ++ [V.str a1]) ++ ((a0Seps.take a0Seps.length).drop r24_0.toNat)), V.sl (((a0Kids.take ((W .i64 (r24_0 + 1)).toNat)) ++ [V.int .i64 a2]) ++ ((a0Kids.take a0Kids.length).drop ((W .i64 (r24_0 + 1)).toNat))), V.str a0High, V.int .i64 a0Next], V.int .i64 0])))))
 (gd (wfl 1 a0Seps) <|
  gd (decide (0 ≤ r24_0)) <|
  gd (decide (r24_0.toNat ≤ a0Seps.length)) <|
  gd (wfl 1 (a0Seps.take r24_0.toNat)) <|
  gd (decide (0 + (a0Seps.take r24_0.toNat).length ≤ 16777216)) <|
  gd (decide ((a0Seps.take r24_0.toNat).length + ([V.str a1] : List V).length ≤ 16777216)) <|
  gd (wfl 1 a0Seps) <|
  gd (decide (0 ≤ r24_0)) <|
  gd (decide (r24_0.toNat ≤ a0Seps.length)) <|
  gd (wfl 1 ((a0Seps.take a0Seps.length).drop r24_0.toNat)) <|
  gd (decide (((a0Seps.take r24_0.toNat) ++ [V.str a1]).length + ((a0Seps.take a0Seps.length).drop r24_0.toNat).length ≤ 16777216)) <|
  gd (wfl 1 a0Kids) <|
  gd (decide (0 ≤ W .i64 (r24_0 + 1))) <|
  gd (decide ((W .i64 (r24_0 + 1)).toNat ≤ a0Kids.length)) <|
  gd (wfl 1 (a0Kids.take ((W .i64 (r24_0 + 1)).toNat))) <|
  gd (decide (0 + (a0Kids.take ((W .i64 (r24_0 + 1)).toNat)).length ≤ 16777216)) <|
  gd (decide ((a0Kids.take ((W .i64 (r24_0 + 1)).toNat)).length + ([V.int .i64 a2] : List V).length ≤ 16777216)) <|
  gd (wfl 1 a0Kids) <|
  gd (decide (0 ≤ W .i64 (r24_0 + 1))) <|
  gd (decide ((W .i64 (r24_0 + 1)).toNat ≤ a0Kids.length)) <|
  gd (wfl 1 ((a0Kids.take a0Kids.length).drop ((W .i64 (r24_0 + 1)).toNat))) <|
  gd (decide (((a0Kids.take ((W .i64 (r24_0 + 1)).toNat)) ++ [V.int .i64 a2]).length + ((a0Kids.take a0Kids.length).drop ((W .i64 (r24_0 + 1)).toNat)).length ≤ 16777216)) <|
  pcK qcfg 17 [V.agg [V.sl (((a0Seps.take r24_0.toNat) ++ [V.str a1]) ++ ((a0Seps.take a0Seps.length).drop r24_0.toNat)), V.sl (((a0Kids.take ((W .i64 (r24_0 + 1)).toNat)) ++ [V.int .i64 a2]) ++ ((a0Kids.take a0Kids.length).drop ((W .i64 (r24_0 + 1)).toNat))), V.str a0High, V.int .i64 a0Next]] fun r_3 =>
  kI .i64 r_3 fun r17_1 =>
  cond (decide (W .i64 (r17_1 - (a0High.length : Int)) > 236))
 (some (.done (V.tup [V.agg [V.sl [], V.sl [], V.str [], V.int .i64 0], V.int .i64 6])))
 (some (.done (V.tup [V.agg [V.sl (((a0Seps.take r24_0.toNat) ++ [V.str a1]) ++ ((a0Seps.take a0Seps.length).drop r24_0.toNat)), V.sl (((a0Kids.take ((W .i64 (r24_0 + 1)).toNat)) ++ [V.int .i64 a2]) ++ ((a0Kids.take a0Kids.length).drop ((W .i64 (r24_0 + 1)).toNat))), V.str a0High, V.int .i64 a0Next], V.int .i64 0]))))))
theorem e26_eq (a0Seps : List V) (a0Kids : List V) (a0High : List UInt8) (a0Next : Int) (a1 : List UInt8) (a2 : Int) : enterK qk false fa26 [V.agg [V.sl a0Seps, V.sl a0Kids, V.str a0High, V.int .i64 a0Next], V.str a1, V.int .i64 a2] [] = e26 a0Seps a0Kids a0High a0Next a1 a2 := by kernel_rfl
theorem e26_run (a0Seps : List V) (a0Kids : List V) (a0High : List UInt8) (a0Next : Int) (a1 : List UInt8) (a2 : Int) {o : Out} {v : V} (h : e26 a0Seps a0Kids a0High a0Next a1 a2 = some o) (hg : Go qk false 0 fa26 o (.done v)) : pcW qcfg 26 [V.agg [V.sl a0Seps, V.sl a0Kids, V.str a0High, V.int .i64 a0Next], V.str a1, V.int .i64 a2] = some v := pcW_go qik rfl fa26_eq ((e26_eq a0Seps a0Kids a0High a0Next a1 a2).trans h) hg
theorem e26_done (a0Seps : List V) (a0Kids : List V) (a0High : List UInt8) (a0Next : Int) (a1 : List UInt8) (a2 : Int) {v : V} (h : e26 a0Seps a0Kids a0High a0Next a1 a2 = some (.done v)) : pcW qcfg 26 [V.agg [V.sl a0Seps, V.sl a0Kids, V.str a0High, V.int .i64 a0Next], V.str a1, V.int .i64 a2] = some v := e26_run a0Seps a0Kids a0High a0Next a1 a2 h (.refl _)
/-! ### budwood/budwoodref11.Del -/
noncomputable def fa28 : FA := ⟨2, 67, [.cell 4 30, .tmp 5], [30, 27],
 (.seq
 (.ops false [o1 2 (.box 30 (t' 0)) 0, o1 4 (.alloc 30) 0, o1 5 (.assign (.const (.int .i64 (0)))) 27])
 (.seq
 (.seq
 (.ops false [o1 9 (.load 30 (t' 2)) 30, o1 10 (.call ⟨(.value (.func 14)), #[(t' 9)], #[30]⟩) 4, o1 11 (.unOp .not 4 (t' 10)) 4, mv 12 11 4, o2 13 (.move (t' 1)) 3 12 false, o2 14 (.binOp .lss 3 (t' 13) (.const (.int .i64 (0))) 3) 4 12 false, o1 15 (.pick (t' 12) (.const (.bool true)) (t' 14)) 4, mv 16 15 4, o2 17 (.move (t' 1)) 3 16 false, o2 18 (.fieldAddr 30 (t' 2) 1) 0 16 false, o2 19 (.load 23 (t' 18)) 23 16 false, o2 20 (.call ⟨(.builtin .len), #[(t' 19)], #[23]⟩) 3 16 false, o2 21 (.binOp .geq 3 (t' 17) (t' 20) 3) 4 16 false, o1 22 (.pick (t' 16) (.const (.bool true)) (t' 21)) 4, mv 23 22 4, o2 24 (.fieldAddr 30 (t' 2) 1) 0 23 false, o2 25 (.load 23 (t' 24)) 23 23 false, o2 26 (.call ⟨(.builtin .len), #[(t' 25)], #[23]⟩) 3 23 false, o2 27 (.binOp .lss 3 (t' 26) (.const (.int .i64 (2))) 3) 4 23 false, o1 28 (.pick (t' 23) (.const (.bool true)) (t' 27)) 4])
 (.cond (t' 28)
 (.seq
 (.ops false [o1 29 (.build 30 #[]) 30, o0 (.store 30 (t' 4) (t' 29)) 0, o1 5 (.assign (.const (.int .i64 (1)))) 27])
 (.ret))
 (.skip)))
 (.seq
 (.ops false [mv 30 1 3, o1 31 (.binOp .sub 3 (t' 30) (.const (.int .i64 (1))) 3) 3, asg 6 31 3])
 (.seq
 (.seq
 (.ops false [mv 32 1 3, o1 33 (.binOp .eql 3 (t' 32) (.const (.int .i64 (0))) 3) 4])
 (.cond (t' 33)
 (.ops false [o1 6 (.assign (.const (.int .i64 (0)))) 3])
 (.skip)))
 (.seq
 (.ops false [o1 34 (.buildSlice 22 0 #[]) 22, o1 35 (.fieldAddr 30 (t' 2) 0) 0, o1 36 (.load 22 (t' 35)) 22, mv 37 6 3, o1 38 (.slice 22 (t' 36) none (some (t' 37)) none) 22, o1 39 (.call ⟨(.builtin .append), #[(t' 34), (t' 38)], #[22, 22]⟩) 22, asg 7 39 22])
 (.seq
 (.ops false [mv 40 7 22, o1 41 (.fieldAddr 30 (t' 2) 0) 0, o1 42 (.load 22 (t' 41)) 22, mv 43 6 3, o1 44 (.binOp .add 3 (t' 43) (.const (.int .i64 (1))) 3) 3, o1 45 (.slice 22 (t' 42) (some (t' 44)) none none) 22, o1 46 (.call ⟨(.builtin .append), #[(t' 40), (t' 45)], #[22, 22]⟩) 22, asg 7 46 22])
 (.seq
 (.ops false [o1 47 (.buildSlice 23 0 #[]) 23, o1 48 (.fieldAddr 30 (t' 2) 1) 0, o1 49 (.load 23 (t' 48)) 23, mv 50 1 3, o1 51 (.slice 23 (t' 49) none (some (t' 50)) none) 23, o1 52 (.call ⟨(.builtin .append), #[(t' 47), (t' 51)], #[23, 23]⟩) 23, asg 8 52 23])
 (.seq
 (.ops false [mv 53 8 23, o1 54 (.fieldAddr 30 (t' 2) 1) 0, o1 55 (.load 23 (t' 54)) 23, mv 56 1 3, o1 57 (.binOp .add 3 (t' 56) (.const (.int .i64 (1))) 3) 3, o1 58 (.slice 23 (t' 55) (some (t' 57)) none none) 23, o1 59 (.call ⟨(.builtin .append), #[(t' 53), (t' 58)], #[23, 23]⟩) 23, asg 8 59 23])
 (.seq
 (.ops false [mv 60 7 22, mv 61 8 23, o1 62 (.fieldAddr 30 (t' 2) 2) 0, o1 63 (.load 9 (t' 62)) 9, o1 64 (.fieldAddr 30 (t' 2) 3) 0, o1 65 (.load 3 (t' 64)) 3, o1 66 (.build 30 #[(0, (t' 60)), (1, (t' 61)), (2, (t' 63)), (3, (t' 65))]) 30, o0 (.store 30 (t' 4) (t' 66)) 0, o1 5 (.assign (.const (.int .i64 (0)))) 27])
 (.ret))))))))))⟩
theorem fa28_eq : fnA qcfg.P (qcfg.rxf 28) 28 = some fa28 := by kernel_rfl
noncomputable def e28 (a0Seps : List V) (a0Kids : List V) (a0High : List UInt8) (a0Next : Int) (a1 : Int) : R :=
  pcK qcfg 14 [V.agg [V.sl a0Seps, V.sl a0Kids, V.str a0High, V.int .i64 a0Next]] fun r =>
  kB r fun r14 =>
  cond (!r14)
 (some (.done (V.tup [V.agg [V.sl [], V.sl [], V.str [], V.int .i64 0], V.int .i64 1])))
 (cond (decide (a1 < 0))
 (some (.done (V.tup [V.agg [V.sl [], V.sl [], V.str [], V.int .i64 0], V.int .i64 1])))
 (cond (decide (a1 ≥ (a0Kids.length : Int)))
 (some (.done (V.tup [V.agg [V.sl [], V.sl [], V.str [], V.int .i64 0], V.int .i64 1])))
 (cond (decide ((a0Kids.length : Int) < 2))
 (some (.done (V.tup [V.agg [V.sl [], V.sl [], V.str [], V.int .i64 0], V.int .i64 1])))
 (cond (a1 == (0 : Int))
 (gd (wfl 1 a0Seps) <|
  gd (wfl 1 (a0Seps.take 0)) <|
  gd (decide (0 + (a0Seps.take 0).length ≤ 16777216)) <|
  gd (wfl 1 a0Seps) <|
  gd (decide (1 ≤ a0Seps.length)) <|
  gd (wfl 1 ((a0Seps.take a0Seps.length).drop 1)) <|
  gd (decide ((a0Seps.take 0).length + ((a0Seps.take a0Seps.length).drop 1).length ≤ 16777216)) <|
  gd (wfl 1 a0Kids) <|
  gd (decide (0 ≤ a1)) <|
  gd (decide (a1.toNat ≤ a0Kids.length)) <|
  gd (wfl 1 (a0Kids.take a1.toNat)) <|
  gd (decide (0 + (a0Kids.take a1.toNat).length ≤ 16777216)) <|
  gd (wfl 1 a0Kids) <|
  gd (decide (0 ≤ W .i64 (a1 + 1))) <|
  gd (decide ((W .i64 (a1 + 1)).toNat ≤ a0Kids.length)) <|
  gd (wfl 1 ((a0Kids.take a0Kids.length).drop ((W .i64 (a1 + 1)).toNat))) <|
  gd (decide ((a0Kids.take a1.toNat).length + ((a0Kids.take a0Kids.length).drop ((W .i64 (a1 + 1)).toNat)).length ≤ 16777216)) <|
  some (.done (V.tup [V.agg [V.sl ((a0Seps.take 0) ++ ((a0Seps.take a0Seps.length).drop 1)), V.sl ((a0Kids.take a1.toNat) ++ ((a0Kids.take a0Kids.length).drop ((W .i64 (a1 + 1)).toNat))), V.str a0High, V.int .i64 a0Next], V.int .i64 0])))
 (gd (wfl 1 a0Seps) <|
  gd (decide (0 ≤ W .i64 (a1 - 1))) <|
  gd (decide ((W .i64 (a1 - 1)).toNat ≤ a0Seps.length)) <|
  gd (wfl 1 (a0Seps.take ((W .i64 (a1 - 1)).toNat))) <|
  gd (decide (0 + (a0Seps.take ((W .i64 (a1 - 1)).toNat)).length ≤ 16777216)) <|
  gd (wfl 1 a0Seps) <|
  gd (decide (0 ≤ W .i64 ((W .i64 (a1 - 1)) + 1))) <|
  gd (decide ((W .i64 ((W .i64 (a1 - 1)) + 1)).toNat ≤ a0Seps.length)) <|
  gd (wfl 1 ((a0Seps.take a0Seps.length).drop ((W .i64 ((W .i64 (a1 - 1)) + 1)).toNat))) <|
  gd (decide ((a0Seps.take ((W .i64 (a1 - 1)).toNat)).length + ((a0Seps.take a0Seps.length).drop ((W .i64 ((W .i64 (a1 - 1)) + 1)).toNat)).length ≤ 16777216)) <|
  gd (wfl 1 a0Kids) <|
  gd (decide (0 ≤ a1)) <|
  gd (decide (a1.toNat ≤ a0Kids.length)) <|
  gd (wfl 1 (a0Kids.take a1.toNat)) <|
  gd (decide (0 + (a0Kids.take a1.toNat).length ≤ 16777216)) <|
  gd (wfl 1 a0Kids) <|
  gd (decide (0 ≤ W .i64 (a1 + 1))) <|
  gd (decide ((W .i64 (a1 + 1)).toNat ≤ a0Kids.length)) <|
  gd (wfl 1 ((a0Kids.take a0Kids.length).drop ((W .i64 (a1 + 1)).toNat))) <|
  gd (decide ((a0Kids.take a1.toNat).length + ((a0Kids.take a0Kids.length).drop ((W .i64 (a1 + 1)).toNat)).length ≤ 16777216)) <|
  some (.done (V.tup [V.agg [V.sl ((a0Seps.take ((W .i64 (a1 - 1)).toNat)) ++ ((a0Seps.take a0Seps.length).drop ((W .i64 ((W .i64 (a1 - 1)) + 1)).toNat))), V.sl ((a0Kids.take a1.toNat) ++ ((a0Kids.take a0Kids.length).drop ((W .i64 (a1 + 1)).toNat))), V.str a0High, V.int .i64 a0Next], V.int .i64 0])))))))
theorem e28_eq (a0Seps : List V) (a0Kids : List V) (a0High : List UInt8) (a0Next : Int) (a1 : Int) : enterK qk false fa28 [V.agg [V.sl a0Seps, V.sl a0Kids, V.str a0High, V.int .i64 a0Next], V.int .i64 a1] [] = e28 a0Seps a0Kids a0High a0Next a1 := by kernel_rfl
theorem e28_run (a0Seps : List V) (a0Kids : List V) (a0High : List UInt8) (a0Next : Int) (a1 : Int) {o : Out} {v : V} (h : e28 a0Seps a0Kids a0High a0Next a1 = some o) (hg : Go qk false 0 fa28 o (.done v)) : pcW qcfg 28 [V.agg [V.sl a0Seps, V.sl a0Kids, V.str a0High, V.int .i64 a0Next], V.int .i64 a1] = some v := pcW_go qik rfl fa28_eq ((e28_eq a0Seps a0Kids a0High a0Next a1).trans h) hg
theorem e28_done (a0Seps : List V) (a0Kids : List V) (a0High : List UInt8) (a0Next : Int) (a1 : Int) {v : V} (h : e28 a0Seps a0Kids a0High a0Next a1 = some (.done v)) : pcW qcfg 28 [V.agg [V.sl a0Seps, V.sl a0Kids, V.str a0High, V.int .i64 a0Next], V.int .i64 a1] = some v := e28_run a0Seps a0Kids a0High a0Next a1 h (.refl _)
/-! ### budwood/budwoodref11.Turn -/
noncomputable def fa30 : FA := ⟨3, 45, [.cell 6 30, .tmp 7], [30, 27],
 (.seq
 (.ops false [o1 3 (.box 30 (t' 0)) 0, o1 6 (.alloc 30) 0, o1 7 (.assign (.const (.int .i64 (0)))) 27])
 (.seq
 (.seq
 (.ops false [o1 9 (.load 30 (t' 3)) 30, o1 10 (.call ⟨(.value (.func 14)), #[(t' 9)], #[30]⟩) 4, o1 11 (.unOp .not 4 (t' 10)) 4, mv 12 11 4, o2 13 (.move (t' 1)) 3 12 false, o2 14 (.binOp .lss 3 (t' 13) (.const (.int .i64 (0))) 3) 4 12 false, o1 15 (.pick (t' 12) (.const (.bool true)) (t' 14)) 4, mv 16 15 4, o2 17 (.move (t' 1)) 3 16 false, o2 18 (.fieldAddr 30 (t' 3) 1) 0 16 false, o2 19 (.load 23 (t' 18)) 23 16 false, o2 20 (.call ⟨(.builtin .len), #[(t' 19)], #[23]⟩) 3 16 false, o2 21 (.binOp .geq 3 (t' 17) (t' 20) 3) 4 16 false, o1 22 (.pick (t' 16) (.const (.bool true)) (t' 21)) 4, mv 23 22 4, o2 24 (.move (t' 2)) 3 23 false, o2 25 (.call ⟨(.value (.func 44)), #[(t' 24)], #[3]⟩) 4 23 false, o2 26 (.unOp .not 4 (t' 25)) 4 23 false, o1 27 (.pick (t' 23) (.const (.bool true)) (t' 26)) 4])
 (.cond (t' 27)
 (.seq
 (.ops false [o1 28 (.build 30 #[]) 30, o0 (.store 30 (t' 6) (t' 28)) 0, o1 7 (.assign (.const (.int .i64 (1)))) 27])
 (.ret))
 (.skip)))
 (.seq
 (.ops false [o1 29 (.buildSlice 23 0 #[]) 23, o1 30 (.fieldAddr 30 (t' 3) 1) 0, o1 31 (.load 23 (t' 30)) 23, o1 32 (.call ⟨(.builtin .append), #[(t' 29), (t' 31)], #[23, 23]⟩) 23, asg 8 32 23])
 (.seq
 (.ops false [mv 33 8 23, mv 34 1 3, mv 35 2 3, o1 36 (.indexAddr 23 (t' 33) (t' 34)) 0, o0 (.store 3 (t' 36) (t' 35)) 0])
 (.seq
 (.ops false [o1 37 (.fieldAddr 30 (t' 3) 0) 0, o1 38 (.load 22 (t' 37)) 22, mv 39 8 23, o1 40 (.fieldAddr 30 (t' 3) 2) 0, o1 41 (.load 9 (t' 40)) 9, o1 42 (.fieldAddr 30 (t' 3) 3) 0, o1 43 (.load 3 (t' 42)) 3, o1 44 (.build 30 #[(0, (t' 38)), (1, (t' 39)), (2, (t' 41)), (3, (t' 43))]) 30, o0 (.store 30 (t' 6) (t' 44)) 0, o1 7 (.assign (.const (.int .i64 (0)))) 27])
 (.ret))))))⟩
theorem fa30_eq : fnA qcfg.P (qcfg.rxf 30) 30 = some fa30 := by kernel_rfl
noncomputable def e30 (a0Seps : List V) (a0Kids : List V) (a0High : List UInt8) (a0Next : Int) (a1 : Int) (a2 : Int) : R :=
  pcK qcfg 14 [V.agg [V.sl a0Seps, V.sl a0Kids, V.str a0High, V.int .i64 a0Next]] fun r =>
  kB r fun r14 =>
  cond (!r14)
 (some (.done (V.tup [V.agg [V.sl [], V.sl [], V.str [], V.int .i64 0], V.int .i64 1])))
 (cond (decide (a1 < 0))
 (some (.done (V.tup [V.agg [V.sl [], V.sl [], V.str [], V.int .i64 0], V.int .i64 1])))
 (cond (decide (a1 ≥ (a0Kids.length : Int)))
 (some (.done (V.tup [V.agg [V.sl [], V.sl [], V.str [], V.int .i64 0], V.int .i64 1])))
 (pcK qcfg 44 [V.int .i64 a2] fun r_1 =>
  kB r_1 fun r44 =>
  cond (!r44)
 (some (.done (V.tup [V.agg [V.sl [], V.sl [], V.str [], V.int .i64 0], V.int .i64 1])))
 (gd (wfl 1 a0Kids) <|
  gd (decide (0 + a0Kids.length ≤ 16777216)) <|
  gd (decide (0 ≤ a1)) <|
  gd (decide (a1.toNat < a0Kids.length)) <|
  idxK a0Kids a1.toNat fun v =>
  kI .i64 v fun n =>
  some (.done (V.tup [V.agg [V.sl a0Seps, V.sl ((a0Kids).set a1.toNat (V.int .i64 a2)), V.str a0High, V.int .i64 a0Next], V.int .i64 0]))))))
theorem e30_eq (a0Seps : List V) (a0Kids : List V) (a0High : List UInt8) (a0Next : Int) (a1 : Int) (a2 : Int) : enterK qk false fa30 [V.agg [V.sl a0Seps, V.sl a0Kids, V.str a0High, V.int .i64 a0Next], V.int .i64 a1, V.int .i64 a2] [] = e30 a0Seps a0Kids a0High a0Next a1 a2 := by kernel_rfl
theorem e30_run (a0Seps : List V) (a0Kids : List V) (a0High : List UInt8) (a0Next : Int) (a1 : Int) (a2 : Int) {o : Out} {v : V} (h : e30 a0Seps a0Kids a0High a0Next a1 a2 = some o) (hg : Go qk false 0 fa30 o (.done v)) : pcW qcfg 30 [V.agg [V.sl a0Seps, V.sl a0Kids, V.str a0High, V.int .i64 a0Next], V.int .i64 a1, V.int .i64 a2] = some v := pcW_go qik rfl fa30_eq ((e30_eq a0Seps a0Kids a0High a0Next a1 a2).trans h) hg
theorem e30_done (a0Seps : List V) (a0Kids : List V) (a0High : List UInt8) (a0Next : Int) (a1 : Int) (a2 : Int) {v : V} (h : e30 a0Seps a0Kids a0High a0Next a1 a2 = some (.done v)) : pcW qcfg 30 [V.agg [V.sl a0Seps, V.sl a0Kids, V.str a0High, V.int .i64 a0Next], V.int .i64 a1, V.int .i64 a2] = some v := e30_run a0Seps a0Kids a0High a0Next a1 a2 h (.refl _)
/-! ### budwood/budwoodref11.Split -/
noncomputable def fa32 : FA := ⟨2, 78, [.cell 4 30, .cell 5 30, .tmp 6, .tmp 7], [30, 30, 9, 27],
 (.seq
 (.ops false [o1 2 (.box 30 (t' 0)) 0, o1 4 (.alloc 30) 0, o1 5 (.alloc 30) 0, o1 6 (.assign (.const (.string ⟨⟨[]⟩⟩))) 9, o1 7 (.assign (.const (.int .i64 (0)))) 27])
 (.seq
 (.seq
 (.ops false [o1 11 (.load 30 (t' 2)) 30, o1 12 (.call ⟨(.value (.func 14)), #[(t' 11)], #[30]⟩) 4, o1 13 (.unOp .not 4 (t' 12)) 4, mv 14 13 4, o2 15 (.fieldAddr 30 (t' 2) 1) 0 14 false, o2 16 (.load 23 (t' 15)) 23 14 false, o2 17 (.call ⟨(.builtin .len), #[(t' 16)], #[23]⟩) 3 14 false, o2 18 (.binOp .lss 3 (t' 17) (.const (.int .i64 (3))) 3) 4 14 false, o1 19 (.pick (t' 14) (.const (.bool true)) (t' 18)) 4, mv 20 19 4, o2 21 (.move (t' 1)) 3 20 false, o2 22 (.call ⟨(.value (.func 44)), #[(t' 21)], #[3]⟩) 4 20 false, o2 23 (.unOp .not 4 (t' 22)) 4 20 false, o1 24 (.pick (t' 20) (.const (.bool true)) (t' 23)) 4])
 (.cond (t' 24)
 (.seq
 (.ops false [o1 25 (.build 30 #[]) 30, o1 26 (.build 30 #[]) 30, o0 (.store 30 (t' 4) (t' 25)) 0, o0 (.store 30 (t' 5) (t' 26)) 0, o1 6 (.assign (.const (.string ⟨⟨[]⟩⟩))) 9, o1 7 (.assign (.const (.int .i64 (1)))) 27])
 (.ret))
 (.skip)))
 (.seq
 (.ops false [o1 27 (.fieldAddr 30 (t' 2) 0) 0, o1 28 (.load 22 (t' 27)) 22, o1 29 (.call ⟨(.builtin .len), #[(t' 28)], #[22]⟩) 3, o1 30 (.binOp .quo 3 (t' 29) (.const (.int .i64 (2))) 3) 3, asg 8 30 3])
 (.seq
 (.ops true [⟨(some 31), .buildSlice 22 0 #[], 22, none, true, false, false⟩, o1 32 (.fieldAddr 30 (t' 2) 0) 0, ⟨(some 33), .load 22 (t' 32), 22, none, true, false, false⟩, mv 34 8 3, ⟨(some 35), .slice 22 (t' 33) none (some (t' 34)) none, 22, none, true, false, false⟩, ⟨(some 36), .call ⟨(.builtin .append), #[(t' 31), (t' 35)], #[22, 22]⟩, 22, none, true, false, false⟩, ⟨(some 37), .buildSlice 23 0 #[], 23, none, true, false, false⟩, o1 38 (.fieldAddr 30 (t' 2) 1) 0, ⟨(some 39), .load 23 (t' 38), 23, none, true, false, false⟩, mv 40 8 3, o1 41 (.binOp .add 3 (t' 40) (.const (.int .i64 (1))) 3) 3, ⟨(some 42), .slice 23 (t' 39) none (some (t' 41)) none, 23, none, true, false, false⟩, ⟨(some 43), .call ⟨(.builtin .append), #[(t' 37), (t' 42)], #[23, 23]⟩, 23, none, true, false, false⟩, o1 44 (.fieldAddr 30 (t' 2) 0) 0, ⟨(some 45), .load 22 (t' 44), 22, none, true, false, false⟩, mv 46 8 3, ⟨(some 47), .indexAddr 22 (t' 45) (t' 46), 0, none, true, false, false⟩, ⟨(some 48), .load 9 (t' 47), 9, none, true, false, false⟩, mv 49 1 3, o1 50 (.binOp .add 3 (t' 49) (.const (.int .i64 (1))) 3) 3, o1 51 (.build 30 #[(0, (t' 36)), (1, (t' 43)), (2, (t' 48)), (3, (t' 50))]) 30, o1 9 (.alloc 30) 0, o0 (.store 30 (t' 9) (t' 51)) 0])
 (.seq
 (.ops true [⟨(some 52), .buildSlice 22 0 #[], 22, none, true, false, false⟩, o1 53 (.fieldAddr 30 (t' 2) 0) 0, ⟨(some 54), .load 22 (t' 53), 22, none, true, false, false⟩, mv 55 8 3, o1 56 (.binOp .add 3 (t' 55) (.const (.int .i64 (1))) 3) 3, ⟨(some 57), .slice 22 (t' 54) (some (t' 56)) none none, 22, none, true, false, false⟩, ⟨(some 58), .call ⟨(.builtin .append), #[(t' 52), (t' 57)], #[22, 22]⟩, 22, none, true, false, false⟩, ⟨(some 59), .buildSlice 23 0 #[], 23, none, true, false, false⟩, o1 60 (.fieldAddr 30 (t' 2) 1) 0, ⟨(some 61), .load 23 (t' 60), 23, none, true, false, false⟩, mv 62 8 3, o1 63 (.binOp .add 3 (t' 62) (.const (.int .i64 (1))) 3) 3, ⟨(some 64), .slice 23 (t' 61) (some (t' 63)) none none, 23, none, true, false, false⟩, ⟨(some 65), .call ⟨(.builtin .append), #[(t' 59), (t' 64)], #[23, 23]⟩, 23, none, true, false, false⟩, o1 66 (.fieldAddr 30 (t' 2) 2) 0, ⟨(some 67), .load 9 (t' 66), 9, none, true, false, false⟩, o1 68 (.fieldAddr 30 (t' 2) 3) 0, ⟨(some 69), .load 3 (t' 68), 3, none, true, false, false⟩, o1 70 (.build 30 #[(0, (t' 58)), (1, (t' 65)), (2, (t' 67)), (3, (t' 69))]) 30, o1 10 (.alloc 30) 0, o0 (.store 30 (t' 10) (t' 70)) 0])
 (.seq
 (.ops true [⟨(some 71), .load 30 (t' 9), 30, none, true, false, false⟩, ⟨(some 72), .load 30 (t' 10), 30, none, true, false, false⟩, o1 73 (.fieldAddr 30 (t' 2) 0) 0, ⟨(some 74), .load 22 (t' 73), 22, none, true, false, false⟩, mv 75 8 3, ⟨(some 76), .indexAddr 22 (t' 74) (t' 75), 0, none, true, false, false⟩, ⟨(some 77), .load 9 (t' 76), 9, none, true, false, false⟩, ⟨none, .store 30 (t' 4) (t' 71), 0, none, true, false, false⟩, ⟨none, .store 30 (t' 5) (t' 72), 0, none, true, false, false⟩, asg 6 77 9, o1 7 (.assign (.const (.int .i64 (0)))) 27])
 (.ret)))))))⟩
theorem fa32_eq : fnA qcfg.P (qcfg.rxf 32) 32 = some fa32 := by kernel_rfl
noncomputable def e32 (a0Seps : List V) (a0Kids : List V) (a0High : List UInt8) (a0Next : Int) (a1 : Int) : R :=
  pcK qcfg 14 [V.agg [V.sl a0Seps, V.sl a0Kids, V.str a0High, V.int .i64 a0Next]] fun r =>
  kB r fun r14 =>
  cond (!r14)
 (some (.done (V.tup [V.agg [V.sl [], V.sl [], V.str [], V.int .i64 0], V.agg [V.sl [], V.sl [], V.str [], V.int .i64 0], V.str [], V.int .i64 1])))
 (cond (decide ((a0Kids.length : Int) < 3))
 (some (.done (V.tup [V.agg [V.sl [], V.sl [], V.str [], V.int .i64 0], V.agg [V.sl [], V.sl [], V.str [], V.int .i64 0], V.str [], V.int .i64 1])))
 (pcK qcfg 44 [V.int .i64 a1] fun r_1 =>
  kB r_1 fun r44 =>
  cond (!r44)
 (some (.done (V.tup [V.agg [V.sl [], V.sl [], V.str [], V.int .i64 0], V.agg [V.sl [], V.sl [], V.str [], V.int .i64 0], V.str [], V.int .i64 1])))
 (gd (wfl 1 a0Seps) <|
  gd (decide (0 ≤ W .i64 (((a0Seps.length : Int).tdiv 2)))) <|
  gd (decide ((W .i64 (((a0Seps.length : Int).tdiv 2))).toNat ≤ a0Seps.length)) <|
  gd (wfl 1 (a0Seps.take ((W .i64 (((a0Seps.length : Int).tdiv 2))).toNat))) <|
  gd (decide (0 + (a0Seps.take ((W .i64 (((a0Seps.length : Int).tdiv 2))).toNat)).length ≤ 16777216)) <|
  gd (wfl 1 a0Kids) <|
  gd (decide (0 ≤ W .i64 ((W .i64 (((a0Seps.length : Int).tdiv 2))) + 1))) <|
  gd (decide ((W .i64 ((W .i64 (((a0Seps.length : Int).tdiv 2))) + 1)).toNat ≤ a0Kids.length)) <|
  gd (wfl 1 (a0Kids.take ((W .i64 ((W .i64 (((a0Seps.length : Int).tdiv 2))) + 1)).toNat))) <|
  gd (decide (0 + (a0Kids.take ((W .i64 ((W .i64 (((a0Seps.length : Int).tdiv 2))) + 1)).toNat)).length ≤ 16777216)) <|
  gd (decide (0 ≤ W .i64 (((a0Seps.length : Int).tdiv 2)))) <|
  idxK a0Seps ((W .i64 (((a0Seps.length : Int).tdiv 2))).toNat) fun v =>
  kS v fun s =>
  gd (wfl 1 a0Seps) <|
  gd (decide (0 ≤ W .i64 ((W .i64 (((a0Seps.length : Int).tdiv 2))) + 1))) <|
  gd (decide ((W .i64 ((W .i64 (((a0Seps.length : Int).tdiv 2))) + 1)).toNat ≤ a0Seps.length)) <|
  gd (wfl 1 ((a0Seps.take a0Seps.length).drop ((W .i64 ((W .i64 (((a0Seps.length : Int).tdiv 2))) + 1)).toNat))) <|
  gd (decide (0 + ((a0Seps.take a0Seps.length).drop ((W .i64 ((W .i64 (((a0Seps.length : Int).tdiv 2))) + 1)).toNat)).length ≤ 16777216)) <|
  gd (wfl 1 a0Kids) <|
  gd (decide (0 ≤ W .i64 ((W .i64 (((a0Seps.length : Int).tdiv 2))) + 1))) <|
  gd (decide ((W .i64 ((W .i64 (((a0Seps.length : Int).tdiv 2))) + 1)).toNat ≤ a0Kids.length)) <|
  gd (wfl 1 ((a0Kids.take a0Kids.length).drop ((W .i64 ((W .i64 (((a0Seps.length : Int).tdiv 2))) + 1)).toNat))) <|
  gd (decide (0 + ((a0Kids.take a0Kids.length).drop ((W .i64 ((W .i64 (((a0Seps.length : Int).tdiv 2))) + 1)).toNat)).length ≤ 16777216)) <|
  gd (decide (0 ≤ W .i64 (((a0Seps.length : Int).tdiv 2)))) <|
  idxK a0Seps ((W .i64 (((a0Seps.length : Int).tdiv 2))).toNat) fun v_1 =>
  kS v_1 fun s_1 =>
  some (.done (V.tup [V.agg [V.sl (a0Seps.take ((W .i64 (((a0Seps.length : Int).tdiv 2))).toNat)), V.sl (a0Kids.take ((W .i64 ((W .i64 (((a0Seps.length : Int).tdiv 2))) + 1)).toNat)), V.str s, V.int .i64 (W .i64 (a1 + 1))], V.agg [V.sl ((a0Seps.take a0Seps.length).drop ((W .i64 ((W .i64 (((a0Seps.length : Int).tdiv 2))) + 1)).toNat)), V.sl ((a0Kids.take a0Kids.length).drop ((W .i64 ((W .i64 (((a0Seps.length : Int).tdiv 2))) + 1)).toNat)), V.str a0High, V.int .i64 a0Next], V.str s_1, V.int .i64 0])))))
theorem e32_eq (a0Seps : List V) (a0Kids : List V) (a0High : List UInt8) (a0Next : Int) (a1 : Int) : enterK qk false fa32 [V.agg [V.sl a0Seps, V.sl a0Kids, V.str a0High, V.int .i64 a0Next], V.int .i64 a1] [] = e32 a0Seps a0Kids a0High a0Next a1 := by kernel_rfl
theorem e32_run (a0Seps : List V) (a0Kids : List V) (a0High : List UInt8) (a0Next : Int) (a1 : Int) {o : Out} {v : V} (h : e32 a0Seps a0Kids a0High a0Next a1 = some o) (hg : Go qk false 0 fa32 o (.done v)) : pcW qcfg 32 [V.agg [V.sl a0Seps, V.sl a0Kids, V.str a0High, V.int .i64 a0Next], V.int .i64 a1] = some v := pcW_go qik rfl fa32_eq ((e32_eq a0Seps a0Kids a0High a0Next a1).trans h) hg
theorem e32_done (a0Seps : List V) (a0Kids : List V) (a0High : List UInt8) (a0Next : Int) (a1 : Int) {v : V} (h : e32 a0Seps a0Kids a0High a0Next a1 = some (.done v)) : pcW qcfg 32 [V.agg [V.sl a0Seps, V.sl a0Kids, V.str a0High, V.int .i64 a0Next], V.int .i64 a1] = some v := e32_run a0Seps a0Kids a0High a0Next a1 h (.refl _)
end Go.Proofs.Ytndkhelglfakfaa
