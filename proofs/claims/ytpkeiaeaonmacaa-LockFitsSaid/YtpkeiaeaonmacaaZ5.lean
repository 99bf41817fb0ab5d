/-
  Texts that the last one stands on.
-/
import Derived.Test.YtpkeiaeaonmacaaZ4
namespace Go.Proofs.Ytpkeiaeaonmacaa
open Go Go.Lite
set_option maxRecDepth 100000
set_option linter.unusedVariables false
def d61 (v : V) (k : Nat -> List V -> R) : R := kA v fun cs => unc cs fun c cs => kM 58 c fun x0 => unc cs fun c cs => kL c fun x1 => unn cs <| (k x0 x1)
@[simp] theorem d61_mk (x0 : Nat) (x1 : List V) (k : Nat -> List V -> R) : d61 (.agg [V.hm 58 x0, V.sl x1]) k = k x0 x1 := rfl
@[congr] theorem d61_wc {v v' : V} {k : Nat -> List V -> R} (h : v = v') : d61 v k = d61 v' k := by rw [h]
def d79 (v : V) (k : Int -> Int -> R) : R := kT v fun vs => unc vs fun c vs => kI .i64 c fun x0 => unc vs fun c vs => kI .i64 c fun x1 => unn vs (k x0 x1)
@[simp] theorem d79_mk (x0 : Int) (x1 : Int) (k : Int -> Int -> R) : d79 (.tup [V.int .i64 x0, V.int .i64 x1]) k = k x0 x1 := rfl
@[congr] theorem d79_wc {v v' : V} {k : Int -> Int -> R} (h : v = v') : d79 v k = d79 v' k := by rw [h]
def d63 (v : V) (k : Int -> Int -> R) : R := kA v fun cs => unc cs fun c cs => kI .i64 c fun x0 => unc cs fun c cs => kI .i64 c fun x1 => unn cs <| (k x0 x1)
@[simp] theorem d63_mk (x0 : Int) (x1 : Int) (k : Int -> Int -> R) : d63 (.agg [V.int .i64 x0, V.int .i64 x1]) k = k x0 x1 := rfl
@[congr] theorem d63_wc {v v' : V} {k : Int -> Int -> R} (h : v = v') : d63 v k = d63 v' k := by rw [h]
def mk20 (L : Int × (List V) × (List (List (V × V))) × (List (V × V)) × (List (V × V))) : V × List O := (V.int .i64 L.1, (tm L.2.1 L.2.2.1 L.2.2.2.1 L.2.2.2.2))
theorem mk20_inj : ∀ L L', mk20 L = mk20 L' -> L = L' := by
  rintro ⟨a0, a1, a2, a3, a4⟩ ⟨b0, b1, b2, b3, b4⟩ h
  cases h; rfl
def mk15 (L : (List UInt8) × Int × Bool × (List V) × (List (List (V × V))) × (List (V × V)) × (List (V × V))) : V × List O := (V.tup [V.agg [V.str L.1, V.int .i64 L.2.1], V.bool L.2.2.1], (tm L.2.2.2.1 L.2.2.2.2.1 L.2.2.2.2.2.1 L.2.2.2.2.2.2))
theorem mk15_inj : ∀ L L', mk15 L = mk15 L' -> L = L' := by
  rintro ⟨a0, a1, a2, a3, a4, a5, a6⟩ ⟨b0, b1, b2, b3, b4, b5, b6⟩ h
  cases h; rfl
def mk24 (L : Int × (List V) × (List (List (V × V))) × (List (V × V)) × (List (V × V)) × (List V)) : V × List O := (V.tup [V.own 5, V.int .i64 L.1], [O.arena 61 L.2.1, O.marena 58 L.2.2.1, O.box 50 (V.agg [V.mp 3, V.mp 4]) false, O.map L.2.2.2.1, O.map L.2.2.2.2.1, O.row 3 L.2.2.2.2.2 0])
theorem mk24_inj : ∀ L L', mk24 L = mk24 L' -> L = L' := by
  rintro ⟨a0, a1, a2, a3, a4, a5⟩ ⟨b0, b1, b2, b3, b4, b5⟩ h
  cases h; rfl
def mk18 (L : (List V) × (List (List (V × V))) × (List (V × V)) × (List (V × V)) × (List V)) : V × List O := (V.own 5, [O.arena 61 L.1, O.marena 58 L.2.1, O.box 50 (V.agg [V.mp 3, V.mp 4]) false, O.map L.2.2.1, O.map L.2.2.2.1, O.row 3 L.2.2.2.2 0])
theorem mk18_inj : ∀ L L', mk18 L = mk18 L' -> L = L' := by
  rintro ⟨a0, a1, a2, a3, a4⟩ ⟨b0, b1, b2, b3, b4⟩ h
  cases h; rfl
def mk14 (L : Int × (List V) × (List (List (V × V))) × (List (V × V)) × (List (V × V))) : V × List O := (V.int .i64 L.1, (tm L.2.1 L.2.2.1 L.2.2.2.1 L.2.2.2.2))
theorem mk14_inj : ∀ L L', mk14 L = mk14 L' -> L = L' := by
  rintro ⟨a0, a1, a2, a3, a4⟩ ⟨b0, b1, b2, b3, b4⟩ h
  cases h; rfl
def mk11 (L : (List V) × (List (List (V × V))) × (List (V × V)) × (List (V × V)) × (List V)) : V × List O := (V.own 5, [O.arena 61 L.1, O.marena 58 L.2.1, O.box 50 (V.agg [V.mp 3, V.mp 4]) false, O.map L.2.2.1, O.map L.2.2.2.1, O.row 3 L.2.2.2.2 0])
theorem mk11_inj : ∀ L L', mk11 L = mk11 L' -> L = L' := by
  rintro ⟨a0, a1, a2, a3, a4⟩ ⟨b0, b1, b2, b3, b4⟩ h
  cases h; rfl
def mk12 (L : (List V) × (List (List (V × V))) × (List (V × V)) × (List (V × V)) × (List V)) : V × List O := (V.own 5, [O.arena 61 L.1, O.marena 58 L.2.1, O.box 50 (V.agg [V.mp 3, V.mp 4]) false, O.map L.2.2.1, O.map L.2.2.2.1, O.row 3 L.2.2.2.2 0])
theorem mk12_inj : ∀ L L', mk12 L = mk12 L' -> L = L' := by
  rintro ⟨a0, a1, a2, a3, a4⟩ ⟨b0, b1, b2, b3, b4⟩ h
  cases h; rfl
def mk19 (L : (List V) × (List (List (V × V))) × (List (V × V)) × (List (V × V)) × (List V)) : V × List O := (V.own 5, [O.arena 61 L.1, O.marena 58 L.2.1, O.box 50 (V.agg [V.mp 3, V.mp 4]) false, O.map L.2.2.1, O.map L.2.2.2.1, O.row 33 L.2.2.2.2 0])
theorem mk19_inj : ∀ L L', mk19 L = mk19 L' -> L = L' := by
  rintro ⟨a0, a1, a2, a3, a4⟩ ⟨b0, b1, b2, b3, b4⟩ h
  cases h; rfl
def mk40 (L : Nat × (List V) × (List (List (V × V))) × (List (V × V)) × (List (V × V))) : V × List O := (V.hp 61 L.1 0, (tm L.2.1 L.2.2.1 L.2.2.2.1 L.2.2.2.2))
theorem mk40_inj : ∀ L L', mk40 L = mk40 L' -> L = L' := by
  rintro ⟨a0, a1, a2, a3, a4⟩ ⟨b0, b1, b2, b3, b4⟩ h
  cases h; rfl
def mk43 (L : Int × (List V) × (List (List (V × V))) × (List (V × V)) × (List (V × V))) : V × List O := (V.int .i64 L.1, (tm L.2.1 L.2.2.1 L.2.2.2.1 L.2.2.2.2))
theorem mk43_inj : ∀ L L', mk43 L = mk43 L' -> L = L' := by
  rintro ⟨a0, a1, a2, a3, a4⟩ ⟨b0, b1, b2, b3, b4⟩ h
  cases h; rfl
def mk39 (L : (List V) × (List (List (V × V))) × (List (V × V)) × (List (V × V)) × (List V)) : V × List O := (V.own 5, [O.arena 61 L.1, O.marena 58 L.2.1, O.box 50 (V.agg [V.mp 3, V.mp 4]) false, O.map L.2.2.1, O.map L.2.2.2.1, O.row 3 L.2.2.2.2 0])
theorem mk39_inj : ∀ L L', mk39 L = mk39 L' -> L = L' := by
  rintro ⟨a0, a1, a2, a3, a4⟩ ⟨b0, b1, b2, b3, b4⟩ h
  cases h; rfl
def mk36 (L : Nat × (List V) × (List (List (V × V))) × (List V) × Int) : V × List O := (V.win 2 0 L.1, [O.arena 61 L.2.1, O.marena 58 L.2.2.1, O.row 63 L.2.2.2.1 0, O.box 3 (V.int .i64 L.2.2.2.2) false])
theorem mk36_inj : ∀ L L', mk36 L = mk36 L' -> L = L' := by
  rintro ⟨a0, a1, a2, a3, a4⟩ ⟨b0, b1, b2, b3, b4⟩ h
  cases h; rfl
def mk56 (L : Int × (List V) × (List (List (V × V)))) : V × List O := (V.int .i64 L.1, [O.arena 61 L.2.1, O.marena 58 L.2.2])
theorem mk56_inj : ∀ L L', mk56 L = mk56 L' -> L = L' := by
  rintro ⟨a0, a1, a2⟩ ⟨b0, b1, b2⟩ h
  cases h; rfl
def mk57 (L : Bool × (List V) × (List (List (V × V))) × (List (V × V)) × (List (V × V))) : V × List O := (V.bool L.1, (tm L.2.1 L.2.2.1 L.2.2.2.1 L.2.2.2.2))
theorem mk57_inj : ∀ L L', mk57 L = mk57 L' -> L = L' := by
  rintro ⟨a0, a1, a2, a3, a4⟩ ⟨b0, b1, b2, b3, b4⟩ h
  cases h; rfl
def mk54 (L : (List V) × (List (List (V × V))) × (List (V × V)) × (List (V × V))) : V × List O := (V.tup [], (tm L.1 L.2.1 L.2.2.1 L.2.2.2))
theorem mk54_inj : ∀ L L', mk54 L = mk54 L' -> L = L' := by
  rintro ⟨a0, a1, a2, a3⟩ ⟨b0, b1, b2, b3⟩ h
  cases h; rfl
def mk65 (L : (List V) × (List (List (V × V))) × (List (V × V)) × (List (V × V)) × (List (V × V))) : V × List O := (V.tup [], [O.arena 61 L.1, O.marena 58 L.2.1, O.box 23 (V.ptr 5 0 0) false, O.box 68 (V.mp 6) false, O.box 99 (V.fn 65 [V.ptr 2 0 0, V.ptr 3 0 0, V.ptr 4 0 0]) false, O.box 50 (V.agg [V.mp 7, V.mp 8]) false, O.map L.2.2.1, O.map L.2.2.2.1, O.map L.2.2.2.2])
theorem mk65_inj : ∀ L L', mk65 L = mk65 L' -> L = L' := by
  rintro ⟨a0, a1, a2, a3, a4⟩ ⟨b0, b1, b2, b3, b4⟩ h
  cases h; rfl
noncomputable def kcBck (cm : CM) (f : FuncId) (args : List V) (mem : List O) (k : V -> List O -> R) : R := cond (f == 20) (icM cfgB cm mk20 f args mem fun L => k (mk20 L).1 (mk20 L).2) (cond (f == 15) (icM cfgB cm mk15 f args mem fun L => k (mk15 L).1 (mk15 L).2) (cond (f == 24) (icM cfgB cm mk24 f args mem fun L => k (mk24 L).1 (mk24 L).2) (cond (f == 18) (icM cfgB cm mk18 f args mem fun L => k (mk18 L).1 (mk18 L).2) (cond (f == 14) (icM cfgB cm mk14 f args mem fun L => k (mk14 L).1 (mk14 L).2) (cond (f == 11) (icM cfgB cm mk11 f args mem fun L => k (mk11 L).1 (mk11 L).2) (cond (f == 12) (icM cfgB cm mk12 f args mem fun L => k (mk12 L).1 (mk12 L).2) (cond (f == 19) (icM cfgB cm mk19 f args mem fun L => k (mk19 L).1 (mk19 L).2) (cond (f == 40) (icM cfgB cm mk40 f args mem fun L => k (mk40 L).1 (mk40 L).2) (cond (f == 43) (icM cfgB cm mk43 f args mem fun L => k (mk43 L).1 (mk43 L).2) (cond (f == 39) (icM cfgB cm mk39 f args mem fun L => k (mk39 L).1 (mk39 L).2) (cond (f == 36) (icM cfgB cm mk36 f args mem fun L => k (mk36 L).1 (mk36 L).2) (cond (f == 56) (icM cfgB cm mk56 f args mem fun L => k (mk56 L).1 (mk56 L).2) (cond (f == 57) (icM cfgB cm mk57 f args mem fun L => k (mk57 L).1 (mk57 L).2) (cond (f == 54) (icM cfgB cm mk54 f args mem fun L => k (mk54 L).1 (mk54 L).2) (cond (f == 65) (icM cfgB cm mk65 f args mem fun L => k (mk65 L).1 (mk65 L).2) (none))))))))))))))))
noncomputable def kcBC : KC := { kcB0 with ck := kcBck }
theorem ikBC : IKOK kcBC := ⟨ikB0.ik, fun cm f av mem k r h => by
  change kcBck cm f av mem k = some r at h
  unfold kcBck at h
  rcases cond_some h with ⟨_, h⟩ | ⟨_, h⟩
  · obtain ⟨L, h1, h2⟩ := icM_some h; exact ⟨_, _, h1, h2⟩
  rcases cond_some h with ⟨_, h⟩ | ⟨_, h⟩
  · obtain ⟨L, h1, h2⟩ := icM_some h; exact ⟨_, _, h1, h2⟩
  rcases cond_some h with ⟨_, h⟩ | ⟨_, h⟩
  · obtain ⟨L, h1, h2⟩ := icM_some h; exact ⟨_, _, h1, h2⟩
  rcases cond_some h with ⟨_, h⟩ | ⟨_, h⟩
  · obtain ⟨L, h1, h2⟩ := icM_some h; exact ⟨_, _, h1, h2⟩
  rcases cond_some h with ⟨_, h⟩ | ⟨_, h⟩
  · obtain ⟨L, h1, h2⟩ := icM_some h; exact ⟨_, _, h1, h2⟩
  rcases cond_some h with ⟨_, h⟩ | ⟨_, h⟩
  · obtain ⟨L, h1, h2⟩ := icM_some h; exact ⟨_, _, h1, h2⟩
  rcases cond_some h with ⟨_, h⟩ | ⟨_, h⟩
  · obtain ⟨L, h1, h2⟩ := icM_some h; exact ⟨_, _, h1, h2⟩
  rcases cond_some h with ⟨_, h⟩ | ⟨_, h⟩
  · obtain ⟨L, h1, h2⟩ := icM_some h; exact ⟨_, _, h1, h2⟩
  rcases cond_some h with ⟨_, h⟩ | ⟨_, h⟩
  · obtain ⟨L, h1, h2⟩ := icM_some h; exact ⟨_, _, h1, h2⟩
  rcases cond_some h with ⟨_, h⟩ | ⟨_, h⟩
  · obtain ⟨L, h1, h2⟩ := icM_some h; exact ⟨_, _, h1, h2⟩
  rcases cond_some h with ⟨_, h⟩ | ⟨_, h⟩
  · obtain ⟨L, h1, h2⟩ := icM_some h; exact ⟨_, _, h1, h2⟩
  rcases cond_some h with ⟨_, h⟩ | ⟨_, h⟩
  · obtain ⟨L, h1, h2⟩ := icM_some h; exact ⟨_, _, h1, h2⟩
  rcases cond_some h with ⟨_, h⟩ | ⟨_, h⟩
  · obtain ⟨L, h1, h2⟩ := icM_some h; exact ⟨_, _, h1, h2⟩
  rcases cond_some h with ⟨_, h⟩ | ⟨_, h⟩
  · obtain ⟨L, h1, h2⟩ := icM_some h; exact ⟨_, _, h1, h2⟩
  rcases cond_some h with ⟨_, h⟩ | ⟨_, h⟩
  · obtain ⟨L, h1, h2⟩ := icM_some h; exact ⟨_, _, h1, h2⟩
  rcases cond_some h with ⟨_, h⟩ | ⟨_, h⟩
  · obtain ⟨L, h1, h2⟩ := icM_some h; exact ⟨_, _, h1, h2⟩
  cases h⟩
noncomputable def fa26 : FA := ⟨1, 4, [.tmp 2], [56],
 (.seq
 (.ops false [o1 1 (.box 58 (t' 0)) 0, o1 2 (.assign (.const (.nilFunc))) 56])
 (.seq
 (.ops false [o1 3 (.makeFunc (.func 48) #[] #[(t' 1)]) 55, asg 2 3 56])
 (.ret)))⟩
theorem fa26_eq : fnA cfgB.P (cfgB.rxf 26) 26 = some fa26 := by kernel_rfl
noncomputable def fa35 : FA := ⟨1, 4, [.tmp 2], [73],
 (.seq
 (.ops false [o1 1 (.box 47 (t' 0)) 0, o1 2 (.assign (.const (.nilFunc))) 73])
 (.seq
 (.ops false [o1 3 (.makeFunc (.func 53) #[] #[(t' 1)]) 72, asg 2 3 73])
 (.ret)))⟩
theorem fa35_eq : fnA cfgB.P (cfgB.rxf 35) 35 = some fa35 := by kernel_rfl
noncomputable def fa9 : FA := ⟨0, 5, [.tmp 0], [23],
 (.seq
 (.ops false [o1 0 (.assign (.const (.pointer none))) 23])
 (.seq
 (.ops false [o1 1 (.makeMap 47 none) 47, o1 2 (.makeMap 48 none) 48, o1 3 (.build 50 #[(0, (t' 1)), (1, (t' 2))]) 50, o1 4 (.box 50 (t' 3)) 23, asg 0 4 23])
 (.ret)))⟩
theorem fa9_eq : fnA cfgB.P (cfgB.rxf 9) 9 = some fa9 := by kernel_rfl
noncomputable def fa10 : FA := ⟨2, 37, [], [],
 (.seq
 (.ops false [o1 3 (.box 27 (t' 1)) 0])
 (.seq
 (.ops false [o1 5 (.fieldAddr 27 (t' 3) 2) 0, o1 6 (.load 9 (t' 5)) 9, o1 7 (.fieldAddr 27 (t' 3) 2) 0, o1 8 (.load 9 (t' 7)) 9, o1 9 (.call ⟨(.builtin .len), #[(t' 8)], #[9]⟩) 3, o1 10 (.call ⟨(.builtin .min), #[(t' 9), (.const (.int .i64 (2)))], #[3, 3]⟩) 3, o1 11 (.slice 9 (t' 6) none (some (t' 10)) none) 9, asg 4 11 9])
 (.seq
 (.ops false [o1 12 (.fieldAddr 27 (t' 3) 0) 0, o1 13 (.load 3 (t' 12)) 3])
 (.block 0
 (.seq
 (.ops false [o1 20 (.binOp .eql 3 (t' 13) (.const (.int .i64 (0))) 3) 4, asg 19 20 4])
 (.cond (t' 19)
 (.ops false [mv 21 0 23, o1 22 (.fieldAddr 27 (t' 3) 1) 0, o1 23 (.load 3 (t' 22)) 3, o1 24 (.binOp .and 3 (t' 23) (.const (.int .i64 (7))) 3) 3, mv 25 4 9, o1 26 (.fieldAddr 27 (t' 3) 3) 0, o1 27 (.load 3 (t' 26)) 3, o1 28 (.call ⟨(.value (.func 20)), #[(t' 21), (t' 24), (t' 25), (t' 27)], #[23, 3, 9, 3]⟩) 42])
 (.seq
 (.ops false [o1 30 (.binOp .eql 3 (t' 13) (.const (.int .i64 (1))) 3) 4, asg 29 30 4])
 (.cond (t' 29)
 (.ops false [mv 31 0 23, o1 32 (.fieldAddr 27 (t' 3) 1) 0, o1 33 (.load 3 (t' 32)) 3, o1 34 (.binOp .and 3 (t' 33) (.const (.int .i64 (7))) 3) 3, mv 35 4 9, o1 36 (.call ⟨(.value (.func 24)), #[(t' 31), (t' 34), (t' 35)], #[23, 3, 9]⟩) 51])
 (.ops false [mv 14 0 23, o1 15 (.fieldAddr 27 (t' 3) 1) 0, o1 16 (.load 3 (t' 15)) 3, o1 17 (.binOp .and 3 (t' 16) (.const (.int .i64 (7))) 3) 3, o1 18 (.call ⟨(.value (.func 18)), #[(t' 14), (t' 17)], #[23, 3]⟩) 28])))))))))⟩
theorem fa10_eq : fnA cfgB.P (cfgB.rxf 10) 10 = some fa10 := by kernel_rfl
noncomputable def kcB : KC := kcBC.inl [(26, fa26), (35, fa35), (9, fa9), (10, fa10)]
theorem ikB : IKOK kcB := inl_ok ikBC (by
  intro x hx
  simp only [List.mem_cons, List.not_mem_nil, or_false] at hx
  rcases hx with rfl | rfl | rfl | rfl
  · exact ⟨rfl, fa26_eq, rfl⟩
  · exact ⟨rfl, fa35_eq, rfl⟩
  · exact ⟨rfl, fa9_eq, rfl⟩
  · exact ⟨rfl, fa10_eq, rfl⟩)
noncomputable def fa22 : FA := ⟨2, 26, [.tmp 4], [4],
 (.seq
 (.ops false [o1 4 (.assign (.const (.bool false))) 4])
 (.seq
 (.seq
 (.ops false [mv 6 0 28, o1 7 (.call ⟨(.builtin .len), #[(t' 6)], #[28]⟩) 3, mv 8 1 28, o1 9 (.call ⟨(.builtin .len), #[(t' 8)], #[28]⟩) 3, o1 10 (.binOp .neq 3 (t' 7) (t' 9) 3) 4])
 (.cond (t' 10)
 (.seq
 (.ops false [o1 4 (.assign (.const (.bool false))) 4])
 (.ret))
 (.skip)))
 (.seq
 (.seq
 (.ops false [o1 5 (.assign (.const (.int .i64 (0)))) 3])
 (.block 0
 (.loop ([2, 3] ++ List.range' 6 20)
 (.seq
 (.seq
 (.ops false [mv 11 5 3, mv 12 0 28, o1 13 (.call ⟨(.builtin .len), #[(t' 12)], #[28]⟩) 3, o1 14 (.binOp .lss 3 (t' 11) (t' 13) 3) 4])
 (.cond (t' 14)
 (.skip)
 (.exit 0)))
 (.seq
 (.block 1
 (.seq
 (.ops true [mv 17 0 28, mv 18 5 3, o1 19 (.indexAddr 28 (t' 17) (t' 18)) 0, o1 20 (.load 3 (t' 19)) 3, mv 21 1 28, mv 22 5 3, o1 23 (.indexAddr 28 (t' 21) (t' 22)) 0, o1 24 (.load 3 (t' 23)) 3, o1 25 (.binOp .neq 3 (t' 20) (t' 24) 3) 4])
 (.cond (t' 25)
 (.seq
 (.ops false [o1 4 (.assign (.const (.bool false))) 4])
 (.ret))
 (.skip))))
 (.ops false [mv 15 5 3, o1 16 (.binOp .add 3 (t' 15) (.const (.int .i64 (1))) 3) 3, asg 5 16 3]))))))
 (.seq
 (.ops false [o1 4 (.assign (.const (.bool true))) 4])
 (.ret)))))⟩
theorem fa22_eq : fnA cfgB.P (cfgB.rxf 22) 22 = some fa22 := by kernel_rfl
def T22_0 (x0 x1 : List V) (x5 : Int) : S := ⟨[V.sl x0, V.sl x1, V.junk, V.junk, V.bool false, V.int .i64 x5] ++ (JU 20), []⟩
noncomputable def e22 (a0 a1 : List V) : R :=
  cond ((a0.length : Int) != (a1.length : Int))
 (some (.done (V.bool false)))
 (some (.head 0 (T22_0 a0 a1 0)))
theorem e22_eq (a0 a1 : List V) : enterK kcB false fa22 [V.sl a0, V.sl a1] [] = e22 a0 a1 := by kernel_rfl
theorem e22_run (a0 a1 : List V) {o : Out} {v : V} (h : e22 a0 a1 = some o) (hg : Go kcB false 0 fa22 o (.done v)) : pcW cfgB 22 [V.sl a0, V.sl a1] = some v := pcW_go ikB rfl fa22_eq ((e22_eq ..).trans h) hg
noncomputable def s22_0 (x0 x1 : List V) (x5 : Int) : R :=
  cond (decide (x5 < (x0.length : Int)))
 (gd (decide (0 <= x5)) <|
  idxK x0 x5.toNat fun v =>
  kI .i64 v fun n =>
  gd (decide (0 <= x5)) <|
  idxK x1 x5.toNat fun v_1 =>
  kI .i64 v_1 fun n_1 =>
  cond (n != n_1)
 (some (.done (V.bool false)))
 (some (.head 0 (T22_0 x0 x1 (W .i64 (x5 + 1))))))
 (some (.done (V.bool true)))
theorem s22_0_eq (x0 x1 : List V) (x5 : Int) : goK kcB false 0 fa22 0 (T22_0 x0 x1 x5) = s22_0 x0 x1 x5 := by kernel_rfl
theorem s22_0_run (x0 x1 : List V) (x5 : Int) {o o' : Out} (h : s22_0 x0 x1 x5 = some o) (hg : Go kcB false 0 fa22 o o') : Go kcB false 0 fa22 (.head 0 (T22_0 x0 x1 x5)) o' := .step ((s22_0_eq ..).trans h) hg
noncomputable def fa17 : FA := ⟨0, 153, [.tmp 0], [4],
 (.seq
 (.ops false [o1 0 (.assign (.const (.bool false))) 4])
 (.seq
 (.ops false [o1 19 (.call ⟨(.value (.func 9)), #[], #[]⟩) 23, asg 1 19 23])
 (.seq
 (.seq
 (.ops false [mv 20 1 23, o1 21 (.binOp .eql 23 (t' 20) (.const (.pointer none)) 23) 4])
 (.cond (t' 21)
 (.seq
 (.ops false [o1 0 (.assign (.const (.bool false))) 4])
 (.ret))
 (.skip)))
 (.seq
 (.ops false [mv 22 1 23, o1 23 (.call ⟨(.value (.func 20)), #[(t' 22), (.const (.int .i64 (1))), (.const (.string ⟨⟨[97]⟩⟩)), (.const (.int .i64 (4)))], #[23, 3, 9, 3]⟩) 42, mv 24 1 23, o1 25 (.call ⟨(.value (.func 20)), #[(t' 24), (.const (.int .i64 (2))), (.const (.string ⟨⟨[97]⟩⟩)), (.const (.int .i64 (3)))], #[23, 3, 9, 3]⟩) 42, mv 26 1 23, o1 27 (.call ⟨(.value (.func 20)), #[(t' 26), (.const (.int .i64 (2))), (.const (.string ⟨⟨[98]⟩⟩)), (.const (.int .i64 (3)))], #[23, 3, 9, 3]⟩) 42, asg 2 23 42, asg 3 25 42, asg 4 27 42])
 (.seq
 (.ops false [mv 29 1 23, o1 30 (.call ⟨(.value (.func 15)), #[(t' 29), (.const (.int .i64 (2)))], #[23, 3]⟩) 34, mv 28 30 34, o1 31 (.extract (t' 28) 0) 33, o1 32 (.extract (t' 28) 1) 4, o1 5 (.alloc 33) 0, o0 (.store 33 (t' 5) (t' 31)) 0, asg 6 32 4])
 (.seq
 (.ops false [mv 33 1 23, o1 34 (.call ⟨(.value (.func 20)), #[(t' 33), (.const (.int .i64 (3))), (.const (.string ⟨⟨[98]⟩⟩)), (.const (.int .i64 (4)))], #[23, 3, 9, 3]⟩) 42, mv 35 1 23, o1 36 (.call ⟨(.value (.func 20)), #[(t' 35), (.const (.int .i64 (1))), (.const (.string ⟨⟨[98]⟩⟩)), (.const (.int .i64 (3)))], #[23, 3, 9, 3]⟩) 42, asg 7 34 42, asg 8 36 42])
 (.seq
 (.ops false [mv 37 1 23, o1 38 (.call ⟨(.value (.func 16)), #[(t' 37), (.const (.int .i64 (1)))], #[23, 3]⟩) 28, asg 9 38 28])
 (.seq
 (.ops false [mv 39 1 23, o1 40 (.call ⟨(.value (.func 20)), #[(t' 39), (.const (.int .i64 (3))), (.const (.string ⟨⟨[97]⟩⟩)), (.const (.int .i64 (3)))], #[23, 3, 9, 3]⟩) 42, asg 10 40 42])
 (.seq
 (.ops false [mv 42 1 23, o1 43 (.call ⟨(.value (.func 24)), #[(t' 42), (.const (.int .i64 (3))), (.const (.string ⟨⟨[98]⟩⟩))], #[23, 3, 9]⟩) 51, mv 41 43 51, o1 44 (.extract (t' 41) 0) 28, o1 45 (.extract (t' 41) 1) 42, asg 11 44 28, asg 12 45 42])
 (.seq
 (.ops false [mv 47 1 23, o1 48 (.call ⟨(.value (.func 24)), #[(t' 47), (.const (.int .i64 (3))), (.const (.string ⟨⟨[98]⟩⟩))], #[23, 3, 9]⟩) 51, mv 46 48 51, o1 49 (.extract (t' 46) 0) 28, o1 50 (.extract (t' 46) 1) 42, asg 13 49 28, asg 14 50 42])
 (.seq
 (.ops false [mv 51 1 23, o1 52 (.call ⟨(.value (.func 18)), #[(t' 51), (.const (.int .i64 (1)))], #[23, 3]⟩) 28, asg 15 52 28])
 (.seq
 (.ops false [mv 53 1 23, o1 54 (.call ⟨(.value (.func 20)), #[(t' 53), (.const (.int .i64 (2))), (.const (.string ⟨⟨[97]⟩⟩)), (.const (.int .i64 (4)))], #[23, 3, 9, 3]⟩) 42, mv 55 1 23, o1 56 (.call ⟨(.value (.func 20)), #[(t' 55), (.const (.int .i64 (-1))), (.const (.string ⟨⟨[97]⟩⟩)), (.const (.int .i64 (3)))], #[23, 3, 9, 3]⟩) 42, asg 16 54 42, asg 17 56 42])
 (.seq
 (.ops false [mv 57 1 23, o1 58 (.call ⟨(.value (.func 20)), #[(t' 57), (.const (.int .i64 (4))), (.const (.string ⟨⟨[97]⟩⟩)), (.const (.int .i64 (0)))], #[23, 3, 9, 3]⟩) 42, asg 18 58 42])
 (.seq
 (.ops false [mv 59 2 42, o1 60 (.binOp .eql 42 (t' 59) (.const (.int .i64 (0))) 42) 4, mv 61 60 4, o2 62 (.move (t' 3)) 42 61 true, o2 63 (.binOp .eql 42 (t' 62) (.const (.int .i64 (10))) 42) 4 61 true, o1 64 (.pick (t' 61) (t' 63) (.const (.bool false))) 4, mv 65 64 4, o2 66 (.move (t' 4)) 42 65 true, o2 67 (.binOp .eql 42 (t' 66) (.const (.int .i64 (9))) 42) 4 65 true, o1 68 (.pick (t' 65) (t' 67) (.const (.bool false))) 4, mv 69 68 4, o2 70 (.load 33 (t' 5)) 33 69 true, o2 71 (.build 33 #[(0, (.const (.string ⟨⟨[97]⟩⟩))), (1, (.const (.int .i64 (3))))]) 33 69 true, o2 72 (.binOp .eql 33 (t' 70) (t' 71) 33) 4 69 true, o1 73 (.pick (t' 69) (t' 72) (.const (.bool false))) 4, mv 74 73 4, o2 75 (.move (t' 6)) 4 74 true, o1 76 (.pick (t' 74) (t' 75) (.const (.bool false))) 4, mv 77 76 4, o2 78 (.move (t' 7)) 42 77 true, o2 79 (.binOp .eql 42 (t' 78) (.const (.int .i64 (0))) 42) 4 77 true, o1 80 (.pick (t' 77) (t' 79) (.const (.bool false))) 4, mv 81 80 4, o2 82 (.move (t' 8)) 42 81 true, o2 83 (.binOp .eql 42 (t' 82) (.const (.int .i64 (10))) 42) 4 81 true, o1 84 (.pick (t' 81) (t' 83) (.const (.bool false))) 4, mv 85 84 4, o2 86 (.move (t' 9)) 28 85 true, o2 87 (.buildSlice 28 1 #[(0, (.const (.int .i64 (3))))]) 28 85 true, o2 88 (.call ⟨(.value (.func 22)), #[(t' 86), (t' 87)], #[28, 28]⟩) 4 85 true, o1 89 (.pick (t' 85) (t' 88) (.const (.bool false))) 4, mv 90 89 4, o2 91 (.move (t' 10)) 42 90 true, o2 92 (.binOp .eql 42 (t' 91) (.const (.int .i64 (11))) 42) 4 90 true, o1 93 (.pick (t' 90) (t' 92) (.const (.bool false))) 4, mv 94 93 4, o2 95 (.move (t' 11)) 28 94 true, o2 96 (.buildSlice 28 1 #[(0, (.const (.int .i64 (1))))]) 28 94 true, o2 97 (.call ⟨(.value (.func 22)), #[(t' 95), (t' 96)], #[28, 28]⟩) 4 94 true, o1 98 (.pick (t' 94) (t' 97) (.const (.bool false))) 4, mv 99 98 4, o2 100 (.move (t' 12)) 42 99 true, o2 101 (.binOp .eql 42 (t' 100) (.const (.int .i64 (0))) 42) 4 99 true, o1 102 (.pick (t' 99) (t' 101) (.const (.bool false))) 4, mv 103 102 4, o2 104 (.move (t' 14)) 42 103 true, o2 105 (.binOp .eql 42 (t' 104) (.const (.int .i64 (7))) 42) 4 103 true, o1 106 (.pick (t' 103) (t' 105) (.const (.bool false))) 4, mv 107 106 4, o2 108 (.move (t' 15)) 28 107 true, o2 109 (.buildSlice 28 1 #[(0, (.const (.int .i64 (2))))]) 28 107 true, o2 110 (.call ⟨(.value (.func 22)), #[(t' 108), (t' 109)], #[28, 28]⟩) 4 107 true, o1 111 (.pick (t' 107) (t' 110) (.const (.bool false))) 4, mv 112 111 4, o2 113 (.move (t' 16)) 42 112 true, o2 114 (.binOp .eql 42 (t' 113) (.const (.int .i64 (0))) 42) 4 112 true, o1 115 (.pick (t' 112) (t' 114) (.const (.bool false))) 4, mv 116 115 4, o2 117 (.move (t' 17)) 42 116 true, o2 118 (.binOp .eql 42 (t' 117) (.const (.int .i64 (1))) 42) 4 116 true, o1 119 (.pick (t' 116) (t' 118) (.const (.bool false))) 4, mv 120 119 4, o2 121 (.move (t' 18)) 42 120 true, o2 122 (.binOp .eql 42 (t' 121) (.const (.int .i64 (1))) 42) 4 120 true, o1 123 (.pick (t' 120) (t' 122) (.const (.bool false))) 4, mv 124 123 4, o2 125 (.move (t' 1)) 23 124 true, o2 126 (.call ⟨(.value (.func 14)), #[(t' 125), (.const (.int .i64 (2))), (.const (.string ⟨⟨[97]⟩⟩))], #[23, 3, 9]⟩) 3 124 true, o2 127 (.binOp .eql 3 (t' 126) (.const (.int .i64 (4))) 3) 4 124 true, o1 128 (.pick (t' 124) (t' 127) (.const (.bool false))) 4, mv 129 128 4, o2 130 (.move (t' 1)) 23 129 true, o2 131 (.call ⟨(.value (.func 11)), #[(t' 130), (.const (.string ⟨⟨[97]⟩⟩))], #[23, 9]⟩) 28 129 true, o2 132 (.buildSlice 28 1 #[(0, (.const (.int .i64 (2))))]) 28 129 true, o2 133 (.call ⟨(.value (.func 22)), #[(t' 131), (t' 132)], #[28, 28]⟩) 4 129 true, o1 134 (.pick (t' 129) (t' 133) (.const (.bool false))) 4, mv 135 134 4, o2 136 (.move (t' 1)) 23 135 true, o2 137 (.call ⟨(.value (.func 12)), #[(t' 136), (.const (.string ⟨⟨[97]⟩⟩))], #[23, 9]⟩) 28 135 true, o2 138 (.call ⟨(.builtin .len), #[(t' 137)], #[28]⟩) 3 135 true, o2 139 (.binOp .eql 3 (t' 138) (.const (.int .i64 (0))) 3) 4 135 true, o1 140 (.pick (t' 135) (t' 139) (.const (.bool false))) 4, mv 141 140 4, o2 142 (.move (t' 1)) 23 141 true, o2 143 (.call ⟨(.value (.func 19)), #[(t' 142), (.const (.int .i64 (1)))], #[23, 3]⟩) 40 141 true, o2 144 (.call ⟨(.builtin .len), #[(t' 143)], #[40]⟩) 3 141 true, o2 145 (.binOp .eql 3 (t' 144) (.const (.int .i64 (0))) 3) 4 141 true, o1 146 (.pick (t' 141) (t' 145) (.const (.bool false))) 4, mv 147 146 4, o2 148 (.move (t' 1)) 23 147 true, o2 149 (.call ⟨(.value (.func 19)), #[(t' 148), (.const (.int .i64 (2)))], #[23, 3]⟩) 40 147 true, o2 150 (.call ⟨(.builtin .len), #[(t' 149)], #[40]⟩) 3 147 true, o2 151 (.binOp .eql 3 (t' 150) (.const (.int .i64 (1))) 3) 4 147 true, o1 152 (.pick (t' 147) (t' 151) (.const (.bool false))) 4, asg 0 152 4])
 (.ret)))))))))))))))⟩
theorem fa17_eq : fnA cfgB.P (cfgB.rxf 17) 17 = some fa17 := by kernel_rfl
noncomputable def e17  : R :=
  icM cfgB ⟨true, false⟩ mk20 20 [V.ptr 2 0 0, V.int .i64 1, V.str [97], V.int .i64 4] (tm [] [] [] []) fun L =>
  icM cfgB ⟨true, false⟩ mk20 20 [V.ptr 2 0 0, V.int .i64 2, V.str [97], V.int .i64 3] (tm L.2.1 L.2.2.1 L.2.2.2.1 L.2.2.2.2) fun L_1 =>
  icM cfgB ⟨true, false⟩ mk20 20 [V.ptr 2 0 0, V.int .i64 2, V.str [98], V.int .i64 3] (tm L_1.2.1 L_1.2.2.1 L_1.2.2.2.1 L_1.2.2.2.2) fun L_2 =>
  icM cfgB ⟨true, false⟩ mk15 15 [V.ptr 2 0 0, V.int .i64 2] (tm L_2.2.1 L_2.2.2.1 L_2.2.2.2.1 L_2.2.2.2.2) fun L_3 =>
  icM cfgB ⟨true, false⟩ mk20 20 [V.ptr 2 0 0, V.int .i64 3, V.str [98], V.int .i64 4] (tm L_3.2.2.2.1 L_3.2.2.2.2.1 L_3.2.2.2.2.2.1 L_3.2.2.2.2.2.2) fun L_4 =>
  icM cfgB ⟨true, false⟩ mk20 20 [V.ptr 2 0 0, V.int .i64 1, V.str [98], V.int .i64 3] (tm L_4.2.1 L_4.2.2.1 L_4.2.2.2.1 L_4.2.2.2.2) fun L_5 =>
  opt (behindX L_5.2.1 L_5.2.2.1 L_5.2.2.2.1 L_5.2.2.2.2 1) fun l =>
  icM cfgB ⟨true, false⟩ mk20 20 [V.ptr 2 0 0, V.int .i64 3, V.str [97], V.int .i64 3] (tm L_5.2.1 L_5.2.2.1 L_5.2.2.2.1 L_5.2.2.2.2) fun L_6 =>
  icM cfgB ⟨true, false⟩ mk24 24 [V.ptr 2 0 0, V.int .i64 3, V.str [98]] (tm L_6.2.1 L_6.2.2.1 L_6.2.2.2.1 L_6.2.2.2.2) fun L_7 =>
  icM cfgB ⟨true, false⟩ mk24 24 [V.ptr 2 0 0, V.int .i64 3, V.str [98]] (tm L_7.2.1 L_7.2.2.1 L_7.2.2.2.1 L_7.2.2.2.2.1) fun L_8 =>
  icM cfgB ⟨true, false⟩ mk18 18 [V.ptr 2 0 0, V.int .i64 1] (tm L_8.2.1 L_8.2.2.1 L_8.2.2.2.1 L_8.2.2.2.2.1) fun L_9 =>
  icM cfgB ⟨true, false⟩ mk20 20 [V.ptr 2 0 0, V.int .i64 2, V.str [97], V.int .i64 4] (tm L_9.1 L_9.2.1 L_9.2.2.1 L_9.2.2.2.1) fun L_10 =>
  icM cfgB ⟨true, false⟩ mk20 20 [V.ptr 2 0 0, V.int .i64 (-1), V.str [97], V.int .i64 3] (tm L_10.2.1 L_10.2.2.1 L_10.2.2.2.1 L_10.2.2.2.2) fun L_11 =>
  icM cfgB ⟨true, false⟩ mk20 20 [V.ptr 2 0 0, V.int .i64 4, V.str [97], V.int .i64 0] (tm L_11.2.1 L_11.2.2.1 L_11.2.2.2.1 L_11.2.2.2.2) fun L_12 =>
  cond (L.1 == (0 : Int))
 (cond (L_1.1 == (10 : Int))
 (cond (L_2.1 == (9 : Int))
 (cond ((L_3.1 == ([97] : List UInt8)) && ((L_3.2.1 == (3 : Int)) && true))
 (cond L_3.2.2.1
 (cond (L_4.1 == (0 : Int))
 (cond (L_5.1 == (10 : Int))
 (pcK cfgB 22 [V.sl (l.map iV), V.sl [V.int .i64 3]] fun r =>
  kB r fun r22 =>
  cond r22
 (cond (L_6.1 == (11 : Int))
 (pcK cfgB 22 [V.sl L_7.2.2.2.2.2, V.sl [V.int .i64 1]] fun r_1 =>
  kB r_1 fun r22_1 =>
  cond r22_1
 (cond (L_7.1 == (0 : Int))
 (cond (L_8.1 == (7 : Int))
 (pcK cfgB 22 [V.sl L_9.2.2.2.2, V.sl [V.int .i64 2]] fun r_2 =>
  kB r_2 fun r22_2 =>
  cond r22_2
 (cond (L_10.1 == (0 : Int))
 (cond (L_11.1 == (1 : Int))
 (cond (L_12.1 == (1 : Int))
 (icM cfgB ⟨true, false⟩ mk14 14 [V.ptr 2 0 0, V.int .i64 2, V.str [97]] (tm L_12.2.1 L_12.2.2.1 L_12.2.2.2.1 L_12.2.2.2.2) fun L_13 =>
  cond (L_13.1 == (4 : Int))
 (icM cfgB ⟨true, false⟩ mk11 11 [V.ptr 2 0 0, V.str [97]] (tm L_13.2.1 L_13.2.2.1 L_13.2.2.2.1 L_13.2.2.2.2) fun L_14 =>
  pcK cfgB 22 [V.sl L_14.2.2.2.2, V.sl [V.int .i64 2]] fun r_3 =>
  kB r_3 fun r22_3 =>
  cond r22_3
 (icM cfgB ⟨true, false⟩ mk12 12 [V.ptr 2 0 0, V.str [97]] (tm L_14.1 L_14.2.1 L_14.2.2.1 L_14.2.2.2.1) fun L_15 =>
  cond ((L_15.2.2.2.2.length : Int) == (0 : Int))
 (icM cfgB ⟨true, false⟩ mk19 19 [V.ptr 2 0 0, V.int .i64 1] (tm L_15.1 L_15.2.1 L_15.2.2.1 L_15.2.2.2.1) fun L_16 =>
  cond ((L_16.2.2.2.2.length : Int) == (0 : Int))
 (icM cfgB ⟨true, false⟩ mk19 19 [V.ptr 2 0 0, V.int .i64 2] (tm L_16.1 L_16.2.1 L_16.2.2.1 L_16.2.2.2.1) fun L_17 =>
  some (.doneM (V.bool ((L_17.2.2.2.2.length : Int) == (1 : Int))) [O.arena 61 L_17.1, O.marena 58 L_17.2.1, O.map L_17.2.2.1, O.map L_17.2.2.2.1, O.box 50 (V.agg [V.mp 2, V.mp 3]) false, O.box 33 (V.agg [V.str L_3.1, V.int .i64 L_3.2.1]) false, O.row 3 (l.map iV) 0, O.row 3 L_7.2.2.2.2.2 0, O.row 3 L_8.2.2.2.2.2 0, O.row 3 L_9.2.2.2.2 0, O.row 3 [V.int .i64 3] 0, O.row 3 [V.int .i64 1] 0, O.row 3 [V.int .i64 2] 0, O.row 3 L_14.2.2.2.2 0, O.row 3 [V.int .i64 2] 0, O.row 3 L_15.2.2.2.2 0, O.row 33 L_16.2.2.2.2 0, O.row 33 L_17.2.2.2.2 0]))
 (some (.doneM (V.bool false) [O.arena 61 L_16.1, O.marena 58 L_16.2.1, O.map L_16.2.2.1, O.map L_16.2.2.2.1, O.box 50 (V.agg [V.mp 2, V.mp 3]) false, O.box 33 (V.agg [V.str L_3.1, V.int .i64 L_3.2.1]) false, O.row 3 (l.map iV) 0, O.row 3 L_7.2.2.2.2.2 0, O.row 3 L_8.2.2.2.2.2 0, O.row 3 L_9.2.2.2.2 0, O.row 3 [V.int .i64 3] 0, O.row 3 [V.int .i64 1] 0, O.row 3 [V.int .i64 2] 0, O.row 3 L_14.2.2.2.2 0, O.row 3 [V.int .i64 2] 0, O.row 3 L_15.2.2.2.2 0, O.row 33 L_16.2.2.2.2 0])))
 (some (.doneM (V.bool false) [O.arena 61 L_15.1, O.marena 58 L_15.2.1, O.map L_15.2.2.1, O.map L_15.2.2.2.1, O.box 50 (V.agg [V.mp 2, V.mp 3]) false, O.box 33 (V.agg [V.str L_3.1, V.int .i64 L_3.2.1]) false, O.row 3 (l.map iV) 0, O.row 3 L_7.2.2.2.2.2 0, O.row 3 L_8.2.2.2.2.2 0, O.row 3 L_9.2.2.2.2 0, O.row 3 [V.int .i64 3] 0, O.row 3 [V.int .i64 1] 0, O.row 3 [V.int .i64 2] 0, O.row 3 L_14.2.2.2.2 0, O.row 3 [V.int .i64 2] 0, O.row 3 L_15.2.2.2.2 0])))
 (some (.doneM (V.bool false) [O.arena 61 L_14.1, O.marena 58 L_14.2.1, O.map L_14.2.2.1, O.map L_14.2.2.2.1, O.box 50 (V.agg [V.mp 2, V.mp 3]) false, O.box 33 (V.agg [V.str L_3.1, V.int .i64 L_3.2.1]) false, O.row 3 (l.map iV) 0, O.row 3 L_7.2.2.2.2.2 0, O.row 3 L_8.2.2.2.2.2 0, O.row 3 L_9.2.2.2.2 0, O.row 3 [V.int .i64 3] 0, O.row 3 [V.int .i64 1] 0, O.row 3 [V.int .i64 2] 0, O.row 3 L_14.2.2.2.2 0, O.row 3 [V.int .i64 2] 0])))
 (some (.doneM (V.bool false) [O.arena 61 L_13.2.1, O.marena 58 L_13.2.2.1, O.map L_13.2.2.2.1, O.map L_13.2.2.2.2, O.box 50 (V.agg [V.mp 2, V.mp 3]) false, O.box 33 (V.agg [V.str L_3.1, V.int .i64 L_3.2.1]) false, O.row 3 (l.map iV) 0, O.row 3 L_7.2.2.2.2.2 0, O.row 3 L_8.2.2.2.2.2 0, O.row 3 L_9.2.2.2.2 0, O.row 3 [V.int .i64 3] 0, O.row 3 [V.int .i64 1] 0, O.row 3 [V.int .i64 2] 0])))
 (some (.doneM (V.bool false) [O.arena 61 L_12.2.1, O.marena 58 L_12.2.2.1, O.map L_12.2.2.2.1, O.map L_12.2.2.2.2, O.box 50 (V.agg [V.mp 2, V.mp 3]) false, O.box 33 (V.agg [V.str L_3.1, V.int .i64 L_3.2.1]) false, O.row 3 (l.map iV) 0, O.row 3 L_7.2.2.2.2.2 0, O.row 3 L_8.2.2.2.2.2 0, O.row 3 L_9.2.2.2.2 0, O.row 3 [V.int .i64 3] 0, O.row 3 [V.int .i64 1] 0, O.row 3 [V.int .i64 2] 0])))
 (some (.doneM (V.bool false) [O.arena 61 L_12.2.1, O.marena 58 L_12.2.2.1, O.map L_12.2.2.2.1, O.map L_12.2.2.2.2, O.box 50 (V.agg [V.mp 2, V.mp 3]) false, O.box 33 (V.agg [V.str L_3.1, V.int .i64 L_3.2.1]) false, O.row 3 (l.map iV) 0, O.row 3 L_7.2.2.2.2.2 0, O.row 3 L_8.2.2.2.2.2 0, O.row 3 L_9.2.2.2.2 0, O.row 3 [V.int .i64 3] 0, O.row 3 [V.int .i64 1] 0, O.row 3 [V.int .i64 2] 0])))
 (some (.doneM (V.bool false) [O.arena 61 L_12.2.1, O.marena 58 L_12.2.2.1, O.map L_12.2.2.2.1, O.map L_12.2.2.2.2, O.box 50 (V.agg [V.mp 2, V.mp 3]) false, O.box 33 (V.agg [V.str L_3.1, V.int .i64 L_3.2.1]) false, O.row 3 (l.map iV) 0, O.row 3 L_7.2.2.2.2.2 0, O.row 3 L_8.2.2.2.2.2 0, O.row 3 L_9.2.2.2.2 0, O.row 3 [V.int .i64 3] 0, O.row 3 [V.int .i64 1] 0, O.row 3 [V.int .i64 2] 0])))
 (some (.doneM (V.bool false) [O.arena 61 L_12.2.1, O.marena 58 L_12.2.2.1, O.map L_12.2.2.2.1, O.map L_12.2.2.2.2, O.box 50 (V.agg [V.mp 2, V.mp 3]) false, O.box 33 (V.agg [V.str L_3.1, V.int .i64 L_3.2.1]) false, O.row 3 (l.map iV) 0, O.row 3 L_7.2.2.2.2.2 0, O.row 3 L_8.2.2.2.2.2 0, O.row 3 L_9.2.2.2.2 0, O.row 3 [V.int .i64 3] 0, O.row 3 [V.int .i64 1] 0, O.row 3 [V.int .i64 2] 0])))
 (some (.doneM (V.bool false) [O.arena 61 L_12.2.1, O.marena 58 L_12.2.2.1, O.map L_12.2.2.2.1, O.map L_12.2.2.2.2, O.box 50 (V.agg [V.mp 2, V.mp 3]) false, O.box 33 (V.agg [V.str L_3.1, V.int .i64 L_3.2.1]) false, O.row 3 (l.map iV) 0, O.row 3 L_7.2.2.2.2.2 0, O.row 3 L_8.2.2.2.2.2 0, O.row 3 L_9.2.2.2.2 0, O.row 3 [V.int .i64 3] 0, O.row 3 [V.int .i64 1] 0])))
 (some (.doneM (V.bool false) [O.arena 61 L_12.2.1, O.marena 58 L_12.2.2.1, O.map L_12.2.2.2.1, O.map L_12.2.2.2.2, O.box 50 (V.agg [V.mp 2, V.mp 3]) false, O.box 33 (V.agg [V.str L_3.1, V.int .i64 L_3.2.1]) false, O.row 3 (l.map iV) 0, O.row 3 L_7.2.2.2.2.2 0, O.row 3 L_8.2.2.2.2.2 0, O.row 3 L_9.2.2.2.2 0, O.row 3 [V.int .i64 3] 0, O.row 3 [V.int .i64 1] 0])))
 (some (.doneM (V.bool false) [O.arena 61 L_12.2.1, O.marena 58 L_12.2.2.1, O.map L_12.2.2.2.1, O.map L_12.2.2.2.2, O.box 50 (V.agg [V.mp 2, V.mp 3]) false, O.box 33 (V.agg [V.str L_3.1, V.int .i64 L_3.2.1]) false, O.row 3 (l.map iV) 0, O.row 3 L_7.2.2.2.2.2 0, O.row 3 L_8.2.2.2.2.2 0, O.row 3 L_9.2.2.2.2 0, O.row 3 [V.int .i64 3] 0, O.row 3 [V.int .i64 1] 0])))
 (some (.doneM (V.bool false) [O.arena 61 L_12.2.1, O.marena 58 L_12.2.2.1, O.map L_12.2.2.2.1, O.map L_12.2.2.2.2, O.box 50 (V.agg [V.mp 2, V.mp 3]) false, O.box 33 (V.agg [V.str L_3.1, V.int .i64 L_3.2.1]) false, O.row 3 (l.map iV) 0, O.row 3 L_7.2.2.2.2.2 0, O.row 3 L_8.2.2.2.2.2 0, O.row 3 L_9.2.2.2.2 0, O.row 3 [V.int .i64 3] 0])))
 (some (.doneM (V.bool false) [O.arena 61 L_12.2.1, O.marena 58 L_12.2.2.1, O.map L_12.2.2.2.1, O.map L_12.2.2.2.2, O.box 50 (V.agg [V.mp 2, V.mp 3]) false, O.box 33 (V.agg [V.str L_3.1, V.int .i64 L_3.2.1]) false, O.row 3 (l.map iV) 0, O.row 3 L_7.2.2.2.2.2 0, O.row 3 L_8.2.2.2.2.2 0, O.row 3 L_9.2.2.2.2 0, O.row 3 [V.int .i64 3] 0])))
 (some (.doneM (V.bool false) [O.arena 61 L_12.2.1, O.marena 58 L_12.2.2.1, O.map L_12.2.2.2.1, O.map L_12.2.2.2.2, O.box 50 (V.agg [V.mp 2, V.mp 3]) false, O.box 33 (V.agg [V.str L_3.1, V.int .i64 L_3.2.1]) false, O.row 3 (l.map iV) 0, O.row 3 L_7.2.2.2.2.2 0, O.row 3 L_8.2.2.2.2.2 0, O.row 3 L_9.2.2.2.2 0])))
 (some (.doneM (V.bool false) [O.arena 61 L_12.2.1, O.marena 58 L_12.2.2.1, O.map L_12.2.2.2.1, O.map L_12.2.2.2.2, O.box 50 (V.agg [V.mp 2, V.mp 3]) false, O.box 33 (V.agg [V.str L_3.1, V.int .i64 L_3.2.1]) false, O.row 3 (l.map iV) 0, O.row 3 L_7.2.2.2.2.2 0, O.row 3 L_8.2.2.2.2.2 0, O.row 3 L_9.2.2.2.2 0])))
 (some (.doneM (V.bool false) [O.arena 61 L_12.2.1, O.marena 58 L_12.2.2.1, O.map L_12.2.2.2.1, O.map L_12.2.2.2.2, O.box 50 (V.agg [V.mp 2, V.mp 3]) false, O.box 33 (V.agg [V.str L_3.1, V.int .i64 L_3.2.1]) false, O.row 3 (l.map iV) 0, O.row 3 L_7.2.2.2.2.2 0, O.row 3 L_8.2.2.2.2.2 0, O.row 3 L_9.2.2.2.2 0])))
 (some (.doneM (V.bool false) [O.arena 61 L_12.2.1, O.marena 58 L_12.2.2.1, O.map L_12.2.2.2.1, O.map L_12.2.2.2.2, O.box 50 (V.agg [V.mp 2, V.mp 3]) false, O.box 33 (V.agg [V.str L_3.1, V.int .i64 L_3.2.1]) false, O.row 3 (l.map iV) 0, O.row 3 L_7.2.2.2.2.2 0, O.row 3 L_8.2.2.2.2.2 0, O.row 3 L_9.2.2.2.2 0])))
 (some (.doneM (V.bool false) [O.arena 61 L_12.2.1, O.marena 58 L_12.2.2.1, O.map L_12.2.2.2.1, O.map L_12.2.2.2.2, O.box 50 (V.agg [V.mp 2, V.mp 3]) false, O.box 33 (V.agg [V.str L_3.1, V.int .i64 L_3.2.1]) false, O.row 3 (l.map iV) 0, O.row 3 L_7.2.2.2.2.2 0, O.row 3 L_8.2.2.2.2.2 0, O.row 3 L_9.2.2.2.2 0])))
 (some (.doneM (V.bool false) [O.arena 61 L_12.2.1, O.marena 58 L_12.2.2.1, O.map L_12.2.2.2.1, O.map L_12.2.2.2.2, O.box 50 (V.agg [V.mp 2, V.mp 3]) false, O.box 33 (V.agg [V.str L_3.1, V.int .i64 L_3.2.1]) false, O.row 3 (l.map iV) 0, O.row 3 L_7.2.2.2.2.2 0, O.row 3 L_8.2.2.2.2.2 0, O.row 3 L_9.2.2.2.2 0])))
 (some (.doneM (V.bool false) [O.arena 61 L_12.2.1, O.marena 58 L_12.2.2.1, O.map L_12.2.2.2.1, O.map L_12.2.2.2.2, O.box 50 (V.agg [V.mp 2, V.mp 3]) false, O.box 33 (V.agg [V.str L_3.1, V.int .i64 L_3.2.1]) false, O.row 3 (l.map iV) 0, O.row 3 L_7.2.2.2.2.2 0, O.row 3 L_8.2.2.2.2.2 0, O.row 3 L_9.2.2.2.2 0]))
theorem e17_eq  : enterK kcB true fa17 [] [O.arena 61 [], O.marena 58 []] = e17  := by kernel_rfl
noncomputable def fa20 : FA := ⟨4, 90, [.tmp 8], [42],
 (.seq
 (.ops false [o1 8 (.assign (.const (.int .i64 (0)))) 42])
 (.seq
 (.seq
 (.ops false [mv 17 1 3, o1 18 (.binOp .lss 3 (t' 17) (.const (.int .i64 (0))) 3) 4, mv 19 18 4, o2 20 (.move (t' 3)) 3 19 false, o2 21 (.binOp .leq 3 (t' 20) (.const (.int .i64 (0))) 3) 4 19 false, o1 22 (.pick (t' 19) (.const (.bool true)) (t' 21)) 4, mv 23 22 4, o2 24 (.move (t' 3)) 3 23 false, o2 25 (.binOp .geq 3 (t' 24) (.const (.int .i64 (7))) 3) 4 23 false, o1 26 (.pick (t' 23) (.const (.bool true)) (t' 25)) 4])
 (.cond (t' 26)
 (.seq
 (.ops false [o1 8 (.assign (.const (.int .i64 (1)))) 42])
 (.ret))
 (.skip)))
 (.seq
 (.seq
 (.ops false [mv 28 0 23, o1 29 (.nilCheck (t' 28)) 0, o1 30 (.fieldAddr 50 (t' 29) 1) 0, o1 31 (.load 48 (t' 30)) 48, mv 32 1 3, o1 33 (.lookup 48 (t' 31) (t' 32) true) 65, mv 27 33 65, o1 34 (.extract (t' 27) 0) 9, o1 35 (.extract (t' 27) 1) 4, asg 9 34 9, asg 10 35 4])
 (.seq
 (.ops false [mv 36 10 4])
 (.cond (t' 36)
 (.seq
 (.ops false [o1 8 (.assign (.const (.int .i64 (9)))) 42])
 (.ret))
 (.skip))))
 (.seq
 (.ops false [mv 37 0 23, mv 38 2 9, o1 39 (.call ⟨(.value (.func 40)), #[(t' 37), (t' 38)], #[23, 9]⟩) 53, asg 11 39 53])
 (.seq
 (.ops false [mv 41 11 53, o1 42 (.nilCheck (t' 41)) 0, o1 43 (.fieldAddr 61 (t' 42) 0) 0, o1 44 (.load 58 (t' 43)) 58, mv 45 1 3, o1 46 (.lookup 58 (t' 44) (t' 45) true) 75, mv 40 46 75, o1 47 (.extract (t' 40) 0) 3, o1 48 (.extract (t' 40) 1) 4, asg 12 47 3, asg 13 48 4])
 (.seq
 (.ops false [mv 50 12 3, mv 51 3 3, o1 52 (.call ⟨(.value (.func 41)), #[(t' 50), (t' 51)], #[3, 3]⟩) 79, mv 49 52 79, o1 53 (.extract (t' 49) 0) 3, o1 54 (.extract (t' 49) 1) 42, asg 14 53 3, asg 15 54 42])
 (.seq
 (.ops false [mv 55 1 3, mv 56 14 3, o1 57 (.build 63 #[(0, (t' 55)), (1, (t' 56))]) 63, o1 16 (.alloc 63) 0, o0 (.store 63 (t' 16) (t' 57)) 0])
 (.seq
 (.block 0
 (.seq
 (.ops false [mv 63 13 4, mv 64 63 4, o2 65 (.move (t' 14)) 3 64 true, o2 66 (.move (t' 12)) 3 64 true, o2 67 (.binOp .eql 3 (t' 65) (t' 66) 3) 4 64 true, o1 68 (.pick (t' 64) (t' 67) (.const (.bool false))) 4, asg 62 68 4])
 (.cond (t' 62)
 (.skip)
 (.seq
 (.ops false [mv 70 11 53, o1 71 (.load 63 (t' 16)) 63, o1 72 (.call ⟨(.value (.func 42)), #[(t' 70), (t' 71)], #[53, 63]⟩) 4, mv 73 72 4, o2 74 (.move (t' 13)) 4 73 true, o2 75 (.move (t' 74)) 4 73 true, o2 76 (.move (t' 11)) 53 75 false, o2 77 (.nilCheck (t' 76)) 0 75 false, o2 78 (.fieldAddr 61 (t' 77) 1) 0 75 false, o2 79 (.load 59 (t' 78)) 59 75 false, o2 80 (.call ⟨(.builtin .len), #[(t' 79)], #[59]⟩) 3 75 false, o2 81 (.binOp .eql 3 (t' 80) (.const (.int .i64 (0))) 3) 4 75 false, o2 82 (.pick (t' 75) (.const (.bool true)) (t' 81)) 4 73 true, o1 83 (.pick (t' 73) (t' 82) (.const (.bool false))) 4, asg 69 83 4])
 (.cond (t' 69)
 (.ops false [mv 84 11 53, o1 85 (.nilCheck (t' 84)) 0, o1 86 (.fieldAddr 61 (t' 85) 0) 0, o1 87 (.load 58 (t' 86)) 58, mv 88 1 3, mv 89 14 3, o0 (.mapUpdate 58 (t' 87) (t' 88) (t' 89)) 0])
 (.seq
 (.ops false [mv 58 0 23, mv 59 2 9, o1 60 (.load 63 (t' 16)) 63, o1 61 (.call ⟨(.value (.func 43)), #[(t' 58), (t' 59), (t' 60)], #[23, 9, 63]⟩) 42, asg 8 61 42])
 (.ret)))))))
 (.seq
 (.ops false [o1 8 (.assign (.const (.int .i64 (0)))) 42])
 (.ret))))))))))⟩
theorem fa20_eq : fnA cfgB.P (cfgB.rxf 20) 20 = some fa20 := by kernel_rfl
noncomputable def e20 (x1 : Int) (x2 : List UInt8) (x3 : Int) (m0 : List V) (m1 : List (List (V × V))) (m3 m4 : List (V × V)) : R :=
  cond (decide (x1 < 0))
 (some (.doneM (V.int .i64 1) (tm m0 m1 m3 m4)))
 (cond (decide (x3 <= 0))
 (some (.doneM (V.int .i64 1) (tm m0 m1 m3 m4)))
 (cond (decide (x3 ≥ 7))
 (some (.doneM (V.int .i64 1) (tm m0 m1 m3 m4)))
 (mfK m4 (V.int .i64 x1)
 (icM cfgB ⟨true, false⟩ mk40 40 [V.ptr 2 0 0, V.str x2] (tm m0 m1 m3 m4) fun L =>
  idxK L.2.1 L.1 fun v =>
  d61 v fun held queue =>
  idxK L.2.2.1 held fun mm =>
  mfK mm (V.int .i64 x1)
 (pcK cfgB 41 [V.int .i64 0, V.int .i64 x3] fun r_2 =>
  d79 r_2 fun r41_0 r41_1 =>
  opt (canX L.2.1 L.2.2.1 L.1 x1 r41_0) fun b =>
  cond b
 (idxK L.2.1 L.1 fun v_1 =>
  d61 v_1 fun held_1 queue_1 =>
  cond ((queue_1.length : Int) == (0 : Int))
 (idxK L.2.1 L.1 fun v_2 =>
  d61 v_2 fun held_2 queue_2 =>
  idxK L.2.2.1 held_2 fun mm_1 =>
  opt (mapPut mm_1 (V.int .i64 x1) (V.int .i64 r41_0)) fun es =>
  some (.doneM (V.int .i64 0) [O.arena 61 L.2.1, O.marena 58 ((L.2.2.1).set held_2 es), O.box 50 (V.agg [V.mp 3, V.mp 4]) false, O.map L.2.2.2.1, O.map L.2.2.2.2, O.box 63 (V.agg [V.int .i64 x1, V.int .i64 r41_0]) false]))
 (icM cfgB ⟨true, false⟩ mk43 43 [V.ptr 2 0 0, V.str x2, V.agg [V.int .i64 x1, V.int .i64 r41_0]] (tm L.2.1 L.2.2.1 L.2.2.2.1 L.2.2.2.2) fun L_1 =>
  some (.doneM (V.int .i64 L_1.1) [O.arena 61 L_1.2.1, O.marena 58 L_1.2.2.1, O.box 50 (V.agg [V.mp 3, V.mp 4]) false, O.map L_1.2.2.2.1, O.map L_1.2.2.2.2, O.box 63 (V.agg [V.int .i64 x1, V.int .i64 r41_0]) false])))
 (icM cfgB ⟨true, false⟩ mk43 43 [V.ptr 2 0 0, V.str x2, V.agg [V.int .i64 x1, V.int .i64 r41_0]] (tm L.2.1 L.2.2.1 L.2.2.2.1 L.2.2.2.2) fun L_2 =>
  some (.doneM (V.int .i64 L_2.1) [O.arena 61 L_2.2.1, O.marena 58 L_2.2.2.1, O.box 50 (V.agg [V.mp 3, V.mp 4]) false, O.map L_2.2.2.2.1, O.map L_2.2.2.2.2, O.box 63 (V.agg [V.int .i64 x1, V.int .i64 r41_0]) false]))) fun r_1 =>
  kI .i64 r_1 fun n =>
  pcK cfgB 41 [V.int .i64 n, V.int .i64 x3] fun r_3 =>
  d79 r_3 fun r41_0_1 r41_1_1 =>
  cond (r41_0_1 == n)
 (some (.doneM (V.int .i64 0) [O.arena 61 L.2.1, O.marena 58 L.2.2.1, O.box 50 (V.agg [V.mp 3, V.mp 4]) false, O.map L.2.2.2.1, O.map L.2.2.2.2, O.box 63 (V.agg [V.int .i64 x1, V.int .i64 r41_0_1]) false]))
 (opt (canX L.2.1 L.2.2.1 L.1 x1 r41_0_1) fun b_1 =>
  cond b_1
 (idxK L.2.1 L.1 fun v_3 =>
  d61 v_3 fun held_3 queue_3 =>
  idxK L.2.2.1 held_3 fun mm_2 =>
  opt (mapPut mm_2 (V.int .i64 x1) (V.int .i64 r41_0_1)) fun es_1 =>
  some (.doneM (V.int .i64 0) [O.arena 61 L.2.1, O.marena 58 ((L.2.2.1).set held_3 es_1), O.box 50 (V.agg [V.mp 3, V.mp 4]) false, O.map L.2.2.2.1, O.map L.2.2.2.2, O.box 63 (V.agg [V.int .i64 x1, V.int .i64 r41_0_1]) false]))
 (icM cfgB ⟨true, false⟩ mk43 43 [V.ptr 2 0 0, V.str x2, V.agg [V.int .i64 x1, V.int .i64 r41_0_1]] (tm L.2.1 L.2.2.1 L.2.2.2.1 L.2.2.2.2) fun L_3 =>
  some (.doneM (V.int .i64 L_3.1) [O.arena 61 L_3.2.1, O.marena 58 L_3.2.2.1, O.box 50 (V.agg [V.mp 3, V.mp 4]) false, O.map L_3.2.2.2.1, O.map L_3.2.2.2.2, O.box 63 (V.agg [V.int .i64 x1, V.int .i64 r41_0_1]) false])))) fun r =>
  kS r fun s =>
  some (.doneM (V.int .i64 9) (tm m0 m1 m3 m4)))))
theorem e20_eq (x1 : Int) (x2 : List UInt8) (x3 : Int) (m0 : List V) (m1 : List (List (V × V))) (m3 m4 : List (V × V)) : enterK kcB true fa20 [V.ptr 2 0 0, V.int .i64 x1, V.str x2, V.int .i64 x3] (tm m0 m1 m3 m4) = e20 x1 x2 x3 m0 m1 m3 m4 := by kernel_rfl
theorem e20_run (x1 : Int) (x2 : List UInt8) (x3 : Int) (m0 : List V) (m1 : List (List (V × V))) (m3 m4 : List (V × V)) {o : Out} {r : V × List O} (h : e20 x1 x2 x3 m0 m1 m3 m4 = some o) (hg : GoN kcB 5 fa20 ⟨true, false⟩ (tm m0 m1 m3 m4) o r) : icC cfgB ⟨true, false⟩ 20 [V.ptr 2 0 0, V.int .i64 x1, V.str x2, V.int .i64 x3] (tm m0 m1 m3 m4) = some r := icC_go ikB rfl fa20_eq ((e20_eq ..).trans h) hg
noncomputable def fa15 : FA := ⟨2, 41, [.cell 4 33, .tmp 5], [33, 4],
 (.seq
 (.ops false [o1 3 (.box 3 (t' 1)) 0, o1 4 (.alloc 33) 0, o1 5 (.assign (.const (.bool false))) 4])
 (.seq
 (.ops true [mv 11 0 23, o1 12 (.nilCheck (t' 11)) 0, o1 13 (.fieldAddr 50 (t' 12) 1) 0, o1 14 (.load 48 (t' 13)) 48, o1 15 (.load 3 (t' 3)) 3, o1 16 (.lookup 48 (t' 14) (t' 15) true) 65, mv 10 16 65, o1 17 (.extract (t' 10) 0) 9, o1 18 (.extract (t' 10) 1) 4, asg 6 17 9, asg 7 18 4])
 (.seq
 (.seq
 (.ops false [mv 19 7 4, o1 20 (.unOp .not 4 (t' 19)) 4])
 (.cond (t' 20)
 (.seq
 (.ops false [o1 21 (.build 33 #[]) 33, o0 (.store 33 (t' 4) (t' 21)) 0, o1 5 (.assign (.const (.bool false))) 4])
 (.ret))
 (.skip)))
 (.seq
 (.ops false [mv 22 0 23, o1 23 (.nilCheck (t' 22)) 0, o1 24 (.fieldAddr 50 (t' 23) 0) 0, o1 25 (.load 47 (t' 24)) 47, mv 26 6 9, o1 27 (.lookup 47 (t' 25) (t' 26) false) 53, o1 28 (.nilCheck (t' 27)) 0, o1 29 (.fieldAddr 61 (t' 28) 1) 0, o1 30 (.load 59 (t' 29)) 59, asg 8 30 59])
 (.seq
 (.ops false [mv 31 8 59, o1 32 (.makeFunc (.func 30) #[] #[(t' 3)]) 67, o1 33 (.call ⟨(.value (.func 29)), #[(t' 31), (t' 32)], #[59, 67]⟩) 3, asg 9 33 3])
 (.seq
 (.ops false [mv 34 6 9, mv 35 8 59, mv 36 9 3, o1 37 (.indexAddr 59 (t' 35) (t' 36)) 0, o1 38 (.fieldAddr 63 (t' 37) 1) 0, o1 39 (.load 3 (t' 38)) 3, o1 40 (.build 33 #[(0, (t' 34)), (1, (t' 39))]) 33, o0 (.store 33 (t' 4) (t' 40)) 0, o1 5 (.assign (.const (.bool true))) 4])
 (.ret)))))))⟩
theorem fa15_eq : fnA cfgB.P (cfgB.rxf 15) 15 = some fa15 := by kernel_rfl
noncomputable def e15 (x1 : Int) (m0 : List V) (m1 : List (List (V × V))) (m3 m4 : List (V × V)) : R :=
  mfK m4 (V.int .i64 x1)
 (some (.doneM (V.tup [V.agg [V.str [], V.int .i64 0], V.bool false]) [O.arena 61 m0, O.marena 58 m1, O.box 50 (V.agg [V.mp 3, V.mp 4]) false, O.map m3, O.map m4, O.box 3 (V.int .i64 x1) false, O.box 33 (V.agg [V.str [], V.int .i64 0]) false])) fun r =>
  kS r fun s =>
  mfK m3 (V.str s)
 (none) fun r_1 =>
  kP 61 r_1 fun p =>
  idxK m0 p fun v =>
  d61 v fun held queue =>
  pcK cfgB 29 [V.sl queue, V.fn 30 [V.ref (V.int .i64 x1) 0]] fun r_2 =>
  kI .i64 r_2 fun r29 =>
  gd (decide (0 <= r29)) <|
  idxK queue r29.toNat fun v_1 =>
  d63 v_1 fun owner mode =>
  some (.doneM (V.tup [V.agg [V.str s, V.int .i64 mode], V.bool true]) [O.arena 61 m0, O.marena 58 m1, O.box 50 (V.agg [V.mp 3, V.mp 4]) false, O.map m3, O.map m4, O.box 3 (V.int .i64 x1) false, O.box 33 (V.agg [V.str s, V.int .i64 mode]) false])
theorem e15_eq (x1 : Int) (m0 : List V) (m1 : List (List (V × V))) (m3 m4 : List (V × V)) : enterK kcB true fa15 [V.ptr 2 0 0, V.int .i64 x1] (tm m0 m1 m3 m4) = e15 x1 m0 m1 m3 m4 := by kernel_rfl
theorem e15_run (x1 : Int) (m0 : List V) (m1 : List (List (V × V))) (m3 m4 : List (V × V)) {o : Out} {r : V × List O} (h : e15 x1 m0 m1 m3 m4 = some o) (hg : GoN kcB 5 fa15 ⟨true, false⟩ (tm m0 m1 m3 m4) o r) : icC cfgB ⟨true, false⟩ 15 [V.ptr 2 0 0, V.int .i64 x1] (tm m0 m1 m3 m4) = some r := icC_go ikB rfl fa15_eq ((e15_eq ..).trans h) hg
noncomputable def fa24 : FA := ⟨3, 40, [.tmp 6, .tmp 7], [28, 42],
 (.seq
 (.ops false [o1 6 (.assign (.const (.slice none 0 0))) 28, o1 7 (.assign (.const (.int .i64 (0)))) 42])
 (.seq
 (.seq
 (.ops false [mv 10 0 23, mv 11 1 3, mv 12 2 9, o1 13 (.call ⟨(.value (.func 14)), #[(t' 10), (t' 11), (t' 12)], #[23, 3, 9]⟩) 3, o1 14 (.binOp .eql 3 (t' 13) (.const (.int .i64 (0))) 3) 4])
 (.cond (t' 14)
 (.seq
 (.ops false [o1 6 (.assign (.const (.slice none 0 0))) 28, o1 7 (.assign (.const (.int .i64 (7)))) 42])
 (.ret))
 (.skip)))
 (.seq
 (.seq
 (.ops false [mv 16 0 23, o1 17 (.nilCheck (t' 16)) 0, o1 18 (.fieldAddr 50 (t' 17) 1) 0, o1 19 (.load 48 (t' 18)) 48, mv 20 1 3, o1 21 (.lookup 48 (t' 19) (t' 20) true) 65, mv 15 21 65, o1 22 (.extract (t' 15) 0) 9, o1 23 (.extract (t' 15) 1) 4, asg 8 22 9, asg 9 23 4])
 (.seq
 (.ops false [mv 24 9 4, mv 25 24 4, o2 26 (.move (t' 8)) 9 25 true, o2 27 (.move (t' 2)) 9 25 true, o2 28 (.binOp .eql 9 (t' 26) (t' 27) 9) 4 25 true, o1 29 (.pick (t' 25) (t' 28) (.const (.bool false))) 4])
 (.cond (t' 29)
 (.seq
 (.ops false [o1 6 (.assign (.const (.slice none 0 0))) 28, o1 7 (.assign (.const (.int .i64 (9)))) 42])
 (.ret))
 (.skip))))
 (.seq
 (.ops false [mv 30 0 23, mv 31 2 9, o1 32 (.call ⟨(.value (.func 40)), #[(t' 30), (t' 31)], #[23, 9]⟩) 53, o1 33 (.nilCheck (t' 32)) 0, o1 34 (.fieldAddr 61 (t' 33) 0) 0, o1 35 (.load 58 (t' 34)) 58, mv 36 1 3, o0 (.call ⟨(.builtin .delete), #[(t' 35), (t' 36)], #[58, 3]⟩) 0])
 (.seq
 (.ops false [mv 37 0 23, mv 38 2 9, o1 39 (.call ⟨(.value (.func 39)), #[(t' 37), (t' 38)], #[23, 9]⟩) 28, asg 6 39 28, o1 7 (.assign (.const (.int .i64 (0)))) 42])
 (.ret))))))⟩
theorem fa24_eq : fnA cfgB.P (cfgB.rxf 24) 24 = some fa24 := by kernel_rfl
noncomputable def e24 (x1 : Int) (x2 : List UInt8) (m0 : List V) (m1 : List (List (V × V))) (m3 m4 : List (V × V)) : R :=
  icM cfgB ⟨true, false⟩ mk14 14 [V.ptr 2 0 0, V.int .i64 x1, V.str x2] (tm m0 m1 m3 m4) fun L =>
  cond (L.1 == (0 : Int))
 (some (.doneM (V.tup [V.own 6, V.int .i64 7]) [O.arena 61 L.2.1, O.marena 58 L.2.2.1, O.box 50 (V.agg [V.mp 3, V.mp 4]) false, O.map L.2.2.2.1, O.map L.2.2.2.2, O.row 3 [] 0, O.row 3 [] 0]))
 (mfK L.2.2.2.2 (V.int .i64 x1)
 (icM cfgB ⟨true, false⟩ mk40 40 [V.ptr 2 0 0, V.str x2] (tm L.2.1 L.2.2.1 L.2.2.2.1 L.2.2.2.2) fun L_1 =>
  idxK L_1.2.1 L_1.1 fun v =>
  d61 v fun held queue =>
  idxK L_1.2.2.1 held fun mm =>
  opt (mapDel mm (V.int .i64 x1)) fun es =>
  icM cfgB ⟨true, false⟩ mk39 39 [V.ptr 2 0 0, V.str x2] (tm L_1.2.1 (((L_1.2.2.1).set held es)) L_1.2.2.2.1 L_1.2.2.2.2) fun L_2 =>
  some (.doneM (V.tup [V.own 6, V.int .i64 0]) [O.arena 61 L_2.1, O.marena 58 L_2.2.1, O.box 50 (V.agg [V.mp 3, V.mp 4]) false, O.map L_2.2.2.1, O.map L_2.2.2.2.1, O.row 3 [] 0, O.row 3 L_2.2.2.2.2 0])) fun r =>
  kS r fun s =>
  cond (s == x2)
 (some (.doneM (V.tup [V.own 6, V.int .i64 9]) [O.arena 61 L.2.1, O.marena 58 L.2.2.1, O.box 50 (V.agg [V.mp 3, V.mp 4]) false, O.map L.2.2.2.1, O.map L.2.2.2.2, O.row 3 [] 0, O.row 3 [] 0]))
 (icM cfgB ⟨true, false⟩ mk40 40 [V.ptr 2 0 0, V.str x2] (tm L.2.1 L.2.2.1 L.2.2.2.1 L.2.2.2.2) fun L_3 =>
  idxK L_3.2.1 L_3.1 fun v_1 =>
  d61 v_1 fun held_1 queue_1 =>
  idxK L_3.2.2.1 held_1 fun mm_1 =>
  opt (mapDel mm_1 (V.int .i64 x1)) fun es_1 =>
  icM cfgB ⟨true, false⟩ mk39 39 [V.ptr 2 0 0, V.str x2] (tm L_3.2.1 (((L_3.2.2.1).set held_1 es_1)) L_3.2.2.2.1 L_3.2.2.2.2) fun L_4 =>
  some (.doneM (V.tup [V.own 6, V.int .i64 0]) [O.arena 61 L_4.1, O.marena 58 L_4.2.1, O.box 50 (V.agg [V.mp 3, V.mp 4]) false, O.map L_4.2.2.1, O.map L_4.2.2.2.1, O.row 3 [] 0, O.row 3 L_4.2.2.2.2 0])))
theorem e24_eq (x1 : Int) (x2 : List UInt8) (m0 : List V) (m1 : List (List (V × V))) (m3 m4 : List (V × V)) : enterK kcB true fa24 [V.ptr 2 0 0, V.int .i64 x1, V.str x2] (tm m0 m1 m3 m4) = e24 x1 x2 m0 m1 m3 m4 := by kernel_rfl
theorem e24_run (x1 : Int) (x2 : List UInt8) (m0 : List V) (m1 : List (List (V × V))) (m3 m4 : List (V × V)) {o : Out} {r : V × List O} (h : e24 x1 x2 m0 m1 m3 m4 = some o) (hg : GoN kcB 5 fa24 ⟨true, false⟩ (tm m0 m1 m3 m4) o r) : icC cfgB ⟨true, false⟩ 24 [V.ptr 2 0 0, V.int .i64 x1, V.str x2] (tm m0 m1 m3 m4) = some r := icC_go ikB rfl fa24_eq ((e24_eq ..).trans h) hg
noncomputable def fa18 : FA := ⟨2, 90, [.tmp 4], [28],
 (.seq
 (.ops false [o1 3 (.box 3 (t' 1)) 0, o1 4 (.assign (.const (.slice none 0 0))) 28])
 (.seq
 (.ops false [o1 5 (.assign (.const (.slice none 0 0))) 28])
 (.seq
 (.seq
 (.ops false [mv 13 0 23, o1 14 (.nilCheck (t' 13)) 0, o1 15 (.fieldAddr 50 (t' 14) 0) 0, o1 16 (.load 47 (t' 15)) 47, o1 17 (.call ⟨(.value (.func 35)), #[(t' 16)], #[47]⟩) 73, o1 18 (.call ⟨(.value (.func 34)), #[(t' 17)], #[73]⟩) 70, o1 19 (.call ⟨(.builtin .len), #[(t' 18)], #[70]⟩) 3, o1 20 (.move (.const (.int .i64 (0)))) 3])
 (.block 0
 (.loop ([1, 2] ++ List.range' 6 12 ++ List.range' 21 69)
 (.seq
 (.ops false [o1 21 (.binOp .lss 3 (t' 20) (t' 19) 3) 0])
 (.seq
 (.cond (t' 21)
 (.skip)
 (.exit 0))
 (.seq
 (.block 1
 (.seq
 (.ops false [o1 22 (.indexAddr 70 (t' 18) (t' 20)) 0, o1 23 (.load 9 (t' 22)) 9, asg 7 23 9])
 (.seq
 (.ops false [mv 24 0 23, o1 25 (.nilCheck (t' 24)) 0, o1 26 (.fieldAddr 50 (t' 25) 0) 0, o1 27 (.load 47 (t' 26)) 47, mv 28 7 9, o1 29 (.lookup 47 (t' 27) (t' 28) false) 53, asg 8 29 53])
 (.seq
 (.ops true [mv 31 8 53, o1 32 (.nilCheck (t' 31)) 0, o1 33 (.fieldAddr 61 (t' 32) 0) 0, o1 34 (.load 58 (t' 33)) 58, o1 35 (.load 3 (t' 3)) 3, o1 36 (.lookup 58 (t' 34) (t' 35) true) 75, mv 30 36 75, o1 37 (.extract (t' 30) 0) 3, o1 38 (.extract (t' 30) 1) 4, asg 9 37 3, asg 10 38 4])
 (.seq
 (.seq
 (.ops true [mv 39 10 4, o1 40 (.unOp .not 4 (t' 39)) 4, mv 41 40 4, o2 42 (.move (t' 0)) 23 41 true, o2 43 (.nilCheck (t' 42)) 0 41 true, o2 44 (.fieldAddr 50 (t' 43) 1) 0 41 true, o2 45 (.load 48 (t' 44)) 48 41 true, o2 46 (.load 3 (t' 3)) 3 41 true, o2 47 (.lookup 48 (t' 45) (t' 46) false) 9 41 true, o2 48 (.move (t' 7)) 9 41 true, o2 49 (.binOp .neq 9 (t' 47) (t' 48) 9) 4 41 true, o1 50 (.pick (t' 41) (t' 49) (.const (.bool false))) 4])
 (.cond (t' 50)
 (.exit 1)
 (.skip)))
 (.seq
 (.ops true [mv 51 8 53, o1 52 (.nilCheck (t' 51)) 0, o1 53 (.fieldAddr 61 (t' 52) 0) 0, o1 54 (.load 58 (t' 53)) 58, o1 55 (.load 3 (t' 3)) 3, o0 (.call ⟨(.builtin .delete), #[(t' 54), (t' 55)], #[58, 3]⟩) 0])
 (.ops false [mv 56 8 53, mv 57 8 53, o1 58 (.nilCheck (t' 57)) 0, o1 59 (.fieldAddr 61 (t' 58) 1) 0, o1 60 (.load 59 (t' 59)) 59, o1 61 (.call ⟨(.value (.func 37)), #[(t' 60)], #[59]⟩) 59, o1 62 (.makeFunc (.func 38) #[] #[(t' 3)]) 67, o1 63 (.call ⟨(.value (.func 36)), #[(t' 61), (t' 62)], #[59, 67]⟩) 59, o1 64 (.nilCheck (t' 56)) 0, o1 65 (.fieldAddr 61 (t' 64) 1) 0, o0 (.store 59 (t' 65) (t' 63)) 0])))))))
 (.ops false [o1 66 (.binOp .add 3 (t' 20) (.const (.int .i64 (1))) 3) 3, mv 20 66 3])))))))
 (.seq
 (.ops true [mv 67 0 23, o1 68 (.nilCheck (t' 67)) 0, o1 69 (.fieldAddr 50 (t' 68) 1) 0, o1 70 (.load 48 (t' 69)) 48, o1 71 (.load 3 (t' 3)) 3, o0 (.call ⟨(.builtin .delete), #[(t' 70), (t' 71)], #[48, 3]⟩) 0])
 (.seq
 (.seq
 (.ops false [mv 72 0 23, o1 73 (.nilCheck (t' 72)) 0, o1 74 (.fieldAddr 50 (t' 73) 0) 0, o1 75 (.load 47 (t' 74)) 47, o1 76 (.call ⟨(.value (.func 35)), #[(t' 75)], #[47]⟩) 73, o1 77 (.call ⟨(.value (.func 34)), #[(t' 76)], #[73]⟩) 70, o1 78 (.call ⟨(.builtin .len), #[(t' 77)], #[70]⟩) 3, o1 79 (.move (.const (.int .i64 (0)))) 3])
 (.block 2
 (.loop ([1, 2, 3] ++ List.range' 6 71 ++ List.range' 80 10)
 (.seq
 (.ops false [o1 80 (.binOp .lss 3 (t' 79) (t' 78) 3) 0])
 (.seq
 (.cond (t' 80)
 (.skip)
 (.exit 2))
 (.seq
 (.block 3
 (.seq
 (.ops false [o1 81 (.indexAddr 70 (t' 77) (t' 79)) 0, o1 82 (.load 9 (t' 81)) 9, asg 12 82 9])
 (.ops false [mv 83 5 28, mv 84 0 23, mv 85 12 9, o1 86 (.call ⟨(.value (.func 39)), #[(t' 84), (t' 85)], #[23, 9]⟩) 28, o1 87 (.call ⟨(.builtin .append), #[(t' 83), (t' 86)], #[28, 28]⟩) 28, asg 5 87 28])))
 (.ops false [o1 88 (.binOp .add 3 (t' 79) (.const (.int .i64 (1))) 3) 3, mv 79 88 3])))))))
 (.seq
 (.ops false [mv 89 5 28, asg 4 89 28])
 (.ret)))))))⟩
theorem fa18_eq : fnA cfgB.P (cfgB.rxf 18) 18 = some fa18 := by kernel_rfl
def T18_0 (x19 x20 : Int) (m0 : List V) (m1 : List (List (V × V))) (m3 m4 : List (V × V)) (m5 : Int) (m8 : List V) : S := ⟨[V.ptr 2 0 0, V.junk, V.junk, V.ptr 5 0 0, V.own 6, V.own 7] ++ (JU 12) ++ [V.own 8, V.int .i64 x19, V.int .i64 x20] ++ (JU 69), [O.arena 61 m0, O.marena 58 m1, O.box 50 (V.agg [V.mp 3, V.mp 4]) false, O.map m3, O.map m4, O.box 3 (V.int .i64 m5) false, O.row 3 [] 0, O.row 3 [] 0, O.row 9 m8 0]⟩
def T18_1 (x78 x79 : Int) (m0 : List V) (m1 : List (List (V × V))) (m3 m4 : List (V × V)) (m6 m7 : List V) : S := ⟨[V.ptr 2 0 0, V.junk, V.junk, V.junk, V.own 5, V.own 6] ++ (JU 71) ++ [V.own 7, V.int .i64 x78, V.int .i64 x79] ++ (JU 10), [O.arena 61 m0, O.marena 58 m1, O.box 50 (V.agg [V.mp 3, V.mp 4]) false, O.map m3, O.map m4, O.row 3 [] 0, O.row 3 m6 0, O.row 9 m7 0]⟩
noncomputable def e18 (x1 : Int) (m0 : List V) (m1 : List (List (V × V))) (m3 m4 : List (V × V)) : R :=
  opt (keyStrs m3) fun ks =>
  gd (decide (ks.length <= 4194304)) <|
  some (.head 0 (T18_0 (((srtS ks).map sV).length : Int) 0 m0 m1 m3 m4 x1 ((srtS ks).map sV)))
theorem e18_eq (x1 : Int) (m0 : List V) (m1 : List (List (V × V))) (m3 m4 : List (V × V)) : enterK kcB true fa18 [V.ptr 2 0 0, V.int .i64 x1] (tm m0 m1 m3 m4) = e18 x1 m0 m1 m3 m4 := by kernel_rfl
theorem e18_run (x1 : Int) (m0 : List V) (m1 : List (List (V × V))) (m3 m4 : List (V × V)) {o : Out} {r : V × List O} (h : e18 x1 m0 m1 m3 m4 = some o) (hg : GoN kcB 5 fa18 ⟨true, false⟩ (tm m0 m1 m3 m4) o r) : icC cfgB ⟨true, false⟩ 18 [V.ptr 2 0 0, V.int .i64 x1] (tm m0 m1 m3 m4) = some r := icC_go ikB rfl fa18_eq ((e18_eq ..).trans h) hg
noncomputable def s18_0 (x19 x20 : Int) (m0 : List V) (m1 : List (List (V × V))) (m3 m4 : List (V × V)) (m5 : Int) (m8 : List V) : R :=
  cond (decide (x20 < x19))
 (gd (decide (0 <= x20)) <|
  gd (decide (x20.toNat < m8.length)) <|
  idxK m8 x20.toNat fun v =>
  kS v fun s =>
  mfK m3 (V.str s)
 (none) fun r =>
  kP 61 r fun p =>
  idxK m0 p fun v_1 =>
  d61 v_1 fun held queue =>
  idxK m1 held fun mm =>
  mfK mm (V.int .i64 m5)
 (mfK m4 (V.int .i64 m5)
 (cond (!(([] : List UInt8) == s))
 (some (.head 0 (T18_0 x19 (W .i64 (x20 + 1)) m0 m1 m3 m4 m5 m8)))
 (idxK m0 p fun v_2 =>
  d61 v_2 fun held_1 queue_1 =>
  idxK m1 held_1 fun mm_1 =>
  opt (mapDel mm_1 (V.int .i64 m5)) fun es =>
  idxK m0 p fun v_3 =>
  d61 v_3 fun held_2 queue_2 =>
  pcK cfgB 37 [V.sl queue_2] fun r_3 =>
  kF 63 r_3 fun r37 =>
  icM cfgB ⟨true, true⟩ mk36 36 [V.own 2, V.fn 38 [V.ptr 3 0 0]] [O.arena 61 m0, O.marena 58 ((m1).set held_1 es), O.row 63 r37 0, O.box 3 (V.int .i64 m5) false] fun L =>
  gd (decide (0 + L.1 <= L.2.2.2.1.length)) <|
  idxK L.2.1 p fun v_4 =>
  d61 v_4 fun held_3 queue_3 =>
  some (.head 0 (T18_0 x19 (W .i64 (x20 + 1)) ((L.2.1).set p (V.agg [V.hm 58 held_3, V.sl (((L.2.2.2.1).drop 0).take L.1)])) L.2.2.1 m3 m4 L.2.2.2.2 m8)))) fun r_2 =>
  kS r_2 fun s_1 =>
  cond (!(s_1 == s))
 (some (.head 0 (T18_0 x19 (W .i64 (x20 + 1)) m0 m1 m3 m4 m5 m8)))
 (idxK m0 p fun v_5 =>
  d61 v_5 fun held_4 queue_4 =>
  idxK m1 held_4 fun mm_2 =>
  opt (mapDel mm_2 (V.int .i64 m5)) fun es_1 =>
  idxK m0 p fun v_6 =>
  d61 v_6 fun held_5 queue_5 =>
  pcK cfgB 37 [V.sl queue_5] fun r_4 =>
  kF 63 r_4 fun r37_1 =>
  icM cfgB ⟨true, true⟩ mk36 36 [V.own 2, V.fn 38 [V.ptr 3 0 0]] [O.arena 61 m0, O.marena 58 ((m1).set held_4 es_1), O.row 63 r37_1 0, O.box 3 (V.int .i64 m5) false] fun L_1 =>
  gd (decide (0 + L_1.1 <= L_1.2.2.2.1.length)) <|
  idxK L_1.2.1 p fun v_7 =>
  d61 v_7 fun held_6 queue_6 =>
  some (.head 0 (T18_0 x19 (W .i64 (x20 + 1)) ((L_1.2.1).set p (V.agg [V.hm 58 held_6, V.sl (((L_1.2.2.2.1).drop 0).take L_1.1)])) L_1.2.2.1 m3 m4 L_1.2.2.2.2 m8)))) fun r_1 =>
  kI .i64 r_1 fun n =>
  idxK m0 p fun v_8 =>
  d61 v_8 fun held_7 queue_7 =>
  idxK m1 held_7 fun mm_3 =>
  opt (mapDel mm_3 (V.int .i64 m5)) fun es_2 =>
  idxK m0 p fun v_9 =>
  d61 v_9 fun held_8 queue_8 =>
  pcK cfgB 37 [V.sl queue_8] fun r_5 =>
  kF 63 r_5 fun r37_2 =>
  icM cfgB ⟨true, true⟩ mk36 36 [V.own 2, V.fn 38 [V.ptr 3 0 0]] [O.arena 61 m0, O.marena 58 ((m1).set held_7 es_2), O.row 63 r37_2 0, O.box 3 (V.int .i64 m5) false] fun L_2 =>
  gd (decide (0 + L_2.1 <= L_2.2.2.2.1.length)) <|
  idxK L_2.2.1 p fun v_10 =>
  d61 v_10 fun held_9 queue_9 =>
  some (.head 0 (T18_0 x19 (W .i64 (x20 + 1)) ((L_2.2.1).set p (V.agg [V.hm 58 held_9, V.sl (((L_2.2.2.2.1).drop 0).take L_2.1)])) L_2.2.2.1 m3 m4 L_2.2.2.2.2 m8)))
 (opt (mapDel m4 (V.int .i64 m5)) fun es_3 =>
  opt (keyStrs m3) fun ks =>
  gd (decide (ks.length <= 4194304)) <|
  some (.head 1 (T18_1 (((srtS ks).map sV).length : Int) 0 m0 m1 m3 es_3 [] ((srtS ks).map sV))))
theorem s18_0_eq (x19 x20 : Int) (m0 : List V) (m1 : List (List (V × V))) (m3 m4 : List (V × V)) (m5 : Int) (m8 : List V) : goK kcB true 5 fa18 0 (T18_0 x19 x20 m0 m1 m3 m4 m5 m8) = s18_0 x19 x20 m0 m1 m3 m4 m5 m8 := by kernel_rfl
theorem s18_0_run (x19 x20 : Int) (m0 : List V) (m1 : List (List (V × V))) (m3 m4 : List (V × V)) (m5 : Int) (m8 : List V) {o o' : Out} (h : s18_0 x19 x20 m0 m1 m3 m4 m5 m8 = some o) (hg : Go kcB true 5 fa18 o o') : Go kcB true 5 fa18 (.head 0 (T18_0 x19 x20 m0 m1 m3 m4 m5 m8)) o' := .step ((s18_0_eq ..).trans h) hg
noncomputable def s18_1 (x78 x79 : Int) (m0 : List V) (m1 : List (List (V × V))) (m3 m4 : List (V × V)) (m6 m7 : List V) : R :=
  cond (decide (x79 < x78))
 (gd (decide (0 <= x79)) <|
  gd (decide (x79.toNat < m7.length)) <|
  idxK m7 x79.toNat fun v =>
  kS v fun s =>
  icM cfgB ⟨true, false⟩ mk39 39 [V.ptr 2 0 0, V.str s] (tm m0 m1 m3 m4) fun L =>
  gd (wfl 1 L.2.2.2.2) <|
  gd (decide (m6.length + L.2.2.2.2.length <= 16777216)) <|
  some (.head 1 (T18_1 x78 (W .i64 (x79 + 1)) L.1 L.2.1 L.2.2.1 L.2.2.2.1 (m6 ++ L.2.2.2.2) m7)))
 (some (.doneM (V.own 6) [O.arena 61 m0, O.marena 58 m1, O.box 50 (V.agg [V.mp 3, V.mp 4]) false, O.map m3, O.map m4, O.row 3 [] 0, O.row 3 m6 0, O.row 9 m7 0]))
theorem s18_1_eq (x78 x79 : Int) (m0 : List V) (m1 : List (List (V × V))) (m3 m4 : List (V × V)) (m6 m7 : List V) : goK kcB true 5 fa18 1 (T18_1 x78 x79 m0 m1 m3 m4 m6 m7) = s18_1 x78 x79 m0 m1 m3 m4 m6 m7 := by kernel_rfl
theorem s18_1_run (x78 x79 : Int) (m0 : List V) (m1 : List (List (V × V))) (m3 m4 : List (V × V)) (m6 m7 : List V) {o o' : Out} (h : s18_1 x78 x79 m0 m1 m3 m4 m6 m7 = some o) (hg : Go kcB true 5 fa18 o o') : Go kcB true 5 fa18 (.head 1 (T18_1 x78 x79 m0 m1 m3 m4 m6 m7)) o' := .step ((s18_1_eq ..).trans h) hg
noncomputable def fa14 : FA := ⟨3, 25, [.tmp 6], [3],
 (.seq
 (.ops false [o1 6 (.assign (.const (.int .i64 (0)))) 3])
 (.seq
 (.seq
 (.ops false [mv 7 0 23, o1 8 (.nilCheck (t' 7)) 0, o1 9 (.fieldAddr 50 (t' 8) 0) 0, o1 10 (.load 47 (t' 9)) 47, mv 11 2 9, o1 12 (.lookup 47 (t' 10) (t' 11) false) 53, o1 13 (.binOp .eql 53 (t' 12) (.const (.pointer none)) 53) 4])
 (.cond (t' 13)
 (.seq
 (.ops false [o1 6 (.assign (.const (.int .i64 (0)))) 3])
 (.ret))
 (.skip)))
 (.seq
 (.ops false [mv 14 0 23, o1 15 (.nilCheck (t' 14)) 0, o1 16 (.fieldAddr 50 (t' 15) 0) 0, o1 17 (.load 47 (t' 16)) 47, mv 18 2 9, o1 19 (.lookup 47 (t' 17) (t' 18) false) 53, o1 20 (.nilCheck (t' 19)) 0, o1 21 (.fieldAddr 61 (t' 20) 0) 0, o1 22 (.load 58 (t' 21)) 58, mv 23 1 3, o1 24 (.lookup 58 (t' 22) (t' 23) false) 3, asg 6 24 3])
 (.ret))))⟩
theorem fa14_eq : fnA cfgB.P (cfgB.rxf 14) 14 = some fa14 := by kernel_rfl
noncomputable def e14 (x1 : Int) (x2 : List UInt8) (m0 : List V) (m1 : List (List (V × V))) (m3 m4 : List (V × V)) : R :=
  mfK m3 (V.str x2)
 (some (.doneM (V.int .i64 0) (tm m0 m1 m3 m4))) fun r =>
  kP 61 r fun p =>
  mfK m3 (V.str x2)
 (none) fun r_1 =>
  kP 61 r_1 fun p_1 =>
  idxK m0 p_1 fun v =>
  d61 v fun held queue =>
  idxK m1 held fun mm =>
  mfK mm (V.int .i64 x1)
 (some (.doneM (V.int .i64 0) (tm m0 m1 m3 m4))) fun r_2 =>
  kI .i64 r_2 fun n =>
  some (.doneM (V.int .i64 n) (tm m0 m1 m3 m4))
theorem e14_eq (x1 : Int) (x2 : List UInt8) (m0 : List V) (m1 : List (List (V × V))) (m3 m4 : List (V × V)) : enterK kcB true fa14 [V.ptr 2 0 0, V.int .i64 x1, V.str x2] (tm m0 m1 m3 m4) = e14 x1 x2 m0 m1 m3 m4 := by kernel_rfl
theorem e14_run (x1 : Int) (x2 : List UInt8) (m0 : List V) (m1 : List (List (V × V))) (m3 m4 : List (V × V)) {o : Out} {r : V × List O} (h : e14 x1 x2 m0 m1 m3 m4 = some o) (hg : GoN kcB 5 fa14 ⟨true, false⟩ (tm m0 m1 m3 m4) o r) : icC cfgB ⟨true, false⟩ 14 [V.ptr 2 0 0, V.int .i64 x1, V.str x2] (tm m0 m1 m3 m4) = some r := icC_go ikB rfl fa14_eq ((e14_eq ..).trans h) hg
noncomputable def fa11 : FA := ⟨2, 23, [.tmp 4], [28],
 (.seq
 (.ops false [o1 4 (.assign (.const (.slice none 0 0))) 28])
 (.seq
 (.seq
 (.ops false [mv 5 0 23, o1 6 (.nilCheck (t' 5)) 0, o1 7 (.fieldAddr 50 (t' 6) 0) 0, o1 8 (.load 47 (t' 7)) 47, mv 9 1 9, o1 10 (.lookup 47 (t' 8) (t' 9) false) 53, o1 11 (.binOp .eql 53 (t' 10) (.const (.pointer none)) 53) 4])
 (.cond (t' 11)
 (.seq
 (.ops false [o1 4 (.assign (.const (.slice none 0 0))) 28])
 (.ret))
 (.skip)))
 (.seq
 (.ops false [mv 12 0 23, o1 13 (.nilCheck (t' 12)) 0, o1 14 (.fieldAddr 50 (t' 13) 0) 0, o1 15 (.load 47 (t' 14)) 47, mv 16 1 9, o1 17 (.lookup 47 (t' 15) (t' 16) false) 53, o1 18 (.nilCheck (t' 17)) 0, o1 19 (.fieldAddr 61 (t' 18) 0) 0, o1 20 (.load 58 (t' 19)) 58, o1 21 (.call ⟨(.value (.func 26)), #[(t' 20)], #[58]⟩) 56, o1 22 (.call ⟨(.value (.func 25)), #[(t' 21)], #[56]⟩) 28, asg 4 22 28])
 (.ret))))⟩
theorem fa11_eq : fnA cfgB.P (cfgB.rxf 11) 11 = some fa11 := by kernel_rfl
noncomputable def e11 (x1 : List UInt8) (m0 : List V) (m1 : List (List (V × V))) (m3 m4 : List (V × V)) : R :=
  mfK m3 (V.str x1)
 (some (.doneM (V.own 6) [O.arena 61 m0, O.marena 58 m1, O.box 50 (V.agg [V.mp 3, V.mp 4]) false, O.map m3, O.map m4, O.row 3 [] 0, O.row 3 [] 0])) fun r =>
  kP 61 r fun p =>
  mfK m3 (V.str x1)
 (none) fun r_1 =>
  kP 61 r_1 fun p_1 =>
  idxK m0 p_1 fun v =>
  d61 v fun held queue =>
  idxK m1 held fun mm =>
  opt (keyInts mm) fun ks =>
  gd (decide (ks.length <= 16777216)) <|
  some (.doneM (V.own 7) [O.arena 61 m0, O.marena 58 m1, O.box 50 (V.agg [V.mp 3, V.mp 4]) false, O.map m3, O.map m4, O.row 3 [] 0, O.box 58 (V.hm 58 held) false, O.row 3 ((srt ks).map iV) 0])
theorem e11_eq (x1 : List UInt8) (m0 : List V) (m1 : List (List (V × V))) (m3 m4 : List (V × V)) : enterK kcB true fa11 [V.ptr 2 0 0, V.str x1] (tm m0 m1 m3 m4) = e11 x1 m0 m1 m3 m4 := by kernel_rfl
theorem e11_run (x1 : List UInt8) (m0 : List V) (m1 : List (List (V × V))) (m3 m4 : List (V × V)) {o : Out} {r : V × List O} (h : e11 x1 m0 m1 m3 m4 = some o) (hg : GoN kcB 5 fa11 ⟨true, false⟩ (tm m0 m1 m3 m4) o r) : icC cfgB ⟨true, false⟩ 11 [V.ptr 2 0 0, V.str x1] (tm m0 m1 m3 m4) = some r := icC_go ikB rfl fa11_eq ((e11_eq ..).trans h) hg
noncomputable def fa12 : FA := ⟨2, 36, [.tmp 4], [28],
 (.seq
 (.ops false [o1 4 (.assign (.const (.slice none 0 0))) 28])
 (.seq
 (.seq
 (.ops false [mv 8 0 23, o1 9 (.nilCheck (t' 8)) 0, o1 10 (.fieldAddr 50 (t' 9) 0) 0, o1 11 (.load 47 (t' 10)) 47, mv 12 1 9, o1 13 (.lookup 47 (t' 11) (t' 12) false) 53, o1 14 (.binOp .eql 53 (t' 13) (.const (.pointer none)) 53) 4])
 (.cond (t' 14)
 (.seq
 (.ops false [o1 4 (.assign (.const (.slice none 0 0))) 28])
 (.ret))
 (.skip)))
 (.seq
 (.ops false [o1 5 (.assign (.const (.slice none 0 0))) 28])
 (.seq
 (.seq
 (.ops false [mv 15 0 23, o1 16 (.nilCheck (t' 15)) 0, o1 17 (.fieldAddr 50 (t' 16) 0) 0, o1 18 (.load 47 (t' 17)) 47, mv 19 1 9, o1 20 (.lookup 47 (t' 18) (t' 19) false) 53, o1 21 (.nilCheck (t' 20)) 0, o1 22 (.fieldAddr 61 (t' 21) 1) 0, o1 23 (.load 59 (t' 22)) 59, o1 24 (.call ⟨(.builtin .len), #[(t' 23)], #[59]⟩) 3, o1 25 (.move (.const (.int .i64 (0)))) 3])
 (.block 0
 (.loop (List.range' 0 4 ++ List.range' 6 17 ++ List.range' 26 10)
 (.seq
 (.ops false [o1 26 (.binOp .lss 3 (t' 25) (t' 24) 3) 0])
 (.seq
 (.cond (t' 26)
 (.skip)
 (.exit 0))
 (.seq
 (.block 1
 (.seq
 (.ops false [o1 27 (.indexAddr 59 (t' 23) (t' 25)) 0, o1 28 (.load 63 (t' 27)) 63, o1 7 (.alloc 63) 0, o0 (.store 63 (t' 7) (t' 28)) 0])
 (.ops false [mv 29 5 28, o1 30 (.fieldAddr 63 (t' 7) 0) 0, o1 31 (.load 3 (t' 30)) 3, o1 32 (.buildSlice 28 1 #[(0, (t' 31))]) 28, o1 33 (.call ⟨(.builtin .append), #[(t' 29), (t' 32)], #[28, 28]⟩) 28, asg 5 33 28])))
 (.ops false [o1 34 (.binOp .add 3 (t' 25) (.const (.int .i64 (1))) 3) 3, mv 25 34 3])))))))
 (.seq
 (.ops false [mv 35 5 28, asg 4 35 28])
 (.ret))))))⟩
theorem fa12_eq : fnA cfgB.P (cfgB.rxf 12) 12 = some fa12 := by kernel_rfl
def T12_0 (x23 : List V) (x24 x25 : Int) (m0 : List V) (m1 : List (List (V × V))) (m3 m4 : List (V × V)) (m6 : List V) : S := ⟨(JU 4) ++ [V.own 5, V.own 6] ++ (JU 17) ++ [V.sl x23, V.int .i64 x24, V.int .i64 x25] ++ (JU 10), [O.arena 61 m0, O.marena 58 m1, O.box 50 (V.agg [V.mp 3, V.mp 4]) false, O.map m3, O.map m4, O.row 3 [] 0, O.row 3 m6 0]⟩
noncomputable def e12 (x1 : List UInt8) (m0 : List V) (m1 : List (List (V × V))) (m3 m4 : List (V × V)) : R :=
  mfK m3 (V.str x1)
 (some (.doneM (V.own 6) [O.arena 61 m0, O.marena 58 m1, O.box 50 (V.agg [V.mp 3, V.mp 4]) false, O.map m3, O.map m4, O.row 3 [] 0, O.row 3 [] 0])) fun r =>
  kP 61 r fun p =>
  mfK m3 (V.str x1)
 (none) fun r_1 =>
  kP 61 r_1 fun p_1 =>
  idxK m0 p_1 fun v =>
  d61 v fun held queue =>
  some (.head 0 (T12_0 queue (queue.length : Int) 0 m0 m1 m3 m4 []))
theorem e12_eq (x1 : List UInt8) (m0 : List V) (m1 : List (List (V × V))) (m3 m4 : List (V × V)) : enterK kcB true fa12 [V.ptr 2 0 0, V.str x1] (tm m0 m1 m3 m4) = e12 x1 m0 m1 m3 m4 := by kernel_rfl
theorem e12_run (x1 : List UInt8) (m0 : List V) (m1 : List (List (V × V))) (m3 m4 : List (V × V)) {o : Out} {r : V × List O} (h : e12 x1 m0 m1 m3 m4 = some o) (hg : GoN kcB 5 fa12 ⟨true, false⟩ (tm m0 m1 m3 m4) o r) : icC cfgB ⟨true, false⟩ 12 [V.ptr 2 0 0, V.str x1] (tm m0 m1 m3 m4) = some r := icC_go ikB rfl fa12_eq ((e12_eq ..).trans h) hg
noncomputable def s12_0 (x23 : List V) (x24 x25 : Int) (m0 : List V) (m1 : List (List (V × V))) (m3 m4 : List (V × V)) (m6 : List V) : R :=
  cond (decide (x25 < x24))
 (gd (decide (0 <= x25)) <|
  idxK x23 x25.toNat fun v =>
  d63 v fun owner mode =>
  gd (decide (m6.length + ([V.int .i64 owner] : List V).length <= 16777216)) <|
  some (.head 0 (T12_0 x23 x24 (W .i64 (x25 + 1)) m0 m1 m3 m4 (m6 ++ [V.int .i64 owner]))))
 (some (.doneM (V.own 6) [O.arena 61 m0, O.marena 58 m1, O.box 50 (V.agg [V.mp 3, V.mp 4]) false, O.map m3, O.map m4, O.row 3 [] 0, O.row 3 m6 0]))
theorem s12_0_eq (x23 : List V) (x24 x25 : Int) (m0 : List V) (m1 : List (List (V × V))) (m3 m4 : List (V × V)) (m6 : List V) : goK kcB true 5 fa12 0 (T12_0 x23 x24 x25 m0 m1 m3 m4 m6) = s12_0 x23 x24 x25 m0 m1 m3 m4 m6 := by kernel_rfl
theorem s12_0_run (x23 : List V) (x24 x25 : Int) (m0 : List V) (m1 : List (List (V × V))) (m3 m4 : List (V × V)) (m6 : List V) {o o' : Out} (h : s12_0 x23 x24 x25 m0 m1 m3 m4 m6 = some o) (hg : Go kcB true 5 fa12 o o') : Go kcB true 5 fa12 (.head 0 (T12_0 x23 x24 x25 m0 m1 m3 m4 m6)) o' := .step ((s12_0_eq ..).trans h) hg
noncomputable def fa19 : FA := ⟨2, 44, [.tmp 4], [40],
 (.seq
 (.ops false [o1 4 (.assign (.const (.slice none 0 0))) 40])
 (.seq
 (.ops false [o1 5 (.assign (.const (.slice none 0 0))) 40])
 (.seq
 (.seq
 (.ops false [mv 10 0 23, o1 11 (.nilCheck (t' 10)) 0, o1 12 (.fieldAddr 50 (t' 11) 0) 0, o1 13 (.load 47 (t' 12)) 47, o1 14 (.call ⟨(.value (.func 35)), #[(t' 13)], #[47]⟩) 73, o1 15 (.call ⟨(.value (.func 34)), #[(t' 14)], #[73]⟩) 70, o1 16 (.call ⟨(.builtin .len), #[(t' 15)], #[70]⟩) 3, o1 17 (.move (.const (.int .i64 (0)))) 3])
 (.block 0
 (.loop ([2, 3] ++ List.range' 6 9 ++ List.range' 18 26)
 (.seq
 (.ops false [o1 18 (.binOp .lss 3 (t' 17) (t' 16) 3) 0])
 (.seq
 (.cond (t' 18)
 (.skip)
 (.exit 0))
 (.seq
 (.block 1
 (.seq
 (.ops false [o1 19 (.indexAddr 70 (t' 15) (t' 17)) 0, o1 20 (.load 9 (t' 19)) 9, asg 7 20 9])
 (.seq
 (.ops false [mv 22 0 23, o1 23 (.nilCheck (t' 22)) 0, o1 24 (.fieldAddr 50 (t' 23) 0) 0, o1 25 (.load 47 (t' 24)) 47, mv 26 7 9, o1 27 (.lookup 47 (t' 25) (t' 26) false) 53, o1 28 (.nilCheck (t' 27)) 0, o1 29 (.fieldAddr 61 (t' 28) 0) 0, o1 30 (.load 58 (t' 29)) 58, mv 31 1 3, o1 32 (.lookup 58 (t' 30) (t' 31) true) 75, mv 21 32 75, o1 33 (.extract (t' 21) 0) 3, o1 34 (.extract (t' 21) 1) 4, asg 8 33 3, asg 9 34 4])
 (.seq
 (.ops false [mv 35 9 4])
 (.cond (t' 35)
 (.ops false [mv 36 5 40, mv 37 7 9, mv 38 8 3, o1 39 (.build 33 #[(0, (t' 37)), (1, (t' 38))]) 33, o1 40 (.buildSlice 40 1 #[(0, (t' 39))]) 40, o1 41 (.call ⟨(.builtin .append), #[(t' 36), (t' 40)], #[40, 40]⟩) 40, asg 5 41 40])
 (.skip))))))
 (.ops false [o1 42 (.binOp .add 3 (t' 17) (.const (.int .i64 (1))) 3) 3, mv 17 42 3])))))))
 (.seq
 (.ops false [mv 43 5 40, asg 4 43 40])
 (.ret)))))⟩
theorem fa19_eq : fnA cfgB.P (cfgB.rxf 19) 19 = some fa19 := by kernel_rfl
def T19_0 (x1 x16 x17 : Int) (m0 : List V) (m1 : List (List (V × V))) (m3 m4 : List (V × V)) (m6 m7 : List V) : S := ⟨[V.ptr 2 0 0, V.int .i64 x1, V.junk, V.junk, V.own 5, V.own 6] ++ (JU 9) ++ [V.own 7, V.int .i64 x16, V.int .i64 x17] ++ (JU 26), [O.arena 61 m0, O.marena 58 m1, O.box 50 (V.agg [V.mp 3, V.mp 4]) false, O.map m3, O.map m4, O.row 33 [] 0, O.row 33 m6 0, O.row 9 m7 0]⟩
noncomputable def e19 (x1 : Int) (m0 : List V) (m1 : List (List (V × V))) (m3 m4 : List (V × V)) : R :=
  opt (keyStrs m3) fun ks =>
  gd (decide (ks.length <= 4194304)) <|
  some (.head 0 (T19_0 x1 (((srtS ks).map sV).length : Int) 0 m0 m1 m3 m4 [] ((srtS ks).map sV)))
theorem e19_eq (x1 : Int) (m0 : List V) (m1 : List (List (V × V))) (m3 m4 : List (V × V)) : enterK kcB true fa19 [V.ptr 2 0 0, V.int .i64 x1] (tm m0 m1 m3 m4) = e19 x1 m0 m1 m3 m4 := by kernel_rfl
theorem e19_run (x1 : Int) (m0 : List V) (m1 : List (List (V × V))) (m3 m4 : List (V × V)) {o : Out} {r : V × List O} (h : e19 x1 m0 m1 m3 m4 = some o) (hg : GoN kcB 5 fa19 ⟨true, false⟩ (tm m0 m1 m3 m4) o r) : icC cfgB ⟨true, false⟩ 19 [V.ptr 2 0 0, V.int .i64 x1] (tm m0 m1 m3 m4) = some r := icC_go ikB rfl fa19_eq ((e19_eq ..).trans h) hg
noncomputable def s19_0 (x1 x16 x17 : Int) (m0 : List V) (m1 : List (List (V × V))) (m3 m4 : List (V × V)) (m6 m7 : List V) : R :=
  cond (decide (x17 < x16))
 (gd (decide (0 <= x17)) <|
  gd (decide (x17.toNat < m7.length)) <|
  idxK m7 x17.toNat fun v =>
  kS v fun s =>
  mfK m3 (V.str s)
 (none) fun r =>
  kP 61 r fun p =>
  idxK m0 p fun v_1 =>
  d61 v_1 fun held queue =>
  idxK m1 held fun mm =>
  mfK mm (V.int .i64 x1)
 (some (.head 0 (T19_0 x1 x16 (W .i64 (x17 + 1)) m0 m1 m3 m4 m6 m7))) fun r_1 =>
  kI .i64 r_1 fun n =>
  gd (decide (m6.length + ([V.agg [V.str s, V.int .i64 n]] : List V).length <= 16777216)) <|
  some (.head 0 (T19_0 x1 x16 (W .i64 (x17 + 1)) m0 m1 m3 m4 (m6 ++ [V.agg [V.str s, V.int .i64 n]]) m7)))
 (some (.doneM (V.own 6) [O.arena 61 m0, O.marena 58 m1, O.box 50 (V.agg [V.mp 3, V.mp 4]) false, O.map m3, O.map m4, O.row 33 [] 0, O.row 33 m6 0, O.row 9 m7 0]))
theorem s19_0_eq (x1 x16 x17 : Int) (m0 : List V) (m1 : List (List (V × V))) (m3 m4 : List (V × V)) (m6 m7 : List V) : goK kcB true 5 fa19 0 (T19_0 x1 x16 x17 m0 m1 m3 m4 m6 m7) = s19_0 x1 x16 x17 m0 m1 m3 m4 m6 m7 := by kernel_rfl
theorem s19_0_run (x1 x16 x17 : Int) (m0 : List V) (m1 : List (List (V × V))) (m3 m4 : List (V × V)) (m6 m7 : List V) {o o' : Out} (h : s19_0 x1 x16 x17 m0 m1 m3 m4 m6 m7 = some o) (hg : Go kcB true 5 fa19 o o') : Go kcB true 5 fa19 (.head 0 (T19_0 x1 x16 x17 m0 m1 m3 m4 m6 m7)) o' := .step ((s19_0_eq ..).trans h) hg
noncomputable def fa40 : FA := ⟨2, 26, [.tmp 4], [53],
 (.seq
 (.ops false [o1 4 (.assign (.const (.pointer none))) 53])
 (.seq
 (.seq
 (.ops false [mv 5 0 23, o1 6 (.nilCheck (t' 5)) 0, o1 7 (.fieldAddr 50 (t' 6) 0) 0, o1 8 (.load 47 (t' 7)) 47, mv 9 1 9, o1 10 (.lookup 47 (t' 8) (t' 9) false) 53, o1 11 (.binOp .eql 53 (t' 10) (.const (.pointer none)) 53) 4])
 (.cond (t' 11)
 (.ops false [mv 12 0 23, o1 13 (.nilCheck (t' 12)) 0, o1 14 (.fieldAddr 50 (t' 13) 0) 0, o1 15 (.load 47 (t' 14)) 47, mv 16 1 9, o1 17 (.makeMap 58 none) 58, o1 18 (.build 61 #[(0, (t' 17))]) 61, o1 19 (.box 61 (t' 18)) 53, o0 (.mapUpdate 47 (t' 15) (t' 16) (t' 19)) 0])
 (.skip)))
 (.seq
 (.ops false [mv 20 0 23, o1 21 (.nilCheck (t' 20)) 0, o1 22 (.fieldAddr 50 (t' 21) 0) 0, o1 23 (.load 47 (t' 22)) 47, mv 24 1 9, o1 25 (.lookup 47 (t' 23) (t' 24) false) 53, asg 4 25 53])
 (.ret))))⟩
theorem fa40_eq : fnA cfgB.P (cfgB.rxf 40) 40 = some fa40 := by kernel_rfl
noncomputable def e40 (x1 : List UInt8) (m0 : List V) (m1 : List (List (V × V))) (m3 m4 : List (V × V)) : R :=
  mfK m3 (V.str x1)
 (opt (mapPut m3 (V.str x1) (V.hp 61 m0.length 0)) fun es =>
  mfK es (V.str x1)
 (some (.doneM (V.nilP) (tm ((m0 ++ [V.agg [V.hm 58 m1.length, V.sl []]])) ((m1 ++ [[]])) es m4))) fun r_1 =>
  kP 61 r_1 fun p =>
  some (.doneM (V.hp 61 p 0) (tm ((m0 ++ [V.agg [V.hm 58 m1.length, V.sl []]])) ((m1 ++ [[]])) es m4))) fun r =>
  kP 61 r fun p_1 =>
  mfK m3 (V.str x1)
 (some (.doneM (V.nilP) (tm m0 m1 m3 m4))) fun r_2 =>
  kP 61 r_2 fun p_2 =>
  some (.doneM (V.hp 61 p_2 0) (tm m0 m1 m3 m4))
theorem e40_eq (x1 : List UInt8) (m0 : List V) (m1 : List (List (V × V))) (m3 m4 : List (V × V)) : enterK kcB true fa40 [V.ptr 2 0 0, V.str x1] (tm m0 m1 m3 m4) = e40 x1 m0 m1 m3 m4 := by kernel_rfl
theorem e40_run (x1 : List UInt8) (m0 : List V) (m1 : List (List (V × V))) (m3 m4 : List (V × V)) {o : Out} {r : V × List O} (h : e40 x1 m0 m1 m3 m4 = some o) (hg : GoN kcB 5 fa40 ⟨true, false⟩ (tm m0 m1 m3 m4) o r) : icC cfgB ⟨true, false⟩ 40 [V.ptr 2 0 0, V.str x1] (tm m0 m1 m3 m4) = some r := icC_go ikB rfl fa40_eq ((e40_eq ..).trans h) hg
noncomputable def fa43 : FA := ⟨3, 50, [.tmp 6], [42],
 (.seq
 (.ops false [⟨(some 5), .box 63 (t' 2), 0, none, false, false, true⟩, o1 6 (.assign (.const (.int .i64 (0)))) 42])
 (.seq
 (.ops false [mv 9 0 23, mv 10 1 9, o1 11 (.call ⟨(.value (.func 40)), #[(t' 9), (t' 10)], #[23, 9]⟩) 53, asg 7 11 53])
 (.seq
 (.ops false [mv 12 7 53, o1 13 (.nilCheck (t' 12)) 0, o1 14 (.fieldAddr 61 (t' 13) 1) 0, o1 15 (.load 59 (t' 14)) 59, asg 8 15 59])
 (.seq
 (.ops true [mv 16 7 53, mv 17 8 59, ⟨(some 18), .call ⟨(.value (.func 37)), #[(t' 17)], #[59]⟩, 59, none, false, true, false⟩, mv 19 7 53, o1 20 (.fieldAddr 63 (t' 5) 0) 0, ⟨(some 21), .load 3 (t' 20), 3, none, false, false, true⟩, ⟨(some 22), .call ⟨(.value (.func 56)), #[(t' 19), (t' 21)], #[53, 3]⟩, 3, none, false, true, false⟩, ⟨(some 23), .load 63 (t' 5), 63, none, false, false, true⟩, ⟨(some 24), .buildSlice 59 1 #[(0, (t' 23))], 59, none, true, false, false⟩, ⟨(some 25), .call ⟨(.value (.func 55)), #[(t' 18), (t' 22), (t' 24)], #[59, 3, 59]⟩, 59, none, false, true, false⟩, o1 26 (.nilCheck (t' 16)) 0, o1 27 (.fieldAddr 61 (t' 26) 1) 0, o0 (.store 59 (t' 27) (t' 25)) 0])
 (.seq
 (.ops true [mv 28 0 23, o1 29 (.nilCheck (t' 28)) 0, o1 30 (.fieldAddr 50 (t' 29) 1) 0, o1 31 (.load 48 (t' 30)) 48, o1 32 (.fieldAddr 63 (t' 5) 0) 0, o1 33 (.load 3 (t' 32)) 3, mv 34 1 9, o0 (.mapUpdate 48 (t' 31) (t' 33) (t' 34)) 0])
 (.seq
 (.seq
 (.ops false [mv 35 0 23, o1 36 (.fieldAddr 63 (t' 5) 0) 0, o1 37 (.load 3 (t' 36)) 3, o1 38 (.call ⟨(.value (.func 57)), #[(t' 35), (t' 37)], #[23, 3]⟩) 4, o1 39 (.unOp .not 4 (t' 38)) 4])
 (.cond (t' 39)
 (.seq
 (.ops false [o1 6 (.assign (.const (.int .i64 (10)))) 42])
 (.ret))
 (.skip)))
 (.seq
 (.ops false [mv 40 7 53, mv 41 8 59, o1 42 (.nilCheck (t' 40)) 0, o1 43 (.fieldAddr 61 (t' 42) 1) 0, o0 (.store 59 (t' 43) (t' 41)) 0])
 (.seq
 (.ops true [mv 44 0 23, o1 45 (.nilCheck (t' 44)) 0, o1 46 (.fieldAddr 50 (t' 45) 1) 0, o1 47 (.load 48 (t' 46)) 48, o1 48 (.fieldAddr 63 (t' 5) 0) 0, o1 49 (.load 3 (t' 48)) 3, o0 (.call ⟨(.builtin .delete), #[(t' 47), (t' 49)], #[48, 3]⟩) 0])
 (.seq
 (.ops false [o1 6 (.assign (.const (.int .i64 (11)))) 42])
 (.ret))))))))))⟩
theorem fa43_eq : fnA cfgB.P (cfgB.rxf 43) 43 = some fa43 := by kernel_rfl
noncomputable def e43 (x1 : List UInt8) (x2_0 x2_1 : Int) (m0 : List V) (m1 : List (List (V × V))) (m3 m4 : List (V × V)) : R :=
  icM cfgB ⟨true, false⟩ mk40 40 [V.ptr 2 0 0, V.str x1] (tm m0 m1 m3 m4) fun L =>
  idxK L.2.1 L.1 fun v =>
  d61 v fun held queue =>
  pcK cfgB 37 [V.sl queue] fun r =>
  kF 63 r fun r37 =>
  icM cfgB ⟨true, false⟩ mk56 56 [V.hp 61 L.1 0, V.int .i64 x2_0] [O.arena 61 L.2.1, O.marena 58 L.2.2.1] fun L_1 =>
  gd (decide (0 <= L_1.1 /\ L_1.1.toNat <= r37.length /\ r37.length + ([V.agg [V.int .i64 x2_0, V.int .i64 x2_1]] : List V).length <= 16777216)) <|
  idxK L_1.2.1 L.1 fun v_1 =>
  d61 v_1 fun held_1 queue_1 =>
  opt (mapPut L.2.2.2.2 (V.int .i64 x2_0) (V.str x1)) fun es =>
  icM cfgB ⟨true, false⟩ mk57 57 [V.ptr 2 0 0, V.int .i64 x2_0] (tm (((L_1.2.1).set L.1 (V.agg [V.hm 58 held_1, V.sl (((r37.take L_1.1.toNat) ++ [V.agg [V.int .i64 x2_0, V.int .i64 x2_1]]) ++ (r37.drop L_1.1.toNat))]))) L_1.2.2 L.2.2.2.1 es) fun L_2 =>
  cond (!L_2.1)
 (some (.doneM (V.int .i64 10) [O.arena 61 L_2.2.1, O.marena 58 L_2.2.2.1, O.box 50 (V.agg [V.mp 3, V.mp 4]) false, O.map L_2.2.2.2.1, O.map L_2.2.2.2.2, O.dead, O.row 63 (((r37.take L_1.1.toNat) ++ [V.agg [V.int .i64 x2_0, V.int .i64 x2_1]]) ++ (r37.drop L_1.1.toNat)) ((((r37.take L_1.1.toNat) ++ [V.agg [V.int .i64 x2_0, V.int .i64 x2_1]]) ++ (r37.drop L_1.1.toNat)).length)]))
 (idxK L_2.2.1 L.1 fun v_2 =>
  d61 v_2 fun held_2 queue_2 =>
  opt (mapDel L_2.2.2.2.2 (V.int .i64 x2_0)) fun es_1 =>
  some (.doneM (V.int .i64 11) [O.arena 61 ((L_2.2.1).set L.1 (V.agg [V.hm 58 held_2, V.sl queue])), O.marena 58 L_2.2.2.1, O.box 50 (V.agg [V.mp 3, V.mp 4]) false, O.map L_2.2.2.2.1, O.map es_1, O.dead, O.row 63 (((r37.take L_1.1.toNat) ++ [V.agg [V.int .i64 x2_0, V.int .i64 x2_1]]) ++ (r37.drop L_1.1.toNat)) ((((r37.take L_1.1.toNat) ++ [V.agg [V.int .i64 x2_0, V.int .i64 x2_1]]) ++ (r37.drop L_1.1.toNat)).length)]))
theorem e43_eq (x1 : List UInt8) (x2_0 x2_1 : Int) (m0 : List V) (m1 : List (List (V × V))) (m3 m4 : List (V × V)) : enterK kcB true fa43 [V.ptr 2 0 0, V.str x1, V.agg [V.int .i64 x2_0, V.int .i64 x2_1]] (tm m0 m1 m3 m4) = e43 x1 x2_0 x2_1 m0 m1 m3 m4 := by kernel_rfl
theorem e43_run (x1 : List UInt8) (x2_0 x2_1 : Int) (m0 : List V) (m1 : List (List (V × V))) (m3 m4 : List (V × V)) {o : Out} {r : V × List O} (h : e43 x1 x2_0 x2_1 m0 m1 m3 m4 = some o) (hg : GoN kcB 5 fa43 ⟨true, false⟩ (tm m0 m1 m3 m4) o r) : icC cfgB ⟨true, false⟩ 43 [V.ptr 2 0 0, V.str x1, V.agg [V.int .i64 x2_0, V.int .i64 x2_1]] (tm m0 m1 m3 m4) = some r := icC_go ikB rfl fa43_eq ((e43_eq ..).trans h) hg
noncomputable def fa39 : FA := ⟨2, 64, [.tmp 4], [28],
 (.seq
 (.ops false [o1 4 (.assign (.const (.slice none 0 0))) 28])
 (.seq
 (.ops false [mv 8 0 23, mv 9 1 9, o1 10 (.call ⟨(.value (.func 40)), #[(t' 8), (t' 9)], #[23, 9]⟩) 53, asg 5 10 53, o1 6 (.assign (.const (.slice none 0 0))) 28])
 (.seq
 (.block 0
 (.loop ([2, 3] ++ List.range' 7 57)
 (.seq
 (.seq
 (.ops false [mv 11 5 53, o1 12 (.nilCheck (t' 11)) 0, o1 13 (.fieldAddr 61 (t' 12) 1) 0, o1 14 (.load 59 (t' 13)) 59, o1 15 (.call ⟨(.builtin .len), #[(t' 14)], #[59]⟩) 3, o1 16 (.binOp .gtr 3 (t' 15) (.const (.int .i64 (0))) 3) 4, mv 17 16 4, o2 18 (.move (t' 5)) 53 17 true, o2 19 (.move (t' 5)) 53 17 true, o2 20 (.nilCheck (t' 19)) 0 17 true, o2 21 (.fieldAddr 61 (t' 20) 1) 0 17 true, o2 22 (.load 59 (t' 21)) 59 17 true, o2 23 (.indexAddr 59 (t' 22) (.const (.int .i64 (0)))) 0 17 true, o2 24 (.load 63 (t' 23)) 63 17 true, o2 25 (.call ⟨(.value (.func 42)), #[(t' 18), (t' 24)], #[53, 63]⟩) 4 17 true, o1 26 (.pick (t' 17) (t' 25) (.const (.bool false))) 4])
 (.cond (t' 26)
 (.skip)
 (.exit 0)))
 (.block 1
 (.seq
 (.ops false [mv 27 5 53, o1 28 (.nilCheck (t' 27)) 0, o1 29 (.fieldAddr 61 (t' 28) 1) 0, o1 30 (.load 59 (t' 29)) 59, o1 31 (.indexAddr 59 (t' 30) (.const (.int .i64 (0)))) 0, o1 32 (.load 63 (t' 31)) 63, o1 7 (.alloc 63) 0, o0 (.store 63 (t' 7) (t' 32)) 0])
 (.seq
 (.ops true [mv 33 5 53, o1 34 (.nilCheck (t' 33)) 0, o1 35 (.fieldAddr 61 (t' 34) 0) 0, o1 36 (.load 58 (t' 35)) 58, o1 37 (.fieldAddr 63 (t' 7) 0) 0, o1 38 (.load 3 (t' 37)) 3, o1 39 (.fieldAddr 63 (t' 7) 1) 0, o1 40 (.load 3 (t' 39)) 3, o0 (.mapUpdate 58 (t' 36) (t' 38) (t' 40)) 0])
 (.seq
 (.ops false [mv 41 5 53, mv 42 5 53, o1 43 (.nilCheck (t' 42)) 0, o1 44 (.fieldAddr 61 (t' 43) 1) 0, o1 45 (.load 59 (t' 44)) 59, o1 46 (.slice 59 (t' 45) (some (.const (.int .i64 (1)))) none none) 59, o1 47 (.nilCheck (t' 41)) 0, o1 48 (.fieldAddr 61 (t' 47) 1) 0, o0 (.store 59 (t' 48) (t' 46)) 0])
 (.seq
 (.ops true [mv 49 0 23, o1 50 (.nilCheck (t' 49)) 0, o1 51 (.fieldAddr 50 (t' 50) 1) 0, o1 52 (.load 48 (t' 51)) 48, o1 53 (.fieldAddr 63 (t' 7) 0) 0, o1 54 (.load 3 (t' 53)) 3, o0 (.call ⟨(.builtin .delete), #[(t' 52), (t' 54)], #[48, 3]⟩) 0])
 (.ops false [mv 55 6 28, o1 56 (.fieldAddr 63 (t' 7) 0) 0, o1 57 (.load 3 (t' 56)) 3, o1 58 (.buildSlice 28 1 #[(0, (t' 57))]) 28, o1 59 (.call ⟨(.builtin .append), #[(t' 55), (t' 58)], #[28, 28]⟩) 28, asg 6 59 28])))))))))
 (.seq
 (.ops false [mv 60 0 23, mv 61 1 9, o1 62 (.call ⟨(.value (.func 54)), #[(t' 60), (t' 61)], #[23, 9]⟩) 0])
 (.seq
 (.ops false [mv 63 6 28, asg 4 63 28])
 (.ret))))))⟩
theorem fa39_eq : fnA cfgB.P (cfgB.rxf 39) 39 = some fa39 := by kernel_rfl
def T39_0 (x1 : List UInt8) (x5 : Nat) (m0 : List V) (m1 : List (List (V × V))) (m3 m4 : List (V × V)) (m6 : List V) : S := ⟨[V.ptr 2 0 0, V.str x1, V.junk, V.junk, V.own 5, V.hp 61 x5 0, V.own 6] ++ (JU 57), [O.arena 61 m0, O.marena 58 m1, O.box 50 (V.agg [V.mp 3, V.mp 4]) false, O.map m3, O.map m4, O.row 3 [] 0, O.row 3 m6 0]⟩
noncomputable def e39 (x1 : List UInt8) (m0 : List V) (m1 : List (List (V × V))) (m3 m4 : List (V × V)) : R :=
  icM cfgB ⟨true, false⟩ mk40 40 [V.ptr 2 0 0, V.str x1] (tm m0 m1 m3 m4) fun L =>
  some (.head 0 (T39_0 x1 L.1 L.2.1 L.2.2.1 L.2.2.2.1 L.2.2.2.2 []))
theorem e39_eq (x1 : List UInt8) (m0 : List V) (m1 : List (List (V × V))) (m3 m4 : List (V × V)) : enterK kcB true fa39 [V.ptr 2 0 0, V.str x1] (tm m0 m1 m3 m4) = e39 x1 m0 m1 m3 m4 := by kernel_rfl
theorem e39_run (x1 : List UInt8) (m0 : List V) (m1 : List (List (V × V))) (m3 m4 : List (V × V)) {o : Out} {r : V × List O} (h : e39 x1 m0 m1 m3 m4 = some o) (hg : GoN kcB 5 fa39 ⟨true, false⟩ (tm m0 m1 m3 m4) o r) : icC cfgB ⟨true, false⟩ 39 [V.ptr 2 0 0, V.str x1] (tm m0 m1 m3 m4) = some r := icC_go ikB rfl fa39_eq ((e39_eq ..).trans h) hg
noncomputable def s39_0 (x1 : List UInt8) (x5 : Nat) (m0 : List V) (m1 : List (List (V × V))) (m3 m4 : List (V × V)) (m6 : List V) : R :=
  idxK m0 x5 fun v =>
  d61 v fun held queue =>
  cond (decide ((queue.length : Int) > 0))
 (idxK m0 x5 fun v_1 =>
  d61 v_1 fun held_1 queue_1 =>
  idxK queue_1 0 fun v_2 =>
  d63 v_2 fun owner mode =>
  opt (canX m0 m1 x5 owner mode) fun b =>
  cond b
 (idxK m0 x5 fun v_3 =>
  d61 v_3 fun held_2 queue_2 =>
  idxK queue_2 0 fun v_4 =>
  d63 v_4 fun owner_1 mode_1 =>
  idxK m0 x5 fun v_5 =>
  d61 v_5 fun held_3 queue_3 =>
  idxK m1 held_3 fun mm =>
  opt (mapPut mm (V.int .i64 owner_1) (V.int .i64 mode_1)) fun es =>
  idxK m0 x5 fun v_6 =>
  d61 v_6 fun held_4 queue_4 =>
  gd (wfl 2 queue_4) <|
  gd (decide (1 <= queue_4.length)) <|
  idxK m0 x5 fun v_7 =>
  d61 v_7 fun held_5 queue_5 =>
  opt (mapDel m4 (V.int .i64 owner_1)) fun es_1 =>
  gd (decide (m6.length + ([V.int .i64 owner_1] : List V).length <= 16777216)) <|
  some (.head 0 (T39_0 x1 x5 ((m0).set x5 (V.agg [V.hm 58 held_5, V.sl ((queue_4.take queue_4.length).drop 1)])) ((m1).set held_3 es) m3 es_1 (m6 ++ [V.int .i64 owner_1]))))
 (icM cfgB ⟨true, false⟩ mk54 54 [V.ptr 2 0 0, V.str x1] (tm m0 m1 m3 m4) fun L =>
  some (.doneM (V.own 6) [O.arena 61 L.1, O.marena 58 L.2.1, O.box 50 (V.agg [V.mp 3, V.mp 4]) false, O.map L.2.2.1, O.map L.2.2.2, O.row 3 [] 0, O.row 3 m6 0])))
 (icM cfgB ⟨true, false⟩ mk54 54 [V.ptr 2 0 0, V.str x1] (tm m0 m1 m3 m4) fun L_1 =>
  some (.doneM (V.own 6) [O.arena 61 L_1.1, O.marena 58 L_1.2.1, O.box 50 (V.agg [V.mp 3, V.mp 4]) false, O.map L_1.2.2.1, O.map L_1.2.2.2, O.row 3 [] 0, O.row 3 m6 0]))
theorem s39_0_eq (x1 : List UInt8) (x5 : Nat) (m0 : List V) (m1 : List (List (V × V))) (m3 m4 : List (V × V)) (m6 : List V) : goK kcB true 5 fa39 0 (T39_0 x1 x5 m0 m1 m3 m4 m6) = s39_0 x1 x5 m0 m1 m3 m4 m6 := by kernel_rfl
theorem s39_0_run (x1 : List UInt8) (x5 : Nat) (m0 : List V) (m1 : List (List (V × V))) (m3 m4 : List (V × V)) (m6 : List V) {o o' : Out} (h : s39_0 x1 x5 m0 m1 m3 m4 m6 = some o) (hg : Go kcB true 5 fa39 o o') : Go kcB true 5 fa39 (.head 0 (T39_0 x1 x5 m0 m1 m3 m4 m6)) o' := .step ((s39_0_eq ..).trans h) hg
noncomputable def fa36 : FA := ⟨2, 42, [.tmp 4], [59],
 (.seq
 (.ops false [o1 4 (.assign (.const (.slice none 0 0))) 59])
 (.seq
 (.ops false [mv 8 0 59, mv 9 1 67, o1 10 (.call ⟨(.value (.func 29)), #[(t' 8), (t' 9)], #[59, 67]⟩) 3, asg 5 10 3])
 (.seq
 (.seq
 (.ops false [mv 11 5 3, o1 12 (.binOp .eql 3 (t' 11) (.const (.int .i64 (-1))) 3) 4])
 (.cond (t' 12)
 (.seq
 (.ops false [mv 13 0 59, asg 4 13 59])
 (.ret))
 (.skip)))
 (.seq
 (.seq
 (.ops false [mv 14 5 3, o1 15 (.binOp .add 3 (t' 14) (.const (.int .i64 (1))) 3) 3, asg 6 15 3])
 (.block 0
 (.loop ([2, 3] ++ List.range' 7 35)
 (.seq
 (.seq
 (.ops false [mv 16 6 3, mv 17 0 59, o1 18 (.call ⟨(.builtin .len), #[(t' 17)], #[59]⟩) 3, o1 19 (.binOp .lss 3 (t' 16) (t' 18) 3) 4])
 (.cond (t' 19)
 (.skip)
 (.exit 0)))
 (.seq
 (.block 1
 (.seq
 (.ops false [mv 22 0 59, mv 23 6 3, o1 24 (.indexAddr 59 (t' 22) (t' 23)) 0, o1 25 (.load 63 (t' 24)) 63, o1 7 (.alloc 63) 0, o0 (.store 63 (t' 7) (t' 25)) 0])
 (.seq
 (.ops false [mv 26 1 67, o1 27 (.load 63 (t' 7)) 63, o1 28 (.call ⟨(.value (t' 26)), #[(t' 27)], #[63]⟩) 4, o1 29 (.unOp .not 4 (t' 28)) 4])
 (.cond (t' 29)
 (.seq
 (.ops false [mv 30 0 59, mv 31 5 3, o1 32 (.load 63 (t' 7)) 63, o1 33 (.indexAddr 59 (t' 30) (t' 31)) 0, o0 (.store 63 (t' 33) (t' 32)) 0])
 (.ops false [mv 34 5 3, o1 35 (.binOp .add 3 (t' 34) (.const (.int .i64 (1))) 3) 3, asg 5 35 3]))
 (.skip)))))
 (.ops false [mv 20 6 3, o1 21 (.binOp .add 3 (t' 20) (.const (.int .i64 (1))) 3) 3, asg 6 21 3]))))))
 (.seq
 (.ops false [mv 36 0 59, mv 37 5 3, o1 38 (.slice 59 (t' 36) (some (t' 37)) none none) 59, o0 (.call ⟨(.builtin .clear), #[(t' 38)], #[59]⟩) 0])
 (.seq
 (.ops false [mv 39 0 59, mv 40 5 3, o1 41 (.slice 59 (t' 39) none (some (t' 40)) none) 59, asg 4 41 59])
 (.ret)))))))⟩
theorem fa36_eq : fnA cfgB.P (cfgB.rxf 36) 36 = some fa36 := by kernel_rfl
def T36_0 (x5 x6 : Int) (m0 : List V) (m1 : List (List (V × V))) (m2 : List V) (m3 : Int) : S := ⟨[V.own 2, V.fn 38 [V.ptr 3 0 0], V.junk, V.junk, V.own 4, V.int .i64 x5, V.int .i64 x6] ++ (JU 35), [O.arena 61 m0, O.marena 58 m1, O.row 63 m2 0, O.box 3 (V.int .i64 m3) false, O.row 63 [] 0]⟩
noncomputable def e36 (m0 : List V) (m1 : List (List (V × V))) (m2 : List V) (m3 : Int) : R :=
  pcK cfgB 29 [V.sl m2, V.fn 38 [V.ref (V.int .i64 m3) 0]] fun r =>
  kI .i64 r fun r29 =>
  cond (r29 == ((-1) : Int))
 (some (.doneM (V.own 2) [O.arena 61 m0, O.marena 58 m1, O.row 63 m2 0, O.box 3 (V.int .i64 m3) false, O.row 63 [] 0]))
 (some (.head 0 (T36_0 r29 (W .i64 (r29 + 1)) m0 m1 m2 m3)))
theorem e36_eq (m0 : List V) (m1 : List (List (V × V))) (m2 : List V) (m3 : Int) : enterK kcB true fa36 [V.own 2, V.fn 38 [V.ptr 3 0 0]] [O.arena 61 m0, O.marena 58 m1, O.row 63 m2 0, O.box 3 (V.int .i64 m3) false] = e36 m0 m1 m2 m3 := by kernel_rfl
theorem e36_run (m0 : List V) (m1 : List (List (V × V))) (m2 : List V) (m3 : Int) {o : Out} {r : V × List O} (h : e36 m0 m1 m2 m3 = some o) (hg : GoN kcB 4 fa36 ⟨true, true⟩ [O.arena 61 m0, O.marena 58 m1, O.row 63 m2 0, O.box 3 (V.int .i64 m3) false] o r) : icC cfgB ⟨true, true⟩ 36 [V.own 2, V.fn 38 [V.ptr 3 0 0]] [O.arena 61 m0, O.marena 58 m1, O.row 63 m2 0, O.box 3 (V.int .i64 m3) false] = some r := icC_go ikB rfl fa36_eq ((e36_eq ..).trans h) hg
noncomputable def s36_0 (x5 x6 : Int) (m0 : List V) (m1 : List (List (V × V))) (m2 : List V) (m3 : Int) : R :=
  cond (decide (x6 < (m2.length : Int)))
 (gd (decide (0 <= x6)) <|
  gd (decide (x6.toNat < m2.length)) <|
  idxK m2 x6.toNat fun v =>
  d63 v fun owner mode =>
  pcK cfgB 38 [V.agg [V.int .i64 owner, V.int .i64 mode], V.ref (V.int .i64 m3) 0] fun r =>
  kB r fun r38 =>
  cond (!r38)
 (gd (decide (0 <= x5)) <|
  gd (decide (x5.toNat < m2.length)) <|
  idxK m2 x5.toNat fun v_1 =>
  d63 v_1 fun owner_1 mode_1 =>
  some (.head 0 (T36_0 (W .i64 (x5 + 1)) (W .i64 (x6 + 1)) m0 m1 ((m2).set x5.toNat (V.agg [V.int .i64 owner, V.int .i64 mode])) m3)))
 (some (.head 0 (T36_0 x5 (W .i64 (x6 + 1)) m0 m1 m2 m3))))
 (gd (wfl 2 m2) <|
  gd (decide (0 <= x5)) <|
  gd (decide (x5.toNat <= m2.length)) <|
  gd (decide (x5.toNat + (m2.length - x5.toNat) <= m2.length)) <|
  gd (wfl 2 (m2.take x5.toNat ++ List.replicate (m2.length - x5.toNat) (V.agg [V.int .i64 0, V.int .i64 0]) ++ m2.drop (x5.toNat + (m2.length - x5.toNat)))) <|
  gd (decide (0 <= x5)) <|
  gd (decide (x5.toNat <= (m2.take x5.toNat ++ List.replicate (m2.length - x5.toNat) (V.agg [V.int .i64 0, V.int .i64 0]) ++ m2.drop (x5.toNat + (m2.length - x5.toNat))).length)) <|
  some (.doneM (V.win 2 0 (x5.toNat - 0)) [O.arena 61 m0, O.marena 58 m1, O.row 63 (m2.take x5.toNat ++ List.replicate (m2.length - x5.toNat) (V.agg [V.int .i64 0, V.int .i64 0]) ++ m2.drop (x5.toNat + (m2.length - x5.toNat))) 0, O.box 3 (V.int .i64 m3) false, O.row 63 [] 0]))
theorem s36_0_eq (x5 x6 : Int) (m0 : List V) (m1 : List (List (V × V))) (m2 : List V) (m3 : Int) : goK kcB true 4 fa36 0 (T36_0 x5 x6 m0 m1 m2 m3) = s36_0 x5 x6 m0 m1 m2 m3 := by kernel_rfl
theorem s36_0_run (x5 x6 : Int) (m0 : List V) (m1 : List (List (V × V))) (m2 : List V) (m3 : Int) {o o' : Out} (h : s36_0 x5 x6 m0 m1 m2 m3 = some o) (hg : Go kcB true 4 fa36 o o') : Go kcB true 4 fa36 (.head 0 (T36_0 x5 x6 m0 m1 m2 m3)) o' := .step ((s36_0_eq ..).trans h) hg
noncomputable def fa56 : FA := ⟨2, 50, [.tmp 4], [3],
 (.seq
 (.ops false [o1 4 (.assign (.const (.int .i64 (0)))) 3])
 (.seq
 (.seq
 (.ops false [mv 9 0 53, o1 10 (.nilCheck (t' 9)) 0, o1 11 (.fieldAddr 61 (t' 10) 0) 0, o1 12 (.load 58 (t' 11)) 58, mv 13 1 3, o1 14 (.lookup 58 (t' 12) (t' 13) true) 75, mv 8 14 75, o1 15 (.extract (t' 8) 0) 3, o1 16 (.extract (t' 8) 1) 4, asg 5 15 3, asg 6 16 4])
 (.seq
 (.ops false [mv 17 6 4, o1 18 (.unOp .not 4 (t' 17)) 4])
 (.cond (t' 18)
 (.seq
 (.ops false [mv 19 0 53, o1 20 (.nilCheck (t' 19)) 0, o1 21 (.fieldAddr 61 (t' 20) 1) 0, o1 22 (.load 59 (t' 21)) 59, o1 23 (.call ⟨(.builtin .len), #[(t' 22)], #[59]⟩) 3, asg 4 23 3])
 (.ret))
 (.skip))))
 (.seq
 (.ops false [o1 7 (.assign (.const (.int .i64 (0)))) 3])
 (.seq
 (.block 0
 (.loop ([1, 2, 3, 5, 6] ++ List.range' 8 42)
 (.seq
 (.seq
 (.ops true [mv 24 7 3, mv 25 0 53, o1 26 (.nilCheck (t' 25)) 0, o1 27 (.fieldAddr 61 (t' 26) 1) 0, o1 28 (.load 59 (t' 27)) 59, o1 29 (.call ⟨(.builtin .len), #[(t' 28)], #[59]⟩) 3, o1 30 (.binOp .lss 3 (t' 24) (t' 29) 3) 4, mv 31 30 4, o2 32 (.move (t' 0)) 53 31 true, o2 33 (.nilCheck (t' 32)) 0 31 true, o2 34 (.fieldAddr 61 (t' 33) 0) 0 31 true, o2 35 (.load 58 (t' 34)) 58 31 true, o2 36 (.move (t' 0)) 53 31 true, o2 37 (.nilCheck (t' 36)) 0 31 true, o2 38 (.fieldAddr 61 (t' 37) 1) 0 31 true, o2 39 (.load 59 (t' 38)) 59 31 true, o2 40 (.move (t' 7)) 3 31 true, o2 41 (.indexAddr 59 (t' 39) (t' 40)) 0 31 true, o2 42 (.fieldAddr 63 (t' 41) 0) 0 31 true, o2 43 (.load 3 (t' 42)) 3 31 true, o2 44 (.lookup 58 (t' 35) (t' 43) false) 3 31 true, o2 45 (.binOp .neq 3 (t' 44) (.const (.int .i64 (0))) 3) 4 31 true, o1 46 (.pick (t' 31) (t' 45) (.const (.bool false))) 4])
 (.cond (t' 46)
 (.skip)
 (.exit 0)))
 (.block 1
 (.ops false [mv 47 7 3, o1 48 (.binOp .add 3 (t' 47) (.const (.int .i64 (1))) 3) 3, asg 7 48 3])))))
 (.seq
 (.ops false [mv 49 7 3, asg 4 49 3])
 (.ret))))))⟩
theorem fa56_eq : fnA cfgB.P (cfgB.rxf 56) 56 = some fa56 := by kernel_rfl
def T56_0 (x0 : Nat) (x7 : Int) (m0 : List V) (m1 : List (List (V × V))) : S := ⟨[V.hp 61 x0 0, V.junk, V.junk, V.junk, V.int .i64 0, V.junk, V.junk, V.int .i64 x7] ++ (JU 42), [O.arena 61 m0, O.marena 58 m1]⟩
noncomputable def e56 (x0 : Nat) (x1 : Int) (m0 : List V) (m1 : List (List (V × V))) : R :=
  idxK m0 x0 fun v =>
  d61 v fun held queue =>
  idxK m1 held fun mm =>
  mfK mm (V.int .i64 x1)
 (idxK m0 x0 fun v_1 =>
  d61 v_1 fun held_1 queue_1 =>
  some (.doneM (V.int .i64 (queue_1.length : Int)) [O.arena 61 m0, O.marena 58 m1])) fun r =>
  kI .i64 r fun n =>
  some (.head 0 (T56_0 x0 0 m0 m1))
theorem e56_eq (x0 : Nat) (x1 : Int) (m0 : List V) (m1 : List (List (V × V))) : enterK kcB true fa56 [V.hp 61 x0 0, V.int .i64 x1] [O.arena 61 m0, O.marena 58 m1] = e56 x0 x1 m0 m1 := by kernel_rfl
theorem e56_run (x0 : Nat) (x1 : Int) (m0 : List V) (m1 : List (List (V × V))) {o : Out} {r : V × List O} (h : e56 x0 x1 m0 m1 = some o) (hg : GoN kcB 2 fa56 ⟨true, false⟩ [O.arena 61 m0, O.marena 58 m1] o r) : icC cfgB ⟨true, false⟩ 56 [V.hp 61 x0 0, V.int .i64 x1] [O.arena 61 m0, O.marena 58 m1] = some r := icC_go ikB rfl fa56_eq ((e56_eq ..).trans h) hg
noncomputable def s56_0 (x0 : Nat) (x7 : Int) (m0 : List V) (m1 : List (List (V × V))) : R :=
  idxK m0 x0 fun v =>
  d61 v fun held queue =>
  cond (decide (x7 < (queue.length : Int)))
 (idxK m0 x0 fun v_1 =>
  d61 v_1 fun held_1 queue_1 =>
  idxK m0 x0 fun v_2 =>
  d61 v_2 fun held_2 queue_2 =>
  gd (decide (0 <= x7)) <|
  idxK queue_2 x7.toNat fun v_3 =>
  d63 v_3 fun owner mode =>
  idxK m1 held_1 fun mm =>
  mfK mm (V.int .i64 owner)
 (some (.doneM (V.int .i64 x7) [O.arena 61 m0, O.marena 58 m1])) fun r =>
  kI .i64 r fun n =>
  cond (n != (0 : Int))
 (some (.head 0 (T56_0 x0 (W .i64 (x7 + 1)) m0 m1)))
 (some (.doneM (V.int .i64 x7) [O.arena 61 m0, O.marena 58 m1])))
 (some (.doneM (V.int .i64 x7) [O.arena 61 m0, O.marena 58 m1]))
theorem s56_0_eq (x0 : Nat) (x7 : Int) (m0 : List V) (m1 : List (List (V × V))) : goK kcB true 2 fa56 0 (T56_0 x0 x7 m0 m1) = s56_0 x0 x7 m0 m1 := by kernel_rfl
theorem s56_0_run (x0 : Nat) (x7 : Int) (m0 : List V) (m1 : List (List (V × V))) {o o' : Out} (h : s56_0 x0 x7 m0 m1 = some o) (hg : Go kcB true 2 fa56 o o') : Go kcB true 2 fa56 (.head 0 (T56_0 x0 x7 m0 m1)) o' := .step ((s56_0_eq ..).trans h) hg
noncomputable def fa57 : FA := ⟨2, 15, [.tmp 4], [4],
 (.seq
 (.ops false [o1 2 (.box 23 (t' 0)) 0, o1 4 (.assign (.const (.bool false))) 4])
 (.seq
 (.ops false [o1 7 (.makeMap 68 none) 68, o1 5 (.alloc 68) 0, o0 (.store 68 (t' 5) (t' 7)) 0])
 (.seq
 (.ops false [o1 6 (.alloc 99) 0])
 (.seq
 (.ops false [o1 8 (.makeFunc (.func 65) #[] #[(t' 2), (t' 5), (t' 6)]) 99, o0 (.store 99 (t' 6) (t' 8)) 0])
 (.seq
 (.ops false [o1 9 (.load 99 (t' 6)) 99, mv 10 1 3, o1 11 (.call ⟨(.value (t' 9)), #[(t' 10)], #[3]⟩) 0])
 (.seq
 (.ops false [o1 12 (.load 68 (t' 5)) 68, mv 13 1 3, o1 14 (.lookup 68 (t' 12) (t' 13) false) 4, asg 4 14 4])
 (.ret)))))))⟩
theorem fa57_eq : fnA cfgB.P (cfgB.rxf 57) 57 = some fa57 := by kernel_rfl
noncomputable def e57 (x1 : Int) (m0 : List V) (m1 : List (List (V × V))) (m3 m4 : List (V × V)) : R :=
  icM cfgB ⟨true, false⟩ mk65 65 [V.int .i64 x1, V.ptr 2 0 0, V.ptr 3 0 0, V.ptr 4 0 0] [O.arena 61 m0, O.marena 58 m1, O.box 23 (V.ptr 5 0 0) false, O.box 68 (V.mp 6) false, O.box 99 (V.fn 65 [V.ptr 2 0 0, V.ptr 3 0 0, V.ptr 4 0 0]) false, O.box 50 (V.agg [V.mp 7, V.mp 8]) false, O.map [], O.map m3, O.map m4] fun L =>
  mfK L.2.2.1 (V.int .i64 x1)
 (some (.doneM (V.bool false) [O.arena 61 L.1, O.marena 58 L.2.1, O.box 50 (V.agg [V.mp 3, V.mp 4]) false, O.map L.2.2.2.1, O.map L.2.2.2.2, O.box 23 (V.ptr 2 0 0) false, O.map L.2.2.1, O.box 68 (V.mp 6) false, O.box 99 (V.fn 65 [V.ptr 5 0 0, V.ptr 7 0 0, V.ptr 8 0 0]) false])) fun r =>
  kB r fun b =>
  some (.doneM (V.bool b) [O.arena 61 L.1, O.marena 58 L.2.1, O.box 50 (V.agg [V.mp 3, V.mp 4]) false, O.map L.2.2.2.1, O.map L.2.2.2.2, O.box 23 (V.ptr 2 0 0) false, O.map L.2.2.1, O.box 68 (V.mp 6) false, O.box 99 (V.fn 65 [V.ptr 5 0 0, V.ptr 7 0 0, V.ptr 8 0 0]) false])
theorem e57_eq (x1 : Int) (m0 : List V) (m1 : List (List (V × V))) (m3 m4 : List (V × V)) : enterK kcB true fa57 [V.ptr 2 0 0, V.int .i64 x1] (tm m0 m1 m3 m4) = e57 x1 m0 m1 m3 m4 := by kernel_rfl
theorem e57_run (x1 : Int) (m0 : List V) (m1 : List (List (V × V))) (m3 m4 : List (V × V)) {o : Out} {r : V × List O} (h : e57 x1 m0 m1 m3 m4 = some o) (hg : GoN kcB 5 fa57 ⟨true, false⟩ (tm m0 m1 m3 m4) o r) : icC cfgB ⟨true, false⟩ 57 [V.ptr 2 0 0, V.int .i64 x1] (tm m0 m1 m3 m4) = some r := icC_go ikB rfl fa57_eq ((e57_eq ..).trans h) hg
noncomputable def fa54 : FA := ⟨2, 34, [], [],
 (.seq
 (.ops false [mv 5 0 23, o1 6 (.nilCheck (t' 5)) 0, o1 7 (.fieldAddr 50 (t' 6) 0) 0, o1 8 (.load 47 (t' 7)) 47, mv 9 1 9, o1 10 (.lookup 47 (t' 8) (t' 9) false) 53, asg 4 10 53])
 (.seq
 (.ops false [mv 11 4 53, o1 12 (.binOp .neq 53 (t' 11) (.const (.pointer none)) 53) 4, mv 13 12 4, o2 14 (.move (t' 4)) 53 13 true, o2 15 (.nilCheck (t' 14)) 0 13 true, o2 16 (.fieldAddr 61 (t' 15) 0) 0 13 true, o2 17 (.load 58 (t' 16)) 58 13 true, o2 18 (.call ⟨(.builtin .len), #[(t' 17)], #[58]⟩) 3 13 true, o2 19 (.binOp .eql 3 (t' 18) (.const (.int .i64 (0))) 3) 4 13 true, o1 20 (.pick (t' 13) (t' 19) (.const (.bool false))) 4, mv 21 20 4, o2 22 (.move (t' 4)) 53 21 true, o2 23 (.nilCheck (t' 22)) 0 21 true, o2 24 (.fieldAddr 61 (t' 23) 1) 0 21 true, o2 25 (.load 59 (t' 24)) 59 21 true, o2 26 (.call ⟨(.builtin .len), #[(t' 25)], #[59]⟩) 3 21 true, o2 27 (.binOp .eql 3 (t' 26) (.const (.int .i64 (0))) 3) 4 21 true, o1 28 (.pick (t' 21) (t' 27) (.const (.bool false))) 4])
 (.cond (t' 28)
 (.ops false [mv 29 0 23, o1 30 (.nilCheck (t' 29)) 0, o1 31 (.fieldAddr 50 (t' 30) 0) 0, o1 32 (.load 47 (t' 31)) 47, mv 33 1 9, o0 (.call ⟨(.builtin .delete), #[(t' 32), (t' 33)], #[47, 9]⟩) 0])
 (.skip))))⟩
theorem fa54_eq : fnA cfgB.P (cfgB.rxf 54) 54 = some fa54 := by kernel_rfl
noncomputable def e54 (x1 : List UInt8) (m0 : List V) (m1 : List (List (V × V))) (m3 m4 : List (V × V)) : R :=
  mfK m3 (V.str x1)
 (some (.doneM (V.tup []) (tm m0 m1 m3 m4))) fun r =>
  kP 61 r fun p =>
  idxK m0 p fun v =>
  d61 v fun held queue =>
  idxK m1 held fun mm =>
  cond ((mm.length : Int) == (0 : Int))
 (idxK m0 p fun v_1 =>
  d61 v_1 fun held_1 queue_1 =>
  cond ((queue_1.length : Int) == (0 : Int))
 (opt (mapDel m3 (V.str x1)) fun es =>
  some (.doneM (V.tup []) (tm m0 m1 es m4)))
 (some (.doneM (V.tup []) (tm m0 m1 m3 m4))))
 (some (.doneM (V.tup []) (tm m0 m1 m3 m4)))
theorem e54_eq (x1 : List UInt8) (m0 : List V) (m1 : List (List (V × V))) (m3 m4 : List (V × V)) : enterK kcB true fa54 [V.ptr 2 0 0, V.str x1] (tm m0 m1 m3 m4) = e54 x1 m0 m1 m3 m4 := by kernel_rfl
theorem e54_run (x1 : List UInt8) (m0 : List V) (m1 : List (List (V × V))) (m3 m4 : List (V × V)) {o : Out} {r : V × List O} (h : e54 x1 m0 m1 m3 m4 = some o) (hg : GoN kcB 5 fa54 ⟨true, false⟩ (tm m0 m1 m3 m4) o r) : icC cfgB ⟨true, false⟩ 54 [V.ptr 2 0 0, V.str x1] (tm m0 m1 m3 m4) = some r := icC_go ikB rfl fa54_eq ((e54_eq ..).trans h) hg
noncomputable def fa65 : FA := ⟨4, 25, [], [],
 (.seq
 (.ops false [o1 7 (.load 23 (t' 1)) 23, mv 8 0 3, o1 9 (.call ⟨(.value (.func 16)), #[(t' 7), (t' 8)], #[23, 3]⟩) 28, o1 10 (.call ⟨(.builtin .len), #[(t' 9)], #[28]⟩) 3, o1 11 (.move (.const (.int .i64 (0)))) 3])
 (.block 0
 (.loop ([0, 1] ++ List.range' 4 5 ++ List.range' 12 13)
 (.seq
 (.ops false [o1 12 (.binOp .lss 3 (t' 11) (t' 10) 3) 0])
 (.seq
 (.cond (t' 12)
 (.skip)
 (.exit 0))
 (.seq
 (.block 1
 (.seq
 (.ops false [o1 13 (.indexAddr 28 (t' 9) (t' 11)) 0, o1 14 (.load 3 (t' 13)) 3, asg 6 14 3])
 (.seq
 (.ops false [o1 15 (.load 68 (t' 2)) 68, mv 16 6 3, o1 17 (.lookup 68 (t' 15) (t' 16) false) 4, o1 18 (.unOp .not 4 (t' 17)) 4])
 (.cond (t' 18)
 (.seq
 (.ops false [o1 19 (.load 68 (t' 2)) 68, mv 20 6 3, o0 (.mapUpdate 68 (t' 19) (t' 20) (.const (.bool true))) 0])
 (.ops false [o1 21 (.load 99 (t' 3)) 99, mv 22 6 3, o1 23 (.call ⟨(.value (t' 21)), #[(t' 22)], #[3]⟩) 0]))
 (.skip)))))
 (.ops false [o1 24 (.binOp .add 3 (t' 11) (.const (.int .i64 (1))) 3) 3, mv 11 24 3])))))))⟩
theorem fa65_eq : fnA cfgB.P (cfgB.rxf 65) 65 = some fa65 := by kernel_rfl
def T65_0 (x10 x11 : Int) (m0 : List V) (m1 : List (List (V × V))) (m6 m7 m8 : List (V × V)) (m9 : List V) : S := ⟨[V.junk, V.junk, V.ptr 3 0 0, V.ptr 4 0 0] ++ (JU 5) ++ [V.own 9, V.int .i64 x10, V.int .i64 x11] ++ (JU 13), [O.arena 61 m0, O.marena 58 m1, O.box 23 (V.ptr 5 0 0) false, O.box 68 (V.mp 6) false, O.box 99 (V.fn 65 [V.ptr 2 0 0, V.ptr 3 0 0, V.ptr 4 0 0]) false, O.box 50 (V.agg [V.mp 7, V.mp 8]) false, O.map m6, O.map m7, O.map m8, O.row 3 m9 0]⟩
noncomputable def e65 (x0 : Int) (m0 : List V) (m1 : List (List (V × V))) (m6 m7 m8 : List (V × V)) : R :=
  opt (behindX m0 m1 m7 m8 x0) fun l =>
  some (.head 0 (T65_0 ((l.map iV).length : Int) 0 m0 m1 m6 m7 m8 (l.map iV)))
theorem e65_eq (x0 : Int) (m0 : List V) (m1 : List (List (V × V))) (m6 m7 m8 : List (V × V)) : enterK kcB true fa65 [V.int .i64 x0, V.ptr 2 0 0, V.ptr 3 0 0, V.ptr 4 0 0] [O.arena 61 m0, O.marena 58 m1, O.box 23 (V.ptr 5 0 0) false, O.box 68 (V.mp 6) false, O.box 99 (V.fn 65 [V.ptr 2 0 0, V.ptr 3 0 0, V.ptr 4 0 0]) false, O.box 50 (V.agg [V.mp 7, V.mp 8]) false, O.map m6, O.map m7, O.map m8] = e65 x0 m0 m1 m6 m7 m8 := by kernel_rfl
theorem e65_run (x0 : Int) (m0 : List V) (m1 : List (List (V × V))) (m6 m7 m8 : List (V × V)) {o : Out} {r : V × List O} (h : e65 x0 m0 m1 m6 m7 m8 = some o) (hg : GoN kcB 9 fa65 ⟨true, false⟩ [O.arena 61 m0, O.marena 58 m1, O.box 23 (V.ptr 5 0 0) false, O.box 68 (V.mp 6) false, O.box 99 (V.fn 65 [V.ptr 2 0 0, V.ptr 3 0 0, V.ptr 4 0 0]) false, O.box 50 (V.agg [V.mp 7, V.mp 8]) false, O.map m6, O.map m7, O.map m8] o r) : icC cfgB ⟨true, false⟩ 65 [V.int .i64 x0, V.ptr 2 0 0, V.ptr 3 0 0, V.ptr 4 0 0] [O.arena 61 m0, O.marena 58 m1, O.box 23 (V.ptr 5 0 0) false, O.box 68 (V.mp 6) false, O.box 99 (V.fn 65 [V.ptr 2 0 0, V.ptr 3 0 0, V.ptr 4 0 0]) false, O.box 50 (V.agg [V.mp 7, V.mp 8]) false, O.map m6, O.map m7, O.map m8] = some r := icC_go ikB rfl fa65_eq ((e65_eq ..).trans h) hg
noncomputable def s65_0 (x10 x11 : Int) (m0 : List V) (m1 : List (List (V × V))) (m6 m7 m8 : List (V × V)) (m9 : List V) : R :=
  cond (decide (x11 < x10))
 (gd (decide (0 <= x11)) <|
  gd (decide (x11.toNat < m9.length)) <|
  idxK m9 x11.toNat fun v =>
  kI .i64 v fun n =>
  mfK m6 (V.int .i64 n)
 (opt (mapPut m6 (V.int .i64 n) (V.bool true)) fun es =>
  icM cfgB ⟨true, false⟩ mk65 65 [V.int .i64 n, V.ptr 2 0 0, V.ptr 3 0 0, V.ptr 4 0 0] [O.arena 61 m0, O.marena 58 m1, O.box 23 (V.ptr 5 0 0) false, O.box 68 (V.mp 6) false, O.box 99 (V.fn 65 [V.ptr 2 0 0, V.ptr 3 0 0, V.ptr 4 0 0]) false, O.box 50 (V.agg [V.mp 7, V.mp 8]) false, O.map es, O.map m7, O.map m8] fun L =>
  some (.head 0 (T65_0 x10 (W .i64 (x11 + 1)) L.1 L.2.1 L.2.2.1 L.2.2.2.1 L.2.2.2.2 m9))) fun r =>
  kB r fun b =>
  cond (!b)
 (opt (mapPut m6 (V.int .i64 n) (V.bool true)) fun es_1 =>
  icM cfgB ⟨true, false⟩ mk65 65 [V.int .i64 n, V.ptr 2 0 0, V.ptr 3 0 0, V.ptr 4 0 0] [O.arena 61 m0, O.marena 58 m1, O.box 23 (V.ptr 5 0 0) false, O.box 68 (V.mp 6) false, O.box 99 (V.fn 65 [V.ptr 2 0 0, V.ptr 3 0 0, V.ptr 4 0 0]) false, O.box 50 (V.agg [V.mp 7, V.mp 8]) false, O.map es_1, O.map m7, O.map m8] fun L_1 =>
  some (.head 0 (T65_0 x10 (W .i64 (x11 + 1)) L_1.1 L_1.2.1 L_1.2.2.1 L_1.2.2.2.1 L_1.2.2.2.2 m9)))
 (some (.head 0 (T65_0 x10 (W .i64 (x11 + 1)) m0 m1 m6 m7 m8 m9))))
 (some (.doneM (V.tup []) [O.arena 61 m0, O.marena 58 m1, O.box 23 (V.ptr 5 0 0) false, O.box 68 (V.mp 6) false, O.box 99 (V.fn 65 [V.ptr 2 0 0, V.ptr 3 0 0, V.ptr 4 0 0]) false, O.box 50 (V.agg [V.mp 7, V.mp 8]) false, O.map m6, O.map m7, O.map m8, O.row 3 m9 0]))
theorem s65_0_eq (x10 x11 : Int) (m0 : List V) (m1 : List (List (V × V))) (m6 m7 m8 : List (V × V)) (m9 : List V) : goK kcB true 9 fa65 0 (T65_0 x10 x11 m0 m1 m6 m7 m8 m9) = s65_0 x10 x11 m0 m1 m6 m7 m8 m9 := by kernel_rfl
theorem s65_0_run (x10 x11 : Int) (m0 : List V) (m1 : List (List (V × V))) (m6 m7 m8 : List (V × V)) (m9 : List V) {o o' : Out} (h : s65_0 x10 x11 m0 m1 m6 m7 m8 m9 = some o) (hg : Go kcB true 9 fa65 o o') : Go kcB true 9 fa65 (.head 0 (T65_0 x10 x11 m0 m1 m6 m7 m8 m9)) o' := .step ((s65_0_eq ..).trans h) hg
noncomputable def fa30 : FA := ⟨2, 8, [.tmp 3], [4],
 (.seq
 (.ops false [o1 2 (.box 63 (t' 0)) 0, o1 3 (.assign (.const (.bool false))) 4])
 (.seq
 (.ops false [o1 4 (.fieldAddr 63 (t' 2) 0) 0, o1 5 (.load 3 (t' 4)) 3, o1 6 (.load 3 (t' 1)) 3, o1 7 (.binOp .eql 3 (t' 5) (t' 6) 3) 4, asg 3 7 4])
 (.ret)))⟩
theorem fa30_eq : fnA cfgB.P (cfgB.rxf 30) 30 = some fa30 := by kernel_rfl
noncomputable def e30 (a0owner a0mode c0 : Int) : R :=
  some (.done (V.bool (a0owner == c0)))
theorem e30_eq (a0owner a0mode c0 : Int) : enterK kcB false fa30 [V.agg [V.int .i64 a0owner, V.int .i64 a0mode], V.ref (V.int .i64 c0) 0] [] = e30 a0owner a0mode c0 := by kernel_rfl
theorem e30_run (a0owner a0mode c0 : Int) {o : Out} {v : V} (h : e30 a0owner a0mode c0 = some o) (hg : Go kcB false 0 fa30 o (.done v)) : pcW cfgB 30 [V.agg [V.int .i64 a0owner, V.int .i64 a0mode], V.ref (V.int .i64 c0) 0] = some v := pcW_go ikB rfl fa30_eq ((e30_eq ..).trans h) hg
theorem e30_done (a0owner a0mode c0 : Int) {v : V} (h : e30 a0owner a0mode c0 = some (.done v)) : pcW cfgB 30 [V.agg [V.int .i64 a0owner, V.int .i64 a0mode], V.ref (V.int .i64 c0) 0] = some v := e30_run a0owner a0mode c0 h (.refl _)
noncomputable def fa38 : FA := ⟨2, 8, [.tmp 3], [4],
 (.seq
 (.ops false [o1 2 (.box 63 (t' 0)) 0, o1 3 (.assign (.const (.bool false))) 4])
 (.seq
 (.ops false [o1 4 (.fieldAddr 63 (t' 2) 0) 0, o1 5 (.load 3 (t' 4)) 3, o1 6 (.load 3 (t' 1)) 3, o1 7 (.binOp .eql 3 (t' 5) (t' 6) 3) 4, asg 3 7 4])
 (.ret)))⟩
theorem fa38_eq : fnA cfgB.P (cfgB.rxf 38) 38 = some fa38 := by kernel_rfl
noncomputable def e38 (a0owner a0mode c0 : Int) : R :=
  some (.done (V.bool (a0owner == c0)))
theorem e38_eq (a0owner a0mode c0 : Int) : enterK kcB false fa38 [V.agg [V.int .i64 a0owner, V.int .i64 a0mode], V.ref (V.int .i64 c0) 0] [] = e38 a0owner a0mode c0 := by kernel_rfl
theorem e38_run (a0owner a0mode c0 : Int) {o : Out} {v : V} (h : e38 a0owner a0mode c0 = some o) (hg : Go kcB false 0 fa38 o (.done v)) : pcW cfgB 38 [V.agg [V.int .i64 a0owner, V.int .i64 a0mode], V.ref (V.int .i64 c0) 0] = some v := pcW_go ikB rfl fa38_eq ((e38_eq ..).trans h) hg
theorem e38_done (a0owner a0mode c0 : Int) {v : V} (h : e38 a0owner a0mode c0 = some (.done v)) : pcW cfgB 38 [V.agg [V.int .i64 a0owner, V.int .i64 a0mode], V.ref (V.int .i64 c0) 0] = some v := e38_run a0owner a0mode c0 h (.refl _)
noncomputable def fa29 : FA := ⟨2, 19, [.tmp 4], [3],
 (.seq
 (.ops false [o1 4 (.assign (.const (.int .i64 (0)))) 3])
 (.seq
 (.seq
 (.ops false [mv 6 0 59, o1 7 (.call ⟨(.builtin .len), #[(t' 6)], #[59]⟩) 3, o1 8 (.move (.const (.int .i64 (0)))) 3])
 (.block 0
 (.loop ([2, 3, 5, 6] ++ List.range' 9 10)
 (.seq
 (.ops false [o1 9 (.binOp .lss 3 (t' 8) (t' 7) 3) 0])
 (.seq
 (.cond (t' 9)
 (.skip)
 (.exit 0))
 (.seq
 (.block 1
 (.seq
 (.ops false [mv 10 8 3, asg 5 10 3])
 (.seq
 (.ops false [mv 11 1 67, mv 12 0 59, mv 13 5 3, o1 14 (.indexAddr 59 (t' 12) (t' 13)) 0, o1 15 (.load 63 (t' 14)) 63, o1 16 (.call ⟨(.value (t' 11)), #[(t' 15)], #[63]⟩) 4])
 (.cond (t' 16)
 (.seq
 (.ops false [mv 17 5 3, asg 4 17 3])
 (.ret))
 (.skip)))))
 (.ops false [o1 18 (.binOp .add 3 (t' 8) (.const (.int .i64 (1))) 3) 3, mv 8 18 3])))))))
 (.seq
 (.ops false [o1 4 (.assign (.const (.int .i64 (-1)))) 3])
 (.ret))))⟩
theorem fa29_eq : fnA cfgB.P (cfgB.rxf 29) 29 = some fa29 := by kernel_rfl
def T29a_0 (x0 : List V) (x1 x7 x8 : Int) : S := ⟨[V.sl x0, V.fn 30 [V.ref (V.int .i64 x1) 0], V.junk, V.junk, V.int .i64 0, V.junk, V.junk, V.int .i64 x7, V.int .i64 x8] ++ (JU 10), []⟩
noncomputable def e29a (a0 : List V) (c0 : Int) : R :=
  some (.head 0 (T29a_0 a0 c0 (a0.length : Int) 0))
theorem e29a_eq (a0 : List V) (c0 : Int) : enterK kcB false fa29 [V.sl a0, V.fn 30 [V.ref (V.int .i64 c0) 0]] [] = e29a a0 c0 := by kernel_rfl
theorem e29a_run (a0 : List V) (c0 : Int) {o : Out} {v : V} (h : e29a a0 c0 = some o) (hg : Go kcB false 0 fa29 o (.done v)) : pcW cfgB 29 [V.sl a0, V.fn 30 [V.ref (V.int .i64 c0) 0]] = some v := pcW_go ikB rfl fa29_eq ((e29a_eq ..).trans h) hg
noncomputable def s29a_0 (x0 : List V) (x1 x7 x8 : Int) : R :=
  cond (decide (x8 < x7))
 (gd (decide (0 <= x8)) <|
  idxK x0 x8.toNat fun v =>
  d63 v fun owner mode =>
  pcK cfgB 30 [V.agg [V.int .i64 owner, V.int .i64 mode], V.ref (V.int .i64 x1) 0] fun r =>
  kB r fun r30 =>
  cond r30
 (some (.done (V.int .i64 x8)))
 (some (.head 0 (T29a_0 x0 x1 x7 (W .i64 (x8 + 1))))))
 (some (.done (V.int .i64 (-1))))
theorem s29a_0_eq (x0 : List V) (x1 x7 x8 : Int) : goK kcB false 0 fa29 0 (T29a_0 x0 x1 x7 x8) = s29a_0 x0 x1 x7 x8 := by kernel_rfl
theorem s29a_0_run (x0 : List V) (x1 x7 x8 : Int) {o o' : Out} (h : s29a_0 x0 x1 x7 x8 = some o) (hg : Go kcB false 0 fa29 o o') : Go kcB false 0 fa29 (.head 0 (T29a_0 x0 x1 x7 x8)) o' := .step ((s29a_0_eq ..).trans h) hg
def T29b_0 (x0 : List V) (x1 x7 x8 : Int) : S := ⟨[V.sl x0, V.fn 38 [V.ref (V.int .i64 x1) 0], V.junk, V.junk, V.int .i64 0, V.junk, V.junk, V.int .i64 x7, V.int .i64 x8] ++ (JU 10), []⟩
noncomputable def e29b (a0 : List V) (c0 : Int) : R :=
  some (.head 0 (T29b_0 a0 c0 (a0.length : Int) 0))
theorem e29b_eq (a0 : List V) (c0 : Int) : enterK kcB false fa29 [V.sl a0, V.fn 38 [V.ref (V.int .i64 c0) 0]] [] = e29b a0 c0 := by kernel_rfl
theorem e29b_run (a0 : List V) (c0 : Int) {o : Out} {v : V} (h : e29b a0 c0 = some o) (hg : Go kcB false 0 fa29 o (.done v)) : pcW cfgB 29 [V.sl a0, V.fn 38 [V.ref (V.int .i64 c0) 0]] = some v := pcW_go ikB rfl fa29_eq ((e29b_eq ..).trans h) hg
noncomputable def s29b_0 (x0 : List V) (x1 x7 x8 : Int) : R :=
  cond (decide (x8 < x7))
 (gd (decide (0 <= x8)) <|
  idxK x0 x8.toNat fun v =>
  d63 v fun owner mode =>
  pcK cfgB 38 [V.agg [V.int .i64 owner, V.int .i64 mode], V.ref (V.int .i64 x1) 0] fun r =>
  kB r fun r38 =>
  cond r38
 (some (.done (V.int .i64 x8)))
 (some (.head 0 (T29b_0 x0 x1 x7 (W .i64 (x8 + 1))))))
 (some (.done (V.int .i64 (-1))))
theorem s29b_0_eq (x0 : List V) (x1 x7 x8 : Int) : goK kcB false 0 fa29 0 (T29b_0 x0 x1 x7 x8) = s29b_0 x0 x1 x7 x8 := by kernel_rfl
theorem s29b_0_run (x0 : List V) (x1 x7 x8 : Int) {o o' : Out} (h : s29b_0 x0 x1 x7 x8 = some o) (hg : Go kcB false 0 fa29 o o') : Go kcB false 0 fa29 (.head 0 (T29b_0 x0 x1 x7 x8)) o' := .step ((s29b_0_eq ..).trans h) hg
set_option linter.unusedSimpArgs false
set_option linter.unnecessarySimpa false
set_option maxRecDepth 10000
abbrev HQ := List (Int × Int)
structure Lk where
  nm : Bs
  held : HQ
  q : HQ
abbrev WL := List (Int × Bs)
def getA {α : Type} (l : List (Int × α)) (o : Int) : Option α := (l.find? fun p => p.1 == o).map (·.2)
def putA {α : Type} : List (Int × α) -> Int -> α -> List (Int × α)
  | [], o, a => [(o, a)]
  | p :: l, o, a => if o == p.1 then (p.1, a) :: l else p :: putA l o a
def delA {α : Type} : List (Int × α) -> Int -> List (Int × α)
  | [], _ => []
  | p :: l, o => if o == p.1 then l else p :: delA l o
def aE {α : Type} (g : α -> V) (p : Int × α) : V × V := (.int .i64 p.1, g p.2)
theorem getA_cons {α : Type} (p : Int × α) (l : List (Int × α)) (o : Int) : getA (p :: l) o = if p.1 = o then some p.2 else getA l o := by
  unfold getA
  rw [List.find?_cons]
  by_cases h : p.1 = o
  · simp [h]
  · rw [show (p.1 == o) = false by simpa using h, if_neg h]
theorem mf_a {α : Type} (g : α -> V) (o : Int) : ∀ l : List (Int × α), mapFind (l.map (aE g)) (.int .i64 o) = some ((getA l o).map g)
  | [] => rfl
  | p :: l => by
    rw [getA_cons]
    show ((eq1 (.int .i64 o) (.int .i64 p.1)).bind fun b => if b then some (some (g p.2)) else mapFind (l.map (aE g)) (.int .i64 o)) = _
    rw [show eq1 (.int .i64 o) (.int .i64 p.1) = some (o == p.1) from rfl, Option.bind_some]
    by_cases h : p.1 = o
    · rw [if_pos (by simp [h]), if_pos h]; rfl
    · rw [if_neg (by simpa using fun e => h e.symm), if_neg h]; exact mf_a g o l
theorem put_a {α : Type} (g : α -> V) (o : Int) (a : α) : ∀ l : List (Int × α), mapPut (l.map (aE g)) (.int .i64 o) (g a) = some ((putA l o a).map (aE g))
  | [] => rfl
  | p :: l => by
    show ((eq1 (.int .i64 o) (.int .i64 p.1)).bind fun b => if b then some ((V.int .i64 p.1, g a) :: l.map (aE g)) else (mapPut (l.map (aE g)) (.int .i64 o) (g a)).map (aE g p :: ·)) = _
    rw [show eq1 (.int .i64 o) (.int .i64 p.1) = some (o == p.1) from rfl, Option.bind_some]
    unfold putA
    by_cases h : (o == p.1) = true
    · rw [if_pos h, if_pos h]; rfl
    · rw [if_neg h, if_neg h, put_a g o a l]; rfl
theorem del_a {α : Type} (g : α -> V) (o : Int) : ∀ l : List (Int × α), mapDel (l.map (aE g)) (.int .i64 o) = some ((delA l o).map (aE g))
  | [] => rfl
  | p :: l => by
    show ((eq1 (.int .i64 o) (.int .i64 p.1)).bind fun b => if b then some (l.map (aE g)) else (mapDel (l.map (aE g)) (.int .i64 o)).map (aE g p :: ·)) = _
    rw [show eq1 (.int .i64 o) (.int .i64 p.1) = some (o == p.1) from rfl, Option.bind_some]
    unfold delA
    by_cases h : (o == p.1) = true
    · rw [if_pos h, if_pos h]
    · rw [if_neg h, if_neg h, del_a g o l]; rfl
def elimK {α : Type} (x : Option α) (kn : R) (k : α -> R) : R := match x with | none => kn | some a => k a
theorem elimK_n {α : Type} (kn : R) (k : α -> R) : elimK none kn k = kn := rfl
theorem elimK_s {α : Type} (a : α) (kn : R) (k : α -> R) : elimK (some a) kn k = k a := rfl
theorem mfK_a {α : Type} (g : α -> V) (o : Int) (l : List (Int × α)) (kn : R) (k : V -> R) : mfK (l.map (aE g)) (.int .i64 o) kn k = elimK (getA l o) kn fun a => k (g a) := by
  unfold mfK
  rw [mf_a]
  cases getA l o <;> rfl
abbrev hE : Int × Int -> V × V := aE (V.int .i64)
abbrev wE : Int × Bs -> V × V := aE V.str
def pV (p : Int × Int) : V := .agg [.int .i64 p.1, .int .i64 p.2]
theorem heldOf_h : ∀ l : HQ, heldOf (l.map hE) = some l
  | [] => rfl
  | p :: l => by
    have := heldOf_h l
    unfold heldOf at this |-
    rw [List.map_cons]
    simp only [mapO, this]
    rfl
theorem waitsOf_q : ∀ l : HQ, waitsOf (l.map pV) = some l
  | [] => rfl
  | p :: l => by
    have := waitsOf_q l
    unfold waitsOf at this |-
    rw [List.map_cons]
    simp only [mapO, this]
    rfl
def lkV (k : Nat) (e : Lk) : V := .agg [.hm 58 k, .sl (e.q.map pV)]
def ent (ix : Bs -> Nat) (nm : Bs) : V × V := (.str nm, .hp 61 (ix nm) 0)
def nms (L : List Lk) : List Bs := L.map Lk.nm
structure Rep (els : List V) (ms : List (List (V × V))) (lk ws : List (V × V)) (ix : Bs -> Nat) (L : List Lk) (W : WL) : Prop where
  lk : lk = (nms L).map (ent ix)
  ws : ws = W.map wE
  hl : ∀ e ∈ L, els[ix e.nm]? = some (lkV (ix e.nm) e)
  hm : ∀ e ∈ L, ms[ix e.nm]? = some (e.held.map hE)
  len : els.length = ms.length
  inj : ∀ e ∈ L, ∀ f ∈ L, ix e.nm = ix f.nm -> e.nm = f.nm
  nd : (nms L).Nodup
  nml : ∀ e ∈ L, Nm e.nm
def getL (L : List Lk) (nm : Bs) : Option Lk := L.find? fun e => e.nm == nm
theorem getL_some {L : List Lk} {nm : Bs} {e : Lk} (h : getL L nm = some e) : e ∈ L /\ e.nm = nm := ⟨List.mem_of_find?_eq_some h, by simpa using List.find?_some h⟩
theorem getL_none {L : List Lk} {nm : Bs} (h : getL L nm = none) : nm ∉ nms L := by
  intro hp
  obtain ⟨x, hx, e⟩ := List.mem_map.1 hp
  exact List.find?_eq_none.1 h x hx (by simp [e])
theorem getL_of {L : List Lk} (hn : (nms L).Nodup) {e : Lk} (he : e ∈ L) : getL L e.nm = some e := by
  induction L with
  | nil => cases he
  | cons y L ih =>
    unfold getL
    rw [List.find?_cons]
    by_cases h : y.nm = e.nm
    · rw [show (y.nm == e.nm) = true by simp [h]]
      rcases List.mem_cons.1 he with rfl | hx
      · rfl
      · exact absurd (List.mem_map.2 ⟨e, hx, rfl⟩) (h ▸ (List.nodup_cons.1 hn).1)
    · rw [show (y.nm == e.nm) = false by simpa using h]
      rcases List.mem_cons.1 he with rfl | hx
      · exact absurd rfl h
      · exact ih (List.nodup_cons.1 hn).2 hx
theorem eqs (a b : Bs) : eq1 (.str a) (.str b) = some (a == b) := rfl
theorem mf_in {ix : Bs -> Nat} {n : Bs} : ∀ {ks : List Bs}, n ∈ ks -> mapFind (ks.map (ent ix)) (.str n) = some (some (.hp 61 (ix n) 0))
  | [], h => nomatch h
  | q :: ks, h => by
    show ((eq1 (.str n) (.str q)).bind fun b => if b then some (some (V.hp 61 (ix q) 0)) else mapFind (ks.map (ent ix)) (.str n)) = _
    rw [eqs, Option.bind_some]
    by_cases hpq : n = q
    · subst hpq; rw [if_pos (by simp)]
    · rw [if_neg (by simpa using hpq)]; exact mf_in (by simpa [hpq] using h)
theorem mf_out {ix : Bs -> Nat} {n : Bs} : ∀ {ks : List Bs}, n ∉ ks -> mapFind (ks.map (ent ix)) (.str n) = some none
  | [], h => rfl
  | q :: ks, h => by
    show ((eq1 (.str n) (.str q)).bind fun b => if b then some (some (V.hp 61 (ix q) 0)) else mapFind (ks.map (ent ix)) (.str n)) = _
    have hpq : ¬ n = q := by rintro rfl; exact h (by simp)
    rw [eqs, Option.bind_some, if_neg (by simpa using hpq)]
    exact mf_out fun hk => h (by simp [hk])
theorem put_out {ix : Bs -> Nat} {n : Bs} {v : V} : ∀ {ks : List Bs}, n ∉ ks -> mapPut (ks.map (ent ix)) (.str n) v = some (ks.map (ent ix) ++ [(.str n, v)])
  | [], h => rfl
  | q :: ks, h => by
    show ((eq1 (.str n) (.str q)).bind fun b => if b then some ((V.str q, v) :: ks.map (ent ix)) else (mapPut (ks.map (ent ix)) (.str n) v).map (ent ix q :: ·)) = _
    have hpq : ¬ n = q := by rintro rfl; exact h (by simp)
    rw [eqs, Option.bind_some, if_neg (by simpa using hpq), put_out fun hk => h (by simp [hk])]
    rfl
theorem del_in {ix : Bs -> Nat} {n : Bs} : ∀ {ks : List Bs}, mapDel (ks.map (ent ix)) (.str n) = some ((ks.erase n).map (ent ix))
  | [] => rfl
  | q :: ks => by
    show ((eq1 (.str n) (.str q)).bind fun b => if b then some (ks.map (ent ix)) else (mapDel (ks.map (ent ix)) (.str n)).map (ent ix q :: ·)) = _
    rw [eqs, Option.bind_some]
    by_cases hpq : n = q
    · subst hpq; rw [if_pos (by simp)]; simp
    · rw [if_neg (by simpa using hpq), del_in, List.erase_cons_tail (by simpa using fun h => hpq h.symm)]; rfl
theorem dL (k : Nat) (e : Lk) (f : Nat -> List V -> R) : d61 (lkV k e) f = f k (e.q.map pV) := rfl
theorem dP (p : Int × Int) (f : Int -> Int -> R) : d63 (pV p) f = f p.1 p.2 := rfl
section
variable {els : List V} {ms : List (List (V × V))} {lk ws : List (V × V)} {ix : Bs -> Nat} {L : List Lk} {W : WL} {nm : Bs} {e : Lk}
theorem Rep.mf (h : Rep els ms lk ws ix L W) (he : getL L nm = some e) (kn : R) (k : V -> R) : mfK lk (.str nm) kn k = k (.hp 61 (ix nm) 0) := by
  obtain ⟨h1, h2⟩ := getL_some he
  unfold mfK
  rw [h.lk, mf_in (show nm ∈ nms L from List.mem_map.2 ⟨e, h1, h2⟩)]
theorem Rep.mn (h : Rep els ms lk ws ix L W) (he : getL L nm = none) (kn : R) (k : V -> R) : mfK lk (.str nm) kn k = kn := by
  unfold mfK
  rw [h.lk, mf_out (getL_none he)]
theorem Rep.ax (h : Rep els ms lk ws ix L W) (he : getL L nm = some e) (k : V -> R) : idxK els (ix nm) k = k (lkV (ix nm) e) := by
  obtain ⟨h1, h2⟩ := getL_some he
  exact idxK_of (h2 ▸ h.hl e h1)
theorem Rep.mx (h : Rep els ms lk ws ix L W) (he : getL L nm = some e) (k : List (V × V) -> R) : idxK ms (ix nm) k = k (e.held.map hE) := by
  obtain ⟨h1, h2⟩ := getL_some he
  exact idxK_of (h2 ▸ h.hm e h1)
theorem Rep.can (h : Rep els ms lk ws ix L W) (he : getL L nm = some e) (o m : Int) : canX els ms (ix nm) o m = some (canB e.held o m) := by
  obtain ⟨h1, h2⟩ := getL_some he
  have a := h.hl e h1
  have b := h.hm e h1
  rw [h2] at a b
  unfold canX lockX
  rw [a]
  simp only [lkV, b, Option.map_some, Option.bind_some, heldOf_h]
theorem Rep.wf (h : Rep els ms lk ws ix L W) (o : Int) (kn : R) (k : V -> R) : mfK ws (.int .i64 o) kn k = elimK (getA W o) kn fun a => k (.str a) := by
  rw [h.ws, mfK_a]
def updL (L : List Lk) (nm : Bs) (f : Lk -> Lk) : List Lk := L.map fun e => if e.nm = nm then f e else e
theorem nms_upd {f : Lk -> Lk} (hf : ∀ e, (f e).nm = e.nm) : nms (updL L nm f) = nms L := by
  unfold nms updL
  rw [List.map_map]
  apply List.map_congr_left
  intro x _
  simp only [Function.comp]
  split
  · exact hf x
  · rfl
theorem Rep.upd (h : Rep els ms lk ws ix L W) (he : getL L nm = some e) (f : Lk -> Lk) (hf : ∀ e, (f e).nm = e.nm) : Rep (els.set (ix nm) (lkV (ix nm) (f e))) (ms.set (ix nm) ((f e).held.map hE)) lk ws ix (updL L nm f) W := by
  obtain ⟨h1, h2⟩ := getL_some he
  have hmem : ∀ x ∈ updL L nm f, ∃ y ∈ L, y.nm = x.nm /\ ((y.nm = nm /\ y = e /\ x = f e) ∨ (y.nm ≠ nm /\ x = y)) := by
    intro x hx
    obtain ⟨y, hy, rfl⟩ := List.mem_map.1 hx
    by_cases hn : y.nm = nm
    · have : y = e := by
        have := getL_of h.nd hy
        rw [hn, he] at this
        exact (Option.some.inj this).symm
      rw [if_pos hn]
      exact ⟨y, hy, (hf y).symm, .inl ⟨hn, this, by rw [this]⟩⟩
    · rw [if_neg hn]
      exact ⟨y, hy, rfl, .inr ⟨hn, rfl⟩⟩
  have hlt : ix nm < els.length := by
    have := h.hl e h1
    rw [h2] at this
    exact (List.getElem?_eq_some_iff.1 this).1
  refine ⟨by rw [nms_upd hf]; exact h.lk, h.ws, ?_, ?_, by simp [h.len], ?_, by rw [nms_upd hf]; exact h.nd, fun x hx => by obtain ⟨y, hy, e1, _⟩ := hmem x hx; exact e1 ▸ h.nml y hy⟩
  · intro x hx
    obtain ⟨y, hy, e1, ⟨e2, e3, e4⟩ | ⟨e2, e3⟩⟩ := hmem x hx
    · rw [<- e1, e2, e4]; simp [hlt]
    · subst e3
      rw [List.getElem?_set_ne]
      · exact h.hl _ hy
      · intro e5
        rw [<- h2] at e5 e2
        exact e2 (h.inj _ h1 _ hy e5).symm
  · intro x hx
    obtain ⟨y, hy, e1, ⟨e2, e3, e4⟩ | ⟨e2, e3⟩⟩ := hmem x hx
    · rw [<- e1, e2, e4]; simp [<- h.len, hlt]
    · subst e3
      rw [List.getElem?_set_ne]
      · exact h.hm _ hy
      · intro e5
        rw [<- h2] at e5 e2
        exact e2 (h.inj _ h1 _ hy e5).symm
  · intro x hx y hy e1
    obtain ⟨x', hx', ex, _⟩ := hmem x hx
    obtain ⟨y', hy', ey, _⟩ := hmem y hy
    rw [<- ex, <- ey] at e1 |-
    exact h.inj _ hx' _ hy' e1
theorem set_self {α : Type} {l : List α} {k : Nat} {x : α} (h : l[k]? = some x) : l.set k x = l := by
  apply List.ext_getElem?
  intro i
  by_cases hi : k = i
  · subst hi; rw [List.getElem?_set_self (List.getElem?_eq_some_iff.1 h).1, h]
  · rw [List.getElem?_set_ne hi]
theorem Rep.setW (h : Rep els ms lk ws ix L W) (W' : WL) : Rep els ms lk (W'.map wE) ix L W' := ⟨h.lk, rfl, h.hl, h.hm, h.len, h.inj, h.nd, h.nml⟩
def updI (ix : Bs -> Nat) (p : Bs) (n : Nat) : Bs -> Nat := fun q => if q = p then n else ix q
def newL (nm : Bs) : Lk := ⟨nm, [], []⟩
theorem Rep.lt (h : Rep els ms lk ws ix L W) (he : e ∈ L) : ix e.nm < els.length := (List.getElem?_eq_some_iff.1 (h.hl e he)).1
theorem Rep.add (h : Rep els ms lk ws ix L W) (hn : getL L nm = none) (hnm : Nm nm) : Rep (els ++ [lkV els.length (newL nm)]) (ms ++ [[]]) (lk ++ [(.str nm, .hp 61 els.length 0)]) ws (updI ix nm els.length) (L ++ [newL nm]) W := by
  have hx := getL_none hn
  have hne : ∀ y ∈ L, y.nm ≠ nm := fun y hy e => hx (List.mem_map.2 ⟨y, hy, e⟩)
  have hu : ∀ y ∈ L, updI ix nm els.length y.nm = ix y.nm := fun y hy => by unfold updI; rw [if_neg (hne y hy)]
  have hux : updI ix nm els.length nm = els.length := by simp [updI]
  refine ⟨?_, h.ws, ?_, ?_, by simp [h.len], ?_, ?_, fun y hy => by rcases List.mem_append.1 hy with hy | hy; exact h.nml y hy; simp only [List.mem_singleton] at hy; subst hy; exact hnm⟩
  · rw [h.lk]
    simp only [nms, List.map_append, List.map_cons, List.map_nil]
    congr 1
    · rw [List.map_map, List.map_map]
      apply List.map_congr_left
      intro y hy
      simp [ent, hu y hy]
    · simp [ent, newL, hux]
  · intro y hy
    rcases List.mem_append.1 hy with hy | hy
    · rw [hu y hy, List.getElem?_append_left (h.lt hy)]; exact h.hl y hy
    · simp only [List.mem_singleton] at hy
      subst hy
      show (els ++ _)[updI ix nm els.length nm]? = some (lkV (updI ix nm els.length nm) (newL nm))
      rw [hux]; simp
  · intro y hy
    rcases List.mem_append.1 hy with hy | hy
    · rw [hu y hy, List.getElem?_append_left (by rw [<- h.len]; exact h.lt hy)]; exact h.hm y hy
    · simp only [List.mem_singleton] at hy
      subst hy
      show (ms ++ _)[updI ix nm els.length nm]? = some _
      rw [hux, h.len]; simp [newL]
  · intro y hy z hz e
    rcases List.mem_append.1 hy with hy1 | hy1 <;> rcases List.mem_append.1 hz with hz1 | hz1
    · rw [hu y hy1, hu z hz1] at e; exact h.inj _ hy1 _ hz1 e
    · simp only [List.mem_singleton] at hz1
      rw [hu y hy1, hz1, show (newL nm).nm = nm from rfl, hux] at e
      exact absurd (h.lt hy1) (by omega)
    · simp only [List.mem_singleton] at hy1
      rw [hu z hz1, hy1, show (newL nm).nm = nm from rfl, hux] at e
      exact absurd (h.lt hz1) (by omega)
    · simp only [List.mem_singleton] at hy1 hz1
      rw [hy1, hz1]
  · simp only [nms, List.map_append, List.map_cons, List.map_nil]
    rw [List.nodup_append]
    refine ⟨h.nd, by simp, ?_⟩
    intro a ha b hb
    simp only [List.mem_singleton] at hb
    subst hb
    rintro rfl
    exact hx ha
def cutL (L : List Lk) (nm : Bs) : List Lk := L.filter fun e => e.nm != nm
theorem nms_cut (L : List Lk) (nm : Bs) : nms (cutL L nm) = (nms L).filter (· != nm) := by
  simp [nms, cutL, List.filter_map]
  rfl
theorem Rep.cut (h : Rep els ms lk ws ix L W) (nm : Bs) : Rep els ms (((nms L).erase nm).map (ent ix)) ws ix (cutL L nm) W := by
  refine ⟨?_, h.ws, fun x hx => h.hl x (List.mem_filter.1 hx).1, fun x hx => h.hm x (List.mem_filter.1 hx).1, h.len, fun x hx y hy => h.inj x (List.mem_filter.1 hx).1 y (List.mem_filter.1 hy).1, ?_, fun x hx => h.nml x (List.mem_filter.1 hx).1⟩
  · rw [nms_cut, <- h.nd.erase_eq_filter]
  · rw [nms_cut]; exact h.nd.filter _
def atL (L : List Lk) (nm : Bs) : List Lk := match getL L nm with | some _ => L | none => L ++ [newL nm]
theorem getL_add (h : getL L nm = none) : getL (L ++ [newL nm]) nm = some (newL nm) := by
  unfold getL at h |-
  rw [List.find?_append, h]
  simp [newL]
theorem atL_get (L : List Lk) (nm : Bs) : ∃ e, getL (atL L nm) nm = some e /\ (getL L nm = some e ∨ (getL L nm = none /\ e = newL nm)) := by
  unfold atL
  cases h : getL L nm with
  | some e => exact ⟨e, h, .inl rfl⟩
  | none => exact ⟨_, getL_add h, .inr ⟨rfl, rfl⟩⟩
theorem Rep.nms (h : Rep els ms lk ws ix L W) : ∀ x ∈ nms L, Nm x := fun x hx => by
  obtain ⟨e, he, rfl⟩ := List.mem_map.1 hx
  exact h.nml e he
theorem at_ok (h : Rep els ms lk ws ix L W) (nm : Bs) (hnm : Nm nm) : ∃ els' ms' lk' ix', icC cfgB ⟨true, false⟩ 40 [.ptr 2 0 0, .str nm] (tm els ms lk ws) = some (mk40 (ix' nm, els', ms', lk', ws)) /\ Rep els' ms' lk' ws ix' (atL L nm) W := by
  cases hn : getL L nm with
  | some e =>
    refine ⟨els, ms, lk, ix, ?_, by unfold atL; rw [hn]; exact h⟩
    refine e40_run _ _ _ _ _ (o := .doneM ?v1 ?m1) ?h1 (.done ?n1)
    case h1 =>
      unfold e40
      rw [h.mf hn, kP_mk, h.mf hn, kP_mk]
    case n1 => kernel_rfl
  | none =>
    have h2 := h.add hn hnm
    have hg := getL_add hn
    refine ⟨_, _, _, _, ?_, by unfold atL; rw [hn]; exact h2⟩
    refine e40_run _ _ _ _ _ (o := .doneM ?v2 ?m2) ?h2 (.done ?n2)
    case h2 =>
      unfold e40
      rw [h.mn hn, h.lk, put_out (getL_none hn), opt_mk, <- h.lk, h2.mf hg, kP_mk, <- h.len]
    case n2 => kernel_rfl
def modeA (L : List Lk) (o : Int) (nm : Bs) : Int := ((getL L nm).bind fun e => getA e.held o).getD 0
theorem mode_ok (h : Rep els ms lk ws ix L W) (o : Int) (nm : Bs) : icC cfgB ⟨true, false⟩ 14 [.ptr 2 0 0, .int .i64 o, .str nm] (tm els ms lk ws) = some (mk14 (modeA L o nm, els, ms, lk, ws)) := by
  unfold modeA
  refine e14_run _ _ _ _ _ _ (o := .doneM (.int .i64 (modeA L o nm)) (tm els ms lk ws)) ?_ (.done (by kernel_rfl))
  unfold e14 modeA
  cases hn : getL L nm with
  | none => rw [h.mn hn]; rfl
  | some e =>
    rw [h.mf hn, kP_mk, h.mf hn, kP_mk, h.ax hn, dL, h.mx hn, mfK_a]
    simp only [Option.bind_some]
    cases getA e.held o <;> rfl
def tidyL (L : List Lk) (nm : Bs) : List Lk := match getL L nm with | some e => if e.held = [] /\ e.q = [] then cutL L nm else L | none => L
theorem lenZ {α β : Type} (f : α -> β) (l : List α) : (((l.map f).length : Int) == 0) = decide (l = []) := by
  cases l with
  | nil => rfl
  | cons a l => simp; omega
theorem tidy_ok (h : Rep els ms lk ws ix L W) (nm : Bs) : ∃ lk', icC cfgB ⟨true, false⟩ 54 [.ptr 2 0 0, .str nm] (tm els ms lk ws) = some (mk54 (els, ms, lk', ws)) /\ Rep els ms lk' ws ix (tidyL L nm) W := by
  cases hn : getL L nm with
  | none =>
    refine ⟨lk, e54_run _ _ _ _ _ (o := .doneM ?v1 ?m1) ?h1 (.done ?n1), by unfold tidyL; rw [hn]; exact h⟩
    case h1 => unfold e54; rw [h.mn hn]
    case n1 => kernel_rfl
  | some e =>
    by_cases h1 : e.held = []
    · by_cases h2 : e.q = []
      · refine ⟨_, e54_run _ _ _ _ _ (o := .doneM ?v2 ?m2) ?h2 (.done ?n2), by unfold tidyL; rw [hn]; simp only [h1, h2, and_self, if_true]; exact h.cut nm⟩
        case h2 => unfold e54; rw [h.mf hn, kP_mk, h.ax hn, dL, h.mx hn, lenZ, decide_eq_true h1, cond_true, h.ax hn, dL, lenZ, decide_eq_true h2, cond_true, h.lk, del_in, opt_mk]
        case n2 => kernel_rfl
      · refine ⟨_, e54_run _ _ _ _ _ (o := .doneM ?v3 ?m3) ?h3 (.done ?n3), by unfold tidyL; rw [hn]; simp only [h2, and_false, if_false]; exact h⟩
        case h3 => unfold e54; rw [h.mf hn, kP_mk, h.ax hn, dL, h.mx hn, lenZ, decide_eq_true h1, cond_true, h.ax hn, dL, lenZ, decide_eq_false h2, cond_false]
        case n3 => kernel_rfl
    · refine ⟨_, e54_run _ _ _ _ _ (o := .doneM ?v4 ?m4) ?h4 (.done ?n4), by unfold tidyL; rw [hn]; simp only [h1, false_and, if_false]; exact h⟩
      case h4 => unfold e54; rw [h.mf hn, kP_mk, h.ax hn, dL, h.mx hn, lenZ, decide_eq_false h1, cond_false]
      case n4 => kernel_rfl
end
theorem wi (k : Nat) (h : k < 1000000) : W .i64 ((k : Int) + 1) = ((k + 1 : Nat) : Int) := by rw [W_i64 (by omega)]; omega
def idxF {α : Type} (q : α -> Bool) : Nat -> List α -> Int
  | _, [] => -1
  | k, c :: r => if q c then (k : Int) else idxF q (k + 1) r
theorem idxF_spec {α : Type} (q : α -> Bool) : ∀ (r : List α) (k : Nat), (idxF q k r = -1 /\ ∀ c ∈ r, q c = false) ∨ ∃ pre c post, r = pre ++ c :: post /\ (∀ x ∈ pre, q x = false) /\ q c = true /\ idxF q k r = ((k + pre.length : Nat) : Int)
  | [], k => .inl ⟨rfl, fun _ h => nomatch h⟩
  | c :: r, k => by
    unfold idxF
    by_cases h : q c = true
    · rw [if_pos h]; exact .inr ⟨[], c, r, rfl, by simp, h, by simp⟩
    · rw [if_neg h]
      rcases idxF_spec q r (k + 1) with ⟨h1, h2⟩ | ⟨pre, d, post, h1, h2, h3, h4⟩
      · exact .inl ⟨h1, by intro x hx; rcases List.mem_cons.1 hx with rfl | hx; simpa using h; exact h2 x hx⟩
      · refine .inr ⟨c :: pre, d, post, by rw [h1]; rfl, ?_, h3, by rw [h4]; simp; omega⟩
        intro x hx; rcases List.mem_cons.1 hx with rfl | hx; simpa using h; exact h2 x hx
theorem wc_ok (p : Int × Int) (o : Int) : pcW cfgB 30 [.agg [.int .i64 p.1, .int .i64 p.2], .ref (.int .i64 o) 0] = some (.bool (p.1 == o)) := e30_done _ _ _ rfl
theorem dc_ok (p : Int × Int) (o : Int) : pcW cfgB 38 [.agg [.int .i64 p.1, .int .i64 p.2], .ref (.int .i64 o) 0] = some (.bool (p.1 == o)) := e38_done _ _ _ rfl
theorem idxa_loop (q : HQ) (o : Int) (hq : q.length <= 100000) : ∀ (r : HQ) (k : Nat), q.drop k = r -> k <= q.length ->
    Go kcB false 0 fa29 (.head 0 (T29a_0 (q.map pV) o (q.length : Int) (k : Int))) (.done (.int .i64 (idxF (fun p => p.1 == o) k r)))
  | [], k, h, hk => by
    have : q.length <= k := List.drop_eq_nil_iff.1 h
    refine s29a_0_run _ _ _ _ ?_ (.refl _)
    unfold s29a_0
    rw [decide_eq_false (by omega)]; rfl
  | c :: r, k, h, hk => by
    obtain ⟨h1, h2, h3⟩ := drop_cons h
    by_cases hc : (c.1 == o) = true
    · refine s29a_0_run _ _ _ _ ?_ (.refl _)
      unfold s29a_0 idxF
      rw [decide_eq_true (by omega), cond_true, gd_of (by simp), idxK_c h1, dP, pcK_of (wc_ok c o), kB_mk, hc, if_pos rfl]; rfl
    · refine s29a_0_run _ _ _ _ ?_ (by unfold idxF; rw [if_neg hc]; exact idxa_loop q o hq r (k + 1) h2 (by omega))
      unfold s29a_0
      rw [decide_eq_true (by omega), cond_true, gd_of (by simp), idxK_c h1, dP, pcK_of (wc_ok c o), kB_mk, show (c.1 == o) = false by simpa using hc, wi k (by omega)]; rfl
theorem idxa_ok (q : HQ) (o : Int) (hq : q.length <= 100000) : pcW cfgB 29 [.sl (q.map pV), .fn 30 [.ref (.int .i64 o) 0]] = some (.int .i64 (idxF (fun p => p.1 == o) 0 q)) :=
  e29a_run _ _ (by unfold e29a; rw [List.length_map]; rfl) (idxa_loop q o hq q 0 rfl (by omega))
theorem idxb_loop (q : HQ) (o : Int) (hq : q.length <= 100000) : ∀ (r : HQ) (k : Nat), q.drop k = r -> k <= q.length ->
    Go kcB false 0 fa29 (.head 0 (T29b_0 (q.map pV) o (q.length : Int) (k : Int))) (.done (.int .i64 (idxF (fun p => p.1 == o) k r)))
  | [], k, h, hk => by
    have : q.length <= k := List.drop_eq_nil_iff.1 h
    refine s29b_0_run _ _ _ _ ?_ (.refl _)
    unfold s29b_0
    rw [decide_eq_false (by omega)]; rfl
  | c :: r, k, h, hk => by
    obtain ⟨h1, h2, h3⟩ := drop_cons h
    by_cases hc : (c.1 == o) = true
    · refine s29b_0_run _ _ _ _ ?_ (.refl _)
      unfold s29b_0 idxF
      rw [decide_eq_true (by omega), cond_true, gd_of (by simp), idxK_c h1, dP, pcK_of (dc_ok c o), kB_mk, hc, if_pos rfl]; rfl
    · refine s29b_0_run _ _ _ _ ?_ (by unfold idxF; rw [if_neg hc]; exact idxb_loop q o hq r (k + 1) h2 (by omega))
      unfold s29b_0
      rw [decide_eq_true (by omega), cond_true, gd_of (by simp), idxK_c h1, dP, pcK_of (dc_ok c o), kB_mk, show (c.1 == o) = false by simpa using hc, wi k (by omega)]; rfl
theorem idxb_ok (q : HQ) (o : Int) (hq : q.length <= 100000) : pcW cfgB 29 [.sl (q.map pV), .fn 38 [.ref (.int .i64 o) 0]] = some (.int .i64 (idxF (fun p => p.1 == o) 0 q)) :=
  e29b_run _ _ (by unfold e29b; rw [List.length_map]; rfl) (idxb_loop q o hq q 0 rfl (by omega))
section
variable {els : List V} {ms : List (List (V × V))} {lk ws : List (V × V)} {ix : Bs -> Nat} {L : List Lk} {W : WL} {nm : Bs} {e : Lk}
structure Sz (N : Nat) (L : List Lk) : Prop where
  n : N <= 4000
  len : L.length <= N
  hq : ∀ e ∈ L, e.held.length + e.q.length <= N
  rh : ∀ e ∈ L, ∀ p ∈ e.held, -9223372036854775808 <= p.1 /\ p.1 <= 9223372036854775807
  rq : ∀ e ∈ L, ∀ p ∈ e.q, -9223372036854775808 <= p.1 /\ p.1 <= 9223372036854775807
theorem Sz.held {N : Nat} (h : Sz N L) : ∀ e ∈ L, e.held.length <= N := fun e he => by have := h.hq e he; omega
theorem Sz.q {N : Nat} (h : Sz N L) : ∀ e ∈ L, e.q.length <= N := fun e he => by have := h.hq e he; omega
def waitA (L : List Lk) (W : WL) (o : Int) : Option (Bs × Int) := (getA W o).bind fun n => (getL L n).bind fun e => (getA e.q o).map fun m => (n, m)
def WOK (L : List Lk) (W : WL) : Prop := ∀ o n, getA W o = some n -> ∃ e m, getL L n = some e /\ getA e.q o = some m
theorem getA_split {α : Type} {l : List (Int × α)} {o : Int} {a : α} (h : getA l o = some a) : ∃ pre post, l = pre ++ (o, a) :: post /\ ∀ x ∈ pre, (x.1 == o) = false := by
  induction l with
  | nil => cases h
  | cons p l ih =>
    rw [getA_cons] at h
    by_cases hp : p.1 = o
    · rw [if_pos hp] at h; cases h
      exact ⟨[], l, by rw [<- hp]; rfl, by simp⟩
    · rw [if_neg hp] at h
      obtain ⟨pre, post, e1, e2⟩ := ih h
      exact ⟨p :: pre, post, by rw [e1]; rfl, fun x hx => by
        rcases List.mem_cons.1 hx with rfl | hx
        · simpa using hp
        · exact e2 x hx⟩
theorem idxF_get {l : HQ} {o m : Int} (h : getA l o = some m) : ∃ k : Nat, idxF (fun p => p.1 == o) 0 l = (k : Int) /\ l[k]? = some (o, m) := by
  obtain ⟨pre, post, e1, e2⟩ := getA_split h
  rcases idxF_spec (fun p : Int × Int => p.1 == o) l 0 with ⟨_, h2⟩ | ⟨pre', c, post', h1, h2, h3, h4⟩
  · have := h2 (o, m) (by rw [e1]; simp)
    simp at this
  · have hpre : pre = pre' := by
      rw [e1] at h1
      clear h4 e1
      induction pre generalizing pre' with
      | nil =>
        cases pre' with
        | nil => rfl
        | cons y pre' =>
          simp only [List.nil_append, List.cons_append, List.cons.injEq] at h1
          have := h2 y (by simp)
          rw [<- h1.1] at this
          simp at this
      | cons x pre ih =>
        cases pre' with
        | nil =>
          simp only [List.nil_append, List.cons_append, List.cons.injEq] at h1
          have := e2 x (by simp)
          rw [h1.1] at this
          rw [h3] at this; cases this
        | cons y pre' =>
          simp only [List.cons_append, List.cons.injEq] at h1
          rw [h1.1, ih (fun z hz => e2 z (by simp [hz])) pre' h1.2 (fun z hz => h2 z (by simp [hz]))]
    subst hpre
    refine ⟨pre.length, by rw [h4]; simp, ?_⟩
    rw [e1]; simp
theorem waits_ok (h : Rep els ms lk ws ix L W) {n : Nat} (hs : Sz n L) (hw : WOK L W) (o : Int) :
    icC cfgB ⟨true, false⟩ 15 [.ptr 2 0 0, .int .i64 o] (tm els ms lk ws) = some (mk15 (((waitA L W o).getD ([], 0)).1, ((waitA L W o).getD ([], 0)).2, (waitA L W o).isSome, els, ms, lk, ws)) := by
  cases hg : getA W o with
  | none =>
    have : waitA L W o = none := by unfold waitA; rw [hg]; rfl
    rw [this]
    refine e15_run _ _ _ _ _ (o := .doneM ?v1 ?m1) ?h1 (.done ?n1)
    case h1 => unfold e15; rw [h.wf, hg, elimK_n]
    case n1 => kernel_rfl
  | some nm =>
    obtain ⟨e, m, he, hm⟩ := hw o nm hg
    have : waitA L W o = some (nm, m) := by unfold waitA; rw [hg, Option.bind_some, he, Option.bind_some, hm]; rfl
    rw [this]
    obtain ⟨k, hk, hkm⟩ := idxF_get hm
    have hql := hs.q e (getL_some he).1
    have := hs.n
    refine e15_run _ _ _ _ _ (o := .doneM ?v2 ?m2) ?h2 (.done ?n2)
    case h2 =>
      unfold e15
      rw [h.wf, hg, elimK_s, kS_mk, h.mf he, kP_mk, h.ax he, dL, pcK_of (idxa_ok e.q o (by omega)), kI_mk, hk, gd_of (by simp), idxK_c hkm, dP]
    case n2 => kernel_rfl
def leadN (held : HQ) : HQ -> Nat
  | [] => 0
  | p :: q => if (getA held p.1).getD 0 ≠ 0 then leadN held q + 1 else 0
def placeN (e : Lk) (o : Int) : Nat := match getA e.held o with | none => e.q.length | some _ => leadN e.held e.q
theorem leadN_le (held : HQ) : ∀ q, leadN held q <= q.length
  | [] => Nat.le_refl _
  | p :: q => by unfold leadN; have := leadN_le held q; split <;> simp <;> omega
theorem placeN_le (e : Lk) (o : Int) : placeN e o <= e.q.length := by
  unfold placeN
  split
  · exact Nat.le_refl _
  · exact leadN_le _ _
theorem place_loop (h : Rep els ms lk ws ix L W) {n : Nat} (hs : Sz n L) (he : getL L nm = some e) : ∀ (r : HQ) (k : Nat), e.q.drop k = r -> k <= e.q.length ->
    Go kcB true 2 fa56 (.head 0 (T56_0 (ix nm) (k : Int) els ms)) (.doneM (.int .i64 ((k + leadN e.held r : Nat) : Int)) [.arena 61 els, .marena 58 ms])
  | [], k, hd, hk => by
    have : e.q.length <= k := List.drop_eq_nil_iff.1 hd
    refine s56_0_run _ _ _ _ ?_ (.refl _)
    unfold s56_0
    rw [h.ax he, dL, decide_eq_false (by rw [List.length_map]; omega)]; rfl
  | c :: r, k, hd, hk => by
    obtain ⟨h1, h2, h3⟩ := drop_cons hd
    have := hs.q e (getL_some he).1
    have := hs.n
    have base : ∀ x : R, s56_0 (ix nm) (k : Int) els ms = elimK (getA e.held c.1) (some (.doneM (.int .i64 (k : Int)) [.arena 61 els, .marena 58 ms])) fun n => cond (n != (0 : Int)) (some (.head 0 (T56_0 (ix nm) ((k + 1 : Nat) : Int) els ms))) (some (.doneM (.int .i64 (k : Int)) [.arena 61 els, .marena 58 ms])) := by
      intro _
      unfold s56_0
      rw [h.ax he, dL, decide_eq_true (by rw [List.length_map]; omega), cond_true, h.ax he, dL, h.ax he, dL, gd_of (by simp), idxK_c h1, dP, h.mx he, mfK_a, wi k (by omega)]
      rfl
    cases hg : getA e.held c.1 with
    | none =>
      have hl : leadN e.held (c :: r) = 0 := by unfold leadN; rw [hg]; simp
      rw [hl]
      exact s56_0_run _ _ _ _ (by rw [base none, hg]; rfl) (.refl _)
    | some m =>
      by_cases hm : m = 0
      · have hl : leadN e.held (c :: r) = 0 := by unfold leadN; rw [hg]; simp [hm]
        rw [hl]
        exact s56_0_run _ _ _ _ (by rw [base none, hg, elimK_s, ibne_f hm]; rfl) (.refl _)
      · have hl : k + leadN e.held (c :: r) = k + 1 + leadN e.held r := by conv => lhs; unfold leadN; rw [hg]; simp [hm]
                                                                           omega
        rw [hl]
        exact s56_0_run _ _ _ _ (by rw [base none, hg, elimK_s, ibne_t hm]; rfl) (place_loop h hs he r (k + 1) h2 (by omega))
theorem place_ok (h : Rep els ms lk ws ix L W) {n : Nat} (hs : Sz n L) (he : getL L nm = some e) (o : Int) :
    icC cfgB ⟨true, false⟩ 56 [.hp 61 (ix nm) 0, .int .i64 o] [.arena 61 els, .marena 58 ms] = some (mk56 ((placeN e o : Int), els, ms)) := by
  cases hg : getA e.held o with
  | none =>
    have : placeN e o = e.q.length := by unfold placeN; rw [hg]
    rw [this]
    refine e56_run _ _ _ _ (o := .doneM ?v1 ?m1) ?h1 (.done ?n1)
    case h1 => unfold e56; rw [h.ax he, dL, h.mx he, mfK_a, hg, elimK_n, h.ax he, dL, List.length_map]
    case n1 => kernel_rfl
  | some m =>
    have : placeN e o = 0 + leadN e.held e.q := by unfold placeN; rw [hg]; simp
    rw [this]
    refine e56_run _ _ _ _ ?h2 ⟨_, _, place_loop h hs he e.q 0 rfl (by omega), by kernel_rfl⟩
    case h2 => unfold e56; rw [h.ax he, dL, h.mx he, mfK_a, hg, elimK_s, kI_mk]; rfl
theorem keyInts_h : ∀ {l : HQ}, (∀ p ∈ l, -9223372036854775808 <= p.1 /\ p.1 <= 9223372036854775807) -> keyInts (l.map hE) = some (l.map (·.1))
  | [], _ => rfl
  | p :: l, h => by
    have ih := keyInts_h (l := l) fun x hx => h x (by simp [hx])
    unfold keyInts at ih |-
    rw [List.map_cons]
    have hk : keyI (hE p).1 = some p.1 := by
      show keyI (.int .i64 p.1) = some p.1
      exact if_pos (h p (by simp))
    simp only [mapO, hk, ih, Option.bind_some, Option.map_some]
    rfl
theorem keyStrs_l (ix : Bs -> Nat) : ∀ ks : List Bs, (∀ x ∈ ks, Nm x) -> keyStrs (ks.map (ent ix)) = some ks
  | [], _ => rfl
  | p :: l, hh => by
    have ih := keyStrs_l ix l fun x hx => hh x (by simp [hx])
    unfold keyStrs at ih |-
    rw [List.map_cons]
    have hk : keyS (ent ix p).1 = some p := if_pos (hh p (by simp))
    simp only [mapO, hk, ih, Option.bind_some, Option.map_some]
def ints (l : List Int) : List V := l.map iV
def holdA (L : List Lk) (nm : Bs) : List Int := match getL L nm with | none => [] | some e => srt (e.held.map (·.1))
theorem holders_ok (h : Rep els ms lk ws ix L W) {n : Nat} (hs : Sz n L) (nm : Bs) : icC cfgB ⟨true, false⟩ 11 [.ptr 2 0 0, .str nm] (tm els ms lk ws) = some (mk11 (els, ms, lk, ws, ints (holdA L nm))) := by
  unfold holdA
  cases he : getL L nm with
  | none =>
    refine e11_run _ _ _ _ _ (o := .doneM ?v1 ?m1) ?h1 (.done ?n1)
    case h1 => unfold e11; rw [h.mn he]
    case n1 => kernel_rfl
  | some e =>
    have hm := (getL_some he).1
    have := hs.held e hm
    have := hs.n
    refine e11_run _ _ _ _ _ (o := .doneM ?v2 ?m2) ?h2 (.done ?n2)
    case h2 => unfold e11; rw [h.mf he, kP_mk, h.mf he, kP_mk, h.ax he, dL, h.mx he, keyInts_h (hs.rh e hm), opt_mk, gd_of (decide_eq_true (by rw [List.length_map]; omega))]
    case n2 => kernel_rfl
def queueA (L : List Lk) (nm : Bs) : List Int := match getL L nm with | none => [] | some e => e.q.map (·.1)
theorem queue_loop (q : HQ) (hq : q.length <= 60000) : ∀ (r : HQ) (k : Nat), q.drop k = r -> k <= q.length ->
    Go kcB true 5 fa12 (.head 0 (T12_0 (q.map pV) (q.length : Int) (k : Int) els ms lk ws (ints ((q.take k).map (·.1))))) (.doneM (.own 6) (tm els ms lk ws ++ [.row 3 [] 0, .row 3 (ints (q.map (·.1))) 0]))
  | [], k, h, hk => by
    have hk' : q.length <= k := List.drop_eq_nil_iff.1 h
    refine s12_0_run _ _ _ _ _ _ _ _ ?_ (.refl _)
    unfold s12_0
    rw [decide_eq_false (by omega), cond_false, List.take_of_length_le hk']; rfl
  | c :: r, k, h, hk => by
    obtain ⟨h1, h2, h3⟩ := drop_cons h
    refine s12_0_run _ _ _ _ _ _ _ _ ?_ (queue_loop q hq r (k + 1) h2 (by omega))
    unfold s12_0
    rw [decide_eq_true (by omega), cond_true, gd_of (by simp), idxK_c h1, dP, gd_of (decide_eq_true (by simp [ints]; omega)), wi k (by omega)]
    have : ints ((q.take k).map (·.1)) ++ [V.int .i64 c.1] = ints ((q.take (k + 1)).map (·.1)) := by
      rw [List.take_add_one, h1]; simp [ints, iV]
    rw [this]
theorem queue_ok (h : Rep els ms lk ws ix L W) {n : Nat} (hs : Sz n L) (nm : Bs) : icC cfgB ⟨true, false⟩ 12 [.ptr 2 0 0, .str nm] (tm els ms lk ws) = some (mk12 (els, ms, lk, ws, ints (queueA L nm))) := by
  unfold queueA
  cases he : getL L nm with
  | none =>
    refine e12_run _ _ _ _ _ (o := .doneM ?v1 ?m1) ?h1 (.done ?n1)
    case h1 => unfold e12; rw [h.mn he]
    case n1 => kernel_rfl
  | some e =>
    have := hs.q e (getL_some he).1
    have := hs.n
    refine e12_run _ _ _ _ _ ?h2 ⟨_, _, queue_loop (els := els) (ms := ms) (lk := lk) (ws := ws) e.q (by omega) e.q 0 rfl (by omega), by kernel_rfl⟩
    case h2 => unfold e12; rw [h.mf he, kP_mk, h.mf he, kP_mk, h.ax he, dL, List.length_map]; rfl
def hoV (p : Bs × Int) : V := .agg [.str p.1, .int .i64 p.2]
def heldN (L : List Lk) (o : Int) (ks : List Bs) : List (Bs × Int) := ks.filterMap fun n => ((getL L n).bind fun e => getA e.held o).map fun m => (n, m)
def heldA (L : List Lk) (o : Int) : List (Bs × Int) := heldN L o (srtS (nms L))
theorem srtS_mem {l : List Bs} {x : Bs} : x ∈ srtS l ↔ x ∈ l := (List.mergeSort_perm l _).mem_iff
theorem srtS_len (l : List Bs) : (srtS l).length = l.length := (List.mergeSort_perm l _).length_eq
theorem getL_mem {L : List Lk} {n : Bs} (h : n ∈ nms L) : ∃ e, getL L n = some e := by
  cases hg : getL L n with
  | some e => exact ⟨e, rfl⟩
  | none => exact absurd h (getL_none hg)
theorem heldN_len (L : List Lk) (o : Int) (ks : List Bs) : (heldN L o ks).length <= ks.length := List.length_filterMap_le _ _
theorem held_loop (h : Rep els ms lk ws ix L W) (o : Int) (ks : List Bs) (hks : ks.length <= 60000) (hin : ∀ x ∈ ks, x ∈ nms L) : ∀ (r : List Bs) (k : Nat), ks.drop k = r -> k <= ks.length ->
    Go kcB true 5 fa19 (.head 0 (T19_0 o (ks.length : Int) (k : Int) els ms lk ws ((heldN L o (ks.take k)).map hoV) (ks.map sV))) (.doneM (.own 6) (tm els ms lk ws ++ [.row 33 [] 0, .row 33 ((heldN L o ks).map hoV) 0, .row 9 (ks.map sV) 0]))
  | [], k, hd, hk => by
    have hk' : ks.length <= k := List.drop_eq_nil_iff.1 hd
    refine s19_0_run _ _ _ _ _ _ _ _ _ ?_ (.refl _)
    unfold s19_0
    rw [decide_eq_false (by omega), cond_false, List.take_of_length_le hk']; rfl
  | c :: r, k, hd, hk => by
    obtain ⟨h1, h2, h3⟩ := drop_cons hd
    obtain ⟨e, he⟩ := getL_mem (hin c (List.mem_of_getElem? h1))
    refine s19_0_run _ _ _ _ _ _ _ _ _ ?_ (held_loop h o ks hks hin r (k + 1) h2 (by omega))
    have hlen : ((heldN L o (ks.take k)).map hoV).length + ([V.agg [V.str c, V.int .i64 0]] : List V).length <= 16777216 := by
      have := heldN_len L o (ks.take k)
      simp at this |-; omega
    unfold s19_0
    rw [decide_eq_true (by omega), cond_true, gd_of (by simp), gd_of (decide_eq_true (by simp; omega)), idxK_c h1]
    show (kS (.str c) _) = _
    rw [kS_mk, h.mf he, kP_mk, h.ax he, dL, h.mx he, mfK_a, wi k (by omega)]
    have hstep : heldN L o (ks.take (k + 1)) = heldN L o (ks.take k) ++ (match getA e.held o with | none => [] | some m => [(c, m)]) := by
      rw [List.take_add_one, h1]
      unfold heldN
      rw [List.filterMap_append]
      congr 1
      simp only [Option.toList_some, List.filterMap_cons, List.filterMap_nil, he, Option.bind_some]
      cases getA e.held o <;> rfl
    cases hg : getA e.held o with
    | none => rw [elimK_n, hstep, hg, List.append_nil]
    | some m =>
      rw [elimK_s, kI_mk, gd_of (decide_eq_true (by simpa using hlen)), hstep, hg, List.map_append]; rfl
theorem held_ok (h : Rep els ms lk ws ix L W) {n : Nat} (hs : Sz n L) (o : Int) : icC cfgB ⟨true, false⟩ 19 [.ptr 2 0 0, .int .i64 o] (tm els ms lk ws) = some (mk19 (els, ms, lk, ws, (heldA L o).map hoV)) := by
  have hl : (nms L).length <= 60000 := by have := hs.len; have := hs.n; simp [nms]; omega
  refine e19_run _ _ _ _ _ ?h2 ⟨_, _, held_loop h o (srtS (nms L)) (by rw [srtS_len]; exact hl) (fun x hx => srtS_mem.1 hx) (srtS (nms L)) 0 rfl (by omega), by kernel_rfl⟩
  case h2 =>
    have hk : keyStrs lk = some (nms L) := by rw [h.lk]; exact keyStrs_l ix _ h.nms
    unfold e19
    rw [hk, opt_mk, gd_of (decide_eq_true (by omega)), List.length_map]; rfl
end
theorem wflp (l : HQ) : wfl 2 (l.map pV) = true := wfl_map fun _ => rfl
theorem set_take {α : Type} {row : List α} {i : Nat} {c : α} (h : i < row.length) : (row.set i c).take (i + 1) = row.take i ++ [c] := by
  rw [List.take_add_one, List.take_set_of_le (by omega)]
  simp [h]
theorem wfl_zero2 (l : List V) (hl : wfl 2 l = true) (n i j : Nat) : wfl 2 (l.take i ++ List.replicate n (V.agg [V.int .i64 0, V.int .i64 0]) ++ l.drop j) = true := by
  unfold wfl at *
  rw [List.all_eq_true] at *
  intro x hx
  rcases List.mem_append.1 hx with hx | hx
  · rcases List.mem_append.1 hx with hx | hx
    · exact hl x (List.mem_of_mem_take hx)
    · rw [List.eq_of_mem_replicate hx]; rfl
  · exact hl x (List.mem_of_mem_drop hx)
def delRow (row : HQ) (i : Nat) : List V := (row.map pV).take i ++ List.replicate ((row.map pV).length - i) (V.agg [V.int .i64 0, V.int .i64 0]) ++ (row.map pV).drop (i + ((row.map pV).length - i))
theorem delRow_take {row : HQ} {i : Nat} (h : i <= row.length) : (delRow row i).take i = (row.take i).map pV := by
  unfold delRow
  rw [List.append_assoc, List.take_left' (by simp; omega), List.map_take]
theorem delRow_len {row : HQ} {i : Nat} (h : i <= row.length) : (delRow row i).length = row.length := by
  simp [delRow]; omega
theorem del_loop (m0 : List V) (m1 : List (List (V × V))) (x : Int) (n : Nat) (hn : n <= 60000) : ∀ (r row : HQ) (i j : Nat), row.drop j = r -> row.length = n -> j <= n -> i <= j ->
    ∃ row' : HQ, row'.length = n /\ row'.take (i + (r.filter (·.1 != x)).length) = row.take i ++ r.filter (·.1 != x) /\ i + (r.filter (·.1 != x)).length <= n /\
      Go kcB true 4 fa36 (.head 0 (T36_0 (i : Int) (j : Int) m0 m1 (row.map pV) x))
        (.doneM (.win 2 0 (i + (r.filter (·.1 != x)).length)) [.arena 61 m0, .marena 58 m1, .row 63 (delRow row' (i + (r.filter (·.1 != x)).length)) 0, .box 3 (.int .i64 x) false, .row 63 [] 0])
  | [], row, i, j, h, hr, hj, hi => by
    have hjl : row.length <= j := List.drop_eq_nil_iff.1 h
    refine ⟨row, hr, by simp, by simp; omega, ?_⟩
    refine s36_0_run _ _ _ _ _ _ ?_ (.refl _)
    unfold s36_0
    rw [decide_eq_false (by rw [List.length_map]; omega), cond_false, gd_of (wflp row), gd_of (by simp), toNat_cast, gd_of (by simp; omega), gd_of (by simp; omega), gd_of (wfl_zero2 _ (wflp row) _ _ _), gd_of (by simp), gd_of (by simp; omega)]
    rfl
  | c :: r, row, i, j, h, hr, hj, hi => by
    obtain ⟨h1, h2, h3⟩ := drop_cons h
    have hgi : ∀ k : Nat, k < n -> gd (decide (((k : Nat) : Int).toNat < (row.map pV).length)) = fun q => q := fun k hk => by funext q; exact gd_of (by simp; omega)
    obtain ⟨d, hd⟩ : ∃ d, row[i]? = some d := ⟨_, List.getElem?_eq_getElem (by omega)⟩
    by_cases hq : c.1 = x
    · obtain ⟨row', e1, e2, e3, e4⟩ := del_loop m0 m1 x n hn r row i (j + 1) h2 hr (by omega) (by omega)
      have hf : (c :: r).filter (·.1 != x) = r.filter (·.1 != x) := List.filter_cons_of_neg (by simpa using hq)
      rw [hf]
      refine ⟨row', e1, e2, e3, ?_⟩
      refine s36_0_run _ _ _ _ _ _ ?_ e4
      unfold s36_0
      rw [decide_eq_true (by rw [List.length_map]; omega), cond_true, gd_of (by simp), hgi j (by omega), idxK_c h1, dP, pcK_of (dc_ok c x), kB_mk, show (c.1 == x) = true by simpa using hq, wi j (by omega)]; rfl
    · have hs : (row.set i c).drop (j + 1) = r := by rw [List.drop_set_of_lt (by omega)]; exact h2
      obtain ⟨row', e1, e2, e3, e4⟩ := del_loop m0 m1 x n hn r (row.set i c) (i + 1) (j + 1) hs (by simpa using hr) (by omega) (by omega)
      have hf : (c :: r).filter (·.1 != x) = c :: r.filter (·.1 != x) := List.filter_cons_of_pos (by simpa using hq)
      have hl : i + 1 + (r.filter (·.1 != x)).length = i + (c :: r.filter (·.1 != x)).length := by simp; omega
      rw [hl] at e2 e3 e4
      rw [hf]
      refine ⟨row', e1, by rw [e2, set_take (by omega), List.append_assoc]; rfl, e3, ?_⟩
      refine s36_0_run _ _ _ _ _ _ ?_ e4
      unfold s36_0
      rw [decide_eq_true (by rw [List.length_map]; omega), cond_true, gd_of (by simp), hgi j (by omega), idxK_c h1, dP, pcK_of (dc_ok c x), kB_mk, show (c.1 == x) = false by simpa using hq, Bool.not_false, cond_true, gd_of (by simp), hgi i (by omega), idxK_c hd, dP, wi j (by omega), wi i (by omega), toNat_cast,
        show (row.map pV).set i (V.agg [V.int .i64 c.1, V.int .i64 c.2]) = (row.set i c).map pV by rw [List.map_set]; rfl]
theorem filter_pre {pre post : HQ} {c : Int × Int} {x : Int} (h1 : ∀ y ∈ pre, (y.1 == x) = false) (h2 : (c.1 == x) = true) : (pre ++ c :: post).filter (·.1 != x) = pre ++ post.filter (·.1 != x) := by
  rw [List.filter_append, List.filter_cons_of_neg (by simpa using h2), List.filter_eq_self.2 fun y hy => by have := h1 y hy; simpa using this]
theorem del_ok' (m0 : List V) (m1 : List (List (V × V))) (a : HQ) (x : Int) (ha : a.length <= 60000) :
    ∃ (k : Nat) (row : List V), row.take k = (a.filter (·.1 != x)).map pV /\ k <= row.length /\
      icC cfgB ⟨true, true⟩ 36 [.own 2, .fn 38 [.ptr 3 0 0]] [.arena 61 m0, .marena 58 m1, .row 63 (a.map pV) 0, .box 3 (.int .i64 x) false] = some (mk36 (k, m0, m1, row, x)) := by
  rcases idxF_spec (fun p : Int × Int => p.1 == x) a 0 with ⟨h1, h2⟩ | ⟨pre, c, post, h1, h2, h3, h4⟩
  · refine ⟨(a.map pV).length, a.map pV, ?_, by omega, ?_⟩
    · rw [List.take_of_length_le (by omega), List.filter_eq_self.2 fun y hy => by have := h2 y hy; simpa using this]
    · refine e36_run _ _ _ _ (o := .doneM ?v1 ?m1) ?h1 (.done ?n1)
      case h1 => unfold e36; rw [pcK_of (idxb_ok a x (by omega)), kI_mk, h1]; rfl
      case n1 =>
        have : mk36 ((a.map pV).length - 0, m0, m1, a.map pV, x) = mk36 ((a.map pV).length, m0, m1, a.map pV, x) := rfl
        rw [<- this]
        show _ = _
        kernel_rfl
  · have hk : a.length = pre.length + 1 + post.length := by rw [h1]; simp; omega
    have hd : a.drop (pre.length + 1) = post := by rw [h1]; simp [List.drop_append]
    obtain ⟨row', e1, e2, e3, e4⟩ := del_loop m0 m1 x a.length ha post a pre.length (pre.length + 1) hd rfl (by omega) (by omega)
    refine ⟨pre.length + (post.filter (·.1 != x)).length, delRow row' (pre.length + (post.filter (·.1 != x)).length), ?_, by rw [delRow_len (by omega)]; omega, ?_⟩
    · rw [delRow_take (by omega), e2]
      congr 1
      rw [h1, filter_pre h2 h3]
      simp
    · refine e36_run _ _ _ _ ?h2 ⟨_, _, e4, by kernel_rfl⟩
      case h2 =>
        unfold e36
        rw [pcK_of (idxb_ok a x (by omega)), kI_mk, h4, ibeq_f (by omega), cond_false]
        rw [show ((0 + pre.length : Nat) : Int) = ((pre.length : Nat) : Int) by simp, wi _ (by omega)]
section
variable {els : List V} {ms : List (List (V × V))} {lk ws : List (V × V)} {ix : Bs -> Nat} {L : List Lk} {W : WL} {nm : Bs} {e : Lk}
def comeQ : HQ -> HQ -> HQ × HQ × List Int
  | [], hs => (hs, [], [])
  | p :: q, hs => if canB hs p.1 p.2 then ((comeQ q (putA hs p.1 p.2)).1, (comeQ q (putA hs p.1 p.2)).2.1, p.1 :: (comeQ q (putA hs p.1 p.2)).2.2) else (hs, p :: q, [])
def delAll (W : WL) (l : List Int) : WL := l.foldl delA W
def setL (L : List Lk) (nm : Bs) (hs q : HQ) : List Lk := updL L nm fun e => { e with held := hs, q := q }
def comeL (L : List Lk) (W : WL) (nm : Bs) : List Lk × WL × List Int :=
  match getL (atL L nm) nm with
  | some e => (tidyL (setL (atL L nm) nm (comeQ e.q e.held).1 (comeQ e.q e.held).2.1) nm, delAll W (comeQ e.q e.held).2.2, (comeQ e.q e.held).2.2)
  | none => (L, W, [])
theorem getL_upd (f : Lk -> Lk) (hf : ∀ e, (f e).nm = e.nm) (n : Bs) : getL (updL L nm f) n = (getL L n).map fun e => if e.nm = nm then f e else e := by
  unfold getL updL
  rw [List.find?_map]
  have : ((fun e : Lk => e.nm == n) ∘ fun e => if e.nm = nm then f e else e) = fun e : Lk => e.nm == n := by
    funext x
    simp only [Function.comp]
    split
    · rw [hf]
    · rfl
  rw [this]
theorem getL_set (he : getL L nm = some e) (hs q : HQ) : getL (setL L nm hs q) nm = some { e with held := hs, q := q } := by
  unfold setL
  rw [getL_upd (fun e => { e with held := hs, q := q }) (fun _ => rfl), he, Option.map_some, if_pos (getL_some he).2]
theorem set_set (hs q hs' q' : HQ) : setL (setL L nm hs q) nm hs' q' = setL L nm hs' q' := by
  unfold setL updL
  rw [List.map_map]
  apply List.map_congr_left
  intro x _
  simp only [Function.comp]
  by_cases h : x.nm = nm
  · simp [h]
  · simp [h]
theorem set_same (hn : (nms L).Nodup) (he : getL L nm = some e) : setL L nm e.held e.q = L := by
  unfold setL updL
  conv => rhs; rw [<- List.map_id L]
  apply List.map_congr_left
  intro x hx
  split
  · rename_i h
    have := getL_of hn hx
    rw [h, he] at this
    cases this
    rfl
  · rfl
theorem Rep.set (h : Rep els ms lk ws ix L W) (he : getL L nm = some e) (hs q : HQ) : Rep (els.set (ix nm) (.agg [.hm 58 (ix nm), .sl (q.map pV)])) (ms.set (ix nm) (hs.map hE)) lk ws ix (setL L nm hs q) W :=
  h.upd he (fun e => { e with held := hs, q := q }) (fun _ => rfl)
theorem come_tail (h : Rep els ms lk ws ix L W) (he : getL L nm = some e) (out : List Int) {q : HQ} (hstop : e.q = q) (hc : q = [] ∨ ∃ p r, q = p :: r /\ canB e.held p.1 p.2 = false) :
    ∃ lk', Rep els ms lk' ws ix (tidyL L nm) W /\ Go kcB true 5 fa39 (.head 0 (T39_0 nm (ix nm) els ms lk ws (ints out))) (.doneM (.own 6) (tm els ms lk' ws ++ [.row 3 [] 0, .row 3 (ints out) 0])) := by
  obtain ⟨lk', h1, h2⟩ := tidy_ok h nm
  refine ⟨lk', h2, s39_0_run _ _ _ _ _ _ _ ?_ (.refl _)⟩
  unfold s39_0
  rw [h.ax he, dL, hstop]
  rcases hc with rfl | ⟨p, r, rfl, hc⟩
  · rw [decide_eq_false (by simp), cond_false, icM_of mk54_inj h1]; rfl
  · rw [decide_eq_true (by simp), cond_true, h.ax he, dL, hstop, idxK_map (show (p :: r)[0]? = some p from rfl), dP, h.can he, opt_mk, hc, cond_false, icM_of mk54_inj h1]; rfl
theorem come_loop : ∀ (q hs : HQ) (els : List V) (ms : List (List (V × V))) (L : List Lk) (W : WL) (ws : List (V × V)) (e : Lk) (out : List Int), Rep els ms lk ws ix L W -> getL L nm = some e -> e.q = q -> e.held = hs -> q.length + out.length <= 120000 ->
    ∃ els' ms' lk', Rep els' ms' lk' ((delAll W (comeQ q hs).2.2).map wE) ix (tidyL (setL L nm (comeQ q hs).1 (comeQ q hs).2.1) nm) (delAll W (comeQ q hs).2.2) /\
      Go kcB true 5 fa39 (.head 0 (T39_0 nm (ix nm) els ms lk ws (ints out))) (.doneM (.own 6) (tm els' ms' lk' ((delAll W (comeQ q hs).2.2).map wE) ++ [.row 3 [] 0, .row 3 (ints (out ++ (comeQ q hs).2.2)) 0]))
  | [], hs, els, ms, L, W, ws, e, out, h, he, hq, hh, hl => by
    obtain ⟨lk', h1, h2⟩ := come_tail h he out hq (.inl rfl)
    have hw := h.ws
    refine ⟨els, ms, lk', ?_, ?_⟩
    · show Rep els ms lk' (W.map wE) ix (tidyL (setL L nm hs []) nm) W
      rw [<- hh, <- hq, set_same h.nd he, <- hw]; exact h1
    · show Go kcB true 5 fa39 _ (.doneM (.own 6) (tm els ms lk' (W.map wE) ++ [.row 3 [] 0, .row 3 (ints (out ++ [])) 0]))
      rw [List.append_nil, <- hw]; exact h2
  | p :: q, hs, els, ms, L, W, ws, e, out, h, he, hq, hh, hl => by
    by_cases hc : canB hs p.1 p.2 = true
    · have h2 := (h.set he (putA hs p.1 p.2) q).setW (delA W p.1)
      have he2 := getL_set he (putA hs p.1 p.2) q
      obtain ⟨els', ms', lk', a1, a2⟩ := come_loop q (putA hs p.1 p.2) _ _ _ _ _ _ (out ++ [p.1]) h2 he2 rfl rfl (by simp at hl |-; omega)
      have e1 : comeQ (p :: q) hs = ((comeQ q (putA hs p.1 p.2)).1, (comeQ q (putA hs p.1 p.2)).2.1, p.1 :: (comeQ q (putA hs p.1 p.2)).2.2) := by
        conv => lhs; unfold comeQ
        rw [if_pos hc]
      rw [e1]
      rw [set_set] at a1
      refine ⟨els', ms', lk', a1, ?_⟩
      rw [List.append_assoc] at a2
      refine s39_0_run _ _ _ _ _ _ _ ?_ a2
      unfold s39_0
      rw [h.ax he, dL, hq, decide_eq_true (by simp), cond_true, h.ax he, dL, hq, idxK_map (show (p :: q)[0]? = some p from rfl), dP, h.can he, opt_mk, hh, hc, cond_true, h.ax he, dL, hq, idxK_map (show (p :: q)[0]? = some p from rfl), dP,
        h.ax he, dL, h.mx he, hh, put_a, opt_mk, h.ax he, dL, hq, gd_of (wflp _), gd_of (decide_eq_true (by simp)), h.ax he, dL, h.ws, del_a, opt_mk, gd_of (decide_eq_true (by simp [ints]; simp at hl; omega))]
      have e2 : (((p :: q).map pV).take ((p :: q).map pV).length).drop 1 = q.map pV := by rw [List.take_length]; rfl
      rw [e2]
      have e3 : ints out ++ [V.int .i64 p.1] = ints (out ++ [p.1]) := by simp [ints, iV]
      rw [e3]
    · have hc' : canB hs p.1 p.2 = false := by simpa using hc
      have e1 : comeQ (p :: q) hs = (hs, p :: q, []) := by
        conv => lhs; unfold comeQ
        rw [if_neg hc]
      rw [e1]
      obtain ⟨lk', h1, h2⟩ := come_tail h he out hq (.inr ⟨p, q, rfl, hh ▸ hc'⟩)
      have hw := h.ws
      refine ⟨els, ms, lk', ?_, ?_⟩
      · show Rep els ms lk' (W.map wE) ix (tidyL (setL L nm hs (p :: q)) nm) W
        rw [<- hh, <- hq, set_same h.nd he, <- hw]; exact h1
      · show Go kcB true 5 fa39 _ (.doneM (.own 6) (tm els ms lk' (W.map wE) ++ [.row 3 [] 0, .row 3 (ints (out ++ [])) 0]))
        rw [List.append_nil, <- hw]; exact h2
theorem come_ok (h : Rep els ms lk ws ix L W) {n : Nat} (hs : Sz n L) (nm : Bs) (hnm : Nm nm) :
    ∃ els' ms' lk' ix', icC cfgB ⟨true, false⟩ 39 [.ptr 2 0 0, .str nm] (tm els ms lk ws) = some (mk39 (els', ms', lk', (comeL L W nm).2.1.map wE, ints (comeL L W nm).2.2)) /\ Rep els' ms' lk' ((comeL L W nm).2.1.map wE) ix' (comeL L W nm).1 (comeL L W nm).2.1 := by
  obtain ⟨els1, ms1, lk1, ix1, a1, a2⟩ := at_ok h nm hnm
  obtain ⟨e, he, hor⟩ := atL_get L nm
  have hq : e.q.length <= 60000 := by
    rcases hor with h1 | ⟨_, rfl⟩
    · have := hs.q e (getL_some h1).1; have := hs.n; omega
    · simp [newL]
  obtain ⟨els', ms', lk', b1, b2⟩ := come_loop e.q e.held _ _ _ _ _ _ [] a2 he rfl rfl (by simp; omega)
  have hc : comeL L W nm = (tidyL (setL (atL L nm) nm (comeQ e.q e.held).1 (comeQ e.q e.held).2.1) nm, delAll W (comeQ e.q e.held).2.2, (comeQ e.q e.held).2.2) := by
    unfold comeL; rw [he]
  rw [hc]
  refine ⟨els', ms', lk', ix1, e39_run _ _ _ _ _ ?h2 ⟨_, _, b2, by kernel_rfl⟩, b1⟩
  case h2 => unfold e39; rw [icM_of mk40_inj a1]; rfl
end
section
variable {els : List V} {ms : List (List (V × V))} {lk ws : List (V × V)} {ix : Bs -> Nat} {L : List Lk} {W : WL} {nm : Bs} {e : Lk} {N : Nat}
theorem getA_mem {α : Type} {l : List (Int × α)} {o : Int} {a : α} (h : getA l o = some a) : (o, a) ∈ l := by
  obtain ⟨pre, post, e1, _⟩ := getA_split h
  rw [e1]; simp
theorem putA_mem {α : Type} {l : List (Int × α)} {o : Int} {a : α} {p : Int × α} (h : p ∈ putA l o a) : p ∈ l ∨ p = (o, a) := by
  induction l with
  | nil => simp [putA] at h; exact .inr h
  | cons x l ih =>
    unfold putA at h
    split at h
    · rename_i hx
      have hx : o = x.1 := by simpa using hx
      rcases List.mem_cons.1 h with rfl | h
      · exact .inr (by rw [hx])
      · exact .inl (by simp [h])
    · rcases List.mem_cons.1 h with rfl | h
      · exact .inl (by simp)
      · rcases ih h with h | h
        · exact .inl (by simp [h])
        · exact .inr h
theorem putA_len {α : Type} (l : List (Int × α)) (o : Int) (a : α) : (putA l o a).length <= l.length + 1 := by
  induction l with
  | nil => simp [putA]
  | cons x l ih => unfold putA; split <;> simp <;> omega
theorem delA_sub {α : Type} (l : List (Int × α)) (o : Int) : (delA l o).Sublist l := by
  induction l with
  | nil => exact .refl _
  | cons x l ih => unfold delA; split <;> simp [ih]
theorem mem_upd {f : Lk -> Lk} {x : Lk} (h : x ∈ updL L nm f) : ∃ y ∈ L, (y.nm = nm /\ x = f y) ∨ (y.nm ≠ nm /\ x = y) := by
  obtain ⟨y, hy, rfl⟩ := List.mem_map.1 h
  by_cases hn : y.nm = nm
  · rw [if_pos hn]; exact ⟨y, hy, .inl ⟨hn, rfl⟩⟩
  · rw [if_neg hn]; exact ⟨y, hy, .inr ⟨hn, rfl⟩⟩
abbrev I64 (n : Int) : Prop := -9223372036854775808 <= n /\ n <= 9223372036854775807
theorem Sz.set (h : Sz N L) {hs q : HQ} (hl : hs.length + q.length <= N) (h1 : ∀ p ∈ hs, I64 p.1) (h2 : ∀ p ∈ q, I64 p.1) : Sz N (setL L nm hs q) := by
  refine ⟨h.n, by simp [setL, updL]; exact h.len, ?_, ?_, ?_⟩ <;> intro x hx <;> obtain ⟨y, hy, ⟨_, rfl⟩ | ⟨_, rfl⟩⟩ := mem_upd hx
  · exact hl
  · exact h.hq _ hy
  · exact h1
  · exact h.rh _ hy
  · exact h2
  · exact h.rq _ hy
theorem Sz.at (h : Sz N L) : (∀ e ∈ atL L nm, e.held.length + e.q.length <= N /\ (∀ p ∈ e.held, I64 p.1) /\ ∀ p ∈ e.q, I64 p.1) /\ (getL L nm = none -> (atL L nm).length = L.length + 1) /\ ((getL L nm).isSome -> (atL L nm) = L) := by
  refine ⟨?_, ?_, ?_⟩
  · intro e he
    unfold atL at he
    split at he
    · exact ⟨h.hq e he, h.rh e he, h.rq e he⟩
    · rcases List.mem_append.1 he with he | he
      · exact ⟨h.hq e he, h.rh e he, h.rq e he⟩
      · simp only [List.mem_singleton] at he
        subst he
        exact ⟨by simp [newL], by simp [newL], by simp [newL]⟩
  · intro hn; unfold atL; rw [hn]; simp
  · intro hn; unfold atL
    cases hg : getL L nm with
    | none => rw [hg] at hn; cases hn
    | some _ => rfl
theorem comeQ_sz : ∀ (q hs : HQ), (comeQ q hs).1.length + (comeQ q hs).2.1.length <= hs.length + q.length /\ (comeQ q hs).2.2.length <= q.length /\
    ((∀ p ∈ hs, I64 p.1) -> (∀ p ∈ q, I64 p.1) -> (∀ p ∈ (comeQ q hs).1, I64 p.1) /\ ∀ p ∈ (comeQ q hs).2.1, I64 p.1)
  | [], hs => ⟨by simp [comeQ], by simp [comeQ], fun h _ => ⟨h, by simp [comeQ]⟩⟩
  | p :: q, hs => by
    unfold comeQ
    split
    · obtain ⟨h1, h2, h3⟩ := comeQ_sz q (putA hs p.1 p.2)
      have := putA_len hs p.1 p.2
      refine ⟨by simp only [List.length_cons]; omega, by simp only [List.length_cons]; omega, fun a b => h3 (fun x hx => ?_) fun x hx => b x (by simp [hx])⟩
      rcases putA_mem hx with hx | rfl
      · exact a x hx
      · exact b p (by simp)
    · exact ⟨Nat.le_refl _, by simp, fun a b => ⟨a, b⟩⟩
theorem Sz.cut (h : Sz N L) : Sz N (cutL L nm) :=
  ⟨h.n, Nat.le_trans (List.length_filter_le _ _) h.len, fun e he => h.hq e (List.mem_filter.1 he).1, fun e he => h.rh e (List.mem_filter.1 he).1, fun e he => h.rq e (List.mem_filter.1 he).1⟩
theorem Sz.tidy (h : Sz N L) : Sz N (tidyL L nm) := by
  unfold tidyL
  split
  · split
    · exact h.cut
    · exact h
  · exact h
theorem cut_new (hn : getL L nm = none) : cutL (L ++ [newL nm]) nm = L := by
  unfold cutL
  rw [List.filter_append, List.filter_eq_self.2, List.filter_cons_of_neg (by simp [newL]), List.filter_nil, List.append_nil]
  intro x hx
  have := getL_none hn
  have : x.nm ≠ nm := fun e => this (List.mem_map.2 ⟨x, hx, e⟩)
  simpa using this
theorem come_none (hn : getL L nm = none) : comeL L W nm = (L, W, []) := by
  have h1 : atL L nm = L ++ [newL nm] := by unfold atL; rw [hn]
  have h2 := getL_add hn
  unfold comeL
  rw [h1, h2]
  show (tidyL (setL (L ++ [newL nm]) nm [] []) nm, W, []) = _
  have h3 : setL (L ++ [newL nm]) nm [] [] = L ++ [newL nm] := by
    unfold setL updL
    rw [List.map_append]
    congr 1
    · conv => rhs; rw [<- List.map_id L]
      apply List.map_congr_left
      intro x hx
      have := getL_none hn
      have : x.nm ≠ nm := fun e => this (List.mem_map.2 ⟨x, hx, e⟩)
      rw [if_neg this]; rfl
    · simp [newL]
  rw [h3]
  unfold tidyL
  rw [h2]
  show ((if [] = [] /\ [] = [] then cutL (L ++ [newL nm]) nm else L ++ [newL nm]), W, []) = _
  rw [if_pos ⟨rfl, rfl⟩, cut_new hn]
theorem come_some (he : getL L nm = some e) : comeL L W nm = (tidyL (setL L nm (comeQ e.q e.held).1 (comeQ e.q e.held).2.1) nm, delAll W (comeQ e.q e.held).2.2, (comeQ e.q e.held).2.2) := by
  have h1 : atL L nm = L := by unfold atL; rw [he]
  unfold comeL
  rw [h1, he]
theorem Sz.come (h : Sz N L) : Sz N (comeL L W nm).1 /\ (comeL L W nm).2.2.length <= N := by
  cases hn : getL L nm with
  | none => rw [come_none hn]; exact ⟨h, by simp⟩
  | some e =>
    rw [come_some hn]
    have hm := (getL_some hn).1
    obtain ⟨h1, h2, h3⟩ := comeQ_sz e.q e.held
    obtain ⟨h4, h5⟩ := h3 (h.rh e hm) (h.rq e hm)
    have := h.hq e hm
    exact ⟨(h.set (by omega) h4 h5).tidy, by dsimp only; omega⟩
def freeA (L : List Lk) (W : WL) (o : Int) (nm : Bs) : Int × List Lk × WL × List Int :=
  if modeA L o nm = 0 then (7, L, W, []) else if getA W o = some nm then (9, L, W, []) else
  match getL L nm with
  | some e => (0, (comeL (setL L nm (delA e.held o) e.q) W nm).1, (comeL (setL L nm (delA e.held o) e.q) W nm).2.1, (comeL (setL L nm (delA e.held o) e.q) W nm).2.2)
  | none => (7, L, W, [])
theorem modeA_some {o : Int} (h : modeA L o nm ≠ 0) : ∃ e, getL L nm = some e := by
  unfold modeA at h
  cases hg : getL L nm with
  | some e => exact ⟨e, rfl⟩
  | none => rw [hg] at h; exact absurd rfl h
theorem Sz.del (h : Sz N L) (he : getL L nm = some e) (o : Int) : Sz N (setL L nm (delA e.held o) e.q) := by
  have hm := (getL_some he).1
  have hsub := delA_sub e.held o
  have := h.hq e hm
  have := hsub.length_le
  exact h.set (by omega) (fun p hp => h.rh e hm p (hsub.subset hp)) (h.rq e hm)
theorem upd_eta (h : Rep els ms lk ws ix L W) (he : getL L nm = some e) : els.set (ix nm) (V.agg [.hm 58 (ix nm), .sl (e.q.map pV)]) = els := by
  obtain ⟨h1, h2⟩ := getL_some he
  have b := h.hl e h1
  rw [h2] at b
  exact set_self b
theorem free_ok (h : Rep els ms lk ws ix L W) (hs : Sz N L) (o : Int) (nm : Bs) (hnm : Nm nm) :
    ∃ els' ms' lk' ix', icC cfgB ⟨true, false⟩ 24 [.ptr 2 0 0, .int .i64 o, .str nm] (tm els ms lk ws) = some (mk24 ((freeA L W o nm).1, els', ms', lk', (freeA L W o nm).2.2.1.map wE, ints (freeA L W o nm).2.2.2)) /\
      Rep els' ms' lk' ((freeA L W o nm).2.2.1.map wE) ix' (freeA L W o nm).2.1 (freeA L W o nm).2.2.1 := by
  have hmo := mode_ok h o nm
  have hwe := h.ws
  by_cases h1 : modeA L o nm = 0
  · have hf : freeA L W o nm = (7, L, W, []) := by unfold freeA; rw [if_pos h1]
    rw [hf]
    refine ⟨els, ms, lk, ix, e24_run _ _ _ _ _ _ (o := .doneM ?v1 ?m1) ?h1 (.done ?n1), hwe ▸ h⟩
    case h1 => unfold e24; rw [icM_of mk14_inj hmo]; dsimp only; rw [ibeq_t h1, cond_true]
    case n1 => rw [hwe]; kernel_rfl
  obtain ⟨e, he⟩ := modeA_some h1
  by_cases h2 : getA W o = some nm
  · have hf : freeA L W o nm = (9, L, W, []) := by unfold freeA; rw [if_neg h1, if_pos h2]
    rw [hf]
    refine ⟨els, ms, lk, ix, e24_run _ _ _ _ _ _ (o := .doneM ?v2 ?m2) ?h2 (.done ?n2), hwe ▸ h⟩
    case h2 => unfold e24; rw [icM_of mk14_inj hmo]; dsimp only; rw [ibeq_f h1, cond_false, h.wf, h2, elimK_s, kS_mk, beq_self_eq_true, cond_true]
    case n2 => rw [hwe]; kernel_rfl
  · have hf : freeA L W o nm = (0, (comeL (setL L nm (delA e.held o) e.q) W nm).1, (comeL (setL L nm (delA e.held o) e.q) W nm).2.1, (comeL (setL L nm (delA e.held o) e.q) W nm).2.2) := by unfold freeA; rw [if_neg h1, if_neg h2, he]
    rw [hf]
    obtain ⟨els1, ms1, lk1, ix1, a1, a2⟩ := at_ok h nm hnm
    have hat : atL L nm = L := by unfold atL; rw [he]
    rw [hat] at a2
    have b2 := a2.set he (delA e.held o) e.q
    rw [upd_eta a2 he] at b2
    obtain ⟨els', ms', lk', ix', c1, c2⟩ := come_ok b2 (hs.del he o) nm hnm
    refine ⟨els', ms', lk', ix', e24_run _ _ _ _ _ _ (o := .doneM ?v3 ?m3) ?h3 (.done ?n3), c2⟩
    case h3 =>
      unfold e24
      rw [icM_of mk14_inj hmo]; dsimp only; rw [ibeq_f h1, cond_false, h.wf]
      have tail : ∀ (kk : R), (icM cfgB ⟨true, false⟩ mk40 40 [V.ptr 2 0 0, V.str nm] (tm els ms lk ws) fun L_1 =>
          idxK L_1.2.1 L_1.1 fun v => d61 v fun held queue => idxK L_1.2.2.1 held fun mm => opt (mapDel mm (V.int .i64 o)) fun es =>
          icM cfgB ⟨true, false⟩ mk39 39 [V.ptr 2 0 0, V.str nm] [O.arena 61 L_1.2.1, O.marena 58 ((L_1.2.2.1).set held es), O.box 50 (V.agg [V.mp 3, V.mp 4]) false, O.map L_1.2.2.2.1, O.map L_1.2.2.2.2] fun L_2 =>
          some (.doneM (V.tup [V.own 6, V.int .i64 0]) [O.arena 61 L_2.1, O.marena 58 L_2.2.1, O.box 50 (V.agg [V.mp 3, V.mp 4]) false, O.map L_2.2.2.1, O.map L_2.2.2.2.1, O.row 3 [] 0, O.row 3 L_2.2.2.2.2 0])) =
          some (.doneM (V.tup [V.own 6, V.int .i64 0]) (tm els' ms' lk' ((comeL (setL L nm (delA e.held o) e.q) W nm).2.1.map wE) ++ [O.row 3 [] 0, O.row 3 (ints (comeL (setL L nm (delA e.held o) e.q) W nm).2.2) 0])) := by
        intro _
        rw [icM_of mk40_inj a1]
        dsimp only
        rw [a2.ax he, dL, a2.mx he, del_a, opt_mk, icM_of mk39_inj c1]
        rfl
      cases hg : getA W o with
      | none => rw [elimK_n]; exact tail none
      | some n2 =>
        have hne : (n2 == nm) = false := by
          rw [hg] at h2
          simpa using fun e => h2 (by rw [e])
        rw [elimK_s, kS_mk, hne, cond_false]; exact tail none
    case n3 => kernel_rfl
end
section
variable {els : List V} {ms : List (List (V × V))} {lk ws : List (V × V)} {ix : Bs -> Nat} {L : List Lk} {W : WL} {nm : Bs} {e : Lk} {N : Nat}
def dropE (o : Int) (e : Lk) : Lk := { e with held := delA e.held o, q := e.q.filter (·.1 != o) }
def dropK (S : List Bs) (o : Int) (L : List Lk) : List Lk := L.map fun e => if e.nm ∈ S then dropE o e else e
def dropL (L : List Lk) (o : Int) : List Lk := L.map (dropE o)
def comeAll : List Bs -> List Lk -> WL -> List Lk × WL × List Int
  | [], L, W => (L, W, [])
  | n :: ks, L, W => ((comeAll ks (comeL L W n).1 (comeL L W n).2.1).1, (comeAll ks (comeL L W n).1 (comeL L W n).2.1).2.1, (comeL L W n).2.2 ++ (comeAll ks (comeL L W n).1 (comeL L W n).2.1).2.2)
def dropA (L : List Lk) (W : WL) (o : Int) : List Lk × WL × List Int := comeAll (srtS (nms L)) (dropL L o) (delA W o)
def WQ (L : List Lk) (W : WL) : Prop := ∀ e ∈ L, ∀ p ∈ e.q, getA W p.1 = some e.nm
theorem nms_drop (o : Int) : nms (dropL L o) = nms L := by
  unfold nms dropL
  rw [List.map_map]
  rfl
theorem dropK_nil (o : Int) : dropK [] o L = L := by
  unfold dropK
  simp
theorem dropK_all {S : List Bs} (h : ∀ x ∈ nms L, x ∈ S) (o : Int) : dropK S o L = dropL L o := by
  unfold dropK dropL
  apply List.map_congr_left
  intro x hx
  rw [if_pos (h _ (List.mem_map.2 ⟨x, hx, rfl⟩))]
theorem dropK_get {S : List Bs} (hn : nm ∉ S) (o : Int) : getL (dropK S o L) nm = getL L nm := by
  unfold getL dropK
  rw [List.find?_map]
  have : ((fun e : Lk => e.nm == nm) ∘ fun e => if e.nm ∈ S then dropE o e else e) = fun e : Lk => e.nm == nm := by
    funext x
    simp only [Function.comp]
    split <;> rfl
  rw [this]
  cases hf : L.find? fun e => e.nm == nm with
  | none => rfl
  | some e =>
    have : e.nm = nm := by simpa using List.find?_some hf
    rw [Option.map_some, if_neg (this ▸ hn)]
theorem dropK_step {S : List Bs} (hn : nm ∉ S) (o : Int) : dropK (S ++ [nm]) o L = updL (dropK S o L) nm (dropE o) := by
  unfold updL dropK
  rw [List.map_map]
  apply List.map_congr_left
  intro x _
  simp only [Function.comp]
  by_cases h1 : x.nm = nm
  · have h2 : x.nm ∉ S := h1 ▸ hn
    rw [if_pos (by simp [h1]), if_neg h2, if_pos h1]
  · by_cases h2 : x.nm ∈ S
    · rw [if_pos (by simp [h2]), if_pos h2, if_neg (show (dropE o x).nm ≠ nm from h1)]
    · rw [if_neg (by simp [h1, h2]), if_neg h2, if_neg h1]
theorem upd_id (hn : (nms L).Nodup) (he : getL L nm = some e) {f : Lk -> Lk} (hf : f e = e) : updL L nm f = L := by
  unfold updL
  conv => rhs; rw [<- List.map_id L]
  apply List.map_congr_left
  intro x hx
  split
  · rename_i h
    have := getL_of hn hx
    rw [h, he] at this
    cases this
    exact hf
  · rfl
theorem delA_none {α : Type} {l : List (Int × α)} {o : Int} (h : getA l o = none) : delA l o = l := by
  induction l with
  | nil => rfl
  | cons p l ih =>
    rw [getA_cons] at h
    split at h
    · cases h
    · rename_i hp
      unfold delA
      rw [if_neg (by simpa using fun e => hp e.symm), ih h]
theorem dropE_id {o : Int} (h1 : getA e.held o = none) (h2 : ∀ p ∈ e.q, p.1 ≠ o) : dropE o e = e := by
  unfold dropE
  rw [delA_none h1, List.filter_eq_self.2 fun p hp => by simpa using h2 p hp]
theorem clone_w (q : HQ) (hq : q.length <= 60000) : pcW cfgB 37 [.sl (q.map pV)] = some (.fr 63 (q.map pV)) := by
  refine pcW_prim (cfg := cfgB) (g := cloneP 63 2) rfl ?_
  exact if_pos ⟨wflp q, flat_map fun _ => rfl, by simp; omega⟩
theorem kF_m (l : List V) (k : List V -> R) : kF 63 (.fr 63 l) k = k l := rfl
theorem strV_get {ks : List Bs} {k : Nat} {c : Bs} (h : ks[k]? = some c) (q : V -> R) : idxK (ks.map sV) ((k : Int)).toNat q = q (.str c) := idxK_c h
theorem Rep.drop1 (h : Rep els ms lk ws ix L W) (he : getL L nm = some e) (o : Int) : Rep (els.set (ix nm) (.agg [.hm 58 (ix nm), .sl ((e.q.filter (·.1 != o)).map pV)])) (ms.set (ix nm) ((delA e.held o).map hE)) lk ws ix (updL L nm (dropE o)) W :=
  h.upd he (dropE o) (fun _ => rfl)
theorem drop_step (h : Rep els ms lk ws ix L W) (hs : Sz N L) (hwq : WQ L W) (o : Int) {ks : List Bs} (hks : ks.length <= 60000) {k : Nat} (hk : ks[k]? = some nm) (he : getL L nm = some e) :
    ∃ els' ms', Rep els' ms' lk ws ix (updL L nm (dropE o)) W /\ s18_0 (ks.length : Int) (k : Int) els ms lk ws o (ks.map sV) = some (.head 0 (T18_0 (ks.length : Int) ((k + 1 : Nat) : Int) els' ms' lk ws o (ks.map sV))) := by
  have hkl := (List.getElem?_eq_some_iff.1 hk).1
  have hm := (getL_some he).1
  have hql : e.q.length <= 60000 := by have := hs.q e hm; have := hs.n; omega
  have h2 := h.drop1 he o
  obtain ⟨kk, row, d1, d2, d3⟩ := del_ok' els (ms.set (ix nm) ((delA e.held o).map hE)) e.q o hql
  have hg : gd (decide (0 + kk <= row.length)) = fun q => q := by funext q; exact gd_of (decide_eq_true (by omega))
  have hrow : ((row.drop 0).take kk) = (e.q.filter (·.1 != o)).map pV := by rw [List.drop_zero]; exact d1
  cases hgh : getA e.held o with
  | some m =>
    refine ⟨_, _, h2, ?_⟩
    unfold s18_0
    rw [decide_eq_true (by omega), cond_true, gd_of (by simp), gd_of (decide_eq_true (by simp; omega)), strV_get hk, kS_mk, h.mf he, kP_mk, h.ax he, dL, h.mx he, mfK_a, hgh, elimK_s, kI_mk,
      h.ax he, dL, h.mx he, del_a, opt_mk, h.ax he, dL, pcK_of (clone_w e.q hql), kF_m, icM_of mk36_inj d3]
    dsimp only
    rw [hg, h.ax he, dL, hrow, wi k (by omega)]
  | none =>
    cases hgw : getA W o with
    | none =>
      by_cases hc : nm = []
      · refine ⟨_, _, h2, ?_⟩
        unfold s18_0
        rw [decide_eq_true (by omega), cond_true, gd_of (by simp), gd_of (decide_eq_true (by simp; omega)), strV_get hk, kS_mk, h.mf he, kP_mk, h.ax he, dL, h.mx he, mfK_a, hgh, elimK_n, h.wf, hgw, elimK_n,
          show (([] : List UInt8) == nm) = true by simp [hc], Bool.not_true, cond_false,
          h.ax he, dL, h.mx he, del_a, opt_mk, h.ax he, dL, pcK_of (clone_w e.q hql), kF_m, icM_of mk36_inj d3]
        dsimp only
        rw [hg, h.ax he, dL, hrow, wi k (by omega)]
      · have hid : dropE o e = e := dropE_id hgh fun p hp e1 => by have := hwq e hm p hp; rw [e1, hgw] at this; cases this
        refine ⟨els, ms, by rw [upd_id h.nd he hid]; exact h, ?_⟩
        unfold s18_0
        rw [decide_eq_true (by omega), cond_true, gd_of (by simp), gd_of (decide_eq_true (by simp; omega)), strV_get hk, kS_mk, h.mf he, kP_mk, h.ax he, dL, h.mx he, mfK_a, hgh, elimK_n, h.wf, hgw, elimK_n,
          show (([] : List UInt8) == nm) = false by simpa using hc, Bool.not_false, cond_true, wi k (by omega)]
    | some n2 =>
      by_cases hc : n2 = nm
      · refine ⟨_, _, h2, ?_⟩
        unfold s18_0
        rw [decide_eq_true (by omega), cond_true, gd_of (by simp), gd_of (decide_eq_true (by simp; omega)), strV_get hk, kS_mk, h.mf he, kP_mk, h.ax he, dL, h.mx he, mfK_a, hgh, elimK_n, h.wf, hgw, elimK_s, kS_mk,
          show (n2 == nm) = true by simp [hc], Bool.not_true, cond_false,
          h.ax he, dL, h.mx he, del_a, opt_mk, h.ax he, dL, pcK_of (clone_w e.q hql), kF_m, icM_of mk36_inj d3]
        dsimp only
        rw [hg, h.ax he, dL, hrow, wi k (by omega)]
      · have hid : dropE o e = e := dropE_id hgh fun p hp e1 => by
          have := hwq e hm p hp
          rw [e1, hgw] at this
          exact hc ((Option.some.inj this).trans (getL_some he).2)
        refine ⟨els, ms, by rw [upd_id h.nd he hid]; exact h, ?_⟩
        unfold s18_0
        rw [decide_eq_true (by omega), cond_true, gd_of (by simp), gd_of (decide_eq_true (by simp; omega)), strV_get hk, kS_mk, h.mf he, kP_mk, h.ax he, dL, h.mx he, mfK_a, hgh, elimK_n, h.wf, hgw, elimK_s, kS_mk,
          show (n2 == nm) = false by simpa using hc, Bool.not_false, cond_true, wi k (by omega)]
theorem dropK_sz (hs : Sz N L) (S : List Bs) (o : Int) : Sz N (dropK S o L) := by
  have key : ∀ e ∈ dropK S o L, ∃ y ∈ L, (e = y ∨ e = dropE o y) := by
    intro e he
    obtain ⟨y, hy, rfl⟩ := List.mem_map.1 he
    refine ⟨y, hy, ?_⟩
    split
    · exact .inr rfl
    · exact .inl rfl
  have sub : ∀ y : Lk, (dropE o y).held.Sublist y.held /\ (dropE o y).q.Sublist y.q := fun y => ⟨delA_sub _ _, List.filter_sublist⟩
  refine ⟨hs.n, by simp [dropK]; exact hs.len, ?_, ?_, ?_⟩ <;> intro e he <;> obtain ⟨y, hy, rfl | rfl⟩ := key e he
  · exact hs.hq _ hy
  · have := hs.hq y hy; have := (sub y).1.length_le; have := (sub y).2.length_le; omega
  · exact hs.rh _ hy
  · exact fun p hp => hs.rh y hy p ((sub y).1.subset hp)
  · exact hs.rq _ hy
  · exact fun p hp => hs.rq y hy p ((sub y).2.subset hp)
theorem dropK_wq (hw : WQ L W) (S : List Bs) (o : Int) : WQ (dropK S o L) W := by
  intro e he p hp
  obtain ⟨y, hy, rfl⟩ := List.mem_map.1 he
  by_cases h1 : y.nm ∈ S
  · rw [if_pos h1] at hp |-
    exact hw y hy p (List.mem_filter.1 hp).1
  · rw [if_neg h1] at hp |-
    exact hw y hy p hp
theorem drop_loop0 (hs : Sz N L) (hwq : WQ L W) (hnd : (nms L).Nodup) (o : Int) {ks : List Bs} (hks : ks.length <= 60000) (hkn : ks.Nodup) (hin : ∀ x ∈ ks, x ∈ nms L) : ∀ (r : List Bs) (k : Nat) (els : List V) (ms : List (List (V × V))), ks.drop k = r -> k <= ks.length -> Rep els ms lk ws ix (dropK (ks.take k) o L) W ->
    ∃ els' ms', Rep els' ms' lk ws ix (dropK ks o L) W /\ ∀ o'', Go kcB true 5 fa18 (.head 0 (T18_0 (ks.length : Int) (ks.length : Int) els' ms' lk ws o (ks.map sV))) o'' -> Go kcB true 5 fa18 (.head 0 (T18_0 (ks.length : Int) (k : Int) els ms lk ws o (ks.map sV))) o''
  | [], k, els, ms, hd, hk, h => by
    have hk' : ks.length <= k := List.drop_eq_nil_iff.1 hd
    have : k = ks.length := by omega
    subst this
    rw [List.take_length] at h
    exact ⟨els, ms, h, fun _ h => h⟩
  | c :: r, k, els, ms, hd, hk, h => by
    obtain ⟨h1, h2, h3⟩ := drop_cons hd
    have hc : c ∉ ks.take k := by
      intro hm
      obtain ⟨i, hi⟩ := List.getElem?_of_mem hm
      rw [List.getElem?_take] at hi
      split at hi
      · rename_i hik
        have hil := (List.getElem?_eq_some_iff.1 hi).1
        have e1 := (List.getElem?_eq_some_iff.1 hi).2
        have e2 := (List.getElem?_eq_some_iff.1 h1).2
        exact (List.pairwise_iff_getElem.1 hkn i k hil h3 hik) (e1.trans e2.symm)
      · cases hi
    obtain ⟨e, he⟩ := getL_mem (hin c (List.mem_of_getElem? h1))
    have he2 : getL (dropK (ks.take k) o L) c = some e := by rw [dropK_get hc]; exact he
    obtain ⟨els', ms', a1, a2⟩ := drop_step h (dropK_sz hs _ o) (dropK_wq hwq _ o) o hks h1 he2
    rw [<- dropK_step hc, show ks.take k ++ [c] = ks.take (k + 1) by rw [List.take_add_one, h1]; rfl] at a1
    obtain ⟨els2, ms2, b1, b2⟩ := drop_loop0 hs hwq hnd o hks hkn hin r (k + 1) els' ms' h2 (by omega) a1
    exact ⟨els2, ms2, b1, fun o'' hg => s18_0_run _ _ _ _ _ _ _ _ a2 (b2 o'' hg)⟩
theorem wfl1 (l : List Int) : wfl 1 (ints l) = true := wfl_map fun _ => rfl
theorem drop_loop1 {ks : List Bs} (hks : ks.length <= 4000) (hnm : ∀ x ∈ ks, Nm x) : ∀ (r : List Bs) (k : Nat) (els : List V) (ms : List (List (V × V))) (lk ws : List (V × V)) (ix : Bs -> Nat) (L : List Lk) (W : WL) (out : List Int), ks.drop k = r -> k <= ks.length -> Rep els ms lk ws ix L W -> Sz N L -> out.length <= k * 4000 ->
    ∃ els' ms' lk' ix', Rep els' ms' lk' ((comeAll r L W).2.1.map wE) ix' (comeAll r L W).1 (comeAll r L W).2.1 /\
      Go kcB true 5 fa18 (.head 1 (T18_1 (ks.length : Int) (k : Int) els ms lk ws (ints out) (ks.map sV))) (.doneM (.own 6) (tm els' ms' lk' ((comeAll r L W).2.1.map wE) ++ [.row 3 [] 0, .row 3 (ints (out ++ (comeAll r L W).2.2)) 0, .row 9 (ks.map sV) 0]))
  | [], k, els, ms, lk, ws, ix, L, W, out, hd, hk, h, hs, ho => by
    have hk' : ks.length <= k := List.drop_eq_nil_iff.1 hd
    have hw := h.ws
    refine ⟨els, ms, lk, ix, by show Rep els ms lk (W.map wE) ix L W; exact hw ▸ h, ?_⟩
    show Go kcB true 5 fa18 _ (.doneM (.own 6) (tm els ms lk (W.map wE) ++ [.row 3 [] 0, .row 3 (ints (out ++ [])) 0, .row 9 (ks.map sV) 0]))
    rw [List.append_nil, <- hw]
    refine s18_1_run _ _ _ _ _ _ _ _ ?_ (.refl _)
    unfold s18_1
    rw [decide_eq_false (by omega), cond_false]; rfl
  | c :: r, k, els, ms, lk, ws, ix, L, W, out, hd, hk, h, hs, ho => by
    obtain ⟨h1, h2, h3⟩ := drop_cons hd
    obtain ⟨els1, ms1, lk1, ix1, a1, a2⟩ := come_ok h hs c (hnm c (List.mem_of_getElem? h1))
    obtain ⟨s1, s2⟩ := hs.come (W := W) (nm := c)
    have := hs.n
    obtain ⟨els', ms', lk', ix', b1, b2⟩ := drop_loop1 hks hnm r (k + 1) els1 ms1 lk1 _ ix1 (comeL L W c).1 (comeL L W c).2.1 (out ++ (comeL L W c).2.2) h2 (by omega) a2 s1 (by simp; omega)
    refine ⟨els', ms', lk', ix', b1, ?_⟩
    rw [List.append_assoc] at b2
    refine s18_1_run _ _ _ _ _ _ _ _ ?_ b2
    unfold s18_1
    rw [decide_eq_true (by omega), cond_true, gd_of (by simp), gd_of (decide_eq_true (by simp; omega)), strV_get h1, kS_mk, icM_of mk39_inj a1]
    dsimp only
    rw [gd_of (wfl1 _), gd_of (decide_eq_true (by simp [ints]; omega)), wi k (by omega), show ints out ++ ints (comeL L W c).2.2 = ints (out ++ (comeL L W c).2.2) by simp [ints]]
theorem drop_ok (h : Rep els ms lk ws ix L W) (hs : Sz N L) (hwq : WQ L W) (o : Int) :
    ∃ els' ms' lk' ix', icC cfgB ⟨true, false⟩ 18 [.ptr 2 0 0, .int .i64 o] (tm els ms lk ws) = some (mk18 (els', ms', lk', (dropA L W o).2.1.map wE, ints (dropA L W o).2.2)) /\
      Rep els' ms' lk' ((dropA L W o).2.1.map wE) ix' (dropA L W o).1 (dropA L W o).2.1 := by
  have hl : (srtS (nms L)).length <= 4000 := by have := hs.len; have := hs.n; rw [srtS_len]; simp [nms]; omega
  have hk : keyStrs lk = some (nms L) := by rw [h.lk]; exact keyStrs_l ix _ h.nms
  have hnd : (srtS (nms L)).Nodup := (List.mergeSort_perm _ _).nodup_iff.2 h.nd
  obtain ⟨els1, ms1, a1, a2⟩ := drop_loop0 hs hwq h.nd o (ks := srtS (nms L)) (by omega) hnd (fun x hx => srtS_mem.1 hx) (srtS (nms L)) 0 els ms rfl (by omega) (by rw [List.take_zero, dropK_nil]; exact h)
  rw [dropK_all (fun x hx => srtS_mem.2 hx)] at a1
  have a3 := a1.setW (delA W o)
  have hs2 : Sz N (dropL L o) := by have := dropK_sz hs (nms L) o; rwa [dropK_all (fun x hx => hx)] at this
  obtain ⟨els', ms', lk', ix', b1, b2⟩ := drop_loop1 (ks := srtS (nms L)) hl (fun x hx => h.nms x (srtS_mem.1 hx)) (srtS (nms L)) 0 els1 ms1 lk _ ix (dropL L o) (delA W o) [] rfl (by omega) a3 hs2 (by simp)
  refine ⟨els', ms', lk', ix', e18_run _ _ _ _ _ ?h2 ⟨_, _, a2 _ (s18_0_run _ _ _ _ _ _ _ _ ?h3 b2), by kernel_rfl⟩, b1⟩
  case h2 =>
    unfold e18
    rw [hk, opt_mk, gd_of (decide_eq_true (by rw [srtS_len] at hl; omega)), List.length_map]; rfl
  case h3 =>
    unfold s18_0
    rw [decide_eq_false (by omega), cond_false, h.ws, del_a, opt_mk, hk, opt_mk, gd_of (decide_eq_true (by rw [srtS_len] at hl; omega)), List.length_map]; rfl
end
theorem dups_len (l : List Int) : l.eraseDups.length <= l.length := by
  have : ∀ n (l : List Int), l.length <= n -> l.eraseDups.length <= l.length := by
    intro n
    induction n with
    | zero => intro l h; have : l = [] := List.eq_nil_of_length_eq_zero (by omega); subst this; exact Nat.le_refl _
    | succ n ih =>
      intro l h
      cases l with
      | nil => exact Nat.le_refl _
      | cons a l =>
        rw [List.eraseDups_cons]
        have h1 := ih (l.filter fun b => !b == a) (by have := List.length_filter_le (fun b => !b == a) l; simp at h; omega)
        have := List.length_filter_le (fun b => !b == a) l
        simp only [List.length_cons]; omega
  exact this _ l (Nat.le_refl _)
theorem dups_nodup (l : List Int) : l.eraseDups.Nodup := by
  have : ∀ n (l : List Int), l.length <= n -> l.eraseDups.Nodup := by
    intro n
    induction n with
    | zero => intro l h; have : l = [] := List.eq_nil_of_length_eq_zero (by omega); subst this; exact List.nodup_nil
    | succ n ih =>
      intro l h
      cases l with
      | nil => exact List.nodup_nil
      | cons a l =>
        rw [List.eraseDups_cons]
        refine List.nodup_cons.2 ⟨fun hm => ?_, ih _ (by have := List.length_filter_le (fun b => !b == a) l; simp at h; omega)⟩
        have := (List.mem_filter.1 (List.mem_eraseDups.1 hm)).2
        simp at this
  exact this _ l (Nat.le_refl _)
theorem srt_mem {l : List Int} {x : Int} : x ∈ srt l ↔ x ∈ l := (List.mergeSort_perm l _).mem_iff
theorem srt_len (l : List Int) : (srt l).length = l.length := (List.mergeSort_perm l _).length_eq
theorem srt_nodup {l : List Int} (h : l.Nodup) : (srt l).Nodup := (List.mergeSort_perm l _).nodup_iff.2 h
section
variable {els : List V} {ms : List (List (V × V))} {lk ws : List (V × V)} {ix : Bs -> Nat} {L : List Lk} {W : WL} {nm : Bs} {e : Lk} {N : Nat}
def behA (L : List Lk) (W : WL) (o : Int) : List Int :=
  match getA W o with
  | none => []
  | some n =>
    match getL L n with
    | none => []
    | some e =>
      match e.q.findIdx? fun p => p.1 == o with
      | some i => behindL e.held e.q i o ((e.q[i]?).getD (0, 0)).2
      | none => []
theorem behindL_len (hs qs : HQ) (i : Nat) (o m : Int) : (behindL hs qs i o m).length <= hs.length + qs.length := by
  unfold behindL
  rw [srt_len]
  refine Nat.le_trans (dups_len _) ?_
  have := List.length_filter_le (fun p : Int × Int => !(p.1 == o) && !fitsB p.2 m) hs
  simp only [List.length_append, List.length_map, confl, List.length_take]
  omega
theorem behA_len (hs : Sz N L) (o : Int) : (behA L W o).length <= 4000 := by
  have := hs.n
  unfold behA
  split
  · simp
  · split
    · simp
    · rename_i e he
      split
      · have := behindL_len e.held e.q ‹Nat› o ((e.q[‹Nat›]?).getD (0, 0)).2
        have := hs.hq e (getL_some he).1
        omega
      · simp
theorem findIdx_of {l : HQ} {o m : Int} (h : getA l o = some m) : ∃ i, (l.findIdx? fun p => p.1 == o) = some i := by
  have : (l.findIdx? fun p => p.1 == o).isSome = true := by
    rw [List.findIdx?_isSome, List.any_eq_true]
    exact ⟨(o, m), getA_mem h, by simp⟩
  cases hf : l.findIdx? fun p => p.1 == o with
  | some i => exact ⟨i, rfl⟩
  | none => rw [hf] at this; cases this
theorem rngs_of {l : HQ} (h : ∀ p ∈ l, -9223372036854775808 <= p.1 /\ p.1 <= 9223372036854775807) : rngs l = true := by
  unfold rngs
  rw [List.all_eq_true]
  intro p hp
  simpa using h p hp
theorem beh_ok (h : Rep els ms lk ws ix L W) (hs : Sz N L) (hw : WOK L W) (o : Int) : behindX els ms lk ws o = some (behA L W o) := by
  unfold behindX behA
  rw [h.ws, mf_a]
  cases hg : getA W o with
  | none => rfl
  | some n =>
    obtain ⟨e, m, he, hm⟩ := hw o n hg
    obtain ⟨h1, h2⟩ := getL_some he
    obtain ⟨i, hi⟩ := findIdx_of hm
    have a := h.hl e h1
    have b := h.hm e h1
    rw [h2] at a b
    have := hs.hq e h1
    have := hs.n
    simp only [Option.map_some]
    rw [h.lk, mf_in (show n ∈ nms L from List.mem_map.2 ⟨e, h1, h2⟩)]
    simp only [lockX, a, lkV, b, Option.map_some, Option.bind_some, heldOf_h, waitsOf_q, he, hi]
    rw [if_pos ⟨by omega, by omega, rngs_of (hs.rh e h1), rngs_of (hs.rq e h1)⟩]
inductive Rch (B : Int -> List Int) : Int -> Int -> Prop
  | one {o x : Int} : x ∈ B o -> Rch B o x
  | step {o x y : Int} : x ∈ B o -> Rch B x y -> Rch B o y
theorem Rch.trans {B : Int -> List Int} {a b c : Int} (h : Rch B a b) (h' : Rch B b c) : Rch B a c := by
  induction h with
  | one hx => exact .step hx h'
  | step hx _ ih => exact .step hx (ih h')
def seenM (S : List Int) : List (V × V) := (S.map fun x => (x, true)).map (aE V.bool)
theorem seen_get (S : List Int) (n : Int) : getA (S.map fun x => (x, true)) n = if n ∈ S then some true else none := by
  induction S with
  | nil => rfl
  | cons x S ih =>
    rw [List.map_cons, getA_cons, ih]
    by_cases h : x = n
    · simp [h]
    · have : ¬ n = x := fun e => h e.symm
      simp [h, this]
theorem seen_put {S : List Int} {n : Int} (h : n ∉ S) : putA (S.map fun x => (x, true)) n true = (S ++ [n]).map fun x => (x, true) := by
  induction S with
  | nil => rfl
  | cons x S ih =>
    have hx : ¬ n = x := fun e => h (by simp [e])
    rw [List.map_cons]
    unfold putA
    rw [if_neg (by simpa using hx), ih fun hm => h (by simp [hm])]
    rfl
abbrev dm (els : List V) (ms : List (List (V × V))) (S : List Int) (lk ws : List (V × V)) : List O :=
  [.arena 61 els, .marena 58 ms, .box 23 (.ptr 5 0 0) false, .box 68 (.mp 6) false, .box 99 (.fn 65 [.ptr 2 0 0, .ptr 3 0 0, .ptr 4 0 0]) false, .box 50 (.agg [.mp 7, .mp 8]) false, .map (seenM S), .map lk, .map ws]
def left (U S : List Int) : Nat := (U.filter fun x => decide (x ∉ S)).length
theorem left_le {U S S' : List Int} (h : ∀ x ∈ S, x ∈ S') : left U S' <= left U S := by
  unfold left
  induction U with
  | nil => exact Nat.le_refl _
  | cons u U ih =>
    by_cases h1 : u ∈ S
    · rw [List.filter_cons_of_neg (by simpa using h u h1), List.filter_cons_of_neg (by simpa using h1)]; exact ih
    · rw [List.filter_cons_of_pos (a := u) (p := fun x => decide (x ∉ S)) (by simpa using h1)]
      by_cases h2 : u ∈ S'
      · rw [List.filter_cons_of_neg (by simpa using h2)]; simp only [List.length_cons]; omega
      · rw [List.filter_cons_of_pos (by simpa using h2)]; simp only [List.length_cons]; omega
theorem left_lt {U S : List Int} {x : Int} (hx : x ∈ U) (hn : x ∉ S) : left U (S ++ [x]) < left U S := by
  unfold left
  induction U with
  | nil => cases hx
  | cons u U ih =>
    by_cases h1 : u = x
    · subst h1
      rw [List.filter_cons_of_neg (by simp), List.filter_cons_of_pos (by simpa using hn)]
      have : left U (S ++ [u]) <= left U S := left_le fun y hy => by simp [hy]
      unfold left at this
      simp only [List.length_cons]; omega
    · have hx' : x ∈ U := by rcases List.mem_cons.1 hx with e | h; exact absurd e.symm h1; exact h
      have := ih hx'
      by_cases h2 : u ∈ S
      · rw [List.filter_cons_of_neg (by simp [h2]), List.filter_cons_of_neg (by simpa using h2)]; exact this
      · rw [List.filter_cons_of_pos (by simp [h2, h1]), List.filter_cons_of_pos (by simpa using h2)]
        simp only [List.length_cons]; omega
structure Look (B : Int -> List Int) (o : Int) (S S' : List Int) : Prop where
  sub : ∀ x ∈ S, x ∈ S'
  all : ∀ x ∈ B o, x ∈ S'
  new : ∀ x ∈ S', x ∈ S ∨ (Rch B o x /\ ∀ y ∈ B x, y ∈ S')
theorem reach_ok (h : Rep els ms lk ws ix L W) (hs : Sz N L) (hw : WOK L W) {U : List Int} (hU : ∀ o, ∀ x ∈ behA L W o, x ∈ U) : ∀ (n : Nat) (o : Int) (S : List Int), left U S < n ->
    ∃ S', Look (behA L W) o S S' /\ icC cfgB ⟨true, false⟩ 65 [.int .i64 o, .ptr 2 0 0, .ptr 3 0 0, .ptr 4 0 0] (dm els ms S lk ws) = some (mk65 (els, ms, seenM S', lk, ws)) := by
  intro n
  induction n with
  | zero => intro o S hl; omega
  | succ n ih =>
    intro o S hl
    have hlen := behA_len (W := W) hs o
    have loop : ∀ (r : List Int) (k : Nat) (S : List Int), (behA L W o).drop k = r -> k <= (behA L W o).length -> left U S < n + 1 ->
        ∃ S', (∀ x ∈ S, x ∈ S') /\ (∀ x ∈ r, x ∈ S') /\ (∀ x ∈ S', x ∈ S ∨ ((∃ z ∈ r, x = z ∨ Rch (behA L W) z x) /\ ∀ y ∈ behA L W x, y ∈ S')) /\
          Go kcB true 9 fa65 (.head 0 (T65_0 ((behA L W o).length : Int) (k : Int) els ms (seenM S) lk ws (ints (behA L W o)))) (.doneM (.tup []) (dm els ms S' lk ws ++ [.row 3 (ints (behA L W o)) 0])) := by
      intro r
      induction r with
      | nil =>
        intro k S hd hk hl
        have hk' : (behA L W o).length <= k := List.drop_eq_nil_iff.1 hd
        refine ⟨S, fun _ h => h, fun _ h => absurd h List.not_mem_nil, fun _ h => .inl h, s65_0_run _ _ _ _ _ _ _ _ ?_ (.refl _)⟩
        unfold s65_0
        rw [decide_eq_false (by omega), cond_false]; rfl
      | cons c r ihr =>
        intro k S hd hk hl
        obtain ⟨h1, h2, h3⟩ := drop_cons hd
        have hcU : c ∈ U := hU o c (List.mem_of_getElem? h1)
        have pre : ∀ q : V -> R, idxK (ints (behA L W o)) ((k : Int)).toNat q = q (.int .i64 c) := fun q => idxK_c h1
        have hlt : gd (decide (((k : Int)).toNat < (ints (behA L W o)).length)) = fun q => q := by funext q; exact gd_of (decide_eq_true (by simp [ints]; omega))
        by_cases hc : c ∈ S
        · obtain ⟨S', a1, a2, a3, a4⟩ := ihr (k + 1) S h2 (by omega) hl
          refine ⟨S', a1, fun x hx => ?_, fun x hx => ?_, s65_0_run _ _ _ _ _ _ _ _ ?_ a4⟩
          · rcases List.mem_cons.1 hx with rfl | hx
            · exact a1 _ hc
            · exact a2 x hx
          · rcases a3 x hx with h | ⟨⟨z, hz, hzx⟩, h⟩
            · exact .inl h
            · exact .inr ⟨⟨z, by simp [hz], hzx⟩, h⟩
          · unfold s65_0
            rw [decide_eq_true (by omega), cond_true, gd_of (by simp), hlt, pre, kI_mk]
            rw [show seenM S = (S.map fun x => (x, true)).map (aE V.bool) from rfl, mfK_a, seen_get, if_pos hc, elimK_s, kB_mk, Bool.not_true, cond_false, wi k (by omega)]
        · have hlt2 := left_lt hcU hc
          obtain ⟨S2, b1, b2⟩ := ih c (S ++ [c]) (by omega)
          have hS2 : ∀ x ∈ S, x ∈ S2 := fun x hx => b1.sub x (by simp [hx])
          have hcS2 : c ∈ S2 := b1.sub c (by simp)
          obtain ⟨S', a1, a2, a3, a4⟩ := ihr (k + 1) S2 h2 (by omega) (by have := left_le (U := U) hS2; omega)
          refine ⟨S', fun x hx => a1 x (hS2 x hx), fun x hx => ?_, fun x hx => ?_, s65_0_run _ _ _ _ _ _ _ _ ?_ a4⟩
          · rcases List.mem_cons.1 hx with rfl | hx
            · exact a1 _ hcS2
            · exact a2 x hx
          · rcases a3 x hx with h | ⟨⟨z, hz, hzx⟩, h⟩
            · rcases b1.new x h with h' | ⟨h', h''⟩
              · rcases List.mem_append.1 h' with h' | h'
                · exact .inl h'
                · simp only [List.mem_singleton] at h'
                  subst h'
                  exact .inr ⟨⟨x, by simp, .inl rfl⟩, fun y hy => a1 y (b1.all y hy)⟩
              · exact .inr ⟨⟨c, by simp, .inr h'⟩, fun y hy => a1 y (h'' y hy)⟩
            · exact .inr ⟨⟨z, by simp [hz], hzx⟩, h⟩
          · unfold s65_0
            rw [decide_eq_true (by omega), cond_true, gd_of (by simp), hlt, pre, kI_mk]
            rw [show seenM S = (S.map fun x => (x, true)).map (aE V.bool) from rfl, mfK_a, seen_get, if_neg hc, elimK_n, put_a V.bool c true, opt_mk, seen_put hc]
            rw [show ((S ++ [c]).map fun x => (x, true)).map (aE V.bool) = seenM (S ++ [c]) from rfl, icM_of mk65_inj b2]
            dsimp only
            rw [wi k (by omega)]
    obtain ⟨S', a1, a2, a3, a4⟩ := loop (behA L W o) 0 S rfl (by omega) hl
    refine ⟨S', ⟨a1, a2, fun x hx => ?_⟩, e65_run _ _ _ _ _ _ ?h2 ⟨_, _, a4, by kernel_rfl⟩⟩
    · rcases a3 x hx with h | ⟨⟨z, hz, rfl | hzx⟩, h⟩
      · exact .inl h
      · exact .inr ⟨.one hz, h⟩
      · exact .inr ⟨.step hz hzx, h⟩
    case h2 =>
      unfold e65
      rw [beh_ok h hs hw, opt_mk, List.length_map]; rfl
open Classical in
noncomputable def deadB (L : List Lk) (W : WL) (o : Int) : Bool := decide (Rch (behA L W) o o)
def allO (L : List Lk) : List Int := L.flatMap fun e => e.q.map (·.1) ++ e.held.map (·.1)
theorem behindL_mem {hs qs : HQ} {i : Nat} {o m x : Int} : x ∈ behindL hs qs i o m ↔ x ∈ (qs.take i).map (·.1) ∨ ∃ p ∈ hs, p.1 = x /\ p.1 ≠ o /\ fitsB p.2 m = false := by
  unfold behindL confl
  rw [srt_mem, List.mem_eraseDups, List.mem_append]
  refine or_congr Iff.rfl ?_
  simp only [List.mem_map, List.mem_filter, Bool.and_eq_true, Bool.not_eq_true', beq_eq_false_iff_ne, ne_eq]
  constructor
  · rintro ⟨p, ⟨h1, h2, h3⟩, rfl⟩; exact ⟨p, h1, rfl, h2, h3⟩
  · rintro ⟨p, h1, rfl, h2, h3⟩; exact ⟨p, ⟨h1, h2, h3⟩, rfl⟩
theorem behA_all (o x : Int) (hx : x ∈ behA L W o) : x ∈ allO L := by
  unfold behA at hx
  split at hx
  · cases hx
  · split at hx
    · cases hx
    · rename_i e he
      split at hx
      · unfold allO
        rw [List.mem_flatMap]
        refine ⟨e, (getL_some he).1, List.mem_append.2 ?_⟩
        rcases behindL_mem.1 hx with h | ⟨p, hp, rfl, _⟩
        · obtain ⟨p, hp, rfl⟩ := List.mem_map.1 h
          exact .inl (List.mem_map.2 ⟨p, List.mem_of_mem_take hp, rfl⟩)
        · exact .inr (List.mem_map.2 ⟨p, hp, rfl⟩)
      · cases hx
theorem dead_ok (h : Rep els ms lk ws ix L W) (hs : Sz N L) (hw : WOK L W) (o : Int) : icC cfgB ⟨true, false⟩ 57 [.ptr 2 0 0, .int .i64 o] (tm els ms lk ws) = some (mk57 (deadB L W o, els, ms, lk, ws)) := by
  obtain ⟨S, a1, a2⟩ := reach_ok h hs hw (U := allO L) (fun o x => behA_all o x) _ o [] (Nat.lt_succ_self _)
  have hcl : ∀ x, Rch (behA L W) o x -> x ∈ S := by
    have key : ∀ a x, Rch (behA L W) a x -> (a = o ∨ a ∈ S) -> x ∈ S := by
      intro a x hr
      induction hr with
      | one hx =>
        rintro (rfl | ha)
        · exact a1.all _ hx
        · rcases a1.new _ ha with h | ⟨_, h⟩
          · cases h
          · exact h _ hx
      | step hx _ ih =>
        rintro (rfl | ha)
        · exact ih (.inr (a1.all _ hx))
        · rcases a1.new _ ha with h | ⟨_, h⟩
          · cases h
          · exact ih (.inr (h _ hx))
    exact fun x hr => key o x hr (.inl rfl)
  have hiff : o ∈ S ↔ Rch (behA L W) o o := ⟨fun ho => by
    rcases a1.new o ho with h | ⟨h, _⟩
    · cases h
    · exact h, hcl o⟩
  have hd : deadB L W o = decide (o ∈ S) := by
    unfold deadB
    by_cases hx : o ∈ S
    · rw [decide_eq_true hx]; exact @decide_eq_true _ (Classical.propDecidable _) (hiff.1 hx)
    · rw [decide_eq_false hx]; exact @decide_eq_false _ (Classical.propDecidable _) fun hh => hx (hiff.2 hh)
  have a2 : icC cfgB ⟨true, false⟩ 65 [.int .i64 o, .ptr 2 0 0, .ptr 3 0 0, .ptr 4 0 0] [.arena 61 els, .marena 58 ms, .box 23 (.ptr 5 0 0) false, .box 68 (.mp 6) false, .box 99 (.fn 65 [.ptr 2 0 0, .ptr 3 0 0, .ptr 4 0 0]) false, .box 50 (.agg [.mp 7, .mp 8]) false, .map [], .map lk, .map ws] = some (mk65 (els, ms, seenM S, lk, ws)) := a2
  by_cases hx : o ∈ S
  · rw [hd, decide_eq_true hx]
    refine e57_run _ _ _ _ _ (o := .doneM ?v1 ?m1) ?h1 (.done ?n1)
    case h1 =>
      unfold e57
      rw [icM_of mk65_inj a2]
      dsimp only
      rw [show seenM S = (S.map fun x => (x, true)).map (aE V.bool) from rfl, mfK_a, seen_get, if_pos hx, elimK_s, kB_mk]
    case n1 => kernel_rfl
  · rw [hd, decide_eq_false hx]
    refine e57_run _ _ _ _ _ (o := .doneM ?v2 ?m2) ?h2 (.done ?n2)
    case h2 =>
      unfold e57
      rw [icM_of mk65_inj a2]
      dsimp only
      rw [show seenM S = (S.map fun x => (x, true)).map (aE V.bool) from rfl, mfK_a, seen_get, if_neg hx, elimK_n]
    case n2 => kernel_rfl
end
section
variable {els : List V} {ms : List (List (V × V))} {lk ws : List (V × V)} {ix : Bs -> Nat} {L : List Lk} {W : WL} {nm : Bs} {e : Lk} {N : Nat}
def insQ (e : Lk) (o m : Int) : HQ := e.q.take (placeN e o) ++ (o, m) :: e.q.drop (placeN e o)
noncomputable def stayA (L : List Lk) (W : WL) (nm : Bs) (o m : Int) : Int × List Lk × WL :=
  match getL (atL L nm) nm with
  | some e => if deadB (setL (atL L nm) nm e.held (insQ e o m)) (putA W o nm) o then (11, atL L nm, W) else (10, setL (atL L nm) nm e.held (insQ e o m), putA W o nm)
  | none => (11, L, W)
theorem del_put {α : Type} {l : List (Int × α)} {o : Int} (h : getA l o = none) (a : α) : delA (putA l o a) o = l := by
  induction l with
  | nil => simp [putA, delA]
  | cons p l ih =>
    rw [getA_cons] at h
    split at h
    · cases h
    · rename_i hp
      have hne : ¬ (o == p.1) = true := by simpa using fun e => hp e.symm
      unfold putA
      rw [if_neg hne]
      unfold delA
      rw [if_neg hne, ih h]
theorem setQ_back (hn : (nms L).Nodup) (he : getL L nm = some e) (q : HQ) : setL (setL L nm e.held q) nm e.held e.q = L := by rw [set_set, set_same hn he]
theorem stay_ok (hnm : Nm nm) (h : Rep els ms lk ws ix L W) (hs : Sz N L) (o m : Int) (hg : getA W o = none) (hs2 : ∀ e, getL (atL L nm) nm = some e -> Sz N (setL (atL L nm) nm e.held (insQ e o m)) /\ WOK (setL (atL L nm) nm e.held (insQ e o m)) (putA W o nm)) (hsa : Sz N (atL L nm)) :
    ∃ els' ms' lk' ix', icC cfgB ⟨true, false⟩ 43 [.ptr 2 0 0, .str nm, .agg [.int .i64 o, .int .i64 m]] (tm els ms lk ws) = some (mk43 ((stayA L W nm o m).1, els', ms', lk', (stayA L W nm o m).2.2.map wE)) /\
      Rep els' ms' lk' ((stayA L W nm o m).2.2.map wE) ix' (stayA L W nm o m).2.1 (stayA L W nm o m).2.2 := by
  obtain ⟨els1, ms1, lk1, ix1, a1, a2⟩ := at_ok h nm hnm
  obtain ⟨e, he, _⟩ := atL_get L nm
  obtain ⟨h2s, h2w⟩ := hs2 e he
  have hq : e.q.length <= 4000 := by have := hsa.q e (getL_some he).1; have := hsa.n; omega
  have hpl := placeN_le e o
  have b1 := place_ok a2 hsa he o
  have c2 := (a2.set he e.held (insQ e o m)).setW (putA W o nm)
  rw [set_self (show ms1[ix1 nm]? = some (e.held.map hE) by obtain ⟨h1, h2⟩ := getL_some he; exact h2 ▸ a2.hm e h1)] at c2
  have d1 := dead_ok c2 h2s h2w o
  have hins : ((e.q.map pV).take (placeN e o) ++ [V.agg [V.int .i64 o, V.int .i64 m]]) ++ (e.q.map pV).drop (placeN e o) = (insQ e o m).map pV := by
    unfold insQ
    rw [List.map_append, List.map_cons, List.map_take, List.map_drop, List.append_assoc]; rfl
  have he2 := getL_set he e.held (insQ e o m)
  have hst : stayA L W nm o m = if deadB (setL (atL L nm) nm e.held (insQ e o m)) (putA W o nm) o then (11, atL L nm, W) else (10, setL (atL L nm) nm e.held (insQ e o m), putA W o nm) := by unfold stayA; rw [he]
  have g1 : gd (decide (0 <= (placeN e o : Int) /\ (placeN e o : Int).toNat <= (e.q.map pV).length /\ (e.q.map pV).length + ([V.agg [V.int .i64 o, V.int .i64 m]] : List V).length <= 16777216)) = fun q => q := by
    funext q; exact gd_of (decide_eq_true ⟨by omega, by simp; omega, by simp; omega⟩)
  have hk := a2.ws
  rw [hst]
  cases hd : deadB (setL (atL L nm) nm e.held (insQ e o m)) (putA W o nm) o with
  | false =>
    rw [if_neg (by simp)]
    refine ⟨_, _, _, _, e43_run _ _ _ _ _ _ _ (o := .doneM ?v1 ?m1) ?h1 (.done ?n1), c2⟩
    case h1 =>
      unfold e43
      rw [icM_of mk40_inj a1]
      dsimp only
      rw [a2.ax he, dL, pcK_of (clone_w e.q (by omega)), kF_m, icM_of mk56_inj b1]
      dsimp only
      rw [g1, a2.ax he, dL, hk, put_a V.str o nm, opt_mk, toNat_cast, hins, icM_of mk57_inj d1]
      dsimp only
      rw [hd, Bool.not_false, cond_true]
    case n1 => kernel_rfl
  | true =>
    rw [if_pos rfl]
    have f2 := (c2.set he2 e.held e.q).setW W
    rw [setQ_back a2.nd he, set_self (show ms1[ix1 nm]? = some (e.held.map hE) by obtain ⟨h1, h2⟩ := getL_some he; exact h2 ▸ a2.hm e h1)] at f2
    refine ⟨_, _, _, _, e43_run _ _ _ _ _ _ _ (o := .doneM ?v2 ?m2) ?h2 (.done ?n2), f2⟩
    case h2 =>
      unfold e43
      rw [icM_of mk40_inj a1]
      dsimp only
      rw [a2.ax he, dL, pcK_of (clone_w e.q (by omega)), kF_m, icM_of mk56_inj b1]
      dsimp only
      rw [g1, a2.ax he, dL, hk, put_a V.str o nm, opt_mk, toNat_cast, hins, icM_of mk57_inj d1]
      dsimp only
      rw [hd, Bool.not_true, cond_false, c2.ax he2, dL, del_a, opt_mk, del_put hg]
    case n2 => kernel_rfl
noncomputable def askA (L : List Lk) (W : WL) (o : Int) (nm : Bs) (m : Int) : Int × List Lk × WL :=
  if o < 0 ∨ m <= 0 ∨ m ≥ 7 then (1, L, W) else if getA W o ≠ none then (9, L, W) else
  match getL (atL L nm) nm with
  | none => (1, L, W)
  | some e =>
    if (getA e.held o).isSome /\ joinB ((getA e.held o).getD 0) m = (getA e.held o).getD 0 then (0, atL L nm, W)
    else if canB e.held o (joinB ((getA e.held o).getD 0) m) = true /\ ((getA e.held o).isSome ∨ e.q = []) then (0, setL (atL L nm) nm (putA e.held o (joinB ((getA e.held o).getD 0) m)) e.q, W)
    else stayA (atL L nm) W nm o (joinB ((getA e.held o).getD 0) m)
theorem atL_some (he : getL L nm = some e) : atL L nm = L := by unfold atL; rw [he]
theorem atL_at : atL (atL L nm) nm = atL L nm := by
  obtain ⟨e, he, _⟩ := atL_get L nm
  exact atL_some he
theorem d79j (a b : Int) (k : Int -> Int -> R) : d79 (.tup [.int .i64 a, .int .i64 b]) k = k a b := rfl
theorem ask_ok (hnm : Nm nm) (h : Rep els ms lk ws ix L W) (hsa : Sz N (atL L nm)) (hs : Sz N L) (o m : Int) 
    (hs2 : getA W o = none -> ∀ e w, getL (atL L nm) nm = some e -> Sz N (setL (atL L nm) nm e.held (insQ e o w)) /\ WOK (setL (atL L nm) nm e.held (insQ e o w)) (putA W o nm)) :
    ∃ els' ms' lk' ix', icC cfgB ⟨true, false⟩ 20 [.ptr 2 0 0, .int .i64 o, .str nm, .int .i64 m] (tm els ms lk ws) = some (mk20 ((askA L W o nm m).1, els', ms', lk', (askA L W o nm m).2.2.map wE)) /\
      Rep els' ms' lk' ((askA L W o nm m).2.2.map wE) ix' (askA L W o nm m).2.1 (askA L W o nm m).2.2 := by
  have hw := h.ws
  by_cases h1 : o < 0 ∨ m <= 0 ∨ m ≥ 7
  · have ha : askA L W o nm m = (1, L, W) := by unfold askA; rw [if_pos h1]
    rw [ha]
    refine ⟨els, ms, lk, ix, e20_run _ _ _ _ _ _ _ (o := .doneM ?v1 ?m1) ?h1 (.done ?n1), hw ▸ h⟩
    case h1 =>
      unfold e20
      by_cases p1 : o < 0
      · rw [decide_eq_true p1, cond_true]
      · rw [decide_eq_false p1, cond_false]
        by_cases p2 : m <= 0
        · rw [decide_eq_true p2, cond_true]
        · have p3 : m ≥ 7 := by omega
          rw [decide_eq_false p2, cond_false, decide_eq_true p3, cond_true]
    case n1 => rw [hw]; kernel_rfl
  have hm7 : ¬ o < 0 /\ ¬ m <= 0 /\ ¬ m ≥ 7 := by omega
  cases hg : getA W o with
  | some n2 =>
    have ha : askA L W o nm m = (9, L, W) := by unfold askA; rw [if_neg h1, if_pos (by rw [hg]; simp)]
    rw [ha]
    refine ⟨els, ms, lk, ix, e20_run _ _ _ _ _ _ _ (o := .doneM ?v2 ?m2) ?h2 (.done ?n2), hw ▸ h⟩
    case h2 =>
      unfold e20
      rw [decide_eq_false hm7.1, cond_false, decide_eq_false hm7.2.1, cond_false, decide_eq_false hm7.2.2, cond_false, h.wf, hg, elimK_s, kS_mk]
    case n2 => rw [hw]; kernel_rfl
  | none =>
    obtain ⟨els1, ms1, lk1, ix1, a1, a2⟩ := at_ok h nm hnm
    obtain ⟨e, he, _⟩ := atL_get L nm
    have hst := fun w => stay_ok (nm := nm) hnm a2 hsa o w hg (by rw [atL_at]; exact fun e he => hs2 hg e w he) (by rw [atL_at]; exact hsa)
    cases hh : getA e.held o with
    | some had =>
      by_cases hj : joinB had m = had
      · have ha : askA L W o nm m = (0, atL L nm, W) := by
          unfold askA; rw [if_neg h1, if_neg (by rw [hg]; simp), he]; dsimp only; rw [hh]
          exact if_pos ⟨rfl, hj⟩
        rw [ha]
        refine ⟨els1, ms1, lk1, ix1, e20_run _ _ _ _ _ _ _ (o := .doneM ?v3 ?m3) ?h3 (.done ?n3), hw ▸ a2⟩
        case h3 =>
          unfold e20
          rw [decide_eq_false hm7.1, cond_false, decide_eq_false hm7.2.1, cond_false, decide_eq_false hm7.2.2, cond_false, h.wf, hg, elimK_n, icM_of mk40_inj a1]
          dsimp only
          rw [a2.ax he, dL, a2.mx he, mfK_a, hh, elimK_s, kI_mk, pcK_of (joinW had m), d79j, ibeq_t hj, cond_true]
        case n3 => rw [hw]; kernel_rfl
      · by_cases hc : canB e.held o (joinB had m) = true
        · have ha : askA L W o nm m = (0, setL (atL L nm) nm (putA e.held o (joinB had m)) e.q, W) := by
            unfold askA; rw [if_neg h1, if_neg (by rw [hg]; simp), he]; dsimp only; rw [hh]
            exact (if_neg fun h => hj h.2).trans (if_pos ⟨hc, .inl rfl⟩)
          rw [ha]
          have b2 := a2.set he (putA e.held o (joinB had m)) e.q
          rw [upd_eta a2 he] at b2
          refine ⟨_, _, _, _, e20_run _ _ _ _ _ _ _ (o := .doneM ?v4 ?m4) ?h4 (.done ?n4), hw ▸ b2⟩
          case h4 =>
            unfold e20
            rw [decide_eq_false hm7.1, cond_false, decide_eq_false hm7.2.1, cond_false, decide_eq_false hm7.2.2, cond_false, h.wf, hg, elimK_n, icM_of mk40_inj a1]
            dsimp only
            rw [a2.ax he, dL, a2.mx he, mfK_a, hh, elimK_s, kI_mk, pcK_of (joinW had m), d79j, ibeq_f hj, cond_false, a2.can he, opt_mk, hc, cond_true, a2.ax he, dL, a2.mx he, put_a (V.int .i64) o (joinB had m), opt_mk]
          case n4 => rw [hw]; kernel_rfl
        · have hc' : canB e.held o (joinB had m) = false := by simpa using hc
          have ha : askA L W o nm m = stayA (atL L nm) W nm o (joinB had m) := by
            unfold askA; rw [if_neg h1, if_neg (by rw [hg]; simp), he]; dsimp only; rw [hh]
            exact (if_neg fun h => hj h.2).trans (if_neg fun h => hc h.1)
          rw [ha]
          obtain ⟨els', ms', lk', ix', c1, c2⟩ := hst (joinB had m)
          refine ⟨els', ms', lk', ix', e20_run _ _ _ _ _ _ _ (o := .doneM ?v5 ?m5) ?h5 (.done ?n5), c2⟩
          case h5 =>
            unfold e20
            rw [decide_eq_false hm7.1, cond_false, decide_eq_false hm7.2.1, cond_false, decide_eq_false hm7.2.2, cond_false, h.wf, hg, elimK_n, icM_of mk40_inj a1]
            dsimp only
            rw [a2.ax he, dL, a2.mx he, mfK_a, hh, elimK_s, kI_mk, pcK_of (joinW had m), d79j, ibeq_f hj, cond_false, a2.can he, opt_mk, hc', cond_false, icM_of mk43_inj c1]
          case n5 => kernel_rfl
    | none =>
      by_cases hc : canB e.held o (joinB 0 m) = true
      · by_cases hq : e.q = []
        · have ha : askA L W o nm m = (0, setL (atL L nm) nm (putA e.held o (joinB 0 m)) e.q, W) := by
            unfold askA; rw [if_neg h1, if_neg (by rw [hg]; simp), he]; dsimp only; rw [hh]
            exact (if_neg fun h => by cases h.1).trans (if_pos ⟨hc, .inr hq⟩)
          rw [ha]
          have b2 := a2.set he (putA e.held o (joinB 0 m)) e.q
          rw [upd_eta a2 he] at b2
          refine ⟨_, _, _, _, e20_run _ _ _ _ _ _ _ (o := .doneM ?v6 ?m6) ?h6 (.done ?n6), hw ▸ b2⟩
          case h6 =>
            unfold e20
            rw [decide_eq_false hm7.1, cond_false, decide_eq_false hm7.2.1, cond_false, decide_eq_false hm7.2.2, cond_false, h.wf, hg, elimK_n, icM_of mk40_inj a1]
            dsimp only
            rw [a2.ax he, dL, a2.mx he, mfK_a, hh, elimK_n, pcK_of (joinW 0 m), d79j, a2.can he, opt_mk, hc, cond_true, a2.ax he, dL, lenZ, decide_eq_true hq, cond_true, a2.ax he, dL, a2.mx he, put_a (V.int .i64) o (joinB 0 m), opt_mk]
          case n6 => rw [hw]; kernel_rfl
        · have ha : askA L W o nm m = stayA (atL L nm) W nm o (joinB 0 m) := by
            unfold askA; rw [if_neg h1, if_neg (by rw [hg]; simp), he]; dsimp only; rw [hh]
            exact (if_neg fun h => by cases h.1).trans (if_neg fun h => h.2.elim (fun h => by cases h) hq)
          rw [ha]
          obtain ⟨els', ms', lk', ix', c1, c2⟩ := hst (joinB 0 m)
          refine ⟨els', ms', lk', ix', e20_run _ _ _ _ _ _ _ (o := .doneM ?v7 ?m7) ?h7 (.done ?n7), c2⟩
          case h7 =>
            unfold e20
            rw [decide_eq_false hm7.1, cond_false, decide_eq_false hm7.2.1, cond_false, decide_eq_false hm7.2.2, cond_false, h.wf, hg, elimK_n, icM_of mk40_inj a1]
            dsimp only
            rw [a2.ax he, dL, a2.mx he, mfK_a, hh, elimK_n, pcK_of (joinW 0 m), d79j, a2.can he, opt_mk, hc, cond_true, a2.ax he, dL, lenZ, decide_eq_false hq, cond_false, icM_of mk43_inj c1]
          case n7 => kernel_rfl
      · have hc' : canB e.held o (joinB 0 m) = false := by simpa using hc
        have ha : askA L W o nm m = stayA (atL L nm) W nm o (joinB 0 m) := by
          unfold askA; rw [if_neg h1, if_neg (by rw [hg]; simp), he]; dsimp only; rw [hh]
          exact (if_neg fun h => by cases h.1).trans (if_neg fun h => hc h.1)
        rw [ha]
        obtain ⟨els', ms', lk', ix', c1, c2⟩ := hst (joinB 0 m)
        refine ⟨els', ms', lk', ix', e20_run _ _ _ _ _ _ _ (o := .doneM ?v8 ?m8) ?h8 (.done ?n8), c2⟩
        case h8 =>
          unfold e20
          rw [decide_eq_false hm7.1, cond_false, decide_eq_false hm7.2.1, cond_false, decide_eq_false hm7.2.2, cond_false, h.wf, hg, elimK_n, icM_of mk40_inj a1]
          dsimp only
          rw [a2.ax he, dL, a2.mx he, mfK_a, hh, elimK_n, pcK_of (joinW 0 m), d79j, a2.can he, opt_mk, hc', cond_false, icM_of mk43_inj c1]
        case n8 => kernel_rfl
end
section
variable {α : Type} {l : List (Int × α)} {o o' : Int} {a : α}
abbrev keys (l : List (Int × α)) : List Int := l.map (·.1)
theorem getA_out (h : o ∉ keys l) : getA l o = none := by
  cases hg : getA l o with
  | none => rfl
  | some a => exact absurd (List.mem_map.2 ⟨_, getA_mem hg, rfl⟩) h
theorem getA_of (hn : (keys l).Nodup) (h : (o, a) ∈ l) : getA l o = some a := by
  induction l with
  | nil => cases h
  | cons p l ih =>
    rw [getA_cons]
    rcases List.mem_cons.1 h with rfl | h
    · rw [if_pos rfl]
    · have hne : p.1 ≠ o := fun e => (List.nodup_cons.1 hn).1 (List.mem_map.2 ⟨_, h, e.symm⟩)
      rw [if_neg hne]
      exact ih (List.nodup_cons.1 hn).2 h
theorem getA_put_self : getA (putA l o a) o = some a := by
  induction l with
  | nil => simp [putA, getA]
  | cons p l ih =>
    unfold putA
    by_cases h : (o == p.1) = true
    · rw [if_pos h, getA_cons, if_pos (by simpa using (by simpa using h : o = p.1).symm)]
    · rw [if_neg h, getA_cons, if_neg (by simpa using fun e => h (by simp [e])), ih]
theorem getA_put_ne (h : o' ≠ o) : getA (putA l o a) o' = getA l o' := by
  induction l with
  | nil => simp [putA, getA, Ne.symm h]
  | cons p l ih =>
    unfold putA
    by_cases hp : (o == p.1) = true
    · have hp' : o = p.1 := by simpa using hp
      rw [if_pos hp, getA_cons, getA_cons, if_neg (by rw [<- hp']; exact h.symm), if_neg (by rw [<- hp']; exact h.symm)]
    · rw [if_neg hp, getA_cons, getA_cons, ih]
theorem keys_put : keys (putA l o a) = if o ∈ keys l then keys l else keys l ++ [o] := by
  induction l with
  | nil => simp [putA, keys]
  | cons p l ih =>
    unfold putA
    by_cases hp : (o == p.1) = true
    · have hp' : o = p.1 := by simpa using hp
      rw [if_pos hp, if_pos (by simp [keys, hp'])]; rfl
    · have hp' : o ≠ p.1 := by simpa using hp
      rw [if_neg hp]
      show p.1 :: keys (putA l o a) = _
      rw [ih]
      by_cases hm : o ∈ keys l
      · rw [if_pos hm, if_pos (show o ∈ keys (p :: l) from List.mem_cons_of_mem _ hm)]; rfl
      · rw [if_neg hm, if_neg (show o ∉ keys (p :: l) from fun h => by rcases List.mem_cons.1 h with h | h; exact hp' h; exact hm h)]; rfl
theorem nodup_put (hn : (keys l).Nodup) : (keys (putA l o a)).Nodup := by
  rw [keys_put]
  split
  · exact hn
  · rename_i h
    rw [List.nodup_append]
    refine ⟨hn, by simp, fun x hx y hy => ?_⟩
    simp only [List.mem_singleton] at hy
    rw [hy]; rintro rfl; exact h hx
theorem nodup_del (hn : (keys l).Nodup) : (keys (delA l o)).Nodup := hn.sublist ((delA_sub l o).map _)
theorem mem_put (hn : (keys l).Nodup) {p : Int × α} (h : p ∈ putA l o a) : (p ∈ l /\ p.1 ≠ o) ∨ p = (o, a) := by
  by_cases hp : p.1 = o
  · right
    have h1 := getA_of (nodup_put (o := o) (a := a) hn) (show (p.1, p.2) ∈ putA l o a from h)
    rw [hp, getA_put_self] at h1
    rw [Option.some.inj h1, <- hp]
  · rcases putA_mem h with h | rfl
    · exact .inl ⟨h, hp⟩
    · exact absurd rfl hp
theorem put_mem : (o, a) ∈ putA l o a := getA_mem getA_put_self
theorem put_old {p : Int × α} (h : p ∈ l) (hp : p.1 ≠ o) : p ∈ putA l o a := by
  induction l with
  | nil => cases h
  | cons x l ih =>
    unfold putA
    by_cases hx : (o == x.1) = true
    · have hx' : o = x.1 := by simpa using hx
      rw [if_pos hx]
      rcases List.mem_cons.1 h with rfl | h
      · exact absurd hx'.symm hp
      · simp [h]
    · rw [if_neg hx]
      rcases List.mem_cons.1 h with rfl | h
      · simp
      · simp [ih h]
theorem mem_del (hn : (keys l).Nodup) {p : Int × α} : p ∈ delA l o ↔ p ∈ l /\ p.1 ≠ o := by
  induction l with
  | nil => simp [delA]
  | cons x l ih =>
    have hx := List.nodup_cons.1 hn
    unfold delA
    by_cases h : (o == x.1) = true
    · have h' : o = x.1 := by simpa using h
      rw [if_pos h]
      constructor
      · intro hp
        exact ⟨by simp [hp], fun e => hx.1 (List.mem_map.2 ⟨p, hp, e.trans h'⟩)⟩
      · rintro ⟨hp, hne⟩
        rcases List.mem_cons.1 hp with rfl | hp
        · exact absurd h'.symm hne
        · exact hp
    · have h' : o ≠ x.1 := by simpa using h
      rw [if_neg h, List.mem_cons, ih hx.2, List.mem_cons]
      constructor
      · rintro (rfl | ⟨h1, h2⟩)
        · exact ⟨.inl rfl, Ne.symm h'⟩
        · exact ⟨.inr h1, h2⟩
      · rintro ⟨rfl | h1, h2⟩
        · exact .inl rfl
        · exact .inr ⟨h1, h2⟩
theorem getA_del_self (hn : (keys l).Nodup) : getA (delA l o) o = none := getA_out fun h => by
  obtain ⟨p, hp, e⟩ := List.mem_map.1 h
  exact ((mem_del hn).1 hp).2 e
theorem getA_del_ne (h : o' ≠ o) : getA (delA l o) o' = getA l o' := by
  induction l with
  | nil => rfl
  | cons p l ih =>
    unfold delA
    by_cases hp : (o == p.1) = true
    · have hp' : o = p.1 := by simpa using hp
      rw [if_pos hp, getA_cons, if_neg (by rw [<- hp']; exact h.symm)]
    · rw [if_neg hp, getA_cons, getA_cons, ih]
end
theorem fits_symm (a b : Int) : fitsB a b = fitsB b a := by
  by_cases ha : 0 <= a /\ a < 7
  · by_cases hb : 0 <= b /\ b < 7
    · rcases seven ha with rfl | rfl | rfl | rfl | rfl | rfl | rfl <;> rcases seven hb with rfl | rfl | rfl | rfl | rfl | rfl | rfl <;> rfl
    · rw [fitsB_out fun h => hb h.2, fitsB_out fun h => hb h.1]
  · rw [fitsB_out fun h => ha h.1, fitsB_out fun h => ha h.2]
theorem six {a : Int} (h : 1 <= a /\ a <= 6) : a = 1 ∨ a = 2 ∨ a = 3 ∨ a = 4 ∨ a = 5 ∨ a = 6 := by omega
theorem join_rng {a b : Int} (ha : 0 <= a /\ a < 7) (hb : 1 <= b /\ b <= 6) : 1 <= joinB a b /\ joinB a b <= 6 := by
  rcases seven ha with rfl | rfl | rfl | rfl | rfl | rfl | rfl <;> rcases six hb with rfl | rfl | rfl | rfl | rfl | rfl <;> decide
theorem join_cov {a b : Int} (ha : 0 <= a /\ a < 7) (hb : 1 <= b /\ b <= 6) : coversB (joinB a b) a = true /\ coversB (joinB a b) b = true := by
  rcases seven ha with rfl | rfl | rfl | rfl | rfl | rfl | rfl <;> rcases six hb with rfl | rfl | rfl | rfl | rfl | rfl <;> decide
theorem cov_fit {a b x : Int} (h : coversB a b = true) (hf : fitsB a x = true) : fitsB b x = true := by
  have hab : (0 <= a /\ a < 7) /\ 0 <= b /\ b < 7 := Classical.byContradiction fun hn => by rw [coversB_out hn] at h; cases h
  have hx : 0 <= x /\ x < 7 := Classical.byContradiction fun hn => by rw [fitsB_out fun h => hn h.2] at hf; cases hf
  revert h hf
  rcases seven hab.1 with rfl | rfl | rfl | rfl | rfl | rfl | rfl <;> rcases seven hab.2 with rfl | rfl | rfl | rfl | rfl | rfl | rfl <;> rcases seven hx with rfl | rfl | rfl | rfl | rfl | rfl | rfl <;> decide
theorem canB_iff {hs : HQ} {o m : Int} : canB hs o m = true ↔ ∀ p ∈ hs, p.1 = o ∨ fitsB p.2 m = true := by
  unfold canB
  rw [List.all_eq_true]
  constructor
  · intro h p hp; simpa using h p hp
  · intro h p hp; simpa using h p hp
theorem canB_not {hs : HQ} {o m : Int} : canB hs o m = false ↔ ∃ p ∈ hs, p.1 ≠ o /\ fitsB p.2 m = false := by
  rw [<- Bool.not_eq_true, canB_iff]
  constructor
  · intro h
    apply Classical.byContradiction
    intro hn
    refine h fun p hp => ?_
    by_cases h1 : p.1 = o
    · exact .inl h1
    · right
      cases hf : fitsB p.2 m with
      | true => rfl
      | false => exact absurd ⟨p, hp, h1, hf⟩ hn
  · rintro ⟨p, hp, h1, h2⟩ h
    rcases h p hp with h | h
    · exact h1 h
    · rw [h2] at h; cases h
section
variable {B B' : Int -> List Int}
theorem Rch.mono (h : ∀ o x, x ∈ B' o -> x ∈ B o) {a b : Int} (hr : Rch B' a b) : Rch B a b := by
  induction hr with
  | one hx => exact .one (h _ _ hx)
  | step hx _ ih => exact .step (h _ _ hx) ih
theorem Rch.ne {a b : Int} (hr : Rch B a b) : B a ≠ [] := by
  cases hr with
  | one hx => exact List.ne_nil_of_mem hx
  | step hx _ => exact List.ne_nil_of_mem hx
theorem acy_sink (h : ∀ o x, x ∈ B' o -> x ∈ B o ∨ B' x = []) (ha : ∀ o, ¬ Rch B o o) : ∀ o, ¬ Rch B' o o := by
  have key : ∀ a b, Rch B' a b -> Rch B a b ∨ B' b = [] := by
    intro a b hr
    induction hr with
    | one hx => rcases h _ _ hx with h1 | h1; exact .inl (.one h1); exact .inr h1
    | step hx hr ih =>
      rcases h _ _ hx with h1 | h1
      · rcases ih with h2 | h2
        · exact .inl (.step h1 h2)
        · exact .inr h2
      · exact absurd h1 hr.ne
  intro o hr
  rcases key o o hr with h1 | h1
  · exact ha o h1
  · exact hr.ne h1
theorem acy_one {o : Int} (h : ∀ a x, a ≠ o -> x ∈ B' a -> x ∈ B a ∨ x = o) (ho : ¬ Rch B' o o) (ha : ∀ o, ¬ Rch B o o) : ∀ a, ¬ Rch B' a a := by
  have key : ∀ a b, Rch B' a b -> a = o ∨ Rch B a b ∨ (Rch B' a o /\ (b = o ∨ Rch B' o b)) := by
    intro a b hr
    induction hr with
    | @one a x hx =>
      by_cases e : a = o
      · exact .inl e
      · rcases h _ _ e hx with h1 | rfl
        · exact .inr (.inl (.one h1))
        · exact .inr (.inr ⟨.one hx, .inl rfl⟩)
    | @step a x b hx hr ih =>
      by_cases e : a = o
      · exact .inl e
      · rcases h _ _ e hx with h1 | rfl
        · rcases ih with rfl | ih | ⟨ih1, ih2⟩
          · exact .inr (.inr ⟨.one hx, .inr hr⟩)
          · exact .inr (.inl (.step h1 ih))
          · exact .inr (.inr ⟨.step hx ih1, ih2⟩)
        · exact .inr (.inr ⟨.one hx, .inr hr⟩)
  intro a hr
  rcases key a a hr with rfl | h1 | ⟨h1, rfl | h2⟩
  · exact ho hr
  · exact ha a h1
  · exact ho hr
  · exact ho (h2.trans h1)
end
def tot (L : List Lk) : Nat := (L.map fun e => e.held.length + e.q.length).sum
structure WG (b : Int) (n : Nat) (S : Bs -> Prop) (L : List Lk) (W : WL) : Prop where
  bb : b <= 9223372036854775808
  nd : (nms L).Nodup
  hn : ∀ e ∈ L, (keys e.held).Nodup
  qn : ∀ e ∈ L, (keys e.q).Nodup
  wn : (keys W).Nodup
  wq : WQ L W
  wok : WOK L W
  tot : tot L <= n
  rh : ∀ e ∈ L, ∀ p ∈ e.held, 0 <= p.1 /\ p.1 < b
  rq : ∀ e ∈ L, ∀ p ∈ e.q, 0 <= p.1 /\ p.1 < b
  hm : ∀ e ∈ L, ∀ p ∈ e.held, 1 <= p.2 /\ p.2 <= 6
  qm : ∀ e ∈ L, ∀ p ∈ e.q, 1 <= p.2 /\ p.2 <= 6
  fit : ∀ e ∈ L, ∀ p ∈ e.held, ∀ p' ∈ e.held, p.1 ≠ p'.1 -> fitsB p.2 p'.2 = true
  nb : ∀ e ∈ L, ∀ p ∈ e.q, getA e.held p.1 ≠ some p.2
  acy : ∀ o, ¬ Rch (behA L W) o o
  ne : ∀ e ∈ L, ¬ S e.nm -> e.held ≠ [] ∨ e.q ≠ []
  first : ∀ e ∈ L, ¬ S e.nm -> ∀ p r, e.q = p :: r -> canB e.held p.1 p.2 = false
abbrev Good (b : Int) (n : Nat) (L : List Lk) (W : WL) : Prop := WG b n (fun _ => False) L W
def Edge (L : List Lk) (o x : Int) : Prop := ∃ e ∈ L, ∃ (i : Nat) (m : Int), e.q[i]? = some (o, m) /\ (x ∈ (e.q.take i).map (·.1) ∨ ∃ p ∈ e.held, p.1 = x /\ p.1 ≠ o /\ fitsB p.2 m = false)
section
variable {L : List Lk} {W : WL} {b : Int} {n : Nat} {S : Bs -> Prop} {nm : Bs} {e : Lk}
theorem key_idx {α : Type} {l : List (Int × α)} (hn : (keys l).Nodup) {i j : Nat} {p p' : Int × α} (hi : l[i]? = some p) (hj : l[j]? = some p') (h : p.1 = p'.1) : i = j := by
  have h1 : (keys l)[i]? = some p.1 := by simp [keys, hi]
  have h2 : (keys l)[j]? = some p.1 := by simp [keys, hj, h]
  have l1 := (List.getElem?_eq_some_iff.1 h1).1
  have l2 := (List.getElem?_eq_some_iff.1 h2).1
  have e1 := (List.getElem?_eq_some_iff.1 h1).2
  have e2 := (List.getElem?_eq_some_iff.1 h2).2
  rcases Nat.lt_trichotomy i j with q | q | q
  · exact absurd (e1.trans e2.symm) (List.pairwise_iff_getElem.1 hn i j l1 l2 q)
  · exact q
  · exact absurd (e2.trans e1.symm) (List.pairwise_iff_getElem.1 hn j i l2 l1 q)
theorem behA_iff (hnd : (nms L).Nodup) (hqn : ∀ e ∈ L, (keys e.q).Nodup) (hwq : WQ L W) (hwok : WOK L W) {o x : Int} : x ∈ behA L W o ↔ Edge L o x := by
  constructor
  · intro h
    unfold behA at h
    split at h
    · cases h
    · rename_i nm2 hg
      split at h
      · cases h
      · rename_i e he
        split at h
        · rename_i i hi
          obtain ⟨hlt, h1, h2⟩ := List.findIdx?_eq_some_iff_getElem.1 hi
          have h1 : (e.q[i]).1 = o := by simpa using h1
          have hq : e.q[i]? = some (o, (e.q[i]).2) := by rw [List.getElem?_eq_getElem hlt, <- h1]
          rw [hq] at h
          exact ⟨e, (getL_some he).1, i, _, hq, behindL_mem.1 h⟩
        · cases h
  · rintro ⟨e, he, i, m, hq, h⟩
    have hmq : (o, m) ∈ e.q := List.mem_of_getElem? hq
    have hw := hwq e he _ hmq
    have hgl := getL_of hnd he
    obtain ⟨j, hj⟩ := findIdx_of (getA_of (hqn e he) hmq)
    obtain ⟨hlt, h1, h2⟩ := List.findIdx?_eq_some_iff_getElem.1 hj
    have hji : j = i := key_idx (hqn e he) (List.getElem?_eq_getElem hlt) hq (by simpa using h1)
    subst hji
    unfold behA
    simp only [hw, hgl, hj, hq, Option.getD_some]
    exact behindL_mem.2 h
theorem WG.edge (h : WG b n S L W) {o x : Int} : x ∈ behA L W o ↔ Edge L o x := behA_iff h.nd h.qn h.wq h.wok
theorem mem_set {hs q : HQ} {x : Lk} (h : x ∈ setL L nm hs q) : x = ⟨nm, hs, q⟩ ∨ (x ∈ L /\ x.nm ≠ nm) := by
  obtain ⟨y, hy, ⟨h1, rfl⟩ | ⟨h1, rfl⟩⟩ := mem_upd h
  · left; rw [<- h1]
  · exact .inr ⟨hy, h1⟩
theorem set_in (he : getL L nm = some e) (hs q : HQ) : (⟨nm, hs, q⟩ : Lk) ∈ setL L nm hs q := by
  have := (getL_some (getL_set he hs q)).1
  rw [(getL_some he).2] at this
  exact this
theorem set_other {x : Lk} (hx : x ∈ L) (hn : x.nm ≠ nm) (hs q : HQ) : x ∈ setL L nm hs q := List.mem_map.2 ⟨x, hx, if_neg hn⟩
theorem nms_set (hs q : HQ) : nms (setL L nm hs q) = nms L := nms_upd (f := fun e => { e with held := hs, q := q }) (fun _ => rfl)
theorem getL_set_ne {n2 : Bs} (h : n2 ≠ nm) (hs q : HQ) : getL (setL L nm hs q) n2 = getL L n2 := by
  unfold setL
  rw [getL_upd (fun e => { e with held := hs, q := q }) (fun _ => rfl)]
  cases hg : getL L n2 with
  | none => rfl
  | some e => rw [Option.map_some, if_neg (by rw [(getL_some hg).2]; exact h)]
theorem tot_set (hn : (nms L).Nodup) (he : getL L nm = some e) (hs q : HQ) : tot (setL L nm hs q) + (e.held.length + e.q.length) = tot L + (hs.length + q.length) := by
  induction L with
  | nil => cases he
  | cons y L ih =>
    have hn' := List.nodup_cons.1 hn
    unfold getL at he
    rw [List.find?_cons] at he
    unfold tot setL updL
    rw [List.map_cons, List.map_cons, List.map_cons, List.sum_cons, List.sum_cons]
    by_cases h : y.nm = nm
    · rw [show (y.nm == nm) = true by simp [h]] at he
      cases he
      rw [if_pos h]
      have : (L.map fun e => if e.nm = nm then ({ e with held := hs, q := q } : Lk) else e) = L := by
        conv => rhs; rw [<- List.map_id L]
        apply List.map_congr_left
        intro x hx
        rw [if_neg fun e1 => hn'.1 (List.mem_map.2 ⟨x, hx, e1.trans h.symm⟩)]; rfl
      rw [this]
      dsimp only; omega
    · rw [show (y.nm == nm) = false by simpa using h] at he
      have := ih hn'.2 he
      unfold tot setL updL at this
      rw [if_neg h]
      omega
theorem tot_mem (he : e ∈ L) : e.held.length + e.q.length <= tot L := by
  induction L with
  | nil => cases he
  | cons y L ih =>
    unfold tot
    rw [List.map_cons, List.sum_cons]
    rcases List.mem_cons.1 he with rfl | he
    · omega
    · have := ih he
      unfold tot at this; omega
theorem tot_len (hne : ∀ e ∈ L, e.held ≠ [] ∨ e.q ≠ []) : L.length <= tot L := by
  induction L with
  | nil => exact Nat.zero_le _
  | cons y L ih =>
    have h1 := ih fun e he => hne e (by simp [he])
    have h2 : 1 <= y.held.length + y.q.length := by
      rcases hne y (by simp) with h | h
      · have := List.length_pos_iff.2 h; omega
      · have := List.length_pos_iff.2 h; omega
    unfold tot at h1 |-
    rw [List.map_cons, List.sum_cons, List.length_cons]
    omega
theorem Good.sz (h : Good b n L W) (hn : n <= 4000) : Sz n L := by
  have hb := h.bb
  refine ⟨hn, Nat.le_trans (tot_len fun e he => h.ne e he fun f => f) h.tot, fun e he => Nat.le_trans (tot_mem he) h.tot, fun e he p hp => ?_, fun e he p hp => ?_⟩
  · have := h.rh e he p hp; omega
  · have := h.rq e he p hp; omega
end
section
variable {L : List Lk} {W W' : WL} {b : Int} {n n' : Nat} {S S2 : Bs -> Prop} {nm : Bs} {e : Lk}
theorem WG.weak (h : WG b n S L W) (hs : ∀ x, S x -> S2 x) (hn : n <= n') : WG b n' S2 L W :=
  ⟨h.bb, h.nd, h.hn, h.qn, h.wn, h.wq, h.wok, Nat.le_trans h.tot hn, h.rh, h.rq, h.hm, h.qm, h.fit, h.nb, h.acy, fun e he hx => h.ne e he fun hh => hx (hs _ hh), fun e he hx => h.first e he fun hh => hx (hs _ hh)⟩
theorem edge_set {hs q : HQ} {o x : Int} (h : Edge (setL L nm hs q) o x) :
    (∃ (i : Nat) (m : Int), q[i]? = some (o, m) /\ (x ∈ (q.take i).map (·.1) ∨ ∃ p ∈ hs, p.1 = x /\ p.1 ≠ o /\ fitsB p.2 m = false)) ∨
    ∃ y ∈ L, y.nm ≠ nm /\ ∃ (i : Nat) (m : Int), y.q[i]? = some (o, m) /\ (x ∈ (y.q.take i).map (·.1) ∨ ∃ p ∈ y.held, p.1 = x /\ p.1 ≠ o /\ fitsB p.2 m = false) := by
  obtain ⟨y, hy, i, m, h1, h2⟩ := h
  rcases mem_set hy with rfl | ⟨hy, hn⟩
  · exact .inl ⟨i, m, h1, h2⟩
  · exact .inr ⟨y, hy, hn, i, m, h1, h2⟩
theorem WG.set (h : WG b n S L W) (he : getL L nm = some e) {hs q : HQ} (hS2 : ∀ x, ¬ S2 x -> x ≠ nm -> ¬ S x)
    (k1 : (keys hs).Nodup) (k2 : (keys q).Nodup) (k3 : (keys W').Nodup)
    (wq : ∀ p ∈ q, getA W' p.1 = some nm) (wq2 : ∀ y ∈ L, y.nm ≠ nm -> ∀ p ∈ y.q, getA W' p.1 = some y.nm)
    (wok : ∀ o n2, getA W' o = some n2 -> (n2 = nm /\ ∃ m, getA q o = some m) ∨ (n2 ≠ nm /\ getA W o = some n2))
    (ht : hs.length + q.length + n <= e.held.length + e.q.length + n')
    (rh : ∀ p ∈ hs, (0 <= p.1 /\ p.1 < b) /\ 1 <= p.2 /\ p.2 <= 6) (rq : ∀ p ∈ q, (0 <= p.1 /\ p.1 < b) /\ 1 <= p.2 /\ p.2 <= 6)
    (fit : ∀ p ∈ hs, ∀ p' ∈ hs, p.1 ≠ p'.1 -> fitsB p.2 p'.2 = true) (nb : ∀ p ∈ q, getA hs p.1 ≠ some p.2)
    (acy : ∀ B' : Int -> List Int, (∀ o x, x ∈ B' o ↔ Edge (setL L nm hs q) o x) -> ∀ o, ¬ Rch B' o o)
    (ne : ¬ S2 nm -> hs ≠ [] ∨ q ≠ []) (first : ¬ S2 nm -> ∀ p r, q = p :: r -> canB hs p.1 p.2 = false) : WG b n' S2 (setL L nm hs q) W' := by
  have hnd : (nms (setL L nm hs q)).Nodup := by rw [nms_set]; exact h.nd
  have hqn : ∀ x ∈ setL L nm hs q, (keys x.q).Nodup := fun x hx => by rcases mem_set hx with rfl | ⟨hx, _⟩; exact k2; exact h.qn x hx
  have hwq : WQ (setL L nm hs q) W' := fun x hx p hp => by
    rcases mem_set hx with rfl | ⟨hx, hn⟩
    · exact wq p hp
    · exact wq2 x hx hn p hp
  have hwok : WOK (setL L nm hs q) W' := fun o n2 hg => by
    rcases wok o n2 hg with ⟨rfl, m, hm⟩ | ⟨hn, hg⟩
    · exact ⟨_, m, getL_set he hs q, hm⟩
    · obtain ⟨e2, m, h1, h2⟩ := h.wok o n2 hg
      exact ⟨e2, m, by rw [getL_set_ne hn]; exact h1, h2⟩
  refine ⟨h.bb, hnd, ?_, hqn, k3, hwq, hwok, ?_, ?_, ?_, ?_, ?_, ?_, ?_, acy _ fun o x => behA_iff hnd hqn hwq hwok, ?_, ?_⟩
  · exact fun x hx => by rcases mem_set hx with rfl | ⟨hx, _⟩; exact k1; exact h.hn x hx
  · have := tot_set h.nd he hs q
    have := h.tot
    omega
  · exact fun x hx p hp => by rcases mem_set hx with rfl | ⟨hx, _⟩; exact (rh p hp).1; exact h.rh x hx p hp
  · exact fun x hx p hp => by rcases mem_set hx with rfl | ⟨hx, _⟩; exact (rq p hp).1; exact h.rq x hx p hp
  · exact fun x hx p hp => by rcases mem_set hx with rfl | ⟨hx, _⟩; exact (rh p hp).2; exact h.hm x hx p hp
  · exact fun x hx p hp => by rcases mem_set hx with rfl | ⟨hx, _⟩; exact (rq p hp).2; exact h.qm x hx p hp
  · exact fun x hx => by rcases mem_set hx with rfl | ⟨hx, _⟩; exact fit; exact h.fit x hx
  · exact fun x hx => by rcases mem_set hx with rfl | ⟨hx, _⟩; exact nb; exact h.nb x hx
  · exact fun x hx hsx => by rcases mem_set hx with rfl | ⟨hx, hn⟩; exact ne hsx; exact h.ne x hx (hS2 _ hsx hn)
  · exact fun x hx hsx => by rcases mem_set hx with rfl | ⟨hx, hn⟩; exact first hsx; exact h.first x hx (hS2 _ hsx hn)
theorem WG.other (h : WG b n S L W) {y : Lk} (hy : y ∈ L) {p p' : Int × Int} (hp : p ∈ y.q) {x : Lk} (hx : x ∈ L) (hp' : p' ∈ x.q) (hn : y.nm ≠ x.nm) : p.1 ≠ p'.1 := by
  intro e1
  have h1 := h.wq y hy p hp
  have h2 := h.wq x hx p' hp'
  rw [e1, h2] at h1
  exact hn (Option.some.inj h1).symm
theorem WG.come1 (h : WG b n S L W) (he : getL L nm = some e) {p : Int × Int} {q : HQ} (hq : e.q = p :: q) (hc : canB e.held p.1 p.2 = true) (hS : S nm) : WG b n S (setL L nm (putA e.held p.1 p.2) q) (delA W p.1) := by
  obtain ⟨hm, hnm⟩ := getL_some he
  have hqn := h.qn e hm
  rw [hq] at hqn
  have hqn' := List.nodup_cons.1 hqn
  have hpq : p ∈ e.q := by rw [hq]; simp
  have hqs : ∀ x ∈ q, x ∈ e.q := fun x hx => by rw [hq]; simp [hx]
  have hne : ∀ x ∈ q, x.1 ≠ p.1 := fun x hx e1 => hqn'.1 (List.mem_map.2 ⟨x, hx, e1⟩)
  have hcan := canB_iff.1 hc
  refine h.set he (fun x hx _ => hx) (nodup_put (h.hn e hm)) hqn'.2 (nodup_del h.wn) ?_ ?_ ?_ ?_ ?_ ?_ ?_ ?_ ?_ (fun hx => absurd hS hx) (fun hx => absurd hS hx)
  · intro x hx
    rw [getA_del_ne (hne x hx), h.wq e hm x (hqs x hx), hnm]
  · intro y hy hyn x hx
    rw [getA_del_ne (h.other hy hx hm hpq (hnm ▸ hyn))]
    exact h.wq y hy x hx
  · intro o n2 hg
    have ho : o ≠ p.1 := fun e1 => by rw [e1, getA_del_self h.wn] at hg; cases hg
    rw [getA_del_ne ho] at hg
    by_cases hn2 : n2 = nm
    · obtain ⟨e2, m, h1, h2⟩ := h.wok o n2 hg
      rw [hn2, he] at h1
      cases h1
      rw [hq, getA_cons, if_neg (Ne.symm ho)] at h2
      exact .inl ⟨hn2, m, h2⟩
    · exact .inr ⟨hn2, hg⟩
  · have := putA_len e.held p.1 p.2
    rw [hq, List.length_cons]; omega
  · intro x hx
    rcases mem_put (h.hn e hm) hx with ⟨h1, _⟩ | rfl
    · exact ⟨h.rh e hm x h1, h.hm e hm x h1⟩
    · exact ⟨h.rq e hm p hpq, h.qm e hm p hpq⟩
  · exact fun x hx => ⟨h.rq e hm x (hqs x hx), h.qm e hm x (hqs x hx)⟩
  · intro x hx y hy hxy
    rcases mem_put (h.hn e hm) hx with ⟨h1, h2⟩ | rfl <;> rcases mem_put (h.hn e hm) hy with ⟨h3, h4⟩ | rfl
    · exact h.fit e hm x h1 y h3 hxy
    · rcases hcan x h1 with h5 | h5
      · exact absurd h5 h2
      · exact h5
    · rcases hcan y h3 with h5 | h5
      · exact absurd h5 h4
      · rw [fits_symm]; exact h5
    · exact absurd rfl hxy
  · intro x hx
    rw [getA_put_ne (hne x hx)]
    exact h.nb e hm x (hqs x hx)
  · intro B' hB o hr
    refine h.acy o (hr.mono fun o x hx => ?_)
    rw [hB] at hx
    rw [h.edge]
    rcases edge_set hx with ⟨i, m, h1, h2⟩ | ⟨y, hy, _, i, m, h1, h2⟩
    · refine ⟨e, hm, i + 1, m, by rw [hq]; simpa using h1, ?_⟩
      rcases h2 with h2 | ⟨p', hp', rfl, h3, h4⟩
      · left; rw [hq, List.take_succ_cons, List.map_cons]; exact List.mem_cons_of_mem _ h2
      · rcases mem_put (h.hn e hm) hp' with ⟨h5, _⟩ | rfl
        · exact .inr ⟨p', h5, rfl, h3, h4⟩
        · left; rw [hq, List.take_succ_cons, List.map_cons]; exact List.mem_cons_self
    · exact ⟨y, hy, i, m, h1, h2⟩
theorem comeQ_stop : ∀ (q hs : HQ), (comeQ q hs).2.1 = [] ∨ ∃ p r, (comeQ q hs).2.1 = p :: r /\ canB (comeQ q hs).1 p.1 p.2 = false
  | [], hs => .inl rfl
  | p :: q, hs => by
    unfold comeQ
    split
    · exact comeQ_stop q (putA hs p.1 p.2)
    · rename_i hc
      exact .inr ⟨p, q, rfl, by simpa using hc⟩
theorem WG.comes : ∀ (q hs : HQ) (L : List Lk) (W : WL) (e : Lk), WG b n S L W -> getL L nm = some e -> e.q = q -> e.held = hs -> S nm -> WG b n S (setL L nm (comeQ q hs).1 (comeQ q hs).2.1) (delAll W (comeQ q hs).2.2)
  | [], hs, L, W, e, h, he, hq, hh, hS => by
    show WG b n S (setL L nm hs []) W
    rw [<- hh, <- hq, set_same h.nd he]; exact h
  | p :: q, hs, L, W, e, h, he, hq, hh, hS => by
    unfold comeQ
    split
    · rename_i hc
      have h2 := h.come1 he hq (hh ▸ hc) hS
      rw [hh] at h2
      have := WG.comes q (putA hs p.1 p.2) _ _ _ h2 (getL_set he (putA hs p.1 p.2) q) rfl rfl hS
      rw [set_set] at this
      exact this
    · show WG b n S (setL L nm hs (p :: q)) W
      rw [<- hh, <- hq, set_same h.nd he]; exact h
theorem tot_cut (L : List Lk) (nm : Bs) : tot (cutL L nm) <= tot L := by
  induction L with
  | nil => exact Nat.le_refl _
  | cons y L ih =>
    unfold cutL tot at ih |-
    by_cases hy : (y.nm != nm) = true
    · rw [List.filter_cons_of_pos (p := fun e : Lk => e.nm != nm) hy, List.map_cons, List.sum_cons, List.map_cons, List.sum_cons]; omega
    · rw [List.filter_cons_of_neg (p := fun e : Lk => e.nm != nm) hy, List.map_cons, List.sum_cons]; omega
theorem getL_cut_ne {n2 : Bs} (h : n2 ≠ nm) : getL (cutL L nm) n2 = getL L n2 := by
  unfold getL cutL
  rw [List.find?_filter]
  congr 1
  funext x
  by_cases hx : x.nm = n2
  · simp [hx, h]
  · simp [hx]
theorem WG.cut (h : WG b n S L W) (he : getL L nm = some e) (h1 : e.q = []) : WG b n (fun x => S x /\ x ≠ nm) (cutL L nm) W := by
  obtain ⟨hm, hnm⟩ := getL_some he
  have sub : ∀ x ∈ cutL L nm, x ∈ L /\ x.nm ≠ nm := fun x hx => by
    have := List.mem_filter.1 hx
    exact ⟨this.1, by simpa using this.2⟩
  have hnd : (nms (cutL L nm)).Nodup := by rw [nms_cut]; exact h.nd.filter _
  have hqn : ∀ x ∈ cutL L nm, (keys x.q).Nodup := fun x hx => h.qn x (sub x hx).1
  have hwq : WQ (cutL L nm) W := fun x hx => h.wq x (sub x hx).1
  have hwok : WOK (cutL L nm) W := fun o n2 hg => by
    obtain ⟨e2, m, g1, g2⟩ := h.wok o n2 hg
    have : n2 ≠ nm := by
      rintro rfl
      rw [he] at g1; cases g1
      rw [h1] at g2; cases g2
    exact ⟨e2, m, by rw [getL_cut_ne this]; exact g1, g2⟩
  refine ⟨h.bb, hnd, fun x hx => h.hn x (sub x hx).1, hqn, h.wn, hwq, hwok, Nat.le_trans (tot_cut L nm) h.tot, fun x hx => h.rh x (sub x hx).1, fun x hx => h.rq x (sub x hx).1, fun x hx => h.hm x (sub x hx).1, fun x hx => h.qm x (sub x hx).1, fun x hx => h.fit x (sub x hx).1, fun x hx => h.nb x (sub x hx).1, ?_, ?_, ?_⟩
  · intro o hr
    refine h.acy o (hr.mono fun o x hx => ?_)
    rw [behA_iff hnd hqn hwq hwok] at hx
    rw [h.edge]
    obtain ⟨y, hy, hh⟩ := hx
    exact ⟨y, (sub y hy).1, hh⟩
  · exact fun x hx hs => h.ne x (sub x hx).1 fun hh => hs ⟨hh, (sub x hx).2⟩
  · exact fun x hx hs => h.first x (sub x hx).1 fun hh => hs ⟨hh, (sub x hx).2⟩
theorem WG.come (h : WG b n S L W) (nm : Bs) : WG b n (fun x => S x /\ x ≠ nm) (comeL L W nm).1 (comeL L W nm).2.1 := by
  cases he : getL L nm with
  | none =>
    rw [come_none he]
    refine ⟨h.bb, h.nd, h.hn, h.qn, h.wn, h.wq, h.wok, h.tot, h.rh, h.rq, h.hm, h.qm, h.fit, h.nb, h.acy, fun e hm hs => h.ne e hm fun hh => hs ⟨hh, fun e1 => getL_none he (List.mem_map.2 ⟨e, hm, e1⟩)⟩, fun e hm hs => h.first e hm fun hh => hs ⟨hh, fun e1 => getL_none he (List.mem_map.2 ⟨e, hm, e1⟩)⟩⟩
  | some e =>
    rw [come_some he]
    have h1 : WG b n (fun x => S x ∨ x = nm) L W := h.weak (fun x hx => .inl hx) (Nat.le_refl _)
    have h2 := WG.comes e.q e.held L W e h1 he rfl rfl (.inr rfl)
    have he2 := getL_set he (comeQ e.q e.held).1 (comeQ e.q e.held).2.1
    dsimp only
    unfold tidyL
    rw [he2]
    dsimp only
    split
    · rename_i hemp
      exact (h2.cut he2 hemp.2).weak (fun x hx => ⟨hx.1.resolve_right hx.2, hx.2⟩) (Nat.le_refl _)
    · rename_i hne
      have hin : ∀ x ∈ setL L nm (comeQ e.q e.held).1 (comeQ e.q e.held).2.1, ¬ (S x.nm /\ x.nm ≠ nm) -> ¬ (S x.nm ∨ x.nm = nm) ∨ x = ⟨nm, (comeQ e.q e.held).1, (comeQ e.q e.held).2.1⟩ := by
        intro x hx hs
        rcases mem_set hx with rfl | ⟨_, hn⟩
        · exact .inr rfl
        · exact .inl fun hh => hs ⟨hh.resolve_right hn, hn⟩
      refine ⟨h2.bb, h2.nd, h2.hn, h2.qn, h2.wn, h2.wq, h2.wok, h2.tot, h2.rh, h2.rq, h2.hm, h2.qm, h2.fit, h2.nb, h2.acy, fun x hx hs => ?_, fun x hx hs => ?_⟩
      · rcases hin x hx hs with h3 | rfl
        · exact h2.ne x hx h3
        · by_cases h4 : (comeQ e.q e.held).1 = []
          · exact .inr fun h5 => hne ⟨h4, h5⟩
          · exact .inl h4
      · rcases hin x hx hs with h3 | rfl
        · exact h2.first x hx h3
        · intro p r hpr
          rcases comeQ_stop e.q e.held with h4 | ⟨p', r', h4, h5⟩
          · rw [h4] at hpr; cases hpr
          · rw [h4] at hpr; cases hpr; exact h5
theorem WG.comeAll : ∀ (ks : List Bs) (L : List Lk) (W : WL), WG b n (fun x => x ∈ ks) L W -> Good b n (comeAll ks L W).1 (comeAll ks L W).2.1
  | [], L, W, h => h.weak (fun x hx => by cases hx) (Nat.le_refl _)
  | c :: ks, L, W, h => WG.comeAll ks _ _ ((h.come c).weak (fun x hx => (List.mem_cons.1 hx.1).resolve_left hx.2) (Nat.le_refl _))
theorem dropL_mem {o : Int} {x : Lk} (h : x ∈ dropL L o) : ∃ y ∈ L, x = dropE o y := by
  obtain ⟨y, hy, rfl⟩ := List.mem_map.1 h
  exact ⟨y, hy, rfl⟩
theorem getL_drop (o : Int) (n2 : Bs) : getL (dropL L o) n2 = (getL L n2).map (dropE o) := by
  unfold getL dropL
  rw [List.find?_map]
  rfl
theorem tot_drop (L : List Lk) (o : Int) : tot (dropL L o) <= tot L := by
  induction L with
  | nil => exact Nat.le_refl _
  | cons y L ih =>
    unfold dropL tot at ih |-
    rw [List.map_cons, List.map_cons, List.sum_cons, List.map_cons, List.sum_cons]
    have h1 := (delA_sub y.held o).length_le
    have h2 := List.length_filter_le (fun p : Int × Int => p.1 != o) y.q
    show (delA y.held o).length + (y.q.filter (·.1 != o)).length + _ <= _
    omega
theorem getA_filter {l : HQ} {o o' : Int} (h : o' ≠ o) : getA (l.filter (·.1 != o)) o' = getA l o' := by
  unfold getA
  rw [List.find?_filter]
  congr 1
  congr 1
  funext x
  by_cases hx : x.1 = o'
  · simp [hx, h]
  · simp [hx]
theorem filter_idx {α : Type} (f : α -> Bool) : ∀ (l : List α) (i : Nat) (x : α), (l.filter f)[i]? = some x -> ∃ j, l[j]? = some x /\ ∀ y ∈ (l.filter f).take i, y ∈ l.take j
  | [], i, x, h => by simp at h
  | a :: l, i, x, h => by
    by_cases ha : f a = true
    · rw [List.filter_cons_of_pos ha] at h |-
      cases i with
      | zero => exact ⟨0, by simpa using h, by simp⟩
      | succ i =>
        obtain ⟨j, h1, h2⟩ := filter_idx f l i x (by simpa using h)
        refine ⟨j + 1, by simpa using h1, fun y hy => ?_⟩
        rw [List.take_succ_cons] at hy |-
        rcases List.mem_cons.1 hy with rfl | hy
        · simp
        · exact List.mem_cons_of_mem _ (h2 y hy)
    · rw [List.filter_cons_of_neg ha] at h |-
      obtain ⟨j, h1, h2⟩ := filter_idx f l i x h
      exact ⟨j + 1, by simpa using h1, fun y hy => by rw [List.take_succ_cons]; exact List.mem_cons_of_mem _ (h2 y hy)⟩
theorem WG.drop (h : WG b n S L W) (o : Int) : WG b n (fun _ => True) (dropL L o) (delA W o) := by
  have hnd : (nms (dropL L o)).Nodup := by rw [nms_drop]; exact h.nd
  have hqn : ∀ x ∈ dropL L o, (keys x.q).Nodup := fun x hx => by
    obtain ⟨y, hy, rfl⟩ := dropL_mem hx
    exact (h.qn y hy).sublist (List.filter_sublist.map _)
  have hwq : WQ (dropL L o) (delA W o) := fun x hx p hp => by
    obtain ⟨y, hy, rfl⟩ := dropL_mem hx
    obtain ⟨h1, h2⟩ := List.mem_filter.1 hp
    rw [getA_del_ne (by simpa using h2)]
    exact h.wq y hy p h1
  have hwok : WOK (dropL L o) (delA W o) := fun o' n2 hg => by
    have ho : o' ≠ o := fun e1 => by rw [e1, getA_del_self h.wn] at hg; cases hg
    rw [getA_del_ne ho] at hg
    obtain ⟨e2, m, g1, g2⟩ := h.wok o' n2 hg
    refine ⟨dropE o e2, m, by rw [getL_drop, g1]; rfl, ?_⟩
    show getA (e2.q.filter (·.1 != o)) o' = some m
    rw [getA_filter ho]; exact g2
  have sub : ∀ y : Lk, (∀ p ∈ (dropE o y).held, p ∈ y.held) /\ ∀ p ∈ (dropE o y).q, p ∈ y.q := fun y => ⟨fun p hp => (delA_sub _ _).subset hp, fun p hp => (List.mem_filter.1 hp).1⟩
  refine ⟨h.bb, hnd, ?_, hqn, nodup_del h.wn, hwq, hwok, Nat.le_trans (tot_drop L o) h.tot, ?_, ?_, ?_, ?_, ?_, ?_, ?_, fun _ _ hs => absurd trivial hs, fun _ _ hs => absurd trivial hs⟩
  · intro x hx
    obtain ⟨y, hy, rfl⟩ := dropL_mem hx
    exact nodup_del (h.hn y hy)
  · intro x hx p hp
    obtain ⟨y, hy, rfl⟩ := dropL_mem hx
    exact h.rh y hy p ((sub y).1 p hp)
  · intro x hx p hp
    obtain ⟨y, hy, rfl⟩ := dropL_mem hx
    exact h.rq y hy p ((sub y).2 p hp)
  · intro x hx p hp
    obtain ⟨y, hy, rfl⟩ := dropL_mem hx
    exact h.hm y hy p ((sub y).1 p hp)
  · intro x hx p hp
    obtain ⟨y, hy, rfl⟩ := dropL_mem hx
    exact h.qm y hy p ((sub y).2 p hp)
  · intro x hx p hp p' hp'
    obtain ⟨y, hy, rfl⟩ := dropL_mem hx
    exact h.fit y hy p ((sub y).1 p hp) p' ((sub y).1 p' hp')
  · intro x hx p hp
    obtain ⟨y, hy, rfl⟩ := dropL_mem hx
    have := (List.mem_filter.1 hp).2
    show getA (delA y.held o) p.1 ≠ some p.2
    rw [getA_del_ne (by simpa using this)]
    exact h.nb y hy p ((sub y).2 p hp)
  · intro o' hr
    refine h.acy o' (hr.mono fun a x hx => ?_)
    rw [behA_iff hnd hqn hwq hwok] at hx
    rw [h.edge]
    obtain ⟨z, hz, i, m, h1, h2⟩ := hx
    obtain ⟨y, hy, rfl⟩ := dropL_mem hz
    obtain ⟨j, h3, h4⟩ := filter_idx _ y.q i _ h1
    refine ⟨y, hy, j, m, h3, ?_⟩
    rcases h2 with h2 | ⟨p, hp, h5⟩
    · obtain ⟨p, hp, rfl⟩ := List.mem_map.1 h2
      exact .inl (List.mem_map.2 ⟨p, h4 p hp, rfl⟩)
    · exact .inr ⟨p, (sub y).1 p hp, h5⟩
theorem Good.drop (h : Good b n L W) (o : Int) : Good b n (dropA L W o).1 (dropA L W o).2.1 := by
  unfold dropA
  refine WG.comeAll _ _ _ ?_
  have h1 := WG.drop h o
  have : ∀ e ∈ dropL L o, e.nm ∈ srtS (nms L) := fun e he => srtS_mem.2 (by rw [<- nms_drop (L := L) o]; exact List.mem_map.2 ⟨e, he, rfl⟩)
  exact ⟨h1.bb, h1.nd, h1.hn, h1.qn, h1.wn, h1.wq, h1.wok, h1.tot, h1.rh, h1.rq, h1.hm, h1.qm, h1.fit, h1.nb, h1.acy, fun e he hs => absurd (this e he) hs, fun e he hs => absurd (this e he) hs⟩
end
section
variable {L : List Lk} {W W' : WL} {b : Int} {n n' : Nat} {S S2 : Bs -> Prop} {nm : Bs} {e : Lk}
theorem Good.free1 (h : Good b n L W) {o : Int} (he : getL L nm = some e) (hg : getA W o ≠ some nm) : WG b n (fun x => x = nm) (setL L nm (delA e.held o) e.q) W := by
  obtain ⟨hm, hnm⟩ := getL_some he
  have hoq : ∀ p ∈ e.q, p.1 ≠ o := fun p hp e1 => hg (by have := h.wq e hm p hp; rw [e1, hnm] at this; exact this)
  have hsub : ∀ p ∈ delA e.held o, p ∈ e.held := fun p hp => (delA_sub _ _).subset hp
  refine WG.set h he (fun x hx hn => fun hh => hh) (nodup_del (h.hn e hm)) (h.qn e hm) h.wn (fun p hp => by rw [h.wq e hm p hp, hnm]) (fun y hy _ p hp => h.wq y hy p hp) ?_ ?_ (fun p hp => ⟨h.rh e hm p (hsub p hp), h.hm e hm p (hsub p hp)⟩) (fun p hp => ⟨h.rq e hm p hp, h.qm e hm p hp⟩) (fun p hp p' hp' => h.fit e hm p (hsub p hp) p' (hsub p' hp')) ?_ ?_ (fun hx => absurd rfl hx) (fun hx => absurd rfl hx)
  · intro o' n2 hg
    by_cases hn2 : n2 = nm
    · obtain ⟨e2, m, h1, h2⟩ := h.wok o' n2 hg
      rw [hn2, he] at h1
      cases h1
      exact .inl ⟨hn2, m, h2⟩
    · exact .inr ⟨hn2, hg⟩
  · have := (delA_sub e.held o).length_le; omega
  · intro p hp
    rw [getA_del_ne (hoq p hp)]
    exact h.nb e hm p hp
  · intro B' hB o' hr
    refine h.acy o' (hr.mono fun a x hx => ?_)
    rw [hB] at hx
    rw [WG.edge h]
    rcases edge_set hx with ⟨i, m, h1, h2⟩ | ⟨y, hy, _, i, m, h1, h2⟩
    · refine ⟨e, hm, i, m, h1, ?_⟩
      rcases h2 with h2 | ⟨p, hp, h5⟩
      · exact .inl h2
      · exact .inr ⟨p, hsub p hp, h5⟩
    · exact ⟨y, hy, i, m, h1, h2⟩
theorem Good.free (h : Good b n L W) (o : Int) (nm : Bs) : Good b n (freeA L W o nm).2.1 (freeA L W o nm).2.2.1 := by
  unfold freeA
  split
  · exact h
  · split
    · exact h
    · rename_i h1 h2
      cases he : getL L nm with
      | none => exact h
      | some e => exact ((Good.free1 h he h2).come nm).weak (fun x hx => hx.2 hx.1) (Nat.le_refl _)
theorem WG.at (h : Good b n L W) (nm : Bs) : WG b n (fun x => x = nm) (atL L nm) W := by
  unfold atL
  cases hg : getL L nm with
  | some e => exact WG.weak h (fun x hx => hx.elim) (Nat.le_refl _)
  | none =>
    have hmem : ∀ x ∈ L ++ [newL nm], x ∈ L ∨ x = newL nm := fun x hx => by
      rcases List.mem_append.1 hx with h | h
      · exact .inl h
      · exact .inr (by simpa using h)
    have hnd : (nms (L ++ [newL nm])).Nodup := by
      simp only [nms, List.map_append, List.map_cons, List.map_nil]
      rw [List.nodup_append]
      refine ⟨h.nd, by simp, fun a ha b hb => ?_⟩
      simp only [List.mem_singleton] at hb
      rw [hb]; rintro rfl
      exact getL_none hg ha
    have hqn : ∀ e ∈ L ++ [newL nm], (keys e.q).Nodup := fun e he => by rcases hmem e he with he | rfl; exact h.qn e he; exact List.nodup_nil
    have hwq : WQ (L ++ [newL nm]) W := fun e he p hp => by rcases hmem e he with he | rfl; exact h.wq e he p hp; cases hp
    have hwok : WOK (L ++ [newL nm]) W := fun o n2 hw => by
      obtain ⟨e2, m, g1, g2⟩ := h.wok o n2 hw
      refine ⟨e2, m, ?_, g2⟩
      unfold getL at g1 |-
      rw [List.find?_append, g1]; rfl
    refine ⟨h.bb, hnd, fun e he => by rcases hmem e he with he | rfl; exact h.hn e he; exact List.nodup_nil, hqn, h.wn, hwq, hwok, ?_, fun e he p hp => ?_, fun e he p hp => ?_, fun e he p hp => ?_, fun e he p hp => ?_, fun e he p hp => ?_, fun e he p hp => ?_, ?_, fun e he hs => ?_, fun e he hs => ?_⟩
    · have : Go.Proofs.Ytpkeiaeaonmacaa.tot (L ++ [newL nm]) = Go.Proofs.Ytpkeiaeaonmacaa.tot L := by simp [Go.Proofs.Ytpkeiaeaonmacaa.tot, newL]
      rw [this]; exact h.tot
    · rcases hmem e he with he | rfl; exact h.rh e he p hp; cases hp
    · rcases hmem e he with he | rfl; exact h.rq e he p hp; cases hp
    · rcases hmem e he with he | rfl; exact h.hm e he p hp; cases hp
    · rcases hmem e he with he | rfl; exact h.qm e he p hp; cases hp
    · rcases hmem e he with he | rfl; exact h.fit e he p hp; cases hp
    · rcases hmem e he with he | rfl; exact h.nb e he p hp; cases hp
    · intro o hr
      refine h.acy o (hr.mono fun a x hx => ?_)
      rw [behA_iff hnd hqn hwq hwok] at hx
      rw [WG.edge h]
      obtain ⟨y, hy, i, m, h1, h2⟩ := hx
      rcases hmem y hy with hy | rfl
      · exact ⟨y, hy, i, m, h1, h2⟩
      · simp [newL] at h1
    · rcases hmem e he with he | rfl
      · exact h.ne e he fun f => f
      · exact absurd rfl hs
    · rcases hmem e he with he | rfl
      · exact h.first e he fun f => f
      · exact absurd rfl hs
theorem WG.had (h : WG b n S L W) (he : e ∈ L) (o : Int) : 0 <= (getA e.held o).getD 0 /\ (getA e.held o).getD 0 < 7 := by
  cases hg : getA e.held o with
  | none => exact ⟨by simp, by simp⟩
  | some m => have := h.hm e he _ (getA_mem hg); simp only [Option.getD_some]; omega
theorem WG.grant (h : WG b n (fun x => x = nm) L W) (he : getL L nm = some e) {o m : Int} (ho : 0 <= o /\ o < b) (hm : 1 <= m /\ m <= 6) (hg : getA W o = none)
    (hc : canB e.held o (joinB ((getA e.held o).getD 0) m) = true) (hf : ∀ p r, e.q = p :: r -> canB e.held p.1 p.2 = false) :
    Good b (n + 1) (setL L nm (putA e.held o (joinB ((getA e.held o).getD 0) m)) e.q) W := by
  obtain ⟨hme, hnm⟩ := getL_some he
  have hhad := h.had hme o
  have hj := join_rng hhad hm
  have hcan := canB_iff.1 hc
  have hoq : ∀ p ∈ e.q, p.1 ≠ o := fun p hp e1 => by have := h.wq e hme p hp; rw [e1, hg] at this; cases this
  refine h.set he (fun x _ hn hx => hn hx) (nodup_put (h.hn e hme)) (h.qn e hme) h.wn (fun p hp => by rw [h.wq e hme p hp, hnm]) (fun y hy _ p hp => h.wq y hy p hp) ?_ ?_ ?_ (fun p hp => ⟨h.rq e hme p hp, h.qm e hme p hp⟩) ?_ ?_ ?_ (fun _ => .inl ?_) (fun _ p r hpr => ?_)
  · intro o' n2 hg
    by_cases hn2 : n2 = nm
    · obtain ⟨e2, m, h1, h2⟩ := h.wok o' n2 hg
      rw [hn2, he] at h1
      cases h1
      exact .inl ⟨hn2, m, h2⟩
    · exact .inr ⟨hn2, hg⟩
  · have := putA_len e.held o (joinB ((getA e.held o).getD 0) m); omega
  · intro x hx
    rcases mem_put (h.hn e hme) hx with ⟨h1, _⟩ | rfl
    · exact ⟨h.rh e hme x h1, h.hm e hme x h1⟩
    · exact ⟨ho, hj⟩
  · intro x hx y hy hxy
    rcases mem_put (h.hn e hme) hx with ⟨h1, h2⟩ | rfl <;> rcases mem_put (h.hn e hme) hy with ⟨h3, h4⟩ | rfl
    · exact h.fit e hme x h1 y h3 hxy
    · exact (hcan x h1).resolve_left h2
    · rw [fits_symm]; exact (hcan y h3).resolve_left h4
    · exact absurd rfl hxy
  · intro p hp
    rw [getA_put_ne (hoq p hp)]
    exact h.nb e hme p hp
  · intro B' hB
    refine acy_sink (B := behA L W) (fun a x hx => ?_) h.acy
    rw [hB] at hx
    by_cases hxo : x = o
    · right
      rw [List.eq_nil_iff_forall_not_mem]
      intro y hy
      rw [hxo, hB] at hy
      rcases edge_set hy with ⟨i, m', h1, _⟩ | ⟨z, hz, _, i, m', h1, _⟩
      · exact hoq _ (List.mem_of_getElem? h1) rfl
      · have := h.wq z hz _ (List.mem_of_getElem? h1)
        rw [hg] at this; cases this
    · left
      rw [h.edge]
      rcases edge_set hx with ⟨i, m', h1, h2⟩ | ⟨z, hz, _, i, m', h1, h2⟩
      · refine ⟨e, hme, i, m', h1, ?_⟩
        rcases h2 with h2 | ⟨p, hp, h5, h6, h7⟩
        · exact .inl h2
        · rcases mem_put (h.hn e hme) hp with ⟨h8, _⟩ | rfl
          · exact .inr ⟨p, h8, h5, h6, h7⟩
          · exact absurd h5.symm hxo
      · exact ⟨z, hz, i, m', h1, h2⟩
  · intro h0
    have := put_mem (l := e.held) (o := o) (a := joinB ((getA e.held o).getD 0) m)
    rw [h0] at this; cases this
  · obtain ⟨p', hp', h1, h2⟩ := canB_not.1 (hf p r hpr)
    rw [canB_not]
    have hpo : p.1 ≠ o := hoq p (by rw [hpr]; simp)
    by_cases hpo' : p'.1 = o
    · refine ⟨_, put_mem, Ne.symm hpo, ?_⟩
      have hge : getA e.held o = some p'.2 := getA_of (h.hn e hme) (by rw [<- hpo']; exact hp')
      have hcv := (join_cov hhad hm).1
      rw [hge] at hcv |-
      cases hff : fitsB (joinB ((some p'.2).getD 0) m) p.2 with
      | false => rfl
      | true => have := cov_fit hcv hff; rw [Option.getD_some, h2] at this; cases this
    · exact ⟨p', put_old hp' hpo', h1, h2⟩
theorem insQ_mem {o m : Int} {p : Int × Int} : p ∈ insQ e o m ↔ p ∈ e.q ∨ p = (o, m) := by
  unfold insQ
  rw [List.mem_append, List.mem_cons]
  constructor
  · rintro (h | rfl | h)
    · exact .inl (List.mem_of_mem_take h)
    · exact .inr rfl
    · exact .inl (List.mem_of_mem_drop h)
  · rintro (h | rfl)
    · rw [<- List.take_append_drop (placeN e o) e.q] at h
      rcases List.mem_append.1 h with h | h
      · exact .inl h
      · exact .inr (.inr h)
    · exact .inr (.inl rfl)
theorem insQ_len (o m : Int) : (insQ e o m).length = e.q.length + 1 := by
  have := placeN_le e o
  unfold insQ
  simp; omega
theorem insQ_nodup {o m : Int} (hn : (keys e.q).Nodup) (ho : o ∉ keys e.q) : (keys (insQ e o m)).Nodup := by
  have hp : (insQ e o m).Perm ((o, m) :: e.q) := by
    unfold insQ
    refine List.perm_middle.trans ?_
    rw [List.take_append_drop]
  refine (hp.map _).nodup_iff.2 ?_
  rw [List.map_cons]
  exact List.nodup_cons.2 ⟨ho, hn⟩
theorem insQ_first {o m : Int} {p : Int × Int} {r : HQ} (h : insQ e o m = p :: r) : p = (o, m) /\ (getA e.held o ≠ none ∨ e.q = []) ∨ ∃ r', e.q = p :: r' := by
  unfold insQ at h
  cases hq : e.q with
  | nil =>
    rw [hq] at h
    simp at h
    exact .inl ⟨h.1.symm, .inr rfl⟩
  | cons x q =>
    cases hk : placeN e o with
    | zero =>
      rw [hk] at h
      simp at h
      refine .inl ⟨h.1.symm, .inl fun h0 => ?_⟩
      unfold placeN at hk
      rw [h0, hq] at hk
      simp at hk
    | succ k =>
      rw [hk, hq, List.take_succ_cons] at h
      injection h with h1 h2
      exact .inr ⟨q, by rw [h1]⟩
theorem insQ_idx {o m o' m' : Int} {i : Nat} (hn : (keys e.q).Nodup) (ho : o ∉ keys e.q) (h : (insQ e o m)[i]? = some (o', m')) (hne : o' ≠ o) : ∃ j, e.q[j]? = some (o', m') /\ ∀ x ∈ ((insQ e o m).take i).map (·.1), x ∈ (e.q.take j).map (·.1) ∨ x = o := by
  have hk := placeN_le e o
  unfold insQ at h |-
  have htl : (e.q.take (placeN e o)).length = placeN e o := by simp; omega
  rcases Nat.lt_trichotomy i (placeN e o) with hlt | heq | hgt
  · rw [List.getElem?_append_left (by omega), List.getElem?_take, if_pos hlt] at h
    refine ⟨i, h, fun x hx => .inl ?_⟩
    rw [List.take_append_of_le_length (by omega), List.take_take, Nat.min_eq_left (by omega)] at hx
    exact hx
  · rw [List.getElem?_append_right (by omega), heq, htl, Nat.sub_self] at h
    simp at h
    exact absurd h.1.symm hne
  · obtain ⟨d, rfl⟩ : ∃ d, i = placeN e o + 1 + d := ⟨i - (placeN e o + 1), by omega⟩
    rw [List.getElem?_append_right (by omega), htl, show placeN e o + 1 + d - placeN e o = d + 1 by omega, List.getElem?_cons_succ, List.getElem?_drop] at h
    refine ⟨placeN e o + d, h, fun x hx => ?_⟩
    rw [List.take_append, List.take_of_length_le (by omega), htl, show placeN e o + 1 + d - placeN e o = d + 1 by omega, List.take_succ_cons, List.map_append, List.map_cons] at hx
    rcases List.mem_append.1 hx with hx | hx
    · left
      obtain ⟨p, hp, rfl⟩ := List.mem_map.1 hx
      exact List.mem_map.2 ⟨p, by
        have : e.q.take (placeN e o) = (e.q.take (placeN e o + d)).take (placeN e o) := by rw [List.take_take, Nat.min_eq_left (by omega)]
        rw [this] at hp
        exact List.mem_of_mem_take hp, rfl⟩
    · rcases List.mem_cons.1 hx with rfl | hx
      · exact .inr rfl
      · left
        obtain ⟨p, hp, rfl⟩ := List.mem_map.1 hx
        refine List.mem_map.2 ⟨p, ?_, rfl⟩
        rw [List.take_add, List.mem_append]
        exact .inr hp
theorem stay_pre (h : WG b n S L W) (he : getL L nm = some e) {o m : Int} (hg : getA W o = none) :
    (nms (setL L nm e.held (insQ e o m))).Nodup /\ (∀ x ∈ setL L nm e.held (insQ e o m), (keys x.q).Nodup) /\ WQ (setL L nm e.held (insQ e o m)) (putA W o nm) /\ WOK (setL L nm e.held (insQ e o m)) (putA W o nm) /\ o ∉ keys e.q := by
  obtain ⟨hme, hnm⟩ := getL_some he
  have hoall : ∀ y ∈ L, ∀ p ∈ y.q, p.1 ≠ o := fun y hy p hp e1 => by have := h.wq y hy p hp; rw [e1, hg] at this; cases this
  have ho : o ∉ keys e.q := fun hm => by obtain ⟨p, hp, e1⟩ := List.mem_map.1 hm; exact hoall e hme p hp e1
  refine ⟨by rw [nms_set]; exact h.nd, fun x hx => ?_, fun x hx p hp => ?_, fun o' n2 hg' => ?_, ho⟩
  · rcases mem_set hx with rfl | ⟨hx, _⟩
    · exact insQ_nodup (h.qn e hme) ho
    · exact h.qn x hx
  · rcases mem_set hx with rfl | ⟨hx, _⟩
    · rcases insQ_mem.1 hp with hp | rfl
      · rw [getA_put_ne (hoall e hme p hp), h.wq e hme p hp, hnm]
      · exact getA_put_self
    · rw [getA_put_ne (hoall x hx p hp)]; exact h.wq x hx p hp
  · by_cases ho' : o' = o
    · rw [ho', getA_put_self] at hg'
      cases hg'
      exact ⟨_, m, getL_set he e.held _, by rw [ho']; exact getA_of (insQ_nodup (h.qn e hme) ho) (insQ_mem.2 (.inr rfl))⟩
    · rw [getA_put_ne ho'] at hg'
      obtain ⟨e2, m2, g1, g2⟩ := h.wok o' n2 hg'
      by_cases hn2 : n2 = nm
      · rw [hn2, he] at g1
        cases g1
        exact ⟨_, m2, by rw [hn2]; exact getL_set he e.held _, getA_of (insQ_nodup (h.qn e hme) ho) (insQ_mem.2 (.inl (getA_mem g2)))⟩
      · exact ⟨e2, m2, by rw [getL_set_ne hn2]; exact g1, g2⟩
theorem WG.stay (h : WG b n (fun x => x = nm) L W) (he : getL L nm = some e) {o m : Int} (ho : 0 <= o /\ o < b) (hm : 1 <= m /\ m <= 6) (hg : getA W o = none)
    (hnb : getA e.held o ≠ some m) (hc : (getA e.held o ≠ none ∨ e.q = []) -> canB e.held o m = false) (hf : ∀ p r, e.q = p :: r -> canB e.held p.1 p.2 = false)
    (hd : ¬ Rch (behA (setL L nm e.held (insQ e o m)) (putA W o nm)) o o) :
    Good b (n + 1) (setL L nm e.held (insQ e o m)) (putA W o nm) := by
  obtain ⟨hme, hnm⟩ := getL_some he
  obtain ⟨s1, s2, s3, s4, hoq⟩ := stay_pre (m := m) h he hg
  refine h.set he (fun x _ hn hx => hn hx) (h.hn e hme) (insQ_nodup (h.qn e hme) hoq) (nodup_put h.wn) (fun p hp => s3 _ (set_in he _ _) p hp) (fun y hy hyn p hp => s3 y (set_other hy hyn _ _) p hp) ?_ (by rw [insQ_len]; omega) (fun p hp => ⟨h.rh e hme p hp, h.hm e hme p hp⟩) ?_ (h.fit e hme) ?_ ?_ (fun _ => .inr ?_) (fun _ p r hpr => ?_)
  · intro o' n2 hg'
    by_cases ho' : o' = o
    · rw [ho', getA_put_self] at hg'
      cases hg'
      exact .inl ⟨rfl, m, by rw [ho']; exact getA_of (insQ_nodup (h.qn e hme) hoq) (insQ_mem.2 (.inr rfl))⟩
    · rw [getA_put_ne ho'] at hg'
      obtain ⟨e2, m2, g1, g2⟩ := h.wok o' n2 hg'
      by_cases hn2 : n2 = nm
      · rw [hn2, he] at g1
        cases g1
        exact .inl ⟨hn2, m2, getA_of (insQ_nodup (h.qn e hme) hoq) (insQ_mem.2 (.inl (getA_mem g2)))⟩
      · exact .inr ⟨hn2, hg'⟩
  · intro p hp
    rcases insQ_mem.1 hp with hp | rfl
    · exact ⟨h.rq e hme p hp, h.qm e hme p hp⟩
    · exact ⟨ho, hm⟩
  · intro p hp
    rcases insQ_mem.1 hp with hp | rfl
    · exact h.nb e hme p hp
    · exact hnb
  · intro B' hB
    have hBB : ∀ a x, x ∈ B' a ↔ x ∈ behA (setL L nm e.held (insQ e o m)) (putA W o nm) a := fun a x => (hB a x).trans (behA_iff s1 s2 s3 s4).symm
    refine acy_one (B := behA L W) (o := o) (fun a x ha hx => ?_) (fun hr => hd (hr.mono fun a x hx => (hBB a x).1 hx)) h.acy
    rw [hB] at hx
    rw [h.edge]
    rcases edge_set hx with ⟨i, m', h1, h2⟩ | ⟨z, hz, _, i, m', h1, h2⟩
    · obtain ⟨j, h3, h4⟩ := insQ_idx (h.qn e hme) hoq h1 ha
      rcases h2 with h2 | h2
      · rcases h4 x h2 with h5 | h5
        · exact .inl ⟨e, hme, j, m', h3, .inl h5⟩
        · exact .inr h5
      · exact .inl ⟨e, hme, j, m', h3, .inr h2⟩
    · exact .inl ⟨z, hz, i, m', h1, h2⟩
  · intro h0
    have := insQ_len (e := e) o m
    rw [h0] at this; simp at this
  · rcases insQ_first hpr with ⟨rfl, h1⟩ | ⟨r', h1⟩
    · exact hc h1
    · exact hf p r' h1
end
section
variable {els : List V} {ms : List (List (V × V))} {lk ws : List (V × V)} {ix : Bs -> Nat} {L : List Lk} {W W' : WL} {b : Int} {n n' N : Nat} {S S2 : Bs -> Prop} {nm : Bs} {e : Lk}
theorem canB_nil (o m : Int) : canB [] o m = true := rfl
theorem Good.more (h : Good b n L W) (hn : n <= n') : Good b n' L W := WG.weak h (fun _ h => h) hn
theorem Good.ask (h : Good b n L W) {o : Int} (ho : o < b) (nm : Bs) (m : Int) : Good b (n + 1) (askA L W o nm m).2.1 (askA L W o nm m).2.2 := by
  have hw : Good b (n + 1) L W := h.more (by omega)
  unfold askA
  split
  · exact hw
  rename_i h1
  split
  · exact hw
  rename_i hg
  have hg : getA W o = none := Classical.not_not.1 hg
  have ho' : 0 <= o /\ o < b := by omega
  have hm : 1 <= m /\ m <= 6 := by omega
  obtain ⟨e, he, hor⟩ := atL_get L nm
  have ha := WG.at h nm
  have hf : ∀ p r, e.q = p :: r -> canB e.held p.1 p.2 = false := by
    rcases hor with h2 | ⟨_, rfl⟩
    · exact h.first e (getL_some h2).1 (fun f => f)
    · intro p r hpr; cases hpr
  have hhad := ha.had (getL_some he).1 o
  rw [he]
  dsimp only
  split
  · rename_i h2
    rcases hor with h3 | ⟨_, rfl⟩
    · rw [atL_some h3]; exact hw
    · cases h2.1
  · rename_i h2
    split
    · rename_i h3
      exact ha.grant he ho' hm hg h3.1 hf
    · rename_i h3
      unfold stayA
      rw [atL_at, he]
      dsimp only
      split
      · rcases hor with h4 | ⟨_, rfl⟩
        · rw [atL_some h4]; exact hw
        · exact absurd ⟨canB_nil _ _, .inr rfl⟩ h3
      · rename_i hd
        refine ha.stay he ho' (join_rng hhad hm) hg (fun h4 => h2 ?_) (fun h4 => ?_) hf ?_
        · generalize hj : joinB ((getA e.held o).getD 0) m = j at h4 h2 |-
          rw [h4]; exact ⟨rfl, rfl⟩
        · cases hc : canB e.held o (joinB ((getA e.held o).getD 0) m) with
          | false => rfl
          | true =>
            refine absurd ⟨hc, ?_⟩ h3
            rcases h4 with h4 | h4
            · left; cases hq : getA e.held o with | none => exact absurd hq h4 | some _ => rfl
            · exact .inr h4
        · intro hr
          exact hd (@decide_eq_true _ (Classical.propDecidable _) hr)
theorem tot_ge : ∀ L : List Lk, (∀ e ∈ L, e.held ≠ [] ∨ e.q ≠ []) -> L.length <= tot L
  | [], _ => Nat.le_refl _
  | x :: L, h => by
    have h1 := tot_ge L fun e he => h e (by simp [he])
    have h2 : 0 < x.held.length + x.q.length := by
      rcases h x (by simp) with h | h
      · have := List.length_pos_iff.2 h; omega
      · have := List.length_pos_iff.2 h; omega
    unfold tot at h1 |-
    rw [List.map_cons, List.sum_cons, List.length_cons]
    omega
theorem Good.szN (h : Good b n L W) (hn : n <= N) (hN : N <= 4000) : Sz N L := by
  have hb := h.bb
  have ht := h.tot
  refine ⟨hN, ?_, fun e he => ?_, fun e he p hp => ?_, fun e he p hp => ?_⟩
  · have := tot_ge L fun e he => h.ne e he fun f => f
    omega
  · have := tot_mem he; omega
  · have := h.rh e he p hp; omega
  · have := h.rq e he p hp; omega
theorem Good.sza (h : Good b n L W) (hn : n + 1 <= N) (hN : N <= 4000) (nm : Bs) : Sz N (atL L nm) := by
  have hs := h.szN (show n <= N by omega) hN
  have hl := h.szN (N := n) (Nat.le_refl _) (by omega)
  obtain ⟨h1, h2, h3⟩ := Sz.at (nm := nm) hs
  refine ⟨hN, ?_, fun e he => (h1 e he).1, fun e he => (h1 e he).2.1, fun e he => (h1 e he).2.2⟩
  cases hg : getL L nm with
  | none => rw [h2 hg]; have := hl.len; omega
  | some e => rw [h3 (by rw [hg]; rfl)]; exact hs.len
theorem Good.szi (h : Good b n L W) (hn : n + 1 <= N) (hN : N <= 4000) {o : Int} (ho : I64 o) (hg : getA W o = none) (w : Int) (he : getL (atL L nm) nm = some e) :
    Sz N (setL (atL L nm) nm e.held (insQ e o w)) /\ WOK (setL (atL L nm) nm e.held (insQ e o w)) (putA W o nm) := by
  have ha := WG.at h nm
  have hs := h.sza hn hN nm
  have hl := h.szN (N := n) (Nat.le_refl _) (by omega)
  obtain ⟨h1, _, _⟩ := Sz.at (nm := nm) hl
  have hm := (getL_some he).1
  have := (h1 e hm).1
  refine ⟨hs.set (by rw [insQ_len]; omega) (h1 e hm).2.1 (fun p hp => ?_), (stay_pre (m := w) ha he hg).2.2.2.1⟩
  rcases insQ_mem.1 hp with hp | rfl
  · exact (h1 e hm).2.2 p hp
  · exact ho
theorem ask_at (h : Rep els ms lk ws ix L W) (g : Good b n L W) (hn : n <= 3000) (o : Int) (ho : I64 o) (nm : Bs) (m : Int) (hnm : Nm nm := by first | assumption | decide) :
    ∃ els' ms' lk' ix', icC cfgB ⟨true, false⟩ 20 [.ptr 2 0 0, .int .i64 o, .str nm, .int .i64 m] (tm els ms lk ws) = some (mk20 ((askA L W o nm m).1, els', ms', lk', (askA L W o nm m).2.2.map wE)) /\
      Rep els' ms' lk' ((askA L W o nm m).2.2.map wE) ix' (askA L W o nm m).2.1 (askA L W o nm m).2.2 :=
  ask_ok hnm h (g.sza (N := 4000) (by omega) (by omega) nm) (g.szN (N := 4000) (by omega) (by omega)) o m fun hg e w he => g.szi (by omega) (by omega) ho hg w he
theorem free_at (h : Rep els ms lk ws ix L W) (g : Good b n L W) (hn : n <= 3000) (o : Int) (nm : Bs) (hnm : Nm nm := by first | assumption | decide) :
    ∃ els' ms' lk' ix', icC cfgB ⟨true, false⟩ 24 [.ptr 2 0 0, .int .i64 o, .str nm] (tm els ms lk ws) = some (mk24 ((freeA L W o nm).1, els', ms', lk', (freeA L W o nm).2.2.1.map wE, ints (freeA L W o nm).2.2.2)) /\
      Rep els' ms' lk' ((freeA L W o nm).2.2.1.map wE) ix' (freeA L W o nm).2.1 (freeA L W o nm).2.2.1 :=
  free_ok h (g.szN (N := 4000) (by omega) (by omega)) o nm hnm
theorem drop_at (h : Rep els ms lk ws ix L W) (g : Good b n L W) (hn : n <= 3000) (o : Int) :
    ∃ els' ms' lk' ix', icC cfgB ⟨true, false⟩ 18 [.ptr 2 0 0, .int .i64 o] (tm els ms lk ws) = some (mk18 (els', ms', lk', (dropA L W o).2.1.map wE, ints (dropA L W o).2.2)) /\
      Rep els' ms' lk' ((dropA L W o).2.1.map wE) ix' (dropA L W o).1 (dropA L W o).2.1 :=
  drop_ok h (g.szN (N := 4000) (by omega) (by omega)) g.wq o
theorem held_at (h : Rep els ms lk ws ix L W) (g : Good b n L W) (hn : n <= 3000) (o : Int) : icC cfgB ⟨true, false⟩ 19 [.ptr 2 0 0, .int .i64 o] (tm els ms lk ws) = some (mk19 (els, ms, lk, ws, (heldA L o).map hoV)) :=
  held_ok h (g.szN (N := 4000) (by omega) (by omega)) o
theorem holders_at (h : Rep els ms lk ws ix L W) (g : Good b n L W) (hn : n <= 3000) (nm : Bs) : icC cfgB ⟨true, false⟩ 11 [.ptr 2 0 0, .str nm] (tm els ms lk ws) = some (mk11 (els, ms, lk, ws, ints (holdA L nm))) :=
  holders_ok h (g.szN (N := 4000) (by omega) (by omega)) nm
theorem queue_at (h : Rep els ms lk ws ix L W) (g : Good b n L W) (hn : n <= 3000) (nm : Bs) : icC cfgB ⟨true, false⟩ 12 [.ptr 2 0 0, .str nm] (tm els ms lk ws) = some (mk12 (els, ms, lk, ws, ints (queueA L nm))) :=
  queue_ok h (g.szN (N := 4000) (by omega) (by omega)) nm
theorem beh_at (h : Rep els ms lk ws ix L W) (g : Good b n L W) (hn : n <= 3000) (o : Int) : behindX els ms lk ws o = some (behA L W o) :=
  beh_ok h (g.szN (N := 4000) (by omega) (by omega)) g.wok o
theorem Rep.mt : Rep [] [] [] [] ix [] [] := ⟨rfl, rfl, by simp, by simp, rfl, by simp, List.nodup_nil, by simp⟩
theorem Good.mt (hb : b <= 9223372036854775808) : Good b 0 [] [] := by
  refine ⟨hb, List.nodup_nil, by simp, by simp, List.nodup_nil, fun e he => (by cases he), fun o n2 hg => (by cases hg), Nat.le_refl _, by simp, by simp, by simp, by simp, by simp, by simp, ?_, by simp, by simp⟩
  intro o hr
  have := hr.ne
  exact this rfl
end
end Go.Proofs.Ytpkeiaeaonmacaa
