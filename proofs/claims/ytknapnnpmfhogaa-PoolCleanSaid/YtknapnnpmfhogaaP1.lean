/-
  The functions' graphs (printed by walk.py).
-/
import Derived.Test.YtknapnnpmfhogaaP0
namespace Go.Proofs.Ytknapnnpmfhogaa
open Go Go.Lite
set_option maxRecDepth 100000
set_option linter.unusedVariables false
def d32 (v : V) (k : List UInt8 → Int → R) : R := kT v fun vs => unc vs fun c vs => kS c fun x0 => unc vs fun c vs => kI .i64 c fun x1 => unn vs (k x0 x1)
@[simp] theorem d32_mk (x0 : List UInt8) (x1 : Int) (k : List UInt8 → Int → R) : d32 (.tup [V.str x0, V.int .i64 x1]) k = k x0 x1 := rfl
@[congr] theorem d32_wc {v v' : V} {k : List UInt8 → Int → R} (h : v = v') : d32 v k = d32 v' k := by rw [h]
def d40 (v : V) (k : Int → Int → R) : R := kT v fun vs => unc vs fun c vs => kI .u64 c fun x0 => unc vs fun c vs => kI .i64 c fun x1 => unn vs (k x0 x1)
@[simp] theorem d40_mk (x0 : Int) (x1 : Int) (k : Int → Int → R) : d40 (.tup [V.int .u64 x0, V.int .i64 x1]) k = k x0 x1 := rfl
@[congr] theorem d40_wc {v v' : V} {k : Int → Int → R} (h : v = v') : d40 v k = d40 v' k := by rw [h]
def d31 (v : V) (k : Int → Int → List UInt8 → Int → R) : R := kA v fun cs => unc cs fun c cs => kI .i64 c fun x0 => unc cs fun c cs => kI .i64 c fun x1 => unc cs fun c cs => kS c fun x2 => unc cs fun c cs => kI .i64 c fun x3 => unn cs <| (k x0 x1 x2 x3)
@[simp] theorem d31_mk (x0 : Int) (x1 : Int) (x2 : List UInt8) (x3 : Int) (k : Int → Int → List UInt8 → Int → R) : d31 (.agg [V.int .i64 x0, V.int .i64 x1, V.str x2, V.int .i64 x3]) k = k x0 x1 x2 x3 := rfl
@[congr] theorem d31_wc {v v' : V} {k : Int → Int → List UInt8 → Int → R} (h : v = v') : d31 v k = d31 v' k := by rw [h]
def d63 (v : V) (k : List UInt8 → Int → Bool → Int → Int → R) : R := kA v fun cs => unc cs fun c cs => kS c fun x0 => unc cs fun c cs => kI .i64 c fun x1 => unc cs fun c cs => kB c fun x2 => unc cs fun c cs => kI .i64 c fun x3 => unc cs fun c cs => kI .i64 c fun x4 => unn cs <| (k x0 x1 x2 x3 x4)
@[simp] theorem d63_mk (x0 : List UInt8) (x1 : Int) (x2 : Bool) (x3 : Int) (x4 : Int) (k : List UInt8 → Int → Bool → Int → Int → R) : d63 (.agg [V.str x0, V.int .i64 x1, V.bool x2, V.int .i64 x3, V.int .i64 x4]) k = k x0 x1 x2 x3 x4 := rfl
@[congr] theorem d63_wc {v v' : V} {k : List UInt8 → Int → Bool → Int → Int → R} (h : v = v') : d63 v k = d63 v' k := by rw [h]
def d88 (v : V) (k : Int → List UInt8 → R) : R := kA v fun cs => unc cs fun c cs => kI .i64 c fun x0 => unc cs fun c cs => kS c fun x1 => unn cs <| (k x0 x1)
@[simp] theorem d88_mk (x0 : Int) (x1 : List UInt8) (k : Int → List UInt8 → R) : d88 (.agg [V.int .i64 x0, V.str x1]) k = k x0 x1 := rfl
@[congr] theorem d88_wc {v v' : V} {k : Int → List UInt8 → R} (h : v = v') : d88 v k = d88 v' k := by rw [h]
def mk9 (L : (List UInt8) × Int × (List V) × (List V) × Int × Int × Int × (List (V × V)) × (List (V × V)) × (List V) × (List V) × Nat) : V × List O := (V.tup [V.str L.1, V.int .i64 L.2.1], [O.arena 63 L.2.2.1, O.arena 7 L.2.2.2.1, O.box 59 (V.agg [V.ptr 3 0 0, V.int .i64 L.2.2.2.2.1, V.mp 4, V.tail 8 0, V.int .i64 L.2.2.2.2.2.1]) false, O.box 56 (V.agg [V.int .i64 L.2.2.2.2.2.2.1, V.mp 6, V.tail 9 0]) false, O.map L.2.2.2.2.2.2.2.1, O.dead, O.map L.2.2.2.2.2.2.2.2.1, O.dead, O.row 3 L.2.2.2.2.2.2.2.2.2.1 0, O.row 88 L.2.2.2.2.2.2.2.2.2.2.1 L.2.2.2.2.2.2.2.2.2.2.2])
theorem mk9_inj : ∀ L L', mk9 L = mk9 L' → L = L' := by
  rintro ⟨a0, a1, a2, a3, a4, a5, a6, a7, a8, a9, a10, a11⟩ ⟨b0, b1, b2, b3, b4, b5, b6, b7, b8, b9, b10, b11⟩ h
  cases h; rfl
def mk11 (L : Int × (List V) × (List V) × Int × Int × Int × (List (V × V)) × (List V) × (List (V × V)) × (List V) × Nat) : V × List O := (V.int .i64 L.1, [O.arena 63 L.2.1, O.arena 7 L.2.2.1, O.box 59 (V.agg [V.ptr 3 0 0, V.int .i64 L.2.2.2.1, V.mp 4, V.tail 5 0, V.int .i64 L.2.2.2.2.1]) false, O.box 56 (V.agg [V.int .i64 L.2.2.2.2.2.1, V.mp 6, V.tail 7 0]) false, O.map L.2.2.2.2.2.2.1, O.row 3 L.2.2.2.2.2.2.2.1 0, O.map L.2.2.2.2.2.2.2.2.1, O.row 88 L.2.2.2.2.2.2.2.2.2.1 L.2.2.2.2.2.2.2.2.2.2])
theorem mk11_inj : ∀ L L', mk11 L = mk11 L' → L = L' := by
  rintro ⟨a0, a1, a2, a3, a4, a5, a6, a7, a8, a9, a10⟩ ⟨b0, b1, b2, b3, b4, b5, b6, b7, b8, b9, b10⟩ h
  cases h; rfl
def mk10 (L : Int × (List V) × (List V) × Int × Int × Int × (List (V × V)) × (List V) × (List (V × V)) × (List V) × Nat) : V × List O := (V.int .i64 L.1, [O.arena 63 L.2.1, O.arena 7 L.2.2.1, O.box 59 (V.agg [V.ptr 3 0 0, V.int .i64 L.2.2.2.1, V.mp 4, V.tail 5 0, V.int .i64 L.2.2.2.2.1]) false, O.box 56 (V.agg [V.int .i64 L.2.2.2.2.2.1, V.mp 6, V.tail 7 0]) false, O.map L.2.2.2.2.2.2.1, O.row 3 L.2.2.2.2.2.2.2.1 0, O.map L.2.2.2.2.2.2.2.2.1, O.row 88 L.2.2.2.2.2.2.2.2.2.1 L.2.2.2.2.2.2.2.2.2.2])
theorem mk10_inj : ∀ L L', mk10 L = mk10 L' → L = L' := by
  rintro ⟨a0, a1, a2, a3, a4, a5, a6, a7, a8, a9, a10⟩ ⟨b0, b1, b2, b3, b4, b5, b6, b7, b8, b9, b10⟩ h
  cases h; rfl
def mk22 (L : Int × Bool × (List V) × (List V) × Int × Int × Int × (List (V × V)) × (List V) × (List (V × V)) × (List V) × Nat) : V × List O := (V.tup [V.int .i64 L.1, V.bool L.2.1], [O.arena 63 L.2.2.1, O.arena 7 L.2.2.2.1, O.box 59 (V.agg [V.ptr 3 0 0, V.int .i64 L.2.2.2.2.1, V.mp 4, V.tail 5 0, V.int .i64 L.2.2.2.2.2.1]) false, O.box 56 (V.agg [V.int .i64 L.2.2.2.2.2.2.1, V.mp 6, V.tail 7 0]) false, O.map L.2.2.2.2.2.2.2.1, O.row 3 L.2.2.2.2.2.2.2.2.1 0, O.map L.2.2.2.2.2.2.2.2.2.1, O.row 88 L.2.2.2.2.2.2.2.2.2.2.1 L.2.2.2.2.2.2.2.2.2.2.2])
theorem mk22_inj : ∀ L L', mk22 L = mk22 L' → L = L' := by
  rintro ⟨a0, a1, a2, a3, a4, a5, a6, a7, a8, a9, a10, a11⟩ ⟨b0, b1, b2, b3, b4, b5, b6, b7, b8, b9, b10, b11⟩ h
  cases h; rfl
def mk15 (L : (List UInt8) × Int × (List V) × (List V) × Int × (List (V × V)) × (List V) × Nat) : V × List O := (V.tup [V.str L.1, V.int .i64 L.2.1], [O.arena 63 L.2.2.1, O.arena 7 L.2.2.2.1, O.box 56 (V.agg [V.int .i64 L.2.2.2.2.1, V.mp 3, V.tail 4 0]) false, O.map L.2.2.2.2.2.1, O.row 88 L.2.2.2.2.2.2.1 L.2.2.2.2.2.2.2])
theorem mk15_inj : ∀ L L', mk15 L = mk15 L' → L = L' := by
  rintro ⟨a0, a1, a2, a3, a4, a5, a6, a7⟩ ⟨b0, b1, b2, b3, b4, b5, b6, b7⟩ h
  cases h; rfl
def mk19 (L : (List V) × (List V) × Int × Int × Int × (List (V × V)) × (List V) × (List (V × V)) × (List V) × Nat × (List V)) : V × List O := (V.own 8, [O.arena 63 L.1, O.arena 7 L.2.1, O.box 59 (V.agg [V.ptr 3 0 0, V.int .i64 L.2.2.1, V.mp 4, V.tail 5 0, V.int .i64 L.2.2.2.1]) false, O.box 56 (V.agg [V.int .i64 L.2.2.2.2.1, V.mp 6, V.tail 7 0]) false, O.map L.2.2.2.2.2.1, O.row 3 L.2.2.2.2.2.2.1 0, O.map L.2.2.2.2.2.2.2.1, O.row 88 L.2.2.2.2.2.2.2.2.1 L.2.2.2.2.2.2.2.2.2.1, O.row 3 L.2.2.2.2.2.2.2.2.2.2 0])
theorem mk19_inj : ∀ L L', mk19 L = mk19 L' → L = L' := by
  rintro ⟨a0, a1, a2, a3, a4, a5, a6, a7, a8, a9, a10⟩ ⟨b0, b1, b2, b3, b4, b5, b6, b7, b8, b9, b10⟩ h
  cases h; rfl
def mk21 (L : Nat × (List V) × (List V) × Int × Int × Int × (List (V × V)) × (List V) × (List (V × V)) × (List V) × Nat × (List V)) : V × List O := (V.win 8 0 L.1, [O.arena 63 L.2.1, O.arena 7 L.2.2.1, O.box 59 (V.agg [V.ptr 3 0 0, V.int .i64 L.2.2.2.1, V.mp 4, V.tail 5 0, V.int .i64 L.2.2.2.2.1]) false, O.box 56 (V.agg [V.int .i64 L.2.2.2.2.2.1, V.mp 6, V.tail 7 0]) false, O.map L.2.2.2.2.2.2.1, O.row 3 L.2.2.2.2.2.2.2.1 0, O.map L.2.2.2.2.2.2.2.2.1, O.row 88 L.2.2.2.2.2.2.2.2.2.1 L.2.2.2.2.2.2.2.2.2.2.1, O.row 3 L.2.2.2.2.2.2.2.2.2.2.2 0])
theorem mk21_inj : ∀ L L', mk21 L = mk21 L' → L = L' := by
  rintro ⟨a0, a1, a2, a3, a4, a5, a6, a7, a8, a9, a10, a11⟩ ⟨b0, b1, b2, b3, b4, b5, b6, b7, b8, b9, b10, b11⟩ h
  cases h; rfl
def mk20 (L : Int × (List V) × (List V) × Int × Int × Int × (List (V × V)) × (List V) × (List (V × V)) × (List V) × Nat) : V × List O := (V.int .i64 L.1, [O.arena 63 L.2.1, O.arena 7 L.2.2.1, O.box 59 (V.agg [V.ptr 3 0 0, V.int .i64 L.2.2.2.1, V.mp 4, V.tail 5 0, V.int .i64 L.2.2.2.2.1]) false, O.box 56 (V.agg [V.int .i64 L.2.2.2.2.2.1, V.mp 6, V.tail 7 0]) false, O.map L.2.2.2.2.2.2.1, O.row 3 L.2.2.2.2.2.2.2.1 0, O.map L.2.2.2.2.2.2.2.2.1, O.row 88 L.2.2.2.2.2.2.2.2.2.1 L.2.2.2.2.2.2.2.2.2.2])
theorem mk20_inj : ∀ L L', mk20 L = mk20 L' → L = L' := by
  rintro ⟨a0, a1, a2, a3, a4, a5, a6, a7, a8, a9, a10⟩ ⟨b0, b1, b2, b3, b4, b5, b6, b7, b8, b9, b10⟩ h
  cases h; rfl
def mk14 (L : Int × (List V) × (List V) × Int × Int × Int × (List (V × V)) × (List (V × V)) × (List V) × (List V) × Nat) : V × List O := (V.int .i64 L.1, [O.arena 63 L.2.1, O.arena 7 L.2.2.1, O.box 59 (V.agg [V.ptr 3 0 0, V.int .i64 L.2.2.2.1, V.mp 4, V.tail 8 0, V.int .i64 L.2.2.2.2.1]) false, O.box 56 (V.agg [V.int .i64 L.2.2.2.2.2.1, V.mp 6, V.tail 9 0]) false, O.map L.2.2.2.2.2.2.1, O.dead, O.map L.2.2.2.2.2.2.2.1, O.dead, O.row 3 L.2.2.2.2.2.2.2.2.1 0, O.row 88 L.2.2.2.2.2.2.2.2.2.1 L.2.2.2.2.2.2.2.2.2.2])
theorem mk14_inj : ∀ L L', mk14 L = mk14 L' → L = L' := by
  rintro ⟨a0, a1, a2, a3, a4, a5, a6, a7, a8, a9, a10⟩ ⟨b0, b1, b2, b3, b4, b5, b6, b7, b8, b9, b10⟩ h
  cases h; rfl
def mk25 (L : Int × (List V) × (List V) × Int × Int × Int × (List (V × V)) × (List (V × V)) × (List V) × (List V) × Nat) : V × List O := (V.int .i64 L.1, [O.arena 63 L.2.1, O.arena 7 L.2.2.1, O.box 59 (V.agg [V.ptr 3 0 0, V.int .i64 L.2.2.2.1, V.mp 4, V.tail 8 0, V.int .i64 L.2.2.2.2.1]) false, O.box 56 (V.agg [V.int .i64 L.2.2.2.2.2.1, V.mp 6, V.tail 9 0]) false, O.map L.2.2.2.2.2.2.1, O.dead, O.map L.2.2.2.2.2.2.2.1, O.dead, O.row 3 L.2.2.2.2.2.2.2.2.1 0, O.row 88 L.2.2.2.2.2.2.2.2.2.1 L.2.2.2.2.2.2.2.2.2.2])
theorem mk25_inj : ∀ L L', mk25 L = mk25 L' → L = L' := by
  rintro ⟨a0, a1, a2, a3, a4, a5, a6, a7, a8, a9, a10⟩ ⟨b0, b1, b2, b3, b4, b5, b6, b7, b8, b9, b10⟩ h
  cases h; rfl
def mk26 (L : (List V) × (List V) × Int × Int × Int × (List (V × V)) × (List (V × V)) × (List V) × (List V) × Nat) : V × List O := (V.tup [], [O.arena 63 L.1, O.arena 7 L.2.1, O.box 59 (V.agg [V.ptr 3 0 0, V.int .i64 L.2.2.1, V.mp 4, V.tail 8 0, V.int .i64 L.2.2.2.1]) false, O.box 56 (V.agg [V.int .i64 L.2.2.2.2.1, V.mp 6, V.tail 9 0]) false, O.map L.2.2.2.2.2.1, O.dead, O.map L.2.2.2.2.2.2.1, O.dead, O.row 3 L.2.2.2.2.2.2.2.1 0, O.row 88 L.2.2.2.2.2.2.2.2.1 L.2.2.2.2.2.2.2.2.2])
theorem mk26_inj : ∀ L L', mk26 L = mk26 L' → L = L' := by
  rintro ⟨a0, a1, a2, a3, a4, a5, a6, a7, a8, a9⟩ ⟨b0, b1, b2, b3, b4, b5, b6, b7, b8, b9⟩ h
  cases h; rfl
def mk33 (L : (List UInt8) × (List V) × (List V) × Int × (List (V × V)) × (List V) × Nat) : V × List O := (V.str L.1, [O.arena 63 L.2.1, O.arena 7 L.2.2.1, O.box 56 (V.agg [V.int .i64 L.2.2.2.1, V.mp 3, V.tail 4 0]) false, O.map L.2.2.2.2.1, O.row 88 L.2.2.2.2.2.1 L.2.2.2.2.2.2])
theorem mk33_inj : ∀ L L', mk33 L = mk33 L' → L = L' := by
  rintro ⟨a0, a1, a2, a3, a4, a5, a6⟩ ⟨b0, b1, b2, b3, b4, b5, b6⟩ h
  cases h; rfl
def mk39 (L : Nat × (List V) × (List V) × (List V) × Int × Int × Int × (List (V × V)) × (List V) × (List (V × V)) × (List V) × Nat) : V × List O := (V.win 2 0 L.1, [O.arena 63 L.2.1, O.arena 7 L.2.2.1, O.row 3 L.2.2.2.1 0, O.box 27 (V.ptr 4 0 0) false, O.box 59 (V.agg [V.ptr 5 0 0, V.int .i64 L.2.2.2.2.1, V.mp 6, V.tail 7 0, V.int .i64 L.2.2.2.2.2.1]) false, O.box 56 (V.agg [V.int .i64 L.2.2.2.2.2.2.1, V.mp 8, V.tail 9 0]) false, O.map L.2.2.2.2.2.2.2.1, O.row 3 L.2.2.2.2.2.2.2.2.1 0, O.map L.2.2.2.2.2.2.2.2.2.1, O.row 88 L.2.2.2.2.2.2.2.2.2.2.1 L.2.2.2.2.2.2.2.2.2.2.2])
theorem mk39_inj : ∀ L L', mk39 L = mk39 L' → L = L' := by
  rintro ⟨a0, a1, a2, a3, a4, a5, a6, a7, a8, a9, a10, a11⟩ ⟨b0, b1, b2, b3, b4, b5, b6, b7, b8, b9, b10, b11⟩ h
  cases h; rfl
def mk45 (L : Int × (List V) × (List V) × Int × (List (V × V)) × (List V) × Nat) : V × List O := (V.int .i64 L.1, [O.arena 63 L.2.1, O.arena 7 L.2.2.1, O.box 56 (V.agg [V.int .i64 L.2.2.2.1, V.mp 3, V.tail 5 0]) false, O.map L.2.2.2.2.1, O.dead, O.row 88 L.2.2.2.2.2.1 L.2.2.2.2.2.2])
theorem mk45_inj : ∀ L L', mk45 L = mk45 L' → L = L' := by
  rintro ⟨a0, a1, a2, a3, a4, a5, a6⟩ ⟨b0, b1, b2, b3, b4, b5, b6⟩ h
  cases h; rfl
def mk42 (L : Int × (List V) × (List V) × (List V) × Int × Int × Int × (List (V × V)) × (List (V × V)) × (List V) × Nat) : V × List O := (V.int .i64 L.1, [O.arena 63 L.2.1, O.arena 7 L.2.2.1, O.row 3 L.2.2.2.1 0, O.box 27 (V.ptr 4 0 0) false, O.box 59 (V.agg [V.ptr 5 0 0, V.int .i64 L.2.2.2.2.1, V.mp 6, V.tail 2 0, V.int .i64 L.2.2.2.2.2.1]) false, O.box 56 (V.agg [V.int .i64 L.2.2.2.2.2.2.1, V.mp 7, V.tail 8 0]) false, O.map L.2.2.2.2.2.2.2.1, O.map L.2.2.2.2.2.2.2.2.1, O.row 88 L.2.2.2.2.2.2.2.2.2.1 L.2.2.2.2.2.2.2.2.2.2])
theorem mk42_inj : ∀ L L', mk42 L = mk42 L' → L = L' := by
  rintro ⟨a0, a1, a2, a3, a4, a5, a6, a7, a8, a9, a10⟩ ⟨b0, b1, b2, b3, b4, b5, b6, b7, b8, b9, b10⟩ h
  cases h; rfl
def mk39b (L : Nat × (List V) × (List V) × (List V) × Int) : V × List O := (V.win 2 0 L.1, [O.arena 63 L.2.1, O.arena 7 L.2.2.1, O.row 3 L.2.2.2.1 0, O.box 3 (V.int .i64 L.2.2.2.2) false])
theorem mk39b_inj : ∀ L L', mk39b L = mk39b L' → L = L' := by
  rintro ⟨a0, a1, a2, a3, a4⟩ ⟨b0, b1, b2, b3, b4⟩ h
  cases h; rfl
def mk42b (L : Int × (List V) × (List V) × (List V) × Int × Int × Int × (List (V × V)) × (List V) × (List (V × V)) × (List V) × Nat) : V × List O := (V.int .i64 L.1, [O.arena 63 L.2.1, O.arena 7 L.2.2.1, O.row 3 L.2.2.2.1 0, O.box 27 (V.ptr 4 0 0) false, O.box 59 (V.agg [V.ptr 5 0 0, V.int .i64 L.2.2.2.2.1, V.mp 6, V.tail 7 0, V.int .i64 L.2.2.2.2.2.1]) false, O.box 56 (V.agg [V.int .i64 L.2.2.2.2.2.2.1, V.mp 8, V.tail 9 0]) false, O.map L.2.2.2.2.2.2.2.1, O.row 3 L.2.2.2.2.2.2.2.2.1 0, O.map L.2.2.2.2.2.2.2.2.2.1, O.row 88 L.2.2.2.2.2.2.2.2.2.2.1 L.2.2.2.2.2.2.2.2.2.2.2])
theorem mk42b_inj : ∀ L L', mk42b L = mk42b L' → L = L' := by
  rintro ⟨a0, a1, a2, a3, a4, a5, a6, a7, a8, a9, a10, a11⟩ ⟨b0, b1, b2, b3, b4, b5, b6, b7, b8, b9, b10, b11⟩ h
  cases h; rfl
def mk42c (L : Int × (List V) × (List V) × (List V) × Int) : V × List O := (V.int .i64 L.1, [O.arena 63 L.2.1, O.arena 7 L.2.2.1, O.row 3 L.2.2.2.1 0, O.box 3 (V.int .i64 L.2.2.2.2) false])
theorem mk42c_inj : ∀ L L', mk42c L = mk42c L' → L = L' := by
  rintro ⟨a0, a1, a2, a3, a4⟩ ⟨b0, b1, b2, b3, b4⟩ h
  cases h; rfl
noncomputable def qkck (cm : CM) (f : FuncId) (args : List V) (mem : List O) (k : V → List O → R) : R := cond (f == 9) (icM qcfg cm mk9 f args mem fun L => k (mk9 L).1 (mk9 L).2) (cond (f == 11) (icM qcfg cm mk11 f args mem fun L => k (mk11 L).1 (mk11 L).2) (cond (f == 10) (icM qcfg cm mk10 f args mem fun L => k (mk10 L).1 (mk10 L).2) (cond (f == 22) (icM qcfg cm mk22 f args mem fun L => k (mk22 L).1 (mk22 L).2) (cond (f == 15) (icM qcfg cm mk15 f args mem fun L => k (mk15 L).1 (mk15 L).2) (cond (f == 19) (icM qcfg cm mk19 f args mem fun L => k (mk19 L).1 (mk19 L).2) (cond (f == 21) (icM qcfg cm mk21 f args mem fun L => k (mk21 L).1 (mk21 L).2) (cond (f == 20) (icM qcfg cm mk20 f args mem fun L => k (mk20 L).1 (mk20 L).2) (cond (f == 14) (icM qcfg cm mk14 f args mem fun L => k (mk14 L).1 (mk14 L).2) (cond (f == 25) (icM qcfg cm mk25 f args mem fun L => k (mk25 L).1 (mk25 L).2) (cond (f == 26) (icM qcfg cm mk26 f args mem fun L => k (mk26 L).1 (mk26 L).2) (cond (f == 33) (icM qcfg cm mk33 f args mem fun L => k (mk33 L).1 (mk33 L).2) (cond (f == 39 && cloOf args == 40) (icM qcfg cm mk39 f args mem fun L => k (mk39 L).1 (mk39 L).2) (cond (f == 45) (icM qcfg cm mk45 f args mem fun L => k (mk45 L).1 (mk45 L).2) (cond (f == 42 && cloOf args == 41) (icM qcfg cm mk42 f args mem fun L => k (mk42 L).1 (mk42 L).2) (cond (f == 39 && cloOf args == 44) (icM qcfg cm mk39b f args mem fun L => k (mk39b L).1 (mk39b L).2) (cond (f == 42 && cloOf args == 40) (icM qcfg cm mk42b f args mem fun L => k (mk42b L).1 (mk42b L).2) (cond (f == 42 && cloOf args == 44) (icM qcfg cm mk42c f args mem fun L => k (mk42c L).1 (mk42c L).2) (none))))))))))))))))))
noncomputable def qkC : KC := { qk0 with ck := qkck }
theorem qikC : IKOK qkC := ⟨qikb.ik, fun cm f av mem k r h => by
  change qkck cm f av mem k = some r at h
  unfold qkck at h
  rcases cond_some h with ⟨_, h⟩ | ⟨_, h⟩
  · obtain ⟨L, h1, h2⟩ := icM_some h; exact ⟨_, _, h1, h2⟩
  rcases cond_some h with ⟨_, h⟩ | ⟨_, h⟩
  · obtain ⟨L, h1, h2⟩ := icM_some h; exact ⟨_, _, h1, h2⟩
  rcases cond_some h with ⟨_, h⟩ | ⟨_, h⟩
  · obtain ⟨L, h1, h2⟩ := icM_some h; exact ⟨_, _, h1, h2⟩
  rcases cond_some h with ⟨_, h⟩ | ⟨_, h⟩
  · obtain ⟨L, h1, h2⟩ := icM_some h; exact ⟨_, _, h1, h2⟩
  rcases cond_some h with ⟨_, h⟩ | ⟨_, h⟩
  · obtain ⟨L, h1, h2⟩ := icM_some h; exact ⟨_, _, h1, h2⟩
  rcases cond_some h with ⟨_, h⟩ | ⟨_, h⟩
  · obtain ⟨L, h1, h2⟩ := icM_some h; exact ⟨_, _, h1, h2⟩
  rcases cond_some h with ⟨_, h⟩ | ⟨_, h⟩
  · obtain ⟨L, h1, h2⟩ := icM_some h; exact ⟨_, _, h1, h2⟩
  rcases cond_some h with ⟨_, h⟩ | ⟨_, h⟩
  · obtain ⟨L, h1, h2⟩ := icM_some h; exact ⟨_, _, h1, h2⟩
  rcases cond_some h with ⟨_, h⟩ | ⟨_, h⟩
  · obtain ⟨L, h1, h2⟩ := icM_some h; exact ⟨_, _, h1, h2⟩
  rcases cond_some h with ⟨_, h⟩ | ⟨_, h⟩
  · obtain ⟨L, h1, h2⟩ := icM_some h; exact ⟨_, _, h1, h2⟩
  rcases cond_some h with ⟨_, h⟩ | ⟨_, h⟩
  · obtain ⟨L, h1, h2⟩ := icM_some h; exact ⟨_, _, h1, h2⟩
  rcases cond_some h with ⟨_, h⟩ | ⟨_, h⟩
  · obtain ⟨L, h1, h2⟩ := icM_some h; exact ⟨_, _, h1, h2⟩
  rcases cond_some h with ⟨_, h⟩ | ⟨_, h⟩
  · obtain ⟨L, h1, h2⟩ := icM_some h; exact ⟨_, _, h1, h2⟩
  rcases cond_some h with ⟨_, h⟩ | ⟨_, h⟩
  · obtain ⟨L, h1, h2⟩ := icM_some h; exact ⟨_, _, h1, h2⟩
  rcases cond_some h with ⟨_, h⟩ | ⟨_, h⟩
  · obtain ⟨L, h1, h2⟩ := icM_some h; exact ⟨_, _, h1, h2⟩
  rcases cond_some h with ⟨_, h⟩ | ⟨_, h⟩
  · obtain ⟨L, h1, h2⟩ := icM_some h; exact ⟨_, _, h1, h2⟩
  rcases cond_some h with ⟨_, h⟩ | ⟨_, h⟩
  · obtain ⟨L, h1, h2⟩ := icM_some h; exact ⟨_, _, h1, h2⟩
  rcases cond_some h with ⟨_, h⟩ | ⟨_, h⟩
  · obtain ⟨L, h1, h2⟩ := icM_some h; exact ⟨_, _, h1, h2⟩
  cases h⟩
noncomputable def fa38 : FA := ⟨1, 4, [.tmp 2], [76],
 (.seq
 (.ops false [o1 1 (.box 57 (t' 0)) 0, o1 2 (.assign (.const (.nilFunc))) 76])
 (.seq
 (.ops false [o1 3 (.makeFunc (.func 52) #[] #[(t' 1)]) 75, asg 2 3 76])
 (.ret)))⟩
theorem fa38_eq : fnA qcfg.P (qcfg.rxf 38) 38 = some fa38 := by kernel_rfl
noncomputable def fa7 : FA := ⟨1, 14, [.tmp 2, .tmp 3], [23, 24],
 (.seq
 (.ops false [o1 2 (.assign (.const (.pointer none))) 23, o1 3 (.assign (.const (.int .i64 (0)))) 24])
 (.seq
 (.seq
 (.ops false [mv 4 0 3, o1 5 (.binOp .lss 3 (t' 4) (.const (.int .i64 (1))) 3) 4, mv 6 5 4, o2 7 (.move (t' 0)) 3 6 false, o2 8 (.binOp .gtr 3 (t' 7) (.const (.int .i64 (1024))) 3) 4 6 false, o1 9 (.pick (t' 6) (.const (.bool true)) (t' 8)) 4])
 (.cond (t' 9)
 (.seq
 (.ops false [o1 2 (.assign (.const (.pointer none))) 23, o1 3 (.assign (.const (.int .i64 (1)))) 24])
 (.ret))
 (.skip)))
 (.seq
 (.ops false [mv 10 0 3, o1 11 (.makeMap 53 none) 53, o1 12 (.build 56 #[(0, (t' 10)), (1, (t' 11))]) 56, o1 13 (.box 56 (t' 12)) 23, asg 2 13 23, o1 3 (.assign (.const (.int .i64 (0)))) 24])
 (.ret))))⟩
theorem fa7_eq : fnA qcfg.P (qcfg.rxf 7) 7 = some fa7 := by kernel_rfl
noncomputable def fa31 : FA := ⟨2, 15, [.tmp 4], [4],
 (.seq
 (.ops false [o1 4 (.assign (.const (.bool false))) 4])
 (.seq
 (.ops false [mv 5 1 3, o1 6 (.binOp .geq 3 (t' 5) (.const (.int .i64 (0))) 3) 4, mv 7 6 4, o2 8 (.move (t' 1)) 3 7 true, o2 9 (.move (t' 0)) 23 7 true, o2 10 (.nilCheck (t' 9)) 0 7 true, o2 11 (.fieldAddr 56 (t' 10) 0) 0 7 true, o2 12 (.load 3 (t' 11)) 3 7 true, o2 13 (.binOp .lss 3 (t' 8) (t' 12) 3) 4 7 true, o1 14 (.pick (t' 7) (t' 13) (.const (.bool false))) 4, asg 4 14 4])
 (.ret)))⟩
theorem fa31_eq : fnA qcfg.P (qcfg.rxf 31) 31 = some fa31 := by kernel_rfl
noncomputable def fa24 : FA := ⟨1, 7, [.tmp 2], [3],
 (.seq
 (.ops false [o1 2 (.assign (.const (.int .i64 (0)))) 3])
 (.seq
 (.ops false [mv 3 0 23, o1 4 (.nilCheck (t' 3)) 0, o1 5 (.fieldAddr 56 (t' 4) 0) 0, o1 6 (.load 3 (t' 5)) 3, asg 2 6 3])
 (.ret)))⟩
theorem fa24_eq : fnA qcfg.P (qcfg.rxf 24) 24 = some fa24 := by kernel_rfl
noncomputable def fa49 : FA := ⟨2, 19, [.tmp 4], [9],
 (.seq
 (.ops false [o1 4 (.assign (.const (.string ⟨⟨[]⟩⟩))) 9])
 (.seq
 (.seq
 (.ops false [mv 8 0 23, o1 9 (.nilCheck (t' 8)) 0, o1 10 (.fieldAddr 56 (t' 9) 1) 0, o1 11 (.load 53 (t' 10)) 53, mv 12 1 3, o1 13 (.lookup 53 (t' 11) (t' 12) true) 94, mv 7 13 94, o1 14 (.extract (t' 7) 0) 9, o1 15 (.extract (t' 7) 1) 4, asg 5 14 9, asg 6 15 4])
 (.seq
 (.ops false [mv 16 6 4])
 (.cond (t' 16)
 (.seq
 (.ops false [mv 17 5 9, asg 4 17 9])
 (.ret))
 (.skip))))
 (.seq
 (.ops false [o1 18 (.call ⟨(.value (.func 57)), #[], #[]⟩) 9, asg 4 18 9])
 (.ret))))⟩
theorem fa49_eq : fnA qcfg.P (qcfg.rxf 49) 49 = some fa49 := by kernel_rfl
noncomputable def fa8 : FA := ⟨2, 17, [.tmp 4, .tmp 5], [27, 24],
 (.seq
 (.ops false [o1 4 (.assign (.const (.pointer none))) 27, o1 5 (.assign (.const (.int .i64 (0)))) 24])
 (.seq
 (.seq
 (.ops false [mv 6 1 3, o1 7 (.binOp .lss 3 (t' 6) (.const (.int .i64 (1))) 3) 4, mv 8 7 4, o2 9 (.move (t' 1)) 3 8 false, o2 10 (.binOp .gtr 3 (t' 9) (.const (.int .i64 (64))) 3) 4 8 false, o1 11 (.pick (t' 8) (.const (.bool true)) (t' 10)) 4])
 (.cond (t' 11)
 (.seq
 (.ops false [o1 4 (.assign (.const (.pointer none))) 27, o1 5 (.assign (.const (.int .i64 (1)))) 24])
 (.ret))
 (.skip)))
 (.seq
 (.ops false [mv 12 0 23, mv 13 1 3, o1 14 (.makeMap 57 none) 57, o1 15 (.build 59 #[(0, (t' 12)), (1, (t' 13)), (2, (t' 14))]) 59, o1 16 (.box 59 (t' 15)) 27, asg 4 16 27, o1 5 (.assign (.const (.int .i64 (0)))) 24])
 (.ret))))⟩
theorem fa8_eq : fnA qcfg.P (qcfg.rxf 8) 8 = some fa8 := by kernel_rfl
noncomputable def fa29 : FA := ⟨2, 20, [.tmp 4], [4],
 (.seq
 (.ops false [o1 4 (.assign (.const (.bool false))) 4])
 (.seq
 (.ops true [mv 5 1 60, o1 6 (.nilCheck (t' 5)) 0, o1 7 (.fieldAddr 63 (t' 6) 2) 0, o1 8 (.load 4 (t' 7)) 4, mv 9 8 4, o2 10 (.move (t' 1)) 60 9 true, o2 11 (.nilCheck (t' 10)) 0 9 true, o2 12 (.fieldAddr 63 (t' 11) 4) 0 9 true, o2 13 (.load 3 (t' 12)) 3 9 true, o2 14 (.move (t' 0)) 27 9 true, o2 15 (.nilCheck (t' 14)) 0 9 true, o2 16 (.fieldAddr 59 (t' 15) 4) 0 9 true, o2 17 (.load 3 (t' 16)) 3 9 true, o2 18 (.binOp .leq 3 (t' 13) (t' 17) 3) 4 9 true, o1 19 (.pick (t' 9) (t' 18) (.const (.bool false))) 4, asg 4 19 4])
 (.ret)))⟩
theorem fa29_eq : fnA qcfg.P (qcfg.rxf 29) 29 = some fa29 := by kernel_rfl
noncomputable def fa27 : FA := ⟨2, 23, [.tmp 4, .tmp 5], [60, 24],
 (.seq
 (.ops false [o1 4 (.assign (.const (.pointer none))) 60, o1 5 (.assign (.const (.int .i64 (0)))) 24])
 (.seq
 (.ops false [mv 7 0 27, o1 8 (.nilCheck (t' 7)) 0, o1 9 (.fieldAddr 59 (t' 8) 2) 0, o1 10 (.load 57 (t' 9)) 57, mv 11 1 3, o1 12 (.lookup 57 (t' 10) (t' 11) false) 60, asg 6 12 60])
 (.seq
 (.block 0
 (.seq
 (.ops false [mv 14 6 60, o1 15 (.binOp .eql 60 (t' 14) (.const (.pointer none)) 60) 4, asg 13 15 4])
 (.cond (t' 13)
 (.seq
 (.ops false [o1 4 (.assign (.const (.pointer none))) 60, o1 5 (.assign (.const (.int .i64 (7)))) 24])
 (.ret))
 (.seq
 (.ops false [mv 17 6 60, o1 18 (.nilCheck (t' 17)) 0, o1 19 (.fieldAddr 63 (t' 18) 1) 0, o1 20 (.load 3 (t' 19)) 3, o1 21 (.binOp .eql 3 (t' 20) (.const (.int .i64 (0))) 3) 4, asg 16 21 4])
 (.cond (t' 16)
 (.seq
 (.ops false [o1 4 (.assign (.const (.pointer none))) 60, o1 5 (.assign (.const (.int .i64 (9)))) 24])
 (.ret))
 (.skip))))))
 (.seq
 (.ops false [mv 22 6 60, asg 4 22 60, o1 5 (.assign (.const (.int .i64 (0)))) 24])
 (.ret)))))⟩
theorem fa27_eq : fnA qcfg.P (qcfg.rxf 27) 27 = some fa27 := by kernel_rfl
noncomputable def fa30 : FA := ⟨2, 27, [], [],
 (.seq
 (.ops true [mv 4 0 27, o1 5 (.nilCheck (t' 4)) 0, o1 6 (.fieldAddr 59 (t' 5) 0) 0, o1 7 (.load 23 (t' 6)) 23, mv 8 1 3, mv 9 0 27, o1 10 (.nilCheck (t' 9)) 0, o1 11 (.fieldAddr 59 (t' 10) 2) 0, o1 12 (.load 57 (t' 11)) 57, mv 13 1 3, o1 14 (.lookup 57 (t' 12) (t' 13) false) 60, o1 15 (.nilCheck (t' 14)) 0, o1 16 (.fieldAddr 63 (t' 15) 0) 0, o1 17 (.load 9 (t' 16)) 9, ⟨(some 18), .call ⟨(.value (.func 45)), #[(t' 7), (t' 8), (t' 17)], #[23, 3, 9]⟩, 24, none, false, true, false⟩])
 (.ops false [mv 19 0 27, o1 20 (.nilCheck (t' 19)) 0, o1 21 (.fieldAddr 59 (t' 20) 2) 0, o1 22 (.load 57 (t' 21)) 57, mv 23 1 3, o1 24 (.lookup 57 (t' 22) (t' 23) false) 60, o1 25 (.nilCheck (t' 24)) 0, o1 26 (.fieldAddr 63 (t' 25) 2) 0, o0 (.store 4 (t' 26) (.const (.bool false))) 0]))⟩
theorem fa30_eq : fnA qcfg.P (qcfg.rxf 30) 30 = some fa30 := by kernel_rfl
noncomputable def fa44 : FA := ⟨2, 7, [.tmp 3], [4],
 (.seq
 (.ops false [o1 3 (.assign (.const (.bool false))) 4])
 (.seq
 (.ops false [mv 4 0 3, o1 5 (.load 3 (t' 1)) 3, o1 6 (.binOp .eql 3 (t' 4) (t' 5) 3) 4, asg 3 6 4])
 (.ret)))⟩
theorem fa44_eq : fnA qcfg.P (qcfg.rxf 44) 44 = some fa44 := by kernel_rfl
noncomputable def fa40 : FA := ⟨2, 14, [.tmp 3], [4],
 (.seq
 (.ops false [o1 3 (.assign (.const (.bool false))) 4])
 (.seq
 (.ops false [o1 4 (.load 27 (t' 1)) 27, o1 5 (.nilCheck (t' 4)) 0, o1 6 (.fieldAddr 59 (t' 5) 2) 0, o1 7 (.load 57 (t' 6)) 57, mv 8 0 3, o1 9 (.lookup 57 (t' 7) (t' 8) false) 60, o1 10 (.nilCheck (t' 9)) 0, o1 11 (.fieldAddr 63 (t' 10) 2) 0, o1 12 (.load 4 (t' 11)) 4, o1 13 (.unOp .not 4 (t' 12)) 4, asg 3 13 4])
 (.ret)))⟩
theorem fa40_eq : fnA qcfg.P (qcfg.rxf 40) 40 = some fa40 := by kernel_rfl
noncomputable def fa13 : FA := ⟨2, 13, [], [],
 (.ops false [mv 4 0 27, mv 5 0 27, o1 6 (.nilCheck (t' 5)) 0, o1 7 (.fieldAddr 59 (t' 6) 4) 0, o1 8 (.load 3 (t' 7)) 3, mv 9 1 3, o1 10 (.call ⟨(.builtin .max), #[(t' 8), (t' 9)], #[3, 3]⟩) 3, o1 11 (.nilCheck (t' 4)) 0, o1 12 (.fieldAddr 59 (t' 11) 4) 0, o0 (.store 3 (t' 12) (t' 10)) 0])⟩
theorem fa13_eq : fnA qcfg.P (qcfg.rxf 13) 13 = some fa13 := by kernel_rfl
noncomputable def hkI1 : KC := qkC.inl [(38, fa38), (7, fa7), (31, fa31), (24, fa24), (49, fa49), (8, fa8), (29, fa29), (27, fa27), (30, fa30), (44, fa44), (40, fa40), (13, fa13)]
theorem hikI1 : IKOK hkI1 := inl_ok qikC (by
  intro x hx
  simp only [List.mem_cons, List.not_mem_nil, or_false] at hx
  rcases hx with rfl | rfl | rfl | rfl | rfl | rfl | rfl | rfl | rfl | rfl | rfl | rfl
  · exact ⟨rfl, fa38_eq, rfl⟩
  · exact ⟨rfl, fa7_eq, rfl⟩
  · exact ⟨rfl, fa31_eq, rfl⟩
  · exact ⟨rfl, fa24_eq, rfl⟩
  · exact ⟨rfl, fa49_eq, rfl⟩
  · exact ⟨rfl, fa8_eq, rfl⟩
  · exact ⟨rfl, fa29_eq, rfl⟩
  · exact ⟨rfl, fa27_eq, rfl⟩
  · exact ⟨rfl, fa30_eq, rfl⟩
  · exact ⟨rfl, fa44_eq, rfl⟩
  · exact ⟨rfl, fa40_eq, rfl⟩
  · exact ⟨rfl, fa13_eq, rfl⟩)
noncomputable def fa41 : FA := ⟨2, 28, [.tmp 3], [4],
 (.seq
 (.ops false [o1 3 (.assign (.const (.bool false))) 4])
 (.seq
 (.ops false [o1 5 (.load 27 (t' 1)) 27, o1 6 (.nilCheck (t' 5)) 0, o1 7 (.fieldAddr 59 (t' 6) 2) 0, o1 8 (.load 57 (t' 7)) 57, mv 9 0 3, o1 10 (.lookup 57 (t' 8) (t' 9) false) 60, asg 4 10 60])
 (.seq
 (.ops false [mv 11 4 60, o1 12 (.nilCheck (t' 11)) 0, o1 13 (.fieldAddr 63 (t' 12) 1) 0, o1 14 (.load 3 (t' 13)) 3, o1 15 (.binOp .eql 3 (t' 14) (.const (.int .i64 (0))) 3) 4, mv 16 15 4, o2 17 (.move (t' 4)) 60 16 true, o2 18 (.nilCheck (t' 17)) 0 16 true, o2 19 (.fieldAddr 63 (t' 18) 2) 0 16 true, o2 20 (.load 4 (t' 19)) 4 16 true, o2 21 (.unOp .not 4 (t' 20)) 4 16 true, o2 22 (.move (t' 21)) 4 16 true, o2 23 (.load 27 (t' 1)) 27 22 false, o2 24 (.move (t' 4)) 60 22 false, o2 25 (.call ⟨(.value (.func 29)), #[(t' 23), (t' 24)], #[27, 60]⟩) 4 22 false, o2 26 (.pick (t' 22) (.const (.bool true)) (t' 25)) 4 16 true, o1 27 (.pick (t' 16) (t' 26) (.const (.bool false))) 4, asg 3 27 4])
 (.ret))))⟩
theorem fa41_eq : fnA qcfg.P (qcfg.rxf 41) 41 = some fa41 := by kernel_rfl
noncomputable def qk : KC := hkI1.inl [(41, fa41)]
theorem qik : IKOK qk := inl_ok hikI1 (by
  intro x hx
  simp only [List.mem_cons, List.not_mem_nil, or_false] at hx
  rcases hx with rfl
  · exact ⟨rfl, fa41_eq, rfl⟩)
noncomputable def fa63 : FA := ⟨2, 13, [.tmp 4], [24],
 (.seq
 (.ops false [o1 4 (.assign (.const (.int .i64 (0)))) 24])
 (.seq
 (.seq
 (.ops false [mv 5 1 3, o1 6 (.binOp .lss 3 (t' 5) (.const (.int .i64 (0))) 3) 4, mv 7 6 4, o2 8 (.move (t' 1)) 3 7 false, o2 9 (.move (t' 0)) 9 7 false, o2 10 (.call ⟨(.builtin .len), #[(t' 9)], #[9]⟩) 3 7 false, o2 11 (.binOp .gtr 3 (t' 8) (t' 10) 3) 4 7 false, o1 12 (.pick (t' 7) (.const (.bool true)) (t' 11)) 4])
 (.cond (t' 12)
 (.seq
 (.ops false [o1 4 (.assign (.const (.int .i64 (1)))) 24])
 (.ret))
 (.skip)))
 (.seq
 (.ops false [o1 4 (.assign (.const (.int .i64 (0)))) 24])
 (.ret))))⟩
theorem fa63_eq : fnA qcfg.P (qcfg.rxf 63) 63 = some fa63 := by kernel_rfl
noncomputable def e63 (a0 : List UInt8) (a1 : Int) : R :=
  cond (decide (a1 < 0))
 (some (.done (V.int .i64 1)))
 (cond (decide (a1 > (a0.length : Int)))
 (some (.done (V.int .i64 1)))
 (some (.done (V.int .i64 0))))
theorem e63_eq (a0 : List UInt8) (a1 : Int) : enterK qk false fa63 [V.str a0, V.int .i64 a1] [] = e63 a0 a1 := by kernel_rfl
theorem e63_run (a0 : List UInt8) (a1 : Int) {o : Out} {v : V} (h : e63 a0 a1 = some o) (hg : Go qk false 0 fa63 o (.done v)) : pcW qcfg 63 [V.str a0, V.int .i64 a1] = some v := pcW_go qik rfl fa63_eq ((e63_eq a0 a1).trans h) hg
theorem e63_done (a0 : List UInt8) (a1 : Int) {v : V} (h : e63 a0 a1 = some (.done v)) : pcW qcfg 63 [V.str a0, V.int .i64 a1] = some v := e63_run a0 a1 h (.refl _)
noncomputable def fa54 : FA := ⟨3, 27, [.tmp 6], [24],
 (.seq
 (.ops false [o1 6 (.assign (.const (.int .i64 (0)))) 24])
 (.seq
 (.block 0
 (.seq
 (.ops false [mv 8 2 3, o1 9 (.binOp .lss 3 (t' 8) (.const (.int .i64 (1))) 3) 4, mv 10 9 4, o2 11 (.move (t' 2)) 3 10 false, o2 12 (.binOp .gtr 3 (t' 11) (.const (.int .i64 (8))) 3) 4 10 false, o1 13 (.pick (t' 10) (.const (.bool true)) (t' 12)) 4, mv 14 13 4, o2 15 (.move (t' 0)) 9 14 false, o2 16 (.move (t' 1)) 3 14 false, o2 17 (.call ⟨(.value (.func 63)), #[(t' 15), (t' 16)], #[9, 3]⟩) 24 14 false, o2 18 (.binOp .neq 24 (t' 17) (.const (.int .i64 (0))) 24) 4 14 false, o1 19 (.pick (t' 14) (.const (.bool true)) (t' 18)) 4, asg 7 19 4])
 (.cond (t' 7)
 (.seq
 (.ops false [o1 6 (.assign (.const (.int .i64 (1)))) 24])
 (.ret))
 (.seq
 (.ops false [mv 21 0 9, o1 22 (.call ⟨(.builtin .len), #[(t' 21)], #[9]⟩) 3, mv 23 1 3, o1 24 (.binOp .sub 3 (t' 22) (t' 23) 3) 3, mv 25 2 3, o1 26 (.binOp .lss 3 (t' 24) (t' 25) 3) 4, asg 20 26 4])
 (.cond (t' 20)
 (.seq
 (.ops false [o1 6 (.assign (.const (.int .i64 (3)))) 24])
 (.ret))
 (.skip))))))
 (.seq
 (.ops false [o1 6 (.assign (.const (.int .i64 (0)))) 24])
 (.ret))))⟩
theorem fa54_eq : fnA qcfg.P (qcfg.rxf 54) 54 = some fa54 := by kernel_rfl
noncomputable def e54 (a0 : List UInt8) (a1 : Int) (a2 : Int) : R :=
  cond (decide (a2 < 1))
 (some (.done (V.int .i64 1)))
 (cond (decide (a2 > 8))
 (some (.done (V.int .i64 1)))
 (pcK qcfg 63 [V.str a0, V.int .i64 a1] fun r =>
  kI .i64 r fun r63 =>
  cond (r63 != (0 : Int))
 (some (.done (V.int .i64 1)))
 (cond (decide (W .i64 ((a0.length : Int) - a1) < a2))
 (some (.done (V.int .i64 3)))
 (some (.done (V.int .i64 0))))))
theorem e54_eq (a0 : List UInt8) (a1 : Int) (a2 : Int) : enterK qk false fa54 [V.str a0, V.int .i64 a1, V.int .i64 a2] [] = e54 a0 a1 a2 := by kernel_rfl
theorem e54_run (a0 : List UInt8) (a1 : Int) (a2 : Int) {o : Out} {v : V} (h : e54 a0 a1 a2 = some o) (hg : Go qk false 0 fa54 o (.done v)) : pcW qcfg 54 [V.str a0, V.int .i64 a1, V.int .i64 a2] = some v := pcW_go qik rfl fa54_eq ((e54_eq a0 a1 a2).trans h) hg
theorem e54_done (a0 : List UInt8) (a1 : Int) (a2 : Int) {v : V} (h : e54 a0 a1 a2 = some (.done v)) : pcW qcfg 54 [V.str a0, V.int .i64 a1, V.int .i64 a2] = some v := e54_run a0 a1 a2 h (.refl _)
noncomputable def fa46 : FA := ⟨3, 35, [.tmp 6, .tmp 7], [39, 24],
 (.seq
 (.ops false [o1 6 (.assign (.const (.int .u64 (0)))) 39, o1 7 (.assign (.const (.int .i64 (0)))) 24])
 (.seq
 (.seq
 (.ops false [mv 11 0 9, mv 12 1 3, mv 13 2 3, o1 14 (.call ⟨(.value (.func 54)), #[(t' 11), (t' 12), (t' 13)], #[9, 3, 3]⟩) 24, asg 8 14 24])
 (.seq
 (.ops false [mv 15 8 24, o1 16 (.binOp .neq 24 (t' 15) (.const (.int .i64 (0))) 24) 4])
 (.cond (t' 16)
 (.seq
 (.ops false [mv 17 8 24, o1 6 (.assign (.const (.int .u64 (0)))) 39, asg 7 17 24])
 (.ret))
 (.skip))))
 (.seq
 (.ops false [o1 9 (.assign (.const (.int .u64 (0)))) 39])
 (.seq
 (.seq
 (.ops false [mv 18 2 3, o1 19 (.move (.const (.int .i64 (0)))) 3])
 (.block 0
 (.loop (List.range' 2 4 ++ [8] ++ List.range' 10 8 ++ List.range' 20 15)
 (.seq
 (.ops false [o1 20 (.binOp .lss 3 (t' 19) (t' 18) 3) 4])
 (.seq
 (.cond (t' 20)
 (.skip)
 (.exit 0))
 (.seq
 (.block 1
 (.seq
 (.ops false [mv 21 19 3, asg 10 21 3])
 (.ops false [mv 22 9 39, mv 23 0 9, mv 24 1 3, mv 25 10 3, o1 26 (.binOp .add 3 (t' 24) (t' 25) 3) 3, o1 27 (.index 9 (t' 23) (t' 26)) 5, o1 28 (.convert 5 39 (t' 27)) 39, mv 29 10 3, o1 30 (.binOp .mul 3 (.const (.int .i64 (8))) (t' 29) 3) 3, o1 31 (.binOp .shl 39 (t' 28) (t' 30) 3) 39, o1 32 (.binOp .or 39 (t' 22) (t' 31) 39) 39, asg 9 32 39])))
 (.ops false [o1 33 (.binOp .add 3 (t' 19) (.const (.int .i64 (1))) 3) 3, mv 19 33 3])))))))
 (.seq
 (.ops false [mv 34 9 39, asg 6 34 39, o1 7 (.assign (.const (.int .i64 (0)))) 24])
 (.ret))))))⟩
theorem fa46_eq : fnA qcfg.P (qcfg.rxf 46) 46 = some fa46 := by kernel_rfl
def T46_0 (x0 : List UInt8) (x1 : Int) (x9 : Int) (x18 : Int) (x19 : Int) : S := ⟨[V.str x0, V.int .i64 x1] ++ (JU 4) ++ [V.int .u64 0, V.int .i64 0, V.junk, V.int .u64 x9] ++ (JU 8) ++ [V.int .i64 x18, V.int .i64 x19] ++ (JU 15), []⟩
noncomputable def e46 (a0 : List UInt8) (a1 : Int) (a2 : Int) : R :=
  pcK qcfg 54 [V.str a0, V.int .i64 a1, V.int .i64 a2] fun r =>
  kI .i64 r fun r54 =>
  cond (r54 != (0 : Int))
 (some (.done (V.tup [V.int .u64 0, V.int .i64 r54])))
 (some (.head 0 (T46_0 a0 a1 0 a2 0)))
theorem e46_eq (a0 : List UInt8) (a1 : Int) (a2 : Int) : enterK qk false fa46 [V.str a0, V.int .i64 a1, V.int .i64 a2] [] = e46 a0 a1 a2 := by kernel_rfl
theorem e46_run (a0 : List UInt8) (a1 : Int) (a2 : Int) {o : Out} {v : V} (h : e46 a0 a1 a2 = some o) (hg : Go qk false 0 fa46 o (.done v)) : pcW qcfg 46 [V.str a0, V.int .i64 a1, V.int .i64 a2] = some v := pcW_go qik rfl fa46_eq ((e46_eq a0 a1 a2).trans h) hg
noncomputable def s46_0 (x0 : List UInt8) (x1 : Int) (x9 : Int) (x18 : Int) (x19 : Int) : R :=
  cond (decide (x19 < x18))
 (gd (decide (0 ≤ W .i64 (x1 + x19))) <|
  idxK x0 ((W .i64 (x1 + x19)).toNat) fun c =>
  gd (!decide (W .i64 (8 * x19) < 0)) <|
  some (.head 0 (T46_0 x0 x1 (W .u64 (((BitVec.ofInt (IntKind.bits .u64) x9 ||| BitVec.ofInt (IntKind.bits .u64) (W .u64 (W .u64 ((c.toNat : Int)) * 2 ^ (min (W .i64 (8 * x19)).toNat (IntKind.bits .u64))))).toNat : Int))) x18 (W .i64 (x19 + 1)))))
 (some (.done (V.tup [V.int .u64 x9, V.int .i64 0])))
theorem s46_0_eq (x0 : List UInt8) (x1 : Int) (x9 : Int) (x18 : Int) (x19 : Int) : goK qk false 0 fa46 0 (T46_0 x0 x1 x9 x18 x19) = s46_0 x0 x1 x9 x18 x19 := by kernel_rfl
theorem s46_0_run (x0 : List UInt8) (x1 : Int) (x9 : Int) (x18 : Int) (x19 : Int) {o o' : Out} (h : s46_0 x0 x1 x9 x18 x19 = some o) (hg : Go qk false 0 fa46 o o') : Go qk false 0 fa46 (.head 0 (T46_0 x0 x1 x9 x18 x19)) o' := .step ((s46_0_eq x0 x1 x9 x18 x19).trans h) hg
noncomputable def fa62 : FA := ⟨4, 48, [.tmp 8, .tmp 9], [9, 24],
 (.seq
 (.ops false [o1 8 (.assign (.const (.string ⟨⟨[]⟩⟩))) 9, o1 9 (.assign (.const (.int .i64 (0)))) 24])
 (.seq
 (.seq
 (.ops false [mv 13 0 9, mv 14 1 3, mv 15 2 3, o1 16 (.call ⟨(.value (.func 54)), #[(t' 13), (t' 14), (t' 15)], #[9, 3, 3]⟩) 24, asg 10 16 24])
 (.seq
 (.ops false [mv 17 10 24, o1 18 (.binOp .neq 24 (t' 17) (.const (.int .i64 (0))) 24) 4])
 (.cond (t' 18)
 (.seq
 (.ops false [mv 19 10 24, o1 8 (.assign (.const (.string ⟨⟨[]⟩⟩))) 9, asg 9 19 24])
 (.ret))
 (.skip))))
 (.seq
 (.seq
 (.ops false [mv 20 2 3, o1 21 (.binOp .lss 3 (t' 20) (.const (.int .i64 (8))) 3) 4, mv 22 21 4, o2 23 (.move (t' 3)) 39 22 true, o2 24 (.move (t' 2)) 3 22 true, o2 25 (.binOp .mul 3 (.const (.int .i64 (8))) (t' 24) 3) 3 22 true, o2 26 (.binOp .shr 39 (t' 23) (t' 25) 3) 39 22 true, o2 27 (.binOp .gtr 39 (t' 26) (.const (.int .u64 (0))) 39) 4 22 true, o1 28 (.pick (t' 22) (t' 27) (.const (.bool false))) 4])
 (.cond (t' 28)
 (.seq
 (.ops false [o1 8 (.assign (.const (.string ⟨⟨[]⟩⟩))) 9, o1 9 (.assign (.const (.int .i64 (2)))) 24])
 (.ret))
 (.skip)))
 (.seq
 (.ops false [mv 29 2 3, o1 30 (.makeSlice 66 (t' 29) (t' 29)) 66, asg 11 30 66])
 (.seq
 (.seq
 (.ops false [mv 31 2 3, o1 32 (.move (.const (.int .i64 (0)))) 3])
 (.block 0
 (.loop ([2] ++ List.range' 4 4 ++ [10] ++ List.range' 12 19 ++ List.range' 33 15)
 (.seq
 (.ops false [o1 33 (.binOp .lss 3 (t' 32) (t' 31) 3) 4])
 (.seq
 (.cond (t' 33)
 (.skip)
 (.exit 0))
 (.seq
 (.block 1
 (.seq
 (.ops false [mv 34 32 3, asg 12 34 3])
 (.ops false [mv 35 11 66, mv 36 12 3, mv 37 3 39, mv 38 12 3, o1 39 (.binOp .mul 3 (.const (.int .i64 (8))) (t' 38) 3) 3, o1 40 (.binOp .shr 39 (t' 37) (t' 39) 3) 39, o1 41 (.convert 39 5 (t' 40)) 5, o1 42 (.indexAddr 66 (t' 35) (t' 36)) 0, o0 (.store 5 (t' 42) (t' 41)) 0])))
 (.ops false [o1 43 (.binOp .add 3 (t' 32) (.const (.int .i64 (1))) 3) 3, mv 32 43 3])))))))
 (.seq
 (.ops false [mv 44 0 9, mv 45 1 3, mv 46 11 66, o1 47 (.call ⟨(.value (.func 76)), #[(t' 44), (t' 45), (t' 46)], #[9, 3, 66]⟩) 9, asg 8 47 9, o1 9 (.assign (.const (.int .i64 (0)))) 24])
 (.ret)))))))⟩
theorem fa62_eq : fnA qcfg.P (qcfg.rxf 62) 62 = some fa62 := by kernel_rfl
def T62_0 (x0 : List UInt8) (x1 : Int) (x3 : Int) (x31 : Int) (x32 : Int) (m0 : List V) : S := ⟨[V.str x0, V.int .i64 x1, V.junk, V.int .u64 x3] ++ (JU 4) ++ [V.str [], V.int .i64 0, V.junk, V.own 0] ++ (JU 19) ++ [V.int .i64 x31, V.int .i64 x32] ++ (JU 15), [O.row 5 m0 0]⟩
noncomputable def e62 (a0 : List UInt8) (a1 : Int) (a2 : Int) (a3 : Int) : R :=
  pcK qcfg 54 [V.str a0, V.int .i64 a1, V.int .i64 a2] fun r =>
  kI .i64 r fun r54 =>
  cond (r54 != (0 : Int))
 (some (.done (V.tup [V.str [], V.int .i64 r54])))
 (cond (decide (a2 < 8))
 (gd (!decide (W .i64 (8 * a2) < 0)) <|
  cond (decide (a3.fdiv (2 ^ (min (W .i64 (8 * a2)).toNat (IntKind.bits .u64))) > 0))
 (some (.done (V.tup [V.str [], V.int .i64 2])))
 (gd (decide (0 ≤ a2)) <|
  gd (decide (a2 ≤ a2)) <|
  gd (decide (a2.toNat ≤ 16777216)) <|
  some (.head 0 (T62_0 a0 a1 a3 a2 0 (List.replicate a2.toNat (V.int .u8 0))))))
 (gd (decide (0 ≤ a2)) <|
  gd (decide (a2 ≤ a2)) <|
  gd (decide (a2.toNat ≤ 16777216)) <|
  some (.head 0 (T62_0 a0 a1 a3 a2 0 (List.replicate a2.toNat (V.int .u8 0))))))
theorem e62_eq (a0 : List UInt8) (a1 : Int) (a2 : Int) (a3 : Int) : enterK qk false fa62 [V.str a0, V.int .i64 a1, V.int .i64 a2, V.int .u64 a3] [] = e62 a0 a1 a2 a3 := by kernel_rfl
theorem e62_run (a0 : List UInt8) (a1 : Int) (a2 : Int) (a3 : Int) {o : Out} {v : V} (h : e62 a0 a1 a2 a3 = some o) (hg : Go qk false 0 fa62 o (.done v)) : pcW qcfg 62 [V.str a0, V.int .i64 a1, V.int .i64 a2, V.int .u64 a3] = some v := pcW_go qik rfl fa62_eq ((e62_eq a0 a1 a2 a3).trans h) hg
noncomputable def s62_0 (x0 : List UInt8) (x1 : Int) (x3 : Int) (x31 : Int) (x32 : Int) (m0 : List V) : R :=
  cond (decide (x32 < x31))
 (gd (!decide (W .i64 (8 * x32) < 0)) <|
  gd (decide (0 ≤ x32)) <|
  gd (decide (x32.toNat < m0.length)) <|
  idxK m0 x32.toNat fun v =>
  kI .u8 v fun n =>
  some (.head 0 (T62_0 x0 x1 x3 x31 (W .i64 (x32 + 1)) ((m0).set x32.toNat (V.int .u8 (W .u8 (x3.fdiv (2 ^ (min (W .i64 (8 * x32)).toNat (IntKind.bits .u64))))))))))
 (pcK qcfg 76 [V.str x0, V.int .i64 x1, V.sl m0] fun r =>
  kS r fun r76 =>
  some (.done (V.tup [V.str r76, V.int .i64 0])))
theorem s62_0_eq (x0 : List UInt8) (x1 : Int) (x3 : Int) (x31 : Int) (x32 : Int) (m0 : List V) : goK qk false 0 fa62 0 (T62_0 x0 x1 x3 x31 x32 m0) = s62_0 x0 x1 x3 x31 x32 m0 := by kernel_rfl
theorem s62_0_run (x0 : List UInt8) (x1 : Int) (x3 : Int) (x31 : Int) (x32 : Int) (m0 : List V) {o o' : Out} (h : s62_0 x0 x1 x3 x31 x32 m0 = some o) (hg : Go qk false 0 fa62 o o') : Go qk false 0 fa62 (.head 0 (T62_0 x0 x1 x3 x31 x32 m0)) o' := .step ((s62_0_eq x0 x1 x3 x31 x32 m0).trans h) hg
noncomputable def fa61 : FA := ⟨2, 26, [.tmp 4, .tmp 5], [9, 24],
 (.seq
 (.ops false [o1 4 (.assign (.const (.string ⟨⟨[]⟩⟩))) 9, o1 5 (.assign (.const (.int .i64 (0)))) 24])
 (.seq
 (.block 0
 (.seq
 (.ops false [mv 7 1 3, o1 8 (.binOp .lss 3 (t' 7) (.const (.int .i64 (0))) 3) 4, mv 9 8 4, o2 10 (.move (t' 1)) 3 9 false, o2 11 (.binOp .gtr 3 (t' 10) (.const (.int .i64 (65536))) 3) 4 9 false, o1 12 (.pick (t' 9) (.const (.bool true)) (t' 11)) 4, asg 6 12 4])
 (.cond (t' 6)
 (.seq
 (.ops false [o1 4 (.assign (.const (.string ⟨⟨[]⟩⟩))) 9, o1 5 (.assign (.const (.int .i64 (1)))) 24])
 (.ret))
 (.seq
 (.ops false [mv 14 0 9, o1 15 (.call ⟨(.builtin .len), #[(t' 14)], #[9]⟩) 3, mv 16 1 3, o1 17 (.binOp .gtr 3 (t' 15) (t' 16) 3) 4, asg 13 17 4])
 (.cond (t' 13)
 (.seq
 (.ops false [o1 4 (.assign (.const (.string ⟨⟨[]⟩⟩))) 9, o1 5 (.assign (.const (.int .i64 (2)))) 24])
 (.ret))
 (.skip))))))
 (.seq
 (.ops false [mv 18 0 9, mv 19 1 3, mv 20 0 9, o1 21 (.call ⟨(.builtin .len), #[(t' 20)], #[9]⟩) 3, o1 22 (.binOp .sub 3 (t' 19) (t' 21) 3) 3, o1 23 (.makeSlice 66 (t' 22) (t' 22)) 66, o1 24 (.convert 66 9 (t' 23)) 9, o1 25 (.binOp .add 9 (t' 18) (t' 24) 9) 9, asg 4 25 9, o1 5 (.assign (.const (.int .i64 (0)))) 24])
 (.ret))))⟩
theorem fa61_eq : fnA qcfg.P (qcfg.rxf 61) 61 = some fa61 := by kernel_rfl
noncomputable def e61 (a0 : List UInt8) (a1 : Int) : R :=
  cond (decide (a1 < 0))
 (some (.done (V.tup [V.str [], V.int .i64 1])))
 (cond (decide (a1 > 65536))
 (some (.done (V.tup [V.str [], V.int .i64 1])))
 (cond (decide ((a0.length : Int) > a1))
 (some (.done (V.tup [V.str [], V.int .i64 2])))
 (gd (decide (0 ≤ W .i64 (a1 - (a0.length : Int)))) <|
  gd (decide (W .i64 (a1 - (a0.length : Int)) ≤ W .i64 (a1 - (a0.length : Int)))) <|
  gd (decide ((W .i64 (a1 - (a0.length : Int))).toNat ≤ 16777216)) <|
  opt (numsOf (List.replicate ((W .i64 (a1 - (a0.length : Int))).toNat) (V.int .u8 0))) fun ns =>
  gd (decide (a0.length + (ns.map fun n => UInt8.ofNat n.toNat).length ≤ 4611686018427387904)) <|
  some (.done (V.tup [V.str (a0 ++ (ns.map fun n => UInt8.ofNat n.toNat)), V.int .i64 0])))))
theorem e61_eq (a0 : List UInt8) (a1 : Int) : enterK qk false fa61 [V.str a0, V.int .i64 a1] [] = e61 a0 a1 := by kernel_rfl
theorem e61_run (a0 : List UInt8) (a1 : Int) {o : Out} {v : V} (h : e61 a0 a1 = some o) (hg : Go qk false 0 fa61 o (.done v)) : pcW qcfg 61 [V.str a0, V.int .i64 a1] = some v := pcW_go qik rfl fa61_eq ((e61_eq a0 a1).trans h) hg
theorem e61_done (a0 : List UInt8) (a1 : Int) {v : V} (h : e61 a0 a1 = some (.done v)) : pcW qcfg 61 [V.str a0, V.int .i64 a1] = some v := e61_run a0 a1 h (.refl _)
noncomputable def fa34 : FA := ⟨3, 29, [.tmp 6], [24],
 (.seq
 (.ops false [o1 6 (.assign (.const (.int .i64 (0)))) 24])
 (.seq
 (.seq
 (.ops false [mv 7 2 3, o1 8 (.binOp .lss 3 (t' 7) (.const (.int .i64 (1))) 3) 4, mv 9 8 4, o2 10 (.move (t' 2)) 3 9 false, o2 11 (.binOp .gtr 3 (t' 10) (.const (.int .i64 (8))) 3) 4 9 false, o1 12 (.pick (t' 9) (.const (.bool true)) (t' 11)) 4, mv 13 12 4, o2 14 (.move (t' 1)) 3 13 false, o2 15 (.binOp .lss 3 (t' 14) (.const (.int .i64 (0))) 3) 4 13 false, o1 16 (.pick (t' 13) (.const (.bool true)) (t' 15)) 4, mv 17 16 4, o2 18 (.move (t' 1)) 3 17 false, o2 19 (.move (t' 0)) 9 17 false, o2 20 (.call ⟨(.builtin .len), #[(t' 19)], #[9]⟩) 3 17 false, o2 21 (.binOp .gtr 3 (t' 18) (t' 20) 3) 4 17 false, o1 22 (.pick (t' 17) (.const (.bool true)) (t' 21)) 4])
 (.cond (t' 22)
 (.seq
 (.ops false [o1 6 (.assign (.const (.int .i64 (1)))) 24])
 (.ret))
 (.skip)))
 (.seq
 (.seq
 (.ops false [mv 23 1 3, mv 24 2 3, o1 25 (.binOp .add 3 (t' 23) (t' 24) 3) 3, mv 26 0 9, o1 27 (.call ⟨(.builtin .len), #[(t' 26)], #[9]⟩) 3, o1 28 (.binOp .gtr 3 (t' 25) (t' 27) 3) 4])
 (.cond (t' 28)
 (.seq
 (.ops false [o1 6 (.assign (.const (.int .i64 (3)))) 24])
 (.ret))
 (.skip)))
 (.seq
 (.ops false [o1 6 (.assign (.const (.int .i64 (0)))) 24])
 (.ret)))))⟩
theorem fa34_eq : fnA qcfg.P (qcfg.rxf 34) 34 = some fa34 := by kernel_rfl
noncomputable def e34 (a0 : List UInt8) (a1 : Int) (a2 : Int) : R :=
  cond (decide (a2 < 1))
 (some (.done (V.int .i64 1)))
 (cond (decide (a2 > 8))
 (some (.done (V.int .i64 1)))
 (cond (decide (a1 < 0))
 (some (.done (V.int .i64 1)))
 (cond (decide (a1 > (a0.length : Int)))
 (some (.done (V.int .i64 1)))
 (cond (decide (W .i64 (a1 + a2) > (a0.length : Int)))
 (some (.done (V.int .i64 3)))
 (some (.done (V.int .i64 0)))))))
theorem e34_eq (a0 : List UInt8) (a1 : Int) (a2 : Int) : enterK qk false fa34 [V.str a0, V.int .i64 a1, V.int .i64 a2] [] = e34 a0 a1 a2 := by kernel_rfl
theorem e34_run (a0 : List UInt8) (a1 : Int) (a2 : Int) {o : Out} {v : V} (h : e34 a0 a1 a2 = some o) (hg : Go qk false 0 fa34 o (.done v)) : pcW qcfg 34 [V.str a0, V.int .i64 a1, V.int .i64 a2] = some v := pcW_go qik rfl fa34_eq ((e34_eq a0 a1 a2).trans h) hg
theorem e34_done (a0 : List UInt8) (a1 : Int) (a2 : Int) {v : V} (h : e34 a0 a1 a2 = some (.done v)) : pcW qcfg 34 [V.str a0, V.int .i64 a1, V.int .i64 a2] = some v := e34_run a0 a1 a2 h (.refl _)
noncomputable def fa36 : FA := ⟨2, 18, [.tmp 4], [9],
 (.seq
 (.ops false [o1 4 (.assign (.const (.string ⟨⟨[]⟩⟩))) 9])
 (.seq
 (.seq
 (.ops false [mv 5 1 3, o1 6 (.binOp .eql 3 (t' 5) (.const (.int .i64 (0))) 3) 4])
 (.cond (t' 6)
 (.seq
 (.ops false [o1 4 (.assign (.const (.string ⟨⟨[]⟩⟩))) 9])
 (.ret))
 (.skip)))
 (.seq
 (.ops true [mv 7 0 39, o1 8 (.binOp .rem 39 (t' 7) (.const (.int .u64 (256))) 39) 39, o1 9 (.convert 39 5 (t' 8)) 5, ⟨(some 10), .buildSlice 66 1 #[(0, (t' 9))], 66, none, true, false, false⟩, o1 11 (.convert 66 9 (t' 10)) 9, mv 12 0 39, o1 13 (.binOp .quo 39 (t' 12) (.const (.int .u64 (256))) 39) 39, mv 14 1 3, o1 15 (.binOp .sub 3 (t' 14) (.const (.int .i64 (1))) 3) 3, ⟨(some 16), .call ⟨(.value (.func 36)), #[(t' 13), (t' 15)], #[39, 3]⟩, 9, none, false, true, false⟩, o1 17 (.binOp .add 9 (t' 11) (t' 16) 9) 9, asg 4 17 9])
 (.ret))))⟩
theorem fa36_eq : fnA qcfg.P (qcfg.rxf 36) 36 = some fa36 := by kernel_rfl
noncomputable def e36 (a0 : Int) (a1 : Int) : R :=
  cond (a1 == (0 : Int))
 (some (.done (V.str [])))
 (pcK qcfg 36 [V.int .u64 (W .u64 ((a0.tdiv 256))), V.int .i64 (W .i64 (a1 - 1))] fun r =>
  kS r fun r36 =>
  gd (decide (([UInt8.ofNat (W .u8 (a0.tmod 256)).toNat] : List UInt8).length + r36.length ≤ 4611686018427387904)) <|
  some (.done (V.str ([UInt8.ofNat (W .u8 (a0.tmod 256)).toNat] ++ r36))))
theorem e36_eq (a0 : Int) (a1 : Int) : enterK qk false fa36 [V.int .u64 a0, V.int .i64 a1] [] = e36 a0 a1 := by kernel_rfl
theorem e36_run (a0 : Int) (a1 : Int) {o : Out} {v : V} (h : e36 a0 a1 = some o) (hg : Go qk false 0 fa36 o (.done v)) : pcW qcfg 36 [V.int .u64 a0, V.int .i64 a1] = some v := pcW_go qik rfl fa36_eq ((e36_eq a0 a1).trans h) hg
theorem e36_done (a0 : Int) (a1 : Int) {v : V} (h : e36 a0 a1 = some (.done v)) : pcW qcfg 36 [V.int .u64 a0, V.int .i64 a1] = some v := e36_run a0 a1 h (.refl _)
noncomputable def fa16 : FA := ⟨3, 34, [.tmp 6, .tmp 7], [39, 24],
 (.seq
 (.ops false [o1 6 (.assign (.const (.int .u64 (0)))) 39, o1 7 (.assign (.const (.int .i64 (0)))) 24])
 (.seq
 (.ops false [mv 11 0 9, mv 12 1 3, mv 13 2 3, o1 14 (.call ⟨(.value (.func 34)), #[(t' 11), (t' 12), (t' 13)], #[9, 3, 3]⟩) 24, asg 8 14 24])
 (.seq
 (.seq
 (.ops false [mv 15 8 24, o1 16 (.binOp .neq 24 (t' 15) (.const (.int .i64 (0))) 24) 4])
 (.cond (t' 16)
 (.seq
 (.ops false [mv 17 8 24, o1 6 (.assign (.const (.int .u64 (0)))) 39, asg 7 17 24])
 (.ret))
 (.skip)))
 (.seq
 (.ops false [o1 9 (.assign (.const (.int .u64 (0)))) 39])
 (.seq
 (.seq
 (.ops false [mv 18 2 3, o1 19 (.binOp .sub 3 (t' 18) (.const (.int .i64 (1))) 3) 3, asg 10 19 3])
 (.block 0
 (.loop (List.range' 2 4 ++ [8] ++ List.range' 11 23)
 (.seq
 (.seq
 (.ops false [mv 20 10 3, o1 21 (.binOp .geq 3 (t' 20) (.const (.int .i64 (0))) 3) 4])
 (.cond (t' 21)
 (.skip)
 (.exit 0)))
 (.seq
 (.block 1
 (.ops false [mv 24 9 39, o1 25 (.binOp .mul 39 (.const (.int .u64 (256))) (t' 24) 39) 39, mv 26 0 9, mv 27 1 3, mv 28 10 3, o1 29 (.binOp .add 3 (t' 27) (t' 28) 3) 3, o1 30 (.index 9 (t' 26) (t' 29)) 5, o1 31 (.convert 5 39 (t' 30)) 39, o1 32 (.binOp .add 39 (t' 25) (t' 31) 39) 39, asg 9 32 39]))
 (.ops false [mv 22 10 3, o1 23 (.binOp .sub 3 (t' 22) (.const (.int .i64 (1))) 3) 3, asg 10 23 3]))))))
 (.seq
 (.ops false [mv 33 9 39, asg 6 33 39, o1 7 (.assign (.const (.int .i64 (0)))) 24])
 (.ret)))))))⟩
theorem fa16_eq : fnA qcfg.P (qcfg.rxf 16) 16 = some fa16 := by kernel_rfl
def T16_0 (x0 : List UInt8) (x1 : Int) (x9 : Int) (x10 : Int) : S := ⟨[V.str x0, V.int .i64 x1] ++ (JU 4) ++ [V.int .u64 0, V.int .i64 0, V.junk, V.int .u64 x9, V.int .i64 x10] ++ (JU 23), []⟩
noncomputable def e16 (a0 : List UInt8) (a1 : Int) (a2 : Int) : R :=
  pcK qcfg 34 [V.str a0, V.int .i64 a1, V.int .i64 a2] fun r =>
  kI .i64 r fun r34 =>
  cond (r34 != (0 : Int))
 (some (.done (V.tup [V.int .u64 0, V.int .i64 r34])))
 (some (.head 0 (T16_0 a0 a1 0 (W .i64 (a2 - 1)))))
theorem e16_eq (a0 : List UInt8) (a1 : Int) (a2 : Int) : enterK qk false fa16 [V.str a0, V.int .i64 a1, V.int .i64 a2] [] = e16 a0 a1 a2 := by kernel_rfl
theorem e16_run (a0 : List UInt8) (a1 : Int) (a2 : Int) {o : Out} {v : V} (h : e16 a0 a1 a2 = some o) (hg : Go qk false 0 fa16 o (.done v)) : pcW qcfg 16 [V.str a0, V.int .i64 a1, V.int .i64 a2] = some v := pcW_go qik rfl fa16_eq ((e16_eq a0 a1 a2).trans h) hg
noncomputable def s16_0 (x0 : List UInt8) (x1 : Int) (x9 : Int) (x10 : Int) : R :=
  cond (decide (x10 ≥ 0))
 (gd (decide (0 ≤ W .i64 (x1 + x10))) <|
  idxK x0 ((W .i64 (x1 + x10)).toNat) fun c =>
  some (.head 0 (T16_0 x0 x1 (W .u64 ((W .u64 (256 * x9)) + (W .u64 ((c.toNat : Int))))) (W .i64 (x10 - 1)))))
 (some (.done (V.tup [V.int .u64 x9, V.int .i64 0])))
theorem s16_0_eq (x0 : List UInt8) (x1 : Int) (x9 : Int) (x10 : Int) : goK qk false 0 fa16 0 (T16_0 x0 x1 x9 x10) = s16_0 x0 x1 x9 x10 := by kernel_rfl
theorem s16_0_run (x0 : List UInt8) (x1 : Int) (x9 : Int) (x10 : Int) {o o' : Out} (h : s16_0 x0 x1 x9 x10 = some o) (hg : Go qk false 0 fa16 o o') : Go qk false 0 fa16 (.head 0 (T16_0 x0 x1 x9 x10)) o' := .step ((s16_0_eq x0 x1 x9 x10).trans h) hg
noncomputable def fa28 : FA := ⟨4, 43, [.tmp 8, .tmp 9], [9, 24],
 (.seq
 (.ops false [o1 8 (.assign (.const (.string ⟨⟨[]⟩⟩))) 9, o1 9 (.assign (.const (.int .i64 (0)))) 24])
 (.seq
 (.ops false [mv 13 0 9, mv 14 1 3, mv 15 2 3, o1 16 (.call ⟨(.value (.func 34)), #[(t' 13), (t' 14), (t' 15)], #[9, 3, 3]⟩) 24, asg 10 16 24])
 (.seq
 (.seq
 (.ops false [mv 17 10 24, o1 18 (.binOp .neq 24 (t' 17) (.const (.int .i64 (0))) 24) 4])
 (.cond (t' 18)
 (.seq
 (.ops false [mv 19 10 24, o1 8 (.assign (.const (.string ⟨⟨[]⟩⟩))) 9, asg 9 19 24])
 (.ret))
 (.skip)))
 (.seq
 (.ops false [mv 20 3 39, asg 11 20 39])
 (.seq
 (.seq
 (.ops false [o1 12 (.assign (.const (.int .i64 (0)))) 3])
 (.block 0
 (.loop (List.range' 4 4 ++ [10] ++ List.range' 13 30)
 (.seq
 (.seq
 (.ops false [mv 21 12 3, mv 22 2 3, o1 23 (.binOp .lss 3 (t' 21) (t' 22) 3) 4])
 (.cond (t' 23)
 (.skip)
 (.exit 0)))
 (.seq
 (.block 1
 (.ops false [mv 26 11 39, o1 27 (.binOp .quo 39 (t' 26) (.const (.int .u64 (256))) 39) 39, asg 11 27 39]))
 (.ops false [mv 24 12 3, o1 25 (.binOp .add 3 (t' 24) (.const (.int .i64 (1))) 3) 3, asg 12 25 3]))))))
 (.seq
 (.seq
 (.ops false [mv 28 11 39, o1 29 (.binOp .gtr 39 (t' 28) (.const (.int .u64 (0))) 39) 4])
 (.cond (t' 29)
 (.seq
 (.ops false [o1 8 (.assign (.const (.string ⟨⟨[]⟩⟩))) 9, o1 9 (.assign (.const (.int .i64 (2)))) 24])
 (.ret))
 (.skip)))
 (.seq
 (.ops true [mv 30 0 9, mv 31 1 3, o1 32 (.slice 9 (t' 30) none (some (t' 31)) none) 9, mv 33 3 39, mv 34 2 3, o1 35 (.call ⟨(.value (.func 36)), #[(t' 33), (t' 34)], #[39, 3]⟩) 9, o1 36 (.binOp .add 9 (t' 32) (t' 35) 9) 9, mv 37 0 9, mv 38 1 3, mv 39 2 3, o1 40 (.binOp .add 3 (t' 38) (t' 39) 3) 3, o1 41 (.slice 9 (t' 37) (some (t' 40)) none none) 9, o1 42 (.binOp .add 9 (t' 36) (t' 41) 9) 9, asg 8 42 9, o1 9 (.assign (.const (.int .i64 (0)))) 24])
 (.ret))))))))⟩
theorem fa28_eq : fnA qcfg.P (qcfg.rxf 28) 28 = some fa28 := by kernel_rfl
def T28_0 (x0 : List UInt8) (x1 : Int) (x2 : Int) (x3 : Int) (x11 : Int) (x12 : Int) : S := ⟨[V.str x0, V.int .i64 x1, V.int .i64 x2, V.int .u64 x3] ++ (JU 4) ++ [V.str [], V.int .i64 0, V.junk, V.int .u64 x11, V.int .i64 x12] ++ (JU 30), []⟩
noncomputable def e28 (a0 : List UInt8) (a1 : Int) (a2 : Int) (a3 : Int) : R :=
  pcK qcfg 34 [V.str a0, V.int .i64 a1, V.int .i64 a2] fun r =>
  kI .i64 r fun r34 =>
  cond (r34 != (0 : Int))
 (some (.done (V.tup [V.str [], V.int .i64 r34])))
 (some (.head 0 (T28_0 a0 a1 a2 a3 a3 0)))
theorem e28_eq (a0 : List UInt8) (a1 : Int) (a2 : Int) (a3 : Int) : enterK qk false fa28 [V.str a0, V.int .i64 a1, V.int .i64 a2, V.int .u64 a3] [] = e28 a0 a1 a2 a3 := by kernel_rfl
theorem e28_run (a0 : List UInt8) (a1 : Int) (a2 : Int) (a3 : Int) {o : Out} {v : V} (h : e28 a0 a1 a2 a3 = some o) (hg : Go qk false 0 fa28 o (.done v)) : pcW qcfg 28 [V.str a0, V.int .i64 a1, V.int .i64 a2, V.int .u64 a3] = some v := pcW_go qik rfl fa28_eq ((e28_eq a0 a1 a2 a3).trans h) hg
noncomputable def s28_0 (x0 : List UInt8) (x1 : Int) (x2 : Int) (x3 : Int) (x11 : Int) (x12 : Int) : R :=
  cond (decide (x12 < x2))
 (some (.head 0 (T28_0 x0 x1 x2 x3 (W .u64 ((x11.tdiv 256))) (W .i64 (x12 + 1)))))
 (cond (decide (x11 > 0))
 (some (.done (V.tup [V.str [], V.int .i64 2])))
 (gd (decide (0 ≤ x1)) <|
  gd (decide (x1.toNat ≤ x0.length)) <|
  pcK qcfg 36 [V.int .u64 x3, V.int .i64 x2] fun r =>
  kS r fun r36 =>
  gd (decide ((x0.take x1.toNat).length + r36.length ≤ 4611686018427387904)) <|
  gd (decide (0 ≤ W .i64 (x1 + x2))) <|
  gd (decide ((W .i64 (x1 + x2)).toNat ≤ x0.length)) <|
  gd (decide (((x0.take x1.toNat) ++ r36).length + ((x0.take x0.length).drop ((W .i64 (x1 + x2)).toNat)).length ≤ 4611686018427387904)) <|
  some (.done (V.tup [V.str (((x0.take x1.toNat) ++ r36) ++ ((x0.take x0.length).drop ((W .i64 (x1 + x2)).toNat))), V.int .i64 0]))))
theorem s28_0_eq (x0 : List UInt8) (x1 : Int) (x2 : Int) (x3 : Int) (x11 : Int) (x12 : Int) : goK qk false 0 fa28 0 (T28_0 x0 x1 x2 x3 x11 x12) = s28_0 x0 x1 x2 x3 x11 x12 := by kernel_rfl
theorem s28_0_run (x0 : List UInt8) (x1 : Int) (x2 : Int) (x3 : Int) (x11 : Int) (x12 : Int) {o o' : Out} (h : s28_0 x0 x1 x2 x3 x11 x12 = some o) (hg : Go qk false 0 fa28 o o') : Go qk false 0 fa28 (.head 0 (T28_0 x0 x1 x2 x3 x11 x12)) o' := .step ((s28_0_eq x0 x1 x2 x3 x11 x12).trans h) hg
noncomputable def fa18 : FA := ⟨2, 23, [.tmp 4, .tmp 5], [9, 24],
 (.seq
 (.ops false [o1 4 (.assign (.const (.string ⟨⟨[]⟩⟩))) 9, o1 5 (.assign (.const (.int .i64 (0)))) 24])
 (.seq
 (.seq
 (.ops false [mv 6 1 3, o1 7 (.binOp .lss 3 (t' 6) (.const (.int .i64 (0))) 3) 4, mv 8 7 4, o2 9 (.move (t' 1)) 3 8 false, o2 10 (.binOp .gtr 3 (t' 9) (.const (.int .i64 (65536))) 3) 4 8 false, o1 11 (.pick (t' 8) (.const (.bool true)) (t' 10)) 4])
 (.cond (t' 11)
 (.seq
 (.ops false [o1 4 (.assign (.const (.string ⟨⟨[]⟩⟩))) 9, o1 5 (.assign (.const (.int .i64 (1)))) 24])
 (.ret))
 (.skip)))
 (.seq
 (.seq
 (.ops false [mv 12 0 9, o1 13 (.call ⟨(.builtin .len), #[(t' 12)], #[9]⟩) 3, mv 14 1 3, o1 15 (.binOp .gtr 3 (t' 13) (t' 14) 3) 4])
 (.cond (t' 15)
 (.seq
 (.ops false [o1 4 (.assign (.const (.string ⟨⟨[]⟩⟩))) 9, o1 5 (.assign (.const (.int .i64 (2)))) 24])
 (.ret))
 (.skip)))
 (.seq
 (.ops false [mv 16 0 9, mv 17 1 3, mv 18 0 9, o1 19 (.call ⟨(.builtin .len), #[(t' 18)], #[9]⟩) 3, o1 20 (.binOp .sub 3 (t' 17) (t' 19) 3) 3, o1 21 (.call ⟨(.value (.func 36)), #[(.const (.int .u64 (0))), (t' 20)], #[39, 3]⟩) 9, o1 22 (.binOp .add 9 (t' 16) (t' 21) 9) 9, asg 4 22 9, o1 5 (.assign (.const (.int .i64 (0)))) 24])
 (.ret)))))⟩
theorem fa18_eq : fnA qcfg.P (qcfg.rxf 18) 18 = some fa18 := by kernel_rfl
noncomputable def e18 (a0 : List UInt8) (a1 : Int) : R :=
  cond (decide (a1 < 0))
 (some (.done (V.tup [V.str [], V.int .i64 1])))
 (cond (decide (a1 > 65536))
 (some (.done (V.tup [V.str [], V.int .i64 1])))
 (cond (decide ((a0.length : Int) > a1))
 (some (.done (V.tup [V.str [], V.int .i64 2])))
 (pcK qcfg 36 [V.int .u64 0, V.int .i64 (W .i64 (a1 - (a0.length : Int)))] fun r =>
  kS r fun r36 =>
  gd (decide (a0.length + r36.length ≤ 4611686018427387904)) <|
  some (.done (V.tup [V.str (a0 ++ r36), V.int .i64 0])))))
theorem e18_eq (a0 : List UInt8) (a1 : Int) : enterK qk false fa18 [V.str a0, V.int .i64 a1] [] = e18 a0 a1 := by kernel_rfl
theorem e18_run (a0 : List UInt8) (a1 : Int) {o : Out} {v : V} (h : e18 a0 a1 = some o) (hg : Go qk false 0 fa18 o (.done v)) : pcW qcfg 18 [V.str a0, V.int .i64 a1] = some v := pcW_go qik rfl fa18_eq ((e18_eq a0 a1).trans h) hg
theorem e18_done (a0 : List UInt8) (a1 : Int) {v : V} (h : e18 a0 a1 = some (.done v)) : pcW qcfg 18 [V.str a0, V.int .i64 a1] = some v := e18_run a0 a1 h (.refl _)
noncomputable def fa35 : FA := ⟨2, 26, [.tmp 4], [4],
 (.seq
 (.ops false [o1 4 (.assign (.const (.bool false))) 4])
 (.seq
 (.seq
 (.ops false [mv 6 0 45, o1 7 (.call ⟨(.builtin .len), #[(t' 6)], #[45]⟩) 3, mv 8 1 45, o1 9 (.call ⟨(.builtin .len), #[(t' 8)], #[45]⟩) 3, o1 10 (.binOp .neq 3 (t' 7) (t' 9) 3) 4])
 (.cond (t' 10)
 (.seq
 (.ops false [o1 4 (.assign (.const (.bool false))) 4])
 (.ret))
 (.skip)))
 (.seq
 (.seq
 (.ops false [o1 5 (.assign (.const (.int .i64 (0)))) 3])
 (.block 0
 (.loop ([2, 3] ++ List.range' 6 20)
 (.seq
 (.seq
 (.ops false [mv 11 5 3, mv 12 0 45, o1 13 (.call ⟨(.builtin .len), #[(t' 12)], #[45]⟩) 3, o1 14 (.binOp .lss 3 (t' 11) (t' 13) 3) 4])
 (.cond (t' 14)
 (.skip)
 (.exit 0)))
 (.seq
 (.block 1
 (.seq
 (.ops true [mv 17 0 45, mv 18 5 3, o1 19 (.indexAddr 45 (t' 17) (t' 18)) 0, o1 20 (.load 3 (t' 19)) 3, mv 21 1 45, mv 22 5 3, o1 23 (.indexAddr 45 (t' 21) (t' 22)) 0, o1 24 (.load 3 (t' 23)) 3, o1 25 (.binOp .neq 3 (t' 20) (t' 24) 3) 4])
 (.cond (t' 25)
 (.seq
 (.ops false [o1 4 (.assign (.const (.bool false))) 4])
 (.ret))
 (.skip))))
 (.ops false [mv 15 5 3, o1 16 (.binOp .add 3 (t' 15) (.const (.int .i64 (1))) 3) 3, asg 5 16 3]))))))
 (.seq
 (.ops false [o1 4 (.assign (.const (.bool true))) 4])
 (.ret)))))⟩
theorem fa35_eq : fnA qcfg.P (qcfg.rxf 35) 35 = some fa35 := by kernel_rfl
def T35_0 (x0 : List V) (x1 : List V) (x5 : Int) : S := ⟨[V.sl x0, V.sl x1, V.junk, V.junk, V.bool false, V.int .i64 x5] ++ (JU 20), []⟩
noncomputable def e35 (a0 : List V) (a1 : List V) : R :=
  cond ((a0.length : Int) != (a1.length : Int))
 (some (.done (V.bool false)))
 (some (.head 0 (T35_0 a0 a1 0)))
theorem e35_eq (a0 : List V) (a1 : List V) : enterK qk false fa35 [V.sl a0, V.sl a1] [] = e35 a0 a1 := by kernel_rfl
theorem e35_run (a0 : List V) (a1 : List V) {o : Out} {v : V} (h : e35 a0 a1 = some o) (hg : Go qk false 0 fa35 o (.done v)) : pcW qcfg 35 [V.sl a0, V.sl a1] = some v := pcW_go qik rfl fa35_eq ((e35_eq a0 a1).trans h) hg
noncomputable def s35_0 (x0 : List V) (x1 : List V) (x5 : Int) : R :=
  cond (decide (x5 < (x0.length : Int)))
 (gd (decide (0 ≤ x5)) <|
  idxK x0 x5.toNat fun v =>
  kI .i64 v fun n =>
  gd (decide (0 ≤ x5)) <|
  idxK x1 x5.toNat fun v_1 =>
  kI .i64 v_1 fun n_1 =>
  cond (n != n_1)
 (some (.done (V.bool false)))
 (some (.head 0 (T35_0 x0 x1 (W .i64 (x5 + 1))))))
 (some (.done (V.bool true)))
theorem s35_0_eq (x0 : List V) (x1 : List V) (x5 : Int) : goK qk false 0 fa35 0 (T35_0 x0 x1 x5) = s35_0 x0 x1 x5 := by kernel_rfl
theorem s35_0_run (x0 : List V) (x1 : List V) (x5 : Int) {o o' : Out} (h : s35_0 x0 x1 x5 = some o) (hg : Go qk false 0 fa35 o o') : Go qk false 0 fa35 (.head 0 (T35_0 x0 x1 x5)) o' := .step ((s35_0_eq x0 x1 x5).trans h) hg
noncomputable def fa53 : FA := ⟨1, 28, [.tmp 2, .tmp 3], [9, 24],
 (.seq
 (.ops false [o1 2 (.assign (.const (.string ⟨⟨[]⟩⟩))) 9, o1 3 (.assign (.const (.int .i64 (0)))) 24])
 (.seq
 (.seq
 (.ops false [mv 8 0 9, o1 9 (.call ⟨(.builtin .len), #[(t' 8)], #[9]⟩) 3, o1 10 (.binOp .gtr 3 (t' 9) (.const (.int .i64 (252))) 3) 4])
 (.cond (t' 10)
 (.seq
 (.ops false [o1 2 (.assign (.const (.string ⟨⟨[]⟩⟩))) 9, o1 3 (.assign (.const (.int .i64 (2)))) 24])
 (.ret))
 (.skip)))
 (.seq
 (.ops false [mv 12 0 9, o1 13 (.call ⟨(.value (.func 61)), #[(t' 12), (.const (.int .i64 (252)))], #[9, 3]⟩) 32, mv 11 13 32, o1 14 (.extract (t' 11) 0) 9, o1 15 (.extract (t' 11) 1) 24, asg 4 14 9, asg 5 15 24])
 (.seq
 (.ops false [mv 17 4 9, o1 18 (.call ⟨(.value (.func 61)), #[(t' 17), (.const (.int .i64 (256)))], #[9, 3]⟩) 32, mv 16 18 32, o1 19 (.extract (t' 16) 0) 9, o1 20 (.extract (t' 16) 1) 24, asg 6 19 9, asg 7 20 24])
 (.seq
 (.ops false [mv 21 6 9, mv 22 4 9, o1 23 (.call ⟨(.value (.func 47)), #[(t' 22)], #[9]⟩) 82, o1 24 (.convert 82 39 (t' 23)) 39, o1 25 (.call ⟨(.value (.func 62)), #[(t' 21), (.const (.int .i64 (252))), (.const (.int .i64 (4))), (t' 24)], #[9, 3, 3, 39]⟩) 32, o1 26 (.extract (t' 25) 0) 9, o1 27 (.extract (t' 25) 1) 24, asg 2 26 9, asg 3 27 24])
 (.ret))))))⟩
theorem fa53_eq : fnA qcfg.P (qcfg.rxf 53) 53 = some fa53 := by kernel_rfl
noncomputable def e53 (a0 : List UInt8) : R :=
  cond (decide ((a0.length : Int) > 252))
 (some (.done (V.tup [V.str [], V.int .i64 2])))
 (pcK qcfg 61 [V.str a0, V.int .i64 252] fun r =>
  d32 r fun r61_0 r61_1 =>
  pcK qcfg 61 [V.str r61_0, V.int .i64 256] fun r_1 =>
  d32 r_1 fun r61_0_1 r61_1_1 =>
  pcK qcfg 47 [V.str r61_0] fun r_2 =>
  kI .u32 r_2 fun r47 =>
  pcK qcfg 62 [V.str r61_0_1, V.int .i64 252, V.int .i64 4, V.int .u64 (W .u64 (r47))] fun r_3 =>
  d32 r_3 fun r62_0 r62_1 =>
  some (.done (V.tup [V.str r62_0, V.int .i64 r62_1])))
theorem e53_eq (a0 : List UInt8) : enterK qk false fa53 [V.str a0] [] = e53 a0 := by kernel_rfl
theorem e53_run (a0 : List UInt8) {o : Out} {v : V} (h : e53 a0 = some o) (hg : Go qk false 0 fa53 o (.done v)) : pcW qcfg 53 [V.str a0] = some v := pcW_go qik rfl fa53_eq ((e53_eq a0).trans h) hg
theorem e53_done (a0 : List UInt8) {v : V} (h : e53 a0 = some (.done v)) : pcW qcfg 53 [V.str a0] = some v := e53_run a0 h (.refl _)
noncomputable def fa32 : FA := ⟨1, 22, [.tmp 2, .tmp 3], [9, 24],
 (.seq
 (.ops false [o1 2 (.assign (.const (.string ⟨⟨[]⟩⟩))) 9, o1 3 (.assign (.const (.int .i64 (0)))) 24])
 (.seq
 (.seq
 (.ops false [mv 6 0 9, o1 7 (.call ⟨(.builtin .len), #[(t' 6)], #[9]⟩) 3, o1 8 (.binOp .neq 3 (t' 7) (.const (.int .i64 (256))) 3) 4])
 (.cond (t' 8)
 (.seq
 (.ops false [o1 2 (.assign (.const (.string ⟨⟨[]⟩⟩))) 9, o1 3 (.assign (.const (.int .i64 (4)))) 24])
 (.ret))
 (.skip)))
 (.seq
 (.ops false [mv 10 0 9, o1 11 (.call ⟨(.value (.func 46)), #[(t' 10), (.const (.int .i64 (252))), (.const (.int .i64 (4)))], #[9, 3, 3]⟩) 40, mv 9 11 40, o1 12 (.extract (t' 9) 0) 39, o1 13 (.extract (t' 9) 1) 24, asg 4 12 39, asg 5 13 24])
 (.seq
 (.seq
 (.ops false [mv 14 4 39, o1 15 (.convert 39 82 (t' 14)) 82, mv 16 0 9, o1 17 (.slice 9 (t' 16) none (some (.const (.int .i64 (252)))) none) 9, o1 18 (.call ⟨(.value (.func 47)), #[(t' 17)], #[9]⟩) 82, o1 19 (.binOp .neq 82 (t' 15) (t' 18) 82) 4])
 (.cond (t' 19)
 (.seq
 (.ops false [o1 2 (.assign (.const (.string ⟨⟨[]⟩⟩))) 9, o1 3 (.assign (.const (.int .i64 (5)))) 24])
 (.ret))
 (.skip)))
 (.seq
 (.ops false [mv 20 0 9, o1 21 (.slice 9 (t' 20) none (some (.const (.int .i64 (252)))) none) 9, asg 2 21 9, o1 3 (.assign (.const (.int .i64 (0)))) 24])
 (.ret))))))⟩
theorem fa32_eq : fnA qcfg.P (qcfg.rxf 32) 32 = some fa32 := by kernel_rfl
noncomputable def e32 (a0 : List UInt8) : R :=
  cond ((a0.length : Int) != (256 : Int))
 (some (.done (V.tup [V.str [], V.int .i64 4])))
 (pcK qcfg 46 [V.str a0, V.int .i64 252, V.int .i64 4] fun r =>
  d40 r fun r46_0 r46_1 =>
  gd (decide (252 ≤ a0.length)) <|
  pcK qcfg 47 [V.str (a0.take 252)] fun r_1 =>
  kI .u32 r_1 fun r47 =>
  cond ((W .u32 (r46_0)) != r47)
 (some (.done (V.tup [V.str [], V.int .i64 5])))
 (gd (decide (252 ≤ a0.length)) <|
  some (.done (V.tup [V.str (a0.take 252), V.int .i64 0]))))
theorem e32_eq (a0 : List UInt8) : enterK qk false fa32 [V.str a0] [] = e32 a0 := by kernel_rfl
theorem e32_run (a0 : List UInt8) {o : Out} {v : V} (h : e32 a0 = some o) (hg : Go qk false 0 fa32 o (.done v)) : pcW qcfg 32 [V.str a0] = some v := pcW_go qik rfl fa32_eq ((e32_eq a0).trans h) hg
theorem e32_done (a0 : List UInt8) {v : V} (h : e32 a0 = some (.done v)) : pcW qcfg 32 [V.str a0] = some v := e32_run a0 h (.refl _)
noncomputable def fa57 : FA := ⟨0, 8, [.tmp 0], [9],
 (.seq
 (.ops false [o1 0 (.assign (.const (.string ⟨⟨[]⟩⟩))) 9])
 (.seq
 (.ops false [o1 4 (.call ⟨(.value (.func 53)), #[(.const (.string ⟨⟨[]⟩⟩))], #[9]⟩) 32, mv 3 4 32, o1 5 (.extract (t' 3) 0) 9, o1 6 (.extract (t' 3) 1) 24, asg 1 5 9, asg 2 6 24])
 (.seq
 (.ops false [mv 7 1 9, asg 0 7 9])
 (.ret))))⟩
theorem fa57_eq : fnA qcfg.P (qcfg.rxf 57) 57 = some fa57 := by kernel_rfl
noncomputable def e57  : R :=
  pcK qcfg 53 [V.str []] fun r =>
  d32 r fun r53_0 r53_1 =>
  some (.done (V.str r53_0))
theorem e57_eq  : enterK qk false fa57 [] [] = e57  := by kernel_rfl
theorem e57_run  {o : Out} {v : V} (h : e57  = some o) (hg : Go qk false 0 fa57 o (.done v)) : pcW qcfg 57 [] = some v := pcW_go qik rfl fa57_eq ((e57_eq ).trans h) hg
theorem e57_done  {v : V} (h : e57  = some (.done v)) : pcW qcfg 57 [] = some v := e57_run  h (.refl _)
noncomputable def fa12 : FA := ⟨1, 12, [.tmp 2], [9],
 (.seq
 (.ops false [o1 2 (.assign (.const (.string ⟨⟨[]⟩⟩))) 9])
 (.seq
 (.ops false [mv 6 0 3, o1 7 (.convert 3 39 (t' 6)) 39, o1 8 (.call ⟨(.value (.func 28)), #[(.const (.string ⟨⟨[32, 32, 32, 32, 32, 32, 32, 32]⟩⟩)), (.const (.int .i64 (0))), (.const (.int .i64 (8))), (t' 7)], #[9, 3, 3, 39]⟩) 32, mv 5 8 32, o1 9 (.extract (t' 5) 0) 9, o1 10 (.extract (t' 5) 1) 24, asg 3 9 9, asg 4 10 24])
 (.seq
 (.ops false [mv 11 3 9, asg 2 11 9])
 (.ret))))⟩
theorem fa12_eq : fnA qcfg.P (qcfg.rxf 12) 12 = some fa12 := by kernel_rfl
noncomputable def e12 (a0 : Int) : R :=
  pcK qcfg 28 [V.str [32, 32, 32, 32, 32, 32, 32, 32], V.int .i64 0, V.int .i64 8, V.int .u64 (W .u64 (a0))] fun r =>
  d32 r fun r28_0 r28_1 =>
  some (.done (V.str r28_0))
theorem e12_eq (a0 : Int) : enterK qk false fa12 [V.int .i64 a0] [] = e12 a0 := by kernel_rfl
theorem e12_run (a0 : Int) {o : Out} {v : V} (h : e12 a0 = some o) (hg : Go qk false 0 fa12 o (.done v)) : pcW qcfg 12 [V.int .i64 a0] = some v := pcW_go qik rfl fa12_eq ((e12_eq a0).trans h) hg
theorem e12_done (a0 : Int) {v : V} (h : e12 a0 = some (.done v)) : pcW qcfg 12 [V.int .i64 a0] = some v := e12_run a0 h (.refl _)
noncomputable def fa23 : FA := ⟨1, 16, [.tmp 2], [4],
 (.seq
 (.ops false [o1 2 (.assign (.const (.bool false))) 4])
 (.seq
 (.seq
 (.ops false [o1 3 (.assign (.const (.int .i64 (0)))) 3])
 (.block 0
 (.loop ([1] ++ List.range' 4 12)
 (.seq
 (.seq
 (.ops false [mv 4 3 3, mv 5 0 22, o1 6 (.call ⟨(.builtin .len), #[(t' 5)], #[22]⟩) 3, o1 7 (.binOp .lss 3 (t' 4) (t' 6) 3) 4])
 (.cond (t' 7)
 (.skip)
 (.exit 0)))
 (.seq
 (.block 1
 (.seq
 (.ops false [mv 10 0 22, mv 11 3 3, o1 12 (.indexAddr 22 (t' 10) (t' 11)) 0, o1 13 (.fieldAddr 31 (t' 12) 3) 0, o1 14 (.load 3 (t' 13)) 3, o1 15 (.binOp .gtr 3 (t' 14) (.const (.int .i64 (4611686018427387904))) 3) 4])
 (.cond (t' 15)
 (.seq
 (.ops false [o1 2 (.assign (.const (.bool true))) 4])
 (.ret))
 (.skip))))
 (.ops false [mv 8 3 3, o1 9 (.binOp .add 3 (t' 8) (.const (.int .i64 (1))) 3) 3, asg 3 9 3]))))))
 (.seq
 (.ops false [o1 2 (.assign (.const (.bool false))) 4])
 (.ret))))⟩
theorem fa23_eq : fnA qcfg.P (qcfg.rxf 23) 23 = some fa23 := by kernel_rfl
def T23_0 (x0 : List V) (x3 : Int) : S := ⟨[V.sl x0, V.junk, V.bool false, V.int .i64 x3] ++ (JU 12), []⟩
noncomputable def e23 (a0 : List V) : R :=
  some (.head 0 (T23_0 a0 0))
theorem e23_eq (a0 : List V) : enterK qk false fa23 [V.sl a0] [] = e23 a0 := by kernel_rfl
theorem e23_run (a0 : List V) {o : Out} {v : V} (h : e23 a0 = some o) (hg : Go qk false 0 fa23 o (.done v)) : pcW qcfg 23 [V.sl a0] = some v := pcW_go qik rfl fa23_eq ((e23_eq a0).trans h) hg
noncomputable def s23_0 (x0 : List V) (x3 : Int) : R :=
  cond (decide (x3 < (x0.length : Int)))
 (gd (decide (0 ≤ x3)) <|
  idxK x0 x3.toNat fun v =>
  d31 v fun kind0 page s n =>
  cond (decide (n > 4611686018427387904))
 (some (.done (V.bool true)))
 (some (.head 0 (T23_0 x0 (W .i64 (x3 + 1))))))
 (some (.done (V.bool false)))
theorem s23_0_eq (x0 : List V) (x3 : Int) : goK qk false 0 fa23 0 (T23_0 x0 x3) = s23_0 x0 x3 := by kernel_rfl
theorem s23_0_run (x0 : List V) (x3 : Int) {o o' : Out} (h : s23_0 x0 x3 = some o) (hg : Go qk false 0 fa23 o o') : Go qk false 0 fa23 (.head 0 (T23_0 x0 x3)) o' := .step ((s23_0_eq x0 x3).trans h) hg
noncomputable def fa17 : FA := ⟨0, 201, [.tmp 0], [4],
 (.seq
 (.ops false [o1 0 (.assign (.const (.bool false))) 4])
 (.seq
 (.ops false [o1 31 (.call ⟨(.value (.func 7)), #[(.const (.int .i64 (4)))], #[3]⟩) 25, mv 30 31 25, o1 32 (.extract (t' 30) 0) 23, o1 33 (.extract (t' 30) 1) 24, asg 1 32 23, asg 2 33 24])
 (.seq
 (.seq
 (.ops false [mv 34 1 23, o1 35 (.binOp .eql 23 (t' 34) (.const (.pointer none)) 23) 4, mv 36 35 4, o2 37 (.move (t' 2)) 24 36 false, o2 38 (.binOp .neq 24 (t' 37) (.const (.int .i64 (0))) 24) 4 36 false, o1 39 (.pick (t' 36) (.const (.bool true)) (t' 38)) 4])
 (.cond (t' 39)
 (.seq
 (.ops false [o1 0 (.assign (.const (.bool false))) 4])
 (.ret))
 (.skip)))
 (.seq
 (.ops false [mv 41 1 23, o1 42 (.call ⟨(.value (.func 8)), #[(t' 41), (.const (.int .i64 (1)))], #[23, 3]⟩) 28, mv 40 42 28, o1 43 (.extract (t' 40) 0) 27, o1 44 (.extract (t' 40) 1) 24, asg 3 43 27, asg 4 44 24])
 (.seq
 (.ops false [mv 46 1 23, o1 47 (.call ⟨(.value (.func 8)), #[(t' 46), (.const (.int .i64 (0)))], #[23, 3]⟩) 28, mv 45 47 28, o1 48 (.extract (t' 45) 0) 27, o1 49 (.extract (t' 45) 1) 24, asg 5 48 27, asg 6 49 24])
 (.seq
 (.ops false [mv 51 1 23, o1 52 (.call ⟨(.value (.func 8)), #[(t' 51), (.const (.int .i64 (65)))], #[23, 3]⟩) 28, mv 50 52 28, o1 53 (.extract (t' 50) 0) 27, o1 54 (.extract (t' 50) 1) 24, asg 7 53 27, asg 8 54 24])
 (.seq
 (.seq
 (.ops false [mv 55 3 27, o1 56 (.binOp .eql 27 (t' 55) (.const (.pointer none)) 27) 4, mv 57 56 4, o2 58 (.move (t' 4)) 24 57 false, o2 59 (.binOp .neq 24 (t' 58) (.const (.int .i64 (0))) 24) 4 57 false, o1 60 (.pick (t' 57) (.const (.bool true)) (t' 59)) 4])
 (.cond (t' 60)
 (.seq
 (.ops false [o1 0 (.assign (.const (.bool false))) 4])
 (.ret))
 (.skip)))
 (.seq
 (.ops false [mv 62 3 27, o1 63 (.call ⟨(.value (.func 9)), #[(t' 62), (.const (.int .i64 (4)))], #[27, 3]⟩) 32, mv 61 63 32, o1 64 (.extract (t' 61) 0) 9, o1 65 (.extract (t' 61) 1) 24, asg 9 64 9, asg 10 65 24])
 (.seq
 (.ops false [mv 67 3 27, o1 68 (.call ⟨(.value (.func 9)), #[(t' 67), (.const (.int .i64 (0)))], #[27, 3]⟩) 32, mv 66 68 32, o1 69 (.extract (t' 66) 0) 9, o1 70 (.extract (t' 66) 1) 24, asg 11 69 9, asg 12 70 24])
 (.seq
 (.ops false [mv 71 3 27, o1 72 (.call ⟨(.value (.func 11)), #[(t' 71), (.const (.int .i64 (0))), (.const (.string ⟨⟨[97]⟩⟩)), (.const (.int .i64 (5)))], #[27, 3, 9, 3]⟩) 24, mv 73 3 27, o1 74 (.call ⟨(.value (.func 11)), #[(t' 73), (.const (.int .i64 (0))), (.const (.string ⟨⟨[98]⟩⟩)), (.const (.int .i64 (4)))], #[27, 3, 9, 3]⟩) 24, mv 75 3 27, o1 76 (.call ⟨(.value (.func 11)), #[(t' 75), (.const (.int .i64 (1))), (.const (.string ⟨⟨[99]⟩⟩)), (.const (.int .i64 (5)))], #[27, 3, 9, 3]⟩) 24, asg 13 72 24, asg 14 74 24, asg 15 76 24])
 (.seq
 (.ops false [mv 78 3 27, o1 79 (.call ⟨(.value (.func 9)), #[(t' 78), (.const (.int .i64 (1)))], #[27, 3]⟩) 32, mv 77 79 32, o1 80 (.extract (t' 77) 0) 9, o1 81 (.extract (t' 77) 1) 24, asg 16 80 9, asg 17 81 24])
 (.seq
 (.ops false [mv 82 3 27, o1 83 (.call ⟨(.value (.func 10)), #[(t' 82), (.const (.int .i64 (0)))], #[27, 3]⟩) 24, mv 84 3 27, o1 85 (.call ⟨(.value (.func 10)), #[(t' 84), (.const (.int .i64 (0)))], #[27, 3]⟩) 24, asg 18 83 24, asg 19 85 24])
 (.seq
 (.ops false [mv 87 3 27, o1 88 (.call ⟨(.value (.func 9)), #[(t' 87), (.const (.int .i64 (1)))], #[27, 3]⟩) 32, mv 86 88 32, o1 89 (.extract (t' 86) 0) 9, o1 90 (.extract (t' 86) 1) 24, asg 20 89 9, asg 21 90 24])
 (.seq
 (.ops false [mv 92 3 27, o1 93 (.call ⟨(.value (.func 22)), #[(t' 92)], #[27]⟩) 49, mv 91 93 49, o1 94 (.extract (t' 91) 0) 3, o1 95 (.extract (t' 91) 1) 4, asg 22 94 3, asg 23 95 4])
 (.seq
 (.ops false [mv 96 3 27, o1 97 (.call ⟨(.value (.func 13)), #[(t' 96), (.const (.int .i64 (5)))], #[27, 3]⟩) 0])
 (.seq
 (.ops false [mv 99 3 27, o1 100 (.call ⟨(.value (.func 9)), #[(t' 99), (.const (.int .i64 (1)))], #[27, 3]⟩) 32, mv 98 100 32, o1 101 (.extract (t' 98) 0) 9, o1 102 (.extract (t' 98) 1) 24, asg 24 101 9, asg 25 102 24])
 (.seq
 (.ops false [mv 104 1 23, o1 105 (.call ⟨(.value (.func 15)), #[(t' 104), (.const (.int .i64 (0)))], #[23, 3]⟩) 32, mv 103 105 32, o1 106 (.extract (t' 103) 0) 9, o1 107 (.extract (t' 103) 1) 24, asg 26 106 9, asg 27 107 24])
 (.seq
 (.ops false [o1 109 (.call ⟨(.value (.func 18)), #[(.const (.string ⟨⟨[97]⟩⟩)), (.const (.int .i64 (252)))], #[9, 3]⟩) 32, mv 108 109 32, o1 110 (.extract (t' 108) 0) 9, o1 111 (.extract (t' 108) 1) 24, asg 28 110 9, asg 29 111 24])
 (.seq
 (.ops false [mv 112 6 24, o1 113 (.binOp .eql 24 (t' 112) (.const (.int .i64 (1))) 24) 4, mv 114 113 4, o2 115 (.move (t' 8)) 24 114 true, o2 116 (.binOp .eql 24 (t' 115) (.const (.int .i64 (1))) 24) 4 114 true, o1 117 (.pick (t' 114) (t' 116) (.const (.bool false))) 4, mv 118 117 4, o2 119 (.move (t' 10)) 24 118 true, o2 120 (.binOp .eql 24 (t' 119) (.const (.int .i64 (1))) 24) 4 118 true, o1 121 (.pick (t' 118) (t' 120) (.const (.bool false))) 4, mv 122 121 4, o2 123 (.move (t' 12)) 24 122 true, o2 124 (.binOp .eql 24 (t' 123) (.const (.int .i64 (0))) 24) 4 122 true, o1 125 (.pick (t' 122) (t' 124) (.const (.bool false))) 4, mv 126 125 4, o2 127 (.move (t' 13)) 24 126 true, o2 128 (.binOp .eql 24 (t' 127) (.const (.int .i64 (0))) 24) 4 126 true, o1 129 (.pick (t' 126) (t' 128) (.const (.bool false))) 4, mv 130 129 4, o2 131 (.move (t' 14)) 24 130 true, o2 132 (.binOp .eql 24 (t' 131) (.const (.int .i64 (1))) 24) 4 130 true, o1 133 (.pick (t' 130) (t' 132) (.const (.bool false))) 4, mv 134 133 4, o2 135 (.move (t' 15)) 24 134 true, o2 136 (.binOp .eql 24 (t' 135) (.const (.int .i64 (7))) 24) 4 134 true, o1 137 (.pick (t' 134) (t' 136) (.const (.bool false))) 4, mv 138 137 4, o2 139 (.move (t' 17)) 24 138 true, o2 140 (.binOp .eql 24 (t' 139) (.const (.int .i64 (6))) 24) 4 138 true, o1 141 (.pick (t' 138) (t' 140) (.const (.bool false))) 4, mv 142 141 4, o2 143 (.move (t' 18)) 24 142 true, o2 144 (.binOp .eql 24 (t' 143) (.const (.int .i64 (0))) 24) 4 142 true, o1 145 (.pick (t' 142) (t' 144) (.const (.bool false))) 4, mv 146 145 4, o2 147 (.move (t' 19)) 24 146 true, o2 148 (.binOp .eql 24 (t' 147) (.const (.int .i64 (9))) 24) 4 146 true, o1 149 (.pick (t' 146) (t' 148) (.const (.bool false))) 4, mv 150 149 4, o2 151 (.move (t' 21)) 24 150 true, o2 152 (.binOp .eql 24 (t' 151) (.const (.int .i64 (6))) 24) 4 150 true, o1 153 (.pick (t' 150) (t' 152) (.const (.bool false))) 4, mv 154 153 4, o2 155 (.move (t' 22)) 3 154 true, o2 156 (.binOp .eql 3 (t' 155) (.const (.int .i64 (5))) 3) 4 154 true, o1 157 (.pick (t' 154) (t' 156) (.const (.bool false))) 4, mv 158 157 4, o2 159 (.move (t' 23)) 4 158 true, o1 160 (.pick (t' 158) (t' 159) (.const (.bool false))) 4, mv 161 160 4, o2 162 (.move (t' 25)) 24 161 true, o2 163 (.binOp .eql 24 (t' 162) (.const (.int .i64 (0))) 24) 4 161 true, o1 164 (.pick (t' 161) (t' 163) (.const (.bool false))) 4, mv 165 164 4, o2 166 (.move (t' 26)) 9 165 true, o2 167 (.move (t' 28)) 9 165 true, o2 168 (.binOp .eql 9 (t' 166) (t' 167) 9) 4 165 true, o1 169 (.pick (t' 165) (t' 168) (.const (.bool false))) 4, mv 170 169 4, o2 171 (.move (t' 27)) 24 170 true, o2 172 (.binOp .eql 24 (t' 171) (.const (.int .i64 (0))) 24) 4 170 true, o1 173 (.pick (t' 170) (t' 172) (.const (.bool false))) 4, mv 174 173 4, o2 175 (.move (t' 3)) 27 174 true, o2 176 (.call ⟨(.value (.func 19)), #[(t' 175)], #[27]⟩) 45 174 true, o2 177 (.buildSlice 45 1 #[(0, (.const (.int .i64 (1))))]) 45 174 true, o2 178 (.call ⟨(.value (.func 35)), #[(t' 176), (t' 177)], #[45, 45]⟩) 4 174 true, o1 179 (.pick (t' 174) (t' 178) (.const (.bool false))) 4, mv 180 179 4, o2 181 (.move (t' 3)) 27 180 true, o2 182 (.call ⟨(.value (.func 21)), #[(t' 181)], #[27]⟩) 45 180 true, o2 183 (.call ⟨(.builtin .len), #[(t' 182)], #[45]⟩) 3 180 true, o2 184 (.binOp .eql 3 (t' 183) (.const (.int .i64 (0))) 3) 4 180 true, o1 185 (.pick (t' 180) (t' 184) (.const (.bool false))) 4, mv 186 185 4, o2 187 (.move (t' 3)) 27 186 true, o2 188 (.call ⟨(.value (.func 20)), #[(t' 187), (.const (.int .i64 (1)))], #[27, 3]⟩) 3 186 true, o2 189 (.binOp .eql 3 (t' 188) (.const (.int .i64 (1))) 3) 4 186 true, o1 190 (.pick (t' 186) (t' 189) (.const (.bool false))) 4, mv 191 190 4, o2 192 (.move (t' 3)) 27 191 true, o2 193 (.call ⟨(.value (.func 20)), #[(t' 192), (.const (.int .i64 (0)))], #[27, 3]⟩) 3 191 true, o2 194 (.binOp .eql 3 (t' 193) (.const (.int .i64 (0))) 3) 4 191 true, o1 195 (.pick (t' 191) (t' 194) (.const (.bool false))) 4, mv 196 195 4, o2 197 (.move (t' 3)) 27 196 true, o2 198 (.call ⟨(.value (.func 14)), #[(t' 197)], #[27]⟩) 3 196 true, o2 199 (.binOp .eql 3 (t' 198) (.const (.int .i64 (0))) 3) 4 196 true, o1 200 (.pick (t' 196) (t' 199) (.const (.bool false))) 4, asg 0 200 4])
 (.ret))))))))))))))))))))⟩
theorem fa17_eq : fnA qcfg.P (qcfg.rxf 17) 17 = some fa17 := by kernel_rfl
noncomputable def e17  : R :=
  icM qcfg ⟨false, false⟩ mk9 9 [V.ptr 2 0 0, V.int .i64 4] [O.arena 63 [], O.arena 7 [], O.box 59 (V.agg [V.ptr 3 0 0, V.int .i64 1, V.mp 4, V.tail 5 0, V.int .i64 0]) false, O.box 56 (V.agg [V.int .i64 4, V.mp 6, V.tail 7 0]) false, O.map [], O.row 3 [] 0, O.map [], O.row 88 [] 0] fun L =>
  icM qcfg ⟨false, false⟩ mk9 9 [V.ptr 2 0 0, V.int .i64 0] [O.arena 63 L.2.2.1, O.arena 7 L.2.2.2.1, O.box 59 (V.agg [V.ptr 3 0 0, V.int .i64 L.2.2.2.2.1, V.mp 4, V.tail 5 0, V.int .i64 L.2.2.2.2.2.1]) false, O.box 56 (V.agg [V.int .i64 L.2.2.2.2.2.2.1, V.mp 6, V.tail 7 0]) false, O.map L.2.2.2.2.2.2.2.1, O.row 3 L.2.2.2.2.2.2.2.2.2.1 0, O.map L.2.2.2.2.2.2.2.2.1, O.row 88 L.2.2.2.2.2.2.2.2.2.2.1 L.2.2.2.2.2.2.2.2.2.2.2] fun L_1 =>
  icM qcfg ⟨true, false⟩ mk11 11 [V.ptr 2 0 0, V.int .i64 0, V.str [97], V.int .i64 5] [O.arena 63 L_1.2.2.1, O.arena 7 L_1.2.2.2.1, O.box 59 (V.agg [V.ptr 3 0 0, V.int .i64 L_1.2.2.2.2.1, V.mp 4, V.tail 5 0, V.int .i64 L_1.2.2.2.2.2.1]) false, O.box 56 (V.agg [V.int .i64 L_1.2.2.2.2.2.2.1, V.mp 6, V.tail 7 0]) false, O.map L_1.2.2.2.2.2.2.2.1, O.row 3 L_1.2.2.2.2.2.2.2.2.2.1 0, O.map L_1.2.2.2.2.2.2.2.2.1, O.row 88 L_1.2.2.2.2.2.2.2.2.2.2.1 L_1.2.2.2.2.2.2.2.2.2.2.2] fun L_2 =>
  icM qcfg ⟨true, false⟩ mk11 11 [V.ptr 2 0 0, V.int .i64 0, V.str [98], V.int .i64 4] [O.arena 63 L_2.2.1, O.arena 7 L_2.2.2.1, O.box 59 (V.agg [V.ptr 3 0 0, V.int .i64 L_2.2.2.2.1, V.mp 4, V.tail 5 0, V.int .i64 L_2.2.2.2.2.1]) false, O.box 56 (V.agg [V.int .i64 L_2.2.2.2.2.2.1, V.mp 6, V.tail 7 0]) false, O.map L_2.2.2.2.2.2.2.1, O.row 3 L_2.2.2.2.2.2.2.2.1 0, O.map L_2.2.2.2.2.2.2.2.2.1, O.row 88 L_2.2.2.2.2.2.2.2.2.2.1 L_2.2.2.2.2.2.2.2.2.2.2] fun L_3 =>
  icM qcfg ⟨true, false⟩ mk11 11 [V.ptr 2 0 0, V.int .i64 1, V.str [99], V.int .i64 5] [O.arena 63 L_3.2.1, O.arena 7 L_3.2.2.1, O.box 59 (V.agg [V.ptr 3 0 0, V.int .i64 L_3.2.2.2.1, V.mp 4, V.tail 5 0, V.int .i64 L_3.2.2.2.2.1]) false, O.box 56 (V.agg [V.int .i64 L_3.2.2.2.2.2.1, V.mp 6, V.tail 7 0]) false, O.map L_3.2.2.2.2.2.2.1, O.row 3 L_3.2.2.2.2.2.2.2.1 0, O.map L_3.2.2.2.2.2.2.2.2.1, O.row 88 L_3.2.2.2.2.2.2.2.2.2.1 L_3.2.2.2.2.2.2.2.2.2.2] fun L_4 =>
  icM qcfg ⟨false, false⟩ mk9 9 [V.ptr 2 0 0, V.int .i64 1] [O.arena 63 L_4.2.1, O.arena 7 L_4.2.2.1, O.box 59 (V.agg [V.ptr 3 0 0, V.int .i64 L_4.2.2.2.1, V.mp 4, V.tail 5 0, V.int .i64 L_4.2.2.2.2.1]) false, O.box 56 (V.agg [V.int .i64 L_4.2.2.2.2.2.1, V.mp 6, V.tail 7 0]) false, O.map L_4.2.2.2.2.2.2.1, O.row 3 L_4.2.2.2.2.2.2.2.1 0, O.map L_4.2.2.2.2.2.2.2.2.1, O.row 88 L_4.2.2.2.2.2.2.2.2.2.1 L_4.2.2.2.2.2.2.2.2.2.2] fun L_5 =>
  icM qcfg ⟨true, false⟩ mk10 10 [V.ptr 2 0 0, V.int .i64 0] [O.arena 63 L_5.2.2.1, O.arena 7 L_5.2.2.2.1, O.box 59 (V.agg [V.ptr 3 0 0, V.int .i64 L_5.2.2.2.2.1, V.mp 4, V.tail 5 0, V.int .i64 L_5.2.2.2.2.2.1]) false, O.box 56 (V.agg [V.int .i64 L_5.2.2.2.2.2.2.1, V.mp 6, V.tail 7 0]) false, O.map L_5.2.2.2.2.2.2.2.1, O.row 3 L_5.2.2.2.2.2.2.2.2.2.1 0, O.map L_5.2.2.2.2.2.2.2.2.1, O.row 88 L_5.2.2.2.2.2.2.2.2.2.2.1 L_5.2.2.2.2.2.2.2.2.2.2.2] fun L_6 =>
  icM qcfg ⟨true, false⟩ mk10 10 [V.ptr 2 0 0, V.int .i64 0] [O.arena 63 L_6.2.1, O.arena 7 L_6.2.2.1, O.box 59 (V.agg [V.ptr 3 0 0, V.int .i64 L_6.2.2.2.1, V.mp 4, V.tail 5 0, V.int .i64 L_6.2.2.2.2.1]) false, O.box 56 (V.agg [V.int .i64 L_6.2.2.2.2.2.1, V.mp 6, V.tail 7 0]) false, O.map L_6.2.2.2.2.2.2.1, O.row 3 L_6.2.2.2.2.2.2.2.1 0, O.map L_6.2.2.2.2.2.2.2.2.1, O.row 88 L_6.2.2.2.2.2.2.2.2.2.1 L_6.2.2.2.2.2.2.2.2.2.2] fun L_7 =>
  icM qcfg ⟨false, false⟩ mk9 9 [V.ptr 2 0 0, V.int .i64 1] [O.arena 63 L_7.2.1, O.arena 7 L_7.2.2.1, O.box 59 (V.agg [V.ptr 3 0 0, V.int .i64 L_7.2.2.2.1, V.mp 4, V.tail 5 0, V.int .i64 L_7.2.2.2.2.1]) false, O.box 56 (V.agg [V.int .i64 L_7.2.2.2.2.2.1, V.mp 6, V.tail 7 0]) false, O.map L_7.2.2.2.2.2.2.1, O.row 3 L_7.2.2.2.2.2.2.2.1 0, O.map L_7.2.2.2.2.2.2.2.2.1, O.row 88 L_7.2.2.2.2.2.2.2.2.2.1 L_7.2.2.2.2.2.2.2.2.2.2] fun L_8 =>
  icM qcfg ⟨true, false⟩ mk22 22 [V.ptr 2 0 0] [O.arena 63 L_8.2.2.1, O.arena 7 L_8.2.2.2.1, O.box 59 (V.agg [V.ptr 3 0 0, V.int .i64 L_8.2.2.2.2.1, V.mp 4, V.tail 5 0, V.int .i64 L_8.2.2.2.2.2.1]) false, O.box 56 (V.agg [V.int .i64 L_8.2.2.2.2.2.2.1, V.mp 6, V.tail 7 0]) false, O.map L_8.2.2.2.2.2.2.2.1, O.row 3 L_8.2.2.2.2.2.2.2.2.2.1 0, O.map L_8.2.2.2.2.2.2.2.2.1, O.row 88 L_8.2.2.2.2.2.2.2.2.2.2.1 L_8.2.2.2.2.2.2.2.2.2.2.2] fun L_9 =>
  icM qcfg ⟨false, false⟩ mk9 9 [V.ptr 2 0 0, V.int .i64 1] [O.arena 63 L_9.2.2.1, O.arena 7 L_9.2.2.2.1, O.box 59 (V.agg [V.ptr 3 0 0, V.int .i64 L_9.2.2.2.2.1, V.mp 4, V.tail 5 0, V.int .i64 (if L_9.2.2.2.2.2.1 < 5 then 5 else L_9.2.2.2.2.2.1)]) false, O.box 56 (V.agg [V.int .i64 L_9.2.2.2.2.2.2.1, V.mp 6, V.tail 7 0]) false, O.map L_9.2.2.2.2.2.2.2.1, O.row 3 L_9.2.2.2.2.2.2.2.2.1 0, O.map L_9.2.2.2.2.2.2.2.2.2.1, O.row 88 L_9.2.2.2.2.2.2.2.2.2.2.1 L_9.2.2.2.2.2.2.2.2.2.2.2] fun L_10 =>
  icM qcfg ⟨true, false⟩ mk15 15 [V.ptr 2 0 0, V.int .i64 0] [O.arena 63 L_10.2.2.1, O.arena 7 L_10.2.2.2.1, O.box 56 (V.agg [V.int .i64 L_10.2.2.2.2.2.2.1, V.mp 3, V.tail 4 0]) false, O.map L_10.2.2.2.2.2.2.2.2.1, O.row 88 L_10.2.2.2.2.2.2.2.2.2.2.1 L_10.2.2.2.2.2.2.2.2.2.2.2] fun L_11 =>
  pcK qcfg 18 [V.str [97], V.int .i64 252] fun r =>
  d32 r fun r18_0 r18_1 =>
  cond (L.2.1 == (1 : Int))
 (cond (L_1.2.1 == (0 : Int))
 (cond (L_2.1 == (0 : Int))
 (cond (L_3.1 == (1 : Int))
 (cond (L_4.1 == (7 : Int))
 (cond (L_5.2.1 == (6 : Int))
 (cond (L_6.1 == (0 : Int))
 (cond (L_7.1 == (9 : Int))
 (cond (L_8.2.1 == (6 : Int))
 (cond (L_9.1 == (5 : Int))
 (cond L_9.2.1
 (cond (L_10.2.1 == (0 : Int))
 (cond (L_11.1 == r18_0)
 (cond (L_11.2.1 == (0 : Int))
 (icM qcfg ⟨true, false⟩ mk19 19 [V.ptr 2 0 0] [O.arena 63 L_11.2.2.1, O.arena 7 L_11.2.2.2.1, O.box 59 (V.agg [V.ptr 3 0 0, V.int .i64 L_10.2.2.2.2.1, V.mp 4, V.tail 5 0, V.int .i64 L_10.2.2.2.2.2.1]) false, O.box 56 (V.agg [V.int .i64 L_11.2.2.2.2.1, V.mp 6, V.tail 7 0]) false, O.map L_10.2.2.2.2.2.2.2.1, O.row 3 L_10.2.2.2.2.2.2.2.2.2.1 0, O.map L_11.2.2.2.2.2.1, O.row 88 L_11.2.2.2.2.2.2.1 L_11.2.2.2.2.2.2.2] fun L_12 =>
  pcK qcfg 35 [V.sl L_12.2.2.2.2.2.2.2.2.2.2, V.sl [V.int .i64 1]] fun r_1 =>
  kB r_1 fun r35 =>
  cond r35
 (icM qcfg ⟨true, true⟩ mk21 21 [V.ptr 2 0 0] [O.arena 63 L_12.1, O.arena 7 L_12.2.1, O.box 59 (V.agg [V.ptr 3 0 0, V.int .i64 L_12.2.2.1, V.mp 4, V.tail 5 0, V.int .i64 L_12.2.2.2.1]) false, O.box 56 (V.agg [V.int .i64 L_12.2.2.2.2.1, V.mp 6, V.tail 7 0]) false, O.map L_12.2.2.2.2.2.1, O.row 3 L_12.2.2.2.2.2.2.1 0, O.map L_12.2.2.2.2.2.2.2.1, O.row 88 L_12.2.2.2.2.2.2.2.2.1 L_12.2.2.2.2.2.2.2.2.2.1] fun L_13 =>
  gd (decide (0 + L_13.1 ≤ L_13.2.2.2.2.2.2.2.2.2.2.2.length)) <|
  cond (((((L_13.2.2.2.2.2.2.2.2.2.2.2).drop 0).take L_13.1).length : Int) == (0 : Int))
 (icM qcfg ⟨true, false⟩ mk20 20 [V.ptr 2 0 0, V.int .i64 1] [O.arena 63 L_13.2.1, O.arena 7 L_13.2.2.1, O.box 59 (V.agg [V.ptr 3 0 0, V.int .i64 L_13.2.2.2.1, V.mp 4, V.tail 5 0, V.int .i64 L_13.2.2.2.2.1]) false, O.box 56 (V.agg [V.int .i64 L_13.2.2.2.2.2.1, V.mp 6, V.tail 7 0]) false, O.map L_13.2.2.2.2.2.2.1, O.row 3 L_13.2.2.2.2.2.2.2.1 0, O.map L_13.2.2.2.2.2.2.2.2.1, O.row 88 L_13.2.2.2.2.2.2.2.2.2.1 L_13.2.2.2.2.2.2.2.2.2.2.1] fun L_14 =>
  cond (L_14.1 == (1 : Int))
 (icM qcfg ⟨true, false⟩ mk20 20 [V.ptr 2 0 0, V.int .i64 0] [O.arena 63 L_14.2.1, O.arena 7 L_14.2.2.1, O.box 59 (V.agg [V.ptr 3 0 0, V.int .i64 L_14.2.2.2.1, V.mp 4, V.tail 5 0, V.int .i64 L_14.2.2.2.2.1]) false, O.box 56 (V.agg [V.int .i64 L_14.2.2.2.2.2.1, V.mp 6, V.tail 7 0]) false, O.map L_14.2.2.2.2.2.2.1, O.row 3 L_14.2.2.2.2.2.2.2.1 0, O.map L_14.2.2.2.2.2.2.2.2.1, O.row 88 L_14.2.2.2.2.2.2.2.2.2.1 L_14.2.2.2.2.2.2.2.2.2.2] fun L_15 =>
  cond (L_15.1 == (0 : Int))
 (icM qcfg ⟨false, false⟩ mk14 14 [V.ptr 2 0 0] [O.arena 63 L_15.2.1, O.arena 7 L_15.2.2.1, O.box 59 (V.agg [V.ptr 3 0 0, V.int .i64 L_15.2.2.2.1, V.mp 4, V.tail 5 0, V.int .i64 L_15.2.2.2.2.1]) false, O.box 56 (V.agg [V.int .i64 L_15.2.2.2.2.2.1, V.mp 6, V.tail 7 0]) false, O.map L_15.2.2.2.2.2.2.1, O.row 3 L_15.2.2.2.2.2.2.2.1 0, O.map L_15.2.2.2.2.2.2.2.2.1, O.row 88 L_15.2.2.2.2.2.2.2.2.2.1 L_15.2.2.2.2.2.2.2.2.2.2] fun L_16 =>
  some (.doneM (V.bool (L_16.1 == (0 : Int))) [O.arena 63 L_16.2.1, O.arena 7 L_16.2.2.1, O.map L_16.2.2.2.2.2.2.2.1, O.dead, O.box 56 (V.agg [V.int .i64 L_16.2.2.2.2.2.1, V.mp 2, V.tail 22 0]) false, O.map L_16.2.2.2.2.2.2.1, O.dead, O.box 59 (V.agg [V.ptr 4 0 0, V.int .i64 L_16.2.2.2.1, V.mp 5, V.tail 21 0, V.int .i64 L_16.2.2.2.2.1]) false, O.dead, O.dead, O.dead, O.dead, O.dead, O.dead, O.dead, O.dead, O.dead, O.dead, O.row 3 L_12.2.2.2.2.2.2.2.2.2.2 0, O.row 3 [V.int .i64 1] 0, O.row 3 L_13.2.2.2.2.2.2.2.2.2.2.2 0, O.row 3 L_16.2.2.2.2.2.2.2.2.1 0, O.row 88 L_16.2.2.2.2.2.2.2.2.2.1 L_16.2.2.2.2.2.2.2.2.2.2]))
 (some (.doneM (V.bool false) [O.arena 63 L_15.2.1, O.arena 7 L_15.2.2.1, O.map L_15.2.2.2.2.2.2.2.2.1, O.dead, O.box 56 (V.agg [V.int .i64 L_15.2.2.2.2.2.1, V.mp 2, V.tail 17 0]) false, O.map L_15.2.2.2.2.2.2.1, O.dead, O.box 59 (V.agg [V.ptr 4 0 0, V.int .i64 L_15.2.2.2.1, V.mp 5, V.tail 16 0, V.int .i64 L_15.2.2.2.2.1]) false, O.dead, O.dead, O.dead, O.dead, O.dead, O.dead, O.dead, O.dead, O.row 3 L_15.2.2.2.2.2.2.2.1 0, O.row 88 L_15.2.2.2.2.2.2.2.2.2.1 L_15.2.2.2.2.2.2.2.2.2.2, O.row 3 L_12.2.2.2.2.2.2.2.2.2.2 0, O.row 3 [V.int .i64 1] 0, O.row 3 L_13.2.2.2.2.2.2.2.2.2.2.2 0])))
 (some (.doneM (V.bool false) [O.arena 63 L_14.2.1, O.arena 7 L_14.2.2.1, O.map L_14.2.2.2.2.2.2.2.2.1, O.dead, O.box 56 (V.agg [V.int .i64 L_14.2.2.2.2.2.1, V.mp 2, V.tail 17 0]) false, O.map L_14.2.2.2.2.2.2.1, O.dead, O.box 59 (V.agg [V.ptr 4 0 0, V.int .i64 L_14.2.2.2.1, V.mp 5, V.tail 16 0, V.int .i64 L_14.2.2.2.2.1]) false, O.dead, O.dead, O.dead, O.dead, O.dead, O.dead, O.dead, O.dead, O.row 3 L_14.2.2.2.2.2.2.2.1 0, O.row 88 L_14.2.2.2.2.2.2.2.2.2.1 L_14.2.2.2.2.2.2.2.2.2.2, O.row 3 L_12.2.2.2.2.2.2.2.2.2.2 0, O.row 3 [V.int .i64 1] 0, O.row 3 L_13.2.2.2.2.2.2.2.2.2.2.2 0])))
 (some (.doneM (V.bool false) [O.arena 63 L_13.2.1, O.arena 7 L_13.2.2.1, O.map L_13.2.2.2.2.2.2.2.2.1, O.dead, O.box 56 (V.agg [V.int .i64 L_13.2.2.2.2.2.1, V.mp 2, V.tail 17 0]) false, O.map L_13.2.2.2.2.2.2.1, O.dead, O.box 59 (V.agg [V.ptr 4 0 0, V.int .i64 L_13.2.2.2.1, V.mp 5, V.tail 16 0, V.int .i64 L_13.2.2.2.2.1]) false, O.dead, O.dead, O.dead, O.dead, O.dead, O.dead, O.dead, O.dead, O.row 3 L_13.2.2.2.2.2.2.2.1 0, O.row 88 L_13.2.2.2.2.2.2.2.2.2.1 L_13.2.2.2.2.2.2.2.2.2.2.1, O.row 3 L_12.2.2.2.2.2.2.2.2.2.2 0, O.row 3 [V.int .i64 1] 0, O.row 3 L_13.2.2.2.2.2.2.2.2.2.2.2 0])))
 (some (.doneM (V.bool false) [O.arena 63 L_12.1, O.arena 7 L_12.2.1, O.map L_12.2.2.2.2.2.2.2.1, O.dead, O.box 56 (V.agg [V.int .i64 L_12.2.2.2.2.1, V.mp 2, V.tail 17 0]) false, O.map L_12.2.2.2.2.2.1, O.dead, O.box 59 (V.agg [V.ptr 4 0 0, V.int .i64 L_12.2.2.1, V.mp 5, V.tail 16 0, V.int .i64 L_12.2.2.2.1]) false, O.dead, O.dead, O.dead, O.dead, O.dead, O.dead, O.dead, O.dead, O.row 3 L_12.2.2.2.2.2.2.1 0, O.row 88 L_12.2.2.2.2.2.2.2.2.1 L_12.2.2.2.2.2.2.2.2.2.1, O.row 3 L_12.2.2.2.2.2.2.2.2.2.2 0, O.row 3 [V.int .i64 1] 0])))
 (some (.doneM (V.bool false) [O.arena 63 L_11.2.2.1, O.arena 7 L_11.2.2.2.1, O.map L_11.2.2.2.2.2.1, O.dead, O.box 56 (V.agg [V.int .i64 L_11.2.2.2.2.1, V.mp 2, V.tail 17 0]) false, O.map L_10.2.2.2.2.2.2.2.1, O.dead, O.box 59 (V.agg [V.ptr 4 0 0, V.int .i64 L_10.2.2.2.2.1, V.mp 5, V.tail 16 0, V.int .i64 L_10.2.2.2.2.2.1]) false, O.dead, O.dead, O.dead, O.dead, O.dead, O.dead, O.dead, O.dead, O.row 3 L_10.2.2.2.2.2.2.2.2.2.1 0, O.row 88 L_11.2.2.2.2.2.2.1 L_11.2.2.2.2.2.2.2])))
 (some (.doneM (V.bool false) [O.arena 63 L_11.2.2.1, O.arena 7 L_11.2.2.2.1, O.map L_11.2.2.2.2.2.1, O.dead, O.box 56 (V.agg [V.int .i64 L_11.2.2.2.2.1, V.mp 2, V.tail 17 0]) false, O.map L_10.2.2.2.2.2.2.2.1, O.dead, O.box 59 (V.agg [V.ptr 4 0 0, V.int .i64 L_10.2.2.2.2.1, V.mp 5, V.tail 16 0, V.int .i64 L_10.2.2.2.2.2.1]) false, O.dead, O.dead, O.dead, O.dead, O.dead, O.dead, O.dead, O.dead, O.row 3 L_10.2.2.2.2.2.2.2.2.2.1 0, O.row 88 L_11.2.2.2.2.2.2.1 L_11.2.2.2.2.2.2.2])))
 (some (.doneM (V.bool false) [O.arena 63 L_11.2.2.1, O.arena 7 L_11.2.2.2.1, O.map L_11.2.2.2.2.2.1, O.dead, O.box 56 (V.agg [V.int .i64 L_11.2.2.2.2.1, V.mp 2, V.tail 17 0]) false, O.map L_10.2.2.2.2.2.2.2.1, O.dead, O.box 59 (V.agg [V.ptr 4 0 0, V.int .i64 L_10.2.2.2.2.1, V.mp 5, V.tail 16 0, V.int .i64 L_10.2.2.2.2.2.1]) false, O.dead, O.dead, O.dead, O.dead, O.dead, O.dead, O.dead, O.dead, O.row 3 L_10.2.2.2.2.2.2.2.2.2.1 0, O.row 88 L_11.2.2.2.2.2.2.1 L_11.2.2.2.2.2.2.2])))
 (some (.doneM (V.bool false) [O.arena 63 L_11.2.2.1, O.arena 7 L_11.2.2.2.1, O.map L_11.2.2.2.2.2.1, O.dead, O.box 56 (V.agg [V.int .i64 L_11.2.2.2.2.1, V.mp 2, V.tail 17 0]) false, O.map L_10.2.2.2.2.2.2.2.1, O.dead, O.box 59 (V.agg [V.ptr 4 0 0, V.int .i64 L_10.2.2.2.2.1, V.mp 5, V.tail 16 0, V.int .i64 L_10.2.2.2.2.2.1]) false, O.dead, O.dead, O.dead, O.dead, O.dead, O.dead, O.dead, O.dead, O.row 3 L_10.2.2.2.2.2.2.2.2.2.1 0, O.row 88 L_11.2.2.2.2.2.2.1 L_11.2.2.2.2.2.2.2])))
 (some (.doneM (V.bool false) [O.arena 63 L_11.2.2.1, O.arena 7 L_11.2.2.2.1, O.map L_11.2.2.2.2.2.1, O.dead, O.box 56 (V.agg [V.int .i64 L_11.2.2.2.2.1, V.mp 2, V.tail 17 0]) false, O.map L_10.2.2.2.2.2.2.2.1, O.dead, O.box 59 (V.agg [V.ptr 4 0 0, V.int .i64 L_10.2.2.2.2.1, V.mp 5, V.tail 16 0, V.int .i64 L_10.2.2.2.2.2.1]) false, O.dead, O.dead, O.dead, O.dead, O.dead, O.dead, O.dead, O.dead, O.row 3 L_10.2.2.2.2.2.2.2.2.2.1 0, O.row 88 L_11.2.2.2.2.2.2.1 L_11.2.2.2.2.2.2.2])))
 (some (.doneM (V.bool false) [O.arena 63 L_11.2.2.1, O.arena 7 L_11.2.2.2.1, O.map L_11.2.2.2.2.2.1, O.dead, O.box 56 (V.agg [V.int .i64 L_11.2.2.2.2.1, V.mp 2, V.tail 17 0]) false, O.map L_10.2.2.2.2.2.2.2.1, O.dead, O.box 59 (V.agg [V.ptr 4 0 0, V.int .i64 L_10.2.2.2.2.1, V.mp 5, V.tail 16 0, V.int .i64 L_10.2.2.2.2.2.1]) false, O.dead, O.dead, O.dead, O.dead, O.dead, O.dead, O.dead, O.dead, O.row 3 L_10.2.2.2.2.2.2.2.2.2.1 0, O.row 88 L_11.2.2.2.2.2.2.1 L_11.2.2.2.2.2.2.2])))
 (some (.doneM (V.bool false) [O.arena 63 L_11.2.2.1, O.arena 7 L_11.2.2.2.1, O.map L_11.2.2.2.2.2.1, O.dead, O.box 56 (V.agg [V.int .i64 L_11.2.2.2.2.1, V.mp 2, V.tail 17 0]) false, O.map L_10.2.2.2.2.2.2.2.1, O.dead, O.box 59 (V.agg [V.ptr 4 0 0, V.int .i64 L_10.2.2.2.2.1, V.mp 5, V.tail 16 0, V.int .i64 L_10.2.2.2.2.2.1]) false, O.dead, O.dead, O.dead, O.dead, O.dead, O.dead, O.dead, O.dead, O.row 3 L_10.2.2.2.2.2.2.2.2.2.1 0, O.row 88 L_11.2.2.2.2.2.2.1 L_11.2.2.2.2.2.2.2])))
 (some (.doneM (V.bool false) [O.arena 63 L_11.2.2.1, O.arena 7 L_11.2.2.2.1, O.map L_11.2.2.2.2.2.1, O.dead, O.box 56 (V.agg [V.int .i64 L_11.2.2.2.2.1, V.mp 2, V.tail 17 0]) false, O.map L_10.2.2.2.2.2.2.2.1, O.dead, O.box 59 (V.agg [V.ptr 4 0 0, V.int .i64 L_10.2.2.2.2.1, V.mp 5, V.tail 16 0, V.int .i64 L_10.2.2.2.2.2.1]) false, O.dead, O.dead, O.dead, O.dead, O.dead, O.dead, O.dead, O.dead, O.row 3 L_10.2.2.2.2.2.2.2.2.2.1 0, O.row 88 L_11.2.2.2.2.2.2.1 L_11.2.2.2.2.2.2.2])))
 (some (.doneM (V.bool false) [O.arena 63 L_11.2.2.1, O.arena 7 L_11.2.2.2.1, O.map L_11.2.2.2.2.2.1, O.dead, O.box 56 (V.agg [V.int .i64 L_11.2.2.2.2.1, V.mp 2, V.tail 17 0]) false, O.map L_10.2.2.2.2.2.2.2.1, O.dead, O.box 59 (V.agg [V.ptr 4 0 0, V.int .i64 L_10.2.2.2.2.1, V.mp 5, V.tail 16 0, V.int .i64 L_10.2.2.2.2.2.1]) false, O.dead, O.dead, O.dead, O.dead, O.dead, O.dead, O.dead, O.dead, O.row 3 L_10.2.2.2.2.2.2.2.2.2.1 0, O.row 88 L_11.2.2.2.2.2.2.1 L_11.2.2.2.2.2.2.2])))
 (some (.doneM (V.bool false) [O.arena 63 L_11.2.2.1, O.arena 7 L_11.2.2.2.1, O.map L_11.2.2.2.2.2.1, O.dead, O.box 56 (V.agg [V.int .i64 L_11.2.2.2.2.1, V.mp 2, V.tail 17 0]) false, O.map L_10.2.2.2.2.2.2.2.1, O.dead, O.box 59 (V.agg [V.ptr 4 0 0, V.int .i64 L_10.2.2.2.2.1, V.mp 5, V.tail 16 0, V.int .i64 L_10.2.2.2.2.2.1]) false, O.dead, O.dead, O.dead, O.dead, O.dead, O.dead, O.dead, O.dead, O.row 3 L_10.2.2.2.2.2.2.2.2.2.1 0, O.row 88 L_11.2.2.2.2.2.2.1 L_11.2.2.2.2.2.2.2])))
 (some (.doneM (V.bool false) [O.arena 63 L_11.2.2.1, O.arena 7 L_11.2.2.2.1, O.map L_11.2.2.2.2.2.1, O.dead, O.box 56 (V.agg [V.int .i64 L_11.2.2.2.2.1, V.mp 2, V.tail 17 0]) false, O.map L_10.2.2.2.2.2.2.2.1, O.dead, O.box 59 (V.agg [V.ptr 4 0 0, V.int .i64 L_10.2.2.2.2.1, V.mp 5, V.tail 16 0, V.int .i64 L_10.2.2.2.2.2.1]) false, O.dead, O.dead, O.dead, O.dead, O.dead, O.dead, O.dead, O.dead, O.row 3 L_10.2.2.2.2.2.2.2.2.2.1 0, O.row 88 L_11.2.2.2.2.2.2.1 L_11.2.2.2.2.2.2.2])))
 (some (.doneM (V.bool false) [O.arena 63 L_11.2.2.1, O.arena 7 L_11.2.2.2.1, O.map L_11.2.2.2.2.2.1, O.dead, O.box 56 (V.agg [V.int .i64 L_11.2.2.2.2.1, V.mp 2, V.tail 17 0]) false, O.map L_10.2.2.2.2.2.2.2.1, O.dead, O.box 59 (V.agg [V.ptr 4 0 0, V.int .i64 L_10.2.2.2.2.1, V.mp 5, V.tail 16 0, V.int .i64 L_10.2.2.2.2.2.1]) false, O.dead, O.dead, O.dead, O.dead, O.dead, O.dead, O.dead, O.dead, O.row 3 L_10.2.2.2.2.2.2.2.2.2.1 0, O.row 88 L_11.2.2.2.2.2.2.1 L_11.2.2.2.2.2.2.2])))
 (some (.doneM (V.bool false) [O.arena 63 L_11.2.2.1, O.arena 7 L_11.2.2.2.1, O.map L_11.2.2.2.2.2.1, O.dead, O.box 56 (V.agg [V.int .i64 L_11.2.2.2.2.1, V.mp 2, V.tail 17 0]) false, O.map L_10.2.2.2.2.2.2.2.1, O.dead, O.box 59 (V.agg [V.ptr 4 0 0, V.int .i64 L_10.2.2.2.2.1, V.mp 5, V.tail 16 0, V.int .i64 L_10.2.2.2.2.2.1]) false, O.dead, O.dead, O.dead, O.dead, O.dead, O.dead, O.dead, O.dead, O.row 3 L_10.2.2.2.2.2.2.2.2.2.1 0, O.row 88 L_11.2.2.2.2.2.2.1 L_11.2.2.2.2.2.2.2])))
 (some (.doneM (V.bool false) [O.arena 63 L_11.2.2.1, O.arena 7 L_11.2.2.2.1, O.map L_11.2.2.2.2.2.1, O.dead, O.box 56 (V.agg [V.int .i64 L_11.2.2.2.2.1, V.mp 2, V.tail 17 0]) false, O.map L_10.2.2.2.2.2.2.2.1, O.dead, O.box 59 (V.agg [V.ptr 4 0 0, V.int .i64 L_10.2.2.2.2.1, V.mp 5, V.tail 16 0, V.int .i64 L_10.2.2.2.2.2.1]) false, O.dead, O.dead, O.dead, O.dead, O.dead, O.dead, O.dead, O.dead, O.row 3 L_10.2.2.2.2.2.2.2.2.2.1 0, O.row 88 L_11.2.2.2.2.2.2.1 L_11.2.2.2.2.2.2.2]))
theorem e17_eq  : enterK qk true fa17 [] [O.arena 63 [], O.arena 7 []] = e17  := by kernel_rfl
theorem e17_run  {o : Out} {v : V} {m : List O} (h : e17  = some o) (hg : Go qk true 2 fa17 o (.doneM v m)) : icW qcfg 17 [] [O.arena 63 [], O.arena 7 []] = some (v, m) := icW_go qik rfl fa17_eq ((e17_eq ).trans h) hg
noncomputable def fa9 : FA := ⟨2, 76, [.tmp 4, .tmp 5], [9, 24],
 (.seq
 (.ops false [o1 4 (.assign (.const (.string ⟨⟨[]⟩⟩))) 9, o1 5 (.assign (.const (.int .i64 (0)))) 24])
 (.seq
 (.seq
 (.ops false [mv 9 1 3, o1 10 (.binOp .lss 3 (t' 9) (.const (.int .i64 (0))) 3) 4, mv 11 10 4, o2 12 (.move (t' 1)) 3 11 false, o2 13 (.move (t' 0)) 27 11 false, o2 14 (.nilCheck (t' 13)) 0 11 false, o2 15 (.fieldAddr 59 (t' 14) 0) 0 11 false, o2 16 (.load 23 (t' 15)) 23 11 false, o2 17 (.call ⟨(.value (.func 24)), #[(t' 16)], #[23]⟩) 3 11 false, o2 18 (.binOp .geq 3 (t' 12) (t' 17) 3) 4 11 false, o1 19 (.pick (t' 11) (.const (.bool true)) (t' 18)) 4])
 (.cond (t' 19)
 (.seq
 (.ops false [o1 4 (.assign (.const (.string ⟨⟨[]⟩⟩))) 9, o1 5 (.assign (.const (.int .i64 (1)))) 24])
 (.ret))
 (.skip)))
 (.seq
 (.seq
 (.ops false [mv 20 0 27, o1 21 (.nilCheck (t' 20)) 0, o1 22 (.fieldAddr 59 (t' 21) 2) 0, o1 23 (.load 57 (t' 22)) 57, mv 24 1 3, o1 25 (.lookup 57 (t' 23) (t' 24) false) 60, o1 26 (.binOp .eql 60 (t' 25) (.const (.pointer none)) 60) 4])
 (.cond (t' 26)
 (.seq
 (.ops false [mv 28 0 27, o1 29 (.nilCheck (t' 28)) 0, o1 30 (.fieldAddr 59 (t' 29) 0) 0, o1 31 (.load 23 (t' 30)) 23, mv 32 1 3, o1 33 (.call ⟨(.value (.func 15)), #[(t' 31), (t' 32)], #[23, 3]⟩) 32, mv 27 33 32, o1 34 (.extract (t' 27) 0) 9, o1 35 (.extract (t' 27) 1) 24, asg 6 34 9, asg 7 35 24])
 (.seq
 (.seq
 (.ops false [mv 36 7 24, o1 37 (.binOp .neq 24 (t' 36) (.const (.int .i64 (0))) 24) 4])
 (.cond (t' 37)
 (.seq
 (.ops false [mv 38 7 24, o1 4 (.assign (.const (.string ⟨⟨[]⟩⟩))) 9, asg 5 38 24])
 (.ret))
 (.skip)))
 (.seq
 (.seq
 (.ops false [mv 39 0 27, o1 40 (.call ⟨(.value (.func 25)), #[(t' 39)], #[27]⟩) 24, asg 8 40 24])
 (.seq
 (.ops false [mv 41 8 24, o1 42 (.binOp .neq 24 (t' 41) (.const (.int .i64 (0))) 24) 4])
 (.cond (t' 42)
 (.seq
 (.ops false [mv 43 8 24, o1 4 (.assign (.const (.string ⟨⟨[]⟩⟩))) 9, asg 5 43 24])
 (.ret))
 (.skip))))
 (.ops false [mv 44 0 27, o1 45 (.nilCheck (t' 44)) 0, o1 46 (.fieldAddr 59 (t' 45) 2) 0, o1 47 (.load 57 (t' 46)) 57, mv 48 1 3, mv 49 6 9, o1 50 (.build 63 #[(0, (t' 49))]) 63, o1 51 (.box 63 (t' 50)) 60, o0 (.mapUpdate 57 (t' 47) (t' 48) (t' 51)) 0]))))
 (.skip)))
 (.seq
 (.ops false [mv 52 0 27, mv 53 1 3, o1 54 (.call ⟨(.value (.func 26)), #[(t' 52), (t' 53)], #[27, 3]⟩) 0])
 (.seq
 (.ops false [mv 55 0 27, o1 56 (.nilCheck (t' 55)) 0, o1 57 (.fieldAddr 59 (t' 56) 2) 0, o1 58 (.load 57 (t' 57)) 57, mv 59 1 3, o1 60 (.lookup 57 (t' 58) (t' 59) false) 60, o1 61 (.nilCheck (t' 60)) 0, o1 62 (.fieldAddr 63 (t' 61) 1) 0, o1 63 (.load 3 (t' 62)) 3, o1 64 (.binOp .add 3 (t' 63) (.const (.int .i64 (1))) 3) 3, o1 65 (.nilCheck (t' 60)) 0, o1 66 (.fieldAddr 63 (t' 65) 1) 0, o0 (.store 3 (t' 66) (t' 64)) 0])
 (.seq
 (.ops false [mv 67 0 27, o1 68 (.nilCheck (t' 67)) 0, o1 69 (.fieldAddr 59 (t' 68) 2) 0, o1 70 (.load 57 (t' 69)) 57, mv 71 1 3, o1 72 (.lookup 57 (t' 70) (t' 71) false) 60, o1 73 (.nilCheck (t' 72)) 0, o1 74 (.fieldAddr 63 (t' 73) 0) 0, o1 75 (.load 9 (t' 74)) 9, asg 4 75 9, o1 5 (.assign (.const (.int .i64 (0)))) 24])
 (.ret)))))))⟩
theorem fa9_eq : fnA qcfg.P (qcfg.rxf 9) 9 = some fa9 := by kernel_rfl
noncomputable def e9 (x1 : Int) (m0 : List V) (m1 : List V) (m2_1 : Int) (m2_4 : Int) (m3_0 : Int) (m4 : List (V × V)) (m5 : List V) (m6 : List (V × V)) (m7 : List V) (z7 : Nat) : R :=
  cond (decide (x1 < 0))
 (some (.doneM (V.tup [V.str [], V.int .i64 1]) [O.arena 63 m0, O.arena 7 m1, O.box 59 (V.agg [V.ptr 3 0 0, V.int .i64 m2_1, V.mp 4, V.tail 5 0, V.int .i64 m2_4]) false, O.box 56 (V.agg [V.int .i64 m3_0, V.mp 6, V.tail 7 0]) false, O.map m4, O.row 3 m5 0, O.map m6, O.row 88 m7 z7]))
 (cond (decide (x1 ≥ m3_0))
 (some (.doneM (V.tup [V.str [], V.int .i64 1]) [O.arena 63 m0, O.arena 7 m1, O.box 59 (V.agg [V.ptr 3 0 0, V.int .i64 m2_1, V.mp 4, V.tail 5 0, V.int .i64 m2_4]) false, O.box 56 (V.agg [V.int .i64 m3_0, V.mp 6, V.tail 7 0]) false, O.map m4, O.row 3 m5 0, O.map m6, O.row 88 m7 z7]))
 (mfK m4 (V.int .i64 x1)
 (icM qcfg ⟨true, false⟩ mk15 15 [V.ptr 2 0 0, V.int .i64 x1] [O.arena 63 m0, O.arena 7 m1, O.box 56 (V.agg [V.int .i64 m3_0, V.mp 3, V.tail 4 0]) false, O.map m6, O.row 88 m7 z7] fun L =>
  cond (L.2.1 != (0 : Int))
 (some (.doneM (V.tup [V.str [], V.int .i64 L.2.1]) [O.arena 63 L.2.2.1, O.arena 7 L.2.2.2.1, O.box 59 (V.agg [V.ptr 3 0 0, V.int .i64 m2_1, V.mp 4, V.tail 5 0, V.int .i64 m2_4]) false, O.box 56 (V.agg [V.int .i64 L.2.2.2.2.1, V.mp 6, V.tail 7 0]) false, O.map m4, O.row 3 m5 0, O.map L.2.2.2.2.2.1, O.row 88 L.2.2.2.2.2.2.1 L.2.2.2.2.2.2.2]))
 (icM qcfg ⟨false, false⟩ mk25 25 [V.ptr 2 0 0] [O.arena 63 L.2.2.1, O.arena 7 L.2.2.2.1, O.box 59 (V.agg [V.ptr 3 0 0, V.int .i64 m2_1, V.mp 4, V.tail 5 0, V.int .i64 m2_4]) false, O.box 56 (V.agg [V.int .i64 L.2.2.2.2.1, V.mp 6, V.tail 7 0]) false, O.map m4, O.row 3 m5 0, O.map L.2.2.2.2.2.1, O.row 88 L.2.2.2.2.2.2.1 L.2.2.2.2.2.2.2] fun L_1 =>
  cond (L_1.1 != (0 : Int))
 (some (.doneM (V.tup [V.str [], V.int .i64 L_1.1]) [O.arena 63 L_1.2.1, O.arena 7 L_1.2.2.1, O.box 59 (V.agg [V.ptr 3 0 0, V.int .i64 L_1.2.2.2.1, V.mp 4, V.tail 8 0, V.int .i64 L_1.2.2.2.2.1]) false, O.box 56 (V.agg [V.int .i64 L_1.2.2.2.2.2.1, V.mp 6, V.tail 9 0]) false, O.map L_1.2.2.2.2.2.2.1, O.dead, O.map L_1.2.2.2.2.2.2.2.1, O.dead, O.row 3 L_1.2.2.2.2.2.2.2.2.1 0, O.row 88 L_1.2.2.2.2.2.2.2.2.2.1 L_1.2.2.2.2.2.2.2.2.2.2]))
 (opt (mapPut L_1.2.2.2.2.2.2.1 (V.int .i64 x1) (V.hp 63 L_1.2.1.length 0)) fun es =>
  icM qcfg ⟨false, false⟩ mk26 26 [V.ptr 2 0 0, V.int .i64 x1] [O.arena 63 (L_1.2.1 ++ [V.agg [V.str L.1, V.int .i64 0, V.bool false, V.int .i64 0, V.int .i64 0]]), O.arena 7 L_1.2.2.1, O.box 59 (V.agg [V.ptr 3 0 0, V.int .i64 L_1.2.2.2.1, V.mp 4, V.tail 5 0, V.int .i64 L_1.2.2.2.2.1]) false, O.box 56 (V.agg [V.int .i64 L_1.2.2.2.2.2.1, V.mp 6, V.tail 7 0]) false, O.map es, O.row 3 L_1.2.2.2.2.2.2.2.2.1 0, O.map L_1.2.2.2.2.2.2.2.1, O.row 88 L_1.2.2.2.2.2.2.2.2.2.1 L_1.2.2.2.2.2.2.2.2.2.2] fun L_2 =>
  mfK L_2.2.2.2.2.2.1 (V.int .i64 x1)
 (none) fun r_1 =>
  kP 63 r_1 fun p =>
  idxK L_2.1 p fun v =>
  d63 v fun s pins dirty first last =>
  idxK L_2.1 p fun v_1 =>
  d63 v_1 fun s_1 pins_1 dirty_1 first_1 last_1 =>
  mfK L_2.2.2.2.2.2.1 (V.int .i64 x1)
 (none) fun r_2 =>
  kP 63 r_2 fun p_1 =>
  idxK ((L_2.1).set p (V.agg [V.str s_1, V.int .i64 (W .i64 (pins + 1)), V.bool dirty_1, V.int .i64 first_1, V.int .i64 last_1])) p_1 fun v_2 =>
  d63 v_2 fun s_2 pins_2 dirty_2 first_2 last_2 =>
  some (.doneM (V.tup [V.str s_2, V.int .i64 0]) [O.arena 63 ((L_2.1).set p (V.agg [V.str s_1, V.int .i64 (W .i64 (pins + 1)), V.bool dirty_1, V.int .i64 first_1, V.int .i64 last_1])), O.arena 7 L_2.2.1, O.box 59 (V.agg [V.ptr 3 0 0, V.int .i64 L_2.2.2.1, V.mp 4, V.tail 10 0, V.int .i64 L_2.2.2.2.1]) false, O.box 56 (V.agg [V.int .i64 L_2.2.2.2.2.1, V.mp 6, V.tail 11 0]) false, O.map L_2.2.2.2.2.2.1, O.dead, O.map L_2.2.2.2.2.2.2.1, O.dead, O.dead, O.dead, O.row 3 L_2.2.2.2.2.2.2.2.1 0, O.row 88 L_2.2.2.2.2.2.2.2.2.1 L_2.2.2.2.2.2.2.2.2.2])))) fun r =>
  kP 63 r fun p_2 =>
  icM qcfg ⟨false, false⟩ mk26 26 [V.ptr 2 0 0, V.int .i64 x1] [O.arena 63 m0, O.arena 7 m1, O.box 59 (V.agg [V.ptr 3 0 0, V.int .i64 m2_1, V.mp 4, V.tail 5 0, V.int .i64 m2_4]) false, O.box 56 (V.agg [V.int .i64 m3_0, V.mp 6, V.tail 7 0]) false, O.map m4, O.row 3 m5 0, O.map m6, O.row 88 m7 z7] fun L_3 =>
  mfK L_3.2.2.2.2.2.1 (V.int .i64 x1)
 (none) fun r_3 =>
  kP 63 r_3 fun p_3 =>
  idxK L_3.1 p_3 fun v_3 =>
  d63 v_3 fun s_3 pins_3 dirty_3 first_3 last_3 =>
  idxK L_3.1 p_3 fun v_4 =>
  d63 v_4 fun s_4 pins_4 dirty_4 first_4 last_4 =>
  mfK L_3.2.2.2.2.2.1 (V.int .i64 x1)
 (none) fun r_4 =>
  kP 63 r_4 fun p_4 =>
  idxK ((L_3.1).set p_3 (V.agg [V.str s_4, V.int .i64 (W .i64 (pins_3 + 1)), V.bool dirty_4, V.int .i64 first_4, V.int .i64 last_4])) p_4 fun v_5 =>
  d63 v_5 fun s_5 pins_5 dirty_5 first_5 last_5 =>
  some (.doneM (V.tup [V.str s_5, V.int .i64 0]) [O.arena 63 ((L_3.1).set p_3 (V.agg [V.str s_4, V.int .i64 (W .i64 (pins_3 + 1)), V.bool dirty_4, V.int .i64 first_4, V.int .i64 last_4])), O.arena 7 L_3.2.1, O.box 59 (V.agg [V.ptr 3 0 0, V.int .i64 L_3.2.2.1, V.mp 4, V.tail 8 0, V.int .i64 L_3.2.2.2.1]) false, O.box 56 (V.agg [V.int .i64 L_3.2.2.2.2.1, V.mp 6, V.tail 9 0]) false, O.map L_3.2.2.2.2.2.1, O.dead, O.map L_3.2.2.2.2.2.2.1, O.dead, O.row 3 L_3.2.2.2.2.2.2.2.1 0, O.row 88 L_3.2.2.2.2.2.2.2.2.1 L_3.2.2.2.2.2.2.2.2.2])))
theorem e9_eq (x1 : Int) (m0 : List V) (m1 : List V) (m2_1 : Int) (m2_4 : Int) (m3_0 : Int) (m4 : List (V × V)) (m5 : List V) (m6 : List (V × V)) (m7 : List V) (z7 : Nat) : enterK qk true fa9 [V.ptr 2 0 0, V.int .i64 x1] [O.arena 63 m0, O.arena 7 m1, O.box 59 (V.agg [V.ptr 3 0 0, V.int .i64 m2_1, V.mp 4, V.tail 5 0, V.int .i64 m2_4]) false, O.box 56 (V.agg [V.int .i64 m3_0, V.mp 6, V.tail 7 0]) false, O.map m4, O.row 3 m5 0, O.map m6, O.row 88 m7 z7] = e9 x1 m0 m1 m2_1 m2_4 m3_0 m4 m5 m6 m7 z7 := by kernel_rfl
theorem e9_run (x1 : Int) (m0 : List V) (m1 : List V) (m2_1 : Int) (m2_4 : Int) (m3_0 : Int) (m4 : List (V × V)) (m5 : List V) (m6 : List (V × V)) (m7 : List V) (z7 : Nat) {o : Out} {r : V × List O} (h : e9 x1 m0 m1 m2_1 m2_4 m3_0 m4 m5 m6 m7 z7 = some o) (hg : GoN qk 8 fa9 ⟨false, false⟩ [O.arena 63 m0, O.arena 7 m1, O.box 59 (V.agg [V.ptr 3 0 0, V.int .i64 m2_1, V.mp 4, V.tail 5 0, V.int .i64 m2_4]) false, O.box 56 (V.agg [V.int .i64 m3_0, V.mp 6, V.tail 7 0]) false, O.map m4, O.row 3 m5 0, O.map m6, O.row 88 m7 z7] o r) : icC qcfg ⟨false, false⟩ 9 [V.ptr 2 0 0, V.int .i64 x1] [O.arena 63 m0, O.arena 7 m1, O.box 59 (V.agg [V.ptr 3 0 0, V.int .i64 m2_1, V.mp 4, V.tail 5 0, V.int .i64 m2_4]) false, O.box 56 (V.agg [V.int .i64 m3_0, V.mp 6, V.tail 7 0]) false, O.map m4, O.row 3 m5 0, O.map m6, O.row 88 m7 z7] = some r := icC_go qik rfl fa9_eq ((e9_eq x1 m0 m1 m2_1 m2_4 m3_0 m4 m5 m6 m7 z7).trans h) hg
noncomputable def fa11 : FA := ⟨4, 62, [.tmp 8], [24],
 (.seq
 (.ops false [o1 8 (.assign (.const (.int .i64 (0)))) 24])
 (.seq
 (.ops false [mv 12 0 27, mv 13 1 3, o1 14 (.call ⟨(.value (.func 27)), #[(t' 12), (t' 13)], #[27, 3]⟩) 64, mv 11 14 64, o1 15 (.extract (t' 11) 0) 60, o1 16 (.extract (t' 11) 1) 24, asg 9 15 60, asg 10 16 24])
 (.seq
 (.block 0
 (.seq
 (.ops false [mv 18 10 24, o1 19 (.binOp .neq 24 (t' 18) (.const (.int .i64 (0))) 24) 4, asg 17 19 4])
 (.cond (t' 17)
 (.seq
 (.ops false [mv 20 10 24, asg 8 20 24])
 (.ret))
 (.seq
 (.ops false [mv 22 2 9, o1 23 (.call ⟨(.builtin .len), #[(t' 22)], #[9]⟩) 3, o1 24 (.binOp .gtr 3 (t' 23) (.const (.int .i64 (252))) 3) 4, asg 21 24 4])
 (.cond (t' 21)
 (.seq
 (.ops false [o1 8 (.assign (.const (.int .i64 (2)))) 24])
 (.ret))
 (.seq
 (.ops false [mv 26 3 3, o1 27 (.binOp .lss 3 (t' 26) (.const (.int .i64 (1))) 3) 4, mv 28 27 4, o2 29 (.move (t' 3)) 3 28 false, o2 30 (.move (t' 9)) 60 28 false, o2 31 (.nilCheck (t' 30)) 0 28 false, o2 32 (.fieldAddr 63 (t' 31) 4) 0 28 false, o2 33 (.load 3 (t' 32)) 3 28 false, o2 34 (.binOp .lss 3 (t' 29) (t' 33) 3) 4 28 false, o1 35 (.pick (t' 28) (.const (.bool true)) (t' 34)) 4, asg 25 35 4])
 (.cond (t' 25)
 (.seq
 (.ops false [o1 8 (.assign (.const (.int .i64 (1)))) 24])
 (.ret))
 (.skip))))))))
 (.seq
 (.seq
 (.ops false [mv 36 9 60, o1 37 (.nilCheck (t' 36)) 0, o1 38 (.fieldAddr 63 (t' 37) 2) 0, o1 39 (.load 4 (t' 38)) 4, o1 40 (.unOp .not 4 (t' 39)) 4])
 (.cond (t' 40)
 (.ops false [mv 41 9 60, mv 42 3 3, o1 43 (.nilCheck (t' 41)) 0, o1 44 (.fieldAddr 63 (t' 43) 3) 0, o0 (.store 3 (t' 44) (t' 42)) 0])
 (.skip)))
 (.seq
 (.ops false [mv 45 9 60, mv 46 9 60, mv 47 9 60, mv 48 2 9, mv 49 2 9, o1 50 (.call ⟨(.builtin .len), #[(t' 49)], #[9]⟩) 3, o1 51 (.binOp .sub 3 (.const (.int .i64 (252))) (t' 50) 3) 3, o1 52 (.makeSlice 66 (t' 51) (t' 51)) 66, o1 53 (.convert 66 9 (t' 52)) 9, o1 54 (.binOp .add 9 (t' 48) (t' 53) 9) 9, mv 55 3 3, o1 56 (.nilCheck (t' 45)) 0, o1 57 (.fieldAddr 63 (t' 56) 0) 0, o0 (.store 9 (t' 57) (t' 54)) 0, o1 58 (.nilCheck (t' 46)) 0, o1 59 (.fieldAddr 63 (t' 58) 2) 0, o0 (.store 4 (t' 59) (.const (.bool true))) 0, o1 60 (.nilCheck (t' 47)) 0, o1 61 (.fieldAddr 63 (t' 60) 4) 0, o0 (.store 3 (t' 61) (t' 55)) 0])
 (.seq
 (.ops false [o1 8 (.assign (.const (.int .i64 (0)))) 24])
 (.ret)))))))⟩
theorem fa11_eq : fnA qcfg.P (qcfg.rxf 11) 11 = some fa11 := by kernel_rfl
noncomputable def e11 (x1 : Int) (x2 : List UInt8) (x3 : Int) (m0 : List V) (m1 : List V) (m2_1 : Int) (m2_4 : Int) (m3_0 : Int) (m4 : List (V × V)) (m5 : List V) (m6 : List (V × V)) (m7 : List V) (z7 : Nat) : R :=
  mfK m4 (V.int .i64 x1)
 (some (.doneM (V.int .i64 7) [O.arena 63 m0, O.arena 7 m1, O.box 59 (V.agg [V.ptr 3 0 0, V.int .i64 m2_1, V.mp 4, V.tail 5 0, V.int .i64 m2_4]) false, O.box 56 (V.agg [V.int .i64 m3_0, V.mp 6, V.tail 7 0]) false, O.map m4, O.row 3 m5 0, O.map m6, O.row 88 m7 z7])) fun r =>
  kP 63 r fun p =>
  idxK m0 p fun v =>
  d63 v fun s pins dirty first last =>
  cond (pins == (0 : Int))
 (some (.doneM (V.int .i64 9) [O.arena 63 m0, O.arena 7 m1, O.box 59 (V.agg [V.ptr 3 0 0, V.int .i64 m2_1, V.mp 4, V.tail 5 0, V.int .i64 m2_4]) false, O.box 56 (V.agg [V.int .i64 m3_0, V.mp 6, V.tail 7 0]) false, O.map m4, O.row 3 m5 0, O.map m6, O.row 88 m7 z7]))
 (cond (decide ((x2.length : Int) > 252))
 (some (.doneM (V.int .i64 2) [O.arena 63 m0, O.arena 7 m1, O.box 59 (V.agg [V.ptr 3 0 0, V.int .i64 m2_1, V.mp 4, V.tail 5 0, V.int .i64 m2_4]) false, O.box 56 (V.agg [V.int .i64 m3_0, V.mp 6, V.tail 7 0]) false, O.map m4, O.row 3 m5 0, O.map m6, O.row 88 m7 z7]))
 (cond (decide (x3 < 1))
 (some (.doneM (V.int .i64 1) [O.arena 63 m0, O.arena 7 m1, O.box 59 (V.agg [V.ptr 3 0 0, V.int .i64 m2_1, V.mp 4, V.tail 5 0, V.int .i64 m2_4]) false, O.box 56 (V.agg [V.int .i64 m3_0, V.mp 6, V.tail 7 0]) false, O.map m4, O.row 3 m5 0, O.map m6, O.row 88 m7 z7]))
 (idxK m0 p fun v_1 =>
  d63 v_1 fun s_1 pins_1 dirty_1 first_1 last_1 =>
  cond (decide (x3 < last_1))
 (some (.doneM (V.int .i64 1) [O.arena 63 m0, O.arena 7 m1, O.box 59 (V.agg [V.ptr 3 0 0, V.int .i64 m2_1, V.mp 4, V.tail 5 0, V.int .i64 m2_4]) false, O.box 56 (V.agg [V.int .i64 m3_0, V.mp 6, V.tail 7 0]) false, O.map m4, O.row 3 m5 0, O.map m6, O.row 88 m7 z7]))
 (idxK m0 p fun v_2 =>
  d63 v_2 fun s_2 pins_2 dirty_2 first_2 last_2 =>
  cond (!dirty_2)
 (idxK m0 p fun v_3 =>
  d63 v_3 fun s_3 pins_3 dirty_3 first_3 last_3 =>
  gd (decide (0 ≤ W .i64 (252 - (x2.length : Int)))) <|
  gd (decide (W .i64 (252 - (x2.length : Int)) ≤ W .i64 (252 - (x2.length : Int)))) <|
  gd (decide ((W .i64 (252 - (x2.length : Int))).toNat ≤ 16777216)) <|
  opt (numsOf (List.replicate ((W .i64 (252 - (x2.length : Int))).toNat) (V.int .u8 0))) fun ns =>
  gd (decide (x2.length + (ns.map fun n => UInt8.ofNat n.toNat).length ≤ 4611686018427387904)) <|
  idxK ((m0).set p (V.agg [V.str s_3, V.int .i64 pins_3, V.bool dirty_3, V.int .i64 x3, V.int .i64 last_3])) p fun v_4 =>
  d63 v_4 fun s_4 pins_4 dirty_4 first_4 last_4 =>
  idxK (((m0).set p (V.agg [V.str s_3, V.int .i64 pins_3, V.bool dirty_3, V.int .i64 x3, V.int .i64 last_3])).set p (V.agg [V.str (x2 ++ (ns.map fun n => UInt8.ofNat n.toNat)), V.int .i64 pins_4, V.bool dirty_4, V.int .i64 first_4, V.int .i64 last_4])) p fun v_5 =>
  d63 v_5 fun s_5 pins_5 dirty_5 first_5 last_5 =>
  idxK ((((m0).set p (V.agg [V.str s_3, V.int .i64 pins_3, V.bool dirty_3, V.int .i64 x3, V.int .i64 last_3])).set p (V.agg [V.str (x2 ++ (ns.map fun n => UInt8.ofNat n.toNat)), V.int .i64 pins_4, V.bool dirty_4, V.int .i64 first_4, V.int .i64 last_4])).set p (V.agg [V.str s_5, V.int .i64 pins_5, V.bool true, V.int .i64 first_5, V.int .i64 last_5])) p fun v_6 =>
  d63 v_6 fun s_6 pins_6 dirty_6 first_6 last_6 =>
  some (.doneM (V.int .i64 0) [O.arena 63 (((((m0).set p (V.agg [V.str s_3, V.int .i64 pins_3, V.bool dirty_3, V.int .i64 x3, V.int .i64 last_3])).set p (V.agg [V.str (x2 ++ (ns.map fun n => UInt8.ofNat n.toNat)), V.int .i64 pins_4, V.bool dirty_4, V.int .i64 first_4, V.int .i64 last_4])).set p (V.agg [V.str s_5, V.int .i64 pins_5, V.bool true, V.int .i64 first_5, V.int .i64 last_5])).set p (V.agg [V.str s_6, V.int .i64 pins_6, V.bool dirty_6, V.int .i64 first_6, V.int .i64 x3])), O.arena 7 m1, O.box 59 (V.agg [V.ptr 3 0 0, V.int .i64 m2_1, V.mp 4, V.tail 5 0, V.int .i64 m2_4]) false, O.box 56 (V.agg [V.int .i64 m3_0, V.mp 6, V.tail 7 0]) false, O.map m4, O.row 3 m5 0, O.map m6, O.row 88 m7 z7, O.row 5 (List.replicate ((W .i64 (252 - (x2.length : Int))).toNat) (V.int .u8 0)) 0]))
 (gd (decide (0 ≤ W .i64 (252 - (x2.length : Int)))) <|
  gd (decide (W .i64 (252 - (x2.length : Int)) ≤ W .i64 (252 - (x2.length : Int)))) <|
  gd (decide ((W .i64 (252 - (x2.length : Int))).toNat ≤ 16777216)) <|
  opt (numsOf (List.replicate ((W .i64 (252 - (x2.length : Int))).toNat) (V.int .u8 0))) fun ns_1 =>
  gd (decide (x2.length + (ns_1.map fun n => UInt8.ofNat n.toNat).length ≤ 4611686018427387904)) <|
  idxK m0 p fun v_7 =>
  d63 v_7 fun s_7 pins_7 dirty_7 first_7 last_7 =>
  idxK ((m0).set p (V.agg [V.str (x2 ++ (ns_1.map fun n => UInt8.ofNat n.toNat)), V.int .i64 pins_7, V.bool dirty_7, V.int .i64 first_7, V.int .i64 last_7])) p fun v_8 =>
  d63 v_8 fun s_8 pins_8 dirty_8 first_8 last_8 =>
  idxK (((m0).set p (V.agg [V.str (x2 ++ (ns_1.map fun n => UInt8.ofNat n.toNat)), V.int .i64 pins_7, V.bool dirty_7, V.int .i64 first_7, V.int .i64 last_7])).set p (V.agg [V.str s_8, V.int .i64 pins_8, V.bool true, V.int .i64 first_8, V.int .i64 last_8])) p fun v_9 =>
  d63 v_9 fun s_9 pins_9 dirty_9 first_9 last_9 =>
  some (.doneM (V.int .i64 0) [O.arena 63 ((((m0).set p (V.agg [V.str (x2 ++ (ns_1.map fun n => UInt8.ofNat n.toNat)), V.int .i64 pins_7, V.bool dirty_7, V.int .i64 first_7, V.int .i64 last_7])).set p (V.agg [V.str s_8, V.int .i64 pins_8, V.bool true, V.int .i64 first_8, V.int .i64 last_8])).set p (V.agg [V.str s_9, V.int .i64 pins_9, V.bool dirty_9, V.int .i64 first_9, V.int .i64 x3])), O.arena 7 m1, O.box 59 (V.agg [V.ptr 3 0 0, V.int .i64 m2_1, V.mp 4, V.tail 5 0, V.int .i64 m2_4]) false, O.box 56 (V.agg [V.int .i64 m3_0, V.mp 6, V.tail 7 0]) false, O.map m4, O.row 3 m5 0, O.map m6, O.row 88 m7 z7, O.row 5 (List.replicate ((W .i64 (252 - (x2.length : Int))).toNat) (V.int .u8 0)) 0]))))))
theorem e11_eq (x1 : Int) (x2 : List UInt8) (x3 : Int) (m0 : List V) (m1 : List V) (m2_1 : Int) (m2_4 : Int) (m3_0 : Int) (m4 : List (V × V)) (m5 : List V) (m6 : List (V × V)) (m7 : List V) (z7 : Nat) : enterK qk true fa11 [V.ptr 2 0 0, V.int .i64 x1, V.str x2, V.int .i64 x3] [O.arena 63 m0, O.arena 7 m1, O.box 59 (V.agg [V.ptr 3 0 0, V.int .i64 m2_1, V.mp 4, V.tail 5 0, V.int .i64 m2_4]) false, O.box 56 (V.agg [V.int .i64 m3_0, V.mp 6, V.tail 7 0]) false, O.map m4, O.row 3 m5 0, O.map m6, O.row 88 m7 z7] = e11 x1 x2 x3 m0 m1 m2_1 m2_4 m3_0 m4 m5 m6 m7 z7 := by kernel_rfl
theorem e11_run (x1 : Int) (x2 : List UInt8) (x3 : Int) (m0 : List V) (m1 : List V) (m2_1 : Int) (m2_4 : Int) (m3_0 : Int) (m4 : List (V × V)) (m5 : List V) (m6 : List (V × V)) (m7 : List V) (z7 : Nat) {o : Out} {r : V × List O} (h : e11 x1 x2 x3 m0 m1 m2_1 m2_4 m3_0 m4 m5 m6 m7 z7 = some o) (hg : GoN qk 8 fa11 ⟨true, false⟩ [O.arena 63 m0, O.arena 7 m1, O.box 59 (V.agg [V.ptr 3 0 0, V.int .i64 m2_1, V.mp 4, V.tail 5 0, V.int .i64 m2_4]) false, O.box 56 (V.agg [V.int .i64 m3_0, V.mp 6, V.tail 7 0]) false, O.map m4, O.row 3 m5 0, O.map m6, O.row 88 m7 z7] o r) : icC qcfg ⟨true, false⟩ 11 [V.ptr 2 0 0, V.int .i64 x1, V.str x2, V.int .i64 x3] [O.arena 63 m0, O.arena 7 m1, O.box 59 (V.agg [V.ptr 3 0 0, V.int .i64 m2_1, V.mp 4, V.tail 5 0, V.int .i64 m2_4]) false, O.box 56 (V.agg [V.int .i64 m3_0, V.mp 6, V.tail 7 0]) false, O.map m4, O.row 3 m5 0, O.map m6, O.row 88 m7 z7] = some r := icC_go qik rfl fa11_eq ((e11_eq x1 x2 x3 m0 m1 m2_1 m2_4 m3_0 m4 m5 m6 m7 z7).trans h) hg
noncomputable def fa10 : FA := ⟨2, 23, [.tmp 4], [24],
 (.seq
 (.ops false [o1 4 (.assign (.const (.int .i64 (0)))) 24])
 (.seq
 (.ops false [mv 8 0 27, mv 9 1 3, o1 10 (.call ⟨(.value (.func 27)), #[(t' 8), (t' 9)], #[27, 3]⟩) 64, mv 7 10 64, o1 11 (.extract (t' 7) 0) 60, o1 12 (.extract (t' 7) 1) 24, asg 5 11 60, asg 6 12 24])
 (.seq
 (.seq
 (.ops false [mv 13 6 24, o1 14 (.binOp .eql 24 (t' 13) (.const (.int .i64 (0))) 24) 4])
 (.cond (t' 14)
 (.ops false [mv 15 5 60, o1 16 (.nilCheck (t' 15)) 0, o1 17 (.fieldAddr 63 (t' 16) 1) 0, o1 18 (.load 3 (t' 17)) 3, o1 19 (.binOp .sub 3 (t' 18) (.const (.int .i64 (1))) 3) 3, o1 20 (.nilCheck (t' 15)) 0, o1 21 (.fieldAddr 63 (t' 20) 1) 0, o0 (.store 3 (t' 21) (t' 19)) 0])
 (.skip)))
 (.seq
 (.ops false [mv 22 6 24, asg 4 22 24])
 (.ret)))))⟩
theorem fa10_eq : fnA qcfg.P (qcfg.rxf 10) 10 = some fa10 := by kernel_rfl
noncomputable def e10 (x1 : Int) (m0 : List V) (m1 : List V) (m2_1 : Int) (m2_4 : Int) (m3_0 : Int) (m4 : List (V × V)) (m5 : List V) (m6 : List (V × V)) (m7 : List V) (z7 : Nat) : R :=
  mfK m4 (V.int .i64 x1)
 (some (.doneM (V.int .i64 7) [O.arena 63 m0, O.arena 7 m1, O.box 59 (V.agg [V.ptr 3 0 0, V.int .i64 m2_1, V.mp 4, V.tail 5 0, V.int .i64 m2_4]) false, O.box 56 (V.agg [V.int .i64 m3_0, V.mp 6, V.tail 7 0]) false, O.map m4, O.row 3 m5 0, O.map m6, O.row 88 m7 z7])) fun r =>
  kP 63 r fun p =>
  idxK m0 p fun v =>
  d63 v fun s pins dirty first last =>
  cond (pins == (0 : Int))
 (some (.doneM (V.int .i64 9) [O.arena 63 m0, O.arena 7 m1, O.box 59 (V.agg [V.ptr 3 0 0, V.int .i64 m2_1, V.mp 4, V.tail 5 0, V.int .i64 m2_4]) false, O.box 56 (V.agg [V.int .i64 m3_0, V.mp 6, V.tail 7 0]) false, O.map m4, O.row 3 m5 0, O.map m6, O.row 88 m7 z7]))
 (idxK m0 p fun v_1 =>
  d63 v_1 fun s_1 pins_1 dirty_1 first_1 last_1 =>
  idxK m0 p fun v_2 =>
  d63 v_2 fun s_2 pins_2 dirty_2 first_2 last_2 =>
  some (.doneM (V.int .i64 0) [O.arena 63 ((m0).set p (V.agg [V.str s_2, V.int .i64 (W .i64 (pins_1 - 1)), V.bool dirty_2, V.int .i64 first_2, V.int .i64 last_2])), O.arena 7 m1, O.box 59 (V.agg [V.ptr 3 0 0, V.int .i64 m2_1, V.mp 4, V.tail 5 0, V.int .i64 m2_4]) false, O.box 56 (V.agg [V.int .i64 m3_0, V.mp 6, V.tail 7 0]) false, O.map m4, O.row 3 m5 0, O.map m6, O.row 88 m7 z7]))
theorem e10_eq (x1 : Int) (m0 : List V) (m1 : List V) (m2_1 : Int) (m2_4 : Int) (m3_0 : Int) (m4 : List (V × V)) (m5 : List V) (m6 : List (V × V)) (m7 : List V) (z7 : Nat) : enterK qk true fa10 [V.ptr 2 0 0, V.int .i64 x1] [O.arena 63 m0, O.arena 7 m1, O.box 59 (V.agg [V.ptr 3 0 0, V.int .i64 m2_1, V.mp 4, V.tail 5 0, V.int .i64 m2_4]) false, O.box 56 (V.agg [V.int .i64 m3_0, V.mp 6, V.tail 7 0]) false, O.map m4, O.row 3 m5 0, O.map m6, O.row 88 m7 z7] = e10 x1 m0 m1 m2_1 m2_4 m3_0 m4 m5 m6 m7 z7 := by kernel_rfl
theorem e10_run (x1 : Int) (m0 : List V) (m1 : List V) (m2_1 : Int) (m2_4 : Int) (m3_0 : Int) (m4 : List (V × V)) (m5 : List V) (m6 : List (V × V)) (m7 : List V) (z7 : Nat) {o : Out} {r : V × List O} (h : e10 x1 m0 m1 m2_1 m2_4 m3_0 m4 m5 m6 m7 z7 = some o) (hg : GoN qk 8 fa10 ⟨true, false⟩ [O.arena 63 m0, O.arena 7 m1, O.box 59 (V.agg [V.ptr 3 0 0, V.int .i64 m2_1, V.mp 4, V.tail 5 0, V.int .i64 m2_4]) false, O.box 56 (V.agg [V.int .i64 m3_0, V.mp 6, V.tail 7 0]) false, O.map m4, O.row 3 m5 0, O.map m6, O.row 88 m7 z7] o r) : icC qcfg ⟨true, false⟩ 10 [V.ptr 2 0 0, V.int .i64 x1] [O.arena 63 m0, O.arena 7 m1, O.box 59 (V.agg [V.ptr 3 0 0, V.int .i64 m2_1, V.mp 4, V.tail 5 0, V.int .i64 m2_4]) false, O.box 56 (V.agg [V.int .i64 m3_0, V.mp 6, V.tail 7 0]) false, O.map m4, O.row 3 m5 0, O.map m6, O.row 88 m7 z7] = some r := icC_go qik rfl fa10_eq ((e10_eq x1 m0 m1 m2_1 m2_4 m3_0 m4 m5 m6 m7 z7).trans h) hg
noncomputable def fa22 : FA := ⟨1, 43, [.tmp 2, .tmp 3], [3, 4],
 (.seq
 (.ops false [o1 2 (.assign (.const (.int .i64 (0)))) 3, o1 3 (.assign (.const (.bool false))) 4])
 (.seq
 (.ops false [mv 8 0 27, o1 9 (.call ⟨(.value (.func 21)), #[(t' 8)], #[27]⟩) 45, asg 4 9 45])
 (.seq
 (.seq
 (.ops false [mv 10 4 45, o1 11 (.call ⟨(.builtin .len), #[(t' 10)], #[45]⟩) 3, o1 12 (.binOp .eql 3 (t' 11) (.const (.int .i64 (0))) 3) 4])
 (.cond (t' 12)
 (.seq
 (.ops false [o1 2 (.assign (.const (.int .i64 (0)))) 3, o1 3 (.assign (.const (.bool false))) 4])
 (.ret))
 (.skip)))
 (.seq
 (.ops true [mv 13 0 27, o1 14 (.nilCheck (t' 13)) 0, o1 15 (.fieldAddr 59 (t' 14) 2) 0, o1 16 (.load 57 (t' 15)) 57, mv 17 4 45, o1 18 (.indexAddr 45 (t' 17) (.const (.int .i64 (0)))) 0, o1 19 (.load 3 (t' 18)) 3, o1 20 (.lookup 57 (t' 16) (t' 19) false) 60, o1 21 (.nilCheck (t' 20)) 0, o1 22 (.fieldAddr 63 (t' 21) 3) 0, o1 23 (.load 3 (t' 22)) 3, asg 5 23 3])
 (.seq
 (.seq
 (.ops false [mv 24 4 45, o1 25 (.call ⟨(.builtin .len), #[(t' 24)], #[45]⟩) 3, o1 26 (.move (.const (.int .i64 (0)))) 3])
 (.block 0
 (.loop ([1, 4] ++ List.range' 6 18 ++ List.range' 27 16)
 (.seq
 (.ops false [o1 27 (.binOp .lss 3 (t' 26) (t' 25) 3) 0])
 (.seq
 (.cond (t' 27)
 (.skip)
 (.exit 0))
 (.seq
 (.block 1
 (.seq
 (.ops false [o1 28 (.indexAddr 45 (t' 24) (t' 26)) 0, o1 29 (.load 3 (t' 28)) 3, asg 7 29 3])
 (.ops false [mv 30 5 3, mv 31 0 27, o1 32 (.nilCheck (t' 31)) 0, o1 33 (.fieldAddr 59 (t' 32) 2) 0, o1 34 (.load 57 (t' 33)) 57, mv 35 7 3, o1 36 (.lookup 57 (t' 34) (t' 35) false) 60, o1 37 (.nilCheck (t' 36)) 0, o1 38 (.fieldAddr 63 (t' 37) 3) 0, o1 39 (.load 3 (t' 38)) 3, o1 40 (.call ⟨(.builtin .min), #[(t' 30), (t' 39)], #[3, 3]⟩) 3, asg 5 40 3])))
 (.ops false [o1 41 (.binOp .add 3 (t' 26) (.const (.int .i64 (1))) 3) 3, mv 26 41 3])))))))
 (.seq
 (.ops false [mv 42 5 3, asg 2 42 3, o1 3 (.assign (.const (.bool true))) 4])
 (.ret)))))))⟩
theorem fa22_eq : fnA qcfg.P (qcfg.rxf 22) 22 = some fa22 := by kernel_rfl
def T22_0 (x5 : Int) (x24 : Nat) (x25 : Int) (x26 : Int) (m0 : List V) (m1 : List V) (m2_1 : Int) (m2_4 : Int) (m3_0 : Int) (m4 : List (V × V)) (m5 : List V) (m6 : List (V × V)) (m7 : List V) (z7 : Nat) (m8 : List V) : S := ⟨[V.ptr 2 0 0, V.junk, V.int .i64 0, V.bool false, V.junk, V.int .i64 x5] ++ (JU 18) ++ [V.win 8 0 x24, V.int .i64 x25, V.int .i64 x26] ++ (JU 16), [O.arena 63 m0, O.arena 7 m1, O.box 59 (V.agg [V.ptr 3 0 0, V.int .i64 m2_1, V.mp 4, V.tail 5 0, V.int .i64 m2_4]) false, O.box 56 (V.agg [V.int .i64 m3_0, V.mp 6, V.tail 7 0]) false, O.map m4, O.row 3 m5 0, O.map m6, O.row 88 m7 z7, O.row 3 m8 0]⟩
noncomputable def e22 (m0 : List V) (m1 : List V) (m2_1 : Int) (m2_4 : Int) (m3_0 : Int) (m4 : List (V × V)) (m5 : List V) (m6 : List (V × V)) (m7 : List V) (z7 : Nat) : R :=
  icM qcfg ⟨true, true⟩ mk21 21 [V.ptr 2 0 0] [O.arena 63 m0, O.arena 7 m1, O.box 59 (V.agg [V.ptr 3 0 0, V.int .i64 m2_1, V.mp 4, V.tail 5 0, V.int .i64 m2_4]) false, O.box 56 (V.agg [V.int .i64 m3_0, V.mp 6, V.tail 7 0]) false, O.map m4, O.row 3 m5 0, O.map m6, O.row 88 m7 z7] fun L =>
  gd (decide (0 + L.1 ≤ L.2.2.2.2.2.2.2.2.2.2.2.length)) <|
  cond (((((L.2.2.2.2.2.2.2.2.2.2.2).drop 0).take L.1).length : Int) == (0 : Int))
 (some (.doneM (V.tup [V.int .i64 0, V.bool false]) [O.arena 63 L.2.1, O.arena 7 L.2.2.1, O.box 59 (V.agg [V.ptr 3 0 0, V.int .i64 L.2.2.2.1, V.mp 4, V.tail 5 0, V.int .i64 L.2.2.2.2.1]) false, O.box 56 (V.agg [V.int .i64 L.2.2.2.2.2.1, V.mp 6, V.tail 7 0]) false, O.map L.2.2.2.2.2.2.1, O.row 3 L.2.2.2.2.2.2.2.1 0, O.map L.2.2.2.2.2.2.2.2.1, O.row 88 L.2.2.2.2.2.2.2.2.2.1 L.2.2.2.2.2.2.2.2.2.2.1, O.row 3 L.2.2.2.2.2.2.2.2.2.2.2 0]))
 (gd (decide (0 < L.1)) <|
  gd (decide (0 + L.1 ≤ L.2.2.2.2.2.2.2.2.2.2.2.length)) <|
  idxK L.2.2.2.2.2.2.2.2.2.2.2 (0 + 0) fun v =>
  kI .i64 v fun n =>
  mfK L.2.2.2.2.2.2.1 (V.int .i64 n)
 (none) fun r =>
  kP 63 r fun p =>
  idxK L.2.1 p fun v_1 =>
  d63 v_1 fun s pins dirty first last =>
  gd (decide (0 + L.1 ≤ L.2.2.2.2.2.2.2.2.2.2.2.length)) <|
  some (.head 0 (T22_0 first L.1 ((((L.2.2.2.2.2.2.2.2.2.2.2).drop 0).take L.1).length : Int) 0 L.2.1 L.2.2.1 L.2.2.2.1 L.2.2.2.2.1 L.2.2.2.2.2.1 L.2.2.2.2.2.2.1 L.2.2.2.2.2.2.2.1 L.2.2.2.2.2.2.2.2.1 L.2.2.2.2.2.2.2.2.2.1 L.2.2.2.2.2.2.2.2.2.2.1 L.2.2.2.2.2.2.2.2.2.2.2)))
theorem e22_eq (m0 : List V) (m1 : List V) (m2_1 : Int) (m2_4 : Int) (m3_0 : Int) (m4 : List (V × V)) (m5 : List V) (m6 : List (V × V)) (m7 : List V) (z7 : Nat) : enterK qk true fa22 [V.ptr 2 0 0] [O.arena 63 m0, O.arena 7 m1, O.box 59 (V.agg [V.ptr 3 0 0, V.int .i64 m2_1, V.mp 4, V.tail 5 0, V.int .i64 m2_4]) false, O.box 56 (V.agg [V.int .i64 m3_0, V.mp 6, V.tail 7 0]) false, O.map m4, O.row 3 m5 0, O.map m6, O.row 88 m7 z7] = e22 m0 m1 m2_1 m2_4 m3_0 m4 m5 m6 m7 z7 := by kernel_rfl
theorem e22_run (m0 : List V) (m1 : List V) (m2_1 : Int) (m2_4 : Int) (m3_0 : Int) (m4 : List (V × V)) (m5 : List V) (m6 : List (V × V)) (m7 : List V) (z7 : Nat) {o : Out} {r : V × List O} (h : e22 m0 m1 m2_1 m2_4 m3_0 m4 m5 m6 m7 z7 = some o) (hg : GoN qk 8 fa22 ⟨true, false⟩ [O.arena 63 m0, O.arena 7 m1, O.box 59 (V.agg [V.ptr 3 0 0, V.int .i64 m2_1, V.mp 4, V.tail 5 0, V.int .i64 m2_4]) false, O.box 56 (V.agg [V.int .i64 m3_0, V.mp 6, V.tail 7 0]) false, O.map m4, O.row 3 m5 0, O.map m6, O.row 88 m7 z7] o r) : icC qcfg ⟨true, false⟩ 22 [V.ptr 2 0 0] [O.arena 63 m0, O.arena 7 m1, O.box 59 (V.agg [V.ptr 3 0 0, V.int .i64 m2_1, V.mp 4, V.tail 5 0, V.int .i64 m2_4]) false, O.box 56 (V.agg [V.int .i64 m3_0, V.mp 6, V.tail 7 0]) false, O.map m4, O.row 3 m5 0, O.map m6, O.row 88 m7 z7] = some r := icC_go qik rfl fa22_eq ((e22_eq m0 m1 m2_1 m2_4 m3_0 m4 m5 m6 m7 z7).trans h) hg
noncomputable def s22_0 (x5 : Int) (x24 : Nat) (x25 : Int) (x26 : Int) (m0 : List V) (m1 : List V) (m2_1 : Int) (m2_4 : Int) (m3_0 : Int) (m4 : List (V × V)) (m5 : List V) (m6 : List (V × V)) (m7 : List V) (z7 : Nat) (m8 : List V) : R :=
  cond (decide (x26 < x25))
 (gd (decide (0 ≤ x26)) <|
  gd (decide (x26.toNat < x24)) <|
  gd (decide (0 + x24 ≤ m8.length)) <|
  idxK m8 (0 + x26.toNat) fun v =>
  kI .i64 v fun n =>
  mfK m4 (V.int .i64 n)
 (none) fun r =>
  kP 63 r fun p =>
  idxK m0 p fun v_1 =>
  d63 v_1 fun s pins dirty first last =>
  some (.head 0 (T22_0 (if first < x5 then first else x5) x24 x25 (W .i64 (x26 + 1)) m0 m1 m2_1 m2_4 m3_0 m4 m5 m6 m7 z7 m8)))
 (some (.doneM (V.tup [V.int .i64 x5, V.bool true]) [O.arena 63 m0, O.arena 7 m1, O.box 59 (V.agg [V.ptr 3 0 0, V.int .i64 m2_1, V.mp 4, V.tail 5 0, V.int .i64 m2_4]) false, O.box 56 (V.agg [V.int .i64 m3_0, V.mp 6, V.tail 7 0]) false, O.map m4, O.row 3 m5 0, O.map m6, O.row 88 m7 z7, O.row 3 m8 0]))
theorem s22_0_eq (x5 : Int) (x24 : Nat) (x25 : Int) (x26 : Int) (m0 : List V) (m1 : List V) (m2_1 : Int) (m2_4 : Int) (m3_0 : Int) (m4 : List (V × V)) (m5 : List V) (m6 : List (V × V)) (m7 : List V) (z7 : Nat) (m8 : List V) : goK qk true 8 fa22 0 (T22_0 x5 x24 x25 x26 m0 m1 m2_1 m2_4 m3_0 m4 m5 m6 m7 z7 m8) = s22_0 x5 x24 x25 x26 m0 m1 m2_1 m2_4 m3_0 m4 m5 m6 m7 z7 m8 := by kernel_rfl
theorem s22_0_run (x5 : Int) (x24 : Nat) (x25 : Int) (x26 : Int) (m0 : List V) (m1 : List V) (m2_1 : Int) (m2_4 : Int) (m3_0 : Int) (m4 : List (V × V)) (m5 : List V) (m6 : List (V × V)) (m7 : List V) (z7 : Nat) (m8 : List V) {o o' : Out} (h : s22_0 x5 x24 x25 x26 m0 m1 m2_1 m2_4 m3_0 m4 m5 m6 m7 z7 m8 = some o) (hg : Go qk true 8 fa22 o o') : Go qk true 8 fa22 (.head 0 (T22_0 x5 x24 x25 x26 m0 m1 m2_1 m2_4 m3_0 m4 m5 m6 m7 z7 m8)) o' := .step ((s22_0_eq x5 x24 x25 x26 m0 m1 m2_1 m2_4 m3_0 m4 m5 m6 m7 z7 m8).trans h) hg
noncomputable def fa15 : FA := ⟨2, 16, [.tmp 4, .tmp 5], [9, 24],
 (.seq
 (.ops false [o1 4 (.assign (.const (.string ⟨⟨[]⟩⟩))) 9, o1 5 (.assign (.const (.int .i64 (0)))) 24])
 (.seq
 (.seq
 (.ops false [mv 6 0 23, mv 7 1 3, o1 8 (.call ⟨(.value (.func 31)), #[(t' 6), (t' 7)], #[23, 3]⟩) 4, o1 9 (.unOp .not 4 (t' 8)) 4])
 (.cond (t' 9)
 (.seq
 (.ops false [o1 4 (.assign (.const (.string ⟨⟨[]⟩⟩))) 9, o1 5 (.assign (.const (.int .i64 (1)))) 24])
 (.ret))
 (.skip)))
 (.seq
 (.ops false [mv 10 0 23, mv 11 1 3, o1 12 (.call ⟨(.value (.func 33)), #[(t' 10), (t' 11)], #[23, 3]⟩) 9, o1 13 (.call ⟨(.value (.func 32)), #[(t' 12)], #[9]⟩) 32, o1 14 (.extract (t' 13) 0) 9, o1 15 (.extract (t' 13) 1) 24, asg 4 14 9, asg 5 15 24])
 (.ret))))⟩
theorem fa15_eq : fnA qcfg.P (qcfg.rxf 15) 15 = some fa15 := by kernel_rfl
noncomputable def e15 (x1 : Int) (m0 : List V) (m1 : List V) (m2_0 : Int) (m3 : List (V × V)) (m4 : List V) (z4 : Nat) : R :=
  cond (decide (x1 ≥ 0))
 (cond (!(decide (x1 < m2_0)))
 (some (.doneM (V.tup [V.str [], V.int .i64 1]) [O.arena 63 m0, O.arena 7 m1, O.box 56 (V.agg [V.int .i64 m2_0, V.mp 3, V.tail 4 0]) false, O.map m3, O.row 88 m4 z4]))
 (icM qcfg ⟨true, false⟩ mk33 33 [V.ptr 2 0 0, V.int .i64 x1] [O.arena 63 m0, O.arena 7 m1, O.box 56 (V.agg [V.int .i64 m2_0, V.mp 3, V.tail 4 0]) false, O.map m3, O.row 88 m4 z4] fun L =>
  pcK qcfg 32 [V.str L.1] fun r =>
  d32 r fun r32_0 r32_1 =>
  some (.doneM (V.tup [V.str r32_0, V.int .i64 r32_1]) [O.arena 63 L.2.1, O.arena 7 L.2.2.1, O.box 56 (V.agg [V.int .i64 L.2.2.2.1, V.mp 3, V.tail 4 0]) false, O.map L.2.2.2.2.1, O.row 88 L.2.2.2.2.2.1 L.2.2.2.2.2.2])))
 (some (.doneM (V.tup [V.str [], V.int .i64 1]) [O.arena 63 m0, O.arena 7 m1, O.box 56 (V.agg [V.int .i64 m2_0, V.mp 3, V.tail 4 0]) false, O.map m3, O.row 88 m4 z4]))
theorem e15_eq (x1 : Int) (m0 : List V) (m1 : List V) (m2_0 : Int) (m3 : List (V × V)) (m4 : List V) (z4 : Nat) : enterK qk true fa15 [V.ptr 2 0 0, V.int .i64 x1] [O.arena 63 m0, O.arena 7 m1, O.box 56 (V.agg [V.int .i64 m2_0, V.mp 3, V.tail 4 0]) false, O.map m3, O.row 88 m4 z4] = e15 x1 m0 m1 m2_0 m3 m4 z4 := by kernel_rfl
theorem e15_run (x1 : Int) (m0 : List V) (m1 : List V) (m2_0 : Int) (m3 : List (V × V)) (m4 : List V) (z4 : Nat) {o : Out} {r : V × List O} (h : e15 x1 m0 m1 m2_0 m3 m4 z4 = some o) (hg : GoN qk 5 fa15 ⟨true, false⟩ [O.arena 63 m0, O.arena 7 m1, O.box 56 (V.agg [V.int .i64 m2_0, V.mp 3, V.tail 4 0]) false, O.map m3, O.row 88 m4 z4] o r) : icC qcfg ⟨true, false⟩ 15 [V.ptr 2 0 0, V.int .i64 x1] [O.arena 63 m0, O.arena 7 m1, O.box 56 (V.agg [V.int .i64 m2_0, V.mp 3, V.tail 4 0]) false, O.map m3, O.row 88 m4 z4] = some r := icC_go qik rfl fa15_eq ((e15_eq x1 m0 m1 m2_0 m3 m4 z4).trans h) hg
noncomputable def fa19 : FA := ⟨1, 9, [.tmp 2], [45],
 (.seq
 (.ops false [o1 2 (.assign (.const (.slice none 0 0))) 45])
 (.seq
 (.ops false [mv 3 0 27, o1 4 (.nilCheck (t' 3)) 0, o1 5 (.fieldAddr 59 (t' 4) 2) 0, o1 6 (.load 57 (t' 5)) 57, o1 7 (.call ⟨(.value (.func 38)), #[(t' 6)], #[57]⟩) 76, o1 8 (.call ⟨(.value (.func 37)), #[(t' 7)], #[76]⟩) 45, asg 2 8 45])
 (.ret)))⟩
theorem fa19_eq : fnA qcfg.P (qcfg.rxf 19) 19 = some fa19 := by kernel_rfl
noncomputable def e19 (m0 : List V) (m1 : List V) (m2_1 : Int) (m2_4 : Int) (m3_0 : Int) (m4 : List (V × V)) (m5 : List V) (m6 : List (V × V)) (m7 : List V) (z7 : Nat) : R :=
  opt (keyInts m4) fun ks =>
  gd (decide (ks.length ≤ 16777216)) <|
  some (.doneM (V.own 10) [O.arena 63 m0, O.arena 7 m1, O.box 59 (V.agg [V.ptr 3 0 0, V.int .i64 m2_1, V.mp 4, V.tail 5 0, V.int .i64 m2_4]) false, O.box 56 (V.agg [V.int .i64 m3_0, V.mp 6, V.tail 7 0]) false, O.map m4, O.row 3 m5 0, O.map m6, O.row 88 m7 z7, O.row 3 [] 0, O.box 57 (V.mp 4) false, O.row 3 ((srt ks).map iV) 0])
theorem e19_eq (m0 : List V) (m1 : List V) (m2_1 : Int) (m2_4 : Int) (m3_0 : Int) (m4 : List (V × V)) (m5 : List V) (m6 : List (V × V)) (m7 : List V) (z7 : Nat) : enterK qk true fa19 [V.ptr 2 0 0] [O.arena 63 m0, O.arena 7 m1, O.box 59 (V.agg [V.ptr 3 0 0, V.int .i64 m2_1, V.mp 4, V.tail 5 0, V.int .i64 m2_4]) false, O.box 56 (V.agg [V.int .i64 m3_0, V.mp 6, V.tail 7 0]) false, O.map m4, O.row 3 m5 0, O.map m6, O.row 88 m7 z7] = e19 m0 m1 m2_1 m2_4 m3_0 m4 m5 m6 m7 z7 := by kernel_rfl
theorem e19_run (m0 : List V) (m1 : List V) (m2_1 : Int) (m2_4 : Int) (m3_0 : Int) (m4 : List (V × V)) (m5 : List V) (m6 : List (V × V)) (m7 : List V) (z7 : Nat) {o : Out} {r : V × List O} (h : e19 m0 m1 m2_1 m2_4 m3_0 m4 m5 m6 m7 z7 = some o) (hg : GoN qk 8 fa19 ⟨true, false⟩ [O.arena 63 m0, O.arena 7 m1, O.box 59 (V.agg [V.ptr 3 0 0, V.int .i64 m2_1, V.mp 4, V.tail 5 0, V.int .i64 m2_4]) false, O.box 56 (V.agg [V.int .i64 m3_0, V.mp 6, V.tail 7 0]) false, O.map m4, O.row 3 m5 0, O.map m6, O.row 88 m7 z7] o r) : icC qcfg ⟨true, false⟩ 19 [V.ptr 2 0 0] [O.arena 63 m0, O.arena 7 m1, O.box 59 (V.agg [V.ptr 3 0 0, V.int .i64 m2_1, V.mp 4, V.tail 5 0, V.int .i64 m2_4]) false, O.box 56 (V.agg [V.int .i64 m3_0, V.mp 6, V.tail 7 0]) false, O.map m4, O.row 3 m5 0, O.map m6, O.row 88 m7 z7] = some r := icC_go qik rfl fa19_eq ((e19_eq m0 m1 m2_1 m2_4 m3_0 m4 m5 m6 m7 z7).trans h) hg
noncomputable def fa21 : FA := ⟨1, 7, [.tmp 2], [45],
 (.seq
 (.ops false [o1 1 (.box 27 (t' 0)) 0, o1 2 (.assign (.const (.slice none 0 0))) 45])
 (.seq
 (.ops false [o1 3 (.load 27 (t' 1)) 27, o1 4 (.call ⟨(.value (.func 19)), #[(t' 3)], #[27]⟩) 45, o1 5 (.makeFunc (.func 40) #[] #[(t' 1)]) 69, o1 6 (.call ⟨(.value (.func 39)), #[(t' 4), (t' 5)], #[45, 69]⟩) 45, asg 2 6 45])
 (.ret)))⟩
theorem fa21_eq : fnA qcfg.P (qcfg.rxf 21) 21 = some fa21 := by kernel_rfl
noncomputable def e21 (m0 : List V) (m1 : List V) (m2_1 : Int) (m2_4 : Int) (m3_0 : Int) (m4 : List (V × V)) (m5 : List V) (m6 : List (V × V)) (m7 : List V) (z7 : Nat) : R :=
  icM qcfg ⟨true, false⟩ mk19 19 [V.ptr 2 0 0] [O.arena 63 m0, O.arena 7 m1, O.box 59 (V.agg [V.ptr 3 0 0, V.int .i64 m2_1, V.mp 4, V.tail 5 0, V.int .i64 m2_4]) false, O.box 56 (V.agg [V.int .i64 m3_0, V.mp 6, V.tail 7 0]) false, O.map m4, O.row 3 m5 0, O.map m6, O.row 88 m7 z7] fun L =>
  icM qcfg ⟨true, true⟩ mk39 39 [V.own 2, V.fn 40 [V.ptr 3 0 0]] [O.arena 63 L.1, O.arena 7 L.2.1, O.row 3 L.2.2.2.2.2.2.2.2.2.2 0, O.box 27 (V.ptr 4 0 0) false, O.box 59 (V.agg [V.ptr 5 0 0, V.int .i64 L.2.2.1, V.mp 6, V.tail 7 0, V.int .i64 L.2.2.2.1]) false, O.box 56 (V.agg [V.int .i64 L.2.2.2.2.1, V.mp 8, V.tail 9 0]) false, O.map L.2.2.2.2.2.1, O.row 3 L.2.2.2.2.2.2.1 0, O.map L.2.2.2.2.2.2.2.1, O.row 88 L.2.2.2.2.2.2.2.2.1 L.2.2.2.2.2.2.2.2.2.1] fun L_1 =>
  some (.doneM (V.win 10 0 L_1.1) [O.arena 63 L_1.2.1, O.arena 7 L_1.2.2.1, O.box 59 (V.agg [V.ptr 3 0 0, V.int .i64 L_1.2.2.2.2.1, V.mp 4, V.tail 5 0, V.int .i64 L_1.2.2.2.2.2.1]) false, O.box 56 (V.agg [V.int .i64 L_1.2.2.2.2.2.2.1, V.mp 6, V.tail 7 0]) false, O.map L_1.2.2.2.2.2.2.2.1, O.row 3 L_1.2.2.2.2.2.2.2.2.1 0, O.map L_1.2.2.2.2.2.2.2.2.2.1, O.row 88 L_1.2.2.2.2.2.2.2.2.2.2.1 L_1.2.2.2.2.2.2.2.2.2.2.2, O.box 27 (V.ptr 2 0 0) false, O.row 3 [] 0, O.row 3 L_1.2.2.2.1 0])
theorem e21_eq (m0 : List V) (m1 : List V) (m2_1 : Int) (m2_4 : Int) (m3_0 : Int) (m4 : List (V × V)) (m5 : List V) (m6 : List (V × V)) (m7 : List V) (z7 : Nat) : enterK qk true fa21 [V.ptr 2 0 0] [O.arena 63 m0, O.arena 7 m1, O.box 59 (V.agg [V.ptr 3 0 0, V.int .i64 m2_1, V.mp 4, V.tail 5 0, V.int .i64 m2_4]) false, O.box 56 (V.agg [V.int .i64 m3_0, V.mp 6, V.tail 7 0]) false, O.map m4, O.row 3 m5 0, O.map m6, O.row 88 m7 z7] = e21 m0 m1 m2_1 m2_4 m3_0 m4 m5 m6 m7 z7 := by kernel_rfl
theorem e21_run (m0 : List V) (m1 : List V) (m2_1 : Int) (m2_4 : Int) (m3_0 : Int) (m4 : List (V × V)) (m5 : List V) (m6 : List (V × V)) (m7 : List V) (z7 : Nat) {o : Out} {r : V × List O} (h : e21 m0 m1 m2_1 m2_4 m3_0 m4 m5 m6 m7 z7 = some o) (hg : GoN qk 8 fa21 ⟨true, true⟩ [O.arena 63 m0, O.arena 7 m1, O.box 59 (V.agg [V.ptr 3 0 0, V.int .i64 m2_1, V.mp 4, V.tail 5 0, V.int .i64 m2_4]) false, O.box 56 (V.agg [V.int .i64 m3_0, V.mp 6, V.tail 7 0]) false, O.map m4, O.row 3 m5 0, O.map m6, O.row 88 m7 z7] o r) : icC qcfg ⟨true, true⟩ 21 [V.ptr 2 0 0] [O.arena 63 m0, O.arena 7 m1, O.box 59 (V.agg [V.ptr 3 0 0, V.int .i64 m2_1, V.mp 4, V.tail 5 0, V.int .i64 m2_4]) false, O.box 56 (V.agg [V.int .i64 m3_0, V.mp 6, V.tail 7 0]) false, O.map m4, O.row 3 m5 0, O.map m6, O.row 88 m7 z7] = some r := icC_go qik rfl fa21_eq ((e21_eq m0 m1 m2_1 m2_4 m3_0 m4 m5 m6 m7 z7).trans h) hg
noncomputable def fa20 : FA := ⟨2, 21, [.tmp 4], [3],
 (.seq
 (.ops false [o1 4 (.assign (.const (.int .i64 (0)))) 3])
 (.seq
 (.seq
 (.ops false [mv 5 0 27, o1 6 (.nilCheck (t' 5)) 0, o1 7 (.fieldAddr 59 (t' 6) 2) 0, o1 8 (.load 57 (t' 7)) 57, mv 9 1 3, o1 10 (.lookup 57 (t' 8) (t' 9) false) 60, o1 11 (.binOp .eql 60 (t' 10) (.const (.pointer none)) 60) 4])
 (.cond (t' 11)
 (.seq
 (.ops false [o1 4 (.assign (.const (.int .i64 (0)))) 3])
 (.ret))
 (.skip)))
 (.seq
 (.ops false [mv 12 0 27, o1 13 (.nilCheck (t' 12)) 0, o1 14 (.fieldAddr 59 (t' 13) 2) 0, o1 15 (.load 57 (t' 14)) 57, mv 16 1 3, o1 17 (.lookup 57 (t' 15) (t' 16) false) 60, o1 18 (.nilCheck (t' 17)) 0, o1 19 (.fieldAddr 63 (t' 18) 1) 0, o1 20 (.load 3 (t' 19)) 3, asg 4 20 3])
 (.ret))))⟩
theorem fa20_eq : fnA qcfg.P (qcfg.rxf 20) 20 = some fa20 := by kernel_rfl
noncomputable def e20 (x1 : Int) (m0 : List V) (m1 : List V) (m2_1 : Int) (m2_4 : Int) (m3_0 : Int) (m4 : List (V × V)) (m5 : List V) (m6 : List (V × V)) (m7 : List V) (z7 : Nat) : R :=
  mfK m4 (V.int .i64 x1)
 (some (.doneM (V.int .i64 0) [O.arena 63 m0, O.arena 7 m1, O.box 59 (V.agg [V.ptr 3 0 0, V.int .i64 m2_1, V.mp 4, V.tail 5 0, V.int .i64 m2_4]) false, O.box 56 (V.agg [V.int .i64 m3_0, V.mp 6, V.tail 7 0]) false, O.map m4, O.row 3 m5 0, O.map m6, O.row 88 m7 z7])) fun r =>
  kP 63 r fun p =>
  mfK m4 (V.int .i64 x1)
 (none) fun r_1 =>
  kP 63 r_1 fun p_1 =>
  idxK m0 p_1 fun v =>
  d63 v fun s pins dirty first last =>
  some (.doneM (V.int .i64 pins) [O.arena 63 m0, O.arena 7 m1, O.box 59 (V.agg [V.ptr 3 0 0, V.int .i64 m2_1, V.mp 4, V.tail 5 0, V.int .i64 m2_4]) false, O.box 56 (V.agg [V.int .i64 m3_0, V.mp 6, V.tail 7 0]) false, O.map m4, O.row 3 m5 0, O.map m6, O.row 88 m7 z7])
theorem e20_eq (x1 : Int) (m0 : List V) (m1 : List V) (m2_1 : Int) (m2_4 : Int) (m3_0 : Int) (m4 : List (V × V)) (m5 : List V) (m6 : List (V × V)) (m7 : List V) (z7 : Nat) : enterK qk true fa20 [V.ptr 2 0 0, V.int .i64 x1] [O.arena 63 m0, O.arena 7 m1, O.box 59 (V.agg [V.ptr 3 0 0, V.int .i64 m2_1, V.mp 4, V.tail 5 0, V.int .i64 m2_4]) false, O.box 56 (V.agg [V.int .i64 m3_0, V.mp 6, V.tail 7 0]) false, O.map m4, O.row 3 m5 0, O.map m6, O.row 88 m7 z7] = e20 x1 m0 m1 m2_1 m2_4 m3_0 m4 m5 m6 m7 z7 := by kernel_rfl
theorem e20_run (x1 : Int) (m0 : List V) (m1 : List V) (m2_1 : Int) (m2_4 : Int) (m3_0 : Int) (m4 : List (V × V)) (m5 : List V) (m6 : List (V × V)) (m7 : List V) (z7 : Nat) {o : Out} {r : V × List O} (h : e20 x1 m0 m1 m2_1 m2_4 m3_0 m4 m5 m6 m7 z7 = some o) (hg : GoN qk 8 fa20 ⟨true, false⟩ [O.arena 63 m0, O.arena 7 m1, O.box 59 (V.agg [V.ptr 3 0 0, V.int .i64 m2_1, V.mp 4, V.tail 5 0, V.int .i64 m2_4]) false, O.box 56 (V.agg [V.int .i64 m3_0, V.mp 6, V.tail 7 0]) false, O.map m4, O.row 3 m5 0, O.map m6, O.row 88 m7 z7] o r) : icC qcfg ⟨true, false⟩ 20 [V.ptr 2 0 0, V.int .i64 x1] [O.arena 63 m0, O.arena 7 m1, O.box 59 (V.agg [V.ptr 3 0 0, V.int .i64 m2_1, V.mp 4, V.tail 5 0, V.int .i64 m2_4]) false, O.box 56 (V.agg [V.int .i64 m3_0, V.mp 6, V.tail 7 0]) false, O.map m4, O.row 3 m5 0, O.map m6, O.row 88 m7 z7] = some r := icC_go qik rfl fa20_eq ((e20_eq x1 m0 m1 m2_1 m2_4 m3_0 m4 m5 m6 m7 z7).trans h) hg
noncomputable def fa14 : FA := ⟨1, 28, [.tmp 2], [3],
 (.seq
 (.ops false [o1 2 (.assign (.const (.int .i64 (0)))) 3])
 (.seq
 (.ops false [o1 3 (.assign (.const (.int .i64 (0)))) 3])
 (.seq
 (.seq
 (.ops false [mv 6 0 27, o1 7 (.call ⟨(.value (.func 19)), #[(t' 6)], #[27]⟩) 45, o1 8 (.call ⟨(.builtin .len), #[(t' 7)], #[45]⟩) 3, o1 9 (.move (.const (.int .i64 (0)))) 3])
 (.block 0
 (.loop ([1, 4, 5, 6] ++ List.range' 10 18)
 (.seq
 (.ops false [o1 10 (.binOp .lss 3 (t' 9) (t' 8) 3) 0])
 (.seq
 (.cond (t' 10)
 (.skip)
 (.exit 0))
 (.seq
 (.block 1
 (.seq
 (.ops false [o1 11 (.indexAddr 45 (t' 7) (t' 9)) 0, o1 12 (.load 3 (t' 11)) 3, asg 5 12 3])
 (.seq
 (.ops false [mv 13 0 27, mv 14 0 27, o1 15 (.nilCheck (t' 14)) 0, o1 16 (.fieldAddr 59 (t' 15) 2) 0, o1 17 (.load 57 (t' 16)) 57, mv 18 5 3, o1 19 (.lookup 57 (t' 17) (t' 18) false) 60, o1 20 (.call ⟨(.value (.func 29)), #[(t' 13), (t' 19)], #[27, 60]⟩) 4])
 (.cond (t' 20)
 (.seq
 (.ops false [mv 21 0 27, mv 22 5 3, o1 23 (.call ⟨(.value (.func 30)), #[(t' 21), (t' 22)], #[27, 3]⟩) 0])
 (.ops false [mv 24 3 3, o1 25 (.binOp .add 3 (t' 24) (.const (.int .i64 (1))) 3) 3, asg 3 25 3]))
 (.skip)))))
 (.ops false [o1 26 (.binOp .add 3 (t' 9) (.const (.int .i64 (1))) 3) 3, mv 9 26 3])))))))
 (.seq
 (.ops false [mv 27 3 3, asg 2 27 3])
 (.ret)))))⟩
theorem fa14_eq : fnA qcfg.P (qcfg.rxf 14) 14 = some fa14 := by kernel_rfl
def T14_0 (x8 : Int) (x9 : Int) (m0 : List V) (m1 : List V) (m2_1 : Int) (m2_4 : Int) (m3_0 : Int) (m4 : List (V × V)) (m5 : List V) (m6 : List (V × V)) (m7 : List V) (z7 : Nat) (m8 : List V) : S := ⟨[V.ptr 2 0 0, V.junk, V.int .i64 0, V.int .i64 0, V.junk, V.junk, V.junk, V.own 8, V.int .i64 x8, V.int .i64 x9] ++ (JU 18), [O.arena 63 m0, O.arena 7 m1, O.box 59 (V.agg [V.ptr 3 0 0, V.int .i64 m2_1, V.mp 4, V.tail 5 0, V.int .i64 m2_4]) false, O.box 56 (V.agg [V.int .i64 m3_0, V.mp 6, V.tail 7 0]) false, O.map m4, O.row 3 m5 0, O.map m6, O.row 88 m7 z7, O.row 3 m8 0]⟩
def T14_0b (x3 : Int) (x8 : Int) (x9 : Int) (m0 : List V) (m1 : List V) (m2_1 : Int) (m2_4 : Int) (m3_0 : Int) (m4 : List (V × V)) (m5 : List V) (m6 : List (V × V)) (m8 : List V) (m9 : List V) (z9 : Nat) : S := ⟨[V.ptr 2 0 0, V.junk, V.int .i64 0, V.int .i64 x3, V.junk, V.junk, V.junk, V.own 8, V.int .i64 x8, V.int .i64 x9] ++ (JU 18), [O.arena 63 m0, O.arena 7 m1, O.box 59 (V.agg [V.ptr 3 0 0, V.int .i64 m2_1, V.mp 4, V.tail 5 0, V.int .i64 m2_4]) false, O.box 56 (V.agg [V.int .i64 m3_0, V.mp 6, V.tail 9 0]) false, O.map m4, O.row 3 m5 0, O.map m6, O.dead, O.row 3 m8 0, O.row 88 m9 z9]⟩
noncomputable def e14 (m0 : List V) (m1 : List V) (m2_1 : Int) (m2_4 : Int) (m3_0 : Int) (m4 : List (V × V)) (m5 : List V) (m6 : List (V × V)) (m7 : List V) (z7 : Nat) : R :=
  icM qcfg ⟨true, false⟩ mk19 19 [V.ptr 2 0 0] [O.arena 63 m0, O.arena 7 m1, O.box 59 (V.agg [V.ptr 3 0 0, V.int .i64 m2_1, V.mp 4, V.tail 5 0, V.int .i64 m2_4]) false, O.box 56 (V.agg [V.int .i64 m3_0, V.mp 6, V.tail 7 0]) false, O.map m4, O.row 3 m5 0, O.map m6, O.row 88 m7 z7] fun L =>
  some (.head 0 (T14_0 (L.2.2.2.2.2.2.2.2.2.2.length : Int) 0 L.1 L.2.1 L.2.2.1 L.2.2.2.1 L.2.2.2.2.1 L.2.2.2.2.2.1 L.2.2.2.2.2.2.1 L.2.2.2.2.2.2.2.1 L.2.2.2.2.2.2.2.2.1 L.2.2.2.2.2.2.2.2.2.1 L.2.2.2.2.2.2.2.2.2.2))
theorem e14_eq (m0 : List V) (m1 : List V) (m2_1 : Int) (m2_4 : Int) (m3_0 : Int) (m4 : List (V × V)) (m5 : List V) (m6 : List (V × V)) (m7 : List V) (z7 : Nat) : enterK qk true fa14 [V.ptr 2 0 0] [O.arena 63 m0, O.arena 7 m1, O.box 59 (V.agg [V.ptr 3 0 0, V.int .i64 m2_1, V.mp 4, V.tail 5 0, V.int .i64 m2_4]) false, O.box 56 (V.agg [V.int .i64 m3_0, V.mp 6, V.tail 7 0]) false, O.map m4, O.row 3 m5 0, O.map m6, O.row 88 m7 z7] = e14 m0 m1 m2_1 m2_4 m3_0 m4 m5 m6 m7 z7 := by kernel_rfl
theorem e14_run (m0 : List V) (m1 : List V) (m2_1 : Int) (m2_4 : Int) (m3_0 : Int) (m4 : List (V × V)) (m5 : List V) (m6 : List (V × V)) (m7 : List V) (z7 : Nat) {o : Out} {r : V × List O} (h : e14 m0 m1 m2_1 m2_4 m3_0 m4 m5 m6 m7 z7 = some o) (hg : GoN qk 8 fa14 ⟨false, false⟩ [O.arena 63 m0, O.arena 7 m1, O.box 59 (V.agg [V.ptr 3 0 0, V.int .i64 m2_1, V.mp 4, V.tail 5 0, V.int .i64 m2_4]) false, O.box 56 (V.agg [V.int .i64 m3_0, V.mp 6, V.tail 7 0]) false, O.map m4, O.row 3 m5 0, O.map m6, O.row 88 m7 z7] o r) : icC qcfg ⟨false, false⟩ 14 [V.ptr 2 0 0] [O.arena 63 m0, O.arena 7 m1, O.box 59 (V.agg [V.ptr 3 0 0, V.int .i64 m2_1, V.mp 4, V.tail 5 0, V.int .i64 m2_4]) false, O.box 56 (V.agg [V.int .i64 m3_0, V.mp 6, V.tail 7 0]) false, O.map m4, O.row 3 m5 0, O.map m6, O.row 88 m7 z7] = some r := icC_go qik rfl fa14_eq ((e14_eq m0 m1 m2_1 m2_4 m3_0 m4 m5 m6 m7 z7).trans h) hg
noncomputable def s14_0 (x8 : Int) (x9 : Int) (m0 : List V) (m1 : List V) (m2_1 : Int) (m2_4 : Int) (m3_0 : Int) (m4 : List (V × V)) (m5 : List V) (m6 : List (V × V)) (m7 : List V) (z7 : Nat) (m8 : List V) : R :=
  cond (decide (x9 < x8))
 (gd (decide (0 ≤ x9)) <|
  gd (decide (x9.toNat < m8.length)) <|
  idxK m8 x9.toNat fun v =>
  kI .i64 v fun n =>
  mfK m4 (V.int .i64 n)
 (none) fun r =>
  kP 63 r fun p =>
  idxK m0 p fun v_1 =>
  d63 v_1 fun s pins dirty first last =>
  cond dirty
 (idxK m0 p fun v_2 =>
  d63 v_2 fun s_1 pins_1 dirty_1 first_1 last_1 =>
  cond (decide (last_1 ≤ m2_4))
 (mfK m4 (V.int .i64 n)
 (none) fun r_1 =>
  kP 63 r_1 fun p_1 =>
  idxK m0 p_1 fun v_3 =>
  d63 v_3 fun s_2 pins_2 dirty_2 first_2 last_2 =>
  icM qcfg ⟨false, false⟩ mk45 45 [V.ptr 2 0 0, V.int .i64 n, V.str s_2] [O.arena 63 m0, O.arena 7 m1, O.box 56 (V.agg [V.int .i64 m3_0, V.mp 3, V.tail 4 0]) false, O.map m6, O.row 88 m7 z7] fun L =>
  mfK m4 (V.int .i64 n)
 (none) fun r_2 =>
  kP 63 r_2 fun p_2 =>
  idxK L.2.1 p_2 fun v_4 =>
  d63 v_4 fun s_3 pins_3 dirty_3 first_3 last_3 =>
  some (.head 0 (T14_0b 1 x8 (W .i64 (x9 + 1)) ((L.2.1).set p_2 (V.agg [V.str s_3, V.int .i64 pins_3, V.bool false, V.int .i64 first_3, V.int .i64 last_3])) L.2.2.1 m2_1 m2_4 L.2.2.2.1 m4 m5 L.2.2.2.2.1 m8 L.2.2.2.2.2.1 L.2.2.2.2.2.2)))
 (some (.head 0 (T14_0 x8 (W .i64 (x9 + 1)) m0 m1 m2_1 m2_4 m3_0 m4 m5 m6 m7 z7 m8))))
 (some (.head 0 (T14_0 x8 (W .i64 (x9 + 1)) m0 m1 m2_1 m2_4 m3_0 m4 m5 m6 m7 z7 m8))))
 (some (.doneM (V.int .i64 0) [O.arena 63 m0, O.arena 7 m1, O.box 59 (V.agg [V.ptr 3 0 0, V.int .i64 m2_1, V.mp 4, V.tail 5 0, V.int .i64 m2_4]) false, O.box 56 (V.agg [V.int .i64 m3_0, V.mp 6, V.tail 7 0]) false, O.map m4, O.row 3 m5 0, O.map m6, O.row 88 m7 z7, O.row 3 m8 0]))
theorem s14_0_eq (x8 : Int) (x9 : Int) (m0 : List V) (m1 : List V) (m2_1 : Int) (m2_4 : Int) (m3_0 : Int) (m4 : List (V × V)) (m5 : List V) (m6 : List (V × V)) (m7 : List V) (z7 : Nat) (m8 : List V) : goK qk true 8 fa14 0 (T14_0 x8 x9 m0 m1 m2_1 m2_4 m3_0 m4 m5 m6 m7 z7 m8) = s14_0 x8 x9 m0 m1 m2_1 m2_4 m3_0 m4 m5 m6 m7 z7 m8 := by kernel_rfl
theorem s14_0_run (x8 : Int) (x9 : Int) (m0 : List V) (m1 : List V) (m2_1 : Int) (m2_4 : Int) (m3_0 : Int) (m4 : List (V × V)) (m5 : List V) (m6 : List (V × V)) (m7 : List V) (z7 : Nat) (m8 : List V) {o o' : Out} (h : s14_0 x8 x9 m0 m1 m2_1 m2_4 m3_0 m4 m5 m6 m7 z7 m8 = some o) (hg : Go qk true 8 fa14 o o') : Go qk true 8 fa14 (.head 0 (T14_0 x8 x9 m0 m1 m2_1 m2_4 m3_0 m4 m5 m6 m7 z7 m8)) o' := .step ((s14_0_eq x8 x9 m0 m1 m2_1 m2_4 m3_0 m4 m5 m6 m7 z7 m8).trans h) hg
noncomputable def s14_0b (x3 : Int) (x8 : Int) (x9 : Int) (m0 : List V) (m1 : List V) (m2_1 : Int) (m2_4 : Int) (m3_0 : Int) (m4 : List (V × V)) (m5 : List V) (m6 : List (V × V)) (m8 : List V) (m9 : List V) (z9 : Nat) : R :=
  cond (decide (x9 < x8))
 (gd (decide (0 ≤ x9)) <|
  gd (decide (x9.toNat < m8.length)) <|
  idxK m8 x9.toNat fun v =>
  kI .i64 v fun n =>
  mfK m4 (V.int .i64 n)
 (none) fun r =>
  kP 63 r fun p =>
  idxK m0 p fun v_1 =>
  d63 v_1 fun s pins dirty first last =>
  cond dirty
 (idxK m0 p fun v_2 =>
  d63 v_2 fun s_1 pins_1 dirty_1 first_1 last_1 =>
  cond (decide (last_1 ≤ m2_4))
 (mfK m4 (V.int .i64 n)
 (none) fun r_1 =>
  kP 63 r_1 fun p_1 =>
  idxK m0 p_1 fun v_3 =>
  d63 v_3 fun s_2 pins_2 dirty_2 first_2 last_2 =>
  icM qcfg ⟨false, false⟩ mk45 45 [V.ptr 2 0 0, V.int .i64 n, V.str s_2] [O.arena 63 m0, O.arena 7 m1, O.box 56 (V.agg [V.int .i64 m3_0, V.mp 3, V.tail 4 0]) false, O.map m6, O.row 88 m9 z9] fun L =>
  mfK m4 (V.int .i64 n)
 (none) fun r_2 =>
  kP 63 r_2 fun p_2 =>
  idxK L.2.1 p_2 fun v_4 =>
  d63 v_4 fun s_3 pins_3 dirty_3 first_3 last_3 =>
  some (.head 0 (T14_0b (W .i64 (x3 + 1)) x8 (W .i64 (x9 + 1)) ((L.2.1).set p_2 (V.agg [V.str s_3, V.int .i64 pins_3, V.bool false, V.int .i64 first_3, V.int .i64 last_3])) L.2.2.1 m2_1 m2_4 L.2.2.2.1 m4 m5 L.2.2.2.2.1 m8 L.2.2.2.2.2.1 L.2.2.2.2.2.2)))
 (some (.head 0 (T14_0b x3 x8 (W .i64 (x9 + 1)) m0 m1 m2_1 m2_4 m3_0 m4 m5 m6 m8 m9 z9))))
 (some (.head 0 (T14_0b x3 x8 (W .i64 (x9 + 1)) m0 m1 m2_1 m2_4 m3_0 m4 m5 m6 m8 m9 z9))))
 (some (.doneM (V.int .i64 x3) [O.arena 63 m0, O.arena 7 m1, O.box 59 (V.agg [V.ptr 3 0 0, V.int .i64 m2_1, V.mp 4, V.tail 5 0, V.int .i64 m2_4]) false, O.box 56 (V.agg [V.int .i64 m3_0, V.mp 6, V.tail 9 0]) false, O.map m4, O.row 3 m5 0, O.map m6, O.dead, O.row 3 m8 0, O.row 88 m9 z9]))
theorem s14_0b_eq (x3 : Int) (x8 : Int) (x9 : Int) (m0 : List V) (m1 : List V) (m2_1 : Int) (m2_4 : Int) (m3_0 : Int) (m4 : List (V × V)) (m5 : List V) (m6 : List (V × V)) (m8 : List V) (m9 : List V) (z9 : Nat) : goK qk true 8 fa14 0 (T14_0b x3 x8 x9 m0 m1 m2_1 m2_4 m3_0 m4 m5 m6 m8 m9 z9) = s14_0b x3 x8 x9 m0 m1 m2_1 m2_4 m3_0 m4 m5 m6 m8 m9 z9 := by kernel_rfl
theorem s14_0b_run (x3 : Int) (x8 : Int) (x9 : Int) (m0 : List V) (m1 : List V) (m2_1 : Int) (m2_4 : Int) (m3_0 : Int) (m4 : List (V × V)) (m5 : List V) (m6 : List (V × V)) (m8 : List V) (m9 : List V) (z9 : Nat) {o o' : Out} (h : s14_0b x3 x8 x9 m0 m1 m2_1 m2_4 m3_0 m4 m5 m6 m8 m9 z9 = some o) (hg : Go qk true 8 fa14 o o') : Go qk true 8 fa14 (.head 0 (T14_0b x3 x8 x9 m0 m1 m2_1 m2_4 m3_0 m4 m5 m6 m8 m9 z9)) o' := .step ((s14_0b_eq x3 x8 x9 m0 m1 m2_1 m2_4 m3_0 m4 m5 m6 m8 m9 z9).trans h) hg
noncomputable def fa25 : FA := ⟨1, 60, [.tmp 2], [24],
 (.seq
 (.ops false [o1 1 (.box 27 (t' 0)) 0, o1 2 (.assign (.const (.int .i64 (0)))) 24])
 (.seq
 (.seq
 (.ops true [o1 6 (.load 27 (t' 1)) 27, o1 7 (.nilCheck (t' 6)) 0, o1 8 (.fieldAddr 59 (t' 7) 2) 0, o1 9 (.load 57 (t' 8)) 57, o1 10 (.call ⟨(.builtin .len), #[(t' 9)], #[57]⟩) 3, o1 11 (.load 27 (t' 1)) 27, o1 12 (.nilCheck (t' 11)) 0, o1 13 (.fieldAddr 59 (t' 12) 1) 0, o1 14 (.load 3 (t' 13)) 3, o1 15 (.binOp .lss 3 (t' 10) (t' 14) 3) 4])
 (.cond (t' 15)
 (.seq
 (.ops false [o1 2 (.assign (.const (.int .i64 (0)))) 24])
 (.ret))
 (.skip)))
 (.seq
 (.ops false [o1 16 (.makeFunc (.func 41) #[] #[(t' 1)]) 69, asg 3 16 69])
 (.seq
 (.ops false [o1 17 (.load 27 (t' 1)) 27, o1 18 (.nilCheck (t' 17)) 0, o1 19 (.fieldAddr 59 (t' 18) 3) 0, o1 20 (.load 45 (t' 19)) 45, mv 21 3 69, o1 22 (.call ⟨(.value (.func 42)), #[(t' 20), (t' 21)], #[45, 69]⟩) 3, asg 4 22 3])
 (.seq
 (.seq
 (.ops false [mv 23 4 3, o1 24 (.binOp .lss 3 (t' 23) (.const (.int .i64 (0))) 3) 4])
 (.cond (t' 24)
 (.seq
 (.ops false [o1 2 (.assign (.const (.int .i64 (6)))) 24])
 (.ret))
 (.skip)))
 (.seq
 (.ops false [o1 25 (.load 27 (t' 1)) 27, o1 26 (.nilCheck (t' 25)) 0, o1 27 (.fieldAddr 59 (t' 26) 3) 0, o1 28 (.load 45 (t' 27)) 45, mv 29 4 3, o1 30 (.indexAddr 45 (t' 28) (t' 29)) 0, o1 31 (.load 3 (t' 30)) 3, asg 5 31 3])
 (.seq
 (.seq
 (.ops false [o1 32 (.load 27 (t' 1)) 27, o1 33 (.nilCheck (t' 32)) 0, o1 34 (.fieldAddr 59 (t' 33) 2) 0, o1 35 (.load 57 (t' 34)) 57, mv 36 5 3, o1 37 (.lookup 57 (t' 35) (t' 36) false) 60, o1 38 (.nilCheck (t' 37)) 0, o1 39 (.fieldAddr 63 (t' 38) 2) 0, o1 40 (.load 4 (t' 39)) 4])
 (.cond (t' 40)
 (.ops false [o1 41 (.load 27 (t' 1)) 27, mv 42 5 3, o1 43 (.call ⟨(.value (.func 30)), #[(t' 41), (t' 42)], #[27, 3]⟩) 0])
 (.skip)))
 (.seq
 (.ops false [o1 44 (.load 27 (t' 1)) 27, o1 45 (.nilCheck (t' 44)) 0, o1 46 (.fieldAddr 59 (t' 45) 2) 0, o1 47 (.load 57 (t' 46)) 57, mv 48 5 3, o0 (.call ⟨(.builtin .delete), #[(t' 47), (t' 48)], #[57, 3]⟩) 0])
 (.seq
 (.ops true [⟨(some 49), .load 27 (t' 1), 27, none, true, false, false⟩, ⟨(some 50), .load 27 (t' 1), 27, none, true, false, false⟩, o1 51 (.nilCheck (t' 50)) 0, o1 52 (.fieldAddr 59 (t' 51) 3) 0, ⟨(some 53), .load 45 (t' 52), 45, none, true, false, false⟩, mv 54 4 3, mv 55 4 3, o1 56 (.binOp .add 3 (t' 55) (.const (.int .i64 (1))) 3) 3, ⟨(some 57), .call ⟨(.value (.func 43)), #[(t' 53), (t' 54), (t' 56)], #[45, 3, 3]⟩, 45, none, true, false, false⟩, o1 58 (.nilCheck (t' 49)) 0, o1 59 (.fieldAddr 59 (t' 58) 3) 0, o0 (.store 45 (t' 59) (t' 57)) 0])
 (.seq
 (.ops false [o1 2 (.assign (.const (.int .i64 (0)))) 24])
 (.ret)))))))))))⟩
theorem fa25_eq : fnA qcfg.P (qcfg.rxf 25) 25 = some fa25 := by kernel_rfl
noncomputable def e25 (m0 : List V) (m1 : List V) (m2_1 : Int) (m2_4 : Int) (m3_0 : Int) (m4 : List (V × V)) (m5 : List V) (m6 : List (V × V)) (m7 : List V) (z7 : Nat) : R :=
  cond (decide ((m4.length : Int) < m2_1))
 (some (.doneM (V.int .i64 0) [O.arena 63 m0, O.arena 7 m1, O.box 59 (V.agg [V.ptr 3 0 0, V.int .i64 m2_1, V.mp 4, V.tail 5 0, V.int .i64 m2_4]) false, O.box 56 (V.agg [V.int .i64 m3_0, V.mp 6, V.tail 7 0]) false, O.map m4, O.row 3 m5 0, O.map m6, O.row 88 m7 z7, O.box 27 (V.ptr 2 0 0) false]))
 (icM qcfg ⟨true, false⟩ mk42 42 [V.tail 2 0, V.fn 41 [V.ptr 3 0 0]] [O.arena 63 m0, O.arena 7 m1, O.row 3 m5 0, O.box 27 (V.ptr 4 0 0) false, O.box 59 (V.agg [V.ptr 5 0 0, V.int .i64 m2_1, V.mp 6, V.tail 2 0, V.int .i64 m2_4]) false, O.box 56 (V.agg [V.int .i64 m3_0, V.mp 7, V.tail 8 0]) false, O.map m4, O.map m6, O.row 88 m7 z7] fun L =>
  cond (decide (L.1 < 0))
 (some (.doneM (V.int .i64 6) [O.arena 63 L.2.1, O.arena 7 L.2.2.1, O.box 59 (V.agg [V.ptr 3 0 0, V.int .i64 L.2.2.2.2.1, V.mp 4, V.tail 5 0, V.int .i64 L.2.2.2.2.2.1]) false, O.box 56 (V.agg [V.int .i64 L.2.2.2.2.2.2.1, V.mp 6, V.tail 7 0]) false, O.map L.2.2.2.2.2.2.2.1, O.row 3 L.2.2.2.1 0, O.map L.2.2.2.2.2.2.2.2.1, O.row 88 L.2.2.2.2.2.2.2.2.2.1 L.2.2.2.2.2.2.2.2.2.2, O.box 27 (V.ptr 2 0 0) false]))
 (gd (decide (0 ≤ L.1)) <|
  gd (decide (L.1.toNat < L.2.2.2.1.length)) <|
  idxK L.2.2.2.1 (0 + L.1.toNat) fun v =>
  kI .i64 v fun n =>
  mfK L.2.2.2.2.2.2.2.1 (V.int .i64 n)
 (none) fun r =>
  kP 63 r fun p =>
  idxK L.2.1 p fun v_1 =>
  d63 v_1 fun s pins dirty first last =>
  cond dirty
 (mfK L.2.2.2.2.2.2.2.1 (V.int .i64 n)
 (none) fun r_1 =>
  kP 63 r_1 fun p_1 =>
  idxK L.2.1 p_1 fun v_2 =>
  d63 v_2 fun s_1 pins_1 dirty_1 first_1 last_1 =>
  icM qcfg ⟨false, false⟩ mk45 45 [V.ptr 2 0 0, V.int .i64 n, V.str s_1] [O.arena 63 L.2.1, O.arena 7 L.2.2.1, O.box 56 (V.agg [V.int .i64 L.2.2.2.2.2.2.1, V.mp 3, V.tail 4 0]) false, O.map L.2.2.2.2.2.2.2.2.1, O.row 88 L.2.2.2.2.2.2.2.2.2.1 L.2.2.2.2.2.2.2.2.2.2] fun L_1 =>
  mfK L.2.2.2.2.2.2.2.1 (V.int .i64 n)
 (none) fun r_2 =>
  kP 63 r_2 fun p_2 =>
  idxK L_1.2.1 p_2 fun v_3 =>
  d63 v_3 fun s_2 pins_2 dirty_2 first_2 last_2 =>
  opt (mapDel L.2.2.2.2.2.2.2.1 (V.int .i64 n)) fun es =>
  gd (decide (0 ≤ L.1 ∧ L.1 ≤ W .i64 (L.1 + 1) ∧ (W .i64 (L.1 + 1)).toNat ≤ L.2.2.2.1.length ∧ L.2.2.2.1.length ≤ 16777216)) <|
  some (.doneM (V.int .i64 0) [O.arena 63 ((L_1.2.1).set p_2 (V.agg [V.str s_2, V.int .i64 pins_2, V.bool false, V.int .i64 first_2, V.int .i64 last_2])), O.arena 7 L_1.2.2.1, O.box 59 (V.agg [V.ptr 3 0 0, V.int .i64 L.2.2.2.2.1, V.mp 4, V.tail 10 0, V.int .i64 L.2.2.2.2.2.1]) false, O.box 56 (V.agg [V.int .i64 L_1.2.2.2.1, V.mp 6, V.tail 9 0]) false, O.map es, O.dead, O.map L_1.2.2.2.2.1, O.dead, O.box 27 (V.ptr 2 0 0) false, O.row 88 L_1.2.2.2.2.2.1 L_1.2.2.2.2.2.2, O.row 3 ((L.2.2.2.1.take L.1.toNat) ++ (L.2.2.2.1.drop ((W .i64 (L.1 + 1)).toNat))) 0]))
 (opt (mapDel L.2.2.2.2.2.2.2.1 (V.int .i64 n)) fun es_1 =>
  gd (decide (0 ≤ L.1 ∧ L.1 ≤ W .i64 (L.1 + 1) ∧ (W .i64 (L.1 + 1)).toNat ≤ L.2.2.2.1.length ∧ L.2.2.2.1.length ≤ 16777216)) <|
  some (.doneM (V.int .i64 0) [O.arena 63 L.2.1, O.arena 7 L.2.2.1, O.box 59 (V.agg [V.ptr 3 0 0, V.int .i64 L.2.2.2.2.1, V.mp 4, V.tail 9 0, V.int .i64 L.2.2.2.2.2.1]) false, O.box 56 (V.agg [V.int .i64 L.2.2.2.2.2.2.1, V.mp 6, V.tail 7 0]) false, O.map es_1, O.dead, O.map L.2.2.2.2.2.2.2.2.1, O.row 88 L.2.2.2.2.2.2.2.2.2.1 L.2.2.2.2.2.2.2.2.2.2, O.box 27 (V.ptr 2 0 0) false, O.row 3 ((L.2.2.2.1.take L.1.toNat) ++ (L.2.2.2.1.drop ((W .i64 (L.1 + 1)).toNat))) 0]))))
theorem e25_eq (m0 : List V) (m1 : List V) (m2_1 : Int) (m2_4 : Int) (m3_0 : Int) (m4 : List (V × V)) (m5 : List V) (m6 : List (V × V)) (m7 : List V) (z7 : Nat) : enterK qk true fa25 [V.ptr 2 0 0] [O.arena 63 m0, O.arena 7 m1, O.box 59 (V.agg [V.ptr 3 0 0, V.int .i64 m2_1, V.mp 4, V.tail 5 0, V.int .i64 m2_4]) false, O.box 56 (V.agg [V.int .i64 m3_0, V.mp 6, V.tail 7 0]) false, O.map m4, O.row 3 m5 0, O.map m6, O.row 88 m7 z7] = e25 m0 m1 m2_1 m2_4 m3_0 m4 m5 m6 m7 z7 := by kernel_rfl
theorem e25_run (m0 : List V) (m1 : List V) (m2_1 : Int) (m2_4 : Int) (m3_0 : Int) (m4 : List (V × V)) (m5 : List V) (m6 : List (V × V)) (m7 : List V) (z7 : Nat) {o : Out} {r : V × List O} (h : e25 m0 m1 m2_1 m2_4 m3_0 m4 m5 m6 m7 z7 = some o) (hg : GoN qk 8 fa25 ⟨false, false⟩ [O.arena 63 m0, O.arena 7 m1, O.box 59 (V.agg [V.ptr 3 0 0, V.int .i64 m2_1, V.mp 4, V.tail 5 0, V.int .i64 m2_4]) false, O.box 56 (V.agg [V.int .i64 m3_0, V.mp 6, V.tail 7 0]) false, O.map m4, O.row 3 m5 0, O.map m6, O.row 88 m7 z7] o r) : icC qcfg ⟨false, false⟩ 25 [V.ptr 2 0 0] [O.arena 63 m0, O.arena 7 m1, O.box 59 (V.agg [V.ptr 3 0 0, V.int .i64 m2_1, V.mp 4, V.tail 5 0, V.int .i64 m2_4]) false, O.box 56 (V.agg [V.int .i64 m3_0, V.mp 6, V.tail 7 0]) false, O.map m4, O.row 3 m5 0, O.map m6, O.row 88 m7 z7] = some r := icC_go qik rfl fa25_eq ((e25_eq m0 m1 m2_1 m2_4 m3_0 m4 m5 m6 m7 z7).trans h) hg
noncomputable def fa26 : FA := ⟨2, 23, [], [],
 (.seq
 (.ops false [o1 3 (.box 3 (t' 1)) 0])
 (.seq
 (.ops false [mv 4 0 27, mv 5 0 27, o1 6 (.nilCheck (t' 5)) 0, o1 7 (.fieldAddr 59 (t' 6) 3) 0, o1 8 (.load 45 (t' 7)) 45, o1 9 (.makeFunc (.func 44) #[] #[(t' 3)]) 69, o1 10 (.call ⟨(.value (.func 39)), #[(t' 8), (t' 9)], #[45, 69]⟩) 45, o1 11 (.nilCheck (t' 4)) 0, o1 12 (.fieldAddr 59 (t' 11) 3) 0, o0 (.store 45 (t' 12) (t' 10)) 0])
 (.ops true [mv 13 0 27, mv 14 0 27, o1 15 (.nilCheck (t' 14)) 0, o1 16 (.fieldAddr 59 (t' 15) 3) 0, ⟨(some 17), .load 45 (t' 16), 45, none, true, false, false⟩, ⟨(some 18), .load 3 (t' 3), 3, none, true, false, false⟩, ⟨(some 19), .buildSlice 45 1 #[(0, (t' 18))], 45, none, true, false, false⟩, o1 20 (.call ⟨(.builtin .append), #[(t' 17), (t' 19)], #[45, 45]⟩) 45, o1 21 (.nilCheck (t' 13)) 0, o1 22 (.fieldAddr 59 (t' 21) 3) 0, o0 (.store 45 (t' 22) (t' 20)) 0])))⟩
theorem fa26_eq : fnA qcfg.P (qcfg.rxf 26) 26 = some fa26 := by kernel_rfl
noncomputable def e26 (x1 : Int) (m0 : List V) (m1 : List V) (m2_1 : Int) (m2_4 : Int) (m3_0 : Int) (m4 : List (V × V)) (m5 : List V) (m6 : List (V × V)) (m7 : List V) (z7 : Nat) : R :=
  icM qcfg ⟨true, true⟩ mk39b 39 [V.tail 2 0, V.fn 44 [V.ptr 3 0 0]] [O.arena 63 m0, O.arena 7 m1, O.row 3 m5 0, O.box 3 (V.int .i64 x1) false] fun L =>
  gd (decide (0 + L.1 ≤ L.2.2.2.1.length)) <|
  gd (decide (L.1 + ([V.int .i64 L.2.2.2.2] : List V).length ≤ 16777216)) <|
  some (.doneM (V.tup []) [O.arena 63 L.2.1, O.arena 7 L.2.2.1, O.box 59 (V.agg [V.ptr 3 0 0, V.int .i64 m2_1, V.mp 4, V.tail 9 0, V.int .i64 m2_4]) false, O.box 56 (V.agg [V.int .i64 m3_0, V.mp 6, V.tail 7 0]) false, O.map m4, O.dead, O.map m6, O.row 88 m7 z7, O.box 3 (V.int .i64 L.2.2.2.2) false, O.row 3 (((L.2.2.2.1.drop 0).take L.1) ++ [V.int .i64 L.2.2.2.2]) 0])
theorem e26_eq (x1 : Int) (m0 : List V) (m1 : List V) (m2_1 : Int) (m2_4 : Int) (m3_0 : Int) (m4 : List (V × V)) (m5 : List V) (m6 : List (V × V)) (m7 : List V) (z7 : Nat) : enterK qk true fa26 [V.ptr 2 0 0, V.int .i64 x1] [O.arena 63 m0, O.arena 7 m1, O.box 59 (V.agg [V.ptr 3 0 0, V.int .i64 m2_1, V.mp 4, V.tail 5 0, V.int .i64 m2_4]) false, O.box 56 (V.agg [V.int .i64 m3_0, V.mp 6, V.tail 7 0]) false, O.map m4, O.row 3 m5 0, O.map m6, O.row 88 m7 z7] = e26 x1 m0 m1 m2_1 m2_4 m3_0 m4 m5 m6 m7 z7 := by kernel_rfl
theorem e26_run (x1 : Int) (m0 : List V) (m1 : List V) (m2_1 : Int) (m2_4 : Int) (m3_0 : Int) (m4 : List (V × V)) (m5 : List V) (m6 : List (V × V)) (m7 : List V) (z7 : Nat) {o : Out} {r : V × List O} (h : e26 x1 m0 m1 m2_1 m2_4 m3_0 m4 m5 m6 m7 z7 = some o) (hg : GoN qk 8 fa26 ⟨false, false⟩ [O.arena 63 m0, O.arena 7 m1, O.box 59 (V.agg [V.ptr 3 0 0, V.int .i64 m2_1, V.mp 4, V.tail 5 0, V.int .i64 m2_4]) false, O.box 56 (V.agg [V.int .i64 m3_0, V.mp 6, V.tail 7 0]) false, O.map m4, O.row 3 m5 0, O.map m6, O.row 88 m7 z7] o r) : icC qcfg ⟨false, false⟩ 26 [V.ptr 2 0 0, V.int .i64 x1] [O.arena 63 m0, O.arena 7 m1, O.box 59 (V.agg [V.ptr 3 0 0, V.int .i64 m2_1, V.mp 4, V.tail 5 0, V.int .i64 m2_4]) false, O.box 56 (V.agg [V.int .i64 m3_0, V.mp 6, V.tail 7 0]) false, O.map m4, O.row 3 m5 0, O.map m6, O.row 88 m7 z7] = some r := icC_go qik rfl fa26_eq ((e26_eq x1 m0 m1 m2_1 m2_4 m3_0 m4 m5 m6 m7 z7).trans h) hg
noncomputable def fa33 : FA := ⟨2, 27, [.cell 4 9], [9],
 (.seq
 (.ops false [o1 3 (.box 3 (t' 1)) 0, o1 4 (.alloc 9) 0])
 (.seq
 (.seq
 (.ops false [mv 7 0 23, o1 8 (.load 3 (t' 3)) 3, o1 9 (.call ⟨(.value (.func 31)), #[(t' 7), (t' 8)], #[23, 3]⟩) 4, o1 10 (.unOp .not 4 (t' 9)) 4])
 (.cond (t' 10)
 (.seq
 (.ops false [o0 (.store 9 (t' 4) (.const (.string ⟨⟨[]⟩⟩))) 0])
 (.ret))
 (.skip)))
 (.seq
 (.seq
 (.ops false [mv 11 0 23, o1 12 (.nilCheck (t' 11)) 0, o1 13 (.fieldAddr 56 (t' 12) 2) 0, o1 14 (.load 54 (t' 13)) 54, o1 15 (.call ⟨(.value (.func 48)), #[(t' 14)], #[54]⟩) 85])
 (.block 0
 (.seq
 (.start 15)
 (.block 1000015
 (.loop ([1, 2] ++ List.range' 5 10 ++ List.range' 16 11)
 (.uncons 15 [16, 17] ([16, 17, 6] ++ List.range' 18 6)
 (.seq
 (.ops false [o1 6 (.alloc 88) 0, o0 (.store 88 (t' 6) (t' 17)) 0])
 (.block 1
 (.seq
 (.ops false [o1 18 (.fieldAddr 88 (t' 6) 0) 0, o1 19 (.load 3 (t' 18)) 3, o1 20 (.load 3 (t' 3)) 3, o1 21 (.binOp .eql 3 (t' 19) (t' 20) 3) 4])
 (.cond (t' 21)
 (.seq
 (.ops false [o1 22 (.fieldAddr 88 (t' 6) 1) 0, o1 23 (.load 9 (t' 22)) 9, o0 (.store 9 (t' 4) (t' 23)) 0])
 (.ret))
 (.skip)))))
 (.exit 1000015)))))))
 (.seq
 (.ops false [mv 24 0 23, o1 25 (.load 3 (t' 3)) 3, o1 26 (.call ⟨(.value (.func 49)), #[(t' 24), (t' 25)], #[23, 3]⟩) 9, o0 (.store 9 (t' 4) (t' 26)) 0])
 (.ret)))))⟩
theorem fa33_eq : fnA qcfg.P (qcfg.rxf 33) 33 = some fa33 := by kernel_rfl
def T33_0 (x15 : List V) (m0 : List V) (m1 : List V) (m2_0 : Int) (m3 : List (V × V)) (m4 : List V) (z4 : Nat) (m5 : Int) : S := ⟨[V.ptr 2 0 0, V.junk, V.junk, V.ptr 5 0 0, V.ptr 6 0 0] ++ (JU 10) ++ [V.rest [3, 88] x15] ++ (JU 11), [O.arena 63 m0, O.arena 7 m1, O.box 56 (V.agg [V.int .i64 m2_0, V.mp 3, V.tail 4 0]) false, O.map m3, O.row 88 m4 z4, O.box 3 (V.int .i64 m5) false, O.box 9 (V.str []) false]⟩
noncomputable def e33 (x1 : Int) (m0 : List V) (m1 : List V) (m2_0 : Int) (m3 : List (V × V)) (m4 : List V) (z4 : Nat) : R :=
  cond (decide (x1 ≥ 0))
 (cond (!(decide (x1 < m2_0)))
 (some (.doneM (V.str []) [O.arena 63 m0, O.arena 7 m1, O.box 56 (V.agg [V.int .i64 m2_0, V.mp 3, V.tail 4 0]) false, O.map m3, O.row 88 m4 z4, O.box 3 (V.int .i64 x1) false, O.box 9 (V.str []) false]))
 (opt (backP [V.ref (V.sl m4) 0]) fun rs =>
  some (.head 0 (T33_0 (rs.map V.tup) m0 m1 m2_0 m3 m4 m4.length x1))))
 (some (.doneM (V.str []) [O.arena 63 m0, O.arena 7 m1, O.box 56 (V.agg [V.int .i64 m2_0, V.mp 3, V.tail 4 0]) false, O.map m3, O.row 88 m4 z4, O.box 3 (V.int .i64 x1) false, O.box 9 (V.str []) false]))
theorem e33_eq (x1 : Int) (m0 : List V) (m1 : List V) (m2_0 : Int) (m3 : List (V × V)) (m4 : List V) (z4 : Nat) : enterK qk true fa33 [V.ptr 2 0 0, V.int .i64 x1] [O.arena 63 m0, O.arena 7 m1, O.box 56 (V.agg [V.int .i64 m2_0, V.mp 3, V.tail 4 0]) false, O.map m3, O.row 88 m4 z4] = e33 x1 m0 m1 m2_0 m3 m4 z4 := by kernel_rfl
theorem e33_run (x1 : Int) (m0 : List V) (m1 : List V) (m2_0 : Int) (m3 : List (V × V)) (m4 : List V) (z4 : Nat) {o : Out} {r : V × List O} (h : e33 x1 m0 m1 m2_0 m3 m4 z4 = some o) (hg : GoN qk 5 fa33 ⟨true, false⟩ [O.arena 63 m0, O.arena 7 m1, O.box 56 (V.agg [V.int .i64 m2_0, V.mp 3, V.tail 4 0]) false, O.map m3, O.row 88 m4 z4] o r) : icC qcfg ⟨true, false⟩ 33 [V.ptr 2 0 0, V.int .i64 x1] [O.arena 63 m0, O.arena 7 m1, O.box 56 (V.agg [V.int .i64 m2_0, V.mp 3, V.tail 4 0]) false, O.map m3, O.row 88 m4 z4] = some r := icC_go qik rfl fa33_eq ((e33_eq x1 m0 m1 m2_0 m3 m4 z4).trans h) hg
noncomputable def s33_0 (x15 : List V) (m0 : List V) (m1 : List V) (m2_0 : Int) (m3 : List (V × V)) (m4 : List V) (z4 : Nat) (m5 : Int) : R :=
  restK x15
 (mfK m3 (V.int .i64 m5)
 (pcK qcfg 57 [] fun r_1 =>
  kS r_1 fun r57 =>
  some (.doneM (V.str r57) [O.arena 63 m0, O.arena 7 m1, O.box 56 (V.agg [V.int .i64 m2_0, V.mp 3, V.tail 4 0]) false, O.map m3, O.row 88 m4 z4, O.box 3 (V.int .i64 m5) false, O.box 9 (V.str r57) false])) fun r =>
  kS r fun s =>
  some (.doneM (V.str s) [O.arena 63 m0, O.arena 7 m1, O.box 56 (V.agg [V.int .i64 m2_0, V.mp 3, V.tail 4 0]) false, O.map m3, O.row 88 m4 z4, O.box 3 (V.int .i64 m5) false, O.box 9 (V.str s) false])) fun x0 l =>
  kT x0 fun vs => unc vs fun c vs => kI .i64 c fun n =>
  unc vs fun c_1 vs => d88 c_1 fun page raw =>
  unn vs <| cond (page == m5)
 (some (.doneM (V.str raw) [O.arena 63 m0, O.arena 7 m1, O.box 56 (V.agg [V.int .i64 m2_0, V.mp 3, V.tail 4 0]) false, O.map m3, O.row 88 m4 z4, O.box 3 (V.int .i64 m5) false, O.box 9 (V.str raw) false]))
 (some (.head 0 (T33_0 l m0 m1 m2_0 m3 m4 z4 m5)))
theorem s33_0_eq (x15 : List V) (m0 : List V) (m1 : List V) (m2_0 : Int) (m3 : List (V × V)) (m4 : List V) (z4 : Nat) (m5 : Int) : goK qk true 5 fa33 0 (T33_0 x15 m0 m1 m2_0 m3 m4 z4 m5) = s33_0 x15 m0 m1 m2_0 m3 m4 z4 m5 := by kernel_rfl
theorem s33_0_run (x15 : List V) (m0 : List V) (m1 : List V) (m2_0 : Int) (m3 : List (V × V)) (m4 : List V) (z4 : Nat) (m5 : Int) {o o' : Out} (h : s33_0 x15 m0 m1 m2_0 m3 m4 z4 m5 = some o) (hg : Go qk true 5 fa33 o o') : Go qk true 5 fa33 (.head 0 (T33_0 x15 m0 m1 m2_0 m3 m4 z4 m5)) o' := .step ((s33_0_eq x15 m0 m1 m2_0 m3 m4 z4 m5).trans h) hg
noncomputable def fa39 : FA := ⟨2, 42, [.tmp 4], [45],
 (.seq
 (.ops false [o1 4 (.assign (.const (.slice none 0 0))) 45])
 (.seq
 (.ops false [mv 8 0 45, mv 9 1 69, o1 10 (.call ⟨(.value (.func 42)), #[(t' 8), (t' 9)], #[45, 69]⟩) 3, asg 5 10 3])
 (.seq
 (.seq
 (.ops false [mv 11 5 3, o1 12 (.binOp .eql 3 (t' 11) (.const (.int .i64 (-1))) 3) 4])
 (.cond (t' 12)
 (.seq
 (.ops false [mv 13 0 45, asg 4 13 45])
 (.ret))
 (.skip)))
 (.seq
 (.seq
 (.ops false [mv 14 5 3, o1 15 (.binOp .add 3 (t' 14) (.const (.int .i64 (1))) 3) 3, asg 6 15 3])
 (.block 0
 (.loop ([2, 3] ++ List.range' 7 35)
 (.seq
 (.seq
 (.ops false [mv 16 6 3, mv 17 0 45, o1 18 (.call ⟨(.builtin .len), #[(t' 17)], #[45]⟩) 3, o1 19 (.binOp .lss 3 (t' 16) (t' 18) 3) 4])
 (.cond (t' 19)
 (.skip)
 (.exit 0)))
 (.seq
 (.block 1
 (.seq
 (.ops false [mv 22 0 45, mv 23 6 3, o1 24 (.indexAddr 45 (t' 22) (t' 23)) 0, o1 25 (.load 3 (t' 24)) 3, asg 7 25 3])
 (.seq
 (.ops false [mv 26 1 69, mv 27 7 3, o1 28 (.call ⟨(.value (t' 26)), #[(t' 27)], #[3]⟩) 4, o1 29 (.unOp .not 4 (t' 28)) 4])
 (.cond (t' 29)
 (.seq
 (.ops false [mv 30 0 45, mv 31 5 3, mv 32 7 3, o1 33 (.indexAddr 45 (t' 30) (t' 31)) 0, o0 (.store 3 (t' 33) (t' 32)) 0])
 (.ops false [mv 34 5 3, o1 35 (.binOp .add 3 (t' 34) (.const (.int .i64 (1))) 3) 3, asg 5 35 3]))
 (.skip)))))
 (.ops false [mv 20 6 3, o1 21 (.binOp .add 3 (t' 20) (.const (.int .i64 (1))) 3) 3, asg 6 21 3]))))))
 (.seq
 (.ops false [mv 36 0 45, mv 37 5 3, o1 38 (.slice 45 (t' 36) (some (t' 37)) none none) 45, o0 (.call ⟨(.builtin .clear), #[(t' 38)], #[45]⟩) 0])
 (.seq
 (.ops false [mv 39 0 45, mv 40 5 3, o1 41 (.slice 45 (t' 39) none (some (t' 40)) none) 45, asg 4 41 45])
 (.ret)))))))⟩
theorem fa39_eq : fnA qcfg.P (qcfg.rxf 39) 39 = some fa39 := by kernel_rfl
def T39_0 (x5 : Int) (x6 : Int) (m0 : List V) (m1 : List V) (m2 : List V) (m4_1 : Int) (m4_4 : Int) (m5_0 : Int) (m6 : List (V × V)) (m7 : List V) (m8 : List (V × V)) (m9 : List V) (z9 : Nat) : S := ⟨[V.own 2, V.fn 40 [V.ptr 3 0 0], V.junk, V.junk, V.own 10, V.int .i64 x5, V.int .i64 x6] ++ (JU 35), [O.arena 63 m0, O.arena 7 m1, O.row 3 m2 0, O.box 27 (V.ptr 4 0 0) false, O.box 59 (V.agg [V.ptr 5 0 0, V.int .i64 m4_1, V.mp 6, V.tail 7 0, V.int .i64 m4_4]) false, O.box 56 (V.agg [V.int .i64 m5_0, V.mp 8, V.tail 9 0]) false, O.map m6, O.row 3 m7 0, O.map m8, O.row 88 m9 z9, O.row 3 [] 0]⟩
noncomputable def e39 (m0 : List V) (m1 : List V) (m2 : List V) (m4_1 : Int) (m4_4 : Int) (m5_0 : Int) (m6 : List (V × V)) (m7 : List V) (m8 : List (V × V)) (m9 : List V) (z9 : Nat) : R :=
  icM qcfg ⟨true, false⟩ mk42b 42 [V.own 2, V.fn 40 [V.ptr 3 0 0]] [O.arena 63 m0, O.arena 7 m1, O.row 3 m2 0, O.box 27 (V.ptr 4 0 0) false, O.box 59 (V.agg [V.ptr 5 0 0, V.int .i64 m4_1, V.mp 6, V.tail 7 0, V.int .i64 m4_4]) false, O.box 56 (V.agg [V.int .i64 m5_0, V.mp 8, V.tail 9 0]) false, O.map m6, O.row 3 m7 0, O.map m8, O.row 88 m9 z9] fun L =>
  cond (L.1 == ((-1) : Int))
 (some (.doneM (V.own 2) [O.arena 63 L.2.1, O.arena 7 L.2.2.1, O.row 3 L.2.2.2.1 0, O.box 27 (V.ptr 4 0 0) false, O.box 59 (V.agg [V.ptr 5 0 0, V.int .i64 L.2.2.2.2.1, V.mp 6, V.tail 7 0, V.int .i64 L.2.2.2.2.2.1]) false, O.box 56 (V.agg [V.int .i64 L.2.2.2.2.2.2.1, V.mp 8, V.tail 9 0]) false, O.map L.2.2.2.2.2.2.2.1, O.row 3 L.2.2.2.2.2.2.2.2.1 0, O.map L.2.2.2.2.2.2.2.2.2.1, O.row 88 L.2.2.2.2.2.2.2.2.2.2.1 L.2.2.2.2.2.2.2.2.2.2.2, O.row 3 [] 0]))
 (some (.head 0 (T39_0 L.1 (W .i64 (L.1 + 1)) L.2.1 L.2.2.1 L.2.2.2.1 L.2.2.2.2.1 L.2.2.2.2.2.1 L.2.2.2.2.2.2.1 L.2.2.2.2.2.2.2.1 L.2.2.2.2.2.2.2.2.1 L.2.2.2.2.2.2.2.2.2.1 L.2.2.2.2.2.2.2.2.2.2.1 L.2.2.2.2.2.2.2.2.2.2.2)))
theorem e39_eq (m0 : List V) (m1 : List V) (m2 : List V) (m4_1 : Int) (m4_4 : Int) (m5_0 : Int) (m6 : List (V × V)) (m7 : List V) (m8 : List (V × V)) (m9 : List V) (z9 : Nat) : enterK qk true fa39 [V.own 2, V.fn 40 [V.ptr 3 0 0]] [O.arena 63 m0, O.arena 7 m1, O.row 3 m2 0, O.box 27 (V.ptr 4 0 0) false, O.box 59 (V.agg [V.ptr 5 0 0, V.int .i64 m4_1, V.mp 6, V.tail 7 0, V.int .i64 m4_4]) false, O.box 56 (V.agg [V.int .i64 m5_0, V.mp 8, V.tail 9 0]) false, O.map m6, O.row 3 m7 0, O.map m8, O.row 88 m9 z9] = e39 m0 m1 m2 m4_1 m4_4 m5_0 m6 m7 m8 m9 z9 := by kernel_rfl
theorem e39_run (m0 : List V) (m1 : List V) (m2 : List V) (m4_1 : Int) (m4_4 : Int) (m5_0 : Int) (m6 : List (V × V)) (m7 : List V) (m8 : List (V × V)) (m9 : List V) (z9 : Nat) {o : Out} {r : V × List O} (h : e39 m0 m1 m2 m4_1 m4_4 m5_0 m6 m7 m8 m9 z9 = some o) (hg : GoN qk 10 fa39 ⟨true, true⟩ [O.arena 63 m0, O.arena 7 m1, O.row 3 m2 0, O.box 27 (V.ptr 4 0 0) false, O.box 59 (V.agg [V.ptr 5 0 0, V.int .i64 m4_1, V.mp 6, V.tail 7 0, V.int .i64 m4_4]) false, O.box 56 (V.agg [V.int .i64 m5_0, V.mp 8, V.tail 9 0]) false, O.map m6, O.row 3 m7 0, O.map m8, O.row 88 m9 z9] o r) : icC qcfg ⟨true, true⟩ 39 [V.own 2, V.fn 40 [V.ptr 3 0 0]] [O.arena 63 m0, O.arena 7 m1, O.row 3 m2 0, O.box 27 (V.ptr 4 0 0) false, O.box 59 (V.agg [V.ptr 5 0 0, V.int .i64 m4_1, V.mp 6, V.tail 7 0, V.int .i64 m4_4]) false, O.box 56 (V.agg [V.int .i64 m5_0, V.mp 8, V.tail 9 0]) false, O.map m6, O.row 3 m7 0, O.map m8, O.row 88 m9 z9] = some r := icC_go qik rfl fa39_eq ((e39_eq m0 m1 m2 m4_1 m4_4 m5_0 m6 m7 m8 m9 z9).trans h) hg
noncomputable def s39_0 (x5 : Int) (x6 : Int) (m0 : List V) (m1 : List V) (m2 : List V) (m4_1 : Int) (m4_4 : Int) (m5_0 : Int) (m6 : List (V × V)) (m7 : List V) (m8 : List (V × V)) (m9 : List V) (z9 : Nat) : R :=
  cond (decide (x6 < (m2.length : Int)))
 (gd (decide (0 ≤ x6)) <|
  gd (decide (x6.toNat < m2.length)) <|
  idxK m2 x6.toNat fun v =>
  kI .i64 v fun n =>
  mfK m6 (V.int .i64 n)
 (none) fun r =>
  kP 63 r fun p =>
  idxK m0 p fun v_1 =>
  d63 v_1 fun s pins dirty first last =>
  cond (!(!dirty))
 (gd (decide (0 ≤ x5)) <|
  gd (decide (x5.toNat < m2.length)) <|
  idxK m2 x5.toNat fun v_2 =>
  kI .i64 v_2 fun n_1 =>
  some (.head 0 (T39_0 (W .i64 (x5 + 1)) (W .i64 (x6 + 1)) m0 m1 ((m2).set x5.toNat (V.int .i64 n)) m4_1 m4_4 m5_0 m6 m7 m8 m9 z9)))
 (some (.head 0 (T39_0 x5 (W .i64 (x6 + 1)) m0 m1 m2 m4_1 m4_4 m5_0 m6 m7 m8 m9 z9))))
 (gd (wfl 1 m2) <|
  gd (decide (0 ≤ x5)) <|
  gd (decide (x5.toNat ≤ m2.length)) <|
  gd (decide (x5.toNat + (m2.length - x5.toNat) ≤ m2.length)) <|
  gd (wfl 1 (m2.take x5.toNat ++ List.replicate (m2.length - x5.toNat) (V.int .i64 0) ++ m2.drop (x5.toNat + (m2.length - x5.toNat)))) <|
  gd (decide (0 ≤ x5)) <|
  gd (decide (x5.toNat ≤ (m2.take x5.toNat ++ List.replicate (m2.length - x5.toNat) (V.int .i64 0) ++ m2.drop (x5.toNat + (m2.length - x5.toNat))).length)) <|
  some (.doneM (V.win 2 0 (x5.toNat - 0)) [O.arena 63 m0, O.arena 7 m1, O.row 3 (m2.take x5.toNat ++ List.replicate (m2.length - x5.toNat) (V.int .i64 0) ++ m2.drop (x5.toNat + (m2.length - x5.toNat))) 0, O.box 27 (V.ptr 4 0 0) false, O.box 59 (V.agg [V.ptr 5 0 0, V.int .i64 m4_1, V.mp 6, V.tail 7 0, V.int .i64 m4_4]) false, O.box 56 (V.agg [V.int .i64 m5_0, V.mp 8, V.tail 9 0]) false, O.map m6, O.row 3 m7 0, O.map m8, O.row 88 m9 z9, O.row 3 [] 0]))
theorem s39_0_eq (x5 : Int) (x6 : Int) (m0 : List V) (m1 : List V) (m2 : List V) (m4_1 : Int) (m4_4 : Int) (m5_0 : Int) (m6 : List (V × V)) (m7 : List V) (m8 : List (V × V)) (m9 : List V) (z9 : Nat) : goK qk true 10 fa39 0 (T39_0 x5 x6 m0 m1 m2 m4_1 m4_4 m5_0 m6 m7 m8 m9 z9) = s39_0 x5 x6 m0 m1 m2 m4_1 m4_4 m5_0 m6 m7 m8 m9 z9 := by kernel_rfl
theorem s39_0_run (x5 : Int) (x6 : Int) (m0 : List V) (m1 : List V) (m2 : List V) (m4_1 : Int) (m4_4 : Int) (m5_0 : Int) (m6 : List (V × V)) (m7 : List V) (m8 : List (V × V)) (m9 : List V) (z9 : Nat) {o o' : Out} (h : s39_0 x5 x6 m0 m1 m2 m4_1 m4_4 m5_0 m6 m7 m8 m9 z9 = some o) (hg : Go qk true 10 fa39 o o') : Go qk true 10 fa39 (.head 0 (T39_0 x5 x6 m0 m1 m2 m4_1 m4_4 m5_0 m6 m7 m8 m9 z9)) o' := .step ((s39_0_eq x5 x6 m0 m1 m2 m4_1 m4_4 m5_0 m6 m7 m8 m9 z9).trans h) hg
noncomputable def fa45 : FA := ⟨3, 33, [.tmp 6], [24],
 (.seq
 (.ops false [o1 6 (.assign (.const (.int .i64 (0)))) 24])
 (.seq
 (.seq
 (.ops false [mv 9 0 23, mv 10 1 3, o1 11 (.call ⟨(.value (.func 31)), #[(t' 9), (t' 10)], #[23, 3]⟩) 4, o1 12 (.unOp .not 4 (t' 11)) 4])
 (.cond (t' 12)
 (.seq
 (.ops false [o1 6 (.assign (.const (.int .i64 (1)))) 24])
 (.ret))
 (.skip)))
 (.seq
 (.ops false [mv 14 2 9, o1 15 (.call ⟨(.value (.func 53)), #[(t' 14)], #[9]⟩) 32, mv 13 15 32, o1 16 (.extract (t' 13) 0) 9, o1 17 (.extract (t' 13) 1) 24, asg 7 16 9, asg 8 17 24])
 (.seq
 (.seq
 (.ops false [mv 18 8 24, o1 19 (.binOp .eql 24 (t' 18) (.const (.int .i64 (0))) 24) 4])
 (.cond (t' 19)
 (.ops false [mv 20 0 23, mv 21 0 23, o1 22 (.nilCheck (t' 21)) 0, o1 23 (.fieldAddr 56 (t' 22) 2) 0, o1 24 (.load 54 (t' 23)) 54, mv 25 1 3, mv 26 7 9, o1 27 (.build 88 #[(0, (t' 25)), (1, (t' 26))]) 88, o1 28 (.buildSlice 54 1 #[(0, (t' 27))]) 54, o1 29 (.call ⟨(.builtin .append), #[(t' 24), (t' 28)], #[54, 54]⟩) 54, o1 30 (.nilCheck (t' 20)) 0, o1 31 (.fieldAddr 56 (t' 30) 2) 0, o0 (.store 54 (t' 31) (t' 29)) 0])
 (.skip)))
 (.seq
 (.ops false [mv 32 8 24, asg 6 32 24])
 (.ret))))))⟩
theorem fa45_eq : fnA qcfg.P (qcfg.rxf 45) 45 = some fa45 := by kernel_rfl
noncomputable def e45 (x1 : Int) (x2 : List UInt8) (m0 : List V) (m1 : List V) (m2_0 : Int) (m3 : List (V × V)) (m4 : List V) (z4 : Nat) : R :=
  cond (decide (x1 ≥ 0))
 (cond (!(decide (x1 < m2_0)))
 (some (.doneM (V.int .i64 1) [O.arena 63 m0, O.arena 7 m1, O.box 56 (V.agg [V.int .i64 m2_0, V.mp 3, V.tail 4 0]) false, O.map m3, O.row 88 m4 z4]))
 (pcK qcfg 53 [V.str x2] fun r =>
  d32 r fun r53_0 r53_1 =>
  cond (r53_1 == (0 : Int))
 (gd (Nat.beq z4 0 || Nat.blt 0 z4) <|
  gd (decide (m4.length + ([V.agg [V.int .i64 x1, V.str r53_0]] : List V).length ≤ 16777216)) <|
  some (.doneM (V.int .i64 r53_1) [O.arena 63 m0, O.arena 7 m1, O.box 56 (V.agg [V.int .i64 m2_0, V.mp 3, V.tail 6 0]) false, O.map m3, O.dead, O.row 88 [V.agg [V.int .i64 x1, V.str r53_0]] 0, O.row 88 (m4 ++ [V.agg [V.int .i64 x1, V.str r53_0]]) (cond (Nat.beq z4 0) 0 (z4 - 0))]))
 (some (.doneM (V.int .i64 r53_1) [O.arena 63 m0, O.arena 7 m1, O.box 56 (V.agg [V.int .i64 m2_0, V.mp 3, V.tail 4 0]) false, O.map m3, O.row 88 m4 z4]))))
 (some (.doneM (V.int .i64 1) [O.arena 63 m0, O.arena 7 m1, O.box 56 (V.agg [V.int .i64 m2_0, V.mp 3, V.tail 4 0]) false, O.map m3, O.row 88 m4 z4]))
theorem e45_eq (x1 : Int) (x2 : List UInt8) (m0 : List V) (m1 : List V) (m2_0 : Int) (m3 : List (V × V)) (m4 : List V) (z4 : Nat) : enterK qk true fa45 [V.ptr 2 0 0, V.int .i64 x1, V.str x2] [O.arena 63 m0, O.arena 7 m1, O.box 56 (V.agg [V.int .i64 m2_0, V.mp 3, V.tail 4 0]) false, O.map m3, O.row 88 m4 z4] = e45 x1 x2 m0 m1 m2_0 m3 m4 z4 := by kernel_rfl
theorem e45_run (x1 : Int) (x2 : List UInt8) (m0 : List V) (m1 : List V) (m2_0 : Int) (m3 : List (V × V)) (m4 : List V) (z4 : Nat) {o : Out} {r : V × List O} (h : e45 x1 x2 m0 m1 m2_0 m3 m4 z4 = some o) (hg : GoN qk 5 fa45 ⟨false, false⟩ [O.arena 63 m0, O.arena 7 m1, O.box 56 (V.agg [V.int .i64 m2_0, V.mp 3, V.tail 4 0]) false, O.map m3, O.row 88 m4 z4] o r) : icC qcfg ⟨false, false⟩ 45 [V.ptr 2 0 0, V.int .i64 x1, V.str x2] [O.arena 63 m0, O.arena 7 m1, O.box 56 (V.agg [V.int .i64 m2_0, V.mp 3, V.tail 4 0]) false, O.map m3, O.row 88 m4 z4] = some r := icC_go qik rfl fa45_eq ((e45_eq x1 x2 m0 m1 m2_0 m3 m4 z4).trans h) hg
noncomputable def fa42 : FA := ⟨2, 19, [.tmp 4], [3],
 (.seq
 (.ops false [o1 4 (.assign (.const (.int .i64 (0)))) 3])
 (.seq
 (.seq
 (.ops false [mv 6 0 45, o1 7 (.call ⟨(.builtin .len), #[(t' 6)], #[45]⟩) 3, o1 8 (.move (.const (.int .i64 (0)))) 3])
 (.block 0
 (.loop ([2, 3, 5, 6] ++ List.range' 9 10)
 (.seq
 (.ops false [o1 9 (.binOp .lss 3 (t' 8) (t' 7) 3) 0])
 (.seq
 (.cond (t' 9)
 (.skip)
 (.exit 0))
 (.seq
 (.block 1
 (.seq
 (.ops false [mv 10 8 3, asg 5 10 3])
 (.seq
 (.ops false [mv 11 1 69, mv 12 0 45, mv 13 5 3, o1 14 (.indexAddr 45 (t' 12) (t' 13)) 0, o1 15 (.load 3 (t' 14)) 3, o1 16 (.call ⟨(.value (t' 11)), #[(t' 15)], #[3]⟩) 4])
 (.cond (t' 16)
 (.seq
 (.ops false [mv 17 5 3, asg 4 17 3])
 (.ret))
 (.skip)))))
 (.ops false [o1 18 (.binOp .add 3 (t' 8) (.const (.int .i64 (1))) 3) 3, mv 8 18 3])))))))
 (.seq
 (.ops false [o1 4 (.assign (.const (.int .i64 (-1)))) 3])
 (.ret))))⟩
theorem fa42_eq : fnA qcfg.P (qcfg.rxf 42) 42 = some fa42 := by kernel_rfl
def T42_0 (x7 : Int) (x8 : Int) (m0 : List V) (m1 : List V) (m2 : List V) (m4_1 : Int) (m4_4 : Int) (m5_0 : Int) (m6 : List (V × V)) (m7 : List (V × V)) (m8 : List V) (z8 : Nat) : S := ⟨[V.tail 2 0, V.fn 41 [V.ptr 3 0 0], V.junk, V.junk, V.int .i64 0, V.junk, V.junk, V.int .i64 x7, V.int .i64 x8] ++ (JU 10), [O.arena 63 m0, O.arena 7 m1, O.row 3 m2 0, O.box 27 (V.ptr 4 0 0) false, O.box 59 (V.agg [V.ptr 5 0 0, V.int .i64 m4_1, V.mp 6, V.tail 2 0, V.int .i64 m4_4]) false, O.box 56 (V.agg [V.int .i64 m5_0, V.mp 7, V.tail 8 0]) false, O.map m6, O.map m7, O.row 88 m8 z8]⟩
noncomputable def e42 (m0 : List V) (m1 : List V) (m2 : List V) (m4_1 : Int) (m4_4 : Int) (m5_0 : Int) (m6 : List (V × V)) (m7 : List (V × V)) (m8 : List V) (z8 : Nat) : R :=
  some (.head 0 (T42_0 (m2.length : Int) 0 m0 m1 m2 m4_1 m4_4 m5_0 m6 m7 m8 z8))
theorem e42_eq (m0 : List V) (m1 : List V) (m2 : List V) (m4_1 : Int) (m4_4 : Int) (m5_0 : Int) (m6 : List (V × V)) (m7 : List (V × V)) (m8 : List V) (z8 : Nat) : enterK qk true fa42 [V.tail 2 0, V.fn 41 [V.ptr 3 0 0]] [O.arena 63 m0, O.arena 7 m1, O.row 3 m2 0, O.box 27 (V.ptr 4 0 0) false, O.box 59 (V.agg [V.ptr 5 0 0, V.int .i64 m4_1, V.mp 6, V.tail 2 0, V.int .i64 m4_4]) false, O.box 56 (V.agg [V.int .i64 m5_0, V.mp 7, V.tail 8 0]) false, O.map m6, O.map m7, O.row 88 m8 z8] = e42 m0 m1 m2 m4_1 m4_4 m5_0 m6 m7 m8 z8 := by kernel_rfl
theorem e42_run (m0 : List V) (m1 : List V) (m2 : List V) (m4_1 : Int) (m4_4 : Int) (m5_0 : Int) (m6 : List (V × V)) (m7 : List (V × V)) (m8 : List V) (z8 : Nat) {o : Out} {r : V × List O} (h : e42 m0 m1 m2 m4_1 m4_4 m5_0 m6 m7 m8 z8 = some o) (hg : GoN qk 9 fa42 ⟨true, false⟩ [O.arena 63 m0, O.arena 7 m1, O.row 3 m2 0, O.box 27 (V.ptr 4 0 0) false, O.box 59 (V.agg [V.ptr 5 0 0, V.int .i64 m4_1, V.mp 6, V.tail 2 0, V.int .i64 m4_4]) false, O.box 56 (V.agg [V.int .i64 m5_0, V.mp 7, V.tail 8 0]) false, O.map m6, O.map m7, O.row 88 m8 z8] o r) : icC qcfg ⟨true, false⟩ 42 [V.tail 2 0, V.fn 41 [V.ptr 3 0 0]] [O.arena 63 m0, O.arena 7 m1, O.row 3 m2 0, O.box 27 (V.ptr 4 0 0) false, O.box 59 (V.agg [V.ptr 5 0 0, V.int .i64 m4_1, V.mp 6, V.tail 2 0, V.int .i64 m4_4]) false, O.box 56 (V.agg [V.int .i64 m5_0, V.mp 7, V.tail 8 0]) false, O.map m6, O.map m7, O.row 88 m8 z8] = some r := icC_go qik rfl fa42_eq ((e42_eq m0 m1 m2 m4_1 m4_4 m5_0 m6 m7 m8 z8).trans h) hg
noncomputable def s42_0 (x7 : Int) (x8 : Int) (m0 : List V) (m1 : List V) (m2 : List V) (m4_1 : Int) (m4_4 : Int) (m5_0 : Int) (m6 : List (V × V)) (m7 : List (V × V)) (m8 : List V) (z8 : Nat) : R :=
  cond (decide (x8 < x7))
 (gd (decide (0 ≤ x8)) <|
  gd (decide (x8.toNat < m2.length)) <|
  idxK m2 (0 + x8.toNat) fun v =>
  kI .i64 v fun n =>
  mfK m6 (V.int .i64 n)
 (none) fun r =>
  kP 63 r fun p =>
  idxK m0 p fun v_1 =>
  d63 v_1 fun s pins dirty first last =>
  cond (pins == (0 : Int))
 (idxK m0 p fun v_2 =>
  d63 v_2 fun s_1 pins_1 dirty_1 first_1 last_1 =>
  cond (!dirty_1)
 (some (.doneM (V.int .i64 x8) [O.arena 63 m0, O.arena 7 m1, O.row 3 m2 0, O.box 27 (V.ptr 4 0 0) false, O.box 59 (V.agg [V.ptr 5 0 0, V.int .i64 m4_1, V.mp 6, V.tail 2 0, V.int .i64 m4_4]) false, O.box 56 (V.agg [V.int .i64 m5_0, V.mp 7, V.tail 8 0]) false, O.map m6, O.map m7, O.row 88 m8 z8]))
 (idxK m0 p fun v_3 =>
  d63 v_3 fun s_2 pins_2 dirty_2 first_2 last_2 =>
  cond dirty_2
 (idxK m0 p fun v_4 =>
  d63 v_4 fun s_3 pins_3 dirty_3 first_3 last_3 =>
  cond (decide (last_3 ≤ m4_4))
 (some (.doneM (V.int .i64 x8) [O.arena 63 m0, O.arena 7 m1, O.row 3 m2 0, O.box 27 (V.ptr 4 0 0) false, O.box 59 (V.agg [V.ptr 5 0 0, V.int .i64 m4_1, V.mp 6, V.tail 2 0, V.int .i64 m4_4]) false, O.box 56 (V.agg [V.int .i64 m5_0, V.mp 7, V.tail 8 0]) false, O.map m6, O.map m7, O.row 88 m8 z8]))
 (some (.head 0 (T42_0 x7 (W .i64 (x8 + 1)) m0 m1 m2 m4_1 m4_4 m5_0 m6 m7 m8 z8))))
 (some (.head 0 (T42_0 x7 (W .i64 (x8 + 1)) m0 m1 m2 m4_1 m4_4 m5_0 m6 m7 m8 z8)))))
 (some (.head 0 (T42_0 x7 (W .i64 (x8 + 1)) m0 m1 m2 m4_1 m4_4 m5_0 m6 m7 m8 z8))))
 (some (.doneM (V.int .i64 (-1)) [O.arena 63 m0, O.arena 7 m1, O.row 3 m2 0, O.box 27 (V.ptr 4 0 0) false, O.box 59 (V.agg [V.ptr 5 0 0, V.int .i64 m4_1, V.mp 6, V.tail 2 0, V.int .i64 m4_4]) false, O.box 56 (V.agg [V.int .i64 m5_0, V.mp 7, V.tail 8 0]) false, O.map m6, O.map m7, O.row 88 m8 z8]))
theorem s42_0_eq (x7 : Int) (x8 : Int) (m0 : List V) (m1 : List V) (m2 : List V) (m4_1 : Int) (m4_4 : Int) (m5_0 : Int) (m6 : List (V × V)) (m7 : List (V × V)) (m8 : List V) (z8 : Nat) : goK qk true 9 fa42 0 (T42_0 x7 x8 m0 m1 m2 m4_1 m4_4 m5_0 m6 m7 m8 z8) = s42_0 x7 x8 m0 m1 m2 m4_1 m4_4 m5_0 m6 m7 m8 z8 := by kernel_rfl
theorem s42_0_run (x7 : Int) (x8 : Int) (m0 : List V) (m1 : List V) (m2 : List V) (m4_1 : Int) (m4_4 : Int) (m5_0 : Int) (m6 : List (V × V)) (m7 : List (V × V)) (m8 : List V) (z8 : Nat) {o o' : Out} (h : s42_0 x7 x8 m0 m1 m2 m4_1 m4_4 m5_0 m6 m7 m8 z8 = some o) (hg : Go qk true 9 fa42 o o') : Go qk true 9 fa42 (.head 0 (T42_0 x7 x8 m0 m1 m2 m4_1 m4_4 m5_0 m6 m7 m8 z8)) o' := .step ((s42_0_eq x7 x8 m0 m1 m2 m4_1 m4_4 m5_0 m6 m7 m8 z8).trans h) hg
def T39b_0 (x5 : Int) (x6 : Int) (m0 : List V) (m1 : List V) (m2 : List V) (m3 : Int) : S := ⟨[V.tail 2 0, V.fn 44 [V.ptr 3 0 0], V.junk, V.junk, V.own 4, V.int .i64 x5, V.int .i64 x6] ++ (JU 35), [O.arena 63 m0, O.arena 7 m1, O.row 3 m2 0, O.box 3 (V.int .i64 m3) false, O.row 3 [] 0]⟩
noncomputable def e39b (m0 : List V) (m1 : List V) (m2 : List V) (m3 : Int) : R :=
  icM qcfg ⟨true, false⟩ mk42c 42 [V.tail 2 0, V.fn 44 [V.ptr 3 0 0]] [O.arena 63 m0, O.arena 7 m1, O.row 3 m2 0, O.box 3 (V.int .i64 m3) false] fun L =>
  cond (L.1 == ((-1) : Int))
 (some (.doneM (V.tail 2 0) [O.arena 63 L.2.1, O.arena 7 L.2.2.1, O.row 3 L.2.2.2.1 0, O.box 3 (V.int .i64 L.2.2.2.2) false, O.row 3 [] 0]))
 (some (.head 0 (T39b_0 L.1 (W .i64 (L.1 + 1)) L.2.1 L.2.2.1 L.2.2.2.1 L.2.2.2.2)))
theorem e39b_eq (m0 : List V) (m1 : List V) (m2 : List V) (m3 : Int) : enterK qk true fa39 [V.tail 2 0, V.fn 44 [V.ptr 3 0 0]] [O.arena 63 m0, O.arena 7 m1, O.row 3 m2 0, O.box 3 (V.int .i64 m3) false] = e39b m0 m1 m2 m3 := by kernel_rfl
theorem e39b_run (m0 : List V) (m1 : List V) (m2 : List V) (m3 : Int) {o : Out} {r : V × List O} (h : e39b m0 m1 m2 m3 = some o) (hg : GoN qk 4 fa39 ⟨true, true⟩ [O.arena 63 m0, O.arena 7 m1, O.row 3 m2 0, O.box 3 (V.int .i64 m3) false] o r) : icC qcfg ⟨true, true⟩ 39 [V.tail 2 0, V.fn 44 [V.ptr 3 0 0]] [O.arena 63 m0, O.arena 7 m1, O.row 3 m2 0, O.box 3 (V.int .i64 m3) false] = some r := icC_go qik rfl fa39_eq ((e39b_eq m0 m1 m2 m3).trans h) hg
noncomputable def s39b_0 (x5 : Int) (x6 : Int) (m0 : List V) (m1 : List V) (m2 : List V) (m3 : Int) : R :=
  cond (decide (x6 < (m2.length : Int)))
 (gd (decide (0 ≤ x6)) <|
  gd (decide (x6.toNat < m2.length)) <|
  idxK m2 (0 + x6.toNat) fun v =>
  kI .i64 v fun n =>
  cond (!(n == m3))
 (gd (decide (0 ≤ x5)) <|
  gd (decide (x5.toNat < m2.length)) <|
  idxK m2 (0 + x5.toNat) fun v_1 =>
  kI .i64 v_1 fun n_1 =>
  some (.head 0 (T39b_0 (W .i64 (x5 + 1)) (W .i64 (x6 + 1)) m0 m1 ((m2).set (0 + x5.toNat) (V.int .i64 n)) m3)))
 (some (.head 0 (T39b_0 x5 (W .i64 (x6 + 1)) m0 m1 m2 m3))))
 (gd (wfl 1 m2) <|
  gd (decide (0 ≤ x5)) <|
  gd (decide (x5.toNat ≤ m2.length)) <|
  gd (decide (0 + x5.toNat + (m2.length - (0 + x5.toNat)) ≤ m2.length)) <|
  gd (wfl 1 (m2.take (0 + x5.toNat) ++ List.replicate (m2.length - (0 + x5.toNat)) (V.int .i64 0) ++ m2.drop (0 + x5.toNat + (m2.length - (0 + x5.toNat))))) <|
  gd (decide (0 ≤ x5)) <|
  gd (decide (x5.toNat ≤ (m2.take (0 + x5.toNat) ++ List.replicate (m2.length - (0 + x5.toNat)) (V.int .i64 0) ++ m2.drop (0 + x5.toNat + (m2.length - (0 + x5.toNat)))).length)) <|
  some (.doneM (V.win 2 (0 + 0) (x5.toNat - 0)) [O.arena 63 m0, O.arena 7 m1, O.row 3 (m2.take (0 + x5.toNat) ++ List.replicate (m2.length - (0 + x5.toNat)) (V.int .i64 0) ++ m2.drop (0 + x5.toNat + (m2.length - (0 + x5.toNat)))) 0, O.box 3 (V.int .i64 m3) false, O.row 3 [] 0]))
theorem s39b_0_eq (x5 : Int) (x6 : Int) (m0 : List V) (m1 : List V) (m2 : List V) (m3 : Int) : goK qk true 4 fa39 0 (T39b_0 x5 x6 m0 m1 m2 m3) = s39b_0 x5 x6 m0 m1 m2 m3 := by kernel_rfl
theorem s39b_0_run (x5 : Int) (x6 : Int) (m0 : List V) (m1 : List V) (m2 : List V) (m3 : Int) {o o' : Out} (h : s39b_0 x5 x6 m0 m1 m2 m3 = some o) (hg : Go qk true 4 fa39 o o') : Go qk true 4 fa39 (.head 0 (T39b_0 x5 x6 m0 m1 m2 m3)) o' := .step ((s39b_0_eq x5 x6 m0 m1 m2 m3).trans h) hg
def T42b_0 (x7 : Int) (x8 : Int) (m0 : List V) (m1 : List V) (m2 : List V) (m4_1 : Int) (m4_4 : Int) (m5_0 : Int) (m6 : List (V × V)) (m7 : List V) (m8 : List (V × V)) (m9 : List V) (z9 : Nat) : S := ⟨[V.own 2, V.fn 40 [V.ptr 3 0 0], V.junk, V.junk, V.int .i64 0, V.junk, V.junk, V.int .i64 x7, V.int .i64 x8] ++ (JU 10), [O.arena 63 m0, O.arena 7 m1, O.row 3 m2 0, O.box 27 (V.ptr 4 0 0) false, O.box 59 (V.agg [V.ptr 5 0 0, V.int .i64 m4_1, V.mp 6, V.tail 7 0, V.int .i64 m4_4]) false, O.box 56 (V.agg [V.int .i64 m5_0, V.mp 8, V.tail 9 0]) false, O.map m6, O.row 3 m7 0, O.map m8, O.row 88 m9 z9]⟩
noncomputable def e42b (m0 : List V) (m1 : List V) (m2 : List V) (m4_1 : Int) (m4_4 : Int) (m5_0 : Int) (m6 : List (V × V)) (m7 : List V) (m8 : List (V × V)) (m9 : List V) (z9 : Nat) : R :=
  some (.head 0 (T42b_0 (m2.length : Int) 0 m0 m1 m2 m4_1 m4_4 m5_0 m6 m7 m8 m9 z9))
theorem e42b_eq (m0 : List V) (m1 : List V) (m2 : List V) (m4_1 : Int) (m4_4 : Int) (m5_0 : Int) (m6 : List (V × V)) (m7 : List V) (m8 : List (V × V)) (m9 : List V) (z9 : Nat) : enterK qk true fa42 [V.own 2, V.fn 40 [V.ptr 3 0 0]] [O.arena 63 m0, O.arena 7 m1, O.row 3 m2 0, O.box 27 (V.ptr 4 0 0) false, O.box 59 (V.agg [V.ptr 5 0 0, V.int .i64 m4_1, V.mp 6, V.tail 7 0, V.int .i64 m4_4]) false, O.box 56 (V.agg [V.int .i64 m5_0, V.mp 8, V.tail 9 0]) false, O.map m6, O.row 3 m7 0, O.map m8, O.row 88 m9 z9] = e42b m0 m1 m2 m4_1 m4_4 m5_0 m6 m7 m8 m9 z9 := by kernel_rfl
theorem e42b_run (m0 : List V) (m1 : List V) (m2 : List V) (m4_1 : Int) (m4_4 : Int) (m5_0 : Int) (m6 : List (V × V)) (m7 : List V) (m8 : List (V × V)) (m9 : List V) (z9 : Nat) {o : Out} {r : V × List O} (h : e42b m0 m1 m2 m4_1 m4_4 m5_0 m6 m7 m8 m9 z9 = some o) (hg : GoN qk 10 fa42 ⟨true, false⟩ [O.arena 63 m0, O.arena 7 m1, O.row 3 m2 0, O.box 27 (V.ptr 4 0 0) false, O.box 59 (V.agg [V.ptr 5 0 0, V.int .i64 m4_1, V.mp 6, V.tail 7 0, V.int .i64 m4_4]) false, O.box 56 (V.agg [V.int .i64 m5_0, V.mp 8, V.tail 9 0]) false, O.map m6, O.row 3 m7 0, O.map m8, O.row 88 m9 z9] o r) : icC qcfg ⟨true, false⟩ 42 [V.own 2, V.fn 40 [V.ptr 3 0 0]] [O.arena 63 m0, O.arena 7 m1, O.row 3 m2 0, O.box 27 (V.ptr 4 0 0) false, O.box 59 (V.agg [V.ptr 5 0 0, V.int .i64 m4_1, V.mp 6, V.tail 7 0, V.int .i64 m4_4]) false, O.box 56 (V.agg [V.int .i64 m5_0, V.mp 8, V.tail 9 0]) false, O.map m6, O.row 3 m7 0, O.map m8, O.row 88 m9 z9] = some r := icC_go qik rfl fa42_eq ((e42b_eq m0 m1 m2 m4_1 m4_4 m5_0 m6 m7 m8 m9 z9).trans h) hg
noncomputable def s42b_0 (x7 : Int) (x8 : Int) (m0 : List V) (m1 : List V) (m2 : List V) (m4_1 : Int) (m4_4 : Int) (m5_0 : Int) (m6 : List (V × V)) (m7 : List V) (m8 : List (V × V)) (m9 : List V) (z9 : Nat) : R :=
  cond (decide (x8 < x7))
 (gd (decide (0 ≤ x8)) <|
  gd (decide (x8.toNat < m2.length)) <|
  idxK m2 x8.toNat fun v =>
  kI .i64 v fun n =>
  mfK m6 (V.int .i64 n)
 (none) fun r =>
  kP 63 r fun p =>
  idxK m0 p fun v_1 =>
  d63 v_1 fun s pins dirty first last =>
  cond (!dirty)
 (some (.doneM (V.int .i64 x8) [O.arena 63 m0, O.arena 7 m1, O.row 3 m2 0, O.box 27 (V.ptr 4 0 0) false, O.box 59 (V.agg [V.ptr 5 0 0, V.int .i64 m4_1, V.mp 6, V.tail 7 0, V.int .i64 m4_4]) false, O.box 56 (V.agg [V.int .i64 m5_0, V.mp 8, V.tail 9 0]) false, O.map m6, O.row 3 m7 0, O.map m8, O.row 88 m9 z9]))
 (some (.head 0 (T42b_0 x7 (W .i64 (x8 + 1)) m0 m1 m2 m4_1 m4_4 m5_0 m6 m7 m8 m9 z9))))
 (some (.doneM (V.int .i64 (-1)) [O.arena 63 m0, O.arena 7 m1, O.row 3 m2 0, O.box 27 (V.ptr 4 0 0) false, O.box 59 (V.agg [V.ptr 5 0 0, V.int .i64 m4_1, V.mp 6, V.tail 7 0, V.int .i64 m4_4]) false, O.box 56 (V.agg [V.int .i64 m5_0, V.mp 8, V.tail 9 0]) false, O.map m6, O.row 3 m7 0, O.map m8, O.row 88 m9 z9]))
theorem s42b_0_eq (x7 : Int) (x8 : Int) (m0 : List V) (m1 : List V) (m2 : List V) (m4_1 : Int) (m4_4 : Int) (m5_0 : Int) (m6 : List (V × V)) (m7 : List V) (m8 : List (V × V)) (m9 : List V) (z9 : Nat) : goK qk true 10 fa42 0 (T42b_0 x7 x8 m0 m1 m2 m4_1 m4_4 m5_0 m6 m7 m8 m9 z9) = s42b_0 x7 x8 m0 m1 m2 m4_1 m4_4 m5_0 m6 m7 m8 m9 z9 := by kernel_rfl
theorem s42b_0_run (x7 : Int) (x8 : Int) (m0 : List V) (m1 : List V) (m2 : List V) (m4_1 : Int) (m4_4 : Int) (m5_0 : Int) (m6 : List (V × V)) (m7 : List V) (m8 : List (V × V)) (m9 : List V) (z9 : Nat) {o o' : Out} (h : s42b_0 x7 x8 m0 m1 m2 m4_1 m4_4 m5_0 m6 m7 m8 m9 z9 = some o) (hg : Go qk true 10 fa42 o o') : Go qk true 10 fa42 (.head 0 (T42b_0 x7 x8 m0 m1 m2 m4_1 m4_4 m5_0 m6 m7 m8 m9 z9)) o' := .step ((s42b_0_eq x7 x8 m0 m1 m2 m4_1 m4_4 m5_0 m6 m7 m8 m9 z9).trans h) hg
def T42c_0 (x7 : Int) (x8 : Int) (m0 : List V) (m1 : List V) (m2 : List V) (m3 : Int) : S := ⟨[V.tail 2 0, V.fn 44 [V.ptr 3 0 0], V.junk, V.junk, V.int .i64 0, V.junk, V.junk, V.int .i64 x7, V.int .i64 x8] ++ (JU 10), [O.arena 63 m0, O.arena 7 m1, O.row 3 m2 0, O.box 3 (V.int .i64 m3) false]⟩
noncomputable def e42c (m0 : List V) (m1 : List V) (m2 : List V) (m3 : Int) : R :=
  some (.head 0 (T42c_0 (m2.length : Int) 0 m0 m1 m2 m3))
theorem e42c_eq (m0 : List V) (m1 : List V) (m2 : List V) (m3 : Int) : enterK qk true fa42 [V.tail 2 0, V.fn 44 [V.ptr 3 0 0]] [O.arena 63 m0, O.arena 7 m1, O.row 3 m2 0, O.box 3 (V.int .i64 m3) false] = e42c m0 m1 m2 m3 := by kernel_rfl
theorem e42c_run (m0 : List V) (m1 : List V) (m2 : List V) (m3 : Int) {o : Out} {r : V × List O} (h : e42c m0 m1 m2 m3 = some o) (hg : GoN qk 4 fa42 ⟨true, false⟩ [O.arena 63 m0, O.arena 7 m1, O.row 3 m2 0, O.box 3 (V.int .i64 m3) false] o r) : icC qcfg ⟨true, false⟩ 42 [V.tail 2 0, V.fn 44 [V.ptr 3 0 0]] [O.arena 63 m0, O.arena 7 m1, O.row 3 m2 0, O.box 3 (V.int .i64 m3) false] = some r := icC_go qik rfl fa42_eq ((e42c_eq m0 m1 m2 m3).trans h) hg
noncomputable def s42c_0 (x7 : Int) (x8 : Int) (m0 : List V) (m1 : List V) (m2 : List V) (m3 : Int) : R :=
  cond (decide (x8 < x7))
 (gd (decide (0 ≤ x8)) <|
  gd (decide (x8.toNat < m2.length)) <|
  idxK m2 (0 + x8.toNat) fun v =>
  kI .i64 v fun n =>
  cond (n == m3)
 (some (.doneM (V.int .i64 x8) [O.arena 63 m0, O.arena 7 m1, O.row 3 m2 0, O.box 3 (V.int .i64 m3) false]))
 (some (.head 0 (T42c_0 x7 (W .i64 (x8 + 1)) m0 m1 m2 m3))))
 (some (.doneM (V.int .i64 (-1)) [O.arena 63 m0, O.arena 7 m1, O.row 3 m2 0, O.box 3 (V.int .i64 m3) false]))
theorem s42c_0_eq (x7 : Int) (x8 : Int) (m0 : List V) (m1 : List V) (m2 : List V) (m3 : Int) : goK qk true 4 fa42 0 (T42c_0 x7 x8 m0 m1 m2 m3) = s42c_0 x7 x8 m0 m1 m2 m3 := by kernel_rfl
theorem s42c_0_run (x7 : Int) (x8 : Int) (m0 : List V) (m1 : List V) (m2 : List V) (m3 : Int) {o o' : Out} (h : s42c_0 x7 x8 m0 m1 m2 m3 = some o) (hg : Go qk true 4 fa42 o o') : Go qk true 4 fa42 (.head 0 (T42c_0 x7 x8 m0 m1 m2 m3)) o' := .step ((s42c_0_eq x7 x8 m0 m1 m2 m3).trans h) hg
end Go.Proofs.Ytknapnnpmfhogaa