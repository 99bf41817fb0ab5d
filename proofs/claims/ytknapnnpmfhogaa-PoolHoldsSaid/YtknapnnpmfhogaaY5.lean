/-
  Texts that the last one stands on.
-/
import Derived.Test.YtknapnnpmfhogaaY4
namespace Go.Proofs.Ytknapnnpmfhogaa
open Go Go.Lite
set_option maxRecDepth 100000
set_option linter.unusedVariables false
def d32 (v:V) (k:List UInt8->Int->R):R:=kT v fun vs=>unc vs fun c vs=>kS c fun x0=>unc vs fun c vs=>kI .i64 c fun x1=>unn vs (k x0 x1)
@[simp] theorem d32_mk (x0:List UInt8) (x1:Int) (k:List UInt8->Int->R):d32 (.tup [V.str x0,V.int .i64 x1]) k=k x0 x1:=rfl
@[congr] theorem d32_wc {v v':V} {k:List UInt8->Int->R} (h:v=v'):d32 v k=d32 v' k:=by rw [h]
def d40 (v:V) (k:Int->Int->R):R:=kT v fun vs=>unc vs fun c vs=>kI .u64 c fun x0=>unc vs fun c vs=>kI .i64 c fun x1=>unn vs (k x0 x1)
@[simp] theorem d40_mk (x0:Int) (x1:Int) (k:Int->Int->R):d40 (.tup [V.int .u64 x0,V.int .i64 x1]) k=k x0 x1:=rfl
@[congr] theorem d40_wc {v v':V} {k:Int->Int->R} (h:v=v'):d40 v k=d40 v' k:=by rw [h]
def d31 (v:V) (k:Int->Int->List UInt8->Int->R):R:=kA v fun cs=>unc cs fun c cs=>kI .i64 c fun x0=>unc cs fun c cs=>kI .i64 c fun x1=>unc cs fun c cs=>kS c fun x2=>unc cs fun c cs=>kI .i64 c fun x3=>unn cs<|(k x0 x1 x2 x3)
@[simp] theorem d31_mk (x0:Int) (x1:Int) (x2:List UInt8) (x3:Int) (k:Int->Int->List UInt8->Int->R):d31 (.agg [V.int .i64 x0,V.int .i64 x1,V.str x2,V.int .i64 x3]) k=k x0 x1 x2 x3:=rfl
@[congr] theorem d31_wc {v v':V} {k:Int->Int->List UInt8->Int->R} (h:v=v'):d31 v k=d31 v' k:=by rw [h]
def d63 (v:V) (k:List UInt8->Int->Bool->Int->Int->R):R:=kA v fun cs=>unc cs fun c cs=>kS c fun x0=>unc cs fun c cs=>kI .i64 c fun x1=>unc cs fun c cs=>kB c fun x2=>unc cs fun c cs=>kI .i64 c fun x3=>unc cs fun c cs=>kI .i64 c fun x4=>unn cs<|(k x0 x1 x2 x3 x4)
@[simp] theorem d63_mk (x0:List UInt8) (x1:Int) (x2:Bool) (x3:Int) (x4:Int) (k:List UInt8->Int->Bool->Int->Int->R):d63 (.agg [V.str x0,V.int .i64 x1,V.bool x2,V.int .i64 x3,V.int .i64 x4]) k=k x0 x1 x2 x3 x4:=rfl
@[congr] theorem d63_wc {v v':V} {k:List UInt8->Int->Bool->Int->Int->R} (h:v=v'):d63 v k=d63 v' k:=by rw [h]
def d88 (v:V) (k:Int->List UInt8->R):R:=kA v fun cs=>unc cs fun c cs=>kI .i64 c fun x0=>unc cs fun c cs=>kS c fun x1=>unn cs<|(k x0 x1)
@[simp] theorem d88_mk (x0:Int) (x1:List UInt8) (k:Int->List UInt8->R):d88 (.agg [V.int .i64 x0,V.str x1]) k=k x0 x1:=rfl
@[congr] theorem d88_wc {v v':V} {k:Int->List UInt8->R} (h:v=v'):d88 v k=d88 v' k:=by rw [h]
def mk9 (L:(List UInt8) × Int × (List V) × (List V) × Int × Int × Int × (List (V × V)) × (List (V × V)) × (List V) × (List V) × Nat):V × List O:=(V.tup [V.str L.1,V.int .i64 L.2.1],[O.arena 63 L.2.2.1,O.arena 7 L.2.2.2.1,O.box 59 (V.agg [V.ptr 3 0 0,V.int .i64 L.2.2.2.2.1,V.mp 4,V.tail 8 0,V.int .i64 L.2.2.2.2.2.1]) false,O.box 56 (V.agg [V.int .i64 L.2.2.2.2.2.2.1,V.mp 6,V.tail 9 0]) false,O.map L.2.2.2.2.2.2.2.1,O.dead,O.map L.2.2.2.2.2.2.2.2.1,O.dead,O.row 3 L.2.2.2.2.2.2.2.2.2.1 0,O.row 88 L.2.2.2.2.2.2.2.2.2.2.1 L.2.2.2.2.2.2.2.2.2.2.2])
theorem mk9_inj:∀L L',mk9 L=mk9 L'->L=L':=by
 rintro ⟨a0,a1,a2,a3,a4,a5,a6,a7,a8,a9,a10,a11⟩ ⟨b0,b1,b2,b3,b4,b5,b6,b7,b8,b9,b10,b11⟩ h
 cases h;rfl
def mk11 (L:Int × (List V) × (List V) × Int × Int × Int × (List (V × V)) × (List V) × (List (V × V)) × (List V) × Nat):V × List O:=(V.int .i64 L.1,[O.arena 63 L.2.1,O.arena 7 L.2.2.1,O.box 59 (V.agg [V.ptr 3 0 0,V.int .i64 L.2.2.2.1,V.mp 4,V.tail 5 0,V.int .i64 L.2.2.2.2.1]) false,O.box 56 (V.agg [V.int .i64 L.2.2.2.2.2.1,V.mp 6,V.tail 7 0]) false,O.map L.2.2.2.2.2.2.1,O.row 3 L.2.2.2.2.2.2.2.1 0,O.map L.2.2.2.2.2.2.2.2.1,O.row 88 L.2.2.2.2.2.2.2.2.2.1 L.2.2.2.2.2.2.2.2.2.2])
theorem mk11_inj:∀L L',mk11 L=mk11 L'->L=L':=by
 rintro ⟨a0,a1,a2,a3,a4,a5,a6,a7,a8,a9,a10⟩ ⟨b0,b1,b2,b3,b4,b5,b6,b7,b8,b9,b10⟩ h
 cases h;rfl
def mk10 (L:Int × (List V) × (List V) × Int × Int × Int × (List (V × V)) × (List V) × (List (V × V)) × (List V) × Nat):V × List O:=(V.int .i64 L.1,[O.arena 63 L.2.1,O.arena 7 L.2.2.1,O.box 59 (V.agg [V.ptr 3 0 0,V.int .i64 L.2.2.2.1,V.mp 4,V.tail 5 0,V.int .i64 L.2.2.2.2.1]) false,O.box 56 (V.agg [V.int .i64 L.2.2.2.2.2.1,V.mp 6,V.tail 7 0]) false,O.map L.2.2.2.2.2.2.1,O.row 3 L.2.2.2.2.2.2.2.1 0,O.map L.2.2.2.2.2.2.2.2.1,O.row 88 L.2.2.2.2.2.2.2.2.2.1 L.2.2.2.2.2.2.2.2.2.2])
theorem mk10_inj:∀L L',mk10 L=mk10 L'->L=L':=by
 rintro ⟨a0,a1,a2,a3,a4,a5,a6,a7,a8,a9,a10⟩ ⟨b0,b1,b2,b3,b4,b5,b6,b7,b8,b9,b10⟩ h
 cases h;rfl
def mk22 (L:Int × Bool × (List V) × (List V) × Int × Int × Int × (List (V × V)) × (List V) × (List (V × V)) × (List V) × Nat):V × List O:=(V.tup [V.int .i64 L.1,V.bool L.2.1],[O.arena 63 L.2.2.1,O.arena 7 L.2.2.2.1,O.box 59 (V.agg [V.ptr 3 0 0,V.int .i64 L.2.2.2.2.1,V.mp 4,V.tail 5 0,V.int .i64 L.2.2.2.2.2.1]) false,O.box 56 (V.agg [V.int .i64 L.2.2.2.2.2.2.1,V.mp 6,V.tail 7 0]) false,O.map L.2.2.2.2.2.2.2.1,O.row 3 L.2.2.2.2.2.2.2.2.1 0,O.map L.2.2.2.2.2.2.2.2.2.1,O.row 88 L.2.2.2.2.2.2.2.2.2.2.1 L.2.2.2.2.2.2.2.2.2.2.2])
theorem mk22_inj:∀L L',mk22 L=mk22 L'->L=L':=by
 rintro ⟨a0,a1,a2,a3,a4,a5,a6,a7,a8,a9,a10,a11⟩ ⟨b0,b1,b2,b3,b4,b5,b6,b7,b8,b9,b10,b11⟩ h
 cases h;rfl
def mk15 (L:(List UInt8) × Int × (List V) × (List V) × Int × (List (V × V)) × (List V) × Nat):V × List O:=(V.tup [V.str L.1,V.int .i64 L.2.1],[O.arena 63 L.2.2.1,O.arena 7 L.2.2.2.1,O.box 56 (V.agg [V.int .i64 L.2.2.2.2.1,V.mp 3,V.tail 4 0]) false,O.map L.2.2.2.2.2.1,O.row 88 L.2.2.2.2.2.2.1 L.2.2.2.2.2.2.2])
theorem mk15_inj:∀L L',mk15 L=mk15 L'->L=L':=by
 rintro ⟨a0,a1,a2,a3,a4,a5,a6,a7⟩ ⟨b0,b1,b2,b3,b4,b5,b6,b7⟩ h
 cases h;rfl
def mk19 (L:(List V) × (List V) × Int × Int × Int × (List (V × V)) × (List V) × (List (V × V)) × (List V) × Nat × (List V)):V × List O:=(V.own 8,[O.arena 63 L.1,O.arena 7 L.2.1,O.box 59 (V.agg [V.ptr 3 0 0,V.int .i64 L.2.2.1,V.mp 4,V.tail 5 0,V.int .i64 L.2.2.2.1]) false,O.box 56 (V.agg [V.int .i64 L.2.2.2.2.1,V.mp 6,V.tail 7 0]) false,O.map L.2.2.2.2.2.1,O.row 3 L.2.2.2.2.2.2.1 0,O.map L.2.2.2.2.2.2.2.1,O.row 88 L.2.2.2.2.2.2.2.2.1 L.2.2.2.2.2.2.2.2.2.1,O.row 3 L.2.2.2.2.2.2.2.2.2.2 0])
theorem mk19_inj:∀L L',mk19 L=mk19 L'->L=L':=by
 rintro ⟨a0,a1,a2,a3,a4,a5,a6,a7,a8,a9,a10⟩ ⟨b0,b1,b2,b3,b4,b5,b6,b7,b8,b9,b10⟩ h
 cases h;rfl
def mk21 (L:Nat × (List V) × (List V) × Int × Int × Int × (List (V × V)) × (List V) × (List (V × V)) × (List V) × Nat × (List V)):V × List O:=(V.win 8 0 L.1,[O.arena 63 L.2.1,O.arena 7 L.2.2.1,O.box 59 (V.agg [V.ptr 3 0 0,V.int .i64 L.2.2.2.1,V.mp 4,V.tail 5 0,V.int .i64 L.2.2.2.2.1]) false,O.box 56 (V.agg [V.int .i64 L.2.2.2.2.2.1,V.mp 6,V.tail 7 0]) false,O.map L.2.2.2.2.2.2.1,O.row 3 L.2.2.2.2.2.2.2.1 0,O.map L.2.2.2.2.2.2.2.2.1,O.row 88 L.2.2.2.2.2.2.2.2.2.1 L.2.2.2.2.2.2.2.2.2.2.1,O.row 3 L.2.2.2.2.2.2.2.2.2.2.2 0])
theorem mk21_inj:∀L L',mk21 L=mk21 L'->L=L':=by
 rintro ⟨a0,a1,a2,a3,a4,a5,a6,a7,a8,a9,a10,a11⟩ ⟨b0,b1,b2,b3,b4,b5,b6,b7,b8,b9,b10,b11⟩ h
 cases h;rfl
def mk20 (L:Int × (List V) × (List V) × Int × Int × Int × (List (V × V)) × (List V) × (List (V × V)) × (List V) × Nat):V × List O:=(V.int .i64 L.1,[O.arena 63 L.2.1,O.arena 7 L.2.2.1,O.box 59 (V.agg [V.ptr 3 0 0,V.int .i64 L.2.2.2.1,V.mp 4,V.tail 5 0,V.int .i64 L.2.2.2.2.1]) false,O.box 56 (V.agg [V.int .i64 L.2.2.2.2.2.1,V.mp 6,V.tail 7 0]) false,O.map L.2.2.2.2.2.2.1,O.row 3 L.2.2.2.2.2.2.2.1 0,O.map L.2.2.2.2.2.2.2.2.1,O.row 88 L.2.2.2.2.2.2.2.2.2.1 L.2.2.2.2.2.2.2.2.2.2])
theorem mk20_inj:∀L L',mk20 L=mk20 L'->L=L':=by
 rintro ⟨a0,a1,a2,a3,a4,a5,a6,a7,a8,a9,a10⟩ ⟨b0,b1,b2,b3,b4,b5,b6,b7,b8,b9,b10⟩ h
 cases h;rfl
def mk14 (L:Int × (List V) × (List V) × Int × Int × Int × (List (V × V)) × (List (V × V)) × (List V) × (List V) × Nat):V × List O:=(V.int .i64 L.1,[O.arena 63 L.2.1,O.arena 7 L.2.2.1,O.box 59 (V.agg [V.ptr 3 0 0,V.int .i64 L.2.2.2.1,V.mp 4,V.tail 8 0,V.int .i64 L.2.2.2.2.1]) false,O.box 56 (V.agg [V.int .i64 L.2.2.2.2.2.1,V.mp 6,V.tail 9 0]) false,O.map L.2.2.2.2.2.2.1,O.dead,O.map L.2.2.2.2.2.2.2.1,O.dead,O.row 3 L.2.2.2.2.2.2.2.2.1 0,O.row 88 L.2.2.2.2.2.2.2.2.2.1 L.2.2.2.2.2.2.2.2.2.2])
theorem mk14_inj:∀L L',mk14 L=mk14 L'->L=L':=by
 rintro ⟨a0,a1,a2,a3,a4,a5,a6,a7,a8,a9,a10⟩ ⟨b0,b1,b2,b3,b4,b5,b6,b7,b8,b9,b10⟩ h
 cases h;rfl
def mk25 (L:Int × (List V) × (List V) × Int × Int × Int × (List (V × V)) × (List (V × V)) × (List V) × (List V) × Nat):V × List O:=(V.int .i64 L.1,[O.arena 63 L.2.1,O.arena 7 L.2.2.1,O.box 59 (V.agg [V.ptr 3 0 0,V.int .i64 L.2.2.2.1,V.mp 4,V.tail 8 0,V.int .i64 L.2.2.2.2.1]) false,O.box 56 (V.agg [V.int .i64 L.2.2.2.2.2.1,V.mp 6,V.tail 9 0]) false,O.map L.2.2.2.2.2.2.1,O.dead,O.map L.2.2.2.2.2.2.2.1,O.dead,O.row 3 L.2.2.2.2.2.2.2.2.1 0,O.row 88 L.2.2.2.2.2.2.2.2.2.1 L.2.2.2.2.2.2.2.2.2.2])
theorem mk25_inj:∀L L',mk25 L=mk25 L'->L=L':=by
 rintro ⟨a0,a1,a2,a3,a4,a5,a6,a7,a8,a9,a10⟩ ⟨b0,b1,b2,b3,b4,b5,b6,b7,b8,b9,b10⟩ h
 cases h;rfl
def mk26 (L:(List V) × (List V) × Int × Int × Int × (List (V × V)) × (List (V × V)) × (List V) × (List V) × Nat):V × List O:=(V.tup [],[O.arena 63 L.1,O.arena 7 L.2.1,O.box 59 (V.agg [V.ptr 3 0 0,V.int .i64 L.2.2.1,V.mp 4,V.tail 8 0,V.int .i64 L.2.2.2.1]) false,O.box 56 (V.agg [V.int .i64 L.2.2.2.2.1,V.mp 6,V.tail 9 0]) false,O.map L.2.2.2.2.2.1,O.dead,O.map L.2.2.2.2.2.2.1,O.dead,O.row 3 L.2.2.2.2.2.2.2.1 0,O.row 88 L.2.2.2.2.2.2.2.2.1 L.2.2.2.2.2.2.2.2.2])
theorem mk26_inj:∀L L',mk26 L=mk26 L'->L=L':=by
 rintro ⟨a0,a1,a2,a3,a4,a5,a6,a7,a8,a9⟩ ⟨b0,b1,b2,b3,b4,b5,b6,b7,b8,b9⟩ h
 cases h;rfl
def mk33 (L:(List UInt8) × (List V) × (List V) × Int × (List (V × V)) × (List V) × Nat):V × List O:=(V.str L.1,[O.arena 63 L.2.1,O.arena 7 L.2.2.1,O.box 56 (V.agg [V.int .i64 L.2.2.2.1,V.mp 3,V.tail 4 0]) false,O.map L.2.2.2.2.1,O.row 88 L.2.2.2.2.2.1 L.2.2.2.2.2.2])
theorem mk33_inj:∀L L',mk33 L=mk33 L'->L=L':=by
 rintro ⟨a0,a1,a2,a3,a4,a5,a6⟩ ⟨b0,b1,b2,b3,b4,b5,b6⟩ h
 cases h;rfl
def mk39 (L:Nat × (List V) × (List V) × (List V) × Int × Int × Int × (List (V × V)) × (List V) × (List (V × V)) × (List V) × Nat):V × List O:=(V.win 2 0 L.1,[O.arena 63 L.2.1,O.arena 7 L.2.2.1,O.row 3 L.2.2.2.1 0,O.box 27 (V.ptr 4 0 0) false,O.box 59 (V.agg [V.ptr 5 0 0,V.int .i64 L.2.2.2.2.1,V.mp 6,V.tail 7 0,V.int .i64 L.2.2.2.2.2.1]) false,O.box 56 (V.agg [V.int .i64 L.2.2.2.2.2.2.1,V.mp 8,V.tail 9 0]) false,O.map L.2.2.2.2.2.2.2.1,O.row 3 L.2.2.2.2.2.2.2.2.1 0,O.map L.2.2.2.2.2.2.2.2.2.1,O.row 88 L.2.2.2.2.2.2.2.2.2.2.1 L.2.2.2.2.2.2.2.2.2.2.2])
theorem mk39_inj:∀L L',mk39 L=mk39 L'->L=L':=by
 rintro ⟨a0,a1,a2,a3,a4,a5,a6,a7,a8,a9,a10,a11⟩ ⟨b0,b1,b2,b3,b4,b5,b6,b7,b8,b9,b10,b11⟩ h
 cases h;rfl
def mk45 (L:Int × (List V) × (List V) × Int × (List (V × V)) × (List V) × Nat):V × List O:=(V.int .i64 L.1,[O.arena 63 L.2.1,O.arena 7 L.2.2.1,O.box 56 (V.agg [V.int .i64 L.2.2.2.1,V.mp 3,V.tail 5 0]) false,O.map L.2.2.2.2.1,O.dead,O.row 88 L.2.2.2.2.2.1 L.2.2.2.2.2.2])
theorem mk45_inj:∀L L',mk45 L=mk45 L'->L=L':=by
 rintro ⟨a0,a1,a2,a3,a4,a5,a6⟩ ⟨b0,b1,b2,b3,b4,b5,b6⟩ h
 cases h;rfl
def mk42 (L:Int × (List V) × (List V) × (List V) × Int × Int × Int × (List (V × V)) × (List (V × V)) × (List V) × Nat):V × List O:=(V.int .i64 L.1,[O.arena 63 L.2.1,O.arena 7 L.2.2.1,O.row 3 L.2.2.2.1 0,O.box 27 (V.ptr 4 0 0) false,O.box 59 (V.agg [V.ptr 5 0 0,V.int .i64 L.2.2.2.2.1,V.mp 6,V.tail 2 0,V.int .i64 L.2.2.2.2.2.1]) false,O.box 56 (V.agg [V.int .i64 L.2.2.2.2.2.2.1,V.mp 7,V.tail 8 0]) false,O.map L.2.2.2.2.2.2.2.1,O.map L.2.2.2.2.2.2.2.2.1,O.row 88 L.2.2.2.2.2.2.2.2.2.1 L.2.2.2.2.2.2.2.2.2.2])
theorem mk42_inj:∀L L',mk42 L=mk42 L'->L=L':=by
 rintro ⟨a0,a1,a2,a3,a4,a5,a6,a7,a8,a9,a10⟩ ⟨b0,b1,b2,b3,b4,b5,b6,b7,b8,b9,b10⟩ h
 cases h;rfl
def mk39b (L:Nat × (List V) × (List V) × (List V) × Int):V × List O:=(V.win 2 0 L.1,[O.arena 63 L.2.1,O.arena 7 L.2.2.1,O.row 3 L.2.2.2.1 0,O.box 3 (V.int .i64 L.2.2.2.2) false])
theorem mk39b_inj:∀L L',mk39b L=mk39b L'->L=L':=by
 rintro ⟨a0,a1,a2,a3,a4⟩ ⟨b0,b1,b2,b3,b4⟩ h
 cases h;rfl
def mk42b (L:Int × (List V) × (List V) × (List V) × Int × Int × Int × (List (V × V)) × (List V) × (List (V × V)) × (List V) × Nat):V × List O:=(V.int .i64 L.1,[O.arena 63 L.2.1,O.arena 7 L.2.2.1,O.row 3 L.2.2.2.1 0,O.box 27 (V.ptr 4 0 0) false,O.box 59 (V.agg [V.ptr 5 0 0,V.int .i64 L.2.2.2.2.1,V.mp 6,V.tail 7 0,V.int .i64 L.2.2.2.2.2.1]) false,O.box 56 (V.agg [V.int .i64 L.2.2.2.2.2.2.1,V.mp 8,V.tail 9 0]) false,O.map L.2.2.2.2.2.2.2.1,O.row 3 L.2.2.2.2.2.2.2.2.1 0,O.map L.2.2.2.2.2.2.2.2.2.1,O.row 88 L.2.2.2.2.2.2.2.2.2.2.1 L.2.2.2.2.2.2.2.2.2.2.2])
theorem mk42b_inj:∀L L',mk42b L=mk42b L'->L=L':=by
 rintro ⟨a0,a1,a2,a3,a4,a5,a6,a7,a8,a9,a10,a11⟩ ⟨b0,b1,b2,b3,b4,b5,b6,b7,b8,b9,b10,b11⟩ h
 cases h;rfl
def mk42c (L:Int × (List V) × (List V) × (List V) × Int):V × List O:=(V.int .i64 L.1,[O.arena 63 L.2.1,O.arena 7 L.2.2.1,O.row 3 L.2.2.2.1 0,O.box 3 (V.int .i64 L.2.2.2.2) false])
theorem mk42c_inj:∀L L',mk42c L=mk42c L'->L=L':=by
 rintro ⟨a0,a1,a2,a3,a4⟩ ⟨b0,b1,b2,b3,b4⟩ h
 cases h;rfl
noncomputable def qkck (cm:CM) (f:FuncId) (args:List V) (mem:List O) (k:V->List O->R):R:=cond (f==9) (icM qcfg cm mk9 f args mem fun L=>k (mk9 L).1 (mk9 L).2) (cond (f==11) (icM qcfg cm mk11 f args mem fun L=>k (mk11 L).1 (mk11 L).2) (cond (f==10) (icM qcfg cm mk10 f args mem fun L=>k (mk10 L).1 (mk10 L).2) (cond (f==22) (icM qcfg cm mk22 f args mem fun L=>k (mk22 L).1 (mk22 L).2) (cond (f==15) (icM qcfg cm mk15 f args mem fun L=>k (mk15 L).1 (mk15 L).2) (cond (f==19) (icM qcfg cm mk19 f args mem fun L=>k (mk19 L).1 (mk19 L).2) (cond (f==21) (icM qcfg cm mk21 f args mem fun L=>k (mk21 L).1 (mk21 L).2) (cond (f==20) (icM qcfg cm mk20 f args mem fun L=>k (mk20 L).1 (mk20 L).2) (cond (f==14) (icM qcfg cm mk14 f args mem fun L=>k (mk14 L).1 (mk14 L).2) (cond (f==25) (icM qcfg cm mk25 f args mem fun L=>k (mk25 L).1 (mk25 L).2) (cond (f==26) (icM qcfg cm mk26 f args mem fun L=>k (mk26 L).1 (mk26 L).2) (cond (f==33) (icM qcfg cm mk33 f args mem fun L=>k (mk33 L).1 (mk33 L).2) (cond (f==39 && cloOf args==40) (icM qcfg cm mk39 f args mem fun L=>k (mk39 L).1 (mk39 L).2) (cond (f==45) (icM qcfg cm mk45 f args mem fun L=>k (mk45 L).1 (mk45 L).2) (cond (f==42 && cloOf args==41) (icM qcfg cm mk42 f args mem fun L=>k (mk42 L).1 (mk42 L).2) (cond (f==39 && cloOf args==44) (icM qcfg cm mk39b f args mem fun L=>k (mk39b L).1 (mk39b L).2) (cond (f==42 && cloOf args==40) (icM qcfg cm mk42b f args mem fun L=>k (mk42b L).1 (mk42b L).2) (cond (f==42 && cloOf args==44) (icM qcfg cm mk42c f args mem fun L=>k (mk42c L).1 (mk42c L).2) (none))))))))))))))))))
noncomputable def qkC:KC:={ qk0 with ck:=qkck }
theorem qikC:IKOK qkC:=⟨qikb.ik,fun cm f av mem k r h=>by
 change qkck cm f av mem k=some r at h
 unfold qkck at h
 rcases cond_some h with ⟨_,h⟩ | ⟨_,h⟩
 ·obtain ⟨L,h1,h2⟩:=icM_some h;exact ⟨_,_,h1,h2⟩
 rcases cond_some h with ⟨_,h⟩ | ⟨_,h⟩
 ·obtain ⟨L,h1,h2⟩:=icM_some h;exact ⟨_,_,h1,h2⟩
 rcases cond_some h with ⟨_,h⟩ | ⟨_,h⟩
 ·obtain ⟨L,h1,h2⟩:=icM_some h;exact ⟨_,_,h1,h2⟩
 rcases cond_some h with ⟨_,h⟩ | ⟨_,h⟩
 ·obtain ⟨L,h1,h2⟩:=icM_some h;exact ⟨_,_,h1,h2⟩
 rcases cond_some h with ⟨_,h⟩ | ⟨_,h⟩
 ·obtain ⟨L,h1,h2⟩:=icM_some h;exact ⟨_,_,h1,h2⟩
 rcases cond_some h with ⟨_,h⟩ | ⟨_,h⟩
 ·obtain ⟨L,h1,h2⟩:=icM_some h;exact ⟨_,_,h1,h2⟩
 rcases cond_some h with ⟨_,h⟩ | ⟨_,h⟩
 ·obtain ⟨L,h1,h2⟩:=icM_some h;exact ⟨_,_,h1,h2⟩
 rcases cond_some h with ⟨_,h⟩ | ⟨_,h⟩
 ·obtain ⟨L,h1,h2⟩:=icM_some h;exact ⟨_,_,h1,h2⟩
 rcases cond_some h with ⟨_,h⟩ | ⟨_,h⟩
 ·obtain ⟨L,h1,h2⟩:=icM_some h;exact ⟨_,_,h1,h2⟩
 rcases cond_some h with ⟨_,h⟩ | ⟨_,h⟩
 ·obtain ⟨L,h1,h2⟩:=icM_some h;exact ⟨_,_,h1,h2⟩
 rcases cond_some h with ⟨_,h⟩ | ⟨_,h⟩
 ·obtain ⟨L,h1,h2⟩:=icM_some h;exact ⟨_,_,h1,h2⟩
 rcases cond_some h with ⟨_,h⟩ | ⟨_,h⟩
 ·obtain ⟨L,h1,h2⟩:=icM_some h;exact ⟨_,_,h1,h2⟩
 rcases cond_some h with ⟨_,h⟩ | ⟨_,h⟩
 ·obtain ⟨L,h1,h2⟩:=icM_some h;exact ⟨_,_,h1,h2⟩
 rcases cond_some h with ⟨_,h⟩ | ⟨_,h⟩
 ·obtain ⟨L,h1,h2⟩:=icM_some h;exact ⟨_,_,h1,h2⟩
 rcases cond_some h with ⟨_,h⟩ | ⟨_,h⟩
 ·obtain ⟨L,h1,h2⟩:=icM_some h;exact ⟨_,_,h1,h2⟩
 rcases cond_some h with ⟨_,h⟩ | ⟨_,h⟩
 ·obtain ⟨L,h1,h2⟩:=icM_some h;exact ⟨_,_,h1,h2⟩
 rcases cond_some h with ⟨_,h⟩ | ⟨_,h⟩
 ·obtain ⟨L,h1,h2⟩:=icM_some h;exact ⟨_,_,h1,h2⟩
 rcases cond_some h with ⟨_,h⟩ | ⟨_,h⟩
 ·obtain ⟨L,h1,h2⟩:=icM_some h;exact ⟨_,_,h1,h2⟩
 cases h⟩
noncomputable def fa38:FA:=⟨1,4,[.tmp 2],[76],
 (.seq
 (.ops false [o1 1 (.box 57 (t' 0)) 0,o1 2 (.assign (.const (.nilFunc))) 76])
 (.seq
 (.ops false [o1 3 (.makeFunc (.func 52) #[] #[(t' 1)]) 75,asg 2 3 76])
 (.ret)))⟩
theorem fa38_eq:fnA qcfg.P (qcfg.rxf 38) 38=some fa38:=by kernel_rfl
noncomputable def fa7:FA:=⟨1,14,[.tmp 2,.tmp 3],[23,24],
 (.seq
 (.ops false [o1 2 (.assign (.const (.pointer none))) 23,o1 3 (.assign (.const (.int .i64 (0)))) 24])
 (.seq
 (.seq
 (.ops false [mv 4 0 3,o1 5 (.binOp .lss 3 (t' 4) (.const (.int .i64 (1))) 3) 4,mv 6 5 4,o2 7 (.move (t' 0)) 3 6 false,o2 8 (.binOp .gtr 3 (t' 7) (.const (.int .i64 (1024))) 3) 4 6 false,o1 9 (.pick (t' 6) (.const (.bool true)) (t' 8)) 4])
 (.cond (t' 9)
 (.seq
 (.ops false [o1 2 (.assign (.const (.pointer none))) 23,o1 3 (.assign (.const (.int .i64 (1)))) 24])
 (.ret))
 (.skip)))
 (.seq
 (.ops false [mv 10 0 3,o1 11 (.makeMap 53 none) 53,o1 12 (.build 56 #[(0,(t' 10)),(1,(t' 11))]) 56,o1 13 (.box 56 (t' 12)) 23,asg 2 13 23,o1 3 (.assign (.const (.int .i64 (0)))) 24])
 (.ret))))⟩
theorem fa7_eq:fnA qcfg.P (qcfg.rxf 7) 7=some fa7:=by kernel_rfl
noncomputable def fa31:FA:=⟨2,15,[.tmp 4],[4],
 (.seq
 (.ops false [o1 4 (.assign (.const (.bool false))) 4])
 (.seq
 (.ops false [mv 5 1 3,o1 6 (.binOp .geq 3 (t' 5) (.const (.int .i64 (0))) 3) 4,mv 7 6 4,o2 8 (.move (t' 1)) 3 7 true,o2 9 (.move (t' 0)) 23 7 true,o2 10 (.nilCheck (t' 9)) 0 7 true,o2 11 (.fieldAddr 56 (t' 10) 0) 0 7 true,o2 12 (.load 3 (t' 11)) 3 7 true,o2 13 (.binOp .lss 3 (t' 8) (t' 12) 3) 4 7 true,o1 14 (.pick (t' 7) (t' 13) (.const (.bool false))) 4,asg 4 14 4])
 (.ret)))⟩
theorem fa31_eq:fnA qcfg.P (qcfg.rxf 31) 31=some fa31:=by kernel_rfl
noncomputable def fa24:FA:=⟨1,7,[.tmp 2],[3],
 (.seq
 (.ops false [o1 2 (.assign (.const (.int .i64 (0)))) 3])
 (.seq
 (.ops false [mv 3 0 23,o1 4 (.nilCheck (t' 3)) 0,o1 5 (.fieldAddr 56 (t' 4) 0) 0,o1 6 (.load 3 (t' 5)) 3,asg 2 6 3])
 (.ret)))⟩
theorem fa24_eq:fnA qcfg.P (qcfg.rxf 24) 24=some fa24:=by kernel_rfl
noncomputable def fa49:FA:=⟨2,19,[.tmp 4],[9],
 (.seq
 (.ops false [o1 4 (.assign (.const (.string ⟨⟨[]⟩⟩))) 9])
 (.seq
 (.seq
 (.ops false [mv 8 0 23,o1 9 (.nilCheck (t' 8)) 0,o1 10 (.fieldAddr 56 (t' 9) 1) 0,o1 11 (.load 53 (t' 10)) 53,mv 12 1 3,o1 13 (.lookup 53 (t' 11) (t' 12) true) 94,mv 7 13 94,o1 14 (.extract (t' 7) 0) 9,o1 15 (.extract (t' 7) 1) 4,asg 5 14 9,asg 6 15 4])
 (.seq
 (.ops false [mv 16 6 4])
 (.cond (t' 16)
 (.seq
 (.ops false [mv 17 5 9,asg 4 17 9])
 (.ret))
 (.skip))))
 (.seq
 (.ops false [o1 18 (.call ⟨(.value (.func 57)),#[],#[]⟩) 9,asg 4 18 9])
 (.ret))))⟩
theorem fa49_eq:fnA qcfg.P (qcfg.rxf 49) 49=some fa49:=by kernel_rfl
noncomputable def fa8:FA:=⟨2,17,[.tmp 4,.tmp 5],[27,24],
 (.seq
 (.ops false [o1 4 (.assign (.const (.pointer none))) 27,o1 5 (.assign (.const (.int .i64 (0)))) 24])
 (.seq
 (.seq
 (.ops false [mv 6 1 3,o1 7 (.binOp .lss 3 (t' 6) (.const (.int .i64 (1))) 3) 4,mv 8 7 4,o2 9 (.move (t' 1)) 3 8 false,o2 10 (.binOp .gtr 3 (t' 9) (.const (.int .i64 (64))) 3) 4 8 false,o1 11 (.pick (t' 8) (.const (.bool true)) (t' 10)) 4])
 (.cond (t' 11)
 (.seq
 (.ops false [o1 4 (.assign (.const (.pointer none))) 27,o1 5 (.assign (.const (.int .i64 (1)))) 24])
 (.ret))
 (.skip)))
 (.seq
 (.ops false [mv 12 0 23,mv 13 1 3,o1 14 (.makeMap 57 none) 57,o1 15 (.build 59 #[(0,(t' 12)),(1,(t' 13)),(2,(t' 14))]) 59,o1 16 (.box 59 (t' 15)) 27,asg 4 16 27,o1 5 (.assign (.const (.int .i64 (0)))) 24])
 (.ret))))⟩
theorem fa8_eq:fnA qcfg.P (qcfg.rxf 8) 8=some fa8:=by kernel_rfl
noncomputable def fa29:FA:=⟨2,20,[.tmp 4],[4],
 (.seq
 (.ops false [o1 4 (.assign (.const (.bool false))) 4])
 (.seq
 (.ops true [mv 5 1 60,o1 6 (.nilCheck (t' 5)) 0,o1 7 (.fieldAddr 63 (t' 6) 2) 0,o1 8 (.load 4 (t' 7)) 4,mv 9 8 4,o2 10 (.move (t' 1)) 60 9 true,o2 11 (.nilCheck (t' 10)) 0 9 true,o2 12 (.fieldAddr 63 (t' 11) 4) 0 9 true,o2 13 (.load 3 (t' 12)) 3 9 true,o2 14 (.move (t' 0)) 27 9 true,o2 15 (.nilCheck (t' 14)) 0 9 true,o2 16 (.fieldAddr 59 (t' 15) 4) 0 9 true,o2 17 (.load 3 (t' 16)) 3 9 true,o2 18 (.binOp .leq 3 (t' 13) (t' 17) 3) 4 9 true,o1 19 (.pick (t' 9) (t' 18) (.const (.bool false))) 4,asg 4 19 4])
 (.ret)))⟩
theorem fa29_eq:fnA qcfg.P (qcfg.rxf 29) 29=some fa29:=by kernel_rfl
noncomputable def fa27:FA:=⟨2,23,[.tmp 4,.tmp 5],[60,24],
 (.seq
 (.ops false [o1 4 (.assign (.const (.pointer none))) 60,o1 5 (.assign (.const (.int .i64 (0)))) 24])
 (.seq
 (.ops false [mv 7 0 27,o1 8 (.nilCheck (t' 7)) 0,o1 9 (.fieldAddr 59 (t' 8) 2) 0,o1 10 (.load 57 (t' 9)) 57,mv 11 1 3,o1 12 (.lookup 57 (t' 10) (t' 11) false) 60,asg 6 12 60])
 (.seq
 (.block 0
 (.seq
 (.ops false [mv 14 6 60,o1 15 (.binOp .eql 60 (t' 14) (.const (.pointer none)) 60) 4,asg 13 15 4])
 (.cond (t' 13)
 (.seq
 (.ops false [o1 4 (.assign (.const (.pointer none))) 60,o1 5 (.assign (.const (.int .i64 (7)))) 24])
 (.ret))
 (.seq
 (.ops false [mv 17 6 60,o1 18 (.nilCheck (t' 17)) 0,o1 19 (.fieldAddr 63 (t' 18) 1) 0,o1 20 (.load 3 (t' 19)) 3,o1 21 (.binOp .eql 3 (t' 20) (.const (.int .i64 (0))) 3) 4,asg 16 21 4])
 (.cond (t' 16)
 (.seq
 (.ops false [o1 4 (.assign (.const (.pointer none))) 60,o1 5 (.assign (.const (.int .i64 (9)))) 24])
 (.ret))
 (.skip))))))
 (.seq
 (.ops false [mv 22 6 60,asg 4 22 60,o1 5 (.assign (.const (.int .i64 (0)))) 24])
 (.ret)))))⟩
theorem fa27_eq:fnA qcfg.P (qcfg.rxf 27) 27=some fa27:=by kernel_rfl
noncomputable def fa30:FA:=⟨2,27,[],[],
 (.seq
 (.ops true [mv 4 0 27,o1 5 (.nilCheck (t' 4)) 0,o1 6 (.fieldAddr 59 (t' 5) 0) 0,o1 7 (.load 23 (t' 6)) 23,mv 8 1 3,mv 9 0 27,o1 10 (.nilCheck (t' 9)) 0,o1 11 (.fieldAddr 59 (t' 10) 2) 0,o1 12 (.load 57 (t' 11)) 57,mv 13 1 3,o1 14 (.lookup 57 (t' 12) (t' 13) false) 60,o1 15 (.nilCheck (t' 14)) 0,o1 16 (.fieldAddr 63 (t' 15) 0) 0,o1 17 (.load 9 (t' 16)) 9,⟨(some 18),.call ⟨(.value (.func 45)),#[(t' 7),(t' 8),(t' 17)],#[23,3,9]⟩,24,none,false,true,false⟩])
 (.ops false [mv 19 0 27,o1 20 (.nilCheck (t' 19)) 0,o1 21 (.fieldAddr 59 (t' 20) 2) 0,o1 22 (.load 57 (t' 21)) 57,mv 23 1 3,o1 24 (.lookup 57 (t' 22) (t' 23) false) 60,o1 25 (.nilCheck (t' 24)) 0,o1 26 (.fieldAddr 63 (t' 25) 2) 0,o0 (.store 4 (t' 26) (.const (.bool false))) 0]))⟩
theorem fa30_eq:fnA qcfg.P (qcfg.rxf 30) 30=some fa30:=by kernel_rfl
noncomputable def fa44:FA:=⟨2,7,[.tmp 3],[4],
 (.seq
 (.ops false [o1 3 (.assign (.const (.bool false))) 4])
 (.seq
 (.ops false [mv 4 0 3,o1 5 (.load 3 (t' 1)) 3,o1 6 (.binOp .eql 3 (t' 4) (t' 5) 3) 4,asg 3 6 4])
 (.ret)))⟩
theorem fa44_eq:fnA qcfg.P (qcfg.rxf 44) 44=some fa44:=by kernel_rfl
noncomputable def fa40:FA:=⟨2,14,[.tmp 3],[4],
 (.seq
 (.ops false [o1 3 (.assign (.const (.bool false))) 4])
 (.seq
 (.ops false [o1 4 (.load 27 (t' 1)) 27,o1 5 (.nilCheck (t' 4)) 0,o1 6 (.fieldAddr 59 (t' 5) 2) 0,o1 7 (.load 57 (t' 6)) 57,mv 8 0 3,o1 9 (.lookup 57 (t' 7) (t' 8) false) 60,o1 10 (.nilCheck (t' 9)) 0,o1 11 (.fieldAddr 63 (t' 10) 2) 0,o1 12 (.load 4 (t' 11)) 4,o1 13 (.unOp .not 4 (t' 12)) 4,asg 3 13 4])
 (.ret)))⟩
theorem fa40_eq:fnA qcfg.P (qcfg.rxf 40) 40=some fa40:=by kernel_rfl
noncomputable def fa13:FA:=⟨2,13,[],[],
 (.ops false [mv 4 0 27,mv 5 0 27,o1 6 (.nilCheck (t' 5)) 0,o1 7 (.fieldAddr 59 (t' 6) 4) 0,o1 8 (.load 3 (t' 7)) 3,mv 9 1 3,o1 10 (.call ⟨(.builtin .max),#[(t' 8),(t' 9)],#[3,3]⟩) 3,o1 11 (.nilCheck (t' 4)) 0,o1 12 (.fieldAddr 59 (t' 11) 4) 0,o0 (.store 3 (t' 12) (t' 10)) 0])⟩
theorem fa13_eq:fnA qcfg.P (qcfg.rxf 13) 13=some fa13:=by kernel_rfl
noncomputable def hkI1:KC:=qkC.inl [(38,fa38),(7,fa7),(31,fa31),(24,fa24),(49,fa49),(8,fa8),(29,fa29),(27,fa27),(30,fa30),(44,fa44),(40,fa40),(13,fa13)]
theorem hikI1:IKOK hkI1:=inl_ok qikC (by
 intro x hx
 simp only [List.mem_cons,List.not_mem_nil,or_false] at hx
 rcases hx with rfl | rfl | rfl | rfl | rfl | rfl | rfl | rfl | rfl | rfl | rfl | rfl
 ·exact ⟨rfl,fa38_eq,rfl⟩
 ·exact ⟨rfl,fa7_eq,rfl⟩
 ·exact ⟨rfl,fa31_eq,rfl⟩
 ·exact ⟨rfl,fa24_eq,rfl⟩
 ·exact ⟨rfl,fa49_eq,rfl⟩
 ·exact ⟨rfl,fa8_eq,rfl⟩
 ·exact ⟨rfl,fa29_eq,rfl⟩
 ·exact ⟨rfl,fa27_eq,rfl⟩
 ·exact ⟨rfl,fa30_eq,rfl⟩
 ·exact ⟨rfl,fa44_eq,rfl⟩
 ·exact ⟨rfl,fa40_eq,rfl⟩
 ·exact ⟨rfl,fa13_eq,rfl⟩)
noncomputable def fa41:FA:=⟨2,28,[.tmp 3],[4],
 (.seq
 (.ops false [o1 3 (.assign (.const (.bool false))) 4])
 (.seq
 (.ops false [o1 5 (.load 27 (t' 1)) 27,o1 6 (.nilCheck (t' 5)) 0,o1 7 (.fieldAddr 59 (t' 6) 2) 0,o1 8 (.load 57 (t' 7)) 57,mv 9 0 3,o1 10 (.lookup 57 (t' 8) (t' 9) false) 60,asg 4 10 60])
 (.seq
 (.ops false [mv 11 4 60,o1 12 (.nilCheck (t' 11)) 0,o1 13 (.fieldAddr 63 (t' 12) 1) 0,o1 14 (.load 3 (t' 13)) 3,o1 15 (.binOp .eql 3 (t' 14) (.const (.int .i64 (0))) 3) 4,mv 16 15 4,o2 17 (.move (t' 4)) 60 16 true,o2 18 (.nilCheck (t' 17)) 0 16 true,o2 19 (.fieldAddr 63 (t' 18) 2) 0 16 true,o2 20 (.load 4 (t' 19)) 4 16 true,o2 21 (.unOp .not 4 (t' 20)) 4 16 true,o2 22 (.move (t' 21)) 4 16 true,o2 23 (.load 27 (t' 1)) 27 22 false,o2 24 (.move (t' 4)) 60 22 false,o2 25 (.call ⟨(.value (.func 29)),#[(t' 23),(t' 24)],#[27,60]⟩) 4 22 false,o2 26 (.pick (t' 22) (.const (.bool true)) (t' 25)) 4 16 true,o1 27 (.pick (t' 16) (t' 26) (.const (.bool false))) 4,asg 3 27 4])
 (.ret))))⟩
theorem fa41_eq:fnA qcfg.P (qcfg.rxf 41) 41=some fa41:=by kernel_rfl
noncomputable def qk:KC:=hkI1.inl [(41,fa41)]
theorem qik:IKOK qk:=inl_ok hikI1 (by
 intro x hx
 simp only [List.mem_cons,List.not_mem_nil,or_false] at hx
 rcases hx with rfl
 ·exact ⟨rfl,fa41_eq,rfl⟩)
noncomputable def fa63:FA:=⟨2,13,[.tmp 4],[24],
 (.seq
 (.ops false [o1 4 (.assign (.const (.int .i64 (0)))) 24])
 (.seq
 (.seq
 (.ops false [mv 5 1 3,o1 6 (.binOp .lss 3 (t' 5) (.const (.int .i64 (0))) 3) 4,mv 7 6 4,o2 8 (.move (t' 1)) 3 7 false,o2 9 (.move (t' 0)) 9 7 false,o2 10 (.call ⟨(.builtin .len),#[(t' 9)],#[9]⟩) 3 7 false,o2 11 (.binOp .gtr 3 (t' 8) (t' 10) 3) 4 7 false,o1 12 (.pick (t' 7) (.const (.bool true)) (t' 11)) 4])
 (.cond (t' 12)
 (.seq
 (.ops false [o1 4 (.assign (.const (.int .i64 (1)))) 24])
 (.ret))
 (.skip)))
 (.seq
 (.ops false [o1 4 (.assign (.const (.int .i64 (0)))) 24])
 (.ret))))⟩
theorem fa63_eq:fnA qcfg.P (qcfg.rxf 63) 63=some fa63:=by kernel_rfl
noncomputable def e63 (a0:List UInt8) (a1:Int):R :=
 cond (decide (a1 < 0))
 (some (.done (V.int .i64 1)))
 (cond (decide (a1 > (a0.length:Int)))
 (some (.done (V.int .i64 1)))
 (some (.done (V.int .i64 0))))
theorem e63_eq (a0:List UInt8) (a1:Int):enterK qk false fa63 [V.str a0,V.int .i64 a1] []=e63 a0 a1:=by kernel_rfl
theorem e63_run (a0:List UInt8) (a1:Int) {o:Out} {v:V} (h:e63 a0 a1=some o) (hg:Go qk false 0 fa63 o (.done v)):pcW qcfg 63 [V.str a0,V.int .i64 a1]=some v:=pcW_go qik rfl fa63_eq ((e63_eq ..).trans h) hg
theorem e63_done (a0:List UInt8) (a1:Int) {v:V} (h:e63 a0 a1=some (.done v)):pcW qcfg 63 [V.str a0,V.int .i64 a1]=some v:=e63_run a0 a1 h (.refl _)
noncomputable def fa54:FA:=⟨3,27,[.tmp 6],[24],
 (.seq
 (.ops false [o1 6 (.assign (.const (.int .i64 (0)))) 24])
 (.seq
 (.block 0
 (.seq
 (.ops false [mv 8 2 3,o1 9 (.binOp .lss 3 (t' 8) (.const (.int .i64 (1))) 3) 4,mv 10 9 4,o2 11 (.move (t' 2)) 3 10 false,o2 12 (.binOp .gtr 3 (t' 11) (.const (.int .i64 (8))) 3) 4 10 false,o1 13 (.pick (t' 10) (.const (.bool true)) (t' 12)) 4,mv 14 13 4,o2 15 (.move (t' 0)) 9 14 false,o2 16 (.move (t' 1)) 3 14 false,o2 17 (.call ⟨(.value (.func 63)),#[(t' 15),(t' 16)],#[9,3]⟩) 24 14 false,o2 18 (.binOp .neq 24 (t' 17) (.const (.int .i64 (0))) 24) 4 14 false,o1 19 (.pick (t' 14) (.const (.bool true)) (t' 18)) 4,asg 7 19 4])
 (.cond (t' 7)
 (.seq
 (.ops false [o1 6 (.assign (.const (.int .i64 (1)))) 24])
 (.ret))
 (.seq
 (.ops false [mv 21 0 9,o1 22 (.call ⟨(.builtin .len),#[(t' 21)],#[9]⟩) 3,mv 23 1 3,o1 24 (.binOp .sub 3 (t' 22) (t' 23) 3) 3,mv 25 2 3,o1 26 (.binOp .lss 3 (t' 24) (t' 25) 3) 4,asg 20 26 4])
 (.cond (t' 20)
 (.seq
 (.ops false [o1 6 (.assign (.const (.int .i64 (3)))) 24])
 (.ret))
 (.skip))))))
 (.seq
 (.ops false [o1 6 (.assign (.const (.int .i64 (0)))) 24])
 (.ret))))⟩
theorem fa54_eq:fnA qcfg.P (qcfg.rxf 54) 54=some fa54:=by kernel_rfl
noncomputable def e54 (a0:List UInt8) (a1 a2:Int):R :=
 cond (decide (a2 < 1))
 (some (.done (V.int .i64 1)))
 (cond (decide (a2 > 8))
 (some (.done (V.int .i64 1)))
 (pcK qcfg 63 [V.str a0,V.int .i64 a1] fun r =>
  kI .i64 r fun r63 =>
  cond (r63 != (0:Int))
 (some (.done (V.int .i64 1)))
 (cond (decide (W .i64 ((a0.length:Int) - a1) < a2))
 (some (.done (V.int .i64 3)))
 (some (.done (V.int .i64 0))))))
theorem e54_eq (a0:List UInt8) (a1 a2:Int):enterK qk false fa54 [V.str a0,V.int .i64 a1,V.int .i64 a2] []=e54 a0 a1 a2:=by kernel_rfl
theorem e54_run (a0:List UInt8) (a1 a2:Int) {o:Out} {v:V} (h:e54 a0 a1 a2=some o) (hg:Go qk false 0 fa54 o (.done v)):pcW qcfg 54 [V.str a0,V.int .i64 a1,V.int .i64 a2]=some v:=pcW_go qik rfl fa54_eq ((e54_eq ..).trans h) hg
theorem e54_done (a0:List UInt8) (a1 a2:Int) {v:V} (h:e54 a0 a1 a2=some (.done v)):pcW qcfg 54 [V.str a0,V.int .i64 a1,V.int .i64 a2]=some v:=e54_run a0 a1 a2 h (.refl _)
noncomputable def fa46:FA:=⟨3,35,[.tmp 6,.tmp 7],[39,24],
 (.seq
 (.ops false [o1 6 (.assign (.const (.int .u64 (0)))) 39,o1 7 (.assign (.const (.int .i64 (0)))) 24])
 (.seq
 (.seq
 (.ops false [mv 11 0 9,mv 12 1 3,mv 13 2 3,o1 14 (.call ⟨(.value (.func 54)),#[(t' 11),(t' 12),(t' 13)],#[9,3,3]⟩) 24,asg 8 14 24])
 (.seq
 (.ops false [mv 15 8 24,o1 16 (.binOp .neq 24 (t' 15) (.const (.int .i64 (0))) 24) 4])
 (.cond (t' 16)
 (.seq
 (.ops false [mv 17 8 24,o1 6 (.assign (.const (.int .u64 (0)))) 39,asg 7 17 24])
 (.ret))
 (.skip))))
 (.seq
 (.ops false [o1 9 (.assign (.const (.int .u64 (0)))) 39])
 (.seq
 (.seq
 (.ops false [mv 18 2 3,o1 19 (.move (.const (.int .i64 (0)))) 3])
 (.block 0
 (.loop (List.range' 2 4++[8]++List.range' 10 8++List.range' 20 15)
 (.seq
 (.ops false [o1 20 (.binOp .lss 3 (t' 19) (t' 18) 3) 4])
 (.seq
 (.cond (t' 20)
 (.skip)
 (.exit 0))
 (.seq
 (.block 1
 (.seq
 (.ops false [mv 21 19 3,asg 10 21 3])
 (.ops false [mv 22 9 39,mv 23 0 9,mv 24 1 3,mv 25 10 3,o1 26 (.binOp .add 3 (t' 24) (t' 25) 3) 3,o1 27 (.index 9 (t' 23) (t' 26)) 5,o1 28 (.convert 5 39 (t' 27)) 39,mv 29 10 3,o1 30 (.binOp .mul 3 (.const (.int .i64 (8))) (t' 29) 3) 3,o1 31 (.binOp .shl 39 (t' 28) (t' 30) 3) 39,o1 32 (.binOp .or 39 (t' 22) (t' 31) 39) 39,asg 9 32 39])))
 (.ops false [o1 33 (.binOp .add 3 (t' 19) (.const (.int .i64 (1))) 3) 3,mv 19 33 3])))))))
 (.seq
 (.ops false [mv 34 9 39,asg 6 34 39,o1 7 (.assign (.const (.int .i64 (0)))) 24])
 (.ret))))))⟩
theorem fa46_eq:fnA qcfg.P (qcfg.rxf 46) 46=some fa46:=by kernel_rfl
def T46_0 (x0:List UInt8) (x1 x9:Int) (x18 x19:Int):S:=⟨[V.str x0,V.int .i64 x1]++(JU 4)++[V.int .u64 0,V.int .i64 0,V.junk,V.int .u64 x9]++(JU 8)++[V.int .i64 x18,V.int .i64 x19]++(JU 15),[]⟩
noncomputable def e46 (a0:List UInt8) (a1 a2:Int):R :=
 pcK qcfg 54 [V.str a0,V.int .i64 a1,V.int .i64 a2] fun r =>
 kI .i64 r fun r54 =>
 cond (r54 != (0:Int))
 (some (.done (V.tup [V.int .u64 0,V.int .i64 r54])))
 (some (.head 0 (T46_0 a0 a1 0 a2 0)))
theorem e46_eq (a0:List UInt8) (a1 a2:Int):enterK qk false fa46 [V.str a0,V.int .i64 a1,V.int .i64 a2] []=e46 a0 a1 a2:=by kernel_rfl
theorem e46_run (a0:List UInt8) (a1 a2:Int) {o:Out} {v:V} (h:e46 a0 a1 a2=some o) (hg:Go qk false 0 fa46 o (.done v)):pcW qcfg 46 [V.str a0,V.int .i64 a1,V.int .i64 a2]=some v:=pcW_go qik rfl fa46_eq ((e46_eq ..).trans h) hg
noncomputable def s46_0 (x0:List UInt8) (x1 x9:Int) (x18 x19:Int):R :=
 cond (decide (x19 < x18))
 (gd (decide (0<=W .i64 (x1+x19))) <|
  idxK x0 ((W .i64 (x1+x19)).toNat) fun c =>
  gd (!decide (W .i64 (8 * x19) < 0)) <|
  some (.head 0 (T46_0 x0 x1 (W .u64 (((BitVec.ofInt (IntKind.bits .u64) x9 ||| BitVec.ofInt (IntKind.bits .u64) (W .u64 (W .u64 ((c.toNat:Int)) * 2 ^ (min (W .i64 (8 * x19)).toNat (IntKind.bits .u64))))).toNat:Int))) x18 (W .i64 (x19+1)))))
 (some (.done (V.tup [V.int .u64 x9,V.int .i64 0])))
theorem s46_0_eq (x0:List UInt8) (x1 x9:Int) (x18 x19:Int):goK qk false 0 fa46 0 (T46_0 x0 x1 x9 x18 x19)=s46_0 x0 x1 x9 x18 x19:=by kernel_rfl
theorem s46_0_run (x0:List UInt8) (x1 x9:Int) (x18 x19:Int) {o o':Out} (h:s46_0 x0 x1 x9 x18 x19=some o) (hg:Go qk false 0 fa46 o o'):Go qk false 0 fa46 (.head 0 (T46_0 x0 x1 x9 x18 x19)) o':=.step ((s46_0_eq ..).trans h) hg
noncomputable def fa62:FA:=⟨4,48,[.tmp 8,.tmp 9],[9,24],
 (.seq
 (.ops false [o1 8 (.assign (.const (.string ⟨⟨[]⟩⟩))) 9,o1 9 (.assign (.const (.int .i64 (0)))) 24])
 (.seq
 (.seq
 (.ops false [mv 13 0 9,mv 14 1 3,mv 15 2 3,o1 16 (.call ⟨(.value (.func 54)),#[(t' 13),(t' 14),(t' 15)],#[9,3,3]⟩) 24,asg 10 16 24])
 (.seq
 (.ops false [mv 17 10 24,o1 18 (.binOp .neq 24 (t' 17) (.const (.int .i64 (0))) 24) 4])
 (.cond (t' 18)
 (.seq
 (.ops false [mv 19 10 24,o1 8 (.assign (.const (.string ⟨⟨[]⟩⟩))) 9,asg 9 19 24])
 (.ret))
 (.skip))))
 (.seq
 (.seq
 (.ops false [mv 20 2 3,o1 21 (.binOp .lss 3 (t' 20) (.const (.int .i64 (8))) 3) 4,mv 22 21 4,o2 23 (.move (t' 3)) 39 22 true,o2 24 (.move (t' 2)) 3 22 true,o2 25 (.binOp .mul 3 (.const (.int .i64 (8))) (t' 24) 3) 3 22 true,o2 26 (.binOp .shr 39 (t' 23) (t' 25) 3) 39 22 true,o2 27 (.binOp .gtr 39 (t' 26) (.const (.int .u64 (0))) 39) 4 22 true,o1 28 (.pick (t' 22) (t' 27) (.const (.bool false))) 4])
 (.cond (t' 28)
 (.seq
 (.ops false [o1 8 (.assign (.const (.string ⟨⟨[]⟩⟩))) 9,o1 9 (.assign (.const (.int .i64 (2)))) 24])
 (.ret))
 (.skip)))
 (.seq
 (.ops false [mv 29 2 3,o1 30 (.makeSlice 66 (t' 29) (t' 29)) 66,asg 11 30 66])
 (.seq
 (.seq
 (.ops false [mv 31 2 3,o1 32 (.move (.const (.int .i64 (0)))) 3])
 (.block 0
 (.loop ([2]++List.range' 4 4++[10]++List.range' 12 19++List.range' 33 15)
 (.seq
 (.ops false [o1 33 (.binOp .lss 3 (t' 32) (t' 31) 3) 4])
 (.seq
 (.cond (t' 33)
 (.skip)
 (.exit 0))
 (.seq
 (.block 1
 (.seq
 (.ops false [mv 34 32 3,asg 12 34 3])
 (.ops false [mv 35 11 66,mv 36 12 3,mv 37 3 39,mv 38 12 3,o1 39 (.binOp .mul 3 (.const (.int .i64 (8))) (t' 38) 3) 3,o1 40 (.binOp .shr 39 (t' 37) (t' 39) 3) 39,o1 41 (.convert 39 5 (t' 40)) 5,o1 42 (.indexAddr 66 (t' 35) (t' 36)) 0,o0 (.store 5 (t' 42) (t' 41)) 0])))
 (.ops false [o1 43 (.binOp .add 3 (t' 32) (.const (.int .i64 (1))) 3) 3,mv 32 43 3])))))))
 (.seq
 (.ops false [mv 44 0 9,mv 45 1 3,mv 46 11 66,o1 47 (.call ⟨(.value (.func 76)),#[(t' 44),(t' 45),(t' 46)],#[9,3,66]⟩) 9,asg 8 47 9,o1 9 (.assign (.const (.int .i64 (0)))) 24])
 (.ret)))))))⟩
theorem fa62_eq:fnA qcfg.P (qcfg.rxf 62) 62=some fa62:=by kernel_rfl
def T62_0 (x0:List UInt8) (x1 x3:Int) (x31 x32:Int) (m0:List V):S:=⟨[V.str x0,V.int .i64 x1,V.junk,V.int .u64 x3]++(JU 4)++[V.str [],V.int .i64 0,V.junk,V.own 0]++(JU 19)++[V.int .i64 x31,V.int .i64 x32]++(JU 15),[O.row 5 m0 0]⟩
noncomputable def e62 (a0:List UInt8) (a1 a2 a3:Int):R :=
 pcK qcfg 54 [V.str a0,V.int .i64 a1,V.int .i64 a2] fun r =>
 kI .i64 r fun r54 =>
 cond (r54 != (0:Int))
 (some (.done (V.tup [V.str [],V.int .i64 r54])))
 (cond (decide (a2 < 8))
 (gd (!decide (W .i64 (8 * a2) < 0)) <|
  cond (decide (a3.fdiv (2 ^ (min (W .i64 (8 * a2)).toNat (IntKind.bits .u64))) > 0))
 (some (.done (V.tup [V.str [],V.int .i64 2])))
 (gd (decide (0<=a2)) <|
  gd (decide (a2<=a2)) <|
  gd (decide (a2.toNat<=16777216)) <|
  some (.head 0 (T62_0 a0 a1 a3 a2 0 (List.replicate a2.toNat (V.int .u8 0))))))
 (gd (decide (0<=a2)) <|
  gd (decide (a2<=a2)) <|
  gd (decide (a2.toNat<=16777216)) <|
  some (.head 0 (T62_0 a0 a1 a3 a2 0 (List.replicate a2.toNat (V.int .u8 0))))))
theorem e62_eq (a0:List UInt8) (a1 a2 a3:Int):enterK qk false fa62 [V.str a0,V.int .i64 a1,V.int .i64 a2,V.int .u64 a3] []=e62 a0 a1 a2 a3:=by kernel_rfl
theorem e62_run (a0:List UInt8) (a1 a2 a3:Int) {o:Out} {v:V} (h:e62 a0 a1 a2 a3=some o) (hg:Go qk false 0 fa62 o (.done v)):pcW qcfg 62 [V.str a0,V.int .i64 a1,V.int .i64 a2,V.int .u64 a3]=some v:=pcW_go qik rfl fa62_eq ((e62_eq ..).trans h) hg
noncomputable def s62_0 (x0:List UInt8) (x1 x3:Int) (x31 x32:Int) (m0:List V):R :=
 cond (decide (x32 < x31))
 (gd (!decide (W .i64 (8 * x32) < 0)) <|
  gd (decide (0<=x32)) <|
  gd (decide (x32.toNat < m0.length)) <|
  idxK m0 x32.toNat fun v =>
  kI .u8 v fun n =>
  some (.head 0 (T62_0 x0 x1 x3 x31 (W .i64 (x32+1)) ((m0).set x32.toNat (V.int .u8 (W .u8 (x3.fdiv (2 ^ (min (W .i64 (8 * x32)).toNat (IntKind.bits .u64))))))))))
 (pcK qcfg 76 [V.str x0,V.int .i64 x1,V.sl m0] fun r =>
  kS r fun r76 =>
  some (.done (V.tup [V.str r76,V.int .i64 0])))
theorem s62_0_eq (x0:List UInt8) (x1 x3:Int) (x31 x32:Int) (m0:List V):goK qk false 0 fa62 0 (T62_0 x0 x1 x3 x31 x32 m0)=s62_0 x0 x1 x3 x31 x32 m0:=by kernel_rfl
theorem s62_0_run (x0:List UInt8) (x1 x3:Int) (x31 x32:Int) (m0:List V) {o o':Out} (h:s62_0 x0 x1 x3 x31 x32 m0=some o) (hg:Go qk false 0 fa62 o o'):Go qk false 0 fa62 (.head 0 (T62_0 x0 x1 x3 x31 x32 m0)) o':=.step ((s62_0_eq ..).trans h) hg
noncomputable def fa61:FA:=⟨2,26,[.tmp 4,.tmp 5],[9,24],
 (.seq
 (.ops false [o1 4 (.assign (.const (.string ⟨⟨[]⟩⟩))) 9,o1 5 (.assign (.const (.int .i64 (0)))) 24])
 (.seq
 (.block 0
 (.seq
 (.ops false [mv 7 1 3,o1 8 (.binOp .lss 3 (t' 7) (.const (.int .i64 (0))) 3) 4,mv 9 8 4,o2 10 (.move (t' 1)) 3 9 false,o2 11 (.binOp .gtr 3 (t' 10) (.const (.int .i64 (65536))) 3) 4 9 false,o1 12 (.pick (t' 9) (.const (.bool true)) (t' 11)) 4,asg 6 12 4])
 (.cond (t' 6)
 (.seq
 (.ops false [o1 4 (.assign (.const (.string ⟨⟨[]⟩⟩))) 9,o1 5 (.assign (.const (.int .i64 (1)))) 24])
 (.ret))
 (.seq
 (.ops false [mv 14 0 9,o1 15 (.call ⟨(.builtin .len),#[(t' 14)],#[9]⟩) 3,mv 16 1 3,o1 17 (.binOp .gtr 3 (t' 15) (t' 16) 3) 4,asg 13 17 4])
 (.cond (t' 13)
 (.seq
 (.ops false [o1 4 (.assign (.const (.string ⟨⟨[]⟩⟩))) 9,o1 5 (.assign (.const (.int .i64 (2)))) 24])
 (.ret))
 (.skip))))))
 (.seq
 (.ops false [mv 18 0 9,mv 19 1 3,mv 20 0 9,o1 21 (.call ⟨(.builtin .len),#[(t' 20)],#[9]⟩) 3,o1 22 (.binOp .sub 3 (t' 19) (t' 21) 3) 3,o1 23 (.makeSlice 66 (t' 22) (t' 22)) 66,o1 24 (.convert 66 9 (t' 23)) 9,o1 25 (.binOp .add 9 (t' 18) (t' 24) 9) 9,asg 4 25 9,o1 5 (.assign (.const (.int .i64 (0)))) 24])
 (.ret))))⟩
theorem fa61_eq:fnA qcfg.P (qcfg.rxf 61) 61=some fa61:=by kernel_rfl
noncomputable def e61 (a0:List UInt8) (a1:Int):R :=
 cond (decide (a1 < 0))
 (some (.done (V.tup [V.str [],V.int .i64 1])))
 (cond (decide (a1 > 65536))
 (some (.done (V.tup [V.str [],V.int .i64 1])))
 (cond (decide ((a0.length:Int) > a1))
 (some (.done (V.tup [V.str [],V.int .i64 2])))
 (gd (decide (0<=W .i64 (a1 - (a0.length:Int)))) <|
  gd (decide (W .i64 (a1 - (a0.length:Int))<=W .i64 (a1 - (a0.length:Int)))) <|
  gd (decide ((W .i64 (a1 - (a0.length:Int))).toNat<=16777216)) <|
  opt (numsOf (List.replicate ((W .i64 (a1 - (a0.length:Int))).toNat) (V.int .u8 0))) fun ns =>
  gd (decide (a0.length+(ns.map fun n=>UInt8.ofNat n.toNat).length<=4611686018427387904)) <|
  some (.done (V.tup [V.str (a0++(ns.map fun n=>UInt8.ofNat n.toNat)),V.int .i64 0])))))
theorem e61_eq (a0:List UInt8) (a1:Int):enterK qk false fa61 [V.str a0,V.int .i64 a1] []=e61 a0 a1:=by kernel_rfl
theorem e61_run (a0:List UInt8) (a1:Int) {o:Out} {v:V} (h:e61 a0 a1=some o) (hg:Go qk false 0 fa61 o (.done v)):pcW qcfg 61 [V.str a0,V.int .i64 a1]=some v:=pcW_go qik rfl fa61_eq ((e61_eq ..).trans h) hg
theorem e61_done (a0:List UInt8) (a1:Int) {v:V} (h:e61 a0 a1=some (.done v)):pcW qcfg 61 [V.str a0,V.int .i64 a1]=some v:=e61_run a0 a1 h (.refl _)
noncomputable def fa36:FA:=⟨2,18,[.tmp 4],[9],
 (.seq
 (.ops false [o1 4 (.assign (.const (.string ⟨⟨[]⟩⟩))) 9])
 (.seq
 (.seq
 (.ops false [mv 5 1 3,o1 6 (.binOp .eql 3 (t' 5) (.const (.int .i64 (0))) 3) 4])
 (.cond (t' 6)
 (.seq
 (.ops false [o1 4 (.assign (.const (.string ⟨⟨[]⟩⟩))) 9])
 (.ret))
 (.skip)))
 (.seq
 (.ops true [mv 7 0 39,o1 8 (.binOp .rem 39 (t' 7) (.const (.int .u64 (256))) 39) 39,o1 9 (.convert 39 5 (t' 8)) 5,⟨(some 10),.buildSlice 66 1 #[(0,(t' 9))],66,none,true,false,false⟩,o1 11 (.convert 66 9 (t' 10)) 9,mv 12 0 39,o1 13 (.binOp .quo 39 (t' 12) (.const (.int .u64 (256))) 39) 39,mv 14 1 3,o1 15 (.binOp .sub 3 (t' 14) (.const (.int .i64 (1))) 3) 3,⟨(some 16),.call ⟨(.value (.func 36)),#[(t' 13),(t' 15)],#[39,3]⟩,9,none,false,true,false⟩,o1 17 (.binOp .add 9 (t' 11) (t' 16) 9) 9,asg 4 17 9])
 (.ret))))⟩
theorem fa36_eq:fnA qcfg.P (qcfg.rxf 36) 36=some fa36:=by kernel_rfl
noncomputable def e36 (a0 a1:Int):R :=
 cond (a1==(0:Int))
 (some (.done (V.str [])))
 (pcK qcfg 36 [V.int .u64 (W .u64 ((a0.tdiv 256))),V.int .i64 (W .i64 (a1 - 1))] fun r =>
  kS r fun r36 =>
  gd (decide (([UInt8.ofNat (W .u8 (a0.tmod 256)).toNat]:List UInt8).length+r36.length<=4611686018427387904)) <|
  some (.done (V.str ([UInt8.ofNat (W .u8 (a0.tmod 256)).toNat]++r36))))
theorem e36_eq (a0 a1:Int):enterK qk false fa36 [V.int .u64 a0,V.int .i64 a1] []=e36 a0 a1:=by kernel_rfl
theorem e36_run (a0 a1:Int) {o:Out} {v:V} (h:e36 a0 a1=some o) (hg:Go qk false 0 fa36 o (.done v)):pcW qcfg 36 [V.int .u64 a0,V.int .i64 a1]=some v:=pcW_go qik rfl fa36_eq ((e36_eq ..).trans h) hg
theorem e36_done (a0 a1:Int) {v:V} (h:e36 a0 a1=some (.done v)):pcW qcfg 36 [V.int .u64 a0,V.int .i64 a1]=some v:=e36_run a0 a1 h (.refl _)
noncomputable def fa18:FA:=⟨2,23,[.tmp 4,.tmp 5],[9,24],
 (.seq
 (.ops false [o1 4 (.assign (.const (.string ⟨⟨[]⟩⟩))) 9,o1 5 (.assign (.const (.int .i64 (0)))) 24])
 (.seq
 (.seq
 (.ops false [mv 6 1 3,o1 7 (.binOp .lss 3 (t' 6) (.const (.int .i64 (0))) 3) 4,mv 8 7 4,o2 9 (.move (t' 1)) 3 8 false,o2 10 (.binOp .gtr 3 (t' 9) (.const (.int .i64 (65536))) 3) 4 8 false,o1 11 (.pick (t' 8) (.const (.bool true)) (t' 10)) 4])
 (.cond (t' 11)
 (.seq
 (.ops false [o1 4 (.assign (.const (.string ⟨⟨[]⟩⟩))) 9,o1 5 (.assign (.const (.int .i64 (1)))) 24])
 (.ret))
 (.skip)))
 (.seq
 (.seq
 (.ops false [mv 12 0 9,o1 13 (.call ⟨(.builtin .len),#[(t' 12)],#[9]⟩) 3,mv 14 1 3,o1 15 (.binOp .gtr 3 (t' 13) (t' 14) 3) 4])
 (.cond (t' 15)
 (.seq
 (.ops false [o1 4 (.assign (.const (.string ⟨⟨[]⟩⟩))) 9,o1 5 (.assign (.const (.int .i64 (2)))) 24])
 (.ret))
 (.skip)))
 (.seq
 (.ops false [mv 16 0 9,mv 17 1 3,mv 18 0 9,o1 19 (.call ⟨(.builtin .len),#[(t' 18)],#[9]⟩) 3,o1 20 (.binOp .sub 3 (t' 17) (t' 19) 3) 3,o1 21 (.call ⟨(.value (.func 36)),#[(.const (.int .u64 (0))),(t' 20)],#[39,3]⟩) 9,o1 22 (.binOp .add 9 (t' 16) (t' 21) 9) 9,asg 4 22 9,o1 5 (.assign (.const (.int .i64 (0)))) 24])
 (.ret)))))⟩
theorem fa18_eq:fnA qcfg.P (qcfg.rxf 18) 18=some fa18:=by kernel_rfl
noncomputable def e18 (a0:List UInt8) (a1:Int):R :=
 cond (decide (a1 < 0))
 (some (.done (V.tup [V.str [],V.int .i64 1])))
 (cond (decide (a1 > 65536))
 (some (.done (V.tup [V.str [],V.int .i64 1])))
 (cond (decide ((a0.length:Int) > a1))
 (some (.done (V.tup [V.str [],V.int .i64 2])))
 (pcK qcfg 36 [V.int .u64 0,V.int .i64 (W .i64 (a1 - (a0.length:Int)))] fun r =>
  kS r fun r36 =>
  gd (decide (a0.length+r36.length<=4611686018427387904)) <|
  some (.done (V.tup [V.str (a0++r36),V.int .i64 0])))))
theorem e18_eq (a0:List UInt8) (a1:Int):enterK qk false fa18 [V.str a0,V.int .i64 a1] []=e18 a0 a1:=by kernel_rfl
theorem e18_run (a0:List UInt8) (a1:Int) {o:Out} {v:V} (h:e18 a0 a1=some o) (hg:Go qk false 0 fa18 o (.done v)):pcW qcfg 18 [V.str a0,V.int .i64 a1]=some v:=pcW_go qik rfl fa18_eq ((e18_eq ..).trans h) hg
theorem e18_done (a0:List UInt8) (a1:Int) {v:V} (h:e18 a0 a1=some (.done v)):pcW qcfg 18 [V.str a0,V.int .i64 a1]=some v:=e18_run a0 a1 h (.refl _)
noncomputable def fa35:FA:=⟨2,26,[.tmp 4],[4],
 (.seq
 (.ops false [o1 4 (.assign (.const (.bool false))) 4])
 (.seq
 (.seq
 (.ops false [mv 6 0 45,o1 7 (.call ⟨(.builtin .len),#[(t' 6)],#[45]⟩) 3,mv 8 1 45,o1 9 (.call ⟨(.builtin .len),#[(t' 8)],#[45]⟩) 3,o1 10 (.binOp .neq 3 (t' 7) (t' 9) 3) 4])
 (.cond (t' 10)
 (.seq
 (.ops false [o1 4 (.assign (.const (.bool false))) 4])
 (.ret))
 (.skip)))
 (.seq
 (.seq
 (.ops false [o1 5 (.assign (.const (.int .i64 (0)))) 3])
 (.block 0
 (.loop ([2,3]++List.range' 6 20)
 (.seq
 (.seq
 (.ops false [mv 11 5 3,mv 12 0 45,o1 13 (.call ⟨(.builtin .len),#[(t' 12)],#[45]⟩) 3,o1 14 (.binOp .lss 3 (t' 11) (t' 13) 3) 4])
 (.cond (t' 14)
 (.skip)
 (.exit 0)))
 (.seq
 (.block 1
 (.seq
 (.ops true [mv 17 0 45,mv 18 5 3,o1 19 (.indexAddr 45 (t' 17) (t' 18)) 0,o1 20 (.load 3 (t' 19)) 3,mv 21 1 45,mv 22 5 3,o1 23 (.indexAddr 45 (t' 21) (t' 22)) 0,o1 24 (.load 3 (t' 23)) 3,o1 25 (.binOp .neq 3 (t' 20) (t' 24) 3) 4])
 (.cond (t' 25)
 (.seq
 (.ops false [o1 4 (.assign (.const (.bool false))) 4])
 (.ret))
 (.skip))))
 (.ops false [mv 15 5 3,o1 16 (.binOp .add 3 (t' 15) (.const (.int .i64 (1))) 3) 3,asg 5 16 3]))))))
 (.seq
 (.ops false [o1 4 (.assign (.const (.bool true))) 4])
 (.ret)))))⟩
theorem fa35_eq:fnA qcfg.P (qcfg.rxf 35) 35=some fa35:=by kernel_rfl
def T35_0 (x0 x1:List V) (x5:Int):S:=⟨[V.sl x0,V.sl x1,V.junk,V.junk,V.bool false,V.int .i64 x5]++(JU 20),[]⟩
noncomputable def e35 (a0 a1:List V):R :=
 cond ((a0.length:Int) != (a1.length:Int))
 (some (.done (V.bool false)))
 (some (.head 0 (T35_0 a0 a1 0)))
theorem e35_eq (a0 a1:List V):enterK qk false fa35 [V.sl a0,V.sl a1] []=e35 a0 a1:=by kernel_rfl
theorem e35_run (a0 a1:List V) {o:Out} {v:V} (h:e35 a0 a1=some o) (hg:Go qk false 0 fa35 o (.done v)):pcW qcfg 35 [V.sl a0,V.sl a1]=some v:=pcW_go qik rfl fa35_eq ((e35_eq ..).trans h) hg
noncomputable def s35_0 (x0 x1:List V) (x5:Int):R :=
 cond (decide (x5 < (x0.length:Int)))
 (gd (decide (0<=x5)) <|
  idxK x0 x5.toNat fun v =>
  kI .i64 v fun n =>
  gd (decide (0<=x5)) <|
  idxK x1 x5.toNat fun v_1 =>
  kI .i64 v_1 fun n_1 =>
  cond (n != n_1)
 (some (.done (V.bool false)))
 (some (.head 0 (T35_0 x0 x1 (W .i64 (x5+1))))))
 (some (.done (V.bool true)))
theorem s35_0_eq (x0 x1:List V) (x5:Int):goK qk false 0 fa35 0 (T35_0 x0 x1 x5)=s35_0 x0 x1 x5:=by kernel_rfl
theorem s35_0_run (x0 x1:List V) (x5:Int) {o o':Out} (h:s35_0 x0 x1 x5=some o) (hg:Go qk false 0 fa35 o o'):Go qk false 0 fa35 (.head 0 (T35_0 x0 x1 x5)) o':=.step ((s35_0_eq ..).trans h) hg
noncomputable def fa53:FA:=⟨1,28,[.tmp 2,.tmp 3],[9,24],
 (.seq
 (.ops false [o1 2 (.assign (.const (.string ⟨⟨[]⟩⟩))) 9,o1 3 (.assign (.const (.int .i64 (0)))) 24])
 (.seq
 (.seq
 (.ops false [mv 8 0 9,o1 9 (.call ⟨(.builtin .len),#[(t' 8)],#[9]⟩) 3,o1 10 (.binOp .gtr 3 (t' 9) (.const (.int .i64 (252))) 3) 4])
 (.cond (t' 10)
 (.seq
 (.ops false [o1 2 (.assign (.const (.string ⟨⟨[]⟩⟩))) 9,o1 3 (.assign (.const (.int .i64 (2)))) 24])
 (.ret))
 (.skip)))
 (.seq
 (.ops false [mv 12 0 9,o1 13 (.call ⟨(.value (.func 61)),#[(t' 12),(.const (.int .i64 (252)))],#[9,3]⟩) 32,mv 11 13 32,o1 14 (.extract (t' 11) 0) 9,o1 15 (.extract (t' 11) 1) 24,asg 4 14 9,asg 5 15 24])
 (.seq
 (.ops false [mv 17 4 9,o1 18 (.call ⟨(.value (.func 61)),#[(t' 17),(.const (.int .i64 (256)))],#[9,3]⟩) 32,mv 16 18 32,o1 19 (.extract (t' 16) 0) 9,o1 20 (.extract (t' 16) 1) 24,asg 6 19 9,asg 7 20 24])
 (.seq
 (.ops false [mv 21 6 9,mv 22 4 9,o1 23 (.call ⟨(.value (.func 47)),#[(t' 22)],#[9]⟩) 82,o1 24 (.convert 82 39 (t' 23)) 39,o1 25 (.call ⟨(.value (.func 62)),#[(t' 21),(.const (.int .i64 (252))),(.const (.int .i64 (4))),(t' 24)],#[9,3,3,39]⟩) 32,o1 26 (.extract (t' 25) 0) 9,o1 27 (.extract (t' 25) 1) 24,asg 2 26 9,asg 3 27 24])
 (.ret))))))⟩
theorem fa53_eq:fnA qcfg.P (qcfg.rxf 53) 53=some fa53:=by kernel_rfl
noncomputable def e53 (a0:List UInt8):R :=
 cond (decide ((a0.length:Int) > 252))
 (some (.done (V.tup [V.str [],V.int .i64 2])))
 (pcK qcfg 61 [V.str a0,V.int .i64 252] fun r =>
  d32 r fun r61_0 r61_1 =>
  pcK qcfg 61 [V.str r61_0,V.int .i64 256] fun r_1 =>
  d32 r_1 fun r61_0_1 r61_1_1 =>
  pcK qcfg 47 [V.str r61_0] fun r_2 =>
  kI .u32 r_2 fun r47 =>
  pcK qcfg 62 [V.str r61_0_1,V.int .i64 252,V.int .i64 4,V.int .u64 (W .u64 (r47))] fun r_3 =>
  d32 r_3 fun r62_0 r62_1 =>
  some (.done (V.tup [V.str r62_0,V.int .i64 r62_1])))
theorem e53_eq (a0:List UInt8):enterK qk false fa53 [V.str a0] []=e53 a0:=by kernel_rfl
theorem e53_run (a0:List UInt8) {o:Out} {v:V} (h:e53 a0=some o) (hg:Go qk false 0 fa53 o (.done v)):pcW qcfg 53 [V.str a0]=some v:=pcW_go qik rfl fa53_eq ((e53_eq ..).trans h) hg
theorem e53_done (a0:List UInt8) {v:V} (h:e53 a0=some (.done v)):pcW qcfg 53 [V.str a0]=some v:=e53_run a0 h (.refl _)
noncomputable def fa32:FA:=⟨1,22,[.tmp 2,.tmp 3],[9,24],
 (.seq
 (.ops false [o1 2 (.assign (.const (.string ⟨⟨[]⟩⟩))) 9,o1 3 (.assign (.const (.int .i64 (0)))) 24])
 (.seq
 (.seq
 (.ops false [mv 6 0 9,o1 7 (.call ⟨(.builtin .len),#[(t' 6)],#[9]⟩) 3,o1 8 (.binOp .neq 3 (t' 7) (.const (.int .i64 (256))) 3) 4])
 (.cond (t' 8)
 (.seq
 (.ops false [o1 2 (.assign (.const (.string ⟨⟨[]⟩⟩))) 9,o1 3 (.assign (.const (.int .i64 (4)))) 24])
 (.ret))
 (.skip)))
 (.seq
 (.ops false [mv 10 0 9,o1 11 (.call ⟨(.value (.func 46)),#[(t' 10),(.const (.int .i64 (252))),(.const (.int .i64 (4)))],#[9,3,3]⟩) 40,mv 9 11 40,o1 12 (.extract (t' 9) 0) 39,o1 13 (.extract (t' 9) 1) 24,asg 4 12 39,asg 5 13 24])
 (.seq
 (.seq
 (.ops false [mv 14 4 39,o1 15 (.convert 39 82 (t' 14)) 82,mv 16 0 9,o1 17 (.slice 9 (t' 16) none (some (.const (.int .i64 (252)))) none) 9,o1 18 (.call ⟨(.value (.func 47)),#[(t' 17)],#[9]⟩) 82,o1 19 (.binOp .neq 82 (t' 15) (t' 18) 82) 4])
 (.cond (t' 19)
 (.seq
 (.ops false [o1 2 (.assign (.const (.string ⟨⟨[]⟩⟩))) 9,o1 3 (.assign (.const (.int .i64 (5)))) 24])
 (.ret))
 (.skip)))
 (.seq
 (.ops false [mv 20 0 9,o1 21 (.slice 9 (t' 20) none (some (.const (.int .i64 (252)))) none) 9,asg 2 21 9,o1 3 (.assign (.const (.int .i64 (0)))) 24])
 (.ret))))))⟩
theorem fa32_eq:fnA qcfg.P (qcfg.rxf 32) 32=some fa32:=by kernel_rfl
noncomputable def e32 (a0:List UInt8):R :=
 cond ((a0.length:Int) != (256:Int))
 (some (.done (V.tup [V.str [],V.int .i64 4])))
 (pcK qcfg 46 [V.str a0,V.int .i64 252,V.int .i64 4] fun r =>
  d40 r fun r46_0 r46_1 =>
  gd (decide (252<=a0.length)) <|
  pcK qcfg 47 [V.str (a0.take 252)] fun r_1 =>
  kI .u32 r_1 fun r47 =>
  cond ((W .u32 (r46_0)) != r47)
 (some (.done (V.tup [V.str [],V.int .i64 5])))
 (gd (decide (252<=a0.length)) <|
  some (.done (V.tup [V.str (a0.take 252),V.int .i64 0]))))
theorem e32_eq (a0:List UInt8):enterK qk false fa32 [V.str a0] []=e32 a0:=by kernel_rfl
theorem e32_run (a0:List UInt8) {o:Out} {v:V} (h:e32 a0=some o) (hg:Go qk false 0 fa32 o (.done v)):pcW qcfg 32 [V.str a0]=some v:=pcW_go qik rfl fa32_eq ((e32_eq ..).trans h) hg
theorem e32_done (a0:List UInt8) {v:V} (h:e32 a0=some (.done v)):pcW qcfg 32 [V.str a0]=some v:=e32_run a0 h (.refl _)
noncomputable def fa57:FA:=⟨0,8,[.tmp 0],[9],
 (.seq
 (.ops false [o1 0 (.assign (.const (.string ⟨⟨[]⟩⟩))) 9])
 (.seq
 (.ops false [o1 4 (.call ⟨(.value (.func 53)),#[(.const (.string ⟨⟨[]⟩⟩))],#[9]⟩) 32,mv 3 4 32,o1 5 (.extract (t' 3) 0) 9,o1 6 (.extract (t' 3) 1) 24,asg 1 5 9,asg 2 6 24])
 (.seq
 (.ops false [mv 7 1 9,asg 0 7 9])
 (.ret))))⟩
theorem fa57_eq:fnA qcfg.P (qcfg.rxf 57) 57=some fa57:=by kernel_rfl
noncomputable def e57 :R :=
 pcK qcfg 53 [V.str []] fun r =>
 d32 r fun r53_0 r53_1 =>
 some (.done (V.str r53_0))
theorem e57_eq :enterK qk false fa57 [] []=e57 :=by kernel_rfl
theorem e57_run  {o:Out} {v:V} (h:e57 =some o) (hg:Go qk false 0 fa57 o (.done v)):pcW qcfg 57 []=some v:=pcW_go qik rfl fa57_eq ((e57_eq ).trans h) hg
theorem e57_done  {v:V} (h:e57 =some (.done v)):pcW qcfg 57 []=some v:=e57_run  h (.refl _)
noncomputable def e12 (a0:Int):R :=
 pcK qcfg 28 [V.str [32,32,32,32,32,32,32,32],V.int .i64 0,V.int .i64 8,V.int .u64 (W .u64 (a0))] fun r =>
 d32 r fun r28_0 r28_1 =>
 some (.done (V.str r28_0))
noncomputable def fa17:FA:=⟨0,201,[.tmp 0],[4],
 (.seq
 (.ops false [o1 0 (.assign (.const (.bool false))) 4])
 (.seq
 (.ops false [o1 31 (.call ⟨(.value (.func 7)),#[(.const (.int .i64 (4)))],#[3]⟩) 25,mv 30 31 25,o1 32 (.extract (t' 30) 0) 23,o1 33 (.extract (t' 30) 1) 24,asg 1 32 23,asg 2 33 24])
 (.seq
 (.seq
 (.ops false [mv 34 1 23,o1 35 (.binOp .eql 23 (t' 34) (.const (.pointer none)) 23) 4,mv 36 35 4,o2 37 (.move (t' 2)) 24 36 false,o2 38 (.binOp .neq 24 (t' 37) (.const (.int .i64 (0))) 24) 4 36 false,o1 39 (.pick (t' 36) (.const (.bool true)) (t' 38)) 4])
 (.cond (t' 39)
 (.seq
 (.ops false [o1 0 (.assign (.const (.bool false))) 4])
 (.ret))
 (.skip)))
 (.seq
 (.ops false [mv 41 1 23,o1 42 (.call ⟨(.value (.func 8)),#[(t' 41),(.const (.int .i64 (1)))],#[23,3]⟩) 28,mv 40 42 28,o1 43 (.extract (t' 40) 0) 27,o1 44 (.extract (t' 40) 1) 24,asg 3 43 27,asg 4 44 24])
 (.seq
 (.ops false [mv 46 1 23,o1 47 (.call ⟨(.value (.func 8)),#[(t' 46),(.const (.int .i64 (0)))],#[23,3]⟩) 28,mv 45 47 28,o1 48 (.extract (t' 45) 0) 27,o1 49 (.extract (t' 45) 1) 24,asg 5 48 27,asg 6 49 24])
 (.seq
 (.ops false [mv 51 1 23,o1 52 (.call ⟨(.value (.func 8)),#[(t' 51),(.const (.int .i64 (65)))],#[23,3]⟩) 28,mv 50 52 28,o1 53 (.extract (t' 50) 0) 27,o1 54 (.extract (t' 50) 1) 24,asg 7 53 27,asg 8 54 24])
 (.seq
 (.seq
 (.ops false [mv 55 3 27,o1 56 (.binOp .eql 27 (t' 55) (.const (.pointer none)) 27) 4,mv 57 56 4,o2 58 (.move (t' 4)) 24 57 false,o2 59 (.binOp .neq 24 (t' 58) (.const (.int .i64 (0))) 24) 4 57 false,o1 60 (.pick (t' 57) (.const (.bool true)) (t' 59)) 4])
 (.cond (t' 60)
 (.seq
 (.ops false [o1 0 (.assign (.const (.bool false))) 4])
 (.ret))
 (.skip)))
 (.seq
 (.ops false [mv 62 3 27,o1 63 (.call ⟨(.value (.func 9)),#[(t' 62),(.const (.int .i64 (4)))],#[27,3]⟩) 32,mv 61 63 32,o1 64 (.extract (t' 61) 0) 9,o1 65 (.extract (t' 61) 1) 24,asg 9 64 9,asg 10 65 24])
 (.seq
 (.ops false [mv 67 3 27,o1 68 (.call ⟨(.value (.func 9)),#[(t' 67),(.const (.int .i64 (0)))],#[27,3]⟩) 32,mv 66 68 32,o1 69 (.extract (t' 66) 0) 9,o1 70 (.extract (t' 66) 1) 24,asg 11 69 9,asg 12 70 24])
 (.seq
 (.ops false [mv 71 3 27,o1 72 (.call ⟨(.value (.func 11)),#[(t' 71),(.const (.int .i64 (0))),(.const (.string ⟨⟨[97]⟩⟩)),(.const (.int .i64 (5)))],#[27,3,9,3]⟩) 24,mv 73 3 27,o1 74 (.call ⟨(.value (.func 11)),#[(t' 73),(.const (.int .i64 (0))),(.const (.string ⟨⟨[98]⟩⟩)),(.const (.int .i64 (4)))],#[27,3,9,3]⟩) 24,mv 75 3 27,o1 76 (.call ⟨(.value (.func 11)),#[(t' 75),(.const (.int .i64 (1))),(.const (.string ⟨⟨[99]⟩⟩)),(.const (.int .i64 (5)))],#[27,3,9,3]⟩) 24,asg 13 72 24,asg 14 74 24,asg 15 76 24])
 (.seq
 (.ops false [mv 78 3 27,o1 79 (.call ⟨(.value (.func 9)),#[(t' 78),(.const (.int .i64 (1)))],#[27,3]⟩) 32,mv 77 79 32,o1 80 (.extract (t' 77) 0) 9,o1 81 (.extract (t' 77) 1) 24,asg 16 80 9,asg 17 81 24])
 (.seq
 (.ops false [mv 82 3 27,o1 83 (.call ⟨(.value (.func 10)),#[(t' 82),(.const (.int .i64 (0)))],#[27,3]⟩) 24,mv 84 3 27,o1 85 (.call ⟨(.value (.func 10)),#[(t' 84),(.const (.int .i64 (0)))],#[27,3]⟩) 24,asg 18 83 24,asg 19 85 24])
 (.seq
 (.ops false [mv 87 3 27,o1 88 (.call ⟨(.value (.func 9)),#[(t' 87),(.const (.int .i64 (1)))],#[27,3]⟩) 32,mv 86 88 32,o1 89 (.extract (t' 86) 0) 9,o1 90 (.extract (t' 86) 1) 24,asg 20 89 9,asg 21 90 24])
 (.seq
 (.ops false [mv 92 3 27,o1 93 (.call ⟨(.value (.func 22)),#[(t' 92)],#[27]⟩) 49,mv 91 93 49,o1 94 (.extract (t' 91) 0) 3,o1 95 (.extract (t' 91) 1) 4,asg 22 94 3,asg 23 95 4])
 (.seq
 (.ops false [mv 96 3 27,o1 97 (.call ⟨(.value (.func 13)),#[(t' 96),(.const (.int .i64 (5)))],#[27,3]⟩) 0])
 (.seq
 (.ops false [mv 99 3 27,o1 100 (.call ⟨(.value (.func 9)),#[(t' 99),(.const (.int .i64 (1)))],#[27,3]⟩) 32,mv 98 100 32,o1 101 (.extract (t' 98) 0) 9,o1 102 (.extract (t' 98) 1) 24,asg 24 101 9,asg 25 102 24])
 (.seq
 (.ops false [mv 104 1 23,o1 105 (.call ⟨(.value (.func 15)),#[(t' 104),(.const (.int .i64 (0)))],#[23,3]⟩) 32,mv 103 105 32,o1 106 (.extract (t' 103) 0) 9,o1 107 (.extract (t' 103) 1) 24,asg 26 106 9,asg 27 107 24])
 (.seq
 (.ops false [o1 109 (.call ⟨(.value (.func 18)),#[(.const (.string ⟨⟨[97]⟩⟩)),(.const (.int .i64 (252)))],#[9,3]⟩) 32,mv 108 109 32,o1 110 (.extract (t' 108) 0) 9,o1 111 (.extract (t' 108) 1) 24,asg 28 110 9,asg 29 111 24])
 (.seq
 (.ops false [mv 112 6 24,o1 113 (.binOp .eql 24 (t' 112) (.const (.int .i64 (1))) 24) 4,mv 114 113 4,o2 115 (.move (t' 8)) 24 114 true,o2 116 (.binOp .eql 24 (t' 115) (.const (.int .i64 (1))) 24) 4 114 true,o1 117 (.pick (t' 114) (t' 116) (.const (.bool false))) 4,mv 118 117 4,o2 119 (.move (t' 10)) 24 118 true,o2 120 (.binOp .eql 24 (t' 119) (.const (.int .i64 (1))) 24) 4 118 true,o1 121 (.pick (t' 118) (t' 120) (.const (.bool false))) 4,mv 122 121 4,o2 123 (.move (t' 12)) 24 122 true,o2 124 (.binOp .eql 24 (t' 123) (.const (.int .i64 (0))) 24) 4 122 true,o1 125 (.pick (t' 122) (t' 124) (.const (.bool false))) 4,mv 126 125 4,o2 127 (.move (t' 13)) 24 126 true,o2 128 (.binOp .eql 24 (t' 127) (.const (.int .i64 (0))) 24) 4 126 true,o1 129 (.pick (t' 126) (t' 128) (.const (.bool false))) 4,mv 130 129 4,o2 131 (.move (t' 14)) 24 130 true,o2 132 (.binOp .eql 24 (t' 131) (.const (.int .i64 (1))) 24) 4 130 true,o1 133 (.pick (t' 130) (t' 132) (.const (.bool false))) 4,mv 134 133 4,o2 135 (.move (t' 15)) 24 134 true,o2 136 (.binOp .eql 24 (t' 135) (.const (.int .i64 (7))) 24) 4 134 true,o1 137 (.pick (t' 134) (t' 136) (.const (.bool false))) 4,mv 138 137 4,o2 139 (.move (t' 17)) 24 138 true,o2 140 (.binOp .eql 24 (t' 139) (.const (.int .i64 (6))) 24) 4 138 true,o1 141 (.pick (t' 138) (t' 140) (.const (.bool false))) 4,mv 142 141 4,o2 143 (.move (t' 18)) 24 142 true,o2 144 (.binOp .eql 24 (t' 143) (.const (.int .i64 (0))) 24) 4 142 true,o1 145 (.pick (t' 142) (t' 144) (.const (.bool false))) 4,mv 146 145 4,o2 147 (.move (t' 19)) 24 146 true,o2 148 (.binOp .eql 24 (t' 147) (.const (.int .i64 (9))) 24) 4 146 true,o1 149 (.pick (t' 146) (t' 148) (.const (.bool false))) 4,mv 150 149 4,o2 151 (.move (t' 21)) 24 150 true,o2 152 (.binOp .eql 24 (t' 151) (.const (.int .i64 (6))) 24) 4 150 true,o1 153 (.pick (t' 150) (t' 152) (.const (.bool false))) 4,mv 154 153 4,o2 155 (.move (t' 22)) 3 154 true,o2 156 (.binOp .eql 3 (t' 155) (.const (.int .i64 (5))) 3) 4 154 true,o1 157 (.pick (t' 154) (t' 156) (.const (.bool false))) 4,mv 158 157 4,o2 159 (.move (t' 23)) 4 158 true,o1 160 (.pick (t' 158) (t' 159) (.const (.bool false))) 4,mv 161 160 4,o2 162 (.move (t' 25)) 24 161 true,o2 163 (.binOp .eql 24 (t' 162) (.const (.int .i64 (0))) 24) 4 161 true,o1 164 (.pick (t' 161) (t' 163) (.const (.bool false))) 4,mv 165 164 4,o2 166 (.move (t' 26)) 9 165 true,o2 167 (.move (t' 28)) 9 165 true,o2 168 (.binOp .eql 9 (t' 166) (t' 167) 9) 4 165 true,o1 169 (.pick (t' 165) (t' 168) (.const (.bool false))) 4,mv 170 169 4,o2 171 (.move (t' 27)) 24 170 true,o2 172 (.binOp .eql 24 (t' 171) (.const (.int .i64 (0))) 24) 4 170 true,o1 173 (.pick (t' 170) (t' 172) (.const (.bool false))) 4,mv 174 173 4,o2 175 (.move (t' 3)) 27 174 true,o2 176 (.call ⟨(.value (.func 19)),#[(t' 175)],#[27]⟩) 45 174 true,o2 177 (.buildSlice 45 1 #[(0,(.const (.int .i64 (1))))]) 45 174 true,o2 178 (.call ⟨(.value (.func 35)),#[(t' 176),(t' 177)],#[45,45]⟩) 4 174 true,o1 179 (.pick (t' 174) (t' 178) (.const (.bool false))) 4,mv 180 179 4,o2 181 (.move (t' 3)) 27 180 true,o2 182 (.call ⟨(.value (.func 21)),#[(t' 181)],#[27]⟩) 45 180 true,o2 183 (.call ⟨(.builtin .len),#[(t' 182)],#[45]⟩) 3 180 true,o2 184 (.binOp .eql 3 (t' 183) (.const (.int .i64 (0))) 3) 4 180 true,o1 185 (.pick (t' 180) (t' 184) (.const (.bool false))) 4,mv 186 185 4,o2 187 (.move (t' 3)) 27 186 true,o2 188 (.call ⟨(.value (.func 20)),#[(t' 187),(.const (.int .i64 (1)))],#[27,3]⟩) 3 186 true,o2 189 (.binOp .eql 3 (t' 188) (.const (.int .i64 (1))) 3) 4 186 true,o1 190 (.pick (t' 186) (t' 189) (.const (.bool false))) 4,mv 191 190 4,o2 192 (.move (t' 3)) 27 191 true,o2 193 (.call ⟨(.value (.func 20)),#[(t' 192),(.const (.int .i64 (0)))],#[27,3]⟩) 3 191 true,o2 194 (.binOp .eql 3 (t' 193) (.const (.int .i64 (0))) 3) 4 191 true,o1 195 (.pick (t' 191) (t' 194) (.const (.bool false))) 4,mv 196 195 4,o2 197 (.move (t' 3)) 27 196 true,o2 198 (.call ⟨(.value (.func 14)),#[(t' 197)],#[27]⟩) 3 196 true,o2 199 (.binOp .eql 3 (t' 198) (.const (.int .i64 (0))) 3) 4 196 true,o1 200 (.pick (t' 196) (t' 199) (.const (.bool false))) 4,asg 0 200 4])
 (.ret))))))))))))))))))))⟩
theorem fa17_eq:fnA qcfg.P (qcfg.rxf 17) 17=some fa17:=by kernel_rfl
noncomputable def e17 :R :=
 icM qcfg ⟨false,false⟩ mk9 9 [V.ptr 2 0 0,V.int .i64 4] [O.arena 63 [],O.arena 7 [],O.box 59 (V.agg [V.ptr 3 0 0,V.int .i64 1,V.mp 4,V.tail 5 0,V.int .i64 0]) false,O.box 56 (V.agg [V.int .i64 4,V.mp 6,V.tail 7 0]) false,O.map [],O.row 3 [] 0,O.map [],O.row 88 [] 0] fun L =>
 icM qcfg ⟨false,false⟩ mk9 9 [V.ptr 2 0 0,V.int .i64 0] [O.arena 63 L.2.2.1,O.arena 7 L.2.2.2.1,O.box 59 (V.agg [V.ptr 3 0 0,V.int .i64 L.2.2.2.2.1,V.mp 4,V.tail 5 0,V.int .i64 L.2.2.2.2.2.1]) false,O.box 56 (V.agg [V.int .i64 L.2.2.2.2.2.2.1,V.mp 6,V.tail 7 0]) false,O.map L.2.2.2.2.2.2.2.1,O.row 3 L.2.2.2.2.2.2.2.2.2.1 0,O.map L.2.2.2.2.2.2.2.2.1,O.row 88 L.2.2.2.2.2.2.2.2.2.2.1 L.2.2.2.2.2.2.2.2.2.2.2] fun L_1 =>
 icM qcfg ⟨true,false⟩ mk11 11 [V.ptr 2 0 0,V.int .i64 0,V.str [97],V.int .i64 5] [O.arena 63 L_1.2.2.1,O.arena 7 L_1.2.2.2.1,O.box 59 (V.agg [V.ptr 3 0 0,V.int .i64 L_1.2.2.2.2.1,V.mp 4,V.tail 5 0,V.int .i64 L_1.2.2.2.2.2.1]) false,O.box 56 (V.agg [V.int .i64 L_1.2.2.2.2.2.2.1,V.mp 6,V.tail 7 0]) false,O.map L_1.2.2.2.2.2.2.2.1,O.row 3 L_1.2.2.2.2.2.2.2.2.2.1 0,O.map L_1.2.2.2.2.2.2.2.2.1,O.row 88 L_1.2.2.2.2.2.2.2.2.2.2.1 L_1.2.2.2.2.2.2.2.2.2.2.2] fun L_2 =>
 icM qcfg ⟨true,false⟩ mk11 11 [V.ptr 2 0 0,V.int .i64 0,V.str [98],V.int .i64 4] [O.arena 63 L_2.2.1,O.arena 7 L_2.2.2.1,O.box 59 (V.agg [V.ptr 3 0 0,V.int .i64 L_2.2.2.2.1,V.mp 4,V.tail 5 0,V.int .i64 L_2.2.2.2.2.1]) false,O.box 56 (V.agg [V.int .i64 L_2.2.2.2.2.2.1,V.mp 6,V.tail 7 0]) false,O.map L_2.2.2.2.2.2.2.1,O.row 3 L_2.2.2.2.2.2.2.2.1 0,O.map L_2.2.2.2.2.2.2.2.2.1,O.row 88 L_2.2.2.2.2.2.2.2.2.2.1 L_2.2.2.2.2.2.2.2.2.2.2] fun L_3 =>
 icM qcfg ⟨true,false⟩ mk11 11 [V.ptr 2 0 0,V.int .i64 1,V.str [99],V.int .i64 5] [O.arena 63 L_3.2.1,O.arena 7 L_3.2.2.1,O.box 59 (V.agg [V.ptr 3 0 0,V.int .i64 L_3.2.2.2.1,V.mp 4,V.tail 5 0,V.int .i64 L_3.2.2.2.2.1]) false,O.box 56 (V.agg [V.int .i64 L_3.2.2.2.2.2.1,V.mp 6,V.tail 7 0]) false,O.map L_3.2.2.2.2.2.2.1,O.row 3 L_3.2.2.2.2.2.2.2.1 0,O.map L_3.2.2.2.2.2.2.2.2.1,O.row 88 L_3.2.2.2.2.2.2.2.2.2.1 L_3.2.2.2.2.2.2.2.2.2.2] fun L_4 =>
 icM qcfg ⟨false,false⟩ mk9 9 [V.ptr 2 0 0,V.int .i64 1] [O.arena 63 L_4.2.1,O.arena 7 L_4.2.2.1,O.box 59 (V.agg [V.ptr 3 0 0,V.int .i64 L_4.2.2.2.1,V.mp 4,V.tail 5 0,V.int .i64 L_4.2.2.2.2.1]) false,O.box 56 (V.agg [V.int .i64 L_4.2.2.2.2.2.1,V.mp 6,V.tail 7 0]) false,O.map L_4.2.2.2.2.2.2.1,O.row 3 L_4.2.2.2.2.2.2.2.1 0,O.map L_4.2.2.2.2.2.2.2.2.1,O.row 88 L_4.2.2.2.2.2.2.2.2.2.1 L_4.2.2.2.2.2.2.2.2.2.2] fun L_5 =>
 icM qcfg ⟨true,false⟩ mk10 10 [V.ptr 2 0 0,V.int .i64 0] [O.arena 63 L_5.2.2.1,O.arena 7 L_5.2.2.2.1,O.box 59 (V.agg [V.ptr 3 0 0,V.int .i64 L_5.2.2.2.2.1,V.mp 4,V.tail 5 0,V.int .i64 L_5.2.2.2.2.2.1]) false,O.box 56 (V.agg [V.int .i64 L_5.2.2.2.2.2.2.1,V.mp 6,V.tail 7 0]) false,O.map L_5.2.2.2.2.2.2.2.1,O.row 3 L_5.2.2.2.2.2.2.2.2.2.1 0,O.map L_5.2.2.2.2.2.2.2.2.1,O.row 88 L_5.2.2.2.2.2.2.2.2.2.2.1 L_5.2.2.2.2.2.2.2.2.2.2.2] fun L_6 =>
 icM qcfg ⟨true,false⟩ mk10 10 [V.ptr 2 0 0,V.int .i64 0] [O.arena 63 L_6.2.1,O.arena 7 L_6.2.2.1,O.box 59 (V.agg [V.ptr 3 0 0,V.int .i64 L_6.2.2.2.1,V.mp 4,V.tail 5 0,V.int .i64 L_6.2.2.2.2.1]) false,O.box 56 (V.agg [V.int .i64 L_6.2.2.2.2.2.1,V.mp 6,V.tail 7 0]) false,O.map L_6.2.2.2.2.2.2.1,O.row 3 L_6.2.2.2.2.2.2.2.1 0,O.map L_6.2.2.2.2.2.2.2.2.1,O.row 88 L_6.2.2.2.2.2.2.2.2.2.1 L_6.2.2.2.2.2.2.2.2.2.2] fun L_7 =>
 icM qcfg ⟨false,false⟩ mk9 9 [V.ptr 2 0 0,V.int .i64 1] [O.arena 63 L_7.2.1,O.arena 7 L_7.2.2.1,O.box 59 (V.agg [V.ptr 3 0 0,V.int .i64 L_7.2.2.2.1,V.mp 4,V.tail 5 0,V.int .i64 L_7.2.2.2.2.1]) false,O.box 56 (V.agg [V.int .i64 L_7.2.2.2.2.2.1,V.mp 6,V.tail 7 0]) false,O.map L_7.2.2.2.2.2.2.1,O.row 3 L_7.2.2.2.2.2.2.2.1 0,O.map L_7.2.2.2.2.2.2.2.2.1,O.row 88 L_7.2.2.2.2.2.2.2.2.2.1 L_7.2.2.2.2.2.2.2.2.2.2] fun L_8 =>
 icM qcfg ⟨true,false⟩ mk22 22 [V.ptr 2 0 0] [O.arena 63 L_8.2.2.1,O.arena 7 L_8.2.2.2.1,O.box 59 (V.agg [V.ptr 3 0 0,V.int .i64 L_8.2.2.2.2.1,V.mp 4,V.tail 5 0,V.int .i64 L_8.2.2.2.2.2.1]) false,O.box 56 (V.agg [V.int .i64 L_8.2.2.2.2.2.2.1,V.mp 6,V.tail 7 0]) false,O.map L_8.2.2.2.2.2.2.2.1,O.row 3 L_8.2.2.2.2.2.2.2.2.2.1 0,O.map L_8.2.2.2.2.2.2.2.2.1,O.row 88 L_8.2.2.2.2.2.2.2.2.2.2.1 L_8.2.2.2.2.2.2.2.2.2.2.2] fun L_9 =>
 icM qcfg ⟨false,false⟩ mk9 9 [V.ptr 2 0 0,V.int .i64 1] [O.arena 63 L_9.2.2.1,O.arena 7 L_9.2.2.2.1,O.box 59 (V.agg [V.ptr 3 0 0,V.int .i64 L_9.2.2.2.2.1,V.mp 4,V.tail 5 0,V.int .i64 (if L_9.2.2.2.2.2.1 < 5 then 5 else L_9.2.2.2.2.2.1)]) false,O.box 56 (V.agg [V.int .i64 L_9.2.2.2.2.2.2.1,V.mp 6,V.tail 7 0]) false,O.map L_9.2.2.2.2.2.2.2.1,O.row 3 L_9.2.2.2.2.2.2.2.2.1 0,O.map L_9.2.2.2.2.2.2.2.2.2.1,O.row 88 L_9.2.2.2.2.2.2.2.2.2.2.1 L_9.2.2.2.2.2.2.2.2.2.2.2] fun L_10 =>
 icM qcfg ⟨true,false⟩ mk15 15 [V.ptr 2 0 0,V.int .i64 0] [O.arena 63 L_10.2.2.1,O.arena 7 L_10.2.2.2.1,O.box 56 (V.agg [V.int .i64 L_10.2.2.2.2.2.2.1,V.mp 3,V.tail 4 0]) false,O.map L_10.2.2.2.2.2.2.2.2.1,O.row 88 L_10.2.2.2.2.2.2.2.2.2.2.1 L_10.2.2.2.2.2.2.2.2.2.2.2] fun L_11 =>
 pcK qcfg 18 [V.str [97],V.int .i64 252] fun r =>
 d32 r fun r18_0 r18_1 =>
 cond (L.2.1==(1:Int))
 (cond (L_1.2.1==(0:Int))
 (cond (L_2.1==(0:Int))
 (cond (L_3.1==(1:Int))
 (cond (L_4.1==(7:Int))
 (cond (L_5.2.1==(6:Int))
 (cond (L_6.1==(0:Int))
 (cond (L_7.1==(9:Int))
 (cond (L_8.2.1==(6:Int))
 (cond (L_9.1==(5:Int))
 (cond L_9.2.1
 (cond (L_10.2.1==(0:Int))
 (cond (L_11.1==r18_0)
 (cond (L_11.2.1==(0:Int))
 (icM qcfg ⟨true,false⟩ mk19 19 [V.ptr 2 0 0] [O.arena 63 L_11.2.2.1,O.arena 7 L_11.2.2.2.1,O.box 59 (V.agg [V.ptr 3 0 0,V.int .i64 L_10.2.2.2.2.1,V.mp 4,V.tail 5 0,V.int .i64 L_10.2.2.2.2.2.1]) false,O.box 56 (V.agg [V.int .i64 L_11.2.2.2.2.1,V.mp 6,V.tail 7 0]) false,O.map L_10.2.2.2.2.2.2.2.1,O.row 3 L_10.2.2.2.2.2.2.2.2.2.1 0,O.map L_11.2.2.2.2.2.1,O.row 88 L_11.2.2.2.2.2.2.1 L_11.2.2.2.2.2.2.2] fun L_12 =>
  pcK qcfg 35 [V.sl L_12.2.2.2.2.2.2.2.2.2.2,V.sl [V.int .i64 1]] fun r_1 =>
  kB r_1 fun r35 =>
  cond r35
 (icM qcfg ⟨true,true⟩ mk21 21 [V.ptr 2 0 0] [O.arena 63 L_12.1,O.arena 7 L_12.2.1,O.box 59 (V.agg [V.ptr 3 0 0,V.int .i64 L_12.2.2.1,V.mp 4,V.tail 5 0,V.int .i64 L_12.2.2.2.1]) false,O.box 56 (V.agg [V.int .i64 L_12.2.2.2.2.1,V.mp 6,V.tail 7 0]) false,O.map L_12.2.2.2.2.2.1,O.row 3 L_12.2.2.2.2.2.2.1 0,O.map L_12.2.2.2.2.2.2.2.1,O.row 88 L_12.2.2.2.2.2.2.2.2.1 L_12.2.2.2.2.2.2.2.2.2.1] fun L_13 =>
  gd (decide (0+L_13.1<=L_13.2.2.2.2.2.2.2.2.2.2.2.length)) <|
  cond (((((L_13.2.2.2.2.2.2.2.2.2.2.2).drop 0).take L_13.1).length:Int)==(0:Int))
 (icM qcfg ⟨true,false⟩ mk20 20 [V.ptr 2 0 0,V.int .i64 1] [O.arena 63 L_13.2.1,O.arena 7 L_13.2.2.1,O.box 59 (V.agg [V.ptr 3 0 0,V.int .i64 L_13.2.2.2.1,V.mp 4,V.tail 5 0,V.int .i64 L_13.2.2.2.2.1]) false,O.box 56 (V.agg [V.int .i64 L_13.2.2.2.2.2.1,V.mp 6,V.tail 7 0]) false,O.map L_13.2.2.2.2.2.2.1,O.row 3 L_13.2.2.2.2.2.2.2.1 0,O.map L_13.2.2.2.2.2.2.2.2.1,O.row 88 L_13.2.2.2.2.2.2.2.2.2.1 L_13.2.2.2.2.2.2.2.2.2.2.1] fun L_14 =>
  cond (L_14.1==(1:Int))
 (icM qcfg ⟨true,false⟩ mk20 20 [V.ptr 2 0 0,V.int .i64 0] [O.arena 63 L_14.2.1,O.arena 7 L_14.2.2.1,O.box 59 (V.agg [V.ptr 3 0 0,V.int .i64 L_14.2.2.2.1,V.mp 4,V.tail 5 0,V.int .i64 L_14.2.2.2.2.1]) false,O.box 56 (V.agg [V.int .i64 L_14.2.2.2.2.2.1,V.mp 6,V.tail 7 0]) false,O.map L_14.2.2.2.2.2.2.1,O.row 3 L_14.2.2.2.2.2.2.2.1 0,O.map L_14.2.2.2.2.2.2.2.2.1,O.row 88 L_14.2.2.2.2.2.2.2.2.2.1 L_14.2.2.2.2.2.2.2.2.2.2] fun L_15 =>
  cond (L_15.1==(0:Int))
 (icM qcfg ⟨false,false⟩ mk14 14 [V.ptr 2 0 0] [O.arena 63 L_15.2.1,O.arena 7 L_15.2.2.1,O.box 59 (V.agg [V.ptr 3 0 0,V.int .i64 L_15.2.2.2.1,V.mp 4,V.tail 5 0,V.int .i64 L_15.2.2.2.2.1]) false,O.box 56 (V.agg [V.int .i64 L_15.2.2.2.2.2.1,V.mp 6,V.tail 7 0]) false,O.map L_15.2.2.2.2.2.2.1,O.row 3 L_15.2.2.2.2.2.2.2.1 0,O.map L_15.2.2.2.2.2.2.2.2.1,O.row 88 L_15.2.2.2.2.2.2.2.2.2.1 L_15.2.2.2.2.2.2.2.2.2.2] fun L_16 =>
  some (.doneM (V.bool (L_16.1==(0:Int))) [O.arena 63 L_16.2.1,O.arena 7 L_16.2.2.1,O.map L_16.2.2.2.2.2.2.2.1,O.dead,O.box 56 (V.agg [V.int .i64 L_16.2.2.2.2.2.1,V.mp 2,V.tail 22 0]) false,O.map L_16.2.2.2.2.2.2.1,O.dead,O.box 59 (V.agg [V.ptr 4 0 0,V.int .i64 L_16.2.2.2.1,V.mp 5,V.tail 21 0,V.int .i64 L_16.2.2.2.2.1]) false,O.dead,O.dead,O.dead,O.dead,O.dead,O.dead,O.dead,O.dead,O.dead,O.dead,O.row 3 L_12.2.2.2.2.2.2.2.2.2.2 0,O.row 3 [V.int .i64 1] 0,O.row 3 L_13.2.2.2.2.2.2.2.2.2.2.2 0,O.row 3 L_16.2.2.2.2.2.2.2.2.1 0,O.row 88 L_16.2.2.2.2.2.2.2.2.2.1 L_16.2.2.2.2.2.2.2.2.2.2]))
 (some (.doneM (V.bool false) [O.arena 63 L_15.2.1,O.arena 7 L_15.2.2.1,O.map L_15.2.2.2.2.2.2.2.2.1,O.dead,O.box 56 (V.agg [V.int .i64 L_15.2.2.2.2.2.1,V.mp 2,V.tail 17 0]) false,O.map L_15.2.2.2.2.2.2.1,O.dead,O.box 59 (V.agg [V.ptr 4 0 0,V.int .i64 L_15.2.2.2.1,V.mp 5,V.tail 16 0,V.int .i64 L_15.2.2.2.2.1]) false,O.dead,O.dead,O.dead,O.dead,O.dead,O.dead,O.dead,O.dead,O.row 3 L_15.2.2.2.2.2.2.2.1 0,O.row 88 L_15.2.2.2.2.2.2.2.2.2.1 L_15.2.2.2.2.2.2.2.2.2.2,O.row 3 L_12.2.2.2.2.2.2.2.2.2.2 0,O.row 3 [V.int .i64 1] 0,O.row 3 L_13.2.2.2.2.2.2.2.2.2.2.2 0])))
 (some (.doneM (V.bool false) [O.arena 63 L_14.2.1,O.arena 7 L_14.2.2.1,O.map L_14.2.2.2.2.2.2.2.2.1,O.dead,O.box 56 (V.agg [V.int .i64 L_14.2.2.2.2.2.1,V.mp 2,V.tail 17 0]) false,O.map L_14.2.2.2.2.2.2.1,O.dead,O.box 59 (V.agg [V.ptr 4 0 0,V.int .i64 L_14.2.2.2.1,V.mp 5,V.tail 16 0,V.int .i64 L_14.2.2.2.2.1]) false,O.dead,O.dead,O.dead,O.dead,O.dead,O.dead,O.dead,O.dead,O.row 3 L_14.2.2.2.2.2.2.2.1 0,O.row 88 L_14.2.2.2.2.2.2.2.2.2.1 L_14.2.2.2.2.2.2.2.2.2.2,O.row 3 L_12.2.2.2.2.2.2.2.2.2.2 0,O.row 3 [V.int .i64 1] 0,O.row 3 L_13.2.2.2.2.2.2.2.2.2.2.2 0])))
 (some (.doneM (V.bool false) [O.arena 63 L_13.2.1,O.arena 7 L_13.2.2.1,O.map L_13.2.2.2.2.2.2.2.2.1,O.dead,O.box 56 (V.agg [V.int .i64 L_13.2.2.2.2.2.1,V.mp 2,V.tail 17 0]) false,O.map L_13.2.2.2.2.2.2.1,O.dead,O.box 59 (V.agg [V.ptr 4 0 0,V.int .i64 L_13.2.2.2.1,V.mp 5,V.tail 16 0,V.int .i64 L_13.2.2.2.2.1]) false,O.dead,O.dead,O.dead,O.dead,O.dead,O.dead,O.dead,O.dead,O.row 3 L_13.2.2.2.2.2.2.2.1 0,O.row 88 L_13.2.2.2.2.2.2.2.2.2.1 L_13.2.2.2.2.2.2.2.2.2.2.1,O.row 3 L_12.2.2.2.2.2.2.2.2.2.2 0,O.row 3 [V.int .i64 1] 0,O.row 3 L_13.2.2.2.2.2.2.2.2.2.2.2 0])))
 (some (.doneM (V.bool false) [O.arena 63 L_12.1,O.arena 7 L_12.2.1,O.map L_12.2.2.2.2.2.2.2.1,O.dead,O.box 56 (V.agg [V.int .i64 L_12.2.2.2.2.1,V.mp 2,V.tail 17 0]) false,O.map L_12.2.2.2.2.2.1,O.dead,O.box 59 (V.agg [V.ptr 4 0 0,V.int .i64 L_12.2.2.1,V.mp 5,V.tail 16 0,V.int .i64 L_12.2.2.2.1]) false,O.dead,O.dead,O.dead,O.dead,O.dead,O.dead,O.dead,O.dead,O.row 3 L_12.2.2.2.2.2.2.1 0,O.row 88 L_12.2.2.2.2.2.2.2.2.1 L_12.2.2.2.2.2.2.2.2.2.1,O.row 3 L_12.2.2.2.2.2.2.2.2.2.2 0,O.row 3 [V.int .i64 1] 0])))
 (some (.doneM (V.bool false) [O.arena 63 L_11.2.2.1,O.arena 7 L_11.2.2.2.1,O.map L_11.2.2.2.2.2.1,O.dead,O.box 56 (V.agg [V.int .i64 L_11.2.2.2.2.1,V.mp 2,V.tail 17 0]) false,O.map L_10.2.2.2.2.2.2.2.1,O.dead,O.box 59 (V.agg [V.ptr 4 0 0,V.int .i64 L_10.2.2.2.2.1,V.mp 5,V.tail 16 0,V.int .i64 L_10.2.2.2.2.2.1]) false,O.dead,O.dead,O.dead,O.dead,O.dead,O.dead,O.dead,O.dead,O.row 3 L_10.2.2.2.2.2.2.2.2.2.1 0,O.row 88 L_11.2.2.2.2.2.2.1 L_11.2.2.2.2.2.2.2])))
 (some (.doneM (V.bool false) [O.arena 63 L_11.2.2.1,O.arena 7 L_11.2.2.2.1,O.map L_11.2.2.2.2.2.1,O.dead,O.box 56 (V.agg [V.int .i64 L_11.2.2.2.2.1,V.mp 2,V.tail 17 0]) false,O.map L_10.2.2.2.2.2.2.2.1,O.dead,O.box 59 (V.agg [V.ptr 4 0 0,V.int .i64 L_10.2.2.2.2.1,V.mp 5,V.tail 16 0,V.int .i64 L_10.2.2.2.2.2.1]) false,O.dead,O.dead,O.dead,O.dead,O.dead,O.dead,O.dead,O.dead,O.row 3 L_10.2.2.2.2.2.2.2.2.2.1 0,O.row 88 L_11.2.2.2.2.2.2.1 L_11.2.2.2.2.2.2.2])))
 (some (.doneM (V.bool false) [O.arena 63 L_11.2.2.1,O.arena 7 L_11.2.2.2.1,O.map L_11.2.2.2.2.2.1,O.dead,O.box 56 (V.agg [V.int .i64 L_11.2.2.2.2.1,V.mp 2,V.tail 17 0]) false,O.map L_10.2.2.2.2.2.2.2.1,O.dead,O.box 59 (V.agg [V.ptr 4 0 0,V.int .i64 L_10.2.2.2.2.1,V.mp 5,V.tail 16 0,V.int .i64 L_10.2.2.2.2.2.1]) false,O.dead,O.dead,O.dead,O.dead,O.dead,O.dead,O.dead,O.dead,O.row 3 L_10.2.2.2.2.2.2.2.2.2.1 0,O.row 88 L_11.2.2.2.2.2.2.1 L_11.2.2.2.2.2.2.2])))
 (some (.doneM (V.bool false) [O.arena 63 L_11.2.2.1,O.arena 7 L_11.2.2.2.1,O.map L_11.2.2.2.2.2.1,O.dead,O.box 56 (V.agg [V.int .i64 L_11.2.2.2.2.1,V.mp 2,V.tail 17 0]) false,O.map L_10.2.2.2.2.2.2.2.1,O.dead,O.box 59 (V.agg [V.ptr 4 0 0,V.int .i64 L_10.2.2.2.2.1,V.mp 5,V.tail 16 0,V.int .i64 L_10.2.2.2.2.2.1]) false,O.dead,O.dead,O.dead,O.dead,O.dead,O.dead,O.dead,O.dead,O.row 3 L_10.2.2.2.2.2.2.2.2.2.1 0,O.row 88 L_11.2.2.2.2.2.2.1 L_11.2.2.2.2.2.2.2])))
 (some (.doneM (V.bool false) [O.arena 63 L_11.2.2.1,O.arena 7 L_11.2.2.2.1,O.map L_11.2.2.2.2.2.1,O.dead,O.box 56 (V.agg [V.int .i64 L_11.2.2.2.2.1,V.mp 2,V.tail 17 0]) false,O.map L_10.2.2.2.2.2.2.2.1,O.dead,O.box 59 (V.agg [V.ptr 4 0 0,V.int .i64 L_10.2.2.2.2.1,V.mp 5,V.tail 16 0,V.int .i64 L_10.2.2.2.2.2.1]) false,O.dead,O.dead,O.dead,O.dead,O.dead,O.dead,O.dead,O.dead,O.row 3 L_10.2.2.2.2.2.2.2.2.2.1 0,O.row 88 L_11.2.2.2.2.2.2.1 L_11.2.2.2.2.2.2.2])))
 (some (.doneM (V.bool false) [O.arena 63 L_11.2.2.1,O.arena 7 L_11.2.2.2.1,O.map L_11.2.2.2.2.2.1,O.dead,O.box 56 (V.agg [V.int .i64 L_11.2.2.2.2.1,V.mp 2,V.tail 17 0]) false,O.map L_10.2.2.2.2.2.2.2.1,O.dead,O.box 59 (V.agg [V.ptr 4 0 0,V.int .i64 L_10.2.2.2.2.1,V.mp 5,V.tail 16 0,V.int .i64 L_10.2.2.2.2.2.1]) false,O.dead,O.dead,O.dead,O.dead,O.dead,O.dead,O.dead,O.dead,O.row 3 L_10.2.2.2.2.2.2.2.2.2.1 0,O.row 88 L_11.2.2.2.2.2.2.1 L_11.2.2.2.2.2.2.2])))
 (some (.doneM (V.bool false) [O.arena 63 L_11.2.2.1,O.arena 7 L_11.2.2.2.1,O.map L_11.2.2.2.2.2.1,O.dead,O.box 56 (V.agg [V.int .i64 L_11.2.2.2.2.1,V.mp 2,V.tail 17 0]) false,O.map L_10.2.2.2.2.2.2.2.1,O.dead,O.box 59 (V.agg [V.ptr 4 0 0,V.int .i64 L_10.2.2.2.2.1,V.mp 5,V.tail 16 0,V.int .i64 L_10.2.2.2.2.2.1]) false,O.dead,O.dead,O.dead,O.dead,O.dead,O.dead,O.dead,O.dead,O.row 3 L_10.2.2.2.2.2.2.2.2.2.1 0,O.row 88 L_11.2.2.2.2.2.2.1 L_11.2.2.2.2.2.2.2])))
 (some (.doneM (V.bool false) [O.arena 63 L_11.2.2.1,O.arena 7 L_11.2.2.2.1,O.map L_11.2.2.2.2.2.1,O.dead,O.box 56 (V.agg [V.int .i64 L_11.2.2.2.2.1,V.mp 2,V.tail 17 0]) false,O.map L_10.2.2.2.2.2.2.2.1,O.dead,O.box 59 (V.agg [V.ptr 4 0 0,V.int .i64 L_10.2.2.2.2.1,V.mp 5,V.tail 16 0,V.int .i64 L_10.2.2.2.2.2.1]) false,O.dead,O.dead,O.dead,O.dead,O.dead,O.dead,O.dead,O.dead,O.row 3 L_10.2.2.2.2.2.2.2.2.2.1 0,O.row 88 L_11.2.2.2.2.2.2.1 L_11.2.2.2.2.2.2.2])))
 (some (.doneM (V.bool false) [O.arena 63 L_11.2.2.1,O.arena 7 L_11.2.2.2.1,O.map L_11.2.2.2.2.2.1,O.dead,O.box 56 (V.agg [V.int .i64 L_11.2.2.2.2.1,V.mp 2,V.tail 17 0]) false,O.map L_10.2.2.2.2.2.2.2.1,O.dead,O.box 59 (V.agg [V.ptr 4 0 0,V.int .i64 L_10.2.2.2.2.1,V.mp 5,V.tail 16 0,V.int .i64 L_10.2.2.2.2.2.1]) false,O.dead,O.dead,O.dead,O.dead,O.dead,O.dead,O.dead,O.dead,O.row 3 L_10.2.2.2.2.2.2.2.2.2.1 0,O.row 88 L_11.2.2.2.2.2.2.1 L_11.2.2.2.2.2.2.2])))
 (some (.doneM (V.bool false) [O.arena 63 L_11.2.2.1,O.arena 7 L_11.2.2.2.1,O.map L_11.2.2.2.2.2.1,O.dead,O.box 56 (V.agg [V.int .i64 L_11.2.2.2.2.1,V.mp 2,V.tail 17 0]) false,O.map L_10.2.2.2.2.2.2.2.1,O.dead,O.box 59 (V.agg [V.ptr 4 0 0,V.int .i64 L_10.2.2.2.2.1,V.mp 5,V.tail 16 0,V.int .i64 L_10.2.2.2.2.2.1]) false,O.dead,O.dead,O.dead,O.dead,O.dead,O.dead,O.dead,O.dead,O.row 3 L_10.2.2.2.2.2.2.2.2.2.1 0,O.row 88 L_11.2.2.2.2.2.2.1 L_11.2.2.2.2.2.2.2])))
 (some (.doneM (V.bool false) [O.arena 63 L_11.2.2.1,O.arena 7 L_11.2.2.2.1,O.map L_11.2.2.2.2.2.1,O.dead,O.box 56 (V.agg [V.int .i64 L_11.2.2.2.2.1,V.mp 2,V.tail 17 0]) false,O.map L_10.2.2.2.2.2.2.2.1,O.dead,O.box 59 (V.agg [V.ptr 4 0 0,V.int .i64 L_10.2.2.2.2.1,V.mp 5,V.tail 16 0,V.int .i64 L_10.2.2.2.2.2.1]) false,O.dead,O.dead,O.dead,O.dead,O.dead,O.dead,O.dead,O.dead,O.row 3 L_10.2.2.2.2.2.2.2.2.2.1 0,O.row 88 L_11.2.2.2.2.2.2.1 L_11.2.2.2.2.2.2.2])))
 (some (.doneM (V.bool false) [O.arena 63 L_11.2.2.1,O.arena 7 L_11.2.2.2.1,O.map L_11.2.2.2.2.2.1,O.dead,O.box 56 (V.agg [V.int .i64 L_11.2.2.2.2.1,V.mp 2,V.tail 17 0]) false,O.map L_10.2.2.2.2.2.2.2.1,O.dead,O.box 59 (V.agg [V.ptr 4 0 0,V.int .i64 L_10.2.2.2.2.1,V.mp 5,V.tail 16 0,V.int .i64 L_10.2.2.2.2.2.1]) false,O.dead,O.dead,O.dead,O.dead,O.dead,O.dead,O.dead,O.dead,O.row 3 L_10.2.2.2.2.2.2.2.2.2.1 0,O.row 88 L_11.2.2.2.2.2.2.1 L_11.2.2.2.2.2.2.2])))
 (some (.doneM (V.bool false) [O.arena 63 L_11.2.2.1,O.arena 7 L_11.2.2.2.1,O.map L_11.2.2.2.2.2.1,O.dead,O.box 56 (V.agg [V.int .i64 L_11.2.2.2.2.1,V.mp 2,V.tail 17 0]) false,O.map L_10.2.2.2.2.2.2.2.1,O.dead,O.box 59 (V.agg [V.ptr 4 0 0,V.int .i64 L_10.2.2.2.2.1,V.mp 5,V.tail 16 0,V.int .i64 L_10.2.2.2.2.2.1]) false,O.dead,O.dead,O.dead,O.dead,O.dead,O.dead,O.dead,O.dead,O.row 3 L_10.2.2.2.2.2.2.2.2.2.1 0,O.row 88 L_11.2.2.2.2.2.2.1 L_11.2.2.2.2.2.2.2])))
 (some (.doneM (V.bool false) [O.arena 63 L_11.2.2.1,O.arena 7 L_11.2.2.2.1,O.map L_11.2.2.2.2.2.1,O.dead,O.box 56 (V.agg [V.int .i64 L_11.2.2.2.2.1,V.mp 2,V.tail 17 0]) false,O.map L_10.2.2.2.2.2.2.2.1,O.dead,O.box 59 (V.agg [V.ptr 4 0 0,V.int .i64 L_10.2.2.2.2.1,V.mp 5,V.tail 16 0,V.int .i64 L_10.2.2.2.2.2.1]) false,O.dead,O.dead,O.dead,O.dead,O.dead,O.dead,O.dead,O.dead,O.row 3 L_10.2.2.2.2.2.2.2.2.2.1 0,O.row 88 L_11.2.2.2.2.2.2.1 L_11.2.2.2.2.2.2.2]))
theorem e17_eq :enterK qk true fa17 [] [O.arena 63 [],O.arena 7 []]=e17 :=by kernel_rfl
noncomputable def fa9:FA:=⟨2,76,[.tmp 4,.tmp 5],[9,24],
 (.seq
 (.ops false [o1 4 (.assign (.const (.string ⟨⟨[]⟩⟩))) 9,o1 5 (.assign (.const (.int .i64 (0)))) 24])
 (.seq
 (.seq
 (.ops false [mv 9 1 3,o1 10 (.binOp .lss 3 (t' 9) (.const (.int .i64 (0))) 3) 4,mv 11 10 4,o2 12 (.move (t' 1)) 3 11 false,o2 13 (.move (t' 0)) 27 11 false,o2 14 (.nilCheck (t' 13)) 0 11 false,o2 15 (.fieldAddr 59 (t' 14) 0) 0 11 false,o2 16 (.load 23 (t' 15)) 23 11 false,o2 17 (.call ⟨(.value (.func 24)),#[(t' 16)],#[23]⟩) 3 11 false,o2 18 (.binOp .geq 3 (t' 12) (t' 17) 3) 4 11 false,o1 19 (.pick (t' 11) (.const (.bool true)) (t' 18)) 4])
 (.cond (t' 19)
 (.seq
 (.ops false [o1 4 (.assign (.const (.string ⟨⟨[]⟩⟩))) 9,o1 5 (.assign (.const (.int .i64 (1)))) 24])
 (.ret))
 (.skip)))
 (.seq
 (.seq
 (.ops false [mv 20 0 27,o1 21 (.nilCheck (t' 20)) 0,o1 22 (.fieldAddr 59 (t' 21) 2) 0,o1 23 (.load 57 (t' 22)) 57,mv 24 1 3,o1 25 (.lookup 57 (t' 23) (t' 24) false) 60,o1 26 (.binOp .eql 60 (t' 25) (.const (.pointer none)) 60) 4])
 (.cond (t' 26)
 (.seq
 (.ops false [mv 28 0 27,o1 29 (.nilCheck (t' 28)) 0,o1 30 (.fieldAddr 59 (t' 29) 0) 0,o1 31 (.load 23 (t' 30)) 23,mv 32 1 3,o1 33 (.call ⟨(.value (.func 15)),#[(t' 31),(t' 32)],#[23,3]⟩) 32,mv 27 33 32,o1 34 (.extract (t' 27) 0) 9,o1 35 (.extract (t' 27) 1) 24,asg 6 34 9,asg 7 35 24])
 (.seq
 (.seq
 (.ops false [mv 36 7 24,o1 37 (.binOp .neq 24 (t' 36) (.const (.int .i64 (0))) 24) 4])
 (.cond (t' 37)
 (.seq
 (.ops false [mv 38 7 24,o1 4 (.assign (.const (.string ⟨⟨[]⟩⟩))) 9,asg 5 38 24])
 (.ret))
 (.skip)))
 (.seq
 (.seq
 (.ops false [mv 39 0 27,o1 40 (.call ⟨(.value (.func 25)),#[(t' 39)],#[27]⟩) 24,asg 8 40 24])
 (.seq
 (.ops false [mv 41 8 24,o1 42 (.binOp .neq 24 (t' 41) (.const (.int .i64 (0))) 24) 4])
 (.cond (t' 42)
 (.seq
 (.ops false [mv 43 8 24,o1 4 (.assign (.const (.string ⟨⟨[]⟩⟩))) 9,asg 5 43 24])
 (.ret))
 (.skip))))
 (.ops false [mv 44 0 27,o1 45 (.nilCheck (t' 44)) 0,o1 46 (.fieldAddr 59 (t' 45) 2) 0,o1 47 (.load 57 (t' 46)) 57,mv 48 1 3,mv 49 6 9,o1 50 (.build 63 #[(0,(t' 49))]) 63,o1 51 (.box 63 (t' 50)) 60,o0 (.mapUpdate 57 (t' 47) (t' 48) (t' 51)) 0]))))
 (.skip)))
 (.seq
 (.ops false [mv 52 0 27,mv 53 1 3,o1 54 (.call ⟨(.value (.func 26)),#[(t' 52),(t' 53)],#[27,3]⟩) 0])
 (.seq
 (.ops false [mv 55 0 27,o1 56 (.nilCheck (t' 55)) 0,o1 57 (.fieldAddr 59 (t' 56) 2) 0,o1 58 (.load 57 (t' 57)) 57,mv 59 1 3,o1 60 (.lookup 57 (t' 58) (t' 59) false) 60,o1 61 (.nilCheck (t' 60)) 0,o1 62 (.fieldAddr 63 (t' 61) 1) 0,o1 63 (.load 3 (t' 62)) 3,o1 64 (.binOp .add 3 (t' 63) (.const (.int .i64 (1))) 3) 3,o1 65 (.nilCheck (t' 60)) 0,o1 66 (.fieldAddr 63 (t' 65) 1) 0,o0 (.store 3 (t' 66) (t' 64)) 0])
 (.seq
 (.ops false [mv 67 0 27,o1 68 (.nilCheck (t' 67)) 0,o1 69 (.fieldAddr 59 (t' 68) 2) 0,o1 70 (.load 57 (t' 69)) 57,mv 71 1 3,o1 72 (.lookup 57 (t' 70) (t' 71) false) 60,o1 73 (.nilCheck (t' 72)) 0,o1 74 (.fieldAddr 63 (t' 73) 0) 0,o1 75 (.load 9 (t' 74)) 9,asg 4 75 9,o1 5 (.assign (.const (.int .i64 (0)))) 24])
 (.ret)))))))⟩
theorem fa9_eq:fnA qcfg.P (qcfg.rxf 9) 9=some fa9:=by kernel_rfl
noncomputable def e9 (x1:Int) (m0 m1:List V) (m2_1 m2_4 m3_0:Int) (m4:List (V × V)) (m5:List V) (m6:List (V × V)) (m7:List V) (z7:Nat):R :=
 cond (decide (x1 < 0))
 (some (.doneM (V.tup [V.str [],V.int .i64 1]) [O.arena 63 m0,O.arena 7 m1,O.box 59 (V.agg [V.ptr 3 0 0,V.int .i64 m2_1,V.mp 4,V.tail 5 0,V.int .i64 m2_4]) false,O.box 56 (V.agg [V.int .i64 m3_0,V.mp 6,V.tail 7 0]) false,O.map m4,O.row 3 m5 0,O.map m6,O.row 88 m7 z7]))
 (cond (decide (x1 ≥ m3_0))
 (some (.doneM (V.tup [V.str [],V.int .i64 1]) [O.arena 63 m0,O.arena 7 m1,O.box 59 (V.agg [V.ptr 3 0 0,V.int .i64 m2_1,V.mp 4,V.tail 5 0,V.int .i64 m2_4]) false,O.box 56 (V.agg [V.int .i64 m3_0,V.mp 6,V.tail 7 0]) false,O.map m4,O.row 3 m5 0,O.map m6,O.row 88 m7 z7]))
 (mfK m4 (V.int .i64 x1)
 (icM qcfg ⟨true,false⟩ mk15 15 [V.ptr 2 0 0,V.int .i64 x1] [O.arena 63 m0,O.arena 7 m1,O.box 56 (V.agg [V.int .i64 m3_0,V.mp 3,V.tail 4 0]) false,O.map m6,O.row 88 m7 z7] fun L =>
  cond (L.2.1 != (0:Int))
 (some (.doneM (V.tup [V.str [],V.int .i64 L.2.1]) [O.arena 63 L.2.2.1,O.arena 7 L.2.2.2.1,O.box 59 (V.agg [V.ptr 3 0 0,V.int .i64 m2_1,V.mp 4,V.tail 5 0,V.int .i64 m2_4]) false,O.box 56 (V.agg [V.int .i64 L.2.2.2.2.1,V.mp 6,V.tail 7 0]) false,O.map m4,O.row 3 m5 0,O.map L.2.2.2.2.2.1,O.row 88 L.2.2.2.2.2.2.1 L.2.2.2.2.2.2.2]))
 (icM qcfg ⟨false,false⟩ mk25 25 [V.ptr 2 0 0] [O.arena 63 L.2.2.1,O.arena 7 L.2.2.2.1,O.box 59 (V.agg [V.ptr 3 0 0,V.int .i64 m2_1,V.mp 4,V.tail 5 0,V.int .i64 m2_4]) false,O.box 56 (V.agg [V.int .i64 L.2.2.2.2.1,V.mp 6,V.tail 7 0]) false,O.map m4,O.row 3 m5 0,O.map L.2.2.2.2.2.1,O.row 88 L.2.2.2.2.2.2.1 L.2.2.2.2.2.2.2] fun L_1 =>
  cond (L_1.1 != (0:Int))
 (some (.doneM (V.tup [V.str [],V.int .i64 L_1.1]) [O.arena 63 L_1.2.1,O.arena 7 L_1.2.2.1,O.box 59 (V.agg [V.ptr 3 0 0,V.int .i64 L_1.2.2.2.1,V.mp 4,V.tail 8 0,V.int .i64 L_1.2.2.2.2.1]) false,O.box 56 (V.agg [V.int .i64 L_1.2.2.2.2.2.1,V.mp 6,V.tail 9 0]) false,O.map L_1.2.2.2.2.2.2.1,O.dead,O.map L_1.2.2.2.2.2.2.2.1,O.dead,O.row 3 L_1.2.2.2.2.2.2.2.2.1 0,O.row 88 L_1.2.2.2.2.2.2.2.2.2.1 L_1.2.2.2.2.2.2.2.2.2.2]))
 (opt (mapPut L_1.2.2.2.2.2.2.1 (V.int .i64 x1) (V.hp 63 L_1.2.1.length 0)) fun es =>
  icM qcfg ⟨false,false⟩ mk26 26 [V.ptr 2 0 0,V.int .i64 x1] [O.arena 63 (L_1.2.1++[V.agg [V.str L.1,V.int .i64 0,V.bool false,V.int .i64 0,V.int .i64 0]]),O.arena 7 L_1.2.2.1,O.box 59 (V.agg [V.ptr 3 0 0,V.int .i64 L_1.2.2.2.1,V.mp 4,V.tail 5 0,V.int .i64 L_1.2.2.2.2.1]) false,O.box 56 (V.agg [V.int .i64 L_1.2.2.2.2.2.1,V.mp 6,V.tail 7 0]) false,O.map es,O.row 3 L_1.2.2.2.2.2.2.2.2.1 0,O.map L_1.2.2.2.2.2.2.2.1,O.row 88 L_1.2.2.2.2.2.2.2.2.2.1 L_1.2.2.2.2.2.2.2.2.2.2] fun L_2 =>
  mfK L_2.2.2.2.2.2.1 (V.int .i64 x1)
 (none) fun r_1 =>
  kP 63 r_1 fun p =>
  idxK L_2.1 p fun v =>
  d63 v fun s pins dirty first last =>
  idxK L_2.1 p fun v_1 =>
  d63 v_1 fun s_1 pins_1 dirty_1 first_1 last_1 =>
  mfK L_2.2.2.2.2.2.1 (V.int .i64 x1)
 (none) fun r_2 =>
  kP 63 r_2 fun p_1 =>
  idxK ((L_2.1).set p (V.agg [V.str s_1,V.int .i64 (W .i64 (pins+1)),V.bool dirty_1,V.int .i64 first_1,V.int .i64 last_1])) p_1 fun v_2 =>
  d63 v_2 fun s_2 pins_2 dirty_2 first_2 last_2 =>
  some (.doneM (V.tup [V.str s_2,V.int .i64 0]) [O.arena 63 ((L_2.1).set p (V.agg [V.str s_1,V.int .i64 (W .i64 (pins+1)),V.bool dirty_1,V.int .i64 first_1,V.int .i64 last_1])),O.arena 7 L_2.2.1,O.box 59 (V.agg [V.ptr 3 0 0,V.int .i64 L_2.2.2.1,V.mp 4,V.tail 10 0,V.int .i64 L_2.2.2.2.1]) false,O.box 56 (V.agg [V.int .i64 L_2.2.2.2.2.1,V.mp 6,V.tail 11 0]) false,O.map L_2.2.2.2.2.2.1,O.dead,O.map L_2.2.2.2.2.2.2.1,O.dead,O.dead,O.dead,O.row 3 L_2.2.2.2.2.2.2.2.1 0,O.row 88 L_2.2.2.2.2.2.2.2.2.1 L_2.2.2.2.2.2.2.2.2.2])))) fun r =>
  kP 63 r fun p_2 =>
  icM qcfg ⟨false,false⟩ mk26 26 [V.ptr 2 0 0,V.int .i64 x1] [O.arena 63 m0,O.arena 7 m1,O.box 59 (V.agg [V.ptr 3 0 0,V.int .i64 m2_1,V.mp 4,V.tail 5 0,V.int .i64 m2_4]) false,O.box 56 (V.agg [V.int .i64 m3_0,V.mp 6,V.tail 7 0]) false,O.map m4,O.row 3 m5 0,O.map m6,O.row 88 m7 z7] fun L_3 =>
  mfK L_3.2.2.2.2.2.1 (V.int .i64 x1)
 (none) fun r_3 =>
  kP 63 r_3 fun p_3 =>
  idxK L_3.1 p_3 fun v_3 =>
  d63 v_3 fun s_3 pins_3 dirty_3 first_3 last_3 =>
  idxK L_3.1 p_3 fun v_4 =>
  d63 v_4 fun s_4 pins_4 dirty_4 first_4 last_4 =>
  mfK L_3.2.2.2.2.2.1 (V.int .i64 x1)
 (none) fun r_4 =>
  kP 63 r_4 fun p_4 =>
  idxK ((L_3.1).set p_3 (V.agg [V.str s_4,V.int .i64 (W .i64 (pins_3+1)),V.bool dirty_4,V.int .i64 first_4,V.int .i64 last_4])) p_4 fun v_5 =>
  d63 v_5 fun s_5 pins_5 dirty_5 first_5 last_5 =>
  some (.doneM (V.tup [V.str s_5,V.int .i64 0]) [O.arena 63 ((L_3.1).set p_3 (V.agg [V.str s_4,V.int .i64 (W .i64 (pins_3+1)),V.bool dirty_4,V.int .i64 first_4,V.int .i64 last_4])),O.arena 7 L_3.2.1,O.box 59 (V.agg [V.ptr 3 0 0,V.int .i64 L_3.2.2.1,V.mp 4,V.tail 8 0,V.int .i64 L_3.2.2.2.1]) false,O.box 56 (V.agg [V.int .i64 L_3.2.2.2.2.1,V.mp 6,V.tail 9 0]) false,O.map L_3.2.2.2.2.2.1,O.dead,O.map L_3.2.2.2.2.2.2.1,O.dead,O.row 3 L_3.2.2.2.2.2.2.2.1 0,O.row 88 L_3.2.2.2.2.2.2.2.2.1 L_3.2.2.2.2.2.2.2.2.2])))
theorem e9_eq (x1:Int) (m0 m1:List V) (m2_1 m2_4 m3_0:Int) (m4:List (V × V)) (m5:List V) (m6:List (V × V)) (m7:List V) (z7:Nat):enterK qk true fa9 [V.ptr 2 0 0,V.int .i64 x1] [O.arena 63 m0,O.arena 7 m1,O.box 59 (V.agg [V.ptr 3 0 0,V.int .i64 m2_1,V.mp 4,V.tail 5 0,V.int .i64 m2_4]) false,O.box 56 (V.agg [V.int .i64 m3_0,V.mp 6,V.tail 7 0]) false,O.map m4,O.row 3 m5 0,O.map m6,O.row 88 m7 z7]=e9 x1 m0 m1 m2_1 m2_4 m3_0 m4 m5 m6 m7 z7:=by kernel_rfl
theorem e9_run (x1:Int) (m0 m1:List V) (m2_1 m2_4 m3_0:Int) (m4:List (V × V)) (m5:List V) (m6:List (V × V)) (m7:List V) (z7:Nat) {o:Out} {r:V × List O} (h:e9 x1 m0 m1 m2_1 m2_4 m3_0 m4 m5 m6 m7 z7=some o) (hg:GoN qk 8 fa9 ⟨false,false⟩ [O.arena 63 m0,O.arena 7 m1,O.box 59 (V.agg [V.ptr 3 0 0,V.int .i64 m2_1,V.mp 4,V.tail 5 0,V.int .i64 m2_4]) false,O.box 56 (V.agg [V.int .i64 m3_0,V.mp 6,V.tail 7 0]) false,O.map m4,O.row 3 m5 0,O.map m6,O.row 88 m7 z7] o r):icC qcfg ⟨false,false⟩ 9 [V.ptr 2 0 0,V.int .i64 x1] [O.arena 63 m0,O.arena 7 m1,O.box 59 (V.agg [V.ptr 3 0 0,V.int .i64 m2_1,V.mp 4,V.tail 5 0,V.int .i64 m2_4]) false,O.box 56 (V.agg [V.int .i64 m3_0,V.mp 6,V.tail 7 0]) false,O.map m4,O.row 3 m5 0,O.map m6,O.row 88 m7 z7]=some r:=icC_go qik rfl fa9_eq ((e9_eq ..).trans h) hg
noncomputable def fa11:FA:=⟨4,62,[.tmp 8],[24],
 (.seq
 (.ops false [o1 8 (.assign (.const (.int .i64 (0)))) 24])
 (.seq
 (.ops false [mv 12 0 27,mv 13 1 3,o1 14 (.call ⟨(.value (.func 27)),#[(t' 12),(t' 13)],#[27,3]⟩) 64,mv 11 14 64,o1 15 (.extract (t' 11) 0) 60,o1 16 (.extract (t' 11) 1) 24,asg 9 15 60,asg 10 16 24])
 (.seq
 (.block 0
 (.seq
 (.ops false [mv 18 10 24,o1 19 (.binOp .neq 24 (t' 18) (.const (.int .i64 (0))) 24) 4,asg 17 19 4])
 (.cond (t' 17)
 (.seq
 (.ops false [mv 20 10 24,asg 8 20 24])
 (.ret))
 (.seq
 (.ops false [mv 22 2 9,o1 23 (.call ⟨(.builtin .len),#[(t' 22)],#[9]⟩) 3,o1 24 (.binOp .gtr 3 (t' 23) (.const (.int .i64 (252))) 3) 4,asg 21 24 4])
 (.cond (t' 21)
 (.seq
 (.ops false [o1 8 (.assign (.const (.int .i64 (2)))) 24])
 (.ret))
 (.seq
 (.ops false [mv 26 3 3,o1 27 (.binOp .lss 3 (t' 26) (.const (.int .i64 (1))) 3) 4,mv 28 27 4,o2 29 (.move (t' 3)) 3 28 false,o2 30 (.move (t' 9)) 60 28 false,o2 31 (.nilCheck (t' 30)) 0 28 false,o2 32 (.fieldAddr 63 (t' 31) 4) 0 28 false,o2 33 (.load 3 (t' 32)) 3 28 false,o2 34 (.binOp .lss 3 (t' 29) (t' 33) 3) 4 28 false,o1 35 (.pick (t' 28) (.const (.bool true)) (t' 34)) 4,asg 25 35 4])
 (.cond (t' 25)
 (.seq
 (.ops false [o1 8 (.assign (.const (.int .i64 (1)))) 24])
 (.ret))
 (.skip))))))))
 (.seq
 (.seq
 (.ops false [mv 36 9 60,o1 37 (.nilCheck (t' 36)) 0,o1 38 (.fieldAddr 63 (t' 37) 2) 0,o1 39 (.load 4 (t' 38)) 4,o1 40 (.unOp .not 4 (t' 39)) 4])
 (.cond (t' 40)
 (.ops false [mv 41 9 60,mv 42 3 3,o1 43 (.nilCheck (t' 41)) 0,o1 44 (.fieldAddr 63 (t' 43) 3) 0,o0 (.store 3 (t' 44) (t' 42)) 0])
 (.skip)))
 (.seq
 (.ops false [mv 45 9 60,mv 46 9 60,mv 47 9 60,mv 48 2 9,mv 49 2 9,o1 50 (.call ⟨(.builtin .len),#[(t' 49)],#[9]⟩) 3,o1 51 (.binOp .sub 3 (.const (.int .i64 (252))) (t' 50) 3) 3,o1 52 (.makeSlice 66 (t' 51) (t' 51)) 66,o1 53 (.convert 66 9 (t' 52)) 9,o1 54 (.binOp .add 9 (t' 48) (t' 53) 9) 9,mv 55 3 3,o1 56 (.nilCheck (t' 45)) 0,o1 57 (.fieldAddr 63 (t' 56) 0) 0,o0 (.store 9 (t' 57) (t' 54)) 0,o1 58 (.nilCheck (t' 46)) 0,o1 59 (.fieldAddr 63 (t' 58) 2) 0,o0 (.store 4 (t' 59) (.const (.bool true))) 0,o1 60 (.nilCheck (t' 47)) 0,o1 61 (.fieldAddr 63 (t' 60) 4) 0,o0 (.store 3 (t' 61) (t' 55)) 0])
 (.seq
 (.ops false [o1 8 (.assign (.const (.int .i64 (0)))) 24])
 (.ret)))))))⟩
theorem fa11_eq:fnA qcfg.P (qcfg.rxf 11) 11=some fa11:=by kernel_rfl
noncomputable def e11 (x1:Int) (x2:List UInt8) (x3:Int) (m0 m1:List V) (m2_1 m2_4 m3_0:Int) (m4:List (V × V)) (m5:List V) (m6:List (V × V)) (m7:List V) (z7:Nat):R :=
 mfK m4 (V.int .i64 x1)
 (some (.doneM (V.int .i64 7) [O.arena 63 m0,O.arena 7 m1,O.box 59 (V.agg [V.ptr 3 0 0,V.int .i64 m2_1,V.mp 4,V.tail 5 0,V.int .i64 m2_4]) false,O.box 56 (V.agg [V.int .i64 m3_0,V.mp 6,V.tail 7 0]) false,O.map m4,O.row 3 m5 0,O.map m6,O.row 88 m7 z7])) fun r =>
  kP 63 r fun p =>
  idxK m0 p fun v =>
  d63 v fun s pins dirty first last =>
  cond (pins==(0:Int))
 (some (.doneM (V.int .i64 9) [O.arena 63 m0,O.arena 7 m1,O.box 59 (V.agg [V.ptr 3 0 0,V.int .i64 m2_1,V.mp 4,V.tail 5 0,V.int .i64 m2_4]) false,O.box 56 (V.agg [V.int .i64 m3_0,V.mp 6,V.tail 7 0]) false,O.map m4,O.row 3 m5 0,O.map m6,O.row 88 m7 z7]))
 (cond (decide ((x2.length:Int) > 252))
 (some (.doneM (V.int .i64 2) [O.arena 63 m0,O.arena 7 m1,O.box 59 (V.agg [V.ptr 3 0 0,V.int .i64 m2_1,V.mp 4,V.tail 5 0,V.int .i64 m2_4]) false,O.box 56 (V.agg [V.int .i64 m3_0,V.mp 6,V.tail 7 0]) false,O.map m4,O.row 3 m5 0,O.map m6,O.row 88 m7 z7]))
 (cond (decide (x3 < 1))
 (some (.doneM (V.int .i64 1) [O.arena 63 m0,O.arena 7 m1,O.box 59 (V.agg [V.ptr 3 0 0,V.int .i64 m2_1,V.mp 4,V.tail 5 0,V.int .i64 m2_4]) false,O.box 56 (V.agg [V.int .i64 m3_0,V.mp 6,V.tail 7 0]) false,O.map m4,O.row 3 m5 0,O.map m6,O.row 88 m7 z7]))
 (idxK m0 p fun v_1 =>
  d63 v_1 fun s_1 pins_1 dirty_1 first_1 last_1 =>
  cond (decide (x3 < last_1))
 (some (.doneM (V.int .i64 1) [O.arena 63 m0,O.arena 7 m1,O.box 59 (V.agg [V.ptr 3 0 0,V.int .i64 m2_1,V.mp 4,V.tail 5 0,V.int .i64 m2_4]) false,O.box 56 (V.agg [V.int .i64 m3_0,V.mp 6,V.tail 7 0]) false,O.map m4,O.row 3 m5 0,O.map m6,O.row 88 m7 z7]))
 (idxK m0 p fun v_2 =>
  d63 v_2 fun s_2 pins_2 dirty_2 first_2 last_2 =>
  cond (!dirty_2)
 (idxK m0 p fun v_3 =>
  d63 v_3 fun s_3 pins_3 dirty_3 first_3 last_3 =>
  gd (decide (0<=W .i64 (252 - (x2.length:Int)))) <|
  gd (decide (W .i64 (252 - (x2.length:Int))<=W .i64 (252 - (x2.length:Int)))) <|
  gd (decide ((W .i64 (252 - (x2.length:Int))).toNat<=16777216)) <|
  opt (numsOf (List.replicate ((W .i64 (252 - (x2.length:Int))).toNat) (V.int .u8 0))) fun ns =>
  gd (decide (x2.length+(ns.map fun n=>UInt8.ofNat n.toNat).length<=4611686018427387904)) <|
  idxK ((m0).set p (V.agg [V.str s_3,V.int .i64 pins_3,V.bool dirty_3,V.int .i64 x3,V.int .i64 last_3])) p fun v_4 =>
  d63 v_4 fun s_4 pins_4 dirty_4 first_4 last_4 =>
  idxK (((m0).set p (V.agg [V.str s_3,V.int .i64 pins_3,V.bool dirty_3,V.int .i64 x3,V.int .i64 last_3])).set p (V.agg [V.str (x2++(ns.map fun n=>UInt8.ofNat n.toNat)),V.int .i64 pins_4,V.bool dirty_4,V.int .i64 first_4,V.int .i64 last_4])) p fun v_5 =>
  d63 v_5 fun s_5 pins_5 dirty_5 first_5 last_5 =>
  idxK ((((m0).set p (V.agg [V.str s_3,V.int .i64 pins_3,V.bool dirty_3,V.int .i64 x3,V.int .i64 last_3])).set p (V.agg [V.str (x2++(ns.map fun n=>UInt8.ofNat n.toNat)),V.int .i64 pins_4,V.bool dirty_4,V.int .i64 first_4,V.int .i64 last_4])).set p (V.agg [V.str s_5,V.int .i64 pins_5,V.bool true,V.int .i64 first_5,V.int .i64 last_5])) p fun v_6 =>
  d63 v_6 fun s_6 pins_6 dirty_6 first_6 last_6 =>
  some (.doneM (V.int .i64 0) [O.arena 63 (((((m0).set p (V.agg [V.str s_3,V.int .i64 pins_3,V.bool dirty_3,V.int .i64 x3,V.int .i64 last_3])).set p (V.agg [V.str (x2++(ns.map fun n=>UInt8.ofNat n.toNat)),V.int .i64 pins_4,V.bool dirty_4,V.int .i64 first_4,V.int .i64 last_4])).set p (V.agg [V.str s_5,V.int .i64 pins_5,V.bool true,V.int .i64 first_5,V.int .i64 last_5])).set p (V.agg [V.str s_6,V.int .i64 pins_6,V.bool dirty_6,V.int .i64 first_6,V.int .i64 x3])),O.arena 7 m1,O.box 59 (V.agg [V.ptr 3 0 0,V.int .i64 m2_1,V.mp 4,V.tail 5 0,V.int .i64 m2_4]) false,O.box 56 (V.agg [V.int .i64 m3_0,V.mp 6,V.tail 7 0]) false,O.map m4,O.row 3 m5 0,O.map m6,O.row 88 m7 z7,O.row 5 (List.replicate ((W .i64 (252 - (x2.length:Int))).toNat) (V.int .u8 0)) 0]))
 (gd (decide (0<=W .i64 (252 - (x2.length:Int)))) <|
  gd (decide (W .i64 (252 - (x2.length:Int))<=W .i64 (252 - (x2.length:Int)))) <|
  gd (decide ((W .i64 (252 - (x2.length:Int))).toNat<=16777216)) <|
  opt (numsOf (List.replicate ((W .i64 (252 - (x2.length:Int))).toNat) (V.int .u8 0))) fun ns_1 =>
  gd (decide (x2.length+(ns_1.map fun n=>UInt8.ofNat n.toNat).length<=4611686018427387904)) <|
  idxK m0 p fun v_7 =>
  d63 v_7 fun s_7 pins_7 dirty_7 first_7 last_7 =>
  idxK ((m0).set p (V.agg [V.str (x2++(ns_1.map fun n=>UInt8.ofNat n.toNat)),V.int .i64 pins_7,V.bool dirty_7,V.int .i64 first_7,V.int .i64 last_7])) p fun v_8 =>
  d63 v_8 fun s_8 pins_8 dirty_8 first_8 last_8 =>
  idxK (((m0).set p (V.agg [V.str (x2++(ns_1.map fun n=>UInt8.ofNat n.toNat)),V.int .i64 pins_7,V.bool dirty_7,V.int .i64 first_7,V.int .i64 last_7])).set p (V.agg [V.str s_8,V.int .i64 pins_8,V.bool true,V.int .i64 first_8,V.int .i64 last_8])) p fun v_9 =>
  d63 v_9 fun s_9 pins_9 dirty_9 first_9 last_9 =>
  some (.doneM (V.int .i64 0) [O.arena 63 ((((m0).set p (V.agg [V.str (x2++(ns_1.map fun n=>UInt8.ofNat n.toNat)),V.int .i64 pins_7,V.bool dirty_7,V.int .i64 first_7,V.int .i64 last_7])).set p (V.agg [V.str s_8,V.int .i64 pins_8,V.bool true,V.int .i64 first_8,V.int .i64 last_8])).set p (V.agg [V.str s_9,V.int .i64 pins_9,V.bool dirty_9,V.int .i64 first_9,V.int .i64 x3])),O.arena 7 m1,O.box 59 (V.agg [V.ptr 3 0 0,V.int .i64 m2_1,V.mp 4,V.tail 5 0,V.int .i64 m2_4]) false,O.box 56 (V.agg [V.int .i64 m3_0,V.mp 6,V.tail 7 0]) false,O.map m4,O.row 3 m5 0,O.map m6,O.row 88 m7 z7,O.row 5 (List.replicate ((W .i64 (252 - (x2.length:Int))).toNat) (V.int .u8 0)) 0]))))))
theorem e11_eq (x1:Int) (x2:List UInt8) (x3:Int) (m0 m1:List V) (m2_1 m2_4 m3_0:Int) (m4:List (V × V)) (m5:List V) (m6:List (V × V)) (m7:List V) (z7:Nat):enterK qk true fa11 [V.ptr 2 0 0,V.int .i64 x1,V.str x2,V.int .i64 x3] [O.arena 63 m0,O.arena 7 m1,O.box 59 (V.agg [V.ptr 3 0 0,V.int .i64 m2_1,V.mp 4,V.tail 5 0,V.int .i64 m2_4]) false,O.box 56 (V.agg [V.int .i64 m3_0,V.mp 6,V.tail 7 0]) false,O.map m4,O.row 3 m5 0,O.map m6,O.row 88 m7 z7]=e11 x1 x2 x3 m0 m1 m2_1 m2_4 m3_0 m4 m5 m6 m7 z7:=by kernel_rfl
theorem e11_run (x1:Int) (x2:List UInt8) (x3:Int) (m0 m1:List V) (m2_1 m2_4 m3_0:Int) (m4:List (V × V)) (m5:List V) (m6:List (V × V)) (m7:List V) (z7:Nat) {o:Out} {r:V × List O} (h:e11 x1 x2 x3 m0 m1 m2_1 m2_4 m3_0 m4 m5 m6 m7 z7=some o) (hg:GoN qk 8 fa11 ⟨true,false⟩ [O.arena 63 m0,O.arena 7 m1,O.box 59 (V.agg [V.ptr 3 0 0,V.int .i64 m2_1,V.mp 4,V.tail 5 0,V.int .i64 m2_4]) false,O.box 56 (V.agg [V.int .i64 m3_0,V.mp 6,V.tail 7 0]) false,O.map m4,O.row 3 m5 0,O.map m6,O.row 88 m7 z7] o r):icC qcfg ⟨true,false⟩ 11 [V.ptr 2 0 0,V.int .i64 x1,V.str x2,V.int .i64 x3] [O.arena 63 m0,O.arena 7 m1,O.box 59 (V.agg [V.ptr 3 0 0,V.int .i64 m2_1,V.mp 4,V.tail 5 0,V.int .i64 m2_4]) false,O.box 56 (V.agg [V.int .i64 m3_0,V.mp 6,V.tail 7 0]) false,O.map m4,O.row 3 m5 0,O.map m6,O.row 88 m7 z7]=some r:=icC_go qik rfl fa11_eq ((e11_eq ..).trans h) hg
noncomputable def fa10:FA:=⟨2,23,[.tmp 4],[24],
 (.seq
 (.ops false [o1 4 (.assign (.const (.int .i64 (0)))) 24])
 (.seq
 (.ops false [mv 8 0 27,mv 9 1 3,o1 10 (.call ⟨(.value (.func 27)),#[(t' 8),(t' 9)],#[27,3]⟩) 64,mv 7 10 64,o1 11 (.extract (t' 7) 0) 60,o1 12 (.extract (t' 7) 1) 24,asg 5 11 60,asg 6 12 24])
 (.seq
 (.seq
 (.ops false [mv 13 6 24,o1 14 (.binOp .eql 24 (t' 13) (.const (.int .i64 (0))) 24) 4])
 (.cond (t' 14)
 (.ops false [mv 15 5 60,o1 16 (.nilCheck (t' 15)) 0,o1 17 (.fieldAddr 63 (t' 16) 1) 0,o1 18 (.load 3 (t' 17)) 3,o1 19 (.binOp .sub 3 (t' 18) (.const (.int .i64 (1))) 3) 3,o1 20 (.nilCheck (t' 15)) 0,o1 21 (.fieldAddr 63 (t' 20) 1) 0,o0 (.store 3 (t' 21) (t' 19)) 0])
 (.skip)))
 (.seq
 (.ops false [mv 22 6 24,asg 4 22 24])
 (.ret)))))⟩
theorem fa10_eq:fnA qcfg.P (qcfg.rxf 10) 10=some fa10:=by kernel_rfl
noncomputable def e10 (x1:Int) (m0 m1:List V) (m2_1 m2_4 m3_0:Int) (m4:List (V × V)) (m5:List V) (m6:List (V × V)) (m7:List V) (z7:Nat):R :=
 mfK m4 (V.int .i64 x1)
 (some (.doneM (V.int .i64 7) [O.arena 63 m0,O.arena 7 m1,O.box 59 (V.agg [V.ptr 3 0 0,V.int .i64 m2_1,V.mp 4,V.tail 5 0,V.int .i64 m2_4]) false,O.box 56 (V.agg [V.int .i64 m3_0,V.mp 6,V.tail 7 0]) false,O.map m4,O.row 3 m5 0,O.map m6,O.row 88 m7 z7])) fun r =>
  kP 63 r fun p =>
  idxK m0 p fun v =>
  d63 v fun s pins dirty first last =>
  cond (pins==(0:Int))
 (some (.doneM (V.int .i64 9) [O.arena 63 m0,O.arena 7 m1,O.box 59 (V.agg [V.ptr 3 0 0,V.int .i64 m2_1,V.mp 4,V.tail 5 0,V.int .i64 m2_4]) false,O.box 56 (V.agg [V.int .i64 m3_0,V.mp 6,V.tail 7 0]) false,O.map m4,O.row 3 m5 0,O.map m6,O.row 88 m7 z7]))
 (idxK m0 p fun v_1 =>
  d63 v_1 fun s_1 pins_1 dirty_1 first_1 last_1 =>
  idxK m0 p fun v_2 =>
  d63 v_2 fun s_2 pins_2 dirty_2 first_2 last_2 =>
  some (.doneM (V.int .i64 0) [O.arena 63 ((m0).set p (V.agg [V.str s_2,V.int .i64 (W .i64 (pins_1 - 1)),V.bool dirty_2,V.int .i64 first_2,V.int .i64 last_2])),O.arena 7 m1,O.box 59 (V.agg [V.ptr 3 0 0,V.int .i64 m2_1,V.mp 4,V.tail 5 0,V.int .i64 m2_4]) false,O.box 56 (V.agg [V.int .i64 m3_0,V.mp 6,V.tail 7 0]) false,O.map m4,O.row 3 m5 0,O.map m6,O.row 88 m7 z7]))
theorem e10_eq (x1:Int) (m0 m1:List V) (m2_1 m2_4 m3_0:Int) (m4:List (V × V)) (m5:List V) (m6:List (V × V)) (m7:List V) (z7:Nat):enterK qk true fa10 [V.ptr 2 0 0,V.int .i64 x1] [O.arena 63 m0,O.arena 7 m1,O.box 59 (V.agg [V.ptr 3 0 0,V.int .i64 m2_1,V.mp 4,V.tail 5 0,V.int .i64 m2_4]) false,O.box 56 (V.agg [V.int .i64 m3_0,V.mp 6,V.tail 7 0]) false,O.map m4,O.row 3 m5 0,O.map m6,O.row 88 m7 z7]=e10 x1 m0 m1 m2_1 m2_4 m3_0 m4 m5 m6 m7 z7:=by kernel_rfl
theorem e10_run (x1:Int) (m0 m1:List V) (m2_1 m2_4 m3_0:Int) (m4:List (V × V)) (m5:List V) (m6:List (V × V)) (m7:List V) (z7:Nat) {o:Out} {r:V × List O} (h:e10 x1 m0 m1 m2_1 m2_4 m3_0 m4 m5 m6 m7 z7=some o) (hg:GoN qk 8 fa10 ⟨true,false⟩ [O.arena 63 m0,O.arena 7 m1,O.box 59 (V.agg [V.ptr 3 0 0,V.int .i64 m2_1,V.mp 4,V.tail 5 0,V.int .i64 m2_4]) false,O.box 56 (V.agg [V.int .i64 m3_0,V.mp 6,V.tail 7 0]) false,O.map m4,O.row 3 m5 0,O.map m6,O.row 88 m7 z7] o r):icC qcfg ⟨true,false⟩ 10 [V.ptr 2 0 0,V.int .i64 x1] [O.arena 63 m0,O.arena 7 m1,O.box 59 (V.agg [V.ptr 3 0 0,V.int .i64 m2_1,V.mp 4,V.tail 5 0,V.int .i64 m2_4]) false,O.box 56 (V.agg [V.int .i64 m3_0,V.mp 6,V.tail 7 0]) false,O.map m4,O.row 3 m5 0,O.map m6,O.row 88 m7 z7]=some r:=icC_go qik rfl fa10_eq ((e10_eq ..).trans h) hg
noncomputable def fa22:FA:=⟨1,43,[.tmp 2,.tmp 3],[3,4],
 (.seq
 (.ops false [o1 2 (.assign (.const (.int .i64 (0)))) 3,o1 3 (.assign (.const (.bool false))) 4])
 (.seq
 (.ops false [mv 8 0 27,o1 9 (.call ⟨(.value (.func 21)),#[(t' 8)],#[27]⟩) 45,asg 4 9 45])
 (.seq
 (.seq
 (.ops false [mv 10 4 45,o1 11 (.call ⟨(.builtin .len),#[(t' 10)],#[45]⟩) 3,o1 12 (.binOp .eql 3 (t' 11) (.const (.int .i64 (0))) 3) 4])
 (.cond (t' 12)
 (.seq
 (.ops false [o1 2 (.assign (.const (.int .i64 (0)))) 3,o1 3 (.assign (.const (.bool false))) 4])
 (.ret))
 (.skip)))
 (.seq
 (.ops true [mv 13 0 27,o1 14 (.nilCheck (t' 13)) 0,o1 15 (.fieldAddr 59 (t' 14) 2) 0,o1 16 (.load 57 (t' 15)) 57,mv 17 4 45,o1 18 (.indexAddr 45 (t' 17) (.const (.int .i64 (0)))) 0,o1 19 (.load 3 (t' 18)) 3,o1 20 (.lookup 57 (t' 16) (t' 19) false) 60,o1 21 (.nilCheck (t' 20)) 0,o1 22 (.fieldAddr 63 (t' 21) 3) 0,o1 23 (.load 3 (t' 22)) 3,asg 5 23 3])
 (.seq
 (.seq
 (.ops false [mv 24 4 45,o1 25 (.call ⟨(.builtin .len),#[(t' 24)],#[45]⟩) 3,o1 26 (.move (.const (.int .i64 (0)))) 3])
 (.block 0
 (.loop ([1,4]++List.range' 6 18++List.range' 27 16)
 (.seq
 (.ops false [o1 27 (.binOp .lss 3 (t' 26) (t' 25) 3) 0])
 (.seq
 (.cond (t' 27)
 (.skip)
 (.exit 0))
 (.seq
 (.block 1
 (.seq
 (.ops false [o1 28 (.indexAddr 45 (t' 24) (t' 26)) 0,o1 29 (.load 3 (t' 28)) 3,asg 7 29 3])
 (.ops false [mv 30 5 3,mv 31 0 27,o1 32 (.nilCheck (t' 31)) 0,o1 33 (.fieldAddr 59 (t' 32) 2) 0,o1 34 (.load 57 (t' 33)) 57,mv 35 7 3,o1 36 (.lookup 57 (t' 34) (t' 35) false) 60,o1 37 (.nilCheck (t' 36)) 0,o1 38 (.fieldAddr 63 (t' 37) 3) 0,o1 39 (.load 3 (t' 38)) 3,o1 40 (.call ⟨(.builtin .min),#[(t' 30),(t' 39)],#[3,3]⟩) 3,asg 5 40 3])))
 (.ops false [o1 41 (.binOp .add 3 (t' 26) (.const (.int .i64 (1))) 3) 3,mv 26 41 3])))))))
 (.seq
 (.ops false [mv 42 5 3,asg 2 42 3,o1 3 (.assign (.const (.bool true))) 4])
 (.ret)))))))⟩
theorem fa22_eq:fnA qcfg.P (qcfg.rxf 22) 22=some fa22:=by kernel_rfl
def T22_0 (x5:Int) (x24:Nat) (x25 x26:Int) (m0 m1:List V) (m2_1 m2_4 m3_0:Int) (m4:List (V × V)) (m5:List V) (m6:List (V × V)) (m7:List V) (z7:Nat) (m8:List V):S:=⟨[V.ptr 2 0 0,V.junk,V.int .i64 0,V.bool false,V.junk,V.int .i64 x5]++(JU 18)++[V.win 8 0 x24,V.int .i64 x25,V.int .i64 x26]++(JU 16),[O.arena 63 m0,O.arena 7 m1,O.box 59 (V.agg [V.ptr 3 0 0,V.int .i64 m2_1,V.mp 4,V.tail 5 0,V.int .i64 m2_4]) false,O.box 56 (V.agg [V.int .i64 m3_0,V.mp 6,V.tail 7 0]) false,O.map m4,O.row 3 m5 0,O.map m6,O.row 88 m7 z7,O.row 3 m8 0]⟩
noncomputable def e22 (m0 m1:List V) (m2_1 m2_4 m3_0:Int) (m4:List (V × V)) (m5:List V) (m6:List (V × V)) (m7:List V) (z7:Nat):R :=
 icM qcfg ⟨true,true⟩ mk21 21 [V.ptr 2 0 0] [O.arena 63 m0,O.arena 7 m1,O.box 59 (V.agg [V.ptr 3 0 0,V.int .i64 m2_1,V.mp 4,V.tail 5 0,V.int .i64 m2_4]) false,O.box 56 (V.agg [V.int .i64 m3_0,V.mp 6,V.tail 7 0]) false,O.map m4,O.row 3 m5 0,O.map m6,O.row 88 m7 z7] fun L =>
 gd (decide (0+L.1<=L.2.2.2.2.2.2.2.2.2.2.2.length)) <|
 cond (((((L.2.2.2.2.2.2.2.2.2.2.2).drop 0).take L.1).length:Int)==(0:Int))
 (some (.doneM (V.tup [V.int .i64 0,V.bool false]) [O.arena 63 L.2.1,O.arena 7 L.2.2.1,O.box 59 (V.agg [V.ptr 3 0 0,V.int .i64 L.2.2.2.1,V.mp 4,V.tail 5 0,V.int .i64 L.2.2.2.2.1]) false,O.box 56 (V.agg [V.int .i64 L.2.2.2.2.2.1,V.mp 6,V.tail 7 0]) false,O.map L.2.2.2.2.2.2.1,O.row 3 L.2.2.2.2.2.2.2.1 0,O.map L.2.2.2.2.2.2.2.2.1,O.row 88 L.2.2.2.2.2.2.2.2.2.1 L.2.2.2.2.2.2.2.2.2.2.1,O.row 3 L.2.2.2.2.2.2.2.2.2.2.2 0]))
 (gd (decide (0 < L.1)) <|
  gd (decide (0+L.1<=L.2.2.2.2.2.2.2.2.2.2.2.length)) <|
  idxK L.2.2.2.2.2.2.2.2.2.2.2 (0+0) fun v =>
  kI .i64 v fun n =>
  mfK L.2.2.2.2.2.2.1 (V.int .i64 n)
 (none) fun r =>
  kP 63 r fun p =>
  idxK L.2.1 p fun v_1 =>
  d63 v_1 fun s pins dirty first last =>
  gd (decide (0+L.1<=L.2.2.2.2.2.2.2.2.2.2.2.length)) <|
  some (.head 0 (T22_0 first L.1 ((((L.2.2.2.2.2.2.2.2.2.2.2).drop 0).take L.1).length:Int) 0 L.2.1 L.2.2.1 L.2.2.2.1 L.2.2.2.2.1 L.2.2.2.2.2.1 L.2.2.2.2.2.2.1 L.2.2.2.2.2.2.2.1 L.2.2.2.2.2.2.2.2.1 L.2.2.2.2.2.2.2.2.2.1 L.2.2.2.2.2.2.2.2.2.2.1 L.2.2.2.2.2.2.2.2.2.2.2)))
theorem e22_eq (m0 m1:List V) (m2_1 m2_4 m3_0:Int) (m4:List (V × V)) (m5:List V) (m6:List (V × V)) (m7:List V) (z7:Nat):enterK qk true fa22 [V.ptr 2 0 0] [O.arena 63 m0,O.arena 7 m1,O.box 59 (V.agg [V.ptr 3 0 0,V.int .i64 m2_1,V.mp 4,V.tail 5 0,V.int .i64 m2_4]) false,O.box 56 (V.agg [V.int .i64 m3_0,V.mp 6,V.tail 7 0]) false,O.map m4,O.row 3 m5 0,O.map m6,O.row 88 m7 z7]=e22 m0 m1 m2_1 m2_4 m3_0 m4 m5 m6 m7 z7:=by kernel_rfl
theorem e22_run (m0 m1:List V) (m2_1 m2_4 m3_0:Int) (m4:List (V × V)) (m5:List V) (m6:List (V × V)) (m7:List V) (z7:Nat) {o:Out} {r:V × List O} (h:e22 m0 m1 m2_1 m2_4 m3_0 m4 m5 m6 m7 z7=some o) (hg:GoN qk 8 fa22 ⟨true,false⟩ [O.arena 63 m0,O.arena 7 m1,O.box 59 (V.agg [V.ptr 3 0 0,V.int .i64 m2_1,V.mp 4,V.tail 5 0,V.int .i64 m2_4]) false,O.box 56 (V.agg [V.int .i64 m3_0,V.mp 6,V.tail 7 0]) false,O.map m4,O.row 3 m5 0,O.map m6,O.row 88 m7 z7] o r):icC qcfg ⟨true,false⟩ 22 [V.ptr 2 0 0] [O.arena 63 m0,O.arena 7 m1,O.box 59 (V.agg [V.ptr 3 0 0,V.int .i64 m2_1,V.mp 4,V.tail 5 0,V.int .i64 m2_4]) false,O.box 56 (V.agg [V.int .i64 m3_0,V.mp 6,V.tail 7 0]) false,O.map m4,O.row 3 m5 0,O.map m6,O.row 88 m7 z7]=some r:=icC_go qik rfl fa22_eq ((e22_eq ..).trans h) hg
noncomputable def s22_0 (x5:Int) (x24:Nat) (x25 x26:Int) (m0 m1:List V) (m2_1 m2_4 m3_0:Int) (m4:List (V × V)) (m5:List V) (m6:List (V × V)) (m7:List V) (z7:Nat) (m8:List V):R :=
 cond (decide (x26 < x25))
 (gd (decide (0<=x26)) <|
  gd (decide (x26.toNat < x24)) <|
  gd (decide (0+x24<=m8.length)) <|
  idxK m8 (0+x26.toNat) fun v =>
  kI .i64 v fun n =>
  mfK m4 (V.int .i64 n)
 (none) fun r =>
  kP 63 r fun p =>
  idxK m0 p fun v_1 =>
  d63 v_1 fun s pins dirty first last =>
  some (.head 0 (T22_0 (if first < x5 then first else x5) x24 x25 (W .i64 (x26+1)) m0 m1 m2_1 m2_4 m3_0 m4 m5 m6 m7 z7 m8)))
 (some (.doneM (V.tup [V.int .i64 x5,V.bool true]) [O.arena 63 m0,O.arena 7 m1,O.box 59 (V.agg [V.ptr 3 0 0,V.int .i64 m2_1,V.mp 4,V.tail 5 0,V.int .i64 m2_4]) false,O.box 56 (V.agg [V.int .i64 m3_0,V.mp 6,V.tail 7 0]) false,O.map m4,O.row 3 m5 0,O.map m6,O.row 88 m7 z7,O.row 3 m8 0]))
theorem s22_0_eq (x5:Int) (x24:Nat) (x25 x26:Int) (m0 m1:List V) (m2_1 m2_4 m3_0:Int) (m4:List (V × V)) (m5:List V) (m6:List (V × V)) (m7:List V) (z7:Nat) (m8:List V):goK qk true 8 fa22 0 (T22_0 x5 x24 x25 x26 m0 m1 m2_1 m2_4 m3_0 m4 m5 m6 m7 z7 m8)=s22_0 x5 x24 x25 x26 m0 m1 m2_1 m2_4 m3_0 m4 m5 m6 m7 z7 m8:=by kernel_rfl
theorem s22_0_run (x5:Int) (x24:Nat) (x25 x26:Int) (m0 m1:List V) (m2_1 m2_4 m3_0:Int) (m4:List (V × V)) (m5:List V) (m6:List (V × V)) (m7:List V) (z7:Nat) (m8:List V) {o o':Out} (h:s22_0 x5 x24 x25 x26 m0 m1 m2_1 m2_4 m3_0 m4 m5 m6 m7 z7 m8=some o) (hg:Go qk true 8 fa22 o o'):Go qk true 8 fa22 (.head 0 (T22_0 x5 x24 x25 x26 m0 m1 m2_1 m2_4 m3_0 m4 m5 m6 m7 z7 m8)) o':=.step ((s22_0_eq ..).trans h) hg
noncomputable def fa15:FA:=⟨2,16,[.tmp 4,.tmp 5],[9,24],
 (.seq
 (.ops false [o1 4 (.assign (.const (.string ⟨⟨[]⟩⟩))) 9,o1 5 (.assign (.const (.int .i64 (0)))) 24])
 (.seq
 (.seq
 (.ops false [mv 6 0 23,mv 7 1 3,o1 8 (.call ⟨(.value (.func 31)),#[(t' 6),(t' 7)],#[23,3]⟩) 4,o1 9 (.unOp .not 4 (t' 8)) 4])
 (.cond (t' 9)
 (.seq
 (.ops false [o1 4 (.assign (.const (.string ⟨⟨[]⟩⟩))) 9,o1 5 (.assign (.const (.int .i64 (1)))) 24])
 (.ret))
 (.skip)))
 (.seq
 (.ops false [mv 10 0 23,mv 11 1 3,o1 12 (.call ⟨(.value (.func 33)),#[(t' 10),(t' 11)],#[23,3]⟩) 9,o1 13 (.call ⟨(.value (.func 32)),#[(t' 12)],#[9]⟩) 32,o1 14 (.extract (t' 13) 0) 9,o1 15 (.extract (t' 13) 1) 24,asg 4 14 9,asg 5 15 24])
 (.ret))))⟩
theorem fa15_eq:fnA qcfg.P (qcfg.rxf 15) 15=some fa15:=by kernel_rfl
noncomputable def e15 (x1:Int) (m0 m1:List V) (m2_0:Int) (m3:List (V × V)) (m4:List V) (z4:Nat):R :=
 cond (decide (x1 ≥ 0))
 (cond (!(decide (x1 < m2_0)))
 (some (.doneM (V.tup [V.str [],V.int .i64 1]) [O.arena 63 m0,O.arena 7 m1,O.box 56 (V.agg [V.int .i64 m2_0,V.mp 3,V.tail 4 0]) false,O.map m3,O.row 88 m4 z4]))
 (icM qcfg ⟨true,false⟩ mk33 33 [V.ptr 2 0 0,V.int .i64 x1] [O.arena 63 m0,O.arena 7 m1,O.box 56 (V.agg [V.int .i64 m2_0,V.mp 3,V.tail 4 0]) false,O.map m3,O.row 88 m4 z4] fun L =>
  pcK qcfg 32 [V.str L.1] fun r =>
  d32 r fun r32_0 r32_1 =>
  some (.doneM (V.tup [V.str r32_0,V.int .i64 r32_1]) [O.arena 63 L.2.1,O.arena 7 L.2.2.1,O.box 56 (V.agg [V.int .i64 L.2.2.2.1,V.mp 3,V.tail 4 0]) false,O.map L.2.2.2.2.1,O.row 88 L.2.2.2.2.2.1 L.2.2.2.2.2.2])))
 (some (.doneM (V.tup [V.str [],V.int .i64 1]) [O.arena 63 m0,O.arena 7 m1,O.box 56 (V.agg [V.int .i64 m2_0,V.mp 3,V.tail 4 0]) false,O.map m3,O.row 88 m4 z4]))
theorem e15_eq (x1:Int) (m0 m1:List V) (m2_0:Int) (m3:List (V × V)) (m4:List V) (z4:Nat):enterK qk true fa15 [V.ptr 2 0 0,V.int .i64 x1] [O.arena 63 m0,O.arena 7 m1,O.box 56 (V.agg [V.int .i64 m2_0,V.mp 3,V.tail 4 0]) false,O.map m3,O.row 88 m4 z4]=e15 x1 m0 m1 m2_0 m3 m4 z4:=by kernel_rfl
theorem e15_run (x1:Int) (m0 m1:List V) (m2_0:Int) (m3:List (V × V)) (m4:List V) (z4:Nat) {o:Out} {r:V × List O} (h:e15 x1 m0 m1 m2_0 m3 m4 z4=some o) (hg:GoN qk 5 fa15 ⟨true,false⟩ [O.arena 63 m0,O.arena 7 m1,O.box 56 (V.agg [V.int .i64 m2_0,V.mp 3,V.tail 4 0]) false,O.map m3,O.row 88 m4 z4] o r):icC qcfg ⟨true,false⟩ 15 [V.ptr 2 0 0,V.int .i64 x1] [O.arena 63 m0,O.arena 7 m1,O.box 56 (V.agg [V.int .i64 m2_0,V.mp 3,V.tail 4 0]) false,O.map m3,O.row 88 m4 z4]=some r:=icC_go qik rfl fa15_eq ((e15_eq ..).trans h) hg
noncomputable def fa19:FA:=⟨1,9,[.tmp 2],[45],
 (.seq
 (.ops false [o1 2 (.assign (.const (.slice none 0 0))) 45])
 (.seq
 (.ops false [mv 3 0 27,o1 4 (.nilCheck (t' 3)) 0,o1 5 (.fieldAddr 59 (t' 4) 2) 0,o1 6 (.load 57 (t' 5)) 57,o1 7 (.call ⟨(.value (.func 38)),#[(t' 6)],#[57]⟩) 76,o1 8 (.call ⟨(.value (.func 37)),#[(t' 7)],#[76]⟩) 45,asg 2 8 45])
 (.ret)))⟩
theorem fa19_eq:fnA qcfg.P (qcfg.rxf 19) 19=some fa19:=by kernel_rfl
noncomputable def e19 (m0 m1:List V) (m2_1 m2_4 m3_0:Int) (m4:List (V × V)) (m5:List V) (m6:List (V × V)) (m7:List V) (z7:Nat):R :=
 opt (keyInts m4) fun ks =>
 gd (decide (ks.length<=16777216)) <|
 some (.doneM (V.own 10) [O.arena 63 m0,O.arena 7 m1,O.box 59 (V.agg [V.ptr 3 0 0,V.int .i64 m2_1,V.mp 4,V.tail 5 0,V.int .i64 m2_4]) false,O.box 56 (V.agg [V.int .i64 m3_0,V.mp 6,V.tail 7 0]) false,O.map m4,O.row 3 m5 0,O.map m6,O.row 88 m7 z7,O.row 3 [] 0,O.box 57 (V.mp 4) false,O.row 3 ((srt ks).map iV) 0])
theorem e19_eq (m0 m1:List V) (m2_1 m2_4 m3_0:Int) (m4:List (V × V)) (m5:List V) (m6:List (V × V)) (m7:List V) (z7:Nat):enterK qk true fa19 [V.ptr 2 0 0] [O.arena 63 m0,O.arena 7 m1,O.box 59 (V.agg [V.ptr 3 0 0,V.int .i64 m2_1,V.mp 4,V.tail 5 0,V.int .i64 m2_4]) false,O.box 56 (V.agg [V.int .i64 m3_0,V.mp 6,V.tail 7 0]) false,O.map m4,O.row 3 m5 0,O.map m6,O.row 88 m7 z7]=e19 m0 m1 m2_1 m2_4 m3_0 m4 m5 m6 m7 z7:=by kernel_rfl
theorem e19_run (m0 m1:List V) (m2_1 m2_4 m3_0:Int) (m4:List (V × V)) (m5:List V) (m6:List (V × V)) (m7:List V) (z7:Nat) {o:Out} {r:V × List O} (h:e19 m0 m1 m2_1 m2_4 m3_0 m4 m5 m6 m7 z7=some o) (hg:GoN qk 8 fa19 ⟨true,false⟩ [O.arena 63 m0,O.arena 7 m1,O.box 59 (V.agg [V.ptr 3 0 0,V.int .i64 m2_1,V.mp 4,V.tail 5 0,V.int .i64 m2_4]) false,O.box 56 (V.agg [V.int .i64 m3_0,V.mp 6,V.tail 7 0]) false,O.map m4,O.row 3 m5 0,O.map m6,O.row 88 m7 z7] o r):icC qcfg ⟨true,false⟩ 19 [V.ptr 2 0 0] [O.arena 63 m0,O.arena 7 m1,O.box 59 (V.agg [V.ptr 3 0 0,V.int .i64 m2_1,V.mp 4,V.tail 5 0,V.int .i64 m2_4]) false,O.box 56 (V.agg [V.int .i64 m3_0,V.mp 6,V.tail 7 0]) false,O.map m4,O.row 3 m5 0,O.map m6,O.row 88 m7 z7]=some r:=icC_go qik rfl fa19_eq ((e19_eq ..).trans h) hg
noncomputable def fa21:FA:=⟨1,7,[.tmp 2],[45],
 (.seq
 (.ops false [o1 1 (.box 27 (t' 0)) 0,o1 2 (.assign (.const (.slice none 0 0))) 45])
 (.seq
 (.ops false [o1 3 (.load 27 (t' 1)) 27,o1 4 (.call ⟨(.value (.func 19)),#[(t' 3)],#[27]⟩) 45,o1 5 (.makeFunc (.func 40) #[] #[(t' 1)]) 69,o1 6 (.call ⟨(.value (.func 39)),#[(t' 4),(t' 5)],#[45,69]⟩) 45,asg 2 6 45])
 (.ret)))⟩
theorem fa21_eq:fnA qcfg.P (qcfg.rxf 21) 21=some fa21:=by kernel_rfl
noncomputable def e21 (m0 m1:List V) (m2_1 m2_4 m3_0:Int) (m4:List (V × V)) (m5:List V) (m6:List (V × V)) (m7:List V) (z7:Nat):R :=
 icM qcfg ⟨true,false⟩ mk19 19 [V.ptr 2 0 0] [O.arena 63 m0,O.arena 7 m1,O.box 59 (V.agg [V.ptr 3 0 0,V.int .i64 m2_1,V.mp 4,V.tail 5 0,V.int .i64 m2_4]) false,O.box 56 (V.agg [V.int .i64 m3_0,V.mp 6,V.tail 7 0]) false,O.map m4,O.row 3 m5 0,O.map m6,O.row 88 m7 z7] fun L =>
 icM qcfg ⟨true,true⟩ mk39 39 [V.own 2,V.fn 40 [V.ptr 3 0 0]] [O.arena 63 L.1,O.arena 7 L.2.1,O.row 3 L.2.2.2.2.2.2.2.2.2.2 0,O.box 27 (V.ptr 4 0 0) false,O.box 59 (V.agg [V.ptr 5 0 0,V.int .i64 L.2.2.1,V.mp 6,V.tail 7 0,V.int .i64 L.2.2.2.1]) false,O.box 56 (V.agg [V.int .i64 L.2.2.2.2.1,V.mp 8,V.tail 9 0]) false,O.map L.2.2.2.2.2.1,O.row 3 L.2.2.2.2.2.2.1 0,O.map L.2.2.2.2.2.2.2.1,O.row 88 L.2.2.2.2.2.2.2.2.1 L.2.2.2.2.2.2.2.2.2.1] fun L_1 =>
 some (.doneM (V.win 10 0 L_1.1) [O.arena 63 L_1.2.1,O.arena 7 L_1.2.2.1,O.box 59 (V.agg [V.ptr 3 0 0,V.int .i64 L_1.2.2.2.2.1,V.mp 4,V.tail 5 0,V.int .i64 L_1.2.2.2.2.2.1]) false,O.box 56 (V.agg [V.int .i64 L_1.2.2.2.2.2.2.1,V.mp 6,V.tail 7 0]) false,O.map L_1.2.2.2.2.2.2.2.1,O.row 3 L_1.2.2.2.2.2.2.2.2.1 0,O.map L_1.2.2.2.2.2.2.2.2.2.1,O.row 88 L_1.2.2.2.2.2.2.2.2.2.2.1 L_1.2.2.2.2.2.2.2.2.2.2.2,O.box 27 (V.ptr 2 0 0) false,O.row 3 [] 0,O.row 3 L_1.2.2.2.1 0])
theorem e21_eq (m0 m1:List V) (m2_1 m2_4 m3_0:Int) (m4:List (V × V)) (m5:List V) (m6:List (V × V)) (m7:List V) (z7:Nat):enterK qk true fa21 [V.ptr 2 0 0] [O.arena 63 m0,O.arena 7 m1,O.box 59 (V.agg [V.ptr 3 0 0,V.int .i64 m2_1,V.mp 4,V.tail 5 0,V.int .i64 m2_4]) false,O.box 56 (V.agg [V.int .i64 m3_0,V.mp 6,V.tail 7 0]) false,O.map m4,O.row 3 m5 0,O.map m6,O.row 88 m7 z7]=e21 m0 m1 m2_1 m2_4 m3_0 m4 m5 m6 m7 z7:=by kernel_rfl
theorem e21_run (m0 m1:List V) (m2_1 m2_4 m3_0:Int) (m4:List (V × V)) (m5:List V) (m6:List (V × V)) (m7:List V) (z7:Nat) {o:Out} {r:V × List O} (h:e21 m0 m1 m2_1 m2_4 m3_0 m4 m5 m6 m7 z7=some o) (hg:GoN qk 8 fa21 ⟨true,true⟩ [O.arena 63 m0,O.arena 7 m1,O.box 59 (V.agg [V.ptr 3 0 0,V.int .i64 m2_1,V.mp 4,V.tail 5 0,V.int .i64 m2_4]) false,O.box 56 (V.agg [V.int .i64 m3_0,V.mp 6,V.tail 7 0]) false,O.map m4,O.row 3 m5 0,O.map m6,O.row 88 m7 z7] o r):icC qcfg ⟨true,true⟩ 21 [V.ptr 2 0 0] [O.arena 63 m0,O.arena 7 m1,O.box 59 (V.agg [V.ptr 3 0 0,V.int .i64 m2_1,V.mp 4,V.tail 5 0,V.int .i64 m2_4]) false,O.box 56 (V.agg [V.int .i64 m3_0,V.mp 6,V.tail 7 0]) false,O.map m4,O.row 3 m5 0,O.map m6,O.row 88 m7 z7]=some r:=icC_go qik rfl fa21_eq ((e21_eq ..).trans h) hg
noncomputable def fa20:FA:=⟨2,21,[.tmp 4],[3],
 (.seq
 (.ops false [o1 4 (.assign (.const (.int .i64 (0)))) 3])
 (.seq
 (.seq
 (.ops false [mv 5 0 27,o1 6 (.nilCheck (t' 5)) 0,o1 7 (.fieldAddr 59 (t' 6) 2) 0,o1 8 (.load 57 (t' 7)) 57,mv 9 1 3,o1 10 (.lookup 57 (t' 8) (t' 9) false) 60,o1 11 (.binOp .eql 60 (t' 10) (.const (.pointer none)) 60) 4])
 (.cond (t' 11)
 (.seq
 (.ops false [o1 4 (.assign (.const (.int .i64 (0)))) 3])
 (.ret))
 (.skip)))
 (.seq
 (.ops false [mv 12 0 27,o1 13 (.nilCheck (t' 12)) 0,o1 14 (.fieldAddr 59 (t' 13) 2) 0,o1 15 (.load 57 (t' 14)) 57,mv 16 1 3,o1 17 (.lookup 57 (t' 15) (t' 16) false) 60,o1 18 (.nilCheck (t' 17)) 0,o1 19 (.fieldAddr 63 (t' 18) 1) 0,o1 20 (.load 3 (t' 19)) 3,asg 4 20 3])
 (.ret))))⟩
theorem fa20_eq:fnA qcfg.P (qcfg.rxf 20) 20=some fa20:=by kernel_rfl
noncomputable def e20 (x1:Int) (m0 m1:List V) (m2_1 m2_4 m3_0:Int) (m4:List (V × V)) (m5:List V) (m6:List (V × V)) (m7:List V) (z7:Nat):R :=
 mfK m4 (V.int .i64 x1)
 (some (.doneM (V.int .i64 0) [O.arena 63 m0,O.arena 7 m1,O.box 59 (V.agg [V.ptr 3 0 0,V.int .i64 m2_1,V.mp 4,V.tail 5 0,V.int .i64 m2_4]) false,O.box 56 (V.agg [V.int .i64 m3_0,V.mp 6,V.tail 7 0]) false,O.map m4,O.row 3 m5 0,O.map m6,O.row 88 m7 z7])) fun r =>
  kP 63 r fun p =>
  mfK m4 (V.int .i64 x1)
 (none) fun r_1 =>
  kP 63 r_1 fun p_1 =>
  idxK m0 p_1 fun v =>
  d63 v fun s pins dirty first last =>
  some (.doneM (V.int .i64 pins) [O.arena 63 m0,O.arena 7 m1,O.box 59 (V.agg [V.ptr 3 0 0,V.int .i64 m2_1,V.mp 4,V.tail 5 0,V.int .i64 m2_4]) false,O.box 56 (V.agg [V.int .i64 m3_0,V.mp 6,V.tail 7 0]) false,O.map m4,O.row 3 m5 0,O.map m6,O.row 88 m7 z7])
theorem e20_eq (x1:Int) (m0 m1:List V) (m2_1 m2_4 m3_0:Int) (m4:List (V × V)) (m5:List V) (m6:List (V × V)) (m7:List V) (z7:Nat):enterK qk true fa20 [V.ptr 2 0 0,V.int .i64 x1] [O.arena 63 m0,O.arena 7 m1,O.box 59 (V.agg [V.ptr 3 0 0,V.int .i64 m2_1,V.mp 4,V.tail 5 0,V.int .i64 m2_4]) false,O.box 56 (V.agg [V.int .i64 m3_0,V.mp 6,V.tail 7 0]) false,O.map m4,O.row 3 m5 0,O.map m6,O.row 88 m7 z7]=e20 x1 m0 m1 m2_1 m2_4 m3_0 m4 m5 m6 m7 z7:=by kernel_rfl
theorem e20_run (x1:Int) (m0 m1:List V) (m2_1 m2_4 m3_0:Int) (m4:List (V × V)) (m5:List V) (m6:List (V × V)) (m7:List V) (z7:Nat) {o:Out} {r:V × List O} (h:e20 x1 m0 m1 m2_1 m2_4 m3_0 m4 m5 m6 m7 z7=some o) (hg:GoN qk 8 fa20 ⟨true,false⟩ [O.arena 63 m0,O.arena 7 m1,O.box 59 (V.agg [V.ptr 3 0 0,V.int .i64 m2_1,V.mp 4,V.tail 5 0,V.int .i64 m2_4]) false,O.box 56 (V.agg [V.int .i64 m3_0,V.mp 6,V.tail 7 0]) false,O.map m4,O.row 3 m5 0,O.map m6,O.row 88 m7 z7] o r):icC qcfg ⟨true,false⟩ 20 [V.ptr 2 0 0,V.int .i64 x1] [O.arena 63 m0,O.arena 7 m1,O.box 59 (V.agg [V.ptr 3 0 0,V.int .i64 m2_1,V.mp 4,V.tail 5 0,V.int .i64 m2_4]) false,O.box 56 (V.agg [V.int .i64 m3_0,V.mp 6,V.tail 7 0]) false,O.map m4,O.row 3 m5 0,O.map m6,O.row 88 m7 z7]=some r:=icC_go qik rfl fa20_eq ((e20_eq ..).trans h) hg
noncomputable def fa14:FA:=⟨1,28,[.tmp 2],[3],
 (.seq
 (.ops false [o1 2 (.assign (.const (.int .i64 (0)))) 3])
 (.seq
 (.ops false [o1 3 (.assign (.const (.int .i64 (0)))) 3])
 (.seq
 (.seq
 (.ops false [mv 6 0 27,o1 7 (.call ⟨(.value (.func 19)),#[(t' 6)],#[27]⟩) 45,o1 8 (.call ⟨(.builtin .len),#[(t' 7)],#[45]⟩) 3,o1 9 (.move (.const (.int .i64 (0)))) 3])
 (.block 0
 (.loop ([1,4,5,6]++List.range' 10 18)
 (.seq
 (.ops false [o1 10 (.binOp .lss 3 (t' 9) (t' 8) 3) 0])
 (.seq
 (.cond (t' 10)
 (.skip)
 (.exit 0))
 (.seq
 (.block 1
 (.seq
 (.ops false [o1 11 (.indexAddr 45 (t' 7) (t' 9)) 0,o1 12 (.load 3 (t' 11)) 3,asg 5 12 3])
 (.seq
 (.ops false [mv 13 0 27,mv 14 0 27,o1 15 (.nilCheck (t' 14)) 0,o1 16 (.fieldAddr 59 (t' 15) 2) 0,o1 17 (.load 57 (t' 16)) 57,mv 18 5 3,o1 19 (.lookup 57 (t' 17) (t' 18) false) 60,o1 20 (.call ⟨(.value (.func 29)),#[(t' 13),(t' 19)],#[27,60]⟩) 4])
 (.cond (t' 20)
 (.seq
 (.ops false [mv 21 0 27,mv 22 5 3,o1 23 (.call ⟨(.value (.func 30)),#[(t' 21),(t' 22)],#[27,3]⟩) 0])
 (.ops false [mv 24 3 3,o1 25 (.binOp .add 3 (t' 24) (.const (.int .i64 (1))) 3) 3,asg 3 25 3]))
 (.skip)))))
 (.ops false [o1 26 (.binOp .add 3 (t' 9) (.const (.int .i64 (1))) 3) 3,mv 9 26 3])))))))
 (.seq
 (.ops false [mv 27 3 3,asg 2 27 3])
 (.ret)))))⟩
theorem fa14_eq:fnA qcfg.P (qcfg.rxf 14) 14=some fa14:=by kernel_rfl
def T14_0 (x8 x9:Int) (m0 m1:List V) (m2_1 m2_4 m3_0:Int) (m4:List (V × V)) (m5:List V) (m6:List (V × V)) (m7:List V) (z7:Nat) (m8:List V):S:=⟨[V.ptr 2 0 0,V.junk,V.int .i64 0,V.int .i64 0,V.junk,V.junk,V.junk,V.own 8,V.int .i64 x8,V.int .i64 x9]++(JU 18),[O.arena 63 m0,O.arena 7 m1,O.box 59 (V.agg [V.ptr 3 0 0,V.int .i64 m2_1,V.mp 4,V.tail 5 0,V.int .i64 m2_4]) false,O.box 56 (V.agg [V.int .i64 m3_0,V.mp 6,V.tail 7 0]) false,O.map m4,O.row 3 m5 0,O.map m6,O.row 88 m7 z7,O.row 3 m8 0]⟩
def T14_0b (x3 x8 x9:Int) (m0 m1:List V) (m2_1 m2_4 m3_0:Int) (m4:List (V × V)) (m5:List V) (m6:List (V × V)) (m8 m9:List V) (z9:Nat):S:=⟨[V.ptr 2 0 0,V.junk,V.int .i64 0,V.int .i64 x3,V.junk,V.junk,V.junk,V.own 8,V.int .i64 x8,V.int .i64 x9]++(JU 18),[O.arena 63 m0,O.arena 7 m1,O.box 59 (V.agg [V.ptr 3 0 0,V.int .i64 m2_1,V.mp 4,V.tail 5 0,V.int .i64 m2_4]) false,O.box 56 (V.agg [V.int .i64 m3_0,V.mp 6,V.tail 9 0]) false,O.map m4,O.row 3 m5 0,O.map m6,O.dead,O.row 3 m8 0,O.row 88 m9 z9]⟩
noncomputable def e14 (m0 m1:List V) (m2_1 m2_4 m3_0:Int) (m4:List (V × V)) (m5:List V) (m6:List (V × V)) (m7:List V) (z7:Nat):R :=
 icM qcfg ⟨true,false⟩ mk19 19 [V.ptr 2 0 0] [O.arena 63 m0,O.arena 7 m1,O.box 59 (V.agg [V.ptr 3 0 0,V.int .i64 m2_1,V.mp 4,V.tail 5 0,V.int .i64 m2_4]) false,O.box 56 (V.agg [V.int .i64 m3_0,V.mp 6,V.tail 7 0]) false,O.map m4,O.row 3 m5 0,O.map m6,O.row 88 m7 z7] fun L =>
 some (.head 0 (T14_0 (L.2.2.2.2.2.2.2.2.2.2.length:Int) 0 L.1 L.2.1 L.2.2.1 L.2.2.2.1 L.2.2.2.2.1 L.2.2.2.2.2.1 L.2.2.2.2.2.2.1 L.2.2.2.2.2.2.2.1 L.2.2.2.2.2.2.2.2.1 L.2.2.2.2.2.2.2.2.2.1 L.2.2.2.2.2.2.2.2.2.2))
theorem e14_eq (m0 m1:List V) (m2_1 m2_4 m3_0:Int) (m4:List (V × V)) (m5:List V) (m6:List (V × V)) (m7:List V) (z7:Nat):enterK qk true fa14 [V.ptr 2 0 0] [O.arena 63 m0,O.arena 7 m1,O.box 59 (V.agg [V.ptr 3 0 0,V.int .i64 m2_1,V.mp 4,V.tail 5 0,V.int .i64 m2_4]) false,O.box 56 (V.agg [V.int .i64 m3_0,V.mp 6,V.tail 7 0]) false,O.map m4,O.row 3 m5 0,O.map m6,O.row 88 m7 z7]=e14 m0 m1 m2_1 m2_4 m3_0 m4 m5 m6 m7 z7:=by kernel_rfl
theorem e14_run (m0 m1:List V) (m2_1 m2_4 m3_0:Int) (m4:List (V × V)) (m5:List V) (m6:List (V × V)) (m7:List V) (z7:Nat) {o:Out} {r:V × List O} (h:e14 m0 m1 m2_1 m2_4 m3_0 m4 m5 m6 m7 z7=some o) (hg:GoN qk 8 fa14 ⟨false,false⟩ [O.arena 63 m0,O.arena 7 m1,O.box 59 (V.agg [V.ptr 3 0 0,V.int .i64 m2_1,V.mp 4,V.tail 5 0,V.int .i64 m2_4]) false,O.box 56 (V.agg [V.int .i64 m3_0,V.mp 6,V.tail 7 0]) false,O.map m4,O.row 3 m5 0,O.map m6,O.row 88 m7 z7] o r):icC qcfg ⟨false,false⟩ 14 [V.ptr 2 0 0] [O.arena 63 m0,O.arena 7 m1,O.box 59 (V.agg [V.ptr 3 0 0,V.int .i64 m2_1,V.mp 4,V.tail 5 0,V.int .i64 m2_4]) false,O.box 56 (V.agg [V.int .i64 m3_0,V.mp 6,V.tail 7 0]) false,O.map m4,O.row 3 m5 0,O.map m6,O.row 88 m7 z7]=some r:=icC_go qik rfl fa14_eq ((e14_eq ..).trans h) hg
noncomputable def s14_0 (x8 x9:Int) (m0 m1:List V) (m2_1 m2_4 m3_0:Int) (m4:List (V × V)) (m5:List V) (m6:List (V × V)) (m7:List V) (z7:Nat) (m8:List V):R :=
 cond (decide (x9 < x8))
 (gd (decide (0<=x9)) <|
  gd (decide (x9.toNat < m8.length)) <|
  idxK m8 x9.toNat fun v =>
  kI .i64 v fun n =>
  mfK m4 (V.int .i64 n)
 (none) fun r =>
  kP 63 r fun p =>
  idxK m0 p fun v_1 =>
  d63 v_1 fun s pins dirty first last =>
  cond dirty
 (idxK m0 p fun v_2 =>
  d63 v_2 fun s_1 pins_1 dirty_1 first_1 last_1 =>
  cond (decide (last_1<=m2_4))
 (mfK m4 (V.int .i64 n)
 (none) fun r_1 =>
  kP 63 r_1 fun p_1 =>
  idxK m0 p_1 fun v_3 =>
  d63 v_3 fun s_2 pins_2 dirty_2 first_2 last_2 =>
  icM qcfg ⟨false,false⟩ mk45 45 [V.ptr 2 0 0,V.int .i64 n,V.str s_2] [O.arena 63 m0,O.arena 7 m1,O.box 56 (V.agg [V.int .i64 m3_0,V.mp 3,V.tail 4 0]) false,O.map m6,O.row 88 m7 z7] fun L =>
  mfK m4 (V.int .i64 n)
 (none) fun r_2 =>
  kP 63 r_2 fun p_2 =>
  idxK L.2.1 p_2 fun v_4 =>
  d63 v_4 fun s_3 pins_3 dirty_3 first_3 last_3 =>
  some (.head 0 (T14_0b 1 x8 (W .i64 (x9+1)) ((L.2.1).set p_2 (V.agg [V.str s_3,V.int .i64 pins_3,V.bool false,V.int .i64 first_3,V.int .i64 last_3])) L.2.2.1 m2_1 m2_4 L.2.2.2.1 m4 m5 L.2.2.2.2.1 m8 L.2.2.2.2.2.1 L.2.2.2.2.2.2)))
 (some (.head 0 (T14_0 x8 (W .i64 (x9+1)) m0 m1 m2_1 m2_4 m3_0 m4 m5 m6 m7 z7 m8))))
 (some (.head 0 (T14_0 x8 (W .i64 (x9+1)) m0 m1 m2_1 m2_4 m3_0 m4 m5 m6 m7 z7 m8))))
 (some (.doneM (V.int .i64 0) [O.arena 63 m0,O.arena 7 m1,O.box 59 (V.agg [V.ptr 3 0 0,V.int .i64 m2_1,V.mp 4,V.tail 5 0,V.int .i64 m2_4]) false,O.box 56 (V.agg [V.int .i64 m3_0,V.mp 6,V.tail 7 0]) false,O.map m4,O.row 3 m5 0,O.map m6,O.row 88 m7 z7,O.row 3 m8 0]))
theorem s14_0_eq (x8 x9:Int) (m0 m1:List V) (m2_1 m2_4 m3_0:Int) (m4:List (V × V)) (m5:List V) (m6:List (V × V)) (m7:List V) (z7:Nat) (m8:List V):goK qk true 8 fa14 0 (T14_0 x8 x9 m0 m1 m2_1 m2_4 m3_0 m4 m5 m6 m7 z7 m8)=s14_0 x8 x9 m0 m1 m2_1 m2_4 m3_0 m4 m5 m6 m7 z7 m8:=by kernel_rfl
theorem s14_0_run (x8 x9:Int) (m0 m1:List V) (m2_1 m2_4 m3_0:Int) (m4:List (V × V)) (m5:List V) (m6:List (V × V)) (m7:List V) (z7:Nat) (m8:List V) {o o':Out} (h:s14_0 x8 x9 m0 m1 m2_1 m2_4 m3_0 m4 m5 m6 m7 z7 m8=some o) (hg:Go qk true 8 fa14 o o'):Go qk true 8 fa14 (.head 0 (T14_0 x8 x9 m0 m1 m2_1 m2_4 m3_0 m4 m5 m6 m7 z7 m8)) o':=.step ((s14_0_eq ..).trans h) hg
noncomputable def s14_0b (x3 x8 x9:Int) (m0 m1:List V) (m2_1 m2_4 m3_0:Int) (m4:List (V × V)) (m5:List V) (m6:List (V × V)) (m8 m9:List V) (z9:Nat):R :=
 cond (decide (x9 < x8))
 (gd (decide (0<=x9)) <|
  gd (decide (x9.toNat < m8.length)) <|
  idxK m8 x9.toNat fun v =>
  kI .i64 v fun n =>
  mfK m4 (V.int .i64 n)
 (none) fun r =>
  kP 63 r fun p =>
  idxK m0 p fun v_1 =>
  d63 v_1 fun s pins dirty first last =>
  cond dirty
 (idxK m0 p fun v_2 =>
  d63 v_2 fun s_1 pins_1 dirty_1 first_1 last_1 =>
  cond (decide (last_1<=m2_4))
 (mfK m4 (V.int .i64 n)
 (none) fun r_1 =>
  kP 63 r_1 fun p_1 =>
  idxK m0 p_1 fun v_3 =>
  d63 v_3 fun s_2 pins_2 dirty_2 first_2 last_2 =>
  icM qcfg ⟨false,false⟩ mk45 45 [V.ptr 2 0 0,V.int .i64 n,V.str s_2] [O.arena 63 m0,O.arena 7 m1,O.box 56 (V.agg [V.int .i64 m3_0,V.mp 3,V.tail 4 0]) false,O.map m6,O.row 88 m9 z9] fun L =>
  mfK m4 (V.int .i64 n)
 (none) fun r_2 =>
  kP 63 r_2 fun p_2 =>
  idxK L.2.1 p_2 fun v_4 =>
  d63 v_4 fun s_3 pins_3 dirty_3 first_3 last_3 =>
  some (.head 0 (T14_0b (W .i64 (x3+1)) x8 (W .i64 (x9+1)) ((L.2.1).set p_2 (V.agg [V.str s_3,V.int .i64 pins_3,V.bool false,V.int .i64 first_3,V.int .i64 last_3])) L.2.2.1 m2_1 m2_4 L.2.2.2.1 m4 m5 L.2.2.2.2.1 m8 L.2.2.2.2.2.1 L.2.2.2.2.2.2)))
 (some (.head 0 (T14_0b x3 x8 (W .i64 (x9+1)) m0 m1 m2_1 m2_4 m3_0 m4 m5 m6 m8 m9 z9))))
 (some (.head 0 (T14_0b x3 x8 (W .i64 (x9+1)) m0 m1 m2_1 m2_4 m3_0 m4 m5 m6 m8 m9 z9))))
 (some (.doneM (V.int .i64 x3) [O.arena 63 m0,O.arena 7 m1,O.box 59 (V.agg [V.ptr 3 0 0,V.int .i64 m2_1,V.mp 4,V.tail 5 0,V.int .i64 m2_4]) false,O.box 56 (V.agg [V.int .i64 m3_0,V.mp 6,V.tail 9 0]) false,O.map m4,O.row 3 m5 0,O.map m6,O.dead,O.row 3 m8 0,O.row 88 m9 z9]))
theorem s14_0b_eq (x3 x8 x9:Int) (m0 m1:List V) (m2_1 m2_4 m3_0:Int) (m4:List (V × V)) (m5:List V) (m6:List (V × V)) (m8 m9:List V) (z9:Nat):goK qk true 8 fa14 0 (T14_0b x3 x8 x9 m0 m1 m2_1 m2_4 m3_0 m4 m5 m6 m8 m9 z9)=s14_0b x3 x8 x9 m0 m1 m2_1 m2_4 m3_0 m4 m5 m6 m8 m9 z9:=by kernel_rfl
theorem s14_0b_run (x3 x8 x9:Int) (m0 m1:List V) (m2_1 m2_4 m3_0:Int) (m4:List (V × V)) (m5:List V) (m6:List (V × V)) (m8 m9:List V) (z9:Nat) {o o':Out} (h:s14_0b x3 x8 x9 m0 m1 m2_1 m2_4 m3_0 m4 m5 m6 m8 m9 z9=some o) (hg:Go qk true 8 fa14 o o'):Go qk true 8 fa14 (.head 0 (T14_0b x3 x8 x9 m0 m1 m2_1 m2_4 m3_0 m4 m5 m6 m8 m9 z9)) o':=.step ((s14_0b_eq ..).trans h) hg
noncomputable def fa25:FA:=⟨1,60,[.tmp 2],[24],
 (.seq
 (.ops false [o1 1 (.box 27 (t' 0)) 0,o1 2 (.assign (.const (.int .i64 (0)))) 24])
 (.seq
 (.seq
 (.ops true [o1 6 (.load 27 (t' 1)) 27,o1 7 (.nilCheck (t' 6)) 0,o1 8 (.fieldAddr 59 (t' 7) 2) 0,o1 9 (.load 57 (t' 8)) 57,o1 10 (.call ⟨(.builtin .len),#[(t' 9)],#[57]⟩) 3,o1 11 (.load 27 (t' 1)) 27,o1 12 (.nilCheck (t' 11)) 0,o1 13 (.fieldAddr 59 (t' 12) 1) 0,o1 14 (.load 3 (t' 13)) 3,o1 15 (.binOp .lss 3 (t' 10) (t' 14) 3) 4])
 (.cond (t' 15)
 (.seq
 (.ops false [o1 2 (.assign (.const (.int .i64 (0)))) 24])
 (.ret))
 (.skip)))
 (.seq
 (.ops false [o1 16 (.makeFunc (.func 41) #[] #[(t' 1)]) 69,asg 3 16 69])
 (.seq
 (.ops false [o1 17 (.load 27 (t' 1)) 27,o1 18 (.nilCheck (t' 17)) 0,o1 19 (.fieldAddr 59 (t' 18) 3) 0,o1 20 (.load 45 (t' 19)) 45,mv 21 3 69,o1 22 (.call ⟨(.value (.func 42)),#[(t' 20),(t' 21)],#[45,69]⟩) 3,asg 4 22 3])
 (.seq
 (.seq
 (.ops false [mv 23 4 3,o1 24 (.binOp .lss 3 (t' 23) (.const (.int .i64 (0))) 3) 4])
 (.cond (t' 24)
 (.seq
 (.ops false [o1 2 (.assign (.const (.int .i64 (6)))) 24])
 (.ret))
 (.skip)))
 (.seq
 (.ops false [o1 25 (.load 27 (t' 1)) 27,o1 26 (.nilCheck (t' 25)) 0,o1 27 (.fieldAddr 59 (t' 26) 3) 0,o1 28 (.load 45 (t' 27)) 45,mv 29 4 3,o1 30 (.indexAddr 45 (t' 28) (t' 29)) 0,o1 31 (.load 3 (t' 30)) 3,asg 5 31 3])
 (.seq
 (.seq
 (.ops false [o1 32 (.load 27 (t' 1)) 27,o1 33 (.nilCheck (t' 32)) 0,o1 34 (.fieldAddr 59 (t' 33) 2) 0,o1 35 (.load 57 (t' 34)) 57,mv 36 5 3,o1 37 (.lookup 57 (t' 35) (t' 36) false) 60,o1 38 (.nilCheck (t' 37)) 0,o1 39 (.fieldAddr 63 (t' 38) 2) 0,o1 40 (.load 4 (t' 39)) 4])
 (.cond (t' 40)
 (.ops false [o1 41 (.load 27 (t' 1)) 27,mv 42 5 3,o1 43 (.call ⟨(.value (.func 30)),#[(t' 41),(t' 42)],#[27,3]⟩) 0])
 (.skip)))
 (.seq
 (.ops false [o1 44 (.load 27 (t' 1)) 27,o1 45 (.nilCheck (t' 44)) 0,o1 46 (.fieldAddr 59 (t' 45) 2) 0,o1 47 (.load 57 (t' 46)) 57,mv 48 5 3,o0 (.call ⟨(.builtin .delete),#[(t' 47),(t' 48)],#[57,3]⟩) 0])
 (.seq
 (.ops true [⟨(some 49),.load 27 (t' 1),27,none,true,false,false⟩,⟨(some 50),.load 27 (t' 1),27,none,true,false,false⟩,o1 51 (.nilCheck (t' 50)) 0,o1 52 (.fieldAddr 59 (t' 51) 3) 0,⟨(some 53),.load 45 (t' 52),45,none,true,false,false⟩,mv 54 4 3,mv 55 4 3,o1 56 (.binOp .add 3 (t' 55) (.const (.int .i64 (1))) 3) 3,⟨(some 57),.call ⟨(.value (.func 43)),#[(t' 53),(t' 54),(t' 56)],#[45,3,3]⟩,45,none,true,false,false⟩,o1 58 (.nilCheck (t' 49)) 0,o1 59 (.fieldAddr 59 (t' 58) 3) 0,o0 (.store 45 (t' 59) (t' 57)) 0])
 (.seq
 (.ops false [o1 2 (.assign (.const (.int .i64 (0)))) 24])
 (.ret)))))))))))⟩
theorem fa25_eq:fnA qcfg.P (qcfg.rxf 25) 25=some fa25:=by kernel_rfl
noncomputable def e25 (m0 m1:List V) (m2_1 m2_4 m3_0:Int) (m4:List (V × V)) (m5:List V) (m6:List (V × V)) (m7:List V) (z7:Nat):R :=
 cond (decide ((m4.length:Int) < m2_1))
 (some (.doneM (V.int .i64 0) [O.arena 63 m0,O.arena 7 m1,O.box 59 (V.agg [V.ptr 3 0 0,V.int .i64 m2_1,V.mp 4,V.tail 5 0,V.int .i64 m2_4]) false,O.box 56 (V.agg [V.int .i64 m3_0,V.mp 6,V.tail 7 0]) false,O.map m4,O.row 3 m5 0,O.map m6,O.row 88 m7 z7,O.box 27 (V.ptr 2 0 0) false]))
 (icM qcfg ⟨true,false⟩ mk42 42 [V.tail 2 0,V.fn 41 [V.ptr 3 0 0]] [O.arena 63 m0,O.arena 7 m1,O.row 3 m5 0,O.box 27 (V.ptr 4 0 0) false,O.box 59 (V.agg [V.ptr 5 0 0,V.int .i64 m2_1,V.mp 6,V.tail 2 0,V.int .i64 m2_4]) false,O.box 56 (V.agg [V.int .i64 m3_0,V.mp 7,V.tail 8 0]) false,O.map m4,O.map m6,O.row 88 m7 z7] fun L =>
  cond (decide (L.1 < 0))
 (some (.doneM (V.int .i64 6) [O.arena 63 L.2.1,O.arena 7 L.2.2.1,O.box 59 (V.agg [V.ptr 3 0 0,V.int .i64 L.2.2.2.2.1,V.mp 4,V.tail 5 0,V.int .i64 L.2.2.2.2.2.1]) false,O.box 56 (V.agg [V.int .i64 L.2.2.2.2.2.2.1,V.mp 6,V.tail 7 0]) false,O.map L.2.2.2.2.2.2.2.1,O.row 3 L.2.2.2.1 0,O.map L.2.2.2.2.2.2.2.2.1,O.row 88 L.2.2.2.2.2.2.2.2.2.1 L.2.2.2.2.2.2.2.2.2.2,O.box 27 (V.ptr 2 0 0) false]))
 (gd (decide (0<=L.1)) <|
  gd (decide (L.1.toNat < L.2.2.2.1.length)) <|
  idxK L.2.2.2.1 (0+L.1.toNat) fun v =>
  kI .i64 v fun n =>
  mfK L.2.2.2.2.2.2.2.1 (V.int .i64 n)
 (none) fun r =>
  kP 63 r fun p =>
  idxK L.2.1 p fun v_1 =>
  d63 v_1 fun s pins dirty first last =>
  cond dirty
 (mfK L.2.2.2.2.2.2.2.1 (V.int .i64 n)
 (none) fun r_1 =>
  kP 63 r_1 fun p_1 =>
  idxK L.2.1 p_1 fun v_2 =>
  d63 v_2 fun s_1 pins_1 dirty_1 first_1 last_1 =>
  icM qcfg ⟨false,false⟩ mk45 45 [V.ptr 2 0 0,V.int .i64 n,V.str s_1] [O.arena 63 L.2.1,O.arena 7 L.2.2.1,O.box 56 (V.agg [V.int .i64 L.2.2.2.2.2.2.1,V.mp 3,V.tail 4 0]) false,O.map L.2.2.2.2.2.2.2.2.1,O.row 88 L.2.2.2.2.2.2.2.2.2.1 L.2.2.2.2.2.2.2.2.2.2] fun L_1 =>
  mfK L.2.2.2.2.2.2.2.1 (V.int .i64 n)
 (none) fun r_2 =>
  kP 63 r_2 fun p_2 =>
  idxK L_1.2.1 p_2 fun v_3 =>
  d63 v_3 fun s_2 pins_2 dirty_2 first_2 last_2 =>
  opt (mapDel L.2.2.2.2.2.2.2.1 (V.int .i64 n)) fun es =>
  gd (decide (0<=L.1/\L.1<=W .i64 (L.1+1)/\(W .i64 (L.1+1)).toNat<=L.2.2.2.1.length/\L.2.2.2.1.length<=16777216)) <|
  some (.doneM (V.int .i64 0) [O.arena 63 ((L_1.2.1).set p_2 (V.agg [V.str s_2,V.int .i64 pins_2,V.bool false,V.int .i64 first_2,V.int .i64 last_2])),O.arena 7 L_1.2.2.1,O.box 59 (V.agg [V.ptr 3 0 0,V.int .i64 L.2.2.2.2.1,V.mp 4,V.tail 10 0,V.int .i64 L.2.2.2.2.2.1]) false,O.box 56 (V.agg [V.int .i64 L_1.2.2.2.1,V.mp 6,V.tail 9 0]) false,O.map es,O.dead,O.map L_1.2.2.2.2.1,O.dead,O.box 27 (V.ptr 2 0 0) false,O.row 88 L_1.2.2.2.2.2.1 L_1.2.2.2.2.2.2,O.row 3 ((L.2.2.2.1.take L.1.toNat)++(L.2.2.2.1.drop ((W .i64 (L.1+1)).toNat))) 0]))
 (opt (mapDel L.2.2.2.2.2.2.2.1 (V.int .i64 n)) fun es_1 =>
  gd (decide (0<=L.1/\L.1<=W .i64 (L.1+1)/\(W .i64 (L.1+1)).toNat<=L.2.2.2.1.length/\L.2.2.2.1.length<=16777216)) <|
  some (.doneM (V.int .i64 0) [O.arena 63 L.2.1,O.arena 7 L.2.2.1,O.box 59 (V.agg [V.ptr 3 0 0,V.int .i64 L.2.2.2.2.1,V.mp 4,V.tail 9 0,V.int .i64 L.2.2.2.2.2.1]) false,O.box 56 (V.agg [V.int .i64 L.2.2.2.2.2.2.1,V.mp 6,V.tail 7 0]) false,O.map es_1,O.dead,O.map L.2.2.2.2.2.2.2.2.1,O.row 88 L.2.2.2.2.2.2.2.2.2.1 L.2.2.2.2.2.2.2.2.2.2,O.box 27 (V.ptr 2 0 0) false,O.row 3 ((L.2.2.2.1.take L.1.toNat)++(L.2.2.2.1.drop ((W .i64 (L.1+1)).toNat))) 0]))))
theorem e25_eq (m0 m1:List V) (m2_1 m2_4 m3_0:Int) (m4:List (V × V)) (m5:List V) (m6:List (V × V)) (m7:List V) (z7:Nat):enterK qk true fa25 [V.ptr 2 0 0] [O.arena 63 m0,O.arena 7 m1,O.box 59 (V.agg [V.ptr 3 0 0,V.int .i64 m2_1,V.mp 4,V.tail 5 0,V.int .i64 m2_4]) false,O.box 56 (V.agg [V.int .i64 m3_0,V.mp 6,V.tail 7 0]) false,O.map m4,O.row 3 m5 0,O.map m6,O.row 88 m7 z7]=e25 m0 m1 m2_1 m2_4 m3_0 m4 m5 m6 m7 z7:=by kernel_rfl
theorem e25_run (m0 m1:List V) (m2_1 m2_4 m3_0:Int) (m4:List (V × V)) (m5:List V) (m6:List (V × V)) (m7:List V) (z7:Nat) {o:Out} {r:V × List O} (h:e25 m0 m1 m2_1 m2_4 m3_0 m4 m5 m6 m7 z7=some o) (hg:GoN qk 8 fa25 ⟨false,false⟩ [O.arena 63 m0,O.arena 7 m1,O.box 59 (V.agg [V.ptr 3 0 0,V.int .i64 m2_1,V.mp 4,V.tail 5 0,V.int .i64 m2_4]) false,O.box 56 (V.agg [V.int .i64 m3_0,V.mp 6,V.tail 7 0]) false,O.map m4,O.row 3 m5 0,O.map m6,O.row 88 m7 z7] o r):icC qcfg ⟨false,false⟩ 25 [V.ptr 2 0 0] [O.arena 63 m0,O.arena 7 m1,O.box 59 (V.agg [V.ptr 3 0 0,V.int .i64 m2_1,V.mp 4,V.tail 5 0,V.int .i64 m2_4]) false,O.box 56 (V.agg [V.int .i64 m3_0,V.mp 6,V.tail 7 0]) false,O.map m4,O.row 3 m5 0,O.map m6,O.row 88 m7 z7]=some r:=icC_go qik rfl fa25_eq ((e25_eq ..).trans h) hg
noncomputable def fa26:FA:=⟨2,23,[],[],
 (.seq
 (.ops false [o1 3 (.box 3 (t' 1)) 0])
 (.seq
 (.ops false [mv 4 0 27,mv 5 0 27,o1 6 (.nilCheck (t' 5)) 0,o1 7 (.fieldAddr 59 (t' 6) 3) 0,o1 8 (.load 45 (t' 7)) 45,o1 9 (.makeFunc (.func 44) #[] #[(t' 3)]) 69,o1 10 (.call ⟨(.value (.func 39)),#[(t' 8),(t' 9)],#[45,69]⟩) 45,o1 11 (.nilCheck (t' 4)) 0,o1 12 (.fieldAddr 59 (t' 11) 3) 0,o0 (.store 45 (t' 12) (t' 10)) 0])
 (.ops true [mv 13 0 27,mv 14 0 27,o1 15 (.nilCheck (t' 14)) 0,o1 16 (.fieldAddr 59 (t' 15) 3) 0,⟨(some 17),.load 45 (t' 16),45,none,true,false,false⟩,⟨(some 18),.load 3 (t' 3),3,none,true,false,false⟩,⟨(some 19),.buildSlice 45 1 #[(0,(t' 18))],45,none,true,false,false⟩,o1 20 (.call ⟨(.builtin .append),#[(t' 17),(t' 19)],#[45,45]⟩) 45,o1 21 (.nilCheck (t' 13)) 0,o1 22 (.fieldAddr 59 (t' 21) 3) 0,o0 (.store 45 (t' 22) (t' 20)) 0])))⟩
theorem fa26_eq:fnA qcfg.P (qcfg.rxf 26) 26=some fa26:=by kernel_rfl
noncomputable def e26 (x1:Int) (m0 m1:List V) (m2_1 m2_4 m3_0:Int) (m4:List (V × V)) (m5:List V) (m6:List (V × V)) (m7:List V) (z7:Nat):R :=
 icM qcfg ⟨true,true⟩ mk39b 39 [V.tail 2 0,V.fn 44 [V.ptr 3 0 0]] [O.arena 63 m0,O.arena 7 m1,O.row 3 m5 0,O.box 3 (V.int .i64 x1) false] fun L =>
 gd (decide (0+L.1<=L.2.2.2.1.length)) <|
 gd (decide (L.1+([V.int .i64 L.2.2.2.2]:List V).length<=16777216)) <|
 some (.doneM (V.tup []) [O.arena 63 L.2.1,O.arena 7 L.2.2.1,O.box 59 (V.agg [V.ptr 3 0 0,V.int .i64 m2_1,V.mp 4,V.tail 9 0,V.int .i64 m2_4]) false,O.box 56 (V.agg [V.int .i64 m3_0,V.mp 6,V.tail 7 0]) false,O.map m4,O.dead,O.map m6,O.row 88 m7 z7,O.box 3 (V.int .i64 L.2.2.2.2) false,O.row 3 (((L.2.2.2.1.drop 0).take L.1)++[V.int .i64 L.2.2.2.2]) 0])
theorem e26_eq (x1:Int) (m0 m1:List V) (m2_1 m2_4 m3_0:Int) (m4:List (V × V)) (m5:List V) (m6:List (V × V)) (m7:List V) (z7:Nat):enterK qk true fa26 [V.ptr 2 0 0,V.int .i64 x1] [O.arena 63 m0,O.arena 7 m1,O.box 59 (V.agg [V.ptr 3 0 0,V.int .i64 m2_1,V.mp 4,V.tail 5 0,V.int .i64 m2_4]) false,O.box 56 (V.agg [V.int .i64 m3_0,V.mp 6,V.tail 7 0]) false,O.map m4,O.row 3 m5 0,O.map m6,O.row 88 m7 z7]=e26 x1 m0 m1 m2_1 m2_4 m3_0 m4 m5 m6 m7 z7:=by kernel_rfl
theorem e26_run (x1:Int) (m0 m1:List V) (m2_1 m2_4 m3_0:Int) (m4:List (V × V)) (m5:List V) (m6:List (V × V)) (m7:List V) (z7:Nat) {o:Out} {r:V × List O} (h:e26 x1 m0 m1 m2_1 m2_4 m3_0 m4 m5 m6 m7 z7=some o) (hg:GoN qk 8 fa26 ⟨false,false⟩ [O.arena 63 m0,O.arena 7 m1,O.box 59 (V.agg [V.ptr 3 0 0,V.int .i64 m2_1,V.mp 4,V.tail 5 0,V.int .i64 m2_4]) false,O.box 56 (V.agg [V.int .i64 m3_0,V.mp 6,V.tail 7 0]) false,O.map m4,O.row 3 m5 0,O.map m6,O.row 88 m7 z7] o r):icC qcfg ⟨false,false⟩ 26 [V.ptr 2 0 0,V.int .i64 x1] [O.arena 63 m0,O.arena 7 m1,O.box 59 (V.agg [V.ptr 3 0 0,V.int .i64 m2_1,V.mp 4,V.tail 5 0,V.int .i64 m2_4]) false,O.box 56 (V.agg [V.int .i64 m3_0,V.mp 6,V.tail 7 0]) false,O.map m4,O.row 3 m5 0,O.map m6,O.row 88 m7 z7]=some r:=icC_go qik rfl fa26_eq ((e26_eq ..).trans h) hg
noncomputable def fa33:FA:=⟨2,27,[.cell 4 9],[9],
 (.seq
 (.ops false [o1 3 (.box 3 (t' 1)) 0,o1 4 (.alloc 9) 0])
 (.seq
 (.seq
 (.ops false [mv 7 0 23,o1 8 (.load 3 (t' 3)) 3,o1 9 (.call ⟨(.value (.func 31)),#[(t' 7),(t' 8)],#[23,3]⟩) 4,o1 10 (.unOp .not 4 (t' 9)) 4])
 (.cond (t' 10)
 (.seq
 (.ops false [o0 (.store 9 (t' 4) (.const (.string ⟨⟨[]⟩⟩))) 0])
 (.ret))
 (.skip)))
 (.seq
 (.seq
 (.ops false [mv 11 0 23,o1 12 (.nilCheck (t' 11)) 0,o1 13 (.fieldAddr 56 (t' 12) 2) 0,o1 14 (.load 54 (t' 13)) 54,o1 15 (.call ⟨(.value (.func 48)),#[(t' 14)],#[54]⟩) 85])
 (.block 0
 (.seq
 (.start 15)
 (.block 1000015
 (.loop ([1,2]++List.range' 5 10++List.range' 16 11)
 (.uncons 15 [16,17] ([16,17,6]++List.range' 18 6)
 (.seq
 (.ops false [o1 6 (.alloc 88) 0,o0 (.store 88 (t' 6) (t' 17)) 0])
 (.block 1
 (.seq
 (.ops false [o1 18 (.fieldAddr 88 (t' 6) 0) 0,o1 19 (.load 3 (t' 18)) 3,o1 20 (.load 3 (t' 3)) 3,o1 21 (.binOp .eql 3 (t' 19) (t' 20) 3) 4])
 (.cond (t' 21)
 (.seq
 (.ops false [o1 22 (.fieldAddr 88 (t' 6) 1) 0,o1 23 (.load 9 (t' 22)) 9,o0 (.store 9 (t' 4) (t' 23)) 0])
 (.ret))
 (.skip)))))
 (.exit 1000015)))))))
 (.seq
 (.ops false [mv 24 0 23,o1 25 (.load 3 (t' 3)) 3,o1 26 (.call ⟨(.value (.func 49)),#[(t' 24),(t' 25)],#[23,3]⟩) 9,o0 (.store 9 (t' 4) (t' 26)) 0])
 (.ret)))))⟩
theorem fa33_eq:fnA qcfg.P (qcfg.rxf 33) 33=some fa33:=by kernel_rfl
def T33_0 (x15 m0 m1:List V) (m2_0:Int) (m3:List (V × V)) (m4:List V) (z4:Nat) (m5:Int):S:=⟨[V.ptr 2 0 0,V.junk,V.junk,V.ptr 5 0 0,V.ptr 6 0 0]++(JU 10)++[V.rest [3,88] x15]++(JU 11),[O.arena 63 m0,O.arena 7 m1,O.box 56 (V.agg [V.int .i64 m2_0,V.mp 3,V.tail 4 0]) false,O.map m3,O.row 88 m4 z4,O.box 3 (V.int .i64 m5) false,O.box 9 (V.str []) false]⟩
noncomputable def e33 (x1:Int) (m0 m1:List V) (m2_0:Int) (m3:List (V × V)) (m4:List V) (z4:Nat):R :=
 cond (decide (x1 ≥ 0))
 (cond (!(decide (x1 < m2_0)))
 (some (.doneM (V.str []) [O.arena 63 m0,O.arena 7 m1,O.box 56 (V.agg [V.int .i64 m2_0,V.mp 3,V.tail 4 0]) false,O.map m3,O.row 88 m4 z4,O.box 3 (V.int .i64 x1) false,O.box 9 (V.str []) false]))
 (opt (backP [V.ref (V.sl m4) 0]) fun rs =>
  some (.head 0 (T33_0 (rs.map V.tup) m0 m1 m2_0 m3 m4 m4.length x1))))
 (some (.doneM (V.str []) [O.arena 63 m0,O.arena 7 m1,O.box 56 (V.agg [V.int .i64 m2_0,V.mp 3,V.tail 4 0]) false,O.map m3,O.row 88 m4 z4,O.box 3 (V.int .i64 x1) false,O.box 9 (V.str []) false]))
theorem e33_eq (x1:Int) (m0 m1:List V) (m2_0:Int) (m3:List (V × V)) (m4:List V) (z4:Nat):enterK qk true fa33 [V.ptr 2 0 0,V.int .i64 x1] [O.arena 63 m0,O.arena 7 m1,O.box 56 (V.agg [V.int .i64 m2_0,V.mp 3,V.tail 4 0]) false,O.map m3,O.row 88 m4 z4]=e33 x1 m0 m1 m2_0 m3 m4 z4:=by kernel_rfl
theorem e33_run (x1:Int) (m0 m1:List V) (m2_0:Int) (m3:List (V × V)) (m4:List V) (z4:Nat) {o:Out} {r:V × List O} (h:e33 x1 m0 m1 m2_0 m3 m4 z4=some o) (hg:GoN qk 5 fa33 ⟨true,false⟩ [O.arena 63 m0,O.arena 7 m1,O.box 56 (V.agg [V.int .i64 m2_0,V.mp 3,V.tail 4 0]) false,O.map m3,O.row 88 m4 z4] o r):icC qcfg ⟨true,false⟩ 33 [V.ptr 2 0 0,V.int .i64 x1] [O.arena 63 m0,O.arena 7 m1,O.box 56 (V.agg [V.int .i64 m2_0,V.mp 3,V.tail 4 0]) false,O.map m3,O.row 88 m4 z4]=some r:=icC_go qik rfl fa33_eq ((e33_eq ..).trans h) hg
noncomputable def s33_0 (x15 m0 m1:List V) (m2_0:Int) (m3:List (V × V)) (m4:List V) (z4:Nat) (m5:Int):R :=
 restK x15
 (mfK m3 (V.int .i64 m5)
 (pcK qcfg 57 [] fun r_1 =>
  kS r_1 fun r57 =>
  some (.doneM (V.str r57) [O.arena 63 m0,O.arena 7 m1,O.box 56 (V.agg [V.int .i64 m2_0,V.mp 3,V.tail 4 0]) false,O.map m3,O.row 88 m4 z4,O.box 3 (V.int .i64 m5) false,O.box 9 (V.str r57) false])) fun r =>
  kS r fun s =>
  some (.doneM (V.str s) [O.arena 63 m0,O.arena 7 m1,O.box 56 (V.agg [V.int .i64 m2_0,V.mp 3,V.tail 4 0]) false,O.map m3,O.row 88 m4 z4,O.box 3 (V.int .i64 m5) false,O.box 9 (V.str s) false])) fun x0 l =>
  kT x0 fun vs=>unc vs fun c vs=>kI .i64 c fun n =>
  unc vs fun c_1 vs=>d88 c_1 fun page raw =>
  unn vs<|cond (page==m5)
 (some (.doneM (V.str raw) [O.arena 63 m0,O.arena 7 m1,O.box 56 (V.agg [V.int .i64 m2_0,V.mp 3,V.tail 4 0]) false,O.map m3,O.row 88 m4 z4,O.box 3 (V.int .i64 m5) false,O.box 9 (V.str raw) false]))
 (some (.head 0 (T33_0 l m0 m1 m2_0 m3 m4 z4 m5)))
theorem s33_0_eq (x15 m0 m1:List V) (m2_0:Int) (m3:List (V × V)) (m4:List V) (z4:Nat) (m5:Int):goK qk true 5 fa33 0 (T33_0 x15 m0 m1 m2_0 m3 m4 z4 m5)=s33_0 x15 m0 m1 m2_0 m3 m4 z4 m5:=by kernel_rfl
theorem s33_0_run (x15 m0 m1:List V) (m2_0:Int) (m3:List (V × V)) (m4:List V) (z4:Nat) (m5:Int) {o o':Out} (h:s33_0 x15 m0 m1 m2_0 m3 m4 z4 m5=some o) (hg:Go qk true 5 fa33 o o'):Go qk true 5 fa33 (.head 0 (T33_0 x15 m0 m1 m2_0 m3 m4 z4 m5)) o':=.step ((s33_0_eq ..).trans h) hg
noncomputable def fa39:FA:=⟨2,42,[.tmp 4],[45],
 (.seq
 (.ops false [o1 4 (.assign (.const (.slice none 0 0))) 45])
 (.seq
 (.ops false [mv 8 0 45,mv 9 1 69,o1 10 (.call ⟨(.value (.func 42)),#[(t' 8),(t' 9)],#[45,69]⟩) 3,asg 5 10 3])
 (.seq
 (.seq
 (.ops false [mv 11 5 3,o1 12 (.binOp .eql 3 (t' 11) (.const (.int .i64 (-1))) 3) 4])
 (.cond (t' 12)
 (.seq
 (.ops false [mv 13 0 45,asg 4 13 45])
 (.ret))
 (.skip)))
 (.seq
 (.seq
 (.ops false [mv 14 5 3,o1 15 (.binOp .add 3 (t' 14) (.const (.int .i64 (1))) 3) 3,asg 6 15 3])
 (.block 0
 (.loop ([2,3]++List.range' 7 35)
 (.seq
 (.seq
 (.ops false [mv 16 6 3,mv 17 0 45,o1 18 (.call ⟨(.builtin .len),#[(t' 17)],#[45]⟩) 3,o1 19 (.binOp .lss 3 (t' 16) (t' 18) 3) 4])
 (.cond (t' 19)
 (.skip)
 (.exit 0)))
 (.seq
 (.block 1
 (.seq
 (.ops false [mv 22 0 45,mv 23 6 3,o1 24 (.indexAddr 45 (t' 22) (t' 23)) 0,o1 25 (.load 3 (t' 24)) 3,asg 7 25 3])
 (.seq
 (.ops false [mv 26 1 69,mv 27 7 3,o1 28 (.call ⟨(.value (t' 26)),#[(t' 27)],#[3]⟩) 4,o1 29 (.unOp .not 4 (t' 28)) 4])
 (.cond (t' 29)
 (.seq
 (.ops false [mv 30 0 45,mv 31 5 3,mv 32 7 3,o1 33 (.indexAddr 45 (t' 30) (t' 31)) 0,o0 (.store 3 (t' 33) (t' 32)) 0])
 (.ops false [mv 34 5 3,o1 35 (.binOp .add 3 (t' 34) (.const (.int .i64 (1))) 3) 3,asg 5 35 3]))
 (.skip)))))
 (.ops false [mv 20 6 3,o1 21 (.binOp .add 3 (t' 20) (.const (.int .i64 (1))) 3) 3,asg 6 21 3]))))))
 (.seq
 (.ops false [mv 36 0 45,mv 37 5 3,o1 38 (.slice 45 (t' 36) (some (t' 37)) none none) 45,o0 (.call ⟨(.builtin .clear),#[(t' 38)],#[45]⟩) 0])
 (.seq
 (.ops false [mv 39 0 45,mv 40 5 3,o1 41 (.slice 45 (t' 39) none (some (t' 40)) none) 45,asg 4 41 45])
 (.ret)))))))⟩
theorem fa39_eq:fnA qcfg.P (qcfg.rxf 39) 39=some fa39:=by kernel_rfl
def T39_0 (x5 x6:Int) (m0 m1 m2:List V) (m4_1 m4_4 m5_0:Int) (m6:List (V × V)) (m7:List V) (m8:List (V × V)) (m9:List V) (z9:Nat):S:=⟨[V.own 2,V.fn 40 [V.ptr 3 0 0],V.junk,V.junk,V.own 10,V.int .i64 x5,V.int .i64 x6]++(JU 35),[O.arena 63 m0,O.arena 7 m1,O.row 3 m2 0,O.box 27 (V.ptr 4 0 0) false,O.box 59 (V.agg [V.ptr 5 0 0,V.int .i64 m4_1,V.mp 6,V.tail 7 0,V.int .i64 m4_4]) false,O.box 56 (V.agg [V.int .i64 m5_0,V.mp 8,V.tail 9 0]) false,O.map m6,O.row 3 m7 0,O.map m8,O.row 88 m9 z9,O.row 3 [] 0]⟩
noncomputable def e39 (m0 m1 m2:List V) (m4_1 m4_4 m5_0:Int) (m6:List (V × V)) (m7:List V) (m8:List (V × V)) (m9:List V) (z9:Nat):R :=
 icM qcfg ⟨true,false⟩ mk42b 42 [V.own 2,V.fn 40 [V.ptr 3 0 0]] [O.arena 63 m0,O.arena 7 m1,O.row 3 m2 0,O.box 27 (V.ptr 4 0 0) false,O.box 59 (V.agg [V.ptr 5 0 0,V.int .i64 m4_1,V.mp 6,V.tail 7 0,V.int .i64 m4_4]) false,O.box 56 (V.agg [V.int .i64 m5_0,V.mp 8,V.tail 9 0]) false,O.map m6,O.row 3 m7 0,O.map m8,O.row 88 m9 z9] fun L =>
 cond (L.1==((-1):Int))
 (some (.doneM (V.own 2) [O.arena 63 L.2.1,O.arena 7 L.2.2.1,O.row 3 L.2.2.2.1 0,O.box 27 (V.ptr 4 0 0) false,O.box 59 (V.agg [V.ptr 5 0 0,V.int .i64 L.2.2.2.2.1,V.mp 6,V.tail 7 0,V.int .i64 L.2.2.2.2.2.1]) false,O.box 56 (V.agg [V.int .i64 L.2.2.2.2.2.2.1,V.mp 8,V.tail 9 0]) false,O.map L.2.2.2.2.2.2.2.1,O.row 3 L.2.2.2.2.2.2.2.2.1 0,O.map L.2.2.2.2.2.2.2.2.2.1,O.row 88 L.2.2.2.2.2.2.2.2.2.2.1 L.2.2.2.2.2.2.2.2.2.2.2,O.row 3 [] 0]))
 (some (.head 0 (T39_0 L.1 (W .i64 (L.1+1)) L.2.1 L.2.2.1 L.2.2.2.1 L.2.2.2.2.1 L.2.2.2.2.2.1 L.2.2.2.2.2.2.1 L.2.2.2.2.2.2.2.1 L.2.2.2.2.2.2.2.2.1 L.2.2.2.2.2.2.2.2.2.1 L.2.2.2.2.2.2.2.2.2.2.1 L.2.2.2.2.2.2.2.2.2.2.2)))
theorem e39_eq (m0 m1 m2:List V) (m4_1 m4_4 m5_0:Int) (m6:List (V × V)) (m7:List V) (m8:List (V × V)) (m9:List V) (z9:Nat):enterK qk true fa39 [V.own 2,V.fn 40 [V.ptr 3 0 0]] [O.arena 63 m0,O.arena 7 m1,O.row 3 m2 0,O.box 27 (V.ptr 4 0 0) false,O.box 59 (V.agg [V.ptr 5 0 0,V.int .i64 m4_1,V.mp 6,V.tail 7 0,V.int .i64 m4_4]) false,O.box 56 (V.agg [V.int .i64 m5_0,V.mp 8,V.tail 9 0]) false,O.map m6,O.row 3 m7 0,O.map m8,O.row 88 m9 z9]=e39 m0 m1 m2 m4_1 m4_4 m5_0 m6 m7 m8 m9 z9:=by kernel_rfl
theorem e39_run (m0 m1 m2:List V) (m4_1 m4_4 m5_0:Int) (m6:List (V × V)) (m7:List V) (m8:List (V × V)) (m9:List V) (z9:Nat) {o:Out} {r:V × List O} (h:e39 m0 m1 m2 m4_1 m4_4 m5_0 m6 m7 m8 m9 z9=some o) (hg:GoN qk 10 fa39 ⟨true,true⟩ [O.arena 63 m0,O.arena 7 m1,O.row 3 m2 0,O.box 27 (V.ptr 4 0 0) false,O.box 59 (V.agg [V.ptr 5 0 0,V.int .i64 m4_1,V.mp 6,V.tail 7 0,V.int .i64 m4_4]) false,O.box 56 (V.agg [V.int .i64 m5_0,V.mp 8,V.tail 9 0]) false,O.map m6,O.row 3 m7 0,O.map m8,O.row 88 m9 z9] o r):icC qcfg ⟨true,true⟩ 39 [V.own 2,V.fn 40 [V.ptr 3 0 0]] [O.arena 63 m0,O.arena 7 m1,O.row 3 m2 0,O.box 27 (V.ptr 4 0 0) false,O.box 59 (V.agg [V.ptr 5 0 0,V.int .i64 m4_1,V.mp 6,V.tail 7 0,V.int .i64 m4_4]) false,O.box 56 (V.agg [V.int .i64 m5_0,V.mp 8,V.tail 9 0]) false,O.map m6,O.row 3 m7 0,O.map m8,O.row 88 m9 z9]=some r:=icC_go qik rfl fa39_eq ((e39_eq ..).trans h) hg
noncomputable def s39_0 (x5 x6:Int) (m0 m1 m2:List V) (m4_1 m4_4 m5_0:Int) (m6:List (V × V)) (m7:List V) (m8:List (V × V)) (m9:List V) (z9:Nat):R :=
 cond (decide (x6 < (m2.length:Int)))
 (gd (decide (0<=x6)) <|
  gd (decide (x6.toNat < m2.length)) <|
  idxK m2 x6.toNat fun v =>
  kI .i64 v fun n =>
  mfK m6 (V.int .i64 n)
 (none) fun r =>
  kP 63 r fun p =>
  idxK m0 p fun v_1 =>
  d63 v_1 fun s pins dirty first last =>
  cond (!(!dirty))
 (gd (decide (0<=x5)) <|
  gd (decide (x5.toNat < m2.length)) <|
  idxK m2 x5.toNat fun v_2 =>
  kI .i64 v_2 fun n_1 =>
  some (.head 0 (T39_0 (W .i64 (x5+1)) (W .i64 (x6+1)) m0 m1 ((m2).set x5.toNat (V.int .i64 n)) m4_1 m4_4 m5_0 m6 m7 m8 m9 z9)))
 (some (.head 0 (T39_0 x5 (W .i64 (x6+1)) m0 m1 m2 m4_1 m4_4 m5_0 m6 m7 m8 m9 z9))))
 (gd (wfl 1 m2) <|
  gd (decide (0<=x5)) <|
  gd (decide (x5.toNat<=m2.length)) <|
  gd (decide (x5.toNat+(m2.length - x5.toNat)<=m2.length)) <|
  gd (wfl 1 (m2.take x5.toNat++List.replicate (m2.length - x5.toNat) (V.int .i64 0)++m2.drop (x5.toNat+(m2.length - x5.toNat)))) <|
  gd (decide (0<=x5)) <|
  gd (decide (x5.toNat<=(m2.take x5.toNat++List.replicate (m2.length - x5.toNat) (V.int .i64 0)++m2.drop (x5.toNat+(m2.length - x5.toNat))).length)) <|
  some (.doneM (V.win 2 0 (x5.toNat - 0)) [O.arena 63 m0,O.arena 7 m1,O.row 3 (m2.take x5.toNat++List.replicate (m2.length - x5.toNat) (V.int .i64 0)++m2.drop (x5.toNat+(m2.length - x5.toNat))) 0,O.box 27 (V.ptr 4 0 0) false,O.box 59 (V.agg [V.ptr 5 0 0,V.int .i64 m4_1,V.mp 6,V.tail 7 0,V.int .i64 m4_4]) false,O.box 56 (V.agg [V.int .i64 m5_0,V.mp 8,V.tail 9 0]) false,O.map m6,O.row 3 m7 0,O.map m8,O.row 88 m9 z9,O.row 3 [] 0]))
theorem s39_0_eq (x5 x6:Int) (m0 m1 m2:List V) (m4_1 m4_4 m5_0:Int) (m6:List (V × V)) (m7:List V) (m8:List (V × V)) (m9:List V) (z9:Nat):goK qk true 10 fa39 0 (T39_0 x5 x6 m0 m1 m2 m4_1 m4_4 m5_0 m6 m7 m8 m9 z9)=s39_0 x5 x6 m0 m1 m2 m4_1 m4_4 m5_0 m6 m7 m8 m9 z9:=by kernel_rfl
theorem s39_0_run (x5 x6:Int) (m0 m1 m2:List V) (m4_1 m4_4 m5_0:Int) (m6:List (V × V)) (m7:List V) (m8:List (V × V)) (m9:List V) (z9:Nat) {o o':Out} (h:s39_0 x5 x6 m0 m1 m2 m4_1 m4_4 m5_0 m6 m7 m8 m9 z9=some o) (hg:Go qk true 10 fa39 o o'):Go qk true 10 fa39 (.head 0 (T39_0 x5 x6 m0 m1 m2 m4_1 m4_4 m5_0 m6 m7 m8 m9 z9)) o':=.step ((s39_0_eq ..).trans h) hg
noncomputable def fa45:FA:=⟨3,33,[.tmp 6],[24],
 (.seq
 (.ops false [o1 6 (.assign (.const (.int .i64 (0)))) 24])
 (.seq
 (.seq
 (.ops false [mv 9 0 23,mv 10 1 3,o1 11 (.call ⟨(.value (.func 31)),#[(t' 9),(t' 10)],#[23,3]⟩) 4,o1 12 (.unOp .not 4 (t' 11)) 4])
 (.cond (t' 12)
 (.seq
 (.ops false [o1 6 (.assign (.const (.int .i64 (1)))) 24])
 (.ret))
 (.skip)))
 (.seq
 (.ops false [mv 14 2 9,o1 15 (.call ⟨(.value (.func 53)),#[(t' 14)],#[9]⟩) 32,mv 13 15 32,o1 16 (.extract (t' 13) 0) 9,o1 17 (.extract (t' 13) 1) 24,asg 7 16 9,asg 8 17 24])
 (.seq
 (.seq
 (.ops false [mv 18 8 24,o1 19 (.binOp .eql 24 (t' 18) (.const (.int .i64 (0))) 24) 4])
 (.cond (t' 19)
 (.ops false [mv 20 0 23,mv 21 0 23,o1 22 (.nilCheck (t' 21)) 0,o1 23 (.fieldAddr 56 (t' 22) 2) 0,o1 24 (.load 54 (t' 23)) 54,mv 25 1 3,mv 26 7 9,o1 27 (.build 88 #[(0,(t' 25)),(1,(t' 26))]) 88,o1 28 (.buildSlice 54 1 #[(0,(t' 27))]) 54,o1 29 (.call ⟨(.builtin .append),#[(t' 24),(t' 28)],#[54,54]⟩) 54,o1 30 (.nilCheck (t' 20)) 0,o1 31 (.fieldAddr 56 (t' 30) 2) 0,o0 (.store 54 (t' 31) (t' 29)) 0])
 (.skip)))
 (.seq
 (.ops false [mv 32 8 24,asg 6 32 24])
 (.ret))))))⟩
theorem fa45_eq:fnA qcfg.P (qcfg.rxf 45) 45=some fa45:=by kernel_rfl
noncomputable def e45 (x1:Int) (x2:List UInt8) (m0 m1:List V) (m2_0:Int) (m3:List (V × V)) (m4:List V) (z4:Nat):R :=
 cond (decide (x1 ≥ 0))
 (cond (!(decide (x1 < m2_0)))
 (some (.doneM (V.int .i64 1) [O.arena 63 m0,O.arena 7 m1,O.box 56 (V.agg [V.int .i64 m2_0,V.mp 3,V.tail 4 0]) false,O.map m3,O.row 88 m4 z4]))
 (pcK qcfg 53 [V.str x2] fun r =>
  d32 r fun r53_0 r53_1 =>
  cond (r53_1==(0:Int))
 (gd (Nat.beq z4 0 || Nat.blt 0 z4) <|
  gd (decide (m4.length+([V.agg [V.int .i64 x1,V.str r53_0]]:List V).length<=16777216)) <|
  some (.doneM (V.int .i64 r53_1) [O.arena 63 m0,O.arena 7 m1,O.box 56 (V.agg [V.int .i64 m2_0,V.mp 3,V.tail 6 0]) false,O.map m3,O.dead,O.row 88 [V.agg [V.int .i64 x1,V.str r53_0]] 0,O.row 88 (m4++[V.agg [V.int .i64 x1,V.str r53_0]]) (cond (Nat.beq z4 0) 0 (z4 - 0))]))
 (some (.doneM (V.int .i64 r53_1) [O.arena 63 m0,O.arena 7 m1,O.box 56 (V.agg [V.int .i64 m2_0,V.mp 3,V.tail 4 0]) false,O.map m3,O.row 88 m4 z4]))))
 (some (.doneM (V.int .i64 1) [O.arena 63 m0,O.arena 7 m1,O.box 56 (V.agg [V.int .i64 m2_0,V.mp 3,V.tail 4 0]) false,O.map m3,O.row 88 m4 z4]))
theorem e45_eq (x1:Int) (x2:List UInt8) (m0 m1:List V) (m2_0:Int) (m3:List (V × V)) (m4:List V) (z4:Nat):enterK qk true fa45 [V.ptr 2 0 0,V.int .i64 x1,V.str x2] [O.arena 63 m0,O.arena 7 m1,O.box 56 (V.agg [V.int .i64 m2_0,V.mp 3,V.tail 4 0]) false,O.map m3,O.row 88 m4 z4]=e45 x1 x2 m0 m1 m2_0 m3 m4 z4:=by kernel_rfl
theorem e45_run (x1:Int) (x2:List UInt8) (m0 m1:List V) (m2_0:Int) (m3:List (V × V)) (m4:List V) (z4:Nat) {o:Out} {r:V × List O} (h:e45 x1 x2 m0 m1 m2_0 m3 m4 z4=some o) (hg:GoN qk 5 fa45 ⟨false,false⟩ [O.arena 63 m0,O.arena 7 m1,O.box 56 (V.agg [V.int .i64 m2_0,V.mp 3,V.tail 4 0]) false,O.map m3,O.row 88 m4 z4] o r):icC qcfg ⟨false,false⟩ 45 [V.ptr 2 0 0,V.int .i64 x1,V.str x2] [O.arena 63 m0,O.arena 7 m1,O.box 56 (V.agg [V.int .i64 m2_0,V.mp 3,V.tail 4 0]) false,O.map m3,O.row 88 m4 z4]=some r:=icC_go qik rfl fa45_eq ((e45_eq ..).trans h) hg
noncomputable def fa42:FA:=⟨2,19,[.tmp 4],[3],
 (.seq
 (.ops false [o1 4 (.assign (.const (.int .i64 (0)))) 3])
 (.seq
 (.seq
 (.ops false [mv 6 0 45,o1 7 (.call ⟨(.builtin .len),#[(t' 6)],#[45]⟩) 3,o1 8 (.move (.const (.int .i64 (0)))) 3])
 (.block 0
 (.loop ([2,3,5,6]++List.range' 9 10)
 (.seq
 (.ops false [o1 9 (.binOp .lss 3 (t' 8) (t' 7) 3) 0])
 (.seq
 (.cond (t' 9)
 (.skip)
 (.exit 0))
 (.seq
 (.block 1
 (.seq
 (.ops false [mv 10 8 3,asg 5 10 3])
 (.seq
 (.ops false [mv 11 1 69,mv 12 0 45,mv 13 5 3,o1 14 (.indexAddr 45 (t' 12) (t' 13)) 0,o1 15 (.load 3 (t' 14)) 3,o1 16 (.call ⟨(.value (t' 11)),#[(t' 15)],#[3]⟩) 4])
 (.cond (t' 16)
 (.seq
 (.ops false [mv 17 5 3,asg 4 17 3])
 (.ret))
 (.skip)))))
 (.ops false [o1 18 (.binOp .add 3 (t' 8) (.const (.int .i64 (1))) 3) 3,mv 8 18 3])))))))
 (.seq
 (.ops false [o1 4 (.assign (.const (.int .i64 (-1)))) 3])
 (.ret))))⟩
theorem fa42_eq:fnA qcfg.P (qcfg.rxf 42) 42=some fa42:=by kernel_rfl
def T42_0 (x7 x8:Int) (m0 m1 m2:List V) (m4_1 m4_4 m5_0:Int) (m6 m7:List (V × V)) (m8:List V) (z8:Nat):S:=⟨[V.tail 2 0,V.fn 41 [V.ptr 3 0 0],V.junk,V.junk,V.int .i64 0,V.junk,V.junk,V.int .i64 x7,V.int .i64 x8]++(JU 10),[O.arena 63 m0,O.arena 7 m1,O.row 3 m2 0,O.box 27 (V.ptr 4 0 0) false,O.box 59 (V.agg [V.ptr 5 0 0,V.int .i64 m4_1,V.mp 6,V.tail 2 0,V.int .i64 m4_4]) false,O.box 56 (V.agg [V.int .i64 m5_0,V.mp 7,V.tail 8 0]) false,O.map m6,O.map m7,O.row 88 m8 z8]⟩
noncomputable def e42 (m0 m1 m2:List V) (m4_1 m4_4 m5_0:Int) (m6 m7:List (V × V)) (m8:List V) (z8:Nat):R :=
 some (.head 0 (T42_0 (m2.length:Int) 0 m0 m1 m2 m4_1 m4_4 m5_0 m6 m7 m8 z8))
theorem e42_eq (m0 m1 m2:List V) (m4_1 m4_4 m5_0:Int) (m6 m7:List (V × V)) (m8:List V) (z8:Nat):enterK qk true fa42 [V.tail 2 0,V.fn 41 [V.ptr 3 0 0]] [O.arena 63 m0,O.arena 7 m1,O.row 3 m2 0,O.box 27 (V.ptr 4 0 0) false,O.box 59 (V.agg [V.ptr 5 0 0,V.int .i64 m4_1,V.mp 6,V.tail 2 0,V.int .i64 m4_4]) false,O.box 56 (V.agg [V.int .i64 m5_0,V.mp 7,V.tail 8 0]) false,O.map m6,O.map m7,O.row 88 m8 z8]=e42 m0 m1 m2 m4_1 m4_4 m5_0 m6 m7 m8 z8:=by kernel_rfl
theorem e42_run (m0 m1 m2:List V) (m4_1 m4_4 m5_0:Int) (m6 m7:List (V × V)) (m8:List V) (z8:Nat) {o:Out} {r:V × List O} (h:e42 m0 m1 m2 m4_1 m4_4 m5_0 m6 m7 m8 z8=some o) (hg:GoN qk 9 fa42 ⟨true,false⟩ [O.arena 63 m0,O.arena 7 m1,O.row 3 m2 0,O.box 27 (V.ptr 4 0 0) false,O.box 59 (V.agg [V.ptr 5 0 0,V.int .i64 m4_1,V.mp 6,V.tail 2 0,V.int .i64 m4_4]) false,O.box 56 (V.agg [V.int .i64 m5_0,V.mp 7,V.tail 8 0]) false,O.map m6,O.map m7,O.row 88 m8 z8] o r):icC qcfg ⟨true,false⟩ 42 [V.tail 2 0,V.fn 41 [V.ptr 3 0 0]] [O.arena 63 m0,O.arena 7 m1,O.row 3 m2 0,O.box 27 (V.ptr 4 0 0) false,O.box 59 (V.agg [V.ptr 5 0 0,V.int .i64 m4_1,V.mp 6,V.tail 2 0,V.int .i64 m4_4]) false,O.box 56 (V.agg [V.int .i64 m5_0,V.mp 7,V.tail 8 0]) false,O.map m6,O.map m7,O.row 88 m8 z8]=some r:=icC_go qik rfl fa42_eq ((e42_eq ..).trans h) hg
noncomputable def s42_0 (x7 x8:Int) (m0 m1 m2:List V) (m4_1 m4_4 m5_0:Int) (m6 m7:List (V × V)) (m8:List V) (z8:Nat):R :=
 cond (decide (x8 < x7))
 (gd (decide (0<=x8)) <|
  gd (decide (x8.toNat < m2.length)) <|
  idxK m2 (0+x8.toNat) fun v =>
  kI .i64 v fun n =>
  mfK m6 (V.int .i64 n)
 (none) fun r =>
  kP 63 r fun p =>
  idxK m0 p fun v_1 =>
  d63 v_1 fun s pins dirty first last =>
  cond (pins==(0:Int))
 (idxK m0 p fun v_2 =>
  d63 v_2 fun s_1 pins_1 dirty_1 first_1 last_1 =>
  cond (!dirty_1)
 (some (.doneM (V.int .i64 x8) [O.arena 63 m0,O.arena 7 m1,O.row 3 m2 0,O.box 27 (V.ptr 4 0 0) false,O.box 59 (V.agg [V.ptr 5 0 0,V.int .i64 m4_1,V.mp 6,V.tail 2 0,V.int .i64 m4_4]) false,O.box 56 (V.agg [V.int .i64 m5_0,V.mp 7,V.tail 8 0]) false,O.map m6,O.map m7,O.row 88 m8 z8]))
 (idxK m0 p fun v_3 =>
  d63 v_3 fun s_2 pins_2 dirty_2 first_2 last_2 =>
  cond dirty_2
 (idxK m0 p fun v_4 =>
  d63 v_4 fun s_3 pins_3 dirty_3 first_3 last_3 =>
  cond (decide (last_3<=m4_4))
 (some (.doneM (V.int .i64 x8) [O.arena 63 m0,O.arena 7 m1,O.row 3 m2 0,O.box 27 (V.ptr 4 0 0) false,O.box 59 (V.agg [V.ptr 5 0 0,V.int .i64 m4_1,V.mp 6,V.tail 2 0,V.int .i64 m4_4]) false,O.box 56 (V.agg [V.int .i64 m5_0,V.mp 7,V.tail 8 0]) false,O.map m6,O.map m7,O.row 88 m8 z8]))
 (some (.head 0 (T42_0 x7 (W .i64 (x8+1)) m0 m1 m2 m4_1 m4_4 m5_0 m6 m7 m8 z8))))
 (some (.head 0 (T42_0 x7 (W .i64 (x8+1)) m0 m1 m2 m4_1 m4_4 m5_0 m6 m7 m8 z8)))))
 (some (.head 0 (T42_0 x7 (W .i64 (x8+1)) m0 m1 m2 m4_1 m4_4 m5_0 m6 m7 m8 z8))))
 (some (.doneM (V.int .i64 (-1)) [O.arena 63 m0,O.arena 7 m1,O.row 3 m2 0,O.box 27 (V.ptr 4 0 0) false,O.box 59 (V.agg [V.ptr 5 0 0,V.int .i64 m4_1,V.mp 6,V.tail 2 0,V.int .i64 m4_4]) false,O.box 56 (V.agg [V.int .i64 m5_0,V.mp 7,V.tail 8 0]) false,O.map m6,O.map m7,O.row 88 m8 z8]))
theorem s42_0_eq (x7 x8:Int) (m0 m1 m2:List V) (m4_1 m4_4 m5_0:Int) (m6 m7:List (V × V)) (m8:List V) (z8:Nat):goK qk true 9 fa42 0 (T42_0 x7 x8 m0 m1 m2 m4_1 m4_4 m5_0 m6 m7 m8 z8)=s42_0 x7 x8 m0 m1 m2 m4_1 m4_4 m5_0 m6 m7 m8 z8:=by kernel_rfl
theorem s42_0_run (x7 x8:Int) (m0 m1 m2:List V) (m4_1 m4_4 m5_0:Int) (m6 m7:List (V × V)) (m8:List V) (z8:Nat) {o o':Out} (h:s42_0 x7 x8 m0 m1 m2 m4_1 m4_4 m5_0 m6 m7 m8 z8=some o) (hg:Go qk true 9 fa42 o o'):Go qk true 9 fa42 (.head 0 (T42_0 x7 x8 m0 m1 m2 m4_1 m4_4 m5_0 m6 m7 m8 z8)) o':=.step ((s42_0_eq ..).trans h) hg
def T39b_0 (x5 x6:Int) (m0 m1 m2:List V) (m3:Int):S:=⟨[V.tail 2 0,V.fn 44 [V.ptr 3 0 0],V.junk,V.junk,V.own 4,V.int .i64 x5,V.int .i64 x6]++(JU 35),[O.arena 63 m0,O.arena 7 m1,O.row 3 m2 0,O.box 3 (V.int .i64 m3) false,O.row 3 [] 0]⟩
noncomputable def e39b (m0 m1 m2:List V) (m3:Int):R :=
 icM qcfg ⟨true,false⟩ mk42c 42 [V.tail 2 0,V.fn 44 [V.ptr 3 0 0]] [O.arena 63 m0,O.arena 7 m1,O.row 3 m2 0,O.box 3 (V.int .i64 m3) false] fun L =>
 cond (L.1==((-1):Int))
 (some (.doneM (V.tail 2 0) [O.arena 63 L.2.1,O.arena 7 L.2.2.1,O.row 3 L.2.2.2.1 0,O.box 3 (V.int .i64 L.2.2.2.2) false,O.row 3 [] 0]))
 (some (.head 0 (T39b_0 L.1 (W .i64 (L.1+1)) L.2.1 L.2.2.1 L.2.2.2.1 L.2.2.2.2)))
theorem e39b_eq (m0 m1 m2:List V) (m3:Int):enterK qk true fa39 [V.tail 2 0,V.fn 44 [V.ptr 3 0 0]] [O.arena 63 m0,O.arena 7 m1,O.row 3 m2 0,O.box 3 (V.int .i64 m3) false]=e39b m0 m1 m2 m3:=by kernel_rfl
theorem e39b_run (m0 m1 m2:List V) (m3:Int) {o:Out} {r:V × List O} (h:e39b m0 m1 m2 m3=some o) (hg:GoN qk 4 fa39 ⟨true,true⟩ [O.arena 63 m0,O.arena 7 m1,O.row 3 m2 0,O.box 3 (V.int .i64 m3) false] o r):icC qcfg ⟨true,true⟩ 39 [V.tail 2 0,V.fn 44 [V.ptr 3 0 0]] [O.arena 63 m0,O.arena 7 m1,O.row 3 m2 0,O.box 3 (V.int .i64 m3) false]=some r:=icC_go qik rfl fa39_eq ((e39b_eq ..).trans h) hg
noncomputable def s39b_0 (x5 x6:Int) (m0 m1 m2:List V) (m3:Int):R :=
 cond (decide (x6 < (m2.length:Int)))
 (gd (decide (0<=x6)) <|
  gd (decide (x6.toNat < m2.length)) <|
  idxK m2 (0+x6.toNat) fun v =>
  kI .i64 v fun n =>
  cond (!(n==m3))
 (gd (decide (0<=x5)) <|
  gd (decide (x5.toNat < m2.length)) <|
  idxK m2 (0+x5.toNat) fun v_1 =>
  kI .i64 v_1 fun n_1 =>
  some (.head 0 (T39b_0 (W .i64 (x5+1)) (W .i64 (x6+1)) m0 m1 ((m2).set (0+x5.toNat) (V.int .i64 n)) m3)))
 (some (.head 0 (T39b_0 x5 (W .i64 (x6+1)) m0 m1 m2 m3))))
 (gd (wfl 1 m2) <|
  gd (decide (0<=x5)) <|
  gd (decide (x5.toNat<=m2.length)) <|
  gd (decide (0+x5.toNat+(m2.length - (0+x5.toNat))<=m2.length)) <|
  gd (wfl 1 (m2.take (0+x5.toNat)++List.replicate (m2.length - (0+x5.toNat)) (V.int .i64 0)++m2.drop (0+x5.toNat+(m2.length - (0+x5.toNat))))) <|
  gd (decide (0<=x5)) <|
  gd (decide (x5.toNat<=(m2.take (0+x5.toNat)++List.replicate (m2.length - (0+x5.toNat)) (V.int .i64 0)++m2.drop (0+x5.toNat+(m2.length - (0+x5.toNat)))).length)) <|
  some (.doneM (V.win 2 (0+0) (x5.toNat - 0)) [O.arena 63 m0,O.arena 7 m1,O.row 3 (m2.take (0+x5.toNat)++List.replicate (m2.length - (0+x5.toNat)) (V.int .i64 0)++m2.drop (0+x5.toNat+(m2.length - (0+x5.toNat)))) 0,O.box 3 (V.int .i64 m3) false,O.row 3 [] 0]))
theorem s39b_0_eq (x5 x6:Int) (m0 m1 m2:List V) (m3:Int):goK qk true 4 fa39 0 (T39b_0 x5 x6 m0 m1 m2 m3)=s39b_0 x5 x6 m0 m1 m2 m3:=by kernel_rfl
theorem s39b_0_run (x5 x6:Int) (m0 m1 m2:List V) (m3:Int) {o o':Out} (h:s39b_0 x5 x6 m0 m1 m2 m3=some o) (hg:Go qk true 4 fa39 o o'):Go qk true 4 fa39 (.head 0 (T39b_0 x5 x6 m0 m1 m2 m3)) o':=.step ((s39b_0_eq ..).trans h) hg
def T42b_0 (x7 x8:Int) (m0 m1 m2:List V) (m4_1 m4_4 m5_0:Int) (m6:List (V × V)) (m7:List V) (m8:List (V × V)) (m9:List V) (z9:Nat):S:=⟨[V.own 2,V.fn 40 [V.ptr 3 0 0],V.junk,V.junk,V.int .i64 0,V.junk,V.junk,V.int .i64 x7,V.int .i64 x8]++(JU 10),[O.arena 63 m0,O.arena 7 m1,O.row 3 m2 0,O.box 27 (V.ptr 4 0 0) false,O.box 59 (V.agg [V.ptr 5 0 0,V.int .i64 m4_1,V.mp 6,V.tail 7 0,V.int .i64 m4_4]) false,O.box 56 (V.agg [V.int .i64 m5_0,V.mp 8,V.tail 9 0]) false,O.map m6,O.row 3 m7 0,O.map m8,O.row 88 m9 z9]⟩
noncomputable def e42b (m0 m1 m2:List V) (m4_1 m4_4 m5_0:Int) (m6:List (V × V)) (m7:List V) (m8:List (V × V)) (m9:List V) (z9:Nat):R :=
 some (.head 0 (T42b_0 (m2.length:Int) 0 m0 m1 m2 m4_1 m4_4 m5_0 m6 m7 m8 m9 z9))
theorem e42b_eq (m0 m1 m2:List V) (m4_1 m4_4 m5_0:Int) (m6:List (V × V)) (m7:List V) (m8:List (V × V)) (m9:List V) (z9:Nat):enterK qk true fa42 [V.own 2,V.fn 40 [V.ptr 3 0 0]] [O.arena 63 m0,O.arena 7 m1,O.row 3 m2 0,O.box 27 (V.ptr 4 0 0) false,O.box 59 (V.agg [V.ptr 5 0 0,V.int .i64 m4_1,V.mp 6,V.tail 7 0,V.int .i64 m4_4]) false,O.box 56 (V.agg [V.int .i64 m5_0,V.mp 8,V.tail 9 0]) false,O.map m6,O.row 3 m7 0,O.map m8,O.row 88 m9 z9]=e42b m0 m1 m2 m4_1 m4_4 m5_0 m6 m7 m8 m9 z9:=by kernel_rfl
theorem e42b_run (m0 m1 m2:List V) (m4_1 m4_4 m5_0:Int) (m6:List (V × V)) (m7:List V) (m8:List (V × V)) (m9:List V) (z9:Nat) {o:Out} {r:V × List O} (h:e42b m0 m1 m2 m4_1 m4_4 m5_0 m6 m7 m8 m9 z9=some o) (hg:GoN qk 10 fa42 ⟨true,false⟩ [O.arena 63 m0,O.arena 7 m1,O.row 3 m2 0,O.box 27 (V.ptr 4 0 0) false,O.box 59 (V.agg [V.ptr 5 0 0,V.int .i64 m4_1,V.mp 6,V.tail 7 0,V.int .i64 m4_4]) false,O.box 56 (V.agg [V.int .i64 m5_0,V.mp 8,V.tail 9 0]) false,O.map m6,O.row 3 m7 0,O.map m8,O.row 88 m9 z9] o r):icC qcfg ⟨true,false⟩ 42 [V.own 2,V.fn 40 [V.ptr 3 0 0]] [O.arena 63 m0,O.arena 7 m1,O.row 3 m2 0,O.box 27 (V.ptr 4 0 0) false,O.box 59 (V.agg [V.ptr 5 0 0,V.int .i64 m4_1,V.mp 6,V.tail 7 0,V.int .i64 m4_4]) false,O.box 56 (V.agg [V.int .i64 m5_0,V.mp 8,V.tail 9 0]) false,O.map m6,O.row 3 m7 0,O.map m8,O.row 88 m9 z9]=some r:=icC_go qik rfl fa42_eq ((e42b_eq ..).trans h) hg
noncomputable def s42b_0 (x7 x8:Int) (m0 m1 m2:List V) (m4_1 m4_4 m5_0:Int) (m6:List (V × V)) (m7:List V) (m8:List (V × V)) (m9:List V) (z9:Nat):R :=
 cond (decide (x8 < x7))
 (gd (decide (0<=x8)) <|
  gd (decide (x8.toNat < m2.length)) <|
  idxK m2 x8.toNat fun v =>
  kI .i64 v fun n =>
  mfK m6 (V.int .i64 n)
 (none) fun r =>
  kP 63 r fun p =>
  idxK m0 p fun v_1 =>
  d63 v_1 fun s pins dirty first last =>
  cond (!dirty)
 (some (.doneM (V.int .i64 x8) [O.arena 63 m0,O.arena 7 m1,O.row 3 m2 0,O.box 27 (V.ptr 4 0 0) false,O.box 59 (V.agg [V.ptr 5 0 0,V.int .i64 m4_1,V.mp 6,V.tail 7 0,V.int .i64 m4_4]) false,O.box 56 (V.agg [V.int .i64 m5_0,V.mp 8,V.tail 9 0]) false,O.map m6,O.row 3 m7 0,O.map m8,O.row 88 m9 z9]))
 (some (.head 0 (T42b_0 x7 (W .i64 (x8+1)) m0 m1 m2 m4_1 m4_4 m5_0 m6 m7 m8 m9 z9))))
 (some (.doneM (V.int .i64 (-1)) [O.arena 63 m0,O.arena 7 m1,O.row 3 m2 0,O.box 27 (V.ptr 4 0 0) false,O.box 59 (V.agg [V.ptr 5 0 0,V.int .i64 m4_1,V.mp 6,V.tail 7 0,V.int .i64 m4_4]) false,O.box 56 (V.agg [V.int .i64 m5_0,V.mp 8,V.tail 9 0]) false,O.map m6,O.row 3 m7 0,O.map m8,O.row 88 m9 z9]))
theorem s42b_0_eq (x7 x8:Int) (m0 m1 m2:List V) (m4_1 m4_4 m5_0:Int) (m6:List (V × V)) (m7:List V) (m8:List (V × V)) (m9:List V) (z9:Nat):goK qk true 10 fa42 0 (T42b_0 x7 x8 m0 m1 m2 m4_1 m4_4 m5_0 m6 m7 m8 m9 z9)=s42b_0 x7 x8 m0 m1 m2 m4_1 m4_4 m5_0 m6 m7 m8 m9 z9:=by kernel_rfl
theorem s42b_0_run (x7 x8:Int) (m0 m1 m2:List V) (m4_1 m4_4 m5_0:Int) (m6:List (V × V)) (m7:List V) (m8:List (V × V)) (m9:List V) (z9:Nat) {o o':Out} (h:s42b_0 x7 x8 m0 m1 m2 m4_1 m4_4 m5_0 m6 m7 m8 m9 z9=some o) (hg:Go qk true 10 fa42 o o'):Go qk true 10 fa42 (.head 0 (T42b_0 x7 x8 m0 m1 m2 m4_1 m4_4 m5_0 m6 m7 m8 m9 z9)) o':=.step ((s42b_0_eq ..).trans h) hg
def T42c_0 (x7 x8:Int) (m0 m1 m2:List V) (m3:Int):S:=⟨[V.tail 2 0,V.fn 44 [V.ptr 3 0 0],V.junk,V.junk,V.int .i64 0,V.junk,V.junk,V.int .i64 x7,V.int .i64 x8]++(JU 10),[O.arena 63 m0,O.arena 7 m1,O.row 3 m2 0,O.box 3 (V.int .i64 m3) false]⟩
noncomputable def e42c (m0 m1 m2:List V) (m3:Int):R :=
 some (.head 0 (T42c_0 (m2.length:Int) 0 m0 m1 m2 m3))
theorem e42c_eq (m0 m1 m2:List V) (m3:Int):enterK qk true fa42 [V.tail 2 0,V.fn 44 [V.ptr 3 0 0]] [O.arena 63 m0,O.arena 7 m1,O.row 3 m2 0,O.box 3 (V.int .i64 m3) false]=e42c m0 m1 m2 m3:=by kernel_rfl
theorem e42c_run (m0 m1 m2:List V) (m3:Int) {o:Out} {r:V × List O} (h:e42c m0 m1 m2 m3=some o) (hg:GoN qk 4 fa42 ⟨true,false⟩ [O.arena 63 m0,O.arena 7 m1,O.row 3 m2 0,O.box 3 (V.int .i64 m3) false] o r):icC qcfg ⟨true,false⟩ 42 [V.tail 2 0,V.fn 44 [V.ptr 3 0 0]] [O.arena 63 m0,O.arena 7 m1,O.row 3 m2 0,O.box 3 (V.int .i64 m3) false]=some r:=icC_go qik rfl fa42_eq ((e42c_eq ..).trans h) hg
noncomputable def s42c_0 (x7 x8:Int) (m0 m1 m2:List V) (m3:Int):R :=
 cond (decide (x8 < x7))
 (gd (decide (0<=x8)) <|
  gd (decide (x8.toNat < m2.length)) <|
  idxK m2 (0+x8.toNat) fun v =>
  kI .i64 v fun n =>
  cond (n==m3)
 (some (.doneM (V.int .i64 x8) [O.arena 63 m0,O.arena 7 m1,O.row 3 m2 0,O.box 3 (V.int .i64 m3) false]))
 (some (.head 0 (T42c_0 x7 (W .i64 (x8+1)) m0 m1 m2 m3))))
 (some (.doneM (V.int .i64 (-1)) [O.arena 63 m0,O.arena 7 m1,O.row 3 m2 0,O.box 3 (V.int .i64 m3) false]))
theorem s42c_0_eq (x7 x8:Int) (m0 m1 m2:List V) (m3:Int):goK qk true 4 fa42 0 (T42c_0 x7 x8 m0 m1 m2 m3)=s42c_0 x7 x8 m0 m1 m2 m3:=by kernel_rfl
theorem s42c_0_run (x7 x8:Int) (m0 m1 m2:List V) (m3:Int) {o o':Out} (h:s42c_0 x7 x8 m0 m1 m2 m3=some o) (hg:Go qk true 4 fa42 o o'):Go qk true 4 fa42 (.head 0 (T42c_0 x7 x8 m0 m1 m2 m3)) o':=.step ((s42c_0_eq ..).trans h) hg
def d90 (v:V) (k:Int->Int->Int->Int->Int->Int->Int->Int->Int->Int->Int->Int->Int->Int->Int->Int->R):R:=kA v fun cs=>unc cs fun c cs=>kI .u32 c fun x0=>unc cs fun c cs=>kI .u32 c fun x1=>unc cs fun c cs=>kI .u32 c fun x2=>unc cs fun c cs=>kI .u32 c fun x3=>unc cs fun c cs=>kI .u32 c fun x4=>unc cs fun c cs=>kI .u32 c fun x5=>unc cs fun c cs=>kI .u32 c fun x6=>unc cs fun c cs=>kI .u32 c fun x7=>unc cs fun c cs=>kI .u32 c fun x8=>unc cs fun c cs=>kI .u32 c fun x9=>unc cs fun c cs=>kI .u32 c fun x10=>unc cs fun c cs=>kI .u32 c fun x11=>unc cs fun c cs=>kI .u32 c fun x12=>unc cs fun c cs=>kI .u32 c fun x13=>unc cs fun c cs=>kI .u32 c fun x14=>unc cs fun c cs=>kI .u32 c fun x15=>unn cs<|(k x0 x1 x2 x3 x4 x5 x6 x7 x8 x9 x10 x11 x12 x13 x14 x15)
@[simp] theorem d90_mk (x0:Int) (x1:Int) (x2:Int) (x3:Int) (x4:Int) (x5:Int) (x6:Int) (x7:Int) (x8:Int) (x9:Int) (x10:Int) (x11:Int) (x12:Int) (x13:Int) (x14:Int) (x15:Int) (k:Int->Int->Int->Int->Int->Int->Int->Int->Int->Int->Int->Int->Int->Int->Int->Int->R):d90 (.agg [V.int .u32 x0,V.int .u32 x1,V.int .u32 x2,V.int .u32 x3,V.int .u32 x4,V.int .u32 x5,V.int .u32 x6,V.int .u32 x7,V.int .u32 x8,V.int .u32 x9,V.int .u32 x10,V.int .u32 x11,V.int .u32 x12,V.int .u32 x13,V.int .u32 x14,V.int .u32 x15]) k=k x0 x1 x2 x3 x4 x5 x6 x7 x8 x9 x10 x11 x12 x13 x14 x15:=rfl
@[congr] theorem d90_wc {v v':V} {k:Int->Int->Int->Int->Int->Int->Int->Int->Int->Int->Int->Int->Int->Int->Int->Int->R} (h:v=v'):d90 v k=d90 v' k:=by rw [h]
noncomputable def fa47:FA:=⟨1,36,[.tmp 2],[82],
 (.seq
 (.ops false [o1 2 (.assign (.const (.int .u32 (0)))) 82])
 (.seq
 (.ops false [o1 7 (.call ⟨(.value (.func 55)),#[],#[]⟩) 90,o1 3 (.alloc 90) 0,o0 (.store 90 (t' 3) (t' 7)) 0,o1 4 (.assign (.const (.int .u32 (4294967295)))) 82])
 (.seq
 (.seq
 (.ops false [mv 8 0 9,o1 9 (.convert 9 66 (t' 8)) 66,o1 10 (.call ⟨(.builtin .len),#[(t' 9)],#[66]⟩) 3,o1 11 (.move (.const (.int .i64 (0)))) 3])
 (.block 0
 (.loop ([0,1]++List.range' 5 4++List.range' 12 24)
 (.seq
 (.ops false [o1 12 (.binOp .lss 3 (t' 11) (t' 10) 3) 0])
 (.seq
 (.cond (t' 12)
 (.skip)
 (.exit 0))
 (.seq
 (.block 1
 (.seq
 (.ops false [o1 13 (.indexAddr 66 (t' 9) (t' 11)) 0,o1 14 (.load 5 (t' 13)) 5,asg 6 14 5])
 (.seq
 (.ops false [mv 15 4 82,mv 16 6 5,o1 17 (.convert 5 82 (t' 16)) 82,o1 18 (.binOp .xor 82 (t' 15) (t' 17) 82) 82,asg 4 18 82])
 (.seq
 (.ops false [mv 19 4 82,o1 20 (.binOp .shr 82 (t' 19) (.const (.int .u64 (4))) 92) 82,mv 21 4 82,o1 22 (.binOp .rem 82 (t' 21) (.const (.int .u32 (16))) 82) 82,o1 23 (.indexAddr 90 (t' 3) (t' 22)) 0,o1 24 (.load 82 (t' 23)) 82,o1 25 (.binOp .xor 82 (t' 20) (t' 24) 82) 82,asg 4 25 82])
 (.ops false [mv 26 4 82,o1 27 (.binOp .shr 82 (t' 26) (.const (.int .u64 (4))) 92) 82,mv 28 4 82,o1 29 (.binOp .rem 82 (t' 28) (.const (.int .u32 (16))) 82) 82,o1 30 (.indexAddr 90 (t' 3) (t' 29)) 0,o1 31 (.load 82 (t' 30)) 82,o1 32 (.binOp .xor 82 (t' 27) (t' 31) 82) 82,asg 4 32 82])))))
 (.ops false [o1 33 (.binOp .add 3 (t' 11) (.const (.int .i64 (1))) 3) 3,mv 11 33 3])))))))
 (.seq
 (.ops false [mv 34 4 82,o1 35 (.unOp .xor 82 (t' 34)) 82,asg 2 35 82])
 (.ret)))))⟩
theorem fa47_eq:fnA qcfg.P (qcfg.rxf 47) 47=some fa47:=by kernel_rfl
def T47_0 (x4:Int) (x9:List V) (x10 x11:Int) (m0_0 m0_1:Int) (m0_2 m0_3:Int) (m0_4 m0_5:Int) (m0_6 m0_7:Int) (m0_8 m0_9:Int) (m0_10 m0_11:Int) (m0_12 m0_13:Int) (m0_14 m0_15:Int):S:=⟨[V.junk,V.junk,V.int .u32 0,V.ptr 0 0 0,V.int .u32 x4]++(JU 4)++[V.sl x9,V.int .i64 x10,V.int .i64 x11]++(JU 24),[O.box 90 (V.agg [V.int .u32 m0_0,V.int .u32 m0_1,V.int .u32 m0_2,V.int .u32 m0_3,V.int .u32 m0_4,V.int .u32 m0_5,V.int .u32 m0_6,V.int .u32 m0_7,V.int .u32 m0_8,V.int .u32 m0_9,V.int .u32 m0_10,V.int .u32 m0_11,V.int .u32 m0_12,V.int .u32 m0_13,V.int .u32 m0_14,V.int .u32 m0_15]) false]⟩
noncomputable def e47 (a0:List UInt8):R :=
 pcK qcfg 55 [] fun r =>
 d90 r fun r550 r551 r552 r553 r554 r555 r556 r557 r558 r559 r5510 r5511 r5512 r5513 r5514 r5515 =>
 some (.head 0 (T47_0 4294967295 (bytesV a0) ((bytesV a0).length:Int) 0 r550 r551 r552 r553 r554 r555 r556 r557 r558 r559 r5510 r5511 r5512 r5513 r5514 r5515))
theorem e47_eq (a0:List UInt8):enterK qk false fa47 [V.str a0] []=e47 a0:=by kernel_rfl
theorem e47_run (a0:List UInt8) {o:Out} {v:V} (h:e47 a0=some o) (hg:Go qk false 0 fa47 o (.done v)):pcW qcfg 47 [V.str a0]=some v:=pcW_go qik rfl fa47_eq ((e47_eq ..).trans h) hg
noncomputable def s47_0 (x4:Int) (x9:List V) (x10 x11:Int) (m0_0 m0_1:Int) (m0_2 m0_3:Int) (m0_4 m0_5:Int) (m0_6 m0_7:Int) (m0_8 m0_9:Int) (m0_10 m0_11:Int) (m0_12 m0_13:Int) (m0_14 m0_15:Int):R :=
 cond (decide (x11 < x10))
 (gd (decide (0<=x11)) <|
  idxK x9 x11.toNat fun v =>
  kI .u8 v fun n =>
  gd (decide (0<=(W .u32 (((BitVec.ofInt (IntKind.bits .u32) x4 ^^^ BitVec.ofInt (IntKind.bits .u32) (W .u32 (n))).toNat:Int))).tmod 16)) <|
  gd (decide (((W .u32 (((BitVec.ofInt (IntKind.bits .u32) x4 ^^^ BitVec.ofInt (IntKind.bits .u32) (W .u32 (n))).toNat:Int))).tmod 16).toNat < 16)) <|
  idxK [V.int .u32 m0_0,V.int .u32 m0_1,V.int .u32 m0_2,V.int .u32 m0_3,V.int .u32 m0_4,V.int .u32 m0_5,V.int .u32 m0_6,V.int .u32 m0_7,V.int .u32 m0_8,V.int .u32 m0_9,V.int .u32 m0_10,V.int .u32 m0_11,V.int .u32 m0_12,V.int .u32 m0_13,V.int .u32 m0_14,V.int .u32 m0_15] (0+(((W .u32 (((BitVec.ofInt (IntKind.bits .u32) x4 ^^^ BitVec.ofInt (IntKind.bits .u32) (W .u32 (n))).toNat:Int))).tmod 16).toNat) * 1) fun v_1 =>
  kI .u32 v_1 fun n_1 =>
  gd (decide (0<=(W .u32 (((BitVec.ofInt (IntKind.bits .u32) ((W .u32 (((BitVec.ofInt (IntKind.bits .u32) x4 ^^^ BitVec.ofInt (IntKind.bits .u32) (W .u32 (n))).toNat:Int))).fdiv (2 ^ (min 4 (IntKind.bits .u32)))) ^^^ BitVec.ofInt (IntKind.bits .u32) n_1).toNat:Int))).tmod 16)) <|
  gd (decide (((W .u32 (((BitVec.ofInt (IntKind.bits .u32) ((W .u32 (((BitVec.ofInt (IntKind.bits .u32) x4 ^^^ BitVec.ofInt (IntKind.bits .u32) (W .u32 (n))).toNat:Int))).fdiv (2 ^ (min 4 (IntKind.bits .u32)))) ^^^ BitVec.ofInt (IntKind.bits .u32) n_1).toNat:Int))).tmod 16).toNat < 16)) <|
  idxK [V.int .u32 m0_0,V.int .u32 m0_1,V.int .u32 m0_2,V.int .u32 m0_3,V.int .u32 m0_4,V.int .u32 m0_5,V.int .u32 m0_6,V.int .u32 m0_7,V.int .u32 m0_8,V.int .u32 m0_9,V.int .u32 m0_10,V.int .u32 m0_11,V.int .u32 m0_12,V.int .u32 m0_13,V.int .u32 m0_14,V.int .u32 m0_15] (0+(((W .u32 (((BitVec.ofInt (IntKind.bits .u32) ((W .u32 (((BitVec.ofInt (IntKind.bits .u32) x4 ^^^ BitVec.ofInt (IntKind.bits .u32) (W .u32 (n))).toNat:Int))).fdiv (2 ^ (min 4 (IntKind.bits .u32)))) ^^^ BitVec.ofInt (IntKind.bits .u32) n_1).toNat:Int))).tmod 16).toNat) * 1) fun v_2 =>
  kI .u32 v_2 fun n_2 =>
  some (.head 0 (T47_0 (W .u32 (((BitVec.ofInt (IntKind.bits .u32) ((W .u32 (((BitVec.ofInt (IntKind.bits .u32) ((W .u32 (((BitVec.ofInt (IntKind.bits .u32) x4 ^^^ BitVec.ofInt (IntKind.bits .u32) (W .u32 (n))).toNat:Int))).fdiv (2 ^ (min 4 (IntKind.bits .u32)))) ^^^ BitVec.ofInt (IntKind.bits .u32) n_1).toNat:Int))).fdiv (2 ^ (min 4 (IntKind.bits .u32)))) ^^^ BitVec.ofInt (IntKind.bits .u32) n_2).toNat:Int))) x9 x10 (W .i64 (x11+1)) m0_0 m0_1 m0_2 m0_3 m0_4 m0_5 m0_6 m0_7 m0_8 m0_9 m0_10 m0_11 m0_12 m0_13 m0_14 m0_15)))
 (some (.done (V.int .u32 (W .u32 (((BitVec.ofInt (IntKind.bits .u32) 4294967295 ^^^ BitVec.ofInt (IntKind.bits .u32) x4).toNat:Int))))))
theorem s47_0_eq (x4:Int) (x9:List V) (x10 x11:Int) (m0_0 m0_1:Int) (m0_2 m0_3:Int) (m0_4 m0_5:Int) (m0_6 m0_7:Int) (m0_8 m0_9:Int) (m0_10 m0_11:Int) (m0_12 m0_13:Int) (m0_14 m0_15:Int):goK qk false 0 fa47 0 (T47_0 x4 x9 x10 x11 m0_0 m0_1 m0_2 m0_3 m0_4 m0_5 m0_6 m0_7 m0_8 m0_9 m0_10 m0_11 m0_12 m0_13 m0_14 m0_15)=s47_0 x4 x9 x10 x11 m0_0 m0_1 m0_2 m0_3 m0_4 m0_5 m0_6 m0_7 m0_8 m0_9 m0_10 m0_11 m0_12 m0_13 m0_14 m0_15:=by kernel_rfl
theorem s47_0_run (x4:Int) (x9:List V) (x10 x11:Int) (m0_0 m0_1:Int) (m0_2 m0_3:Int) (m0_4 m0_5:Int) (m0_6 m0_7:Int) (m0_8 m0_9:Int) (m0_10 m0_11:Int) (m0_12 m0_13:Int) (m0_14 m0_15:Int) {o o':Out} (h:s47_0 x4 x9 x10 x11 m0_0 m0_1 m0_2 m0_3 m0_4 m0_5 m0_6 m0_7 m0_8 m0_9 m0_10 m0_11 m0_12 m0_13 m0_14 m0_15=some o) (hg:Go qk false 0 fa47 o o'):Go qk false 0 fa47 (.head 0 (T47_0 x4 x9 x10 x11 m0_0 m0_1 m0_2 m0_3 m0_4 m0_5 m0_6 m0_7 m0_8 m0_9 m0_10 m0_11 m0_12 m0_13 m0_14 m0_15)) o':=.step ((s47_0_eq ..).trans h) hg
noncomputable def fa64:FA:=⟨1,16,[.tmp 2],[82],
 (.seq
 (.ops false [o1 2 (.assign (.const (.int .u32 (0)))) 82])
 (.seq
 (.seq
 (.ops false [o1 4 (.move (.const (.int .i64 (0)))) 3])
 (.block 0
 (.loop ([1,3]++List.range' 5 11)
 (.seq
 (.ops false [o1 5 (.binOp .lss 3 (t' 4) (.const (.int .i64 (4))) 3) 4])
 (.seq
 (.cond (t' 5)
 (.skip)
 (.exit 0))
 (.seq
 (.block 1
 (.seq
 (.ops false [mv 6 0 82,o1 7 (.binOp .and 82 (t' 6) (.const (.int .u32 (1))) 82) 82,asg 3 7 82])
 (.seq
 (.ops false [mv 8 0 82,o1 9 (.binOp .shr 82 (t' 8) (.const (.int .u64 (1))) 92) 82,asg 0 9 82])
 (.seq
 (.ops false [mv 10 3 82,o1 11 (.binOp .eql 82 (t' 10) (.const (.int .u32 (1))) 82) 4])
 (.cond (t' 11)
 (.ops false [mv 12 0 82,o1 13 (.binOp .xor 82 (t' 12) (.const (.int .u32 (2197175160))) 82) 82,asg 0 13 82])
 (.skip))))))
 (.ops false [o1 14 (.binOp .add 3 (t' 4) (.const (.int .i64 (1))) 3) 3,mv 4 14 3])))))))
 (.seq
 (.ops false [mv 15 0 82,asg 2 15 82])
 (.ret))))⟩
theorem fa64_eq:fnA qcfg.P (qcfg.rxf 64) 64=some fa64:=by kernel_rfl
def T64_0 (x0 x4:Int):S:=⟨[V.int .u32 x0,V.junk,V.int .u32 0,V.junk,V.int .i64 x4]++(JU 11),[]⟩
noncomputable def e64 (a0:Int):R :=
 some (.head 0 (T64_0 a0 0))
theorem e64_eq (a0:Int):enterK qk false fa64 [V.int .u32 a0] []=e64 a0:=by kernel_rfl
theorem e64_run (a0:Int) {o:Out} {v:V} (h:e64 a0=some o) (hg:Go qk false 0 fa64 o (.done v)):pcW qcfg 64 [V.int .u32 a0]=some v:=pcW_go qik rfl fa64_eq ((e64_eq ..).trans h) hg
noncomputable def s64_0 (x0 x4:Int):R :=
 cond (decide (x4 < 4))
 (cond ((W .u32 (((BitVec.ofInt (IntKind.bits .u32) x0 &&& BitVec.ofInt (IntKind.bits .u32) 1).toNat:Int)))==(1:Int))
 (some (.head 0 (T64_0 (W .u32 (((BitVec.ofInt (IntKind.bits .u32) (x0.fdiv (2 ^ (min 1 (IntKind.bits .u32)))) ^^^ BitVec.ofInt (IntKind.bits .u32) 2197175160).toNat:Int))) (W .i64 (x4+1)))))
 (some (.head 0 (T64_0 (x0.fdiv (2 ^ (min 1 (IntKind.bits .u32)))) (W .i64 (x4+1))))))
 (some (.done (V.int .u32 x0)))
theorem s64_0_eq (x0 x4:Int):goK qk false 0 fa64 0 (T64_0 x0 x4)=s64_0 x0 x4:=by kernel_rfl
theorem s64_0_run (x0 x4:Int) {o o':Out} (h:s64_0 x0 x4=some o) (hg:Go qk false 0 fa64 o o'):Go qk false 0 fa64 (.head 0 (T64_0 x0 x4)) o':=.step ((s64_0_eq ..).trans h) hg
noncomputable def fa55:FA:=⟨0,15,[.cell 0 90],[90],
 (.seq
 (.ops false [o1 0 (.alloc 90) 0])
 (.seq
 (.ops false [o1 1 (.assign (.func 64)) 100])
 (.seq
 (.ops false [o1 2 (.alloc 90) 0])
 (.seq
 (.seq
 (.ops false [o1 4 (.move (.const (.int .i64 (0)))) 3])
 (.block 0
 (.loop ([3]++List.range' 5 10)
 (.seq
 (.ops false [o1 5 (.binOp .lss 3 (t' 4) (.const (.int .i64 (16))) 3) 0])
 (.seq
 (.cond (t' 5)
 (.skip)
 (.exit 0))
 (.seq
 (.block 1
 (.seq
 (.ops false [mv 6 4 3,asg 3 6 3])
 (.ops false [mv 7 3 3,mv 8 1 100,mv 9 3 3,o1 10 (.convert 3 82 (t' 9)) 82,o1 11 (.call ⟨(.value (t' 8)),#[(t' 10)],#[82]⟩) 82,o1 12 (.indexAddr 90 (t' 2) (t' 7)) 0,o0 (.store 82 (t' 12) (t' 11)) 0])))
 (.ops false [o1 13 (.binOp .add 3 (t' 4) (.const (.int .i64 (1))) 3) 3,mv 4 13 3])))))))
 (.seq
 (.ops false [o1 14 (.load 90 (t' 2)) 90,o0 (.store 90 (t' 0) (t' 14)) 0])
 (.ret))))))⟩
theorem fa55_eq:fnA qcfg.P (qcfg.rxf 55) 55=some fa55:=by kernel_rfl
def T55_0 (x4 m1_0:Int) (m1_1 m1_2:Int) (m1_3 m1_4:Int) (m1_5 m1_6:Int) (m1_7 m1_8:Int) (m1_9 m1_10:Int) (m1_11 m1_12:Int) (m1_13 m1_14 m1_15:Int):S:=⟨[V.ptr 0 0 0,V.fn 64 [],V.ptr 1 0 0,V.junk,V.int .i64 x4]++(JU 10),[O.box 90 (V.agg [V.int .u32 0,V.int .u32 0,V.int .u32 0,V.int .u32 0,V.int .u32 0,V.int .u32 0,V.int .u32 0,V.int .u32 0,V.int .u32 0,V.int .u32 0,V.int .u32 0,V.int .u32 0,V.int .u32 0,V.int .u32 0,V.int .u32 0,V.int .u32 0]) false,O.box 90 (V.agg [V.int .u32 m1_0,V.int .u32 m1_1,V.int .u32 m1_2,V.int .u32 m1_3,V.int .u32 m1_4,V.int .u32 m1_5,V.int .u32 m1_6,V.int .u32 m1_7,V.int .u32 m1_8,V.int .u32 m1_9,V.int .u32 m1_10,V.int .u32 m1_11,V.int .u32 m1_12,V.int .u32 m1_13,V.int .u32 m1_14,V.int .u32 m1_15]) false]⟩
noncomputable def e55 :R :=
 some (.head 0 (T55_0 0 0 0 0 0 0 0 0 0 0 0 0 0 0 0 0 0))
theorem e55_eq :enterK qk false fa55 [] []=e55 :=by kernel_rfl
theorem e55_run  {o:Out} {v:V} (h:e55 =some o) (hg:Go qk false 0 fa55 o (.done v)):pcW qcfg 55 []=some v:=pcW_go qik rfl fa55_eq ((e55_eq ).trans h) hg
noncomputable def s55_0_0 (m1_0 m1_1:Int) (m1_2 m1_3:Int) (m1_4 m1_5:Int) (m1_6 m1_7:Int) (m1_8 m1_9:Int) (m1_10 m1_11:Int) (m1_12 m1_13:Int) (m1_14 m1_15:Int):R :=
 pcK qcfg 64 [V.int .u32 0] fun r =>
 kI .u32 r fun r64 =>
 some (.head 0 (T55_0 1 r64 m1_1 m1_2 m1_3 m1_4 m1_5 m1_6 m1_7 m1_8 m1_9 m1_10 m1_11 m1_12 m1_13 m1_14 m1_15))
theorem s55_0_0_eq (m1_0 m1_1:Int) (m1_2 m1_3:Int) (m1_4 m1_5:Int) (m1_6 m1_7:Int) (m1_8 m1_9:Int) (m1_10 m1_11:Int) (m1_12 m1_13:Int) (m1_14 m1_15:Int):goK qk false 0 fa55 0 (T55_0 0 m1_0 m1_1 m1_2 m1_3 m1_4 m1_5 m1_6 m1_7 m1_8 m1_9 m1_10 m1_11 m1_12 m1_13 m1_14 m1_15)=s55_0_0 m1_0 m1_1 m1_2 m1_3 m1_4 m1_5 m1_6 m1_7 m1_8 m1_9 m1_10 m1_11 m1_12 m1_13 m1_14 m1_15:=by kernel_rfl
theorem s55_0_0_run (m1_0 m1_1:Int) (m1_2 m1_3:Int) (m1_4 m1_5:Int) (m1_6 m1_7:Int) (m1_8 m1_9:Int) (m1_10 m1_11:Int) (m1_12 m1_13:Int) (m1_14 m1_15:Int) {o o':Out} (h:s55_0_0 m1_0 m1_1 m1_2 m1_3 m1_4 m1_5 m1_6 m1_7 m1_8 m1_9 m1_10 m1_11 m1_12 m1_13 m1_14 m1_15=some o) (hg:Go qk false 0 fa55 o o'):Go qk false 0 fa55 (.head 0 (T55_0 0 m1_0 m1_1 m1_2 m1_3 m1_4 m1_5 m1_6 m1_7 m1_8 m1_9 m1_10 m1_11 m1_12 m1_13 m1_14 m1_15)) o':=.step ((s55_0_0_eq ..).trans h) hg
noncomputable def s55_0_1 (m1_0 m1_1:Int) (m1_2 m1_3:Int) (m1_4 m1_5:Int) (m1_6 m1_7:Int) (m1_8 m1_9:Int) (m1_10 m1_11:Int) (m1_12 m1_13:Int) (m1_14 m1_15:Int):R :=
 pcK qcfg 64 [V.int .u32 1] fun r =>
 kI .u32 r fun r64 =>
 some (.head 0 (T55_0 2 m1_0 r64 m1_2 m1_3 m1_4 m1_5 m1_6 m1_7 m1_8 m1_9 m1_10 m1_11 m1_12 m1_13 m1_14 m1_15))
theorem s55_0_1_eq (m1_0 m1_1:Int) (m1_2 m1_3:Int) (m1_4 m1_5:Int) (m1_6 m1_7:Int) (m1_8 m1_9:Int) (m1_10 m1_11:Int) (m1_12 m1_13:Int) (m1_14 m1_15:Int):goK qk false 0 fa55 0 (T55_0 1 m1_0 m1_1 m1_2 m1_3 m1_4 m1_5 m1_6 m1_7 m1_8 m1_9 m1_10 m1_11 m1_12 m1_13 m1_14 m1_15)=s55_0_1 m1_0 m1_1 m1_2 m1_3 m1_4 m1_5 m1_6 m1_7 m1_8 m1_9 m1_10 m1_11 m1_12 m1_13 m1_14 m1_15:=by kernel_rfl
theorem s55_0_1_run (m1_0 m1_1:Int) (m1_2 m1_3:Int) (m1_4 m1_5:Int) (m1_6 m1_7:Int) (m1_8 m1_9:Int) (m1_10 m1_11:Int) (m1_12 m1_13:Int) (m1_14 m1_15:Int) {o o':Out} (h:s55_0_1 m1_0 m1_1 m1_2 m1_3 m1_4 m1_5 m1_6 m1_7 m1_8 m1_9 m1_10 m1_11 m1_12 m1_13 m1_14 m1_15=some o) (hg:Go qk false 0 fa55 o o'):Go qk false 0 fa55 (.head 0 (T55_0 1 m1_0 m1_1 m1_2 m1_3 m1_4 m1_5 m1_6 m1_7 m1_8 m1_9 m1_10 m1_11 m1_12 m1_13 m1_14 m1_15)) o':=.step ((s55_0_1_eq ..).trans h) hg
noncomputable def s55_0_2 (m1_0 m1_1:Int) (m1_2 m1_3:Int) (m1_4 m1_5:Int) (m1_6 m1_7:Int) (m1_8 m1_9:Int) (m1_10 m1_11:Int) (m1_12 m1_13:Int) (m1_14 m1_15:Int):R :=
 pcK qcfg 64 [V.int .u32 2] fun r =>
 kI .u32 r fun r64 =>
 some (.head 0 (T55_0 3 m1_0 m1_1 r64 m1_3 m1_4 m1_5 m1_6 m1_7 m1_8 m1_9 m1_10 m1_11 m1_12 m1_13 m1_14 m1_15))
theorem s55_0_2_eq (m1_0 m1_1:Int) (m1_2 m1_3:Int) (m1_4 m1_5:Int) (m1_6 m1_7:Int) (m1_8 m1_9:Int) (m1_10 m1_11:Int) (m1_12 m1_13:Int) (m1_14 m1_15:Int):goK qk false 0 fa55 0 (T55_0 2 m1_0 m1_1 m1_2 m1_3 m1_4 m1_5 m1_6 m1_7 m1_8 m1_9 m1_10 m1_11 m1_12 m1_13 m1_14 m1_15)=s55_0_2 m1_0 m1_1 m1_2 m1_3 m1_4 m1_5 m1_6 m1_7 m1_8 m1_9 m1_10 m1_11 m1_12 m1_13 m1_14 m1_15:=by kernel_rfl
theorem s55_0_2_run (m1_0 m1_1:Int) (m1_2 m1_3:Int) (m1_4 m1_5:Int) (m1_6 m1_7:Int) (m1_8 m1_9:Int) (m1_10 m1_11:Int) (m1_12 m1_13:Int) (m1_14 m1_15:Int) {o o':Out} (h:s55_0_2 m1_0 m1_1 m1_2 m1_3 m1_4 m1_5 m1_6 m1_7 m1_8 m1_9 m1_10 m1_11 m1_12 m1_13 m1_14 m1_15=some o) (hg:Go qk false 0 fa55 o o'):Go qk false 0 fa55 (.head 0 (T55_0 2 m1_0 m1_1 m1_2 m1_3 m1_4 m1_5 m1_6 m1_7 m1_8 m1_9 m1_10 m1_11 m1_12 m1_13 m1_14 m1_15)) o':=.step ((s55_0_2_eq ..).trans h) hg
noncomputable def s55_0_3 (m1_0 m1_1:Int) (m1_2 m1_3:Int) (m1_4 m1_5:Int) (m1_6 m1_7:Int) (m1_8 m1_9:Int) (m1_10 m1_11:Int) (m1_12 m1_13:Int) (m1_14 m1_15:Int):R :=
 pcK qcfg 64 [V.int .u32 3] fun r =>
 kI .u32 r fun r64 =>
 some (.head 0 (T55_0 4 m1_0 m1_1 m1_2 r64 m1_4 m1_5 m1_6 m1_7 m1_8 m1_9 m1_10 m1_11 m1_12 m1_13 m1_14 m1_15))
theorem s55_0_3_eq (m1_0 m1_1:Int) (m1_2 m1_3:Int) (m1_4 m1_5:Int) (m1_6 m1_7:Int) (m1_8 m1_9:Int) (m1_10 m1_11:Int) (m1_12 m1_13:Int) (m1_14 m1_15:Int):goK qk false 0 fa55 0 (T55_0 3 m1_0 m1_1 m1_2 m1_3 m1_4 m1_5 m1_6 m1_7 m1_8 m1_9 m1_10 m1_11 m1_12 m1_13 m1_14 m1_15)=s55_0_3 m1_0 m1_1 m1_2 m1_3 m1_4 m1_5 m1_6 m1_7 m1_8 m1_9 m1_10 m1_11 m1_12 m1_13 m1_14 m1_15:=by kernel_rfl
theorem s55_0_3_run (m1_0 m1_1:Int) (m1_2 m1_3:Int) (m1_4 m1_5:Int) (m1_6 m1_7:Int) (m1_8 m1_9:Int) (m1_10 m1_11:Int) (m1_12 m1_13:Int) (m1_14 m1_15:Int) {o o':Out} (h:s55_0_3 m1_0 m1_1 m1_2 m1_3 m1_4 m1_5 m1_6 m1_7 m1_8 m1_9 m1_10 m1_11 m1_12 m1_13 m1_14 m1_15=some o) (hg:Go qk false 0 fa55 o o'):Go qk false 0 fa55 (.head 0 (T55_0 3 m1_0 m1_1 m1_2 m1_3 m1_4 m1_5 m1_6 m1_7 m1_8 m1_9 m1_10 m1_11 m1_12 m1_13 m1_14 m1_15)) o':=.step ((s55_0_3_eq ..).trans h) hg
noncomputable def s55_0_4 (m1_0 m1_1:Int) (m1_2 m1_3:Int) (m1_4 m1_5:Int) (m1_6 m1_7:Int) (m1_8 m1_9:Int) (m1_10 m1_11:Int) (m1_12 m1_13:Int) (m1_14 m1_15:Int):R :=
 pcK qcfg 64 [V.int .u32 4] fun r =>
 kI .u32 r fun r64 =>
 some (.head 0 (T55_0 5 m1_0 m1_1 m1_2 m1_3 r64 m1_5 m1_6 m1_7 m1_8 m1_9 m1_10 m1_11 m1_12 m1_13 m1_14 m1_15))
theorem s55_0_4_eq (m1_0 m1_1:Int) (m1_2 m1_3:Int) (m1_4 m1_5:Int) (m1_6 m1_7:Int) (m1_8 m1_9:Int) (m1_10 m1_11:Int) (m1_12 m1_13:Int) (m1_14 m1_15:Int):goK qk false 0 fa55 0 (T55_0 4 m1_0 m1_1 m1_2 m1_3 m1_4 m1_5 m1_6 m1_7 m1_8 m1_9 m1_10 m1_11 m1_12 m1_13 m1_14 m1_15)=s55_0_4 m1_0 m1_1 m1_2 m1_3 m1_4 m1_5 m1_6 m1_7 m1_8 m1_9 m1_10 m1_11 m1_12 m1_13 m1_14 m1_15:=by kernel_rfl
theorem s55_0_4_run (m1_0 m1_1:Int) (m1_2 m1_3:Int) (m1_4 m1_5:Int) (m1_6 m1_7:Int) (m1_8 m1_9:Int) (m1_10 m1_11:Int) (m1_12 m1_13:Int) (m1_14 m1_15:Int) {o o':Out} (h:s55_0_4 m1_0 m1_1 m1_2 m1_3 m1_4 m1_5 m1_6 m1_7 m1_8 m1_9 m1_10 m1_11 m1_12 m1_13 m1_14 m1_15=some o) (hg:Go qk false 0 fa55 o o'):Go qk false 0 fa55 (.head 0 (T55_0 4 m1_0 m1_1 m1_2 m1_3 m1_4 m1_5 m1_6 m1_7 m1_8 m1_9 m1_10 m1_11 m1_12 m1_13 m1_14 m1_15)) o':=.step ((s55_0_4_eq ..).trans h) hg
noncomputable def s55_0_5 (m1_0 m1_1:Int) (m1_2 m1_3:Int) (m1_4 m1_5:Int) (m1_6 m1_7:Int) (m1_8 m1_9:Int) (m1_10 m1_11:Int) (m1_12 m1_13:Int) (m1_14 m1_15:Int):R :=
 pcK qcfg 64 [V.int .u32 5] fun r =>
 kI .u32 r fun r64 =>
 some (.head 0 (T55_0 6 m1_0 m1_1 m1_2 m1_3 m1_4 r64 m1_6 m1_7 m1_8 m1_9 m1_10 m1_11 m1_12 m1_13 m1_14 m1_15))
theorem s55_0_5_eq (m1_0 m1_1:Int) (m1_2 m1_3:Int) (m1_4 m1_5:Int) (m1_6 m1_7:Int) (m1_8 m1_9:Int) (m1_10 m1_11:Int) (m1_12 m1_13:Int) (m1_14 m1_15:Int):goK qk false 0 fa55 0 (T55_0 5 m1_0 m1_1 m1_2 m1_3 m1_4 m1_5 m1_6 m1_7 m1_8 m1_9 m1_10 m1_11 m1_12 m1_13 m1_14 m1_15)=s55_0_5 m1_0 m1_1 m1_2 m1_3 m1_4 m1_5 m1_6 m1_7 m1_8 m1_9 m1_10 m1_11 m1_12 m1_13 m1_14 m1_15:=by kernel_rfl
theorem s55_0_5_run (m1_0 m1_1:Int) (m1_2 m1_3:Int) (m1_4 m1_5:Int) (m1_6 m1_7:Int) (m1_8 m1_9:Int) (m1_10 m1_11:Int) (m1_12 m1_13:Int) (m1_14 m1_15:Int) {o o':Out} (h:s55_0_5 m1_0 m1_1 m1_2 m1_3 m1_4 m1_5 m1_6 m1_7 m1_8 m1_9 m1_10 m1_11 m1_12 m1_13 m1_14 m1_15=some o) (hg:Go qk false 0 fa55 o o'):Go qk false 0 fa55 (.head 0 (T55_0 5 m1_0 m1_1 m1_2 m1_3 m1_4 m1_5 m1_6 m1_7 m1_8 m1_9 m1_10 m1_11 m1_12 m1_13 m1_14 m1_15)) o':=.step ((s55_0_5_eq ..).trans h) hg
noncomputable def s55_0_6 (m1_0 m1_1:Int) (m1_2 m1_3:Int) (m1_4 m1_5:Int) (m1_6 m1_7:Int) (m1_8 m1_9:Int) (m1_10 m1_11:Int) (m1_12 m1_13:Int) (m1_14 m1_15:Int):R :=
 pcK qcfg 64 [V.int .u32 6] fun r =>
 kI .u32 r fun r64 =>
 some (.head 0 (T55_0 7 m1_0 m1_1 m1_2 m1_3 m1_4 m1_5 r64 m1_7 m1_8 m1_9 m1_10 m1_11 m1_12 m1_13 m1_14 m1_15))
theorem s55_0_6_eq (m1_0 m1_1:Int) (m1_2 m1_3:Int) (m1_4 m1_5:Int) (m1_6 m1_7:Int) (m1_8 m1_9:Int) (m1_10 m1_11:Int) (m1_12 m1_13:Int) (m1_14 m1_15:Int):goK qk false 0 fa55 0 (T55_0 6 m1_0 m1_1 m1_2 m1_3 m1_4 m1_5 m1_6 m1_7 m1_8 m1_9 m1_10 m1_11 m1_12 m1_13 m1_14 m1_15)=s55_0_6 m1_0 m1_1 m1_2 m1_3 m1_4 m1_5 m1_6 m1_7 m1_8 m1_9 m1_10 m1_11 m1_12 m1_13 m1_14 m1_15:=by kernel_rfl
theorem s55_0_6_run (m1_0 m1_1:Int) (m1_2 m1_3:Int) (m1_4 m1_5:Int) (m1_6 m1_7:Int) (m1_8 m1_9:Int) (m1_10 m1_11:Int) (m1_12 m1_13:Int) (m1_14 m1_15:Int) {o o':Out} (h:s55_0_6 m1_0 m1_1 m1_2 m1_3 m1_4 m1_5 m1_6 m1_7 m1_8 m1_9 m1_10 m1_11 m1_12 m1_13 m1_14 m1_15=some o) (hg:Go qk false 0 fa55 o o'):Go qk false 0 fa55 (.head 0 (T55_0 6 m1_0 m1_1 m1_2 m1_3 m1_4 m1_5 m1_6 m1_7 m1_8 m1_9 m1_10 m1_11 m1_12 m1_13 m1_14 m1_15)) o':=.step ((s55_0_6_eq ..).trans h) hg
noncomputable def s55_0_7 (m1_0 m1_1:Int) (m1_2 m1_3:Int) (m1_4 m1_5:Int) (m1_6 m1_7:Int) (m1_8 m1_9:Int) (m1_10 m1_11:Int) (m1_12 m1_13:Int) (m1_14 m1_15:Int):R :=
 pcK qcfg 64 [V.int .u32 7] fun r =>
 kI .u32 r fun r64 =>
 some (.head 0 (T55_0 8 m1_0 m1_1 m1_2 m1_3 m1_4 m1_5 m1_6 r64 m1_8 m1_9 m1_10 m1_11 m1_12 m1_13 m1_14 m1_15))
theorem s55_0_7_eq (m1_0 m1_1:Int) (m1_2 m1_3:Int) (m1_4 m1_5:Int) (m1_6 m1_7:Int) (m1_8 m1_9:Int) (m1_10 m1_11:Int) (m1_12 m1_13:Int) (m1_14 m1_15:Int):goK qk false 0 fa55 0 (T55_0 7 m1_0 m1_1 m1_2 m1_3 m1_4 m1_5 m1_6 m1_7 m1_8 m1_9 m1_10 m1_11 m1_12 m1_13 m1_14 m1_15)=s55_0_7 m1_0 m1_1 m1_2 m1_3 m1_4 m1_5 m1_6 m1_7 m1_8 m1_9 m1_10 m1_11 m1_12 m1_13 m1_14 m1_15:=by kernel_rfl
theorem s55_0_7_run (m1_0 m1_1:Int) (m1_2 m1_3:Int) (m1_4 m1_5:Int) (m1_6 m1_7:Int) (m1_8 m1_9:Int) (m1_10 m1_11:Int) (m1_12 m1_13:Int) (m1_14 m1_15:Int) {o o':Out} (h:s55_0_7 m1_0 m1_1 m1_2 m1_3 m1_4 m1_5 m1_6 m1_7 m1_8 m1_9 m1_10 m1_11 m1_12 m1_13 m1_14 m1_15=some o) (hg:Go qk false 0 fa55 o o'):Go qk false 0 fa55 (.head 0 (T55_0 7 m1_0 m1_1 m1_2 m1_3 m1_4 m1_5 m1_6 m1_7 m1_8 m1_9 m1_10 m1_11 m1_12 m1_13 m1_14 m1_15)) o':=.step ((s55_0_7_eq ..).trans h) hg
noncomputable def s55_0_8 (m1_0 m1_1:Int) (m1_2 m1_3:Int) (m1_4 m1_5:Int) (m1_6 m1_7:Int) (m1_8 m1_9:Int) (m1_10 m1_11:Int) (m1_12 m1_13:Int) (m1_14 m1_15:Int):R :=
 pcK qcfg 64 [V.int .u32 8] fun r =>
 kI .u32 r fun r64 =>
 some (.head 0 (T55_0 9 m1_0 m1_1 m1_2 m1_3 m1_4 m1_5 m1_6 m1_7 r64 m1_9 m1_10 m1_11 m1_12 m1_13 m1_14 m1_15))
theorem s55_0_8_eq (m1_0 m1_1:Int) (m1_2 m1_3:Int) (m1_4 m1_5:Int) (m1_6 m1_7:Int) (m1_8 m1_9:Int) (m1_10 m1_11:Int) (m1_12 m1_13:Int) (m1_14 m1_15:Int):goK qk false 0 fa55 0 (T55_0 8 m1_0 m1_1 m1_2 m1_3 m1_4 m1_5 m1_6 m1_7 m1_8 m1_9 m1_10 m1_11 m1_12 m1_13 m1_14 m1_15)=s55_0_8 m1_0 m1_1 m1_2 m1_3 m1_4 m1_5 m1_6 m1_7 m1_8 m1_9 m1_10 m1_11 m1_12 m1_13 m1_14 m1_15:=by kernel_rfl
theorem s55_0_8_run (m1_0 m1_1:Int) (m1_2 m1_3:Int) (m1_4 m1_5:Int) (m1_6 m1_7:Int) (m1_8 m1_9:Int) (m1_10 m1_11:Int) (m1_12 m1_13:Int) (m1_14 m1_15:Int) {o o':Out} (h:s55_0_8 m1_0 m1_1 m1_2 m1_3 m1_4 m1_5 m1_6 m1_7 m1_8 m1_9 m1_10 m1_11 m1_12 m1_13 m1_14 m1_15=some o) (hg:Go qk false 0 fa55 o o'):Go qk false 0 fa55 (.head 0 (T55_0 8 m1_0 m1_1 m1_2 m1_3 m1_4 m1_5 m1_6 m1_7 m1_8 m1_9 m1_10 m1_11 m1_12 m1_13 m1_14 m1_15)) o':=.step ((s55_0_8_eq ..).trans h) hg
noncomputable def s55_0_9 (m1_0 m1_1:Int) (m1_2 m1_3:Int) (m1_4 m1_5:Int) (m1_6 m1_7:Int) (m1_8 m1_9:Int) (m1_10 m1_11:Int) (m1_12 m1_13:Int) (m1_14 m1_15:Int):R :=
 pcK qcfg 64 [V.int .u32 9] fun r =>
 kI .u32 r fun r64 =>
 some (.head 0 (T55_0 10 m1_0 m1_1 m1_2 m1_3 m1_4 m1_5 m1_6 m1_7 m1_8 r64 m1_10 m1_11 m1_12 m1_13 m1_14 m1_15))
theorem s55_0_9_eq (m1_0 m1_1:Int) (m1_2 m1_3:Int) (m1_4 m1_5:Int) (m1_6 m1_7:Int) (m1_8 m1_9:Int) (m1_10 m1_11:Int) (m1_12 m1_13:Int) (m1_14 m1_15:Int):goK qk false 0 fa55 0 (T55_0 9 m1_0 m1_1 m1_2 m1_3 m1_4 m1_5 m1_6 m1_7 m1_8 m1_9 m1_10 m1_11 m1_12 m1_13 m1_14 m1_15)=s55_0_9 m1_0 m1_1 m1_2 m1_3 m1_4 m1_5 m1_6 m1_7 m1_8 m1_9 m1_10 m1_11 m1_12 m1_13 m1_14 m1_15:=by kernel_rfl
theorem s55_0_9_run (m1_0 m1_1:Int) (m1_2 m1_3:Int) (m1_4 m1_5:Int) (m1_6 m1_7:Int) (m1_8 m1_9:Int) (m1_10 m1_11:Int) (m1_12 m1_13:Int) (m1_14 m1_15:Int) {o o':Out} (h:s55_0_9 m1_0 m1_1 m1_2 m1_3 m1_4 m1_5 m1_6 m1_7 m1_8 m1_9 m1_10 m1_11 m1_12 m1_13 m1_14 m1_15=some o) (hg:Go qk false 0 fa55 o o'):Go qk false 0 fa55 (.head 0 (T55_0 9 m1_0 m1_1 m1_2 m1_3 m1_4 m1_5 m1_6 m1_7 m1_8 m1_9 m1_10 m1_11 m1_12 m1_13 m1_14 m1_15)) o':=.step ((s55_0_9_eq ..).trans h) hg
noncomputable def s55_0_10 (m1_0 m1_1:Int) (m1_2 m1_3:Int) (m1_4 m1_5:Int) (m1_6 m1_7:Int) (m1_8 m1_9:Int) (m1_10 m1_11:Int) (m1_12 m1_13:Int) (m1_14 m1_15:Int):R :=
 pcK qcfg 64 [V.int .u32 10] fun r =>
 kI .u32 r fun r64 =>
 some (.head 0 (T55_0 11 m1_0 m1_1 m1_2 m1_3 m1_4 m1_5 m1_6 m1_7 m1_8 m1_9 r64 m1_11 m1_12 m1_13 m1_14 m1_15))
theorem s55_0_10_eq (m1_0 m1_1:Int) (m1_2 m1_3:Int) (m1_4 m1_5:Int) (m1_6 m1_7:Int) (m1_8 m1_9:Int) (m1_10 m1_11:Int) (m1_12 m1_13:Int) (m1_14 m1_15:Int):goK qk false 0 fa55 0 (T55_0 10 m1_0 m1_1 m1_2 m1_3 m1_4 m1_5 m1_6 m1_7 m1_8 m1_9 m1_10 m1_11 m1_12 m1_13 m1_14 m1_15)=s55_0_10 m1_0 m1_1 m1_2 m1_3 m1_4 m1_5 m1_6 m1_7 m1_8 m1_9 m1_10 m1_11 m1_12 m1_13 m1_14 m1_15:=by kernel_rfl
theorem s55_0_10_run (m1_0 m1_1:Int) (m1_2 m1_3:Int) (m1_4 m1_5:Int) (m1_6 m1_7:Int) (m1_8 m1_9:Int) (m1_10 m1_11:Int) (m1_12 m1_13:Int) (m1_14 m1_15:Int) {o o':Out} (h:s55_0_10 m1_0 m1_1 m1_2 m1_3 m1_4 m1_5 m1_6 m1_7 m1_8 m1_9 m1_10 m1_11 m1_12 m1_13 m1_14 m1_15=some o) (hg:Go qk false 0 fa55 o o'):Go qk false 0 fa55 (.head 0 (T55_0 10 m1_0 m1_1 m1_2 m1_3 m1_4 m1_5 m1_6 m1_7 m1_8 m1_9 m1_10 m1_11 m1_12 m1_13 m1_14 m1_15)) o':=.step ((s55_0_10_eq ..).trans h) hg
noncomputable def s55_0_11 (m1_0 m1_1:Int) (m1_2 m1_3:Int) (m1_4 m1_5:Int) (m1_6 m1_7:Int) (m1_8 m1_9:Int) (m1_10 m1_11:Int) (m1_12 m1_13:Int) (m1_14 m1_15:Int):R :=
 pcK qcfg 64 [V.int .u32 11] fun r =>
 kI .u32 r fun r64 =>
 some (.head 0 (T55_0 12 m1_0 m1_1 m1_2 m1_3 m1_4 m1_5 m1_6 m1_7 m1_8 m1_9 m1_10 r64 m1_12 m1_13 m1_14 m1_15))
theorem s55_0_11_eq (m1_0 m1_1:Int) (m1_2 m1_3:Int) (m1_4 m1_5:Int) (m1_6 m1_7:Int) (m1_8 m1_9:Int) (m1_10 m1_11:Int) (m1_12 m1_13:Int) (m1_14 m1_15:Int):goK qk false 0 fa55 0 (T55_0 11 m1_0 m1_1 m1_2 m1_3 m1_4 m1_5 m1_6 m1_7 m1_8 m1_9 m1_10 m1_11 m1_12 m1_13 m1_14 m1_15)=s55_0_11 m1_0 m1_1 m1_2 m1_3 m1_4 m1_5 m1_6 m1_7 m1_8 m1_9 m1_10 m1_11 m1_12 m1_13 m1_14 m1_15:=by kernel_rfl
theorem s55_0_11_run (m1_0 m1_1:Int) (m1_2 m1_3:Int) (m1_4 m1_5:Int) (m1_6 m1_7:Int) (m1_8 m1_9:Int) (m1_10 m1_11:Int) (m1_12 m1_13:Int) (m1_14 m1_15:Int) {o o':Out} (h:s55_0_11 m1_0 m1_1 m1_2 m1_3 m1_4 m1_5 m1_6 m1_7 m1_8 m1_9 m1_10 m1_11 m1_12 m1_13 m1_14 m1_15=some o) (hg:Go qk false 0 fa55 o o'):Go qk false 0 fa55 (.head 0 (T55_0 11 m1_0 m1_1 m1_2 m1_3 m1_4 m1_5 m1_6 m1_7 m1_8 m1_9 m1_10 m1_11 m1_12 m1_13 m1_14 m1_15)) o':=.step ((s55_0_11_eq ..).trans h) hg
noncomputable def s55_0_12 (m1_0 m1_1:Int) (m1_2 m1_3:Int) (m1_4 m1_5:Int) (m1_6 m1_7:Int) (m1_8 m1_9:Int) (m1_10 m1_11:Int) (m1_12 m1_13:Int) (m1_14 m1_15:Int):R :=
 pcK qcfg 64 [V.int .u32 12] fun r =>
 kI .u32 r fun r64 =>
 some (.head 0 (T55_0 13 m1_0 m1_1 m1_2 m1_3 m1_4 m1_5 m1_6 m1_7 m1_8 m1_9 m1_10 m1_11 r64 m1_13 m1_14 m1_15))
theorem s55_0_12_eq (m1_0 m1_1:Int) (m1_2 m1_3:Int) (m1_4 m1_5:Int) (m1_6 m1_7:Int) (m1_8 m1_9:Int) (m1_10 m1_11:Int) (m1_12 m1_13:Int) (m1_14 m1_15:Int):goK qk false 0 fa55 0 (T55_0 12 m1_0 m1_1 m1_2 m1_3 m1_4 m1_5 m1_6 m1_7 m1_8 m1_9 m1_10 m1_11 m1_12 m1_13 m1_14 m1_15)=s55_0_12 m1_0 m1_1 m1_2 m1_3 m1_4 m1_5 m1_6 m1_7 m1_8 m1_9 m1_10 m1_11 m1_12 m1_13 m1_14 m1_15:=by kernel_rfl
theorem s55_0_12_run (m1_0 m1_1:Int) (m1_2 m1_3:Int) (m1_4 m1_5:Int) (m1_6 m1_7:Int) (m1_8 m1_9:Int) (m1_10 m1_11:Int) (m1_12 m1_13:Int) (m1_14 m1_15:Int) {o o':Out} (h:s55_0_12 m1_0 m1_1 m1_2 m1_3 m1_4 m1_5 m1_6 m1_7 m1_8 m1_9 m1_10 m1_11 m1_12 m1_13 m1_14 m1_15=some o) (hg:Go qk false 0 fa55 o o'):Go qk false 0 fa55 (.head 0 (T55_0 12 m1_0 m1_1 m1_2 m1_3 m1_4 m1_5 m1_6 m1_7 m1_8 m1_9 m1_10 m1_11 m1_12 m1_13 m1_14 m1_15)) o':=.step ((s55_0_12_eq ..).trans h) hg
noncomputable def s55_0_13 (m1_0 m1_1:Int) (m1_2 m1_3:Int) (m1_4 m1_5:Int) (m1_6 m1_7:Int) (m1_8 m1_9:Int) (m1_10 m1_11:Int) (m1_12 m1_13:Int) (m1_14 m1_15:Int):R :=
 pcK qcfg 64 [V.int .u32 13] fun r =>
 kI .u32 r fun r64 =>
 some (.head 0 (T55_0 14 m1_0 m1_1 m1_2 m1_3 m1_4 m1_5 m1_6 m1_7 m1_8 m1_9 m1_10 m1_11 m1_12 r64 m1_14 m1_15))
theorem s55_0_13_eq (m1_0 m1_1:Int) (m1_2 m1_3:Int) (m1_4 m1_5:Int) (m1_6 m1_7:Int) (m1_8 m1_9:Int) (m1_10 m1_11:Int) (m1_12 m1_13:Int) (m1_14 m1_15:Int):goK qk false 0 fa55 0 (T55_0 13 m1_0 m1_1 m1_2 m1_3 m1_4 m1_5 m1_6 m1_7 m1_8 m1_9 m1_10 m1_11 m1_12 m1_13 m1_14 m1_15)=s55_0_13 m1_0 m1_1 m1_2 m1_3 m1_4 m1_5 m1_6 m1_7 m1_8 m1_9 m1_10 m1_11 m1_12 m1_13 m1_14 m1_15:=by kernel_rfl
theorem s55_0_13_run (m1_0 m1_1:Int) (m1_2 m1_3:Int) (m1_4 m1_5:Int) (m1_6 m1_7:Int) (m1_8 m1_9:Int) (m1_10 m1_11:Int) (m1_12 m1_13:Int) (m1_14 m1_15:Int) {o o':Out} (h:s55_0_13 m1_0 m1_1 m1_2 m1_3 m1_4 m1_5 m1_6 m1_7 m1_8 m1_9 m1_10 m1_11 m1_12 m1_13 m1_14 m1_15=some o) (hg:Go qk false 0 fa55 o o'):Go qk false 0 fa55 (.head 0 (T55_0 13 m1_0 m1_1 m1_2 m1_3 m1_4 m1_5 m1_6 m1_7 m1_8 m1_9 m1_10 m1_11 m1_12 m1_13 m1_14 m1_15)) o':=.step ((s55_0_13_eq ..).trans h) hg
noncomputable def s55_0_14 (m1_0 m1_1:Int) (m1_2 m1_3:Int) (m1_4 m1_5:Int) (m1_6 m1_7:Int) (m1_8 m1_9:Int) (m1_10 m1_11:Int) (m1_12 m1_13:Int) (m1_14 m1_15:Int):R :=
 pcK qcfg 64 [V.int .u32 14] fun r =>
 kI .u32 r fun r64 =>
 some (.head 0 (T55_0 15 m1_0 m1_1 m1_2 m1_3 m1_4 m1_5 m1_6 m1_7 m1_8 m1_9 m1_10 m1_11 m1_12 m1_13 r64 m1_15))
theorem s55_0_14_eq (m1_0 m1_1:Int) (m1_2 m1_3:Int) (m1_4 m1_5:Int) (m1_6 m1_7:Int) (m1_8 m1_9:Int) (m1_10 m1_11:Int) (m1_12 m1_13:Int) (m1_14 m1_15:Int):goK qk false 0 fa55 0 (T55_0 14 m1_0 m1_1 m1_2 m1_3 m1_4 m1_5 m1_6 m1_7 m1_8 m1_9 m1_10 m1_11 m1_12 m1_13 m1_14 m1_15)=s55_0_14 m1_0 m1_1 m1_2 m1_3 m1_4 m1_5 m1_6 m1_7 m1_8 m1_9 m1_10 m1_11 m1_12 m1_13 m1_14 m1_15:=by kernel_rfl
theorem s55_0_14_run (m1_0 m1_1:Int) (m1_2 m1_3:Int) (m1_4 m1_5:Int) (m1_6 m1_7:Int) (m1_8 m1_9:Int) (m1_10 m1_11:Int) (m1_12 m1_13:Int) (m1_14 m1_15:Int) {o o':Out} (h:s55_0_14 m1_0 m1_1 m1_2 m1_3 m1_4 m1_5 m1_6 m1_7 m1_8 m1_9 m1_10 m1_11 m1_12 m1_13 m1_14 m1_15=some o) (hg:Go qk false 0 fa55 o o'):Go qk false 0 fa55 (.head 0 (T55_0 14 m1_0 m1_1 m1_2 m1_3 m1_4 m1_5 m1_6 m1_7 m1_8 m1_9 m1_10 m1_11 m1_12 m1_13 m1_14 m1_15)) o':=.step ((s55_0_14_eq ..).trans h) hg
noncomputable def s55_0_15 (m1_0 m1_1:Int) (m1_2 m1_3:Int) (m1_4 m1_5:Int) (m1_6 m1_7:Int) (m1_8 m1_9:Int) (m1_10 m1_11:Int) (m1_12 m1_13:Int) (m1_14 m1_15:Int):R :=
 pcK qcfg 64 [V.int .u32 15] fun r =>
 kI .u32 r fun r64 =>
 some (.head 0 (T55_0 16 m1_0 m1_1 m1_2 m1_3 m1_4 m1_5 m1_6 m1_7 m1_8 m1_9 m1_10 m1_11 m1_12 m1_13 m1_14 r64))
theorem s55_0_15_eq (m1_0 m1_1:Int) (m1_2 m1_3:Int) (m1_4 m1_5:Int) (m1_6 m1_7:Int) (m1_8 m1_9:Int) (m1_10 m1_11:Int) (m1_12 m1_13:Int) (m1_14 m1_15:Int):goK qk false 0 fa55 0 (T55_0 15 m1_0 m1_1 m1_2 m1_3 m1_4 m1_5 m1_6 m1_7 m1_8 m1_9 m1_10 m1_11 m1_12 m1_13 m1_14 m1_15)=s55_0_15 m1_0 m1_1 m1_2 m1_3 m1_4 m1_5 m1_6 m1_7 m1_8 m1_9 m1_10 m1_11 m1_12 m1_13 m1_14 m1_15:=by kernel_rfl
theorem s55_0_15_run (m1_0 m1_1:Int) (m1_2 m1_3:Int) (m1_4 m1_5:Int) (m1_6 m1_7:Int) (m1_8 m1_9:Int) (m1_10 m1_11:Int) (m1_12 m1_13:Int) (m1_14 m1_15:Int) {o o':Out} (h:s55_0_15 m1_0 m1_1 m1_2 m1_3 m1_4 m1_5 m1_6 m1_7 m1_8 m1_9 m1_10 m1_11 m1_12 m1_13 m1_14 m1_15=some o) (hg:Go qk false 0 fa55 o o'):Go qk false 0 fa55 (.head 0 (T55_0 15 m1_0 m1_1 m1_2 m1_3 m1_4 m1_5 m1_6 m1_7 m1_8 m1_9 m1_10 m1_11 m1_12 m1_13 m1_14 m1_15)) o':=.step ((s55_0_15_eq ..).trans h) hg
noncomputable def s55_0_16 (m1_0 m1_1:Int) (m1_2 m1_3:Int) (m1_4 m1_5:Int) (m1_6 m1_7:Int) (m1_8 m1_9:Int) (m1_10 m1_11:Int) (m1_12 m1_13:Int) (m1_14 m1_15:Int):R :=
 some (.done (V.agg [V.int .u32 m1_0,V.int .u32 m1_1,V.int .u32 m1_2,V.int .u32 m1_3,V.int .u32 m1_4,V.int .u32 m1_5,V.int .u32 m1_6,V.int .u32 m1_7,V.int .u32 m1_8,V.int .u32 m1_9,V.int .u32 m1_10,V.int .u32 m1_11,V.int .u32 m1_12,V.int .u32 m1_13,V.int .u32 m1_14,V.int .u32 m1_15]))
theorem s55_0_16_eq (m1_0 m1_1:Int) (m1_2 m1_3:Int) (m1_4 m1_5:Int) (m1_6 m1_7:Int) (m1_8 m1_9:Int) (m1_10 m1_11:Int) (m1_12 m1_13:Int) (m1_14 m1_15:Int):goK qk false 0 fa55 0 (T55_0 16 m1_0 m1_1 m1_2 m1_3 m1_4 m1_5 m1_6 m1_7 m1_8 m1_9 m1_10 m1_11 m1_12 m1_13 m1_14 m1_15)=s55_0_16 m1_0 m1_1 m1_2 m1_3 m1_4 m1_5 m1_6 m1_7 m1_8 m1_9 m1_10 m1_11 m1_12 m1_13 m1_14 m1_15:=by kernel_rfl
theorem s55_0_16_run (m1_0 m1_1:Int) (m1_2 m1_3:Int) (m1_4 m1_5:Int) (m1_6 m1_7:Int) (m1_8 m1_9:Int) (m1_10 m1_11:Int) (m1_12 m1_13:Int) (m1_14 m1_15:Int) {o o':Out} (h:s55_0_16 m1_0 m1_1 m1_2 m1_3 m1_4 m1_5 m1_6 m1_7 m1_8 m1_9 m1_10 m1_11 m1_12 m1_13 m1_14 m1_15=some o) (hg:Go qk false 0 fa55 o o'):Go qk false 0 fa55 (.head 0 (T55_0 16 m1_0 m1_1 m1_2 m1_3 m1_4 m1_5 m1_6 m1_7 m1_8 m1_9 m1_10 m1_11 m1_12 m1_13 m1_14 m1_15)) o':=.step ((s55_0_16_eq ..).trans h) hg
set_option linter.unusedSimpArgs false
set_option linter.unnecessarySimpa false
abbrev small (s:Bs):Prop:=s.length < 4294967296
def placeE (s:Bs) (n:Int):Int:=if 0<=n/\n<=(s.length:Int) then 0 else 1
def roomE (s:Bs) (n size:Int):Int:=if size < 1∨8 < size∨¬(0<=n/\n<=(s.length:Int)) then 1 else if (s.length:Int) - n < size then 3 else 0
theorem roomE_zero {s:Bs} {n size:Int} (h:roomE s n size=0):1<=size/\size<=8/\0<=n/\n+size<=(s.length:Int):=by
 unfold roomE at h
 split at h
 ·cases h
 ·split at h
  ·cases h
  ·omega
theorem roomE_ok {s:Bs} {n size:Int} (h1:1<=size) (h2:size<=8) (h3:0<=n) (h4:n+size<=(s.length:Int)):roomE s n size=0:=by
 unfold roomE
 rw [if_neg (by omega),if_neg (by omega)]
theorem place_ok (s:Bs) (n:Int):pcW qcfg 63 [.str s,.int .i64 n]=some (.int .i64 (placeE s n)):=by
 refine e63_done _ _ ?_
 unfold e63 placeE
 by_cases h1:n < 0
 ·rw [decide_eq_true h1,if_neg (by omega)];rfl
 ·rw [decide_eq_false h1]
  by_cases h2:n > (s.length:Int)
  ·rw [decide_eq_true h2,if_neg (by omega)];rfl
  ·rw [decide_eq_false h2,if_pos (by omega)];rfl
theorem room_ok (s:Bs) (n size:Int) (hs:small s):pcW qcfg 54 [.str s,.int .i64 n,.int .i64 size]=some (.int .i64 (roomE s n size)):=by
 refine e54_done _ _ _ ?_
 unfold e54 roomE
 rw [pcK_of (place_ok s n),kI_mk]
 by_cases h1:size < 1
 ·rw [decide_eq_true h1,if_pos (.inl h1)];rfl
 rw [decide_eq_false h1,cond_false]
 by_cases h2:size > 8
 ·rw [decide_eq_true h2,if_pos (.inr (.inl h2))];rfl
 rw [decide_eq_false h2,cond_false]
 unfold placeE
 by_cases h3:0<=n/\n<=(s.length:Int)
 ·rw [if_pos h3,if_neg (by omega),W_i64 (by omega)]
  by_cases h4:(s.length:Int) - n < size
  ·rw [decide_eq_true h4,if_pos h4];rfl
  ·rw [decide_eq_false h4,if_neg h4];rfl
 ·rw [if_neg h3,if_pos (.inr (.inr h3))];rfl
def getB (s:Bs) (n size:Int):Int × Int:=if roomE s n size=0 then (((unle ((s.drop n.toNat).take size.toNat):Nat):Int),0) else (0,roomE s n size)
theorem get_loop (s:Bs) (n k:Nat) (hk:k<=8) (hl:n+k<=s.length) (hs:small s):∀d i,i+d=k ->
  Go qk false 0 fa46 (.head 0 (T46_0 s (n:Int) ((unle ((s.drop n).take i):Nat):Int) (k:Int) (i:Int))) (.done (.tup [.int .u64 ((unle ((s.drop n).take k):Nat):Int),.int .i64 0])):=by
 intro d
 induction d with
 | zero =>
  intro i hi
  have:i=k:=by omega
  subst this
  refine s46_0_run _ _ _ _ _ ?_ (.refl _)
  unfold s46_0
  rw [decide_eq_false (by omega)]
  rfl
 | succ d ih =>
  intro i hi
  have hsl:=hs
  have hlt:n+i < s.length:=by omega
  obtain ⟨c,hc⟩:∃c,s[n+i]? = some c:=⟨_,List.getElem?_eq_getElem hlt⟩
  have hlen:((s.drop n).take i).length=i:=by simp;omega
  have e1:(s.drop n).take (i+1)=(s.drop n).take i++[c]:=by
   rw [List.take_add_one,List.getElem?_drop,hc];rfl
  have hx:unle ((s.drop n).take i) < 256 ^ i:=by have:=unle_lt ((s.drop n).take i);rwa [hlen] at this
  refine s46_0_run _ _ _ _ _ (o:=.head 0 (T46_0 s (n:Int) ((unle ((s.drop n).take (i+1)):Nat):Int) (k:Int) ((i+1:Nat):Int))) ?_ (ih (i+1) (by omega))
  unfold s46_0
  have w1:W .i64 ((n:Int)+(i:Int))=((n+i:Nat):Int):=by rw [W_i64 (by omega)];omega
  have w2:W .i64 (8 * (i:Int))=8 * (i:Int):=W_i64 (by omega)
  have w3:W .i64 ((i:Int)+1)=((i+1:Nat):Int):=by rw [W_i64 (by omega)];omega
  rw [decide_eq_true (by omega),cond_true,w1,gd_of (by simp;omega),toNat_cast,idxK_of hc,or64 hx c.toNat_lt (by omega),w2,gd_of (by simp;omega),w3,e1,unle_snoc,hlen]
theorem get_ok (s:Bs) (n size:Int) (hs:small s):pcW qcfg 46 [.str s,.int .i64 n,.int .i64 size]=some (.tup [.int .u64 (getB s n size).1,.int .i64 (getB s n size).2]):=by
 by_cases h:roomE s n size=0
 ·obtain ⟨h1,h2,h3,h4⟩:=roomE_zero h
  obtain ⟨k,rfl⟩:∃k:Nat,size=(k:Int):=⟨size.toNat,by omega⟩
  obtain ⟨m,rfl⟩:∃m:Nat,n=(m:Int):=⟨n.toNat,by omega⟩
  have hl:=get_loop s m k (by omega) (by omega) hs k 0 (by omega)
  refine e46_run _ _ _ ?_ (o:=.head 0 (T46_0 s (m:Int) 0 (k:Int) 0)) ?_
  ·unfold e46
   rw [pcK_of (room_ok s _ _ hs),kI_mk,h];rfl
  ·unfold getB
   rw [if_pos h]
   simpa [unle] using hl
 ·refine e46_run _ _ _ ?_ (.refl _)
  unfold e46 getB
  rw [pcK_of (room_ok s _ _ hs),kI_mk,if_neg h,ibne_t h];rfl
def putB (s:Bs) (n size:Int) (x:Nat):Bs × Int:=if roomE s n size=0 then (if x < 256 ^ size.toNat then (overB s n.toNat (leN size.toNat x),0) else ([],2)) else ([],roomE s n size)
theorem over_prim {av:List V} {v:V} (h:overP av=some v):pcW qcfg 76 av=some v:=pcW_prim (g:=overP) rfl h
theorem over_ok (s:Bs) (n:Nat) (t:Bs) (h:n+t.length<=s.length) (l:List V) (ns:List Int) (hl:numsOf l=some ns) (ht:(ns.map fun x=>UInt8.ofNat x.toNat)=t) :
  pcW qcfg 76 [.str s,.int .i64 (n:Int),.sl l]=some (.str (overB s n t)):=by
 apply over_prim
 have e:l.length=t.length:=by rw [<-ht,List.length_map,(numsOf_get hl).1]
 simp only [overP,toNat_cast]
 rw [if_pos ⟨Int.natCast_nonneg _,by omega⟩,hl,Option.map_some,ht]
def putRow (x k i:Nat):List V:=(leN i x).map (fun b=>V.int .u8 (b.toNat:Int))++List.replicate (k - i) (V.int .u8 0)
theorem putRow_len {x k i:Nat} (h:i<=k):(putRow x k i).length=k:=by simp [putRow,leN_len];omega
theorem putRow_set {x k i:Nat} (h:i < k):(putRow x k i).set i (V.int .u8 ((x / 256 ^ i % 256:Nat):Int))=putRow x k (i+1):=by
 unfold putRow
 rw [List.set_append_right _ _ (by simp [leN_len])]
 simp only [List.length_map,leN_len,Nat.sub_self]
 rw [show k - i=(k - (i+1))+1 by omega,List.replicate_succ,List.set_cons_zero,leN_snoc,List.map_append,List.append_assoc]
 congr 1
 simp only [List.map_cons,List.map_nil,List.cons_append,List.nil_append,List.cons.injEq,V.int.injEq,true_and,and_true]
 simp
theorem put_loop (s:Bs) (n k x:Nat) (hk:k<=8) (h1:1<=k) (hl:n+k<=s.length) (hs:small s):∀d i,i+d=k ->
  Go qk false 0 fa62 (.head 0 (T62_0 s (n:Int) (x:Int) (k:Int) (i:Int) (putRow x k i))) (.done (.tup [.str (overB s n (leN k x)),.int .i64 0])):=by
 intro d
 induction d with
 | zero =>
  intro i hi
  have:i=k:=by omega
  subst this
  refine s62_0_run _ _ _ _ _ _ ?_ (.refl _)
  unfold s62_0
  have hrow:putRow x i i=bytesV (leN i x):=by simp [putRow,bytesV]
  rw [decide_eq_false (by omega),cond_false,pcK_of (over_ok s n (leN i x) (by rw [leN_len];exact hl) _ _ (by rw [hrow];exact numsOf_bytes _) (nums_back _)),kS_mk]
 | succ d ih =>
  intro i hi
  have hsl:=hs
  refine s62_0_run _ _ _ _ _ _ (o:=.head 0 (T62_0 s (n:Int) (x:Int) (k:Int) ((i+1:Nat):Int) (putRow x k (i+1)))) ?_ (ih (i+1) (by omega))
  unfold s62_0
  have w2:W .i64 (8 * (i:Int))=8 * (i:Int):=W_i64 (by omega)
  have w3:W .i64 ((i:Int)+1)=((i+1:Nat):Int):=by rw [W_i64 (by omega)];omega
  have hget:(putRow x k i)[i]? = some (V.int .u8 0):=by
   unfold putRow
   rw [List.getElem?_append_right (by simp [leN_len])]
   simp only [List.length_map,leN_len,Nat.sub_self]
   rw [List.getElem?_replicate,if_pos (by omega)]
  rw [shr64 (by omega),W_u8_nat]
  rw [decide_eq_true (by omega),cond_true,w2,gd_of (by simp;omega),gd_of (by simp),toNat_cast,gd_of (by rw [putRow_len (by omega)];simp;omega),idxK_of hget,kI_mk,putRow_set (by omega),w3]
theorem put_ok (s:Bs) (n size:Int) (x:Nat) (hx:x < 18446744073709551616) (hs:small s):pcW qcfg 62 [.str s,.int .i64 n,.int .i64 size,.int .u64 (x:Int)]=some (.tup [.str (putB s n size x).1,.int .i64 (putB s n size x).2]):=by
 by_cases h:roomE s n size=0
 ·obtain ⟨h1,h2,h3,h4⟩:=roomE_zero h
  obtain ⟨k,rfl⟩:∃k:Nat,size=(k:Int):=⟨size.toNat,by omega⟩
  obtain ⟨m,rfl⟩:∃m:Nat,n=(m:Int):=⟨n.toNat,by omega⟩
  have w2:W .i64 (8 * (k:Int))=8 * (k:Int):=W_i64 (by omega)
  have hfits:x < 256 ^ k↔x / 256 ^ k=0:=by rw [Nat.div_eq_zero_iff];constructor
                                           ·exact .inr
                                           ·rintro (h | h)
                                            ·exact absurd h (by have:=Nat.pow_pos (n:=k) (show 0 < 256 by decide);omega)
                                            ·exact h
  unfold putB
  rw [if_pos h,toNat_cast,toNat_cast]
  by_cases hb:x < 256 ^ k
  ·rw [if_pos hb]
   have hl:=put_loop s m k x (by omega) (by omega) (by omega) hs k 0 (by omega)
   have hrow:putRow x k 0=List.replicate k (V.int .u8 0):=by simp [putRow,leN]
   rw [hrow] at hl
   refine e62_run _ _ _ _ ?_ (o:=.head 0 (T62_0 s (m:Int) (x:Int) (k:Int) 0 (List.replicate k (V.int .u8 0)))) (by simpa using hl)
   unfold e62
   rw [pcK_of (room_ok s _ _ hs),kI_mk,h]
   rw [shr64 (by omega),hfits.1 hb,w2,toNat_cast]
   by_cases h8:(k:Int) < 8
   ·simp [h8,show ¬(8 * (k:Int) < 0) by omega]
    omega
   ·simp [h8]
    omega
  ·rw [if_neg hb]
   have h8:(k:Int) < 8:=by
    have:¬k=8:=by
     rintro rfl
     exact hb hx
    omega
   refine e62_run _ _ _ _ ?_ (.refl _)
   unfold e62
   rw [pcK_of (room_ok s _ _ hs),kI_mk,h]
   rw [shr64 (by omega),w2]
   have:0 < x / 256 ^ k:=Nat.pos_of_ne_zero fun e=>hb (hfits.2 e)
   have hp:(((x / 256 ^ k:Nat):Int) > 0):=by omega
   rw [decide_eq_true h8,decide_eq_true hp,decide_eq_false (show ¬(8 * (k:Int) < 0) by omega)]
   rfl
 ·refine e62_run _ _ _ _ ?_ (.refl _)
  unfold e62 putB
  rw [pcK_of (room_ok s _ _ hs),kI_mk,if_neg h,ibne_t h];rfl
theorem tmod_nat (n m:Nat):((n:Int)).tmod (m:Int)=((n % m:Nat):Int):=rfl
def padB (s:Bs) (n:Int):Bs × Int:=if n < 0∨65536 < n then ([],1) else if n < (s.length:Int) then ([],2) else (s++List.replicate (n.toNat - s.length) 0,0)
theorem nums_rep (k:Nat):numsOf (List.replicate k (V.int .u8 0))=some (List.replicate k 0):=by
 have:=numsOf_ints (List.replicate k 0)
 rwa [List.map_replicate] at this
theorem pad_ok (s:Bs) (n:Int) (hs:small s):pcW qcfg 61 [.str s,.int .i64 n]=some (.tup [.str (padB s n).1,.int .i64 (padB s n).2]):=by
 refine e61_done _ _ ?_
 have hsl:=hs
 unfold e61 padB
 by_cases h1:n < 0
 ·rw [decide_eq_true h1,if_pos (.inl h1)];rfl
 rw [decide_eq_false h1,cond_false]
 by_cases h2:n > 65536
 ·rw [decide_eq_true h2,if_pos (.inr h2)];rfl
 rw [decide_eq_false h2,cond_false,if_neg (by omega)]
 by_cases h3:(s.length:Int) > n
 ·rw [decide_eq_true h3,if_pos h3];rfl
 rw [decide_eq_false h3,cond_false,if_neg h3]
 obtain ⟨k,rfl⟩:∃k:Nat,n=((s.length+k:Nat):Int):=⟨(n - s.length).toNat,by omega⟩
 have w:W .i64 (((s.length+k:Nat):Int) - (s.length:Int))=(k:Int):=by rw [W_i64 (by omega)];omega
 rw [w,toNat_cast,toNat_cast,gd_of (by simp),gd_of (by simp),gd_of (by simp;omega),nums_rep,opt_mk,List.map_replicate,show s.length+k - s.length=k by omega]
 rw [gd_of (by simp;omega)]
 rfl
theorem little_ok:∀(k n:Nat),n < 18446744073709551616->k < 4294967296->pcW qcfg 36 [.int .u64 (n:Int),.int .i64 (k:Int)]=some (.str (leN k n)):=by
 intro k
 induction k with
 | zero =>
  intro n _ _
  refine e36_done _ _ ?_
  unfold e36
  rw [ibeq_t (by omega)]
  rfl
 | succ k ih =>
  intro n hn hk
  refine e36_done _ _ ?_
  unfold e36
  have w1:W .u64 (((n:Int)).tdiv 256)=((n / 256:Nat):Int):=by
   rw [show ((n:Int)).tdiv 256=((n / 256:Nat):Int) from rfl]
   exact W_u64 (by omega)
  have w2:W .i64 (((k+1:Nat):Int) - 1)=(k:Int):=by rw [W_i64 (by omega)];omega
  have w3:W .u8 (((n:Int)).tmod 256)=((n % 256:Nat):Int):=by
   rw [show ((n:Int)).tmod 256=((n % 256:Nat):Int) from rfl,W_u8_nat]
   omega
  rw [ibeq_f (by omega),cond_false,w1,w2,pcK_of (ih (n / 256) (by omega) (by omega)),kS_mk,w3,toNat_cast,gd_of (by simp [leN_len];omega)]
  rfl
theorem leN_zero:∀k,leN k 0=List.replicate k 0
 | 0=>rfl
 | k+1=>by rw [leN,Nat.zero_div,leN_zero k];rfl
theorem padR_ok (s:Bs) (n:Int) (hs:small s):pcW qcfg 18 [.str s,.int .i64 n]=some (.tup [.str (padB s n).1,.int .i64 (padB s n).2]):=by
 refine e18_done _ _ ?_
 have hsl:=hs
 unfold e18 padB
 by_cases h1:n < 0
 ·rw [decide_eq_true h1,if_pos (.inl h1)];rfl
 rw [decide_eq_false h1,cond_false]
 by_cases h2:n > 65536
 ·rw [decide_eq_true h2,if_pos (.inr h2)];rfl
 rw [decide_eq_false h2,cond_false,if_neg (by omega)]
 by_cases h3:(s.length:Int) > n
 ·rw [decide_eq_true h3,if_pos h3];rfl
 rw [decide_eq_false h3,cond_false,if_neg h3]
 obtain ⟨k,rfl⟩:∃k:Nat,n=((s.length+k:Nat):Int):=⟨(n - s.length).toNat,by omega⟩
 have w:W .i64 (((s.length+k:Nat):Int) - (s.length:Int))=(k:Int):=by rw [W_i64 (by omega)];omega
 have hq:pcW qcfg 36 [.int .u64 0,.int .i64 (k:Int)]=some (.str (List.replicate k 0)):=by
  have:=little_ok k 0 (by decide) (by omega)
  rwa [leN_zero] at this
 rw [w,toNat_cast,pcK_of hq,kS_mk,show s.length+k - s.length=k by omega,gd_of (by simp;omega)]
def ints (l:List Int):List V:=l.map (V.int .i64)
theorem ints_len (l:List Int):(ints l).length=l.length:=by simp [ints]
theorem idxK_ints {l:List Int} {n:Nat} {x:Int} {k:V->R} (h:l[n]? = some x):idxK (ints l) n k=k (.int .i64 x):=idxK_map h
theorem intsR_loop (a b:List Int) (hab:a.length=b.length) (hl:a.length < 4294967296):∀(r s:List Int) (k:Nat),a.drop k=r->b.drop k=s ->
  Go qk false 0 fa35 (.head 0 (T35_0 (ints a) (ints b) (k:Int))) (.done (.bool (r==s))):=by
 intro r
 induction r with
 | nil =>
  intro s k hr hs
  have h1:=drop_nil hr
  have:s=[]:=by rw [<-hs];exact List.drop_eq_nil_iff.2 (by omega)
  subst this
  refine s35_0_run _ _ _ ?_ (.refl _)
  unfold s35_0
  rw [decide_eq_false (by first | omega | (simp only [ints_len];omega))]
  rfl
 | cons x r ih =>
  intro s k hr hs
  obtain ⟨h1,h2,h3⟩:=drop_cons hr
  cases s with
  | nil=>have:=drop_nil hs;omega
  | cons y s =>
   obtain ⟨h4,h5,h6⟩:=drop_cons hs
   have w:W .i64 ((k:Int)+1)=((k+1:Nat):Int):=by rw [W_i64 (by omega)];omega
   by_cases e:x=y
   ·subst e
    refine s35_0_run _ _ _ (o:=.head 0 (T35_0 (ints a) (ints b) ((k+1:Nat):Int))) ?_ ?_
    ·unfold s35_0
     rw [decide_eq_true (by first | omega | (simp only [ints_len];omega)),cond_true,gd_of (by simp),toNat_cast,idxK_ints h1,kI_mk,gd_of (by simp),idxK_ints h4,kI_mk,w]
     simp
    ·have:=ih s (k+1) h2 h5
     simpa using this
   ·refine s35_0_run _ _ _ ?_ (.refl _)
    have e2:((x::r)==(y::s))=false:=by
     simp [e]
    unfold s35_0
    rw [decide_eq_true (by first | omega | (simp only [ints_len];omega)),cond_true,gd_of (by simp),toNat_cast,idxK_ints h1,kI_mk,gd_of (by simp),idxK_ints h4,kI_mk,(show (x != y)=true by simpa using e),e2]
    rfl
theorem intsR_ok (a b:List Int) (hl:a.length < 4294967296):pcW qcfg 35 [.sl (ints a),.sl (ints b)]=some (.bool (a==b)):=by
 by_cases h:a.length=b.length
 ·refine e35_run _ _ (o:=.head 0 (T35_0 (ints a) (ints b) ((0:Nat):Int))) ?_ (intsR_loop a b h hl a b 0 rfl rfl)
  unfold e35
  rw [ints_len,ints_len,ibne_f (by omega)]
  rfl
 ·refine e35_run _ _ ?_ (.refl _)
  unfold e35
  have:(a==b)=false:=by
   simp only [beq_eq_false_iff_ne,ne_eq]
   rintro rfl
   exact h rfl
  rw [ints_len,ints_len,ibne_t (by omega),this]
  rfl
set_option maxRecDepth 10000
abbrev w32 (n:Nat):Prop:=n < 4294967296
theorem W_u32n (n:Nat):W .u32 (n:Int)=((n % 4294967296:Nat):Int):=by
 simp [W,IntKind.wrap,IntKind.bits,IntKind.signed]
theorem W_u32l {n:Nat} (h:w32 n):W .u32 (n:Int)=(n:Int):=by rw [W_u32n,Nat.mod_eq_of_lt h]
theorem xor32 {a b:Nat} (ha:w32 a) (hb:w32 b):W .u32 (((BitVec.ofInt (IntKind.bits .u32) (a:Int) ^^^ BitVec.ofInt (IntKind.bits .u32) (b:Int)).toNat:Int))=((a ^^^ b:Nat):Int):=by
 have h:(BitVec.ofInt 32 (a:Int) ^^^ BitVec.ofInt 32 (b:Int)).toNat=a ^^^ b:=by
  rw [BitVec.toNat_xor,BitVec.ofInt_natCast,BitVec.ofInt_natCast,BitVec.toNat_ofNat,BitVec.toNat_ofNat]
  rw [Nat.mod_eq_of_lt ha,Nat.mod_eq_of_lt hb]
 change W .u32 (((BitVec.ofInt 32 (a:Int) ^^^ BitVec.ofInt 32 (b:Int)).toNat:Int))=_
 rw [h]
 exact W_u32l (Nat.xor_lt_two_pow (n:=32) ha hb)
theorem and32 {a b:Nat} (ha:w32 a) (hb:w32 b):W .u32 (((BitVec.ofInt (IntKind.bits .u32) (a:Int) &&& BitVec.ofInt (IntKind.bits .u32) (b:Int)).toNat:Int))=((a &&& b:Nat):Int):=by
 have h:(BitVec.ofInt 32 (a:Int) &&& BitVec.ofInt 32 (b:Int)).toNat=a &&& b:=by
  rw [BitVec.toNat_and,BitVec.ofInt_natCast,BitVec.ofInt_natCast,BitVec.toNat_ofNat,BitVec.toNat_ofNat]
  rw [Nat.mod_eq_of_lt ha,Nat.mod_eq_of_lt hb]
 change W .u32 (((BitVec.ofInt 32 (a:Int) &&& BitVec.ofInt 32 (b:Int)).toNat:Int))=_
 rw [h]
 exact W_u32l (Nat.and_lt_two_pow (n:=32) _ hb)
theorem fdiv_pow (a j:Nat):((a:Int)).fdiv (2 ^ j)=((a / 2 ^ j:Nat):Int):=by
 rw [show ((2:Int) ^ j)=((2 ^ j:Nat):Int) by simp,Int.fdiv_eq_ediv_of_nonneg _ (Int.natCast_nonneg _)];rfl
def bit1 (x:Nat):Nat:=if x % 2=1 then (x / 2) ^^^ 2197175160 else x / 2
theorem bit1_lt {x:Nat} (h:w32 x):w32 (bit1 x):=by
 unfold bit1
 split
 ·exact Nat.xor_lt_two_pow (n:=32) (by unfold w32 at h;omega) (by decide)
 ·unfold w32 at *;omega
def bitN:Nat->Nat->Nat
 | 0,x=>x
 | k+1,x=>bitN k (bit1 x)
theorem bitN_lt:∀(k:Nat) {x:Nat},w32 x->w32 (bitN k x)
 | 0,_,h=>h
 | k+1,_,h=>bitN_lt k (bit1_lt h)
theorem laid_loop:∀(d i x:Nat),i+d=4->w32 x->Go qk false 0 fa64 (.head 0 (T64_0 (x:Int) (i:Int))) (.done (.int .u32 (bitN d x:Nat))):=by
 intro d
 induction d with
 | zero =>
  intro i x hi hx
  refine s64_0_run _ _ ?_ (.refl _)
  unfold s64_0
  rw [decide_eq_false (by omega)];rfl
 | succ d ih =>
  intro i x hi hx
  refine s64_0_run _ _ ?_ (ih (i+1) (bit1 x) (by omega) (bit1_lt hx))
  unfold s64_0
  have w3:W .i64 ((i:Int)+1)=((i+1:Nat):Int):=by rw [W_i64 (by omega)];omega
  have ha:=and32 hx (show w32 1 by decide)
  rw [Nat.and_one_is_mod] at ha
  have hd:((x:Int)).fdiv (2 ^ (min 1 (IntKind.bits .u32)))=((x / 2:Nat):Int):=fdiv_pow x 1
  have hxo:W .u32 (((BitVec.ofInt (IntKind.bits .u32) (((x / 2:Nat):Nat):Int) ^^^ BitVec.ofInt (IntKind.bits .u32) 2197175160).toNat:Int))=(((x / 2) ^^^ 2197175160:Nat):Int) :=
   xor32 (show w32 (x / 2) by unfold w32 at *;omega) (show w32 2197175160 by decide)
  have ha':W .u32 (((BitVec.ofInt (IntKind.bits .u32) (x:Int) &&& BitVec.ofInt (IntKind.bits .u32) 1).toNat:Int))=((x % 2:Nat):Int):=ha
  rw [decide_eq_true (by omega),cond_true,ha',hd,hxo,w3]
  unfold bit1
  by_cases hb:x % 2=1
  ·rw [if_pos hb,hb];rfl
  ·rw [if_neg hb,show x % 2=0 by omega];rfl
theorem laid_ok (x:Nat) (hx:w32 x):pcW qcfg 64 [.int .u32 (x:Int)]=some (.int .u32 (bitN 4 x:Nat)) :=
 e64_run _ (o:=.head 0 (T64_0 (x:Int) 0)) rfl (laid_loop 4 0 x rfl hx)
def tab:List Nat:=(List.range 16).map (bitN 4)
theorem tab_get {i:Nat} (h:i < 16):tab[i]? = some (bitN 4 i):=by simp [tab,h]
def tabV:List V:=tab.map fun n:Nat=>V.int .u32 (n:Int)
theorem table_ok:pcW qcfg 55 []=some (.agg tabV):=by
 refine e55_run rfl ?_
 refine s55_0_0_run 0 0 0 0 0 0 0 0 0 0 0 0 0 0 0 0 (o:=.head 0 (T55_0 1 ((bitN 4 0:Nat):Int) 0 0 0 0 0 0 0 0 0 0 0 0 0 0 0)) (by unfold s55_0_0;exact pcK_of (laid_ok 0 (by decide)) ▸ rfl) ?_
 refine s55_0_1_run ((bitN 4 0:Nat):Int) 0 0 0 0 0 0 0 0 0 0 0 0 0 0 0 (o:=.head 0 (T55_0 2 ((bitN 4 0:Nat):Int) ((bitN 4 1:Nat):Int) 0 0 0 0 0 0 0 0 0 0 0 0 0 0)) (by unfold s55_0_1;exact pcK_of (laid_ok 1 (by decide)) ▸ rfl) ?_
 refine s55_0_2_run ((bitN 4 0:Nat):Int) ((bitN 4 1:Nat):Int) 0 0 0 0 0 0 0 0 0 0 0 0 0 0 (o:=.head 0 (T55_0 3 ((bitN 4 0:Nat):Int) ((bitN 4 1:Nat):Int) ((bitN 4 2:Nat):Int) 0 0 0 0 0 0 0 0 0 0 0 0 0)) (by unfold s55_0_2;exact pcK_of (laid_ok 2 (by decide)) ▸ rfl) ?_
 refine s55_0_3_run ((bitN 4 0:Nat):Int) ((bitN 4 1:Nat):Int) ((bitN 4 2:Nat):Int) 0 0 0 0 0 0 0 0 0 0 0 0 0 (o:=.head 0 (T55_0 4 ((bitN 4 0:Nat):Int) ((bitN 4 1:Nat):Int) ((bitN 4 2:Nat):Int) ((bitN 4 3:Nat):Int) 0 0 0 0 0 0 0 0 0 0 0 0)) (by unfold s55_0_3;exact pcK_of (laid_ok 3 (by decide)) ▸ rfl) ?_
 refine s55_0_4_run ((bitN 4 0:Nat):Int) ((bitN 4 1:Nat):Int) ((bitN 4 2:Nat):Int) ((bitN 4 3:Nat):Int) 0 0 0 0 0 0 0 0 0 0 0 0 (o:=.head 0 (T55_0 5 ((bitN 4 0:Nat):Int) ((bitN 4 1:Nat):Int) ((bitN 4 2:Nat):Int) ((bitN 4 3:Nat):Int) ((bitN 4 4:Nat):Int) 0 0 0 0 0 0 0 0 0 0 0)) (by unfold s55_0_4;exact pcK_of (laid_ok 4 (by decide)) ▸ rfl) ?_
 refine s55_0_5_run ((bitN 4 0:Nat):Int) ((bitN 4 1:Nat):Int) ((bitN 4 2:Nat):Int) ((bitN 4 3:Nat):Int) ((bitN 4 4:Nat):Int) 0 0 0 0 0 0 0 0 0 0 0 (o:=.head 0 (T55_0 6 ((bitN 4 0:Nat):Int) ((bitN 4 1:Nat):Int) ((bitN 4 2:Nat):Int) ((bitN 4 3:Nat):Int) ((bitN 4 4:Nat):Int) ((bitN 4 5:Nat):Int) 0 0 0 0 0 0 0 0 0 0)) (by unfold s55_0_5;exact pcK_of (laid_ok 5 (by decide)) ▸ rfl) ?_
 refine s55_0_6_run ((bitN 4 0:Nat):Int) ((bitN 4 1:Nat):Int) ((bitN 4 2:Nat):Int) ((bitN 4 3:Nat):Int) ((bitN 4 4:Nat):Int) ((bitN 4 5:Nat):Int) 0 0 0 0 0 0 0 0 0 0 (o:=.head 0 (T55_0 7 ((bitN 4 0:Nat):Int) ((bitN 4 1:Nat):Int) ((bitN 4 2:Nat):Int) ((bitN 4 3:Nat):Int) ((bitN 4 4:Nat):Int) ((bitN 4 5:Nat):Int) ((bitN 4 6:Nat):Int) 0 0 0 0 0 0 0 0 0)) (by unfold s55_0_6;exact pcK_of (laid_ok 6 (by decide)) ▸ rfl) ?_
 refine s55_0_7_run ((bitN 4 0:Nat):Int) ((bitN 4 1:Nat):Int) ((bitN 4 2:Nat):Int) ((bitN 4 3:Nat):Int) ((bitN 4 4:Nat):Int) ((bitN 4 5:Nat):Int) ((bitN 4 6:Nat):Int) 0 0 0 0 0 0 0 0 0 (o:=.head 0 (T55_0 8 ((bitN 4 0:Nat):Int) ((bitN 4 1:Nat):Int) ((bitN 4 2:Nat):Int) ((bitN 4 3:Nat):Int) ((bitN 4 4:Nat):Int) ((bitN 4 5:Nat):Int) ((bitN 4 6:Nat):Int) ((bitN 4 7:Nat):Int) 0 0 0 0 0 0 0 0)) (by unfold s55_0_7;exact pcK_of (laid_ok 7 (by decide)) ▸ rfl) ?_
 refine s55_0_8_run ((bitN 4 0:Nat):Int) ((bitN 4 1:Nat):Int) ((bitN 4 2:Nat):Int) ((bitN 4 3:Nat):Int) ((bitN 4 4:Nat):Int) ((bitN 4 5:Nat):Int) ((bitN 4 6:Nat):Int) ((bitN 4 7:Nat):Int) 0 0 0 0 0 0 0 0 (o:=.head 0 (T55_0 9 ((bitN 4 0:Nat):Int) ((bitN 4 1:Nat):Int) ((bitN 4 2:Nat):Int) ((bitN 4 3:Nat):Int) ((bitN 4 4:Nat):Int) ((bitN 4 5:Nat):Int) ((bitN 4 6:Nat):Int) ((bitN 4 7:Nat):Int) ((bitN 4 8:Nat):Int) 0 0 0 0 0 0 0)) (by unfold s55_0_8;exact pcK_of (laid_ok 8 (by decide)) ▸ rfl) ?_
 refine s55_0_9_run ((bitN 4 0:Nat):Int) ((bitN 4 1:Nat):Int) ((bitN 4 2:Nat):Int) ((bitN 4 3:Nat):Int) ((bitN 4 4:Nat):Int) ((bitN 4 5:Nat):Int) ((bitN 4 6:Nat):Int) ((bitN 4 7:Nat):Int) ((bitN 4 8:Nat):Int) 0 0 0 0 0 0 0 (o:=.head 0 (T55_0 10 ((bitN 4 0:Nat):Int) ((bitN 4 1:Nat):Int) ((bitN 4 2:Nat):Int) ((bitN 4 3:Nat):Int) ((bitN 4 4:Nat):Int) ((bitN 4 5:Nat):Int) ((bitN 4 6:Nat):Int) ((bitN 4 7:Nat):Int) ((bitN 4 8:Nat):Int) ((bitN 4 9:Nat):Int) 0 0 0 0 0 0)) (by unfold s55_0_9;exact pcK_of (laid_ok 9 (by decide)) ▸ rfl) ?_
 refine s55_0_10_run ((bitN 4 0:Nat):Int) ((bitN 4 1:Nat):Int) ((bitN 4 2:Nat):Int) ((bitN 4 3:Nat):Int) ((bitN 4 4:Nat):Int) ((bitN 4 5:Nat):Int) ((bitN 4 6:Nat):Int) ((bitN 4 7:Nat):Int) ((bitN 4 8:Nat):Int) ((bitN 4 9:Nat):Int) 0 0 0 0 0 0 (o:=.head 0 (T55_0 11 ((bitN 4 0:Nat):Int) ((bitN 4 1:Nat):Int) ((bitN 4 2:Nat):Int) ((bitN 4 3:Nat):Int) ((bitN 4 4:Nat):Int) ((bitN 4 5:Nat):Int) ((bitN 4 6:Nat):Int) ((bitN 4 7:Nat):Int) ((bitN 4 8:Nat):Int) ((bitN 4 9:Nat):Int) ((bitN 4 10:Nat):Int) 0 0 0 0 0)) (by unfold s55_0_10;exact pcK_of (laid_ok 10 (by decide)) ▸ rfl) ?_
 refine s55_0_11_run ((bitN 4 0:Nat):Int) ((bitN 4 1:Nat):Int) ((bitN 4 2:Nat):Int) ((bitN 4 3:Nat):Int) ((bitN 4 4:Nat):Int) ((bitN 4 5:Nat):Int) ((bitN 4 6:Nat):Int) ((bitN 4 7:Nat):Int) ((bitN 4 8:Nat):Int) ((bitN 4 9:Nat):Int) ((bitN 4 10:Nat):Int) 0 0 0 0 0 (o:=.head 0 (T55_0 12 ((bitN 4 0:Nat):Int) ((bitN 4 1:Nat):Int) ((bitN 4 2:Nat):Int) ((bitN 4 3:Nat):Int) ((bitN 4 4:Nat):Int) ((bitN 4 5:Nat):Int) ((bitN 4 6:Nat):Int) ((bitN 4 7:Nat):Int) ((bitN 4 8:Nat):Int) ((bitN 4 9:Nat):Int) ((bitN 4 10:Nat):Int) ((bitN 4 11:Nat):Int) 0 0 0 0)) (by unfold s55_0_11;exact pcK_of (laid_ok 11 (by decide)) ▸ rfl) ?_
 refine s55_0_12_run ((bitN 4 0:Nat):Int) ((bitN 4 1:Nat):Int) ((bitN 4 2:Nat):Int) ((bitN 4 3:Nat):Int) ((bitN 4 4:Nat):Int) ((bitN 4 5:Nat):Int) ((bitN 4 6:Nat):Int) ((bitN 4 7:Nat):Int) ((bitN 4 8:Nat):Int) ((bitN 4 9:Nat):Int) ((bitN 4 10:Nat):Int) ((bitN 4 11:Nat):Int) 0 0 0 0 (o:=.head 0 (T55_0 13 ((bitN 4 0:Nat):Int) ((bitN 4 1:Nat):Int) ((bitN 4 2:Nat):Int) ((bitN 4 3:Nat):Int) ((bitN 4 4:Nat):Int) ((bitN 4 5:Nat):Int) ((bitN 4 6:Nat):Int) ((bitN 4 7:Nat):Int) ((bitN 4 8:Nat):Int) ((bitN 4 9:Nat):Int) ((bitN 4 10:Nat):Int) ((bitN 4 11:Nat):Int) ((bitN 4 12:Nat):Int) 0 0 0)) (by unfold s55_0_12;exact pcK_of (laid_ok 12 (by decide)) ▸ rfl) ?_
 refine s55_0_13_run ((bitN 4 0:Nat):Int) ((bitN 4 1:Nat):Int) ((bitN 4 2:Nat):Int) ((bitN 4 3:Nat):Int) ((bitN 4 4:Nat):Int) ((bitN 4 5:Nat):Int) ((bitN 4 6:Nat):Int) ((bitN 4 7:Nat):Int) ((bitN 4 8:Nat):Int) ((bitN 4 9:Nat):Int) ((bitN 4 10:Nat):Int) ((bitN 4 11:Nat):Int) ((bitN 4 12:Nat):Int) 0 0 0 (o:=.head 0 (T55_0 14 ((bitN 4 0:Nat):Int) ((bitN 4 1:Nat):Int) ((bitN 4 2:Nat):Int) ((bitN 4 3:Nat):Int) ((bitN 4 4:Nat):Int) ((bitN 4 5:Nat):Int) ((bitN 4 6:Nat):Int) ((bitN 4 7:Nat):Int) ((bitN 4 8:Nat):Int) ((bitN 4 9:Nat):Int) ((bitN 4 10:Nat):Int) ((bitN 4 11:Nat):Int) ((bitN 4 12:Nat):Int) ((bitN 4 13:Nat):Int) 0 0)) (by unfold s55_0_13;exact pcK_of (laid_ok 13 (by decide)) ▸ rfl) ?_
 refine s55_0_14_run ((bitN 4 0:Nat):Int) ((bitN 4 1:Nat):Int) ((bitN 4 2:Nat):Int) ((bitN 4 3:Nat):Int) ((bitN 4 4:Nat):Int) ((bitN 4 5:Nat):Int) ((bitN 4 6:Nat):Int) ((bitN 4 7:Nat):Int) ((bitN 4 8:Nat):Int) ((bitN 4 9:Nat):Int) ((bitN 4 10:Nat):Int) ((bitN 4 11:Nat):Int) ((bitN 4 12:Nat):Int) ((bitN 4 13:Nat):Int) 0 0 (o:=.head 0 (T55_0 15 ((bitN 4 0:Nat):Int) ((bitN 4 1:Nat):Int) ((bitN 4 2:Nat):Int) ((bitN 4 3:Nat):Int) ((bitN 4 4:Nat):Int) ((bitN 4 5:Nat):Int) ((bitN 4 6:Nat):Int) ((bitN 4 7:Nat):Int) ((bitN 4 8:Nat):Int) ((bitN 4 9:Nat):Int) ((bitN 4 10:Nat):Int) ((bitN 4 11:Nat):Int) ((bitN 4 12:Nat):Int) ((bitN 4 13:Nat):Int) ((bitN 4 14:Nat):Int) 0)) (by unfold s55_0_14;exact pcK_of (laid_ok 14 (by decide)) ▸ rfl) ?_
 refine s55_0_15_run ((bitN 4 0:Nat):Int) ((bitN 4 1:Nat):Int) ((bitN 4 2:Nat):Int) ((bitN 4 3:Nat):Int) ((bitN 4 4:Nat):Int) ((bitN 4 5:Nat):Int) ((bitN 4 6:Nat):Int) ((bitN 4 7:Nat):Int) ((bitN 4 8:Nat):Int) ((bitN 4 9:Nat):Int) ((bitN 4 10:Nat):Int) ((bitN 4 11:Nat):Int) ((bitN 4 12:Nat):Int) ((bitN 4 13:Nat):Int) ((bitN 4 14:Nat):Int) 0 (o:=.head 0 (T55_0 16 ((bitN 4 0:Nat):Int) ((bitN 4 1:Nat):Int) ((bitN 4 2:Nat):Int) ((bitN 4 3:Nat):Int) ((bitN 4 4:Nat):Int) ((bitN 4 5:Nat):Int) ((bitN 4 6:Nat):Int) ((bitN 4 7:Nat):Int) ((bitN 4 8:Nat):Int) ((bitN 4 9:Nat):Int) ((bitN 4 10:Nat):Int) ((bitN 4 11:Nat):Int) ((bitN 4 12:Nat):Int) ((bitN 4 13:Nat):Int) ((bitN 4 14:Nat):Int) ((bitN 4 15:Nat):Int))) (by unfold s55_0_15;exact pcK_of (laid_ok 15 (by decide)) ▸ rfl) ?_
 refine s55_0_16_run ((bitN 4 0:Nat):Int) ((bitN 4 1:Nat):Int) ((bitN 4 2:Nat):Int) ((bitN 4 3:Nat):Int) ((bitN 4 4:Nat):Int) ((bitN 4 5:Nat):Int) ((bitN 4 6:Nat):Int) ((bitN 4 7:Nat):Int) ((bitN 4 8:Nat):Int) ((bitN 4 9:Nat):Int) ((bitN 4 10:Nat):Int) ((bitN 4 11:Nat):Int) ((bitN 4 12:Nat):Int) ((bitN 4 13:Nat):Int) ((bitN 4 14:Nat):Int) ((bitN 4 15:Nat):Int) (o:=.done (.agg tabV)) ?_ (.refl _)
 rfl
def crcStep (n:Nat) (c:UInt8):Nat :=
 let a:=n ^^^ c.toNat
 let b:=(a / 16) ^^^ bitN 4 (a % 16)
 (b / 16) ^^^ bitN 4 (b % 16)
theorem half_lt {a:Nat} (h:w32 a):w32 ((a / 16) ^^^ bitN 4 (a % 16)):=Nat.xor_lt_two_pow (n:=32) (by unfold w32 at *;omega) (bitN_lt 4 (by unfold w32 at *;omega))
theorem crcStep_lt {n:Nat} (c:UInt8) (h:w32 n):w32 (crcStep n c):=half_lt (half_lt (Nat.xor_lt_two_pow (n:=32) h (by have:=c.toNat_lt;omega)))
theorem crcFold_lt:∀(s:Bs) {n:Nat},w32 n->w32 (s.foldl crcStep n)
 | [],_,h=>h
 | c::s,_,h=>crcFold_lt s (crcStep_lt c h)
def crc (s:Bs):Nat:=4294967295 ^^^ s.foldl crcStep 4294967295
theorem crc_lt (s:Bs):w32 (crc s):=Nat.xor_lt_two_pow (n:=32) (by decide) (crcFold_lt s (by decide))
theorem idx_tab {n:Nat} (h:n < 16) {k:V->R}:idxK tabV (0+n * 1) k=k (.int .u32 (bitN 4 n:Nat)):=by
 rw [Nat.zero_add,Nat.mul_one]
 exact idxK_of (by simp [tabV,tab_get h])
theorem half_ok {a:Nat} (h:w32 a):W .u32 (((BitVec.ofInt (IntKind.bits .u32) (((a:Int)).fdiv (2 ^ (min 4 (IntKind.bits .u32)))) ^^^ BitVec.ofInt (IntKind.bits .u32) ((bitN 4 (a % 16):Nat):Int)).toNat:Int))=(((a / 16) ^^^ bitN 4 (a % 16):Nat):Int):=by
 rw [show ((a:Int)).fdiv (2 ^ (min 4 (IntKind.bits .u32)))=((a / 16:Nat):Int) from fdiv_pow a 4]
 exact xor32 (by unfold w32 at *;omega) (bitN_lt 4 (by unfold w32 at *;omega))
theorem tabV_eq:tabV=[V.int .u32 ((bitN 4 0:Nat):Int),V.int .u32 ((bitN 4 1:Nat):Int),V.int .u32 ((bitN 4 2:Nat):Int),V.int .u32 ((bitN 4 3:Nat):Int),V.int .u32 ((bitN 4 4:Nat):Int),V.int .u32 ((bitN 4 5:Nat):Int),V.int .u32 ((bitN 4 6:Nat):Int),V.int .u32 ((bitN 4 7:Nat):Int),V.int .u32 ((bitN 4 8:Nat):Int),V.int .u32 ((bitN 4 9:Nat):Int),V.int .u32 ((bitN 4 10:Nat):Int),V.int .u32 ((bitN 4 11:Nat):Int),V.int .u32 ((bitN 4 12:Nat):Int),V.int .u32 ((bitN 4 13:Nat):Int),V.int .u32 ((bitN 4 14:Nat):Int),V.int .u32 ((bitN 4 15:Nat):Int)]:=rfl
theorem of_loop (s:Bs) (hs:small s):∀(d i n:Nat),i+d=s.length->w32 n ->
  Go qk false 0 fa47 (.head 0 (T47_0 (n:Int) (bytesV s) (s.length:Int) (i:Int) ((bitN 4 0:Nat):Int) ((bitN 4 1:Nat):Int) ((bitN 4 2:Nat):Int) ((bitN 4 3:Nat):Int) ((bitN 4 4:Nat):Int) ((bitN 4 5:Nat):Int) ((bitN 4 6:Nat):Int) ((bitN 4 7:Nat):Int) ((bitN 4 8:Nat):Int) ((bitN 4 9:Nat):Int) ((bitN 4 10:Nat):Int) ((bitN 4 11:Nat):Int) ((bitN 4 12:Nat):Int) ((bitN 4 13:Nat):Int) ((bitN 4 14:Nat):Int) ((bitN 4 15:Nat):Int)))
   (.done (.int .u32 ((4294967295 ^^^ (s.drop i).foldl crcStep n:Nat):Int))):=by
 intro d
 induction d with
 | zero =>
  intro i n hi hn
  refine s47_0_run _ _ _ _  _ _ _ _ _ _ _ _ _ _ _ _ _ _ _ _ ?_ (.refl _)
  unfold s47_0
  rw [decide_eq_false (by omega),cond_false,List.drop_eq_nil_of_le (by omega)]
  have:=xor32 (show w32 4294967295 by decide) hn
  rw [show W .u32 (((BitVec.ofInt (IntKind.bits .u32) 4294967295 ^^^ BitVec.ofInt (IntKind.bits .u32) (n:Int)).toNat:Int))=_ from this]
  rfl
 | succ d ih =>
  intro i n hi hn
  have hsl:=hs
  have hlt:i < s.length:=by omega
  obtain ⟨c,hc⟩:∃c,s[i]? = some c:=⟨_,List.getElem?_eq_getElem hlt⟩
  have e1:s.drop i=c::s.drop (i+1):=by rw [List.drop_eq_getElem_cons hlt];congr 1;simpa [List.getElem?_eq_getElem hlt] using hc
  rw [e1,List.foldl_cons]
  refine s47_0_run _ _ _ _  _ _ _ _ _ _ _ _ _ _ _ _ _ _ _ _ ?_ (ih (i+1) (crcStep n c) (by omega) (crcStep_lt c hn))
  unfold s47_0
  have hcl:=c.toNat_lt
  have hg:(bytesV s)[i]? = some (V.int .u8 (c.toNat:Int)):=by simp [bytesV,hc]
  have w3:W .i64 ((i:Int)+1)=((i+1:Nat):Int):=by rw [W_i64 (by omega)];omega
  have ha:w32 (n ^^^ c.toNat):=Nat.xor_lt_two_pow (n:=32) hn (by omega)
  have hx:=xor32 hn (show w32 c.toNat by unfold w32;omega)
  simp only [<-tabV_eq]
  rw [decide_eq_true (by omega),cond_true,toNat_cast]
  rw [idxK_of hg,kI_mk,W_u32l (show w32 c.toNat by unfold w32;omega),hx]
  generalize hA:n ^^^ c.toNat=a at *
  rw [show ((a:Nat):Int).tmod 16=((a % 16:Nat):Int) from tmod_nat a 16,toNat_cast,gd_of (decide_eq_true (by omega)),gd_of (decide_eq_true (by omega)),idx_tab (by omega),kI_mk,half_ok ha]
  generalize hB:a / 16 ^^^ bitN 4 (a % 16)=b
  have hb:w32 b:=hB ▸ half_lt ha
  rw [show ((b:Nat):Int).tmod 16=((b % 16:Nat):Int) from tmod_nat b 16,toNat_cast,gd_of (decide_eq_true (by omega)),gd_of (decide_eq_true (by omega)),idx_tab (by omega),kI_mk,half_ok hb,w3]
  subst hB hA
  rw [gd_of (decide_eq_true (by omega))]
  rfl
theorem of_ok (s:Bs) (hs:small s):pcW qcfg 47 [.str s]=some (.int .u32 ((crc s:Nat):Int)):=by
 refine e47_run _ ?_ (of_loop s hs s.length 0 4294967295 (by omega) (by decide))
 unfold e47
 rw [pcK_of table_ok,tabV_eq,d90_mk]
 simp [bytesV]
def zeros (n:Nat):Bs:=List.replicate n 0
def sealB (w:Bs):Bs:=w++leN 4 (crc w)
def padW (s:Bs):Bs:=s++zeros (252 - s.length)
theorem padW_len {s:Bs} (h:s.length<=252):(padW s).length=252:=by simp [padW,zeros];omega
theorem padB_252 {s:Bs} (h:s.length<=252):padB s 252=(padW s,0):=by
 unfold padB
 rw [if_neg (by omega),if_neg (by omega)];rfl
theorem sealB_len {w:Bs} (h:w.length=252):(sealB w).length=256:=by simp [sealB,leN_len,h]
def sealE (s:Bs):Bs × Int:=if 252 < s.length then ([],2) else (sealB (padW s),0)
theorem seal_ok (s:Bs) (hs:small s):pcW qcfg 53 [.str s]=some (.tup [.str (sealE s).1,.int .i64 (sealE s).2]):=by
 refine e53_done _ ?_
 unfold e53 sealE
 by_cases h:252 < s.length
 ·rw [decide_eq_true (by omega),if_pos h];rfl
 ·have hw:=padW_len (s:=s) (by omega)
  have hsw:small (padW s):=by unfold small;omega
  have h2:padB (padW s) 256=(padW s++zeros 4,0):=by
   unfold padB
   rw [if_neg (by omega),if_neg (by omega),hw];rfl
  have hl:(padW s++zeros 4).length=256:=by simp [zeros,hw]
  have h3:putB (padW s++zeros 4) 252 4 (crc (padW s))=(sealB (padW s),0):=by
   unfold putB
   rw [roomE_ok (by omega) (by omega) (by omega) (by omega),if_pos rfl,if_pos (by have:=crc_lt (padW s);unfold w32 at this;simpa using this)]
   congr 1
   simp only [overB,sealB,leN_len]
   rw [show (252:Int).toNat=252 from rfl,show (4:Int).toNat=4 from rfl,List.take_left' hw,List.drop_eq_nil_of_le (by omega),List.append_nil]
  rw [decide_eq_false (by omega),cond_false,if_neg h,pcK_of (pad_ok s 252 hs),padB_252 (by omega),d32_mk,pcK_of (pad_ok _ 256 hsw),h2,d32_mk,pcK_of (of_ok _ hsw),kI_mk]
  have hc:=crc_lt (padW s)
  rw [W_u64 (by unfold w32 at hc;omega),pcK_of (put_ok _ 252 4 _ (by unfold w32 at hc;omega) (show small (padW s++zeros 4) by unfold small;omega)),h3,d32_mk]
def openE (p:Bs):Bs × Int:=if p.length=256 then (if unle ((p.drop 252).take 4)=crc (p.take 252) then (p.take 252,0) else ([],5)) else ([],4)
theorem open_ok (p:Bs) (hs:small p):pcW qcfg 32 [.str p]=some (.tup [.str (openE p).1,.int .i64 (openE p).2]):=by
 refine e32_done _ ?_
 unfold e32 openE
 by_cases h:p.length=256
 ·have hg:getB p 252 4=(((unle ((p.drop 252).take 4):Nat):Int),0):=by
   unfold getB
   rw [roomE_ok (by omega) (by omega) (by omega) (by omega),if_pos rfl];rfl
  have hu:=unle_lt ((p.drop 252).take 4)
  have hul:((p.drop 252).take 4).length=4:=by simp [h]
  rw [hul] at hu
  rw [if_pos h,show ((p.length:Int) != (256:Int))=false by simp [h],cond_false,pcK_of (get_ok p 252 4 hs),hg,d40_mk,gd_of (by simp [h]),pcK_of (of_ok _ (by unfold small;simp;omega)),kI_mk,W_u32l (show w32 _ from hu)]
  by_cases hc:unle ((p.drop 252).take 4)=crc (p.take 252)
  ·rw [if_pos hc,hc];simp [h,gd]
  ·rw [if_neg hc,show ((((unle ((p.drop 252).take 4):Nat):Int)) != ((crc (p.take 252):Nat):Int))=true by simp;omega];rfl
 ·rw [if_neg h,show ((p.length:Int) != (256:Int))=true by simp;omega];rfl
theorem open_seal {w:Bs} (h:w.length=252):openE (sealB w)=(w,0):=by
 unfold openE
 rw [if_pos (sealB_len h)]
 unfold sealB
 rw [List.drop_left' h,List.take_left' h,List.take_of_length_le (by simp [leN_len]),unle_leN _ _ (show crc w < 256 ^ 4 from crc_lt w),if_pos rfl]
theorem empty_ok:pcW qcfg 57 []=some (.str (sealB (zeros 252))):=by
 refine e57_done ?_
 unfold e57
 rw [pcK_of (seal_ok [] (by decide)),d32_mk]
 rfl
theorem snoc_ind {α:Type} {P:List α->Prop} (h0:P []) (h1:∀l x,P l->P (l++[x])) (l:List α):P l:=by
 have:∀r:List α,P r.reverse:=by
  intro r
  induction r with
  | nil=>exact h0
  | cons x r ih=>rw [List.reverse_cons];exact h1 _ _ ih
 have h:=this l.reverse
 rwa [List.reverse_reverse] at h
abbrev Ws:=List (Int × Bs)
def wV (w:Int × Bs):V:=.agg [.int .i64 w.1,.str (sealB w.2)]
def wsV (ws:Ws):List V:=ws.map wV
theorem wsV_len (ws:Ws):(wsV ws).length=ws.length:=by simp [wsV]
def cont (ws:Ws) (p:Int):Bs:=ws.foldl (fun a w=>if w.1=p then w.2 else a) (zeros 252)
theorem cont_snoc (ws:Ws) (w:Int × Bs) (p:Int):cont (ws++[w]) p=if w.1=p then w.2 else cont ws p:=by simp [cont]
def wsOk (ws:Ws):Prop:=∀w∈ws,w.2.length=252
theorem cont_len:∀{ws:Ws},wsOk ws->∀p,(cont ws p).length=252:=by
 intro ws h p
 refine snoc_ind (P:=fun ws=>wsOk ws->(cont ws p).length=252) ?_ ?_ ws h
 ·intro _;simp [cont,zeros]
 ·intro ws w ih h
  rw [cont_snoc]
  split
  ·exact h w (by simp)
  ·exact ih fun x hx=>h x (by simp [hx])
theorem backs_snoc (l:List V) (x:V):backsR (l++[x])=[.int .i64 (l.length:Int),x]::backsR l:=by
 simp [backsR,List.zipIdx_append]
theorem backs_nil:backsR []=[]:=rfl
abbrev dsk (k j:Nat) (n:Int):O:=.box 56 (.agg [.int .i64 n,.mp k,.tail j 0]) false
theorem raw_loop (m0 m1:List V) (n:Int) (ws0:List V) (z:Nat) (p:Int):∀(ws:Ws),
  Go qk true 5 fa33 (.head 0 (T33_0 ((backsR (wsV ws)).map .tup) m0 m1 n [] ws0 z p))
   (.doneM (.str (sealB (cont ws p))) [.arena 63 m0,.arena 7 m1,dsk 3 4 n,.map [],.row 88 ws0 z,.box 3 (.int .i64 p) false,.box 9 (.str (sealB (cont ws p))) false]):=by
 intro ws
 refine snoc_ind (P:=fun ws=>Go qk true 5 fa33 (.head 0 (T33_0 ((backsR (wsV ws)).map .tup) m0 m1 n [] ws0 z p))
   (.doneM (.str (sealB (cont ws p))) [.arena 63 m0,.arena 7 m1,dsk 3 4 n,.map [],.row 88 ws0 z,.box 3 (.int .i64 p) false,.box 9 (.str (sealB (cont ws p))) false])) ?_ ?_ ws
 ·refine s33_0_run _ _ _ _ _ _ _ _ ?_ (.refl _)
  unfold s33_0
  simp only [wsV,List.map_nil,backs_nil]
  rw [restK_nil,show ∀(k:V) (a:R) (b:V->R),mfK [] k a b=a from fun _ _ _=>rfl,pcK_of empty_ok,kS_mk]
  rfl
 ·intro ws w ih
  have e:backsR (wsV (ws++[w]))=[.int .i64 (ws.length:Int),wV w]::backsR (wsV ws):=by
   unfold wsV;rw [List.map_append,List.map_cons,List.map_nil,backs_snoc,List.length_map]
  rw [e,List.map_cons,cont_snoc]
  by_cases hw:w.1=p
  ·rw [if_pos hw]
   refine s33_0_run _ _ _ _ _ _ _ _ ?_ (.refl _)
   unfold s33_0
   simp only [restK_cons,wV,kT_mk,unc_mk,kI_mk,d88_mk,unn_mk,hw,ibeq_t,cond_true]
  ·rw [if_neg hw]
   refine s33_0_run _ _ _ _ _ _ _ _ ?_ ih
   unfold s33_0
   simp only [restK_cons,wV,kT_mk,unc_mk,kI_mk,d88_mk,unn_mk,ibeq_f hw,cond_false]
theorem raw_ok (m0 m1:List V) (n:Int) (ws:Ws) (z:Nat) (p:Int) (hp:0<=p) (hn:p < n) (hl:ws.length<=100000) :
  icC qcfg ⟨true,false⟩ 33 [.ptr 2 0 0,.int .i64 p] [.arena 63 m0,.arena 7 m1,dsk 3 4 n,.map [],.row 88 (wsV ws) z] =
   some (mk33 (sealB (cont ws p),m0,m1,n,[],wsV ws,ws.length)):=by
 refine e33_run _ _ _ _ _ _ _ ?_ ⟨_,_,raw_loop m0 m1 n (wsV ws) ws.length p ws,by kernel_rfl⟩
 unfold e33
 rw [decide_eq_true hp,decide_eq_true hn,cond_true,Bool.not_true,cond_false]
 have hb:backP [.ref (.sl (wsV ws)) 0]=some (backsR (wsV ws)):=by
  show (if (wsV ws).length<=16777216/\(wsV ws).all pairV=true then some (backsR (wsV ws)) else none)=_
  rw [if_pos ⟨by rw [wsV_len];omega,by simp [wsV,wV,pairV]⟩]
 rw [hb,opt_mk,wsV_len]
theorem read_ok (m0 m1:List V) (n:Int) (ws:Ws) (z:Nat) (p:Int) (hp:0<=p) (hn:p < n) (hl:ws.length<=100000) (hw:wsOk ws) :
  icC qcfg ⟨true,false⟩ 15 [.ptr 2 0 0,.int .i64 p] [.arena 63 m0,.arena 7 m1,dsk 3 4 n,.map [],.row 88 (wsV ws) z] =
   some (mk15 (cont ws p,0,m0,m1,n,[],wsV ws,ws.length)):=by
 refine e15_run _ _ _ _ _ _ _ (o:=.doneM ?v ?m) ?h (.done ?n)
 case h =>
  unfold e15
  rw [decide_eq_true hp,decide_eq_true hn,cond_true,Bool.not_true,cond_false,icM_of mk33_inj (raw_ok m0 m1 n ws z p hp hn hl)]
  dsimp only
  rw [pcK_of (open_ok _ (by unfold small;rw [sealB_len (cont_len hw p)];omega)),open_seal (cont_len hw p),d32_mk]
 case n=>kernel_rfl
theorem write_norm (m0 m1:List V) (n:Int) (l:List V) (z:Nat) (y l0:List V) (z0:Nat) :
  canNorm ⟨false,false⟩ [.arena 63 m0,.arena 7 m1,dsk 3 4 n,.map [],.row 88 l0 z0] (.int .i64 0) [.arena 63 m0,.arena 7 m1,dsk 3 6 n,.map [],.dead,.row 88 y 0,.row 88 l z]=mk45 (0,m0,m1,n,[],l,z):=by kernel_rfl
theorem write_ok (m0 m1:List V) (n:Int) (ws:Ws) (z:Nat) (p:Int) (s:Bs) (hp:0<=p) (hn:p < n) (hl:ws.length<=100000) (hs:s.length=252) :
  icC qcfg ⟨false,false⟩ 45 [.ptr 2 0 0,.int .i64 p,.str s] [.arena 63 m0,.arena 7 m1,dsk 3 4 n,.map [],.row 88 (wsV ws) z] =
   some (mk45 (0,m0,m1,n,[],wsV (ws++[(p,s)]),z)):=by
 refine e45_run _ _ _ _ _ _ _ _ (o:=.doneM ?v ?m) ?h (.done ?n)
 case h =>
  unfold e45
  have h1:sealE s=(sealB s,0):=by
   unfold sealE
   rw [if_neg (by omega)]
   have:padW s=s:=by unfold padW;rw [hs];exact List.append_nil _
   rw [this]
  have h2:(Nat.beq z 0 || Nat.blt 0 z)=true:=by cases z<;>rfl
  rw [decide_eq_true (show p ≥ 0 from hp),decide_eq_true hn,cond_true,Bool.not_true,cond_false,pcK_of (seal_ok s (by unfold small;omega)),h1,d32_mk,h2]
  simp only [beq_self_eq_true,cond_true]
  rw [gd_of rfl,gd_of (by simp [wsV_len];omega)]
 case n =>
  have h3:(cond (Nat.beq z 0) 0 (z - 0))=z:=by cases z<;>rfl
  have h4:wsV ws++[V.agg [V.int .i64 p,V.str (sealB s)]]=wsV (ws++[(p,s)]):=by simp [wsV,wV]
  rw [h3,h4]
  exact write_norm m0 m1 n (wsV (ws++[(p,s)])) z [V.agg [V.int .i64 p,V.str (sealB s)]] _ _
structure Pg where
 page:Int
 s:Bs
 pins:Int
 dirty:Bool
 first:Int
 last:Int
def placeV (x:Pg):V:=.agg [.str x.s,.int .i64 x.pins,.bool x.dirty,.int .i64 x.first,.int .i64 x.last]
theorem d63_pl (x:Pg) (k:Bs->Int->Bool->Int->Int->R):d63 (placeV x) k=k x.s x.pins x.dirty x.first x.last:=rfl
def ent (ix:Int->Nat) (p:Int):V × V:=(.int .i64 p,.hp 63 (ix p) 0)
def mpV (ks:List Int) (ix:Int->Nat):List (V × V):=ks.map (ent ix)
def pgs (L:List Pg):List Int:=L.map Pg.page
theorem mf_in {ix:Int->Nat} {p:Int}:∀{ks:List Int},p∈ks->mapFind (mpV ks ix) (.int .i64 p)=some (some (.hp 63 (ix p) 0))
 | [],h=>nomatch h
 | q::ks,h=>by
  show ((eq1 (.int .i64 p) (.int .i64 q)).bind fun b=>if b then some (some (V.hp 63 (ix q) 0)) else mapFind (mpV ks ix) (.int .i64 p))=_
  have e:eq1 (.int .i64 p) (.int .i64 q)=some (p==q):=rfl
  rw [e,Option.bind_some]
  by_cases hpq:p=q
  ·subst hpq;rw [if_pos (by simp)]
  ·rw [if_neg (by simpa using hpq)];exact mf_in (by simpa [hpq] using h)
theorem mf_out {ix:Int->Nat} {p:Int}:∀{ks:List Int},p∉ks->mapFind (mpV ks ix) (.int .i64 p)=some none
 | [],h=>rfl
 | q::ks,h=>by
  show ((eq1 (.int .i64 p) (.int .i64 q)).bind fun b=>if b then some (some (V.hp 63 (ix q) 0)) else mapFind (mpV ks ix) (.int .i64 p))=_
  have e:eq1 (.int .i64 p) (.int .i64 q)=some (p==q):=rfl
  have hpq:¬p=q:=by rintro rfl;exact h (by simp)
  rw [e,Option.bind_some,if_neg (by simpa using hpq)]
  exact mf_out fun hk=>h (by simp [hk])
theorem put_out {ix:Int->Nat} {p:Int} {v:V}:∀{ks:List Int},p∉ks->mapPut (mpV ks ix) (.int .i64 p) v=some (mpV ks ix++[(.int .i64 p,v)])
 | [],h=>rfl
 | q::ks,h=>by
  show ((eq1 (.int .i64 p) (.int .i64 q)).bind fun b=>if b then some ((V.int .i64 q,v)::mpV ks ix) else (mapPut (mpV ks ix) (.int .i64 p) v).map (ent ix q::·))=_
  have e:eq1 (.int .i64 p) (.int .i64 q)=some (p==q):=rfl
  have hpq:¬p=q:=by rintro rfl;exact h (by simp)
  rw [e,Option.bind_some,if_neg (by simpa using hpq),put_out fun hk=>h (by simp [hk])]
  rfl
theorem del_in {ix:Int->Nat} {p:Int}:∀{ks:List Int},mapDel (mpV ks ix) (.int .i64 p)=some (mpV (ks.erase p) ix)
 | []=>rfl
 | q::ks=>by
  show ((eq1 (.int .i64 p) (.int .i64 q)).bind fun b=>if b then some (mpV ks ix) else (mapDel (mpV ks ix) (.int .i64 p)).map (ent ix q::·))=_
  have e:eq1 (.int .i64 p) (.int .i64 q)=some (p==q):=rfl
  rw [e,Option.bind_some]
  by_cases hpq:p=q
  ·subst hpq;rw [if_pos (by simp)];simp
  ·rw [if_neg (by simpa using hpq),del_in,List.erase_cons_tail (by simpa using fun h=>hpq h.symm)];rfl
structure Rep (ar:List V) (ks:List Int) (ix:Int->Nat) (L:List Pg):Prop where
 perm:ks.Perm (pgs L)
 nd:(pgs L).Nodup
 at_:∀x∈L,ar[ix x.page]? = some (placeV x)
 inj:∀x∈L,∀y∈L,ix x.page=ix y.page->x.page=y.page
def findP (L:List Pg) (p:Int):Option Pg:=L.find? fun x=>x.page==p
def cutP (L:List Pg) (p:Int):List Pg:=L.filter fun x=>x.page != p
theorem findP_some {L:List Pg} {p:Int} {x:Pg} (h:findP L p=some x):x∈L/\x.page=p:=⟨List.mem_of_find?_eq_some h,by simpa using List.find?_some h⟩
theorem findP_none {L:List Pg} {p:Int} (h:findP L p=none):p∉pgs L:=by
 intro hp
 obtain ⟨x,hx,e⟩:=List.mem_map.1 hp
 have:=List.find?_eq_none.1 h x hx
 exact this (by simp [e])
theorem findP_of {L:List Pg} (hn:(pgs L).Nodup) {x:Pg} (hx:x∈L):findP L x.page=some x:=by
 induction L with
 | nil=>cases hx
 | cons y L ih =>
  unfold findP
  rw [List.find?_cons]
  by_cases h:y.page=x.page
  ·rw [show (y.page==x.page)=true by simp [h]]
   rcases List.mem_cons.1 hx with rfl | hx
   ·rfl
   ·exact absurd (List.mem_map.2 ⟨x,hx,rfl⟩) (h ▸ (List.nodup_cons.1 hn).1)
  ·rw [show (y.page==x.page)=false by simp [h]]
   rcases List.mem_cons.1 hx with rfl | hx
   ·exact absurd rfl h
   ·exact ih (List.nodup_cons.1 hn).2 hx
section
variable {ar:List V} {ks:List Int} {ix:Int->Nat} {L:List Pg}
theorem Rep.mf (h:Rep ar ks ix L) {x:Pg} (hx:x∈L) (kn:R) (k:V->R):mfK (mpV ks ix) (.int .i64 x.page) kn k=k (.hp 63 (ix x.page) 0):=by
 unfold mfK
 rw [mf_in (h.perm.mem_iff.2 (List.mem_map.2 ⟨x,hx,rfl⟩))]
theorem Rep.mn (h:Rep ar ks ix L) {p:Int} (hp:findP L p=none) (kn:R) (k:V->R):mfK (mpV ks ix) (.int .i64 p) kn k=kn:=by
 unfold mfK
 rw [mf_out fun hk=>findP_none hp (h.perm.mem_iff.1 hk)]
theorem Rep.ax (h:Rep ar ks ix L) {x:Pg} (hx:x∈L) (k:V->R):idxK ar (ix x.page) k=k (placeV x):=idxK_of (h.at_ x hx)
theorem Rep.len (h:Rep ar ks ix L):(mpV ks ix).length=L.length:=by
 have:=h.perm.length_eq
 simp [mpV,pgs] at *;exact this
theorem Rep.lt (h:Rep ar ks ix L) {x:Pg} (hx:x∈L):ix x.page < ar.length:=by
 have:=h.at_ x hx
 exact (List.getElem?_eq_some_iff.1 this).1
theorem Rep.set (h:Rep ar ks ix L) {x x':Pg} (hx:x∈L) (hp:x'.page=x.page) {L2:List Pg} (h1:(pgs L2).Perm (pgs L)) (h2:∀y∈L2,y=x'∨(y∈L/\y.page≠x.page)) :
  Rep (ar.set (ix x.page) (placeV x')) ks ix L2:=by
 refine ⟨h.perm.trans h1.symm,h1.nodup_iff.2 h.nd,?_,?_⟩
 ·intro y hy
  rcases h2 y hy with rfl | ⟨hy1,hy2⟩
  ·rw [hp];simp [h.lt hx]
  ·rw [List.getElem?_set_ne (fun e=>hy2 (h.inj _ hx _ hy1 e).symm)]
   exact h.at_ y hy1
 ·have hm:∀y∈L2,∃z∈L,z.page=y.page:=fun y hy=>by
   have:=h1.mem_iff.1 (List.mem_map.2 ⟨y,hy,rfl⟩)
   obtain ⟨z,hz,e⟩:=List.mem_map.1 this
   exact ⟨z,hz,e⟩
  intro y hy z hz e
  obtain ⟨y',hy',ey⟩:=hm y hy
  obtain ⟨z',hz',ez⟩:=hm z hz
  rw [<-ey,<-ez] at e |-
  exact h.inj _ hy' _ hz' e
def updI (ix:Int->Nat) (p:Int) (n:Nat):Int->Nat:=fun q=>if q=p then n else ix q
theorem Rep.add (h:Rep ar ks ix L) {x:Pg} (hx:x.page∉pgs L):Rep (ar++[placeV x]) (ks++[x.page]) (updI ix x.page ar.length) (L++[x]):=by
 have hne:∀y∈L,y.page≠x.page:=fun y hy e=>hx (List.mem_map.2 ⟨y,hy,e⟩)
 have hu:∀y∈L,updI ix x.page ar.length y.page=ix y.page:=fun y hy=>by unfold updI;rw [if_neg (hne y hy)]
 have hux:updI ix x.page ar.length x.page=ar.length:=by simp [updI]
 refine ⟨?_,?_,?_,?_⟩
 ·simp only [pgs,List.map_append,List.map_cons,List.map_nil]
  exact h.perm.append_right _
 ·simp only [pgs,List.map_append,List.map_cons,List.map_nil]
  rw [List.nodup_append]
  refine ⟨h.nd,by simp,?_⟩
  intro a ha b hb
  simp only [List.mem_singleton] at hb
  subst hb
  rintro rfl
  exact hx ha
 ·intro y hy
  rcases List.mem_append.1 hy with hy | hy
  ·rw [hu y hy,List.getElem?_append_left (h.lt hy)];exact h.at_ y hy
  ·simp only [List.mem_singleton] at hy
   subst hy
   rw [hux];simp
 ·intro y hy z hz e
  rcases List.mem_append.1 hy with hy1 | hy1<;>rcases List.mem_append.1 hz with hz1 | hz1
  ·rw [hu y hy1,hu z hz1] at e;exact h.inj _ hy1 _ hz1 e
  ·simp only [List.mem_singleton] at hz1
   rw [hu y hy1,hz1,hux] at e
   exact absurd (h.lt hy1) (by omega)
  ·simp only [List.mem_singleton] at hy1
   rw [hu z hz1,hy1,hux] at e
   exact absurd (h.lt hz1) (by omega)
  ·simp only [List.mem_singleton] at hy1 hz1
   rw [hy1,hz1]
theorem mpV_add (h:Rep ar ks ix L) {x:Pg} (hx:x.page∉pgs L) (n:Nat):mpV ks ix++[(.int .i64 x.page,.hp 63 n 0)]=mpV (ks++[x.page]) (updI ix x.page n):=by
 unfold mpV
 rw [List.map_append]
 congr 1
 ·apply List.map_congr_left
  intro q hq
  have:q≠x.page:=by rintro rfl;exact hx (h.perm.mem_iff.1 hq)
  simp [ent,updI,this]
 ·simp [ent,updI]
theorem pgs_cut (L:List Pg) (p:Int):pgs (cutP L p)=(pgs L).filter (· != p):=by
 simp [pgs,cutP,List.filter_map]
 rfl
theorem Rep.cut (h:Rep ar ks ix L) (p:Int):Rep ar (ks.erase p) ix (cutP L p):=by
 refine ⟨?_,?_,fun x hx=>h.at_ x (List.mem_filter.1 hx).1,fun x hx y hy=>h.inj x (List.mem_filter.1 hx).1 y (List.mem_filter.1 hy).1⟩
 ·rw [pgs_cut,<-h.nd.erase_eq_filter]
  exact h.perm.erase p
 ·rw [pgs_cut];exact h.nd.filter _
theorem cut_perm {x:Pg} (hn:(pgs L).Nodup) (hx:x∈L):(cutP L x.page++[x]).Perm L:=by
 induction L with
 | nil=>cases hx
 | cons y L ih =>
  have hy:=List.nodup_cons.1 hn
  unfold cutP
  by_cases h:y.page=x.page
  ·have hyx:y=x:=by
    rcases List.mem_cons.1 hx with rfl | hx
    ·rfl
    ·exact absurd (List.mem_map.2 ⟨x,hx,rfl⟩) (h ▸ hy.1)
   subst hyx
   have:cutP L y.page=L:=List.filter_eq_self.2 fun z hz=>by
    simp only [bne_iff_ne,ne_eq]
    rintro e
    exact hy.1 (List.mem_map.2 ⟨z,hz,e⟩)
   unfold cutP at this
   rw [List.filter_cons_of_neg (by simp),this]
   exact List.perm_append_singleton y L
  ·rw [List.filter_cons_of_pos (by simpa using h),List.cons_append]
   rcases List.mem_cons.1 hx with rfl | hx
   ·exact absurd rfl h
   ·exact (ih hy.2 hx).cons y
end
def idxF {α:Type} (q:α->Bool):Nat->List α->Int
 | _,[]=>-1
 | k,c::r=>if q c then (k:Int) else idxF q (k+1) r
theorem idxF_spec {α:Type} (q:α->Bool):∀(r:List α) (k:Nat),(idxF q k r = -1/\∀c∈r,q c=false)∨∃pre c post,r=pre++c::post/\(∀x∈pre,q x=false)/\q c=true/\idxF q k r=((k+pre.length:Nat):Int)
 | [],k=>.inl ⟨rfl,fun _ h=>nomatch h⟩
 | c::r,k=>by
  unfold idxF
  by_cases h:q c=true
  ·rw [if_pos h];exact .inr ⟨[],c,r,rfl,by simp,h,by simp⟩
  ·rw [if_neg h]
   rcases idxF_spec q r (k+1) with ⟨h1,h2⟩ | ⟨pre,d,post,h1,h2,h3,h4⟩
   ·exact .inl ⟨h1,by intro x hx;rcases List.mem_cons.1 hx with rfl | hx;simpa using h;exact h2 x hx⟩
   ·refine .inr ⟨c::pre,d,post,by rw [h1];rfl,?_,h3,by rw [h4];simp;omega⟩
    intro x hx;rcases List.mem_cons.1 hx with rfl | hx;simpa using h;exact h2 x hx
theorem drop_cons {α:Type} {a r:List α} {k:Nat} {c:α} (h:a.drop k=c::r):k < a.length/\a[k]? = some c/\a.drop (k+1)=r:=by
 have hk:k < a.length:=by
  apply Nat.lt_of_not_le
  intro hc
  rw [List.drop_eq_nil_of_le hc] at h;cases h
 refine ⟨hk,?_,?_⟩
 ·have:=congrArg (fun l=>l[0]?) h
  simpa using this
 ·rw [<-List.drop_drop,h];rfl
theorem wi (k:Nat) (h:k < 1000000):W .i64 ((k:Int)+1)=((k+1:Nat):Int):=by rw [W_i64 (by omega)];omega
theorem idxc_loop (m0 m1:List V) (a:List Int) (x:Int) (ha:a.length<=100000):∀(r:List Int) (k:Nat),a.drop k=r->k<=a.length ->
  Go qk true 4 fa42 (.head 0 (T42c_0 (a.length:Int) (k:Int) m0 m1 (ints a) x)) (.doneM (.int .i64 (idxF (·==x) k r)) [.arena 63 m0,.arena 7 m1,.row 3 (ints a) 0,.box 3 (.int .i64 x) false])
 | [],k,h,hk=>by
  have:a.length<=k:=List.drop_eq_nil_iff.1 h
  refine s42c_0_run _ _ _ _ _ _ ?_ (.refl _)
  unfold s42c_0
  rw [decide_eq_false (by omega)];rfl
 | c::r,k,h,hk=>by
  obtain ⟨h1,h2,h3⟩:=drop_cons h
  have hg:gd (decide (((k:Nat):Int).toNat < (ints a).length))=fun q=>q:=by funext q;exact gd_of (by simp [ints_len];omega)
  by_cases hq:c=x
  ·refine s42c_0_run _ _ _ _ _ _ ?_ (.refl _)
   unfold s42c_0 idxF
   rw [decide_eq_true (by omega),cond_true,gd_of (by simp),hg,toNat_cast,Nat.zero_add,idxK_ints h2,kI_mk,ibeq_t hq,if_pos (by simpa using hq)];rfl
  ·refine s42c_0_run _ _ _ _ _ _ ?_ (by unfold idxF;rw [if_neg (by simpa using hq)];exact idxc_loop m0 m1 a x ha r (k+1) h3 (by omega))
   unfold s42c_0
   rw [decide_eq_true (by omega),cond_true,gd_of (by simp),hg,toNat_cast,Nat.zero_add,idxK_ints h2,kI_mk,ibeq_f hq,wi k (by omega)];rfl
theorem idxc_ok (m0 m1:List V) (a:List Int) (x:Int) (ha:a.length<=100000) :
  icC qcfg ⟨true,false⟩ 42 [.tail 2 0,.fn 44 [.ptr 3 0 0]] [.arena 63 m0,.arena 7 m1,.row 3 (ints a) 0,.box 3 (.int .i64 x) false]=some (mk42c (idxF (·==x) 0 a,m0,m1,ints a,x)):=by
 refine e42c_run _ _ _ _ ?_ ⟨_,_,idxc_loop m0 m1 a x ha a 0 rfl (by omega),by kernel_rfl⟩
 unfold e42c
 rw [ints_len];rfl
theorem wfl_ints (a:List Int):wfl 1 (ints a)=true:=by
 simp [wfl,ints,V.cells]
theorem ints_take (a:List Int) (k:Nat):(ints a).take k=ints (a.take k):=by simp [ints,List.map_take]
theorem ints_set (a:List Int) (k:Nat) (c:Int):(ints a).set k (.int .i64 c)=ints (a.set k c):=by simp [ints,List.map_set]
theorem ints_app (a b:List Int):ints (a++b)=ints a++ints b:=by simp [ints]
theorem set_take {row:List Int} {i:Nat} {c:Int} (h:i < row.length):(row.set i c).take (i+1)=row.take i++[c]:=by
 rw [List.take_add_one,List.take_set_of_le (by omega)]
 simp [h]
theorem wfl_zero2 (l:List V) (hl:wfl 1 l=true) (n i j:Nat):wfl 1 (l.take i++List.replicate n (V.int .i64 0)++l.drop j)=true:=by
 unfold wfl at *
 rw [List.all_eq_true] at *
 intro x hx
 rcases List.mem_append.1 hx with hx | hx
 ·rcases List.mem_append.1 hx with hx | hx
  ·exact hl x (List.mem_of_mem_take hx)
  ·rw [List.eq_of_mem_replicate hx];rfl
 ·exact hl x (List.mem_of_mem_drop hx)
def delRow (row:List Int) (i:Nat):List V:=(ints row).take i++List.replicate ((ints row).length - i) (V.int .i64 0)++(ints row).drop (i+((ints row).length - i))
theorem delRow_take {row:List Int} {i:Nat} (h:i<=row.length):(delRow row i).take i=ints (row.take i):=by
 unfold delRow
 rw [List.append_assoc,List.take_left' (by simp [ints_len];omega),ints_take]
theorem delRow_len {row:List Int} {i:Nat} (h:i<=row.length):(delRow row i).length=row.length:=by
 simp [delRow,ints_len];omega
theorem delb_loop (m0 m1:List V) (x:Int) (n:Nat) (hn:n<=100000):∀(r row:List Int) (i j:Nat),row.drop j=r->row.length=n->j<=n->i<=j ->
  ∃row':List Int,row'.length=n/\row'.take (i+(r.filter (· != x)).length)=row.take i++r.filter (· != x)/\i+(r.filter (· != x)).length<=n /\
   Go qk true 4 fa39 (.head 0 (T39b_0 (i:Int) (j:Int) m0 m1 (ints row) x))
    (.doneM (.win 2 0 (i+(r.filter (· != x)).length)) [.arena 63 m0,.arena 7 m1,.row 3 (delRow row' (i+(r.filter (· != x)).length)) 0,.box 3 (.int .i64 x) false,.row 3 [] 0])
 | [],row,i,j,h,hr,hj,hi=>by
  have hjl:row.length<=j:=List.drop_eq_nil_iff.1 h
  refine ⟨row,hr,by simp,by simp;omega,?_⟩
  refine s39b_0_run _ _ _ _ _ _ ?_ (.refl _)
  unfold s39b_0
  rw [decide_eq_false (by rw [ints_len];omega),cond_false,gd_of (wfl_ints row),gd_of (by simp),toNat_cast,gd_of (by simp [ints_len];omega),gd_of (by simp [ints_len];omega)]
  simp only [Nat.zero_add]
  rw [gd_of (wfl_zero2 _ (wfl_ints row) _ _ _),gd_of (by simp),gd_of (by simp [ints_len];omega)]
  rfl
 | c::r,row,i,j,h,hr,hj,hi=>by
  obtain ⟨h1,h2,h3⟩:=drop_cons h
  have hgi:∀k:Nat,k < n->gd (decide (((k:Nat):Int).toNat < (ints row).length))=fun q=>q:=fun k hk=>by funext q;exact gd_of (by simp [ints_len];omega)
  obtain ⟨d,hd⟩:∃d,row[i]? = some d:=⟨_,List.getElem?_eq_getElem (by omega)⟩
  by_cases hq:c=x
  ·obtain ⟨row',e1,e2,e3,e4⟩:=delb_loop m0 m1 x n hn r row i (j+1) h3 hr (by omega) (by omega)
   have hf:(c::r).filter (· != x)=r.filter (· != x):=List.filter_cons_of_neg (by simpa using hq)
   rw [hf]
   refine ⟨row',e1,e2,e3,?_⟩
   refine s39b_0_run _ _ _ _ _ _ ?_ e4
   unfold s39b_0
   rw [decide_eq_true (by rw [ints_len];omega),cond_true,gd_of (by simp),hgi j (by omega),toNat_cast,Nat.zero_add,idxK_ints h2,kI_mk,ibeq_t hq,wi j (by omega)];rfl
  ·have hs:(row.set i c).drop (j+1)=r:=by rw [List.drop_set_of_lt (by omega)];exact h3
   obtain ⟨row',e1,e2,e3,e4⟩:=delb_loop m0 m1 x n hn r (row.set i c) (i+1) (j+1) hs (by simpa using hr) (by omega) (by omega)
   have hf:(c::r).filter (· != x)=c::r.filter (· != x):=List.filter_cons_of_pos (by simpa using hq)
   have hl:i+1+(r.filter (· != x)).length=i+(c::r.filter (· != x)).length:=by simp;omega
   rw [hl] at e2 e3 e4
   rw [hf]
   refine ⟨row',e1,by rw [e2,set_take (by omega),List.append_assoc];rfl,e3,?_⟩
   refine s39b_0_run _ _ _ _ _ _ ?_ e4
   unfold s39b_0
   rw [decide_eq_true (by rw [ints_len];omega),cond_true,gd_of (by simp),hgi j (by omega),toNat_cast,Nat.zero_add,idxK_ints h2,kI_mk,ibeq_f hq,Bool.not_false,cond_true,gd_of (by simp),hgi i (by omega),toNat_cast,Nat.zero_add,idxK_ints hd,kI_mk,wi j (by omega),wi i (by omega),ints_set]
theorem filter_pre {pre post:List Int} {c x:Int} (h1:∀y∈pre,(y==x)=false) (h2:(c==x)=true):(pre++c::post).filter (· != x)=pre++post.filter (· != x):=by
 rw [List.filter_append,List.filter_cons_of_neg (by simpa using h2),List.filter_eq_self.2 fun y hy=>by have:=h1 y hy;simpa using this]
theorem dfb_ok (m0 m1:List V) (a:List Int) (x:Int) (ha:a.length<=100000) :
  ∃(k:Nat) (row:List V),row.take k=ints (a.filter (· != x))/\k<=row.length/\k<=a.length /\
   icC qcfg ⟨true,true⟩ 39 [.tail 2 0,.fn 44 [.ptr 3 0 0]] [.arena 63 m0,.arena 7 m1,.row 3 (ints a) 0,.box 3 (.int .i64 x) false]=some (mk39b (k,m0,m1,row,x)):=by
 rcases idxF_spec (·==x) a 0 with ⟨h1,h2⟩ | ⟨pre,c,post,h1,h2,h3,h4⟩
 ·refine ⟨a.length,ints a,?_,by rw [ints_len];omega,by omega,?_⟩
  ·rw [List.take_of_length_le (by rw [ints_len];omega),List.filter_eq_self.2 fun y hy=>by have:=h2 y hy;simpa using this]
  ·refine e39b_run _ _ _ _ (o:=.doneM ?v1 ?m1) ?h1 (.done ?n1)
   case h1 =>
    unfold e39b
    rw [icM_of mk42c_inj (idxc_ok m0 m1 a x ha),h1]
    rfl
   case n1 =>
    have:(mk39b ((ints a).length - 0,m0,m1,ints a,x))=mk39b (a.length,m0,m1,ints a,x):=by rw [ints_len];rfl
    rw [<-this]
    show _=_
    kernel_rfl
 ·have hl:pre.length < a.length:=by rw [h1];simp
  have hd:a.drop (pre.length+1)=post:=by rw [h1];simp
  obtain ⟨row',e1,e2,e3,e4⟩:=delb_loop m0 m1 x a.length ha post a pre.length (pre.length+1) hd rfl (by omega) (by omega)
  have hf:a.filter (· != x)=pre++post.filter (· != x):=by rw [h1];exact filter_pre h2 h3
  have ht:a.take pre.length=pre:=by rw [h1];simp
  refine ⟨_,delRow row' (pre.length+(post.filter (· != x)).length),?_,?_,e3,e39b_run _ _ _ _ ?_ ⟨_,_,e4,by kernel_rfl⟩⟩
  ·rw [delRow_take (by omega),e2,hf,ht]
  ·rw [delRow_len (by omega)];omega
  ·unfold e39b
   rw [icM_of mk42c_inj (idxc_ok m0 m1 a x ha),h4]
   simp only [Nat.zero_add]
   rw [ibeq_f (by omega),cond_false,wi _ (by omega)]
abbrev plm (ar a1:List V) (pl sure n:Int) (mp:List (V × V)) (ages:List Int) (ws:Ws) (z:Nat):List O :=
 [.arena 63 ar,.arena 7 a1,.box 59 (.agg [.ptr 3 0 0,.int .i64 pl,.mp 4,.tail 5 0,.int .i64 sure]) false,.box 56 (.agg [.int .i64 n,.mp 6,.tail 7 0]) false,.map mp,.row 3 (ints ages) 0,.map [],.row 88 (wsV ws) z]
theorem young_ok (ar a1:List V) (pl sure n:Int) (mp:List (V × V)) (a:List Int) (ws:Ws) (z:Nat) (x:Int) (ha:a.length<=100000) :
  icC qcfg ⟨false,false⟩ 26 [.ptr 2 0 0,.int .i64 x] (plm ar a1 pl sure n mp a ws z) =
   some (mk26 (ar,a1,pl,sure,n,mp,[],ints (a.filter (· != x)++[x]),wsV ws,z)):=by
 obtain ⟨k,row,h1,h2,h3,h4⟩:=dfb_ok ar a1 a x ha
 refine e26_run _ _ _ _ _ _ _ _ _ _ _ (o:=.doneM ?v2 ?m2) ?h2 (.done ?n2)
 case h2 =>
  unfold e26
  rw [icM_of mk39b_inj h4]
  dsimp only
  rw [gd_of (by simpa using h2),gd_of (by simp;omega)]
 case n2 =>
  have:ints (a.filter (· != x)++[x])=(row.drop 0).take k++[.int .i64 x]:=by rw [ints_app,List.drop_zero,h1];rfl
  rw [this]
  show _=_
  kernel_rfl
section
variable {p:Int} {ar a1:List V} {pl sure n:Int} {ks:List Int} {ix:Int->Nat} {L:List Pg} {ws:Ws} {z:Nat}
theorem pins_ok (h:Rep ar ks ix L) (p:Int) :
  icC qcfg ⟨true,false⟩ 20 [.ptr 2 0 0,.int .i64 p] (plm ar a1 pl sure n (mpV ks ix) (pgs L) ws z) =
   some (mk20 (((findP L p).map Pg.pins).getD 0,ar,a1,pl,sure,n,mpV ks ix,ints (pgs L),[],wsV ws,z)):=by
 cases hf:findP L p with
 | none =>
  refine e20_run _ _ _ _ _ _ _ _ _ _ _ (o:=.doneM ?v3 ?m3) ?h3 (.done ?n3)
  case h3 =>
   unfold e20
   rw [h.mn hf]
   all_goals rfl
  case n3=>kernel_rfl
 | some x =>
  obtain ⟨hx,rfl⟩:=findP_some hf
  refine e20_run _ _ _ _ _ _ _ _ _ _ _ (o:=.doneM ?v4 ?m4) ?h4 (.done ?n4)
  case h4 =>
   unfold e20
   rw [h.mf hx,kP_mk,h.mf hx,kP_mk,h.ax hx,d63_pl]
   all_goals rfl
  case n4=>kernel_rfl
def heldE (L:List Pg) (p:Int):Int:=match findP L p with | none=>7 | some x=>if x.pins=0 then 9 else 0
def updP (L:List Pg) (p:Int) (f:Pg->Pg):List Pg:=L.map fun y=>if y.page=p then f y else y
theorem pgs_upd {p:Int} {f:Pg->Pg} (hf:∀y,(f y).page=y.page):pgs (updP L p f)=pgs L:=by
 simp only [pgs,updP,List.map_map]
 apply List.map_congr_left
 intro y _
 simp only [Function.comp]
 split
 ·exact hf y
 ·rfl
theorem Rep.upd (h:Rep ar ks ix L) {x:Pg} (hx:x∈L) {f:Pg->Pg} (hf:∀y,(f y).page=y.page):Rep (ar.set (ix x.page) (placeV (f x))) ks ix (updP L x.page f):=by
 refine h.set hx (hf x) (by rw [pgs_upd hf]) ?_
 intro y hy
 obtain ⟨w,hw,e⟩:=List.mem_map.1 hy
 by_cases hp:w.page=x.page
 ·rw [if_pos hp] at e
  have h1:=findP_of h.nd hw
  have h2:=findP_of h.nd hx
  rw [hp,h2] at h1
  cases h1
  exact .inl e.symm
 ·rw [if_neg hp] at e
  subst e
  exact .inr ⟨hw,hp⟩
theorem held_n (hf:findP L p=none):heldE L p=7:=by unfold heldE;rw [hf]
theorem held_s {x:Pg} (hf:findP L p=some x) (h:x.pins=0):heldE L p=9:=by unfold heldE;rw [hf];exact if_pos h
theorem held_y {x:Pg} (hf:findP L p=some x) (h:¬x.pins=0):heldE L p=0:=by unfold heldE;rw [hf];exact if_neg h
theorem unpin_ok (h:Rep ar ks ix L) (p:Int) :
  ∃ar',Rep ar' ks ix (if heldE L p=0 then updP L p fun y=>{ y with pins:=W .i64 (y.pins - 1) } else L) /\
  icC qcfg ⟨true,false⟩ 10 [.ptr 2 0 0,.int .i64 p] (plm ar a1 pl sure n (mpV ks ix) (pgs L) ws z) =
   some (mk10 (heldE L p,ar',a1,pl,sure,n,mpV ks ix,ints (pgs L),[],wsV ws,z)):=by
 cases hf:findP L p with
 | none =>
  rw [held_n hf]
  refine ⟨ar,by simpa using h,?_⟩
  refine e10_run _ _ _ _ _ _ _ _ _ _ _ (o:=.doneM ?v5 ?m5) ?h5 (.done ?n5)
  case h5 =>
   unfold e10
   rw [h.mn hf]
   all_goals rfl
  case n5=>kernel_rfl
 | some x =>
  obtain ⟨hx,rfl⟩:=findP_some hf
  by_cases hp:x.pins=0
  ·rw [held_s hf hp]
   refine ⟨ar,by simpa using h,?_⟩
   refine e10_run _ _ _ _ _ _ _ _ _ _ _ (o:=.doneM ?v6 ?m6) ?h6 (.done ?n6)
   case h6 =>
    unfold e10
    rw [h.mf hx,kP_mk,h.ax hx,d63_pl,ibeq_t hp,cond_true]
    all_goals rfl
   case n6=>kernel_rfl
  ·rw [held_y hf hp]
   refine ⟨_,h.upd hx fun _=>rfl,?_⟩
   refine e10_run _ _ _ _ _ _ _ _ _ _ _ (o:=.doneM ?v7 ?m7) ?h7 (.done ?n7)
   case h7 =>
    unfold e10
    rw [h.mf hx,kP_mk,h.ax hx,d63_pl,ibeq_f hp,cond_false,h.ax hx,d63_pl,h.ax hx,d63_pl]
    all_goals rfl
   case n7=>kernel_rfl
def putE (L:List Pg) (p:Int) (s:Bs) (lsn:Int):Int :=
 if heldE L p=0 then (if 252 < s.length then 2 else if lsn < 1 then 1 else match findP L p with | some x=>if lsn < x.last then 1 else 0 | none=>0) else heldE L p
def putX (s:Bs) (lsn:Int) (x:Pg):Pg:=⟨x.page,padW s,x.pins,true,if x.dirty then x.first else lsn,lsn⟩
theorem set_ax {x:Pg} (h:Rep ar ks ix L) (hx:x∈L) (v:V) (k:V->R):idxK (ar.set (ix x.page) v) (ix x.page) k=k v:=idxK_of (by simp [h.lt hx])
theorem set_ax2 {x:Pg} (h:Rep ar ks ix L) (hx:x∈L) (v w:V) (k:V->R):idxK ((ar.set (ix x.page) w).set (ix x.page) v) (ix x.page) k=k v:=idxK_of (by simp [h.lt hx])
theorem d63_v (s:Bs) (a:Int) (b:Bool) (c d:Int) (k:Bs->Int->Bool->Int->Int->R):d63 (.agg [.str s,.int .i64 a,.bool b,.int .i64 c,.int .i64 d]) k=k s a b c d:=rfl
theorem put_go (h:Rep ar ks ix L) {x:Pg} (hx:x∈L) (hp:¬x.pins=0) (s:Bs) (hs:s.length<=252) (lsn:Int) (h1:¬lsn < 1) (h2:¬lsn < x.last) :
  ∃m8,e11 x.page s lsn ar a1 pl sure n (mpV ks ix) (ints (pgs L)) [] (wsV ws) z=some (.doneM (.int .i64 0) (plm (ar.set (ix x.page) (placeV (putX s lsn x))) a1 pl sure n (mpV ks ix) (pgs L) ws z++[.row 5 m8 0])):=by
 have w:W .i64 (252 - (s.length:Int))=((252 - s.length:Nat):Int):=by rw [W_i64 (by omega)];omega
 have hz:(List.replicate (252 - s.length) (0:Int)).map (fun n=>UInt8.ofNat n.toNat)=zeros (252 - s.length):=by simp [zeros]
 refine ⟨List.replicate (252 - s.length) (.int .u8 0),?_⟩
 unfold e11
 rw [h.mf hx,kP_mk,h.ax hx,d63_pl,ibeq_f hp,cond_false,decide_eq_false (show ¬(s.length:Int) > 252 by omega),cond_false,decide_eq_false h1,cond_false,h.ax hx,d63_pl,decide_eq_false h2,cond_false,h.ax hx,d63_pl,w]
 cases hd:x.dirty
 ·rw [Bool.not_false,cond_true,h.ax hx,d63_pl,gd_of (by simp),gd_of (by simp),toNat_cast,gd_of (by simp;omega),nums_rep,opt_mk,hz,gd_of (by simp [zeros];omega),set_ax h hx,d63_v,set_ax2 h hx,d63_v]
  simp only [List.set_set]
  rw [set_ax h hx,d63_v]
  simp [hd,putX,placeV,padW]
 ·rw [Bool.not_true,cond_false,gd_of (by simp),gd_of (by simp),toNat_cast,gd_of (by simp;omega),nums_rep,opt_mk,hz,gd_of (by simp [zeros];omega),h.ax hx,d63_pl,set_ax h hx,d63_v,set_ax2 h hx,d63_v]
  simp [hd,putX,placeV,padW]
theorem put_ok' (h:Rep ar ks ix L) (p:Int) (s:Bs) (lsn:Int) :
  ∃ar',Rep ar' ks ix (if putE L p s lsn=0 then updP L p (putX s lsn) else L) /\
  icC qcfg ⟨true,false⟩ 11 [.ptr 2 0 0,.int .i64 p,.str s,.int .i64 lsn] (plm ar a1 pl sure n (mpV ks ix) (pgs L) ws z) =
   some (mk11 (putE L p s lsn,ar',a1,pl,sure,n,mpV ks ix,ints (pgs L),[],wsV ws,z)):=by
 unfold putE
 cases hf:findP L p with
 | none =>
  rw [held_n hf]
  refine ⟨ar,by simpa using h,?_⟩
  refine e11_run _ _ _ _ _ _ _ _ _ _ _ _ _ (o:=.doneM ?v8 ?m8) ?h8 (.done ?n8)
  case h8 =>
   unfold e11
   rw [h.mn hf]
   all_goals rfl
  case n8=>kernel_rfl
 | some x =>
  obtain ⟨hx,rfl⟩:=findP_some hf
  by_cases hp:x.pins=0
  ·rw [held_s hf hp]
   refine ⟨ar,by simpa using h,?_⟩
   refine e11_run _ _ _ _ _ _ _ _ _ _ _ _ _ (o:=.doneM ?v9 ?m9) ?h9 (.done ?n9)
   case h9 =>
    unfold e11
    rw [h.mf hx,kP_mk,h.ax hx,d63_pl,ibeq_t hp,cond_true]
    all_goals rfl
   case n9=>kernel_rfl
  rw [held_y hf hp,if_pos rfl]
  dsimp only
  by_cases hs:252 < s.length
  ·rw [if_pos hs]
   refine ⟨ar,by simpa using h,?_⟩
   refine e11_run _ _ _ _ _ _ _ _ _ _ _ _ _ (o:=.doneM ?v10 ?m10) ?h10 (.done ?n10)
   case h10 =>
    unfold e11
    rw [h.mf hx,kP_mk,h.ax hx,d63_pl,ibeq_f hp,cond_false,decide_eq_true (show (s.length:Int) > 252 by omega),cond_true]
    all_goals rfl
   case n10=>kernel_rfl
  rw [if_neg hs]
  by_cases h1:lsn < 1
  ·rw [if_pos h1]
   refine ⟨ar,by simpa using h,?_⟩
   refine e11_run _ _ _ _ _ _ _ _ _ _ _ _ _ (o:=.doneM ?v11 ?m11) ?h11 (.done ?n11)
   case h11 =>
    unfold e11
    rw [h.mf hx,kP_mk,h.ax hx,d63_pl,ibeq_f hp,cond_false,decide_eq_false (show ¬(s.length:Int) > 252 by omega),cond_false,decide_eq_true h1,cond_true]
    all_goals rfl
   case n11=>kernel_rfl
  rw [if_neg h1]
  by_cases h2:lsn < x.last
  ·rw [if_pos h2]
   refine ⟨ar,by simpa using h,?_⟩
   refine e11_run _ _ _ _ _ _ _ _ _ _ _ _ _ (o:=.doneM ?v12 ?m12) ?h12 (.done ?n12)
   case h12 =>
    unfold e11
    rw [h.mf hx,kP_mk,h.ax hx,d63_pl,ibeq_f hp,cond_false,decide_eq_false (show ¬(s.length:Int) > 252 by omega),cond_false,decide_eq_false h1,cond_false,h.ax hx,d63_pl,decide_eq_true h2,cond_true]
    all_goals rfl
   case n12=>kernel_rfl
  ·rw [if_neg h2,if_pos rfl]
   obtain ⟨m8,hm⟩:=put_go (a1:=a1) (pl:=pl) (sure:=sure) (n:=n) (ws:=ws) (z:=z) h hx hp s (by omega) lsn h1 h2
   exact ⟨_,h.upd hx fun _=>rfl,e11_run _ _ _ _ _ _ _ _ _ _ _ _ _ hm (.done (by kernel_rfl))⟩
end
end Go.Proofs.Ytknapnnpmfhogaa
