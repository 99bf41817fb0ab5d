/-
  Texts that the last one stands on.
-/
import Derived.Test.YtknapnnpmfhogaaGreatY4
namespace Go.Proofs.YtknapnnpmfhogaaGreat
open Go Go.Lite
set_option maxRecDepth 100000
set_option linter.unusedVariables false
def d57 (v:V) (k:List UInt8->Int->R):R:=kT v fun vs=>unc vs fun c vs=>kS c fun x0=>unc vs fun c vs=>kI .i64 c fun x1=>unn vs (k x0 x1)
@[simp] theorem d57_mk (x0:List UInt8) (x1:Int) (k:List UInt8->Int->R):d57 (.tup [V.str x0,V.int .i64 x1]) k=k x0 x1:=rfl
@[congr] theorem d57_wc {v v':V} {k:List UInt8->Int->R} (h:v=v'):d57 v k=d57 v' k:=by rw [h]
def d114 (v:V) (k:Int->Int->R):R:=kT v fun vs=>unc vs fun c vs=>kI .u64 c fun x0=>unc vs fun c vs=>kI .i64 c fun x1=>unn vs (k x0 x1)
@[simp] theorem d114_mk (x0:Int) (x1:Int) (k:Int->Int->R):d114 (.tup [V.int .u64 x0,V.int .i64 x1]) k=k x0 x1:=rfl
@[congr] theorem d114_wc {v v':V} {k:Int->Int->R} (h:v=v'):d114 v k=d114 v' k:=by rw [h]
def d38 (v:V) (k:Int->Int->List UInt8->Int->R):R:=kA v fun cs=>unc cs fun c cs=>kI .i64 c fun x0=>unc cs fun c cs=>kI .i64 c fun x1=>unc cs fun c cs=>kS c fun x2=>unc cs fun c cs=>kI .i64 c fun x3=>unn cs<|(k x0 x1 x2 x3)
@[simp] theorem d38_mk (x0:Int) (x1:Int) (x2:List UInt8) (x3:Int) (k:Int->Int->List UInt8->Int->R):d38 (.agg [V.int .i64 x0,V.int .i64 x1,V.str x2,V.int .i64 x3]) k=k x0 x1 x2 x3:=rfl
@[congr] theorem d38_wc {v v':V} {k:Int->Int->List UInt8->Int->R} (h:v=v'):d38 v k=d38 v' k:=by rw [h]
def d71 (v:V) (k:List UInt8->Int->Bool->Int->Int->R):R:=kA v fun cs=>unc cs fun c cs=>kS c fun x0=>unc cs fun c cs=>kI .i64 c fun x1=>unc cs fun c cs=>kB c fun x2=>unc cs fun c cs=>kI .i64 c fun x3=>unc cs fun c cs=>kI .i64 c fun x4=>unn cs<|(k x0 x1 x2 x3 x4)
@[simp] theorem d71_mk (x0:List UInt8) (x1:Int) (x2:Bool) (x3:Int) (x4:Int) (k:List UInt8->Int->Bool->Int->Int->R):d71 (.agg [V.str x0,V.int .i64 x1,V.bool x2,V.int .i64 x3,V.int .i64 x4]) k=k x0 x1 x2 x3 x4:=rfl
@[congr] theorem d71_wc {v v':V} {k:List UInt8->Int->Bool->Int->Int->R} (h:v=v'):d71 v k=d71 v' k:=by rw [h]
def d74 (v:V) (k:Int->List UInt8->Int->Bool->Int->Int->R):R:=kA v fun cs=>unc cs fun c cs=>kI .i64 c fun x0=>unc cs fun c cs=>kS c fun x1=>unc cs fun c cs=>kI .i64 c fun x2=>unc cs fun c cs=>kB c fun x3=>unc cs fun c cs=>kI .i64 c fun x4=>unc cs fun c cs=>kI .i64 c fun x5=>unn cs<|(k x0 x1 x2 x3 x4 x5)
@[simp] theorem d74_mk (x0:Int) (x1:List UInt8) (x2:Int) (x3:Bool) (x4:Int) (x5:Int) (k:Int->List UInt8->Int->Bool->Int->Int->R):d74 (.agg [V.int .i64 x0,V.str x1,V.int .i64 x2,V.bool x3,V.int .i64 x4,V.int .i64 x5]) k=k x0 x1 x2 x3 x4 x5:=rfl
@[congr] theorem d74_wc {v v':V} {k:Int->List UInt8->Int->Bool->Int->Int->R} (h:v=v'):d74 v k=d74 v' k:=by rw [h]
def d83 (v:V) (k:Int->List UInt8->R):R:=kA v fun cs=>unc cs fun c cs=>kI .i64 c fun x0=>unc cs fun c cs=>kS c fun x1=>unn cs<|(k x0 x1)
@[simp] theorem d83_mk (x0:Int) (x1:List UInt8) (k:Int->List UInt8->R):d83 (.agg [V.int .i64 x0,V.str x1]) k=k x0 x1:=rfl
@[congr] theorem d83_wc {v v':V} {k:Int->List UInt8->R} (h:v=v'):d83 v k=d83 v' k:=by rw [h]
def d85 (v:V) (k:Int->List UInt8->R):R:=kA v fun cs=>unc cs fun c cs=>kI .i64 c fun x0=>unc cs fun c cs=>kS c fun x1=>unn cs<|(k x0 x1)
@[simp] theorem d85_mk (x0:Int) (x1:List UInt8) (k:Int->List UInt8->R):d85 (.agg [V.int .i64 x0,V.str x1]) k=k x0 x1:=rfl
@[congr] theorem d85_wc {v v':V} {k:Int->List UInt8->R} (h:v=v'):d85 v k=d85 v' k:=by rw [h]
def mk5 (L:Int × (List V) × (List V) × (List V) × (List V)):V × List O:=(V.tup [V.ptr 2 0 0,V.int .i64 L.1],[O.arena 71 L.2.1,O.arena 74 L.2.2.1,O.box 56 (V.agg [V.tail 3 0,V.tail 4 0]) false,O.row 9 L.2.2.2.1 0,O.row 85 L.2.2.2.2 0])
theorem mk5_inj:∀L L',mk5 L=mk5 L'->L=L':=by
 rintro ⟨a0,a1,a2,a3,a4⟩ ⟨b0,b1,b2,b3,b4⟩ h
 cases h;rfl
def mk8 (L:Bool × (List V) × (List V) × Int × Int × Int × Int × Int × (List (V × V)) × (List (V × V)) × (List V) × (List V) × (List V) × Nat × (List V) × (List V)):V × List O:=(V.bool L.1,[O.arena 71 L.2.1,O.arena 74 L.2.2.1,O.box 61 (V.agg [V.ptr 4 0 0,V.int .i64 L.2.2.2.1,V.mp 5,V.tail 13 0,V.int .i64 L.2.2.2.2.1]) false,O.box 64 (V.agg [V.ptr 7 0 0,V.int .i64 L.2.2.2.2.2.1,V.int .i64 L.2.2.2.2.2.2.1,V.tail 14 0]) false,O.box 52 (V.agg [V.int .i64 L.2.2.2.2.2.2.2.1,V.mp 9,V.tail 15 0]) false,O.map L.2.2.2.2.2.2.2.2.1,O.dead,O.box 56 (V.agg [V.tail 16 0,V.tail 17 0]) false,O.dead,O.map L.2.2.2.2.2.2.2.2.2.1,O.dead,O.dead,O.dead,O.row 3 L.2.2.2.2.2.2.2.2.2.2.1 0,O.row 75 L.2.2.2.2.2.2.2.2.2.2.2.1 0,O.row 83 L.2.2.2.2.2.2.2.2.2.2.2.2.1 L.2.2.2.2.2.2.2.2.2.2.2.2.2.1,O.row 9 L.2.2.2.2.2.2.2.2.2.2.2.2.2.2.1 0,O.row 85 L.2.2.2.2.2.2.2.2.2.2.2.2.2.2.2 0])
theorem mk8_inj:∀L L',mk8 L=mk8 L'->L=L':=by
 rintro ⟨a0,a1,a2,a3,a4,a5,a6,a7,a8,a9,a10,a11,a12,a13,a14,a15⟩ ⟨b0,b1,b2,b3,b4,b5,b6,b7,b8,b9,b10,b11,b12,b13,b14,b15⟩ h
 cases h;rfl
def mk9 (L:Int × Bool × (List V) × (List V) × Int × Int × Int × (List (V × V)) × (List V) × (List (V × V)) × (List V) × Nat):V × List O:=(V.tup [V.int .i64 L.1,V.bool L.2.1],[O.arena 71 L.2.2.1,O.arena 74 L.2.2.2.1,O.box 61 (V.agg [V.ptr 3 0 0,V.int .i64 L.2.2.2.2.1,V.mp 4,V.tail 5 0,V.int .i64 L.2.2.2.2.2.1]) false,O.box 52 (V.agg [V.int .i64 L.2.2.2.2.2.2.1,V.mp 6,V.tail 7 0]) false,O.map L.2.2.2.2.2.2.2.1,O.row 3 L.2.2.2.2.2.2.2.2.1 0,O.map L.2.2.2.2.2.2.2.2.2.1,O.row 83 L.2.2.2.2.2.2.2.2.2.2.1 L.2.2.2.2.2.2.2.2.2.2.2])
theorem mk9_inj:∀L L',mk9 L=mk9 L'->L=L':=by
 rintro ⟨a0,a1,a2,a3,a4,a5,a6,a7,a8,a9,a10,a11⟩ ⟨b0,b1,b2,b3,b4,b5,b6,b7,b8,b9,b10,b11⟩ h
 cases h;rfl
def mk10 (L:Int × Bool × (List V) × (List V) × Int × Int × (List V) × (List V) × (List V)):V × List O:=(V.tup [V.int .i64 L.1,V.bool L.2.1],[O.arena 71 L.2.2.1,O.arena 74 L.2.2.2.1,O.box 64 (V.agg [V.ptr 3 0 0,V.int .i64 L.2.2.2.2.1,V.int .i64 L.2.2.2.2.2.1,V.tail 4 0]) false,O.box 56 (V.agg [V.tail 5 0,V.tail 6 0]) false,O.row 75 L.2.2.2.2.2.2.1 0,O.row 9 L.2.2.2.2.2.2.2.1 0,O.row 85 L.2.2.2.2.2.2.2.2 0])
theorem mk10_inj:∀L L',mk10 L=mk10 L'->L=L':=by
 rintro ⟨a0,a1,a2,a3,a4,a5,a6,a7,a8⟩ ⟨b0,b1,b2,b3,b4,b5,b6,b7,b8⟩ h
 cases h;rfl
def mk12 (L:(List V) × (List V) × Int × Int × Int × (List (V × V)) × (List V) × (List (V × V)) × (List V) × Nat × (List V)):V × List O:=(V.own 8,[O.arena 71 L.1,O.arena 74 L.2.1,O.box 61 (V.agg [V.ptr 3 0 0,V.int .i64 L.2.2.1,V.mp 4,V.tail 5 0,V.int .i64 L.2.2.2.1]) false,O.box 52 (V.agg [V.int .i64 L.2.2.2.2.1,V.mp 6,V.tail 7 0]) false,O.map L.2.2.2.2.2.1,O.row 3 L.2.2.2.2.2.2.1 0,O.map L.2.2.2.2.2.2.2.1,O.row 83 L.2.2.2.2.2.2.2.2.1 L.2.2.2.2.2.2.2.2.2.1,O.row 3 L.2.2.2.2.2.2.2.2.2.2 0])
theorem mk12_inj:∀L L',mk12 L=mk12 L'->L=L':=by
 rintro ⟨a0,a1,a2,a3,a4,a5,a6,a7,a8,a9,a10⟩ ⟨b0,b1,b2,b3,b4,b5,b6,b7,b8,b9,b10⟩ h
 cases h;rfl
def mk13 (L:Nat × (List V) × (List V) × Int × Int × (List V) × (List V) × (List V) × (List V)):V × List O:=(V.win 7 0 L.1,[O.arena 71 L.2.1,O.arena 74 L.2.2.1,O.box 64 (V.agg [V.ptr 3 0 0,V.int .i64 L.2.2.2.1,V.int .i64 L.2.2.2.2.1,V.tail 4 0]) false,O.box 56 (V.agg [V.tail 5 0,V.tail 6 0]) false,O.row 75 L.2.2.2.2.2.1 0,O.row 9 L.2.2.2.2.2.2.1 0,O.row 85 L.2.2.2.2.2.2.2.1 0,O.row 3 L.2.2.2.2.2.2.2.2 0])
theorem mk13_inj:∀L L',mk13 L=mk13 L'->L=L':=by
 rintro ⟨a0,a1,a2,a3,a4,a5,a6,a7,a8⟩ ⟨b0,b1,b2,b3,b4,b5,b6,b7,b8⟩ h
 cases h;rfl
def mk14 (L:Nat × (List V) × (List V) × Int × Int × Int × (List (V × V)) × (List V) × (List (V × V)) × (List V) × Nat × (List V)):V × List O:=(V.win 8 0 L.1,[O.arena 71 L.2.1,O.arena 74 L.2.2.1,O.box 61 (V.agg [V.ptr 3 0 0,V.int .i64 L.2.2.2.1,V.mp 4,V.tail 5 0,V.int .i64 L.2.2.2.2.1]) false,O.box 52 (V.agg [V.int .i64 L.2.2.2.2.2.1,V.mp 6,V.tail 7 0]) false,O.map L.2.2.2.2.2.2.1,O.row 3 L.2.2.2.2.2.2.2.1 0,O.map L.2.2.2.2.2.2.2.2.1,O.row 83 L.2.2.2.2.2.2.2.2.2.1 L.2.2.2.2.2.2.2.2.2.2.1,O.row 3 L.2.2.2.2.2.2.2.2.2.2.2 0])
theorem mk14_inj:∀L L',mk14 L=mk14 L'->L=L':=by
 rintro ⟨a0,a1,a2,a3,a4,a5,a6,a7,a8,a9,a10,a11⟩ ⟨b0,b1,b2,b3,b4,b5,b6,b7,b8,b9,b10,b11⟩ h
 cases h;rfl
def mk15 (L:Int × (List V) × (List V) × Int × Int × Int × (List (V × V)) × (List V) × (List (V × V)) × (List V) × Nat):V × List O:=(V.int .i64 L.1,[O.arena 71 L.2.1,O.arena 74 L.2.2.1,O.box 61 (V.agg [V.ptr 3 0 0,V.int .i64 L.2.2.2.1,V.mp 4,V.tail 5 0,V.int .i64 L.2.2.2.2.1]) false,O.box 52 (V.agg [V.int .i64 L.2.2.2.2.2.1,V.mp 6,V.tail 7 0]) false,O.map L.2.2.2.2.2.2.1,O.row 3 L.2.2.2.2.2.2.2.1 0,O.map L.2.2.2.2.2.2.2.2.1,O.row 83 L.2.2.2.2.2.2.2.2.2.1 L.2.2.2.2.2.2.2.2.2.2])
theorem mk15_inj:∀L L',mk15 L=mk15 L'->L=L':=by
 rintro ⟨a0,a1,a2,a3,a4,a5,a6,a7,a8,a9,a10⟩ ⟨b0,b1,b2,b3,b4,b5,b6,b7,b8,b9,b10⟩ h
 cases h;rfl
def mk16 (L:Int × (List V) × (List V) × Int × Int × (List V) × (List V) × (List V)):V × List O:=(V.int .i64 L.1,[O.arena 71 L.2.1,O.arena 74 L.2.2.1,O.box 64 (V.agg [V.ptr 3 0 0,V.int .i64 L.2.2.2.1,V.int .i64 L.2.2.2.2.1,V.tail 4 0]) false,O.box 56 (V.agg [V.tail 5 0,V.tail 6 0]) false,O.row 75 L.2.2.2.2.2.1 0,O.row 9 L.2.2.2.2.2.2.1 0,O.row 85 L.2.2.2.2.2.2.2 0])
theorem mk16_inj:∀L L',mk16 L=mk16 L'->L=L':=by
 rintro ⟨a0,a1,a2,a3,a4,a5,a6,a7⟩ ⟨b0,b1,b2,b3,b4,b5,b6,b7⟩ h
 cases h;rfl
def mk17 (L:Nat × (List V) × (List V) × Int × (List (V × V)) × (List V) × Nat × (List V)):V × List O:=(V.win 5 0 L.1,[O.arena 71 L.2.1,O.arena 74 L.2.2.1,O.box 52 (V.agg [V.int .i64 L.2.2.2.1,V.mp 3,V.tail 4 0]) false,O.map L.2.2.2.2.1,O.row 83 L.2.2.2.2.2.1 L.2.2.2.2.2.2.1,O.row 3 L.2.2.2.2.2.2.2 0])
theorem mk17_inj:∀L L',mk17 L=mk17 L'->L=L':=by
 rintro ⟨a0,a1,a2,a3,a4,a5,a6,a7⟩ ⟨b0,b1,b2,b3,b4,b5,b6,b7⟩ h
 cases h;rfl
def mk18 (L:Nat × (List V) × (List V) × (List V) × (List V) × (List V)):V × List O:=(V.win 5 0 L.1,[O.arena 71 L.2.1,O.arena 74 L.2.2.1,O.box 56 (V.agg [V.tail 3 0,V.tail 4 0]) false,O.row 9 L.2.2.2.1 0,O.row 85 L.2.2.2.2.1 0,O.row 3 L.2.2.2.2.2 0])
theorem mk18_inj:∀L L',mk18 L=mk18 L'->L=L':=by
 rintro ⟨a0,a1,a2,a3,a4,a5⟩ ⟨b0,b1,b2,b3,b4,b5⟩ h
 cases h;rfl
def mk19 (L:(List UInt8) × (List V) × (List V) × Int × (List (V × V)) × (List V) × Nat):V × List O:=(V.str L.1,[O.arena 71 L.2.1,O.arena 74 L.2.2.1,O.box 52 (V.agg [V.int .i64 L.2.2.2.1,V.mp 3,V.tail 4 0]) false,O.map L.2.2.2.2.1,O.row 83 L.2.2.2.2.2.1 L.2.2.2.2.2.2])
theorem mk19_inj:∀L L',mk19 L=mk19 L'->L=L':=by
 rintro ⟨a0,a1,a2,a3,a4,a5,a6⟩ ⟨b0,b1,b2,b3,b4,b5,b6⟩ h
 cases h;rfl
def mk20 (L:(List UInt8) × (List V) × (List V) × (List V) × (List V)):V × List O:=(V.str L.1,[O.arena 71 L.2.1,O.arena 74 L.2.2.1,O.box 56 (V.agg [V.tail 3 0,V.tail 4 0]) false,O.row 9 L.2.2.2.1 0,O.row 85 L.2.2.2.2 0])
theorem mk20_inj:∀L L',mk20 L=mk20 L'->L=L':=by
 rintro ⟨a0,a1,a2,a3,a4⟩ ⟨b0,b1,b2,b3,b4⟩ h
 cases h;rfl
def mk23 (L:(List UInt8) × Int × (List V) × (List V) × Int × Int × Int × (List (V × V)) × (List (V × V)) × (List V) × (List V) × Nat):V × List O:=(V.tup [V.str L.1,V.int .i64 L.2.1],[O.arena 71 L.2.2.1,O.arena 74 L.2.2.2.1,O.box 61 (V.agg [V.ptr 3 0 0,V.int .i64 L.2.2.2.2.1,V.mp 4,V.tail 8 0,V.int .i64 L.2.2.2.2.2.1]) false,O.box 52 (V.agg [V.int .i64 L.2.2.2.2.2.2.1,V.mp 6,V.tail 9 0]) false,O.map L.2.2.2.2.2.2.2.1,O.dead,O.map L.2.2.2.2.2.2.2.2.1,O.dead,O.row 3 L.2.2.2.2.2.2.2.2.2.1 0,O.row 83 L.2.2.2.2.2.2.2.2.2.2.1 L.2.2.2.2.2.2.2.2.2.2.2])
theorem mk23_inj:∀L L',mk23 L=mk23 L'->L=L':=by
 rintro ⟨a0,a1,a2,a3,a4,a5,a6,a7,a8,a9,a10,a11⟩ ⟨b0,b1,b2,b3,b4,b5,b6,b7,b8,b9,b10,b11⟩ h
 cases h;rfl
def mk27 (L:Int × (List V) × (List V) × Int × Int × Int × (List (V × V)) × (List V) × (List (V × V)) × (List V) × Nat):V × List O:=(V.int .i64 L.1,[O.arena 71 L.2.1,O.arena 74 L.2.2.1,O.box 61 (V.agg [V.ptr 3 0 0,V.int .i64 L.2.2.2.1,V.mp 4,V.tail 5 0,V.int .i64 L.2.2.2.2.1]) false,O.box 52 (V.agg [V.int .i64 L.2.2.2.2.2.1,V.mp 6,V.tail 7 0]) false,O.map L.2.2.2.2.2.2.1,O.row 3 L.2.2.2.2.2.2.2.1 0,O.map L.2.2.2.2.2.2.2.2.1,O.row 83 L.2.2.2.2.2.2.2.2.2.1 L.2.2.2.2.2.2.2.2.2.2])
theorem mk27_inj:∀L L',mk27 L=mk27 L'->L=L':=by
 rintro ⟨a0,a1,a2,a3,a4,a5,a6,a7,a8,a9,a10⟩ ⟨b0,b1,b2,b3,b4,b5,b6,b7,b8,b9,b10⟩ h
 cases h;rfl
def mk25 (L:Int × (List V) × (List V) × Int × Int × Int × (List (V × V)) × (List V) × (List (V × V)) × (List V) × Nat):V × List O:=(V.int .i64 L.1,[O.arena 71 L.2.1,O.arena 74 L.2.2.1,O.box 61 (V.agg [V.ptr 3 0 0,V.int .i64 L.2.2.2.1,V.mp 4,V.tail 5 0,V.int .i64 L.2.2.2.2.1]) false,O.box 52 (V.agg [V.int .i64 L.2.2.2.2.2.1,V.mp 6,V.tail 7 0]) false,O.map L.2.2.2.2.2.2.1,O.row 3 L.2.2.2.2.2.2.2.1 0,O.map L.2.2.2.2.2.2.2.2.1,O.row 83 L.2.2.2.2.2.2.2.2.2.1 L.2.2.2.2.2.2.2.2.2.2])
theorem mk25_inj:∀L L',mk25 L=mk25 L'->L=L':=by
 rintro ⟨a0,a1,a2,a3,a4,a5,a6,a7,a8,a9,a10⟩ ⟨b0,b1,b2,b3,b4,b5,b6,b7,b8,b9,b10⟩ h
 cases h;rfl
def mk40 (L:(List UInt8) × Int × (List V) × (List V) × Int × (List (V × V)) × (List V) × Nat):V × List O:=(V.tup [V.str L.1,V.int .i64 L.2.1],[O.arena 71 L.2.2.1,O.arena 74 L.2.2.2.1,O.box 52 (V.agg [V.int .i64 L.2.2.2.2.1,V.mp 3,V.tail 4 0]) false,O.map L.2.2.2.2.2.1,O.row 83 L.2.2.2.2.2.2.1 L.2.2.2.2.2.2.2])
theorem mk40_inj:∀L L',mk40 L=mk40 L'->L=L':=by
 rintro ⟨a0,a1,a2,a3,a4,a5,a6,a7⟩ ⟨b0,b1,b2,b3,b4,b5,b6,b7⟩ h
 cases h;rfl
def mk30 (L:Int × (List V) × (List V) × Int × Int × Int × (List (V × V)) × (List (V × V)) × (List V) × (List V) × Nat):V × List O:=(V.int .i64 L.1,[O.arena 71 L.2.1,O.arena 74 L.2.2.1,O.box 61 (V.agg [V.ptr 3 0 0,V.int .i64 L.2.2.2.1,V.mp 4,V.tail 8 0,V.int .i64 L.2.2.2.2.1]) false,O.box 52 (V.agg [V.int .i64 L.2.2.2.2.2.1,V.mp 6,V.tail 9 0]) false,O.map L.2.2.2.2.2.2.1,O.dead,O.map L.2.2.2.2.2.2.2.1,O.dead,O.row 3 L.2.2.2.2.2.2.2.2.1 0,O.row 83 L.2.2.2.2.2.2.2.2.2.1 L.2.2.2.2.2.2.2.2.2.2])
theorem mk30_inj:∀L L',mk30 L=mk30 L'->L=L':=by
 rintro ⟨a0,a1,a2,a3,a4,a5,a6,a7,a8,a9,a10⟩ ⟨b0,b1,b2,b3,b4,b5,b6,b7,b8,b9,b10⟩ h
 cases h;rfl
def mk24 (L:(List UInt8) × Int × (List V) × (List V) × Int × Int × (List V) × (List V) × (List V)):V × List O:=(V.tup [V.str L.1,V.int .i64 L.2.1],[O.arena 71 L.2.2.1,O.arena 74 L.2.2.2.1,O.box 64 (V.agg [V.ptr 3 0 0,V.int .i64 L.2.2.2.2.1,V.int .i64 L.2.2.2.2.2.1,V.tail 7 0]) false,O.box 56 (V.agg [V.tail 8 0,V.tail 9 0]) false,O.dead,O.dead,O.dead,O.row 75 L.2.2.2.2.2.2.1 0,O.row 9 L.2.2.2.2.2.2.2.1 0,O.row 85 L.2.2.2.2.2.2.2.2 0])
theorem mk24_inj:∀L L',mk24 L=mk24 L'->L=L':=by
 rintro ⟨a0,a1,a2,a3,a4,a5,a6,a7,a8⟩ ⟨b0,b1,b2,b3,b4,b5,b6,b7,b8⟩ h
 cases h;rfl
def mk26 (L:Int × (List V) × (List V) × Int × Int × (List V) × (List V) × (List V)):V × List O:=(V.int .i64 L.1,[O.arena 71 L.2.1,O.arena 74 L.2.2.1,O.box 64 (V.agg [V.ptr 3 0 0,V.int .i64 L.2.2.2.1,V.int .i64 L.2.2.2.2.1,V.tail 4 0]) false,O.box 56 (V.agg [V.tail 5 0,V.tail 6 0]) false,O.row 75 L.2.2.2.2.2.1 0,O.row 9 L.2.2.2.2.2.2.1 0,O.row 85 L.2.2.2.2.2.2.2 0])
theorem mk26_inj:∀L L',mk26 L=mk26 L'->L=L':=by
 rintro ⟨a0,a1,a2,a3,a4,a5,a6,a7⟩ ⟨b0,b1,b2,b3,b4,b5,b6,b7⟩ h
 cases h;rfl
def mk28 (L:Int × (List V) × (List V) × Int × Int × (List V) × (List V) × (List V)):V × List O:=(V.int .i64 L.1,[O.arena 71 L.2.1,O.arena 74 L.2.2.1,O.box 64 (V.agg [V.ptr 3 0 0,V.int .i64 L.2.2.2.1,V.int .i64 L.2.2.2.2.1,V.tail 4 0]) false,O.box 56 (V.agg [V.tail 5 0,V.tail 6 0]) false,O.row 75 L.2.2.2.2.2.1 0,O.row 9 L.2.2.2.2.2.2.1 0,O.row 85 L.2.2.2.2.2.2.2 0])
theorem mk28_inj:∀L L',mk28 L=mk28 L'->L=L':=by
 rintro ⟨a0,a1,a2,a3,a4,a5,a6,a7⟩ ⟨b0,b1,b2,b3,b4,b5,b6,b7⟩ h
 cases h;rfl
def mk31 (L:Int × (List V) × (List V) × Int × Int × (List V) × (List V) × (List V)):V × List O:=(V.int .i64 L.1,[O.arena 71 L.2.1,O.arena 74 L.2.2.1,O.box 64 (V.agg [V.ptr 3 0 0,V.int .i64 L.2.2.2.1,V.int .i64 L.2.2.2.2.1,V.tail 7 0]) false,O.box 56 (V.agg [V.tail 8 0,V.tail 9 0]) false,O.dead,O.dead,O.dead,O.row 75 L.2.2.2.2.2.1 0,O.row 9 L.2.2.2.2.2.2.1 0,O.row 85 L.2.2.2.2.2.2.2 0])
theorem mk31_inj:∀L L',mk31 L=mk31 L'->L=L':=by
 rintro ⟨a0,a1,a2,a3,a4,a5,a6,a7⟩ ⟨b0,b1,b2,b3,b4,b5,b6,b7⟩ h
 cases h;rfl
def mk34 (M:List O) (L:Int):V × List O:=(V.int .i64 L,M)
theorem mk34_inj (M:List O):∀L L',mk34 M L=mk34 M L'->L=L':=by
 rintro a0 b0 h
 simpa [mk34] using h
def mk35 (L:Nat × (List V) × (List V) × (List V) × Int × Int × Int × (List (V × V)) × (List V) × (List (V × V)) × (List V) × Nat):V × List O:=(V.win 2 0 L.1,[O.arena 71 L.2.1,O.arena 74 L.2.2.1,O.row 3 L.2.2.2.1 0,O.box 30 (V.ptr 4 0 0) false,O.box 61 (V.agg [V.ptr 5 0 0,V.int .i64 L.2.2.2.2.1,V.mp 6,V.tail 7 0,V.int .i64 L.2.2.2.2.2.1]) false,O.box 52 (V.agg [V.int .i64 L.2.2.2.2.2.2.1,V.mp 8,V.tail 9 0]) false,O.map L.2.2.2.2.2.2.2.1,O.row 3 L.2.2.2.2.2.2.2.2.1 0,O.map L.2.2.2.2.2.2.2.2.2.1,O.row 83 L.2.2.2.2.2.2.2.2.2.2.1 L.2.2.2.2.2.2.2.2.2.2.2])
theorem mk35_inj:∀L L',mk35 L=mk35 L'->L=L':=by
 rintro ⟨a0,a1,a2,a3,a4,a5,a6,a7,a8,a9,a10,a11⟩ ⟨b0,b1,b2,b3,b4,b5,b6,b7,b8,b9,b10,b11⟩ h
 cases h;rfl
def mk45 (L:Int × (List V) × (List V) × Int × Int × Int × (List (V × V)) × (List (V × V)) × (List V) × (List V) × Nat):V × List O:=(V.int .i64 L.1,[O.arena 71 L.2.1,O.arena 74 L.2.2.1,O.box 61 (V.agg [V.ptr 3 0 0,V.int .i64 L.2.2.2.1,V.mp 4,V.tail 8 0,V.int .i64 L.2.2.2.2.1]) false,O.box 52 (V.agg [V.int .i64 L.2.2.2.2.2.1,V.mp 6,V.tail 9 0]) false,O.map L.2.2.2.2.2.2.1,O.dead,O.map L.2.2.2.2.2.2.2.1,O.dead,O.row 3 L.2.2.2.2.2.2.2.2.1 0,O.row 83 L.2.2.2.2.2.2.2.2.2.1 L.2.2.2.2.2.2.2.2.2.2])
theorem mk45_inj:∀L L',mk45 L=mk45 L'->L=L':=by
 rintro ⟨a0,a1,a2,a3,a4,a5,a6,a7,a8,a9,a10⟩ ⟨b0,b1,b2,b3,b4,b5,b6,b7,b8,b9,b10⟩ h
 cases h;rfl
def mk46 (L:(List V) × (List V) × Int × Int × Int × (List (V × V)) × (List (V × V)) × (List V) × (List V) × Nat):V × List O:=(V.tup [],[O.arena 71 L.1,O.arena 74 L.2.1,O.box 61 (V.agg [V.ptr 3 0 0,V.int .i64 L.2.2.1,V.mp 4,V.tail 8 0,V.int .i64 L.2.2.2.1]) false,O.box 52 (V.agg [V.int .i64 L.2.2.2.2.1,V.mp 6,V.tail 9 0]) false,O.map L.2.2.2.2.2.1,O.dead,O.map L.2.2.2.2.2.2.1,O.dead,O.row 3 L.2.2.2.2.2.2.2.1 0,O.row 83 L.2.2.2.2.2.2.2.2.1 L.2.2.2.2.2.2.2.2.2])
theorem mk46_inj:∀L L',mk46 L=mk46 L'->L=L':=by
 rintro ⟨a0,a1,a2,a3,a4,a5,a6,a7,a8,a9⟩ ⟨b0,b1,b2,b3,b4,b5,b6,b7,b8,b9⟩ h
 cases h;rfl
def mk69 (L:Int × (List V) × (List V) × Int × (List (V × V)) × (List V) × Nat):V × List O:=(V.int .i64 L.1,[O.arena 71 L.2.1,O.arena 74 L.2.2.1,O.box 52 (V.agg [V.int .i64 L.2.2.2.1,V.mp 3,V.tail 5 0]) false,O.map L.2.2.2.2.1,O.dead,O.row 83 L.2.2.2.2.2.1 L.2.2.2.2.2.2])
theorem mk69_inj:∀L L',mk69 L=mk69 L'->L=L':=by
 rintro ⟨a0,a1,a2,a3,a4,a5,a6⟩ ⟨b0,b1,b2,b3,b4,b5,b6⟩ h
 cases h;rfl
def mk48 (L:(List UInt8) × Int × (List V) × (List V) × (List V) × (List V)):V × List O:=(V.tup [V.str L.1,V.int .i64 L.2.1],[O.arena 71 L.2.2.1,O.arena 74 L.2.2.2.1,O.box 56 (V.agg [V.tail 3 0,V.tail 4 0]) false,O.row 9 L.2.2.2.2.1 0,O.row 85 L.2.2.2.2.2 0])
theorem mk48_inj:∀L L',mk48 L=mk48 L'->L=L':=by
 rintro ⟨a0,a1,a2,a3,a4,a5⟩ ⟨b0,b1,b2,b3,b4,b5⟩ h
 cases h;rfl
def mk49 (L:Bool × (List V) × (List V) × Int × Int × (List V) × (List V) × (List V)):V × List O:=(V.bool L.1,[O.arena 71 L.2.1,O.arena 74 L.2.2.1,O.box 64 (V.agg [V.ptr 3 0 0,V.int .i64 L.2.2.2.1,V.int .i64 L.2.2.2.2.1,V.tail 7 0]) false,O.box 56 (V.agg [V.tail 8 0,V.tail 9 0]) false,O.dead,O.dead,O.dead,O.row 75 L.2.2.2.2.2.1 0,O.row 9 L.2.2.2.2.2.2.1 0,O.row 85 L.2.2.2.2.2.2.2 0])
theorem mk49_inj:∀L L',mk49 L=mk49 L'->L=L':=by
 rintro ⟨a0,a1,a2,a3,a4,a5,a6,a7⟩ ⟨b0,b1,b2,b3,b4,b5,b6,b7⟩ h
 cases h;rfl
def mk70 (L:Int × (List V) × (List V) × (List V) × (List V)):V × List O:=(V.int .i64 L.1,[O.arena 71 L.2.1,O.arena 74 L.2.2.1,O.box 56 (V.agg [V.tail 5 0,V.tail 6 0]) false,O.dead,O.dead,O.row 9 L.2.2.2.1 0,O.row 85 L.2.2.2.2 0])
theorem mk70_inj:∀L L',mk70 L=mk70 L'->L=L':=by
 rintro ⟨a0,a1,a2,a3,a4⟩ ⟨b0,b1,b2,b3,b4⟩ h
 cases h;rfl
def mk59b (L:Int × (List V) × (List V) × (List V) × Int × Int × Int × (List (V × V)) × (List V) × (List (V × V)) × (List V) × Nat):V × List O:=(V.int .i64 L.1,[O.arena 71 L.2.1,O.arena 74 L.2.2.1,O.row 3 L.2.2.2.1 0,O.box 30 (V.ptr 4 0 0) false,O.box 61 (V.agg [V.ptr 5 0 0,V.int .i64 L.2.2.2.2.1,V.mp 6,V.tail 7 0,V.int .i64 L.2.2.2.2.2.1]) false,O.box 52 (V.agg [V.int .i64 L.2.2.2.2.2.2.1,V.mp 8,V.tail 9 0]) false,O.map L.2.2.2.2.2.2.2.1,O.row 3 L.2.2.2.2.2.2.2.2.1 0,O.map L.2.2.2.2.2.2.2.2.2.1,O.row 83 L.2.2.2.2.2.2.2.2.2.2.1 L.2.2.2.2.2.2.2.2.2.2.2])
theorem mk59b_inj:∀L L',mk59b L=mk59b L'->L=L':=by
 rintro ⟨a0,a1,a2,a3,a4,a5,a6,a7,a8,a9,a10,a11⟩ ⟨b0,b1,b2,b3,b4,b5,b6,b7,b8,b9,b10,b11⟩ h
 cases h;rfl
def mk59 (L:Int × (List V) × (List V) × (List V) × Int × Int × Int × (List (V × V)) × (List (V × V)) × (List V) × Nat):V × List O:=(V.int .i64 L.1,[O.arena 71 L.2.1,O.arena 74 L.2.2.1,O.row 3 L.2.2.2.1 0,O.box 30 (V.ptr 4 0 0) false,O.box 61 (V.agg [V.ptr 5 0 0,V.int .i64 L.2.2.2.2.1,V.mp 6,V.tail 2 0,V.int .i64 L.2.2.2.2.2.1]) false,O.box 52 (V.agg [V.int .i64 L.2.2.2.2.2.2.1,V.mp 7,V.tail 8 0]) false,O.map L.2.2.2.2.2.2.2.1,O.map L.2.2.2.2.2.2.2.2.1,O.row 83 L.2.2.2.2.2.2.2.2.2.1 L.2.2.2.2.2.2.2.2.2.2])
theorem mk59_inj:∀L L',mk59 L=mk59 L'->L=L':=by
 rintro ⟨a0,a1,a2,a3,a4,a5,a6,a7,a8,a9,a10⟩ ⟨b0,b1,b2,b3,b4,b5,b6,b7,b8,b9,b10⟩ h
 cases h;rfl
def mk35b (L:Nat × (List V) × (List V) × (List V) × Int):V × List O:=(V.win 2 0 L.1,[O.arena 71 L.2.1,O.arena 74 L.2.2.1,O.row 3 L.2.2.2.1 0,O.box 3 (V.int .i64 L.2.2.2.2) false])
theorem mk35b_inj:∀L L',mk35b L=mk35b L'->L=L':=by
 rintro ⟨a0,a1,a2,a3,a4⟩ ⟨b0,b1,b2,b3,b4⟩ h
 cases h;rfl
def mk59c (L:Int × (List V) × (List V) × (List V) × Int):V × List O:=(V.int .i64 L.1,[O.arena 71 L.2.1,O.arena 74 L.2.2.1,O.row 3 L.2.2.2.1 0,O.box 3 (V.int .i64 L.2.2.2.2) false])
theorem mk59c_inj:∀L L',mk59c L=mk59c L'->L=L':=by
 rintro ⟨a0,a1,a2,a3,a4⟩ ⟨b0,b1,b2,b3,b4⟩ h
 cases h;rfl
noncomputable def qkck (cm:CM) (f:FuncId) (args:List V) (mem:List O) (k:V->List O->R):R:=cond (f==5) (icM qcfg cm mk5 f args mem fun L=>k (mk5 L).1 (mk5 L).2) (cond (f==8) (icM qcfg cm mk8 f args mem fun L=>k (mk8 L).1 (mk8 L).2) (cond (f==9) (icM qcfg cm mk9 f args mem fun L=>k (mk9 L).1 (mk9 L).2) (cond (f==10) (icM qcfg cm mk10 f args mem fun L=>k (mk10 L).1 (mk10 L).2) (cond (f==12) (icM qcfg cm mk12 f args mem fun L=>k (mk12 L).1 (mk12 L).2) (cond (f==13) (icM qcfg cm mk13 f args mem fun L=>k (mk13 L).1 (mk13 L).2) (cond (f==14) (icM qcfg cm mk14 f args mem fun L=>k (mk14 L).1 (mk14 L).2) (cond (f==15) (icM qcfg cm mk15 f args mem fun L=>k (mk15 L).1 (mk15 L).2) (cond (f==16) (icM qcfg cm mk16 f args mem fun L=>k (mk16 L).1 (mk16 L).2) (cond (f==17) (icM qcfg cm mk17 f args mem fun L=>k (mk17 L).1 (mk17 L).2) (cond (f==18) (icM qcfg cm mk18 f args mem fun L=>k (mk18 L).1 (mk18 L).2) (cond (f==19) (icM qcfg cm mk19 f args mem fun L=>k (mk19 L).1 (mk19 L).2) (cond (f==20) (icM qcfg cm mk20 f args mem fun L=>k (mk20 L).1 (mk20 L).2) (cond (f==23) (icM qcfg cm mk23 f args mem fun L=>k (mk23 L).1 (mk23 L).2) (cond (f==27) (icM qcfg cm mk27 f args mem fun L=>k (mk27 L).1 (mk27 L).2) (cond (f==25) (icM qcfg cm mk25 f args mem fun L=>k (mk25 L).1 (mk25 L).2) (cond (f==40) (icM qcfg cm mk40 f args mem fun L=>k (mk40 L).1 (mk40 L).2) (cond (f==30) (icM qcfg cm mk30 f args mem fun L=>k (mk30 L).1 (mk30 L).2) (cond (f==24) (icM qcfg cm mk24 f args mem fun L=>k (mk24 L).1 (mk24 L).2) (cond (f==26) (icM qcfg cm mk26 f args mem fun L=>k (mk26 L).1 (mk26 L).2) (cond (f==28) (icM qcfg cm mk28 f args mem fun L=>k (mk28 L).1 (mk28 L).2) (cond (f==31) (icM qcfg cm mk31 f args mem fun L=>k (mk31 L).1 (mk31 L).2) (cond (f==34) (icM qcfg cm (mk34 mem) f args mem fun L=>k ((mk34 mem) L).1 ((mk34 mem) L).2) (cond (f==35 && cloOf args==36) (icM qcfg cm mk35 f args mem fun L=>k (mk35 L).1 (mk35 L).2) (cond (f==45) (icM qcfg cm mk45 f args mem fun L=>k (mk45 L).1 (mk45 L).2) (cond (f==46) (icM qcfg cm mk46 f args mem fun L=>k (mk46 L).1 (mk46 L).2) (cond (f==69) (icM qcfg cm mk69 f args mem fun L=>k (mk69 L).1 (mk69 L).2) (cond (f==48) (icM qcfg cm mk48 f args mem fun L=>k (mk48 L).1 (mk48 L).2) (cond (f==49) (icM qcfg cm mk49 f args mem fun L=>k (mk49 L).1 (mk49 L).2) (cond (f==70) (icM qcfg cm mk70 f args mem fun L=>k (mk70 L).1 (mk70 L).2) (cond (f==59 && cloOf args==36) (icM qcfg cm mk59b f args mem fun L=>k (mk59b L).1 (mk59b L).2) (cond (f==59 && cloOf args==65) (icM qcfg cm mk59 f args mem fun L=>k (mk59 L).1 (mk59 L).2) (cond (f==35 && cloOf args==67) (icM qcfg cm mk35b f args mem fun L=>k (mk35b L).1 (mk35b L).2) (cond (f==59 && cloOf args==67) (icM qcfg cm mk59c f args mem fun L=>k (mk59c L).1 (mk59c L).2) (none))))))))))))))))))))))))))))))))))
noncomputable def qkC:KC:={ qk0 with ck:=qkck }
theorem qikC:IKOK qkC:=⟨qikb.ik,fun cm f av mem k r h=>by
 change qkck cm f av mem k=some r at h
 unfold qkck at h
 rcases cond_some h with ⟨_,h⟩ | ⟨_,h⟩
 ·obtain ⟨L,h1,h2⟩:=icM_some h;exact ⟨_,_,h1,h2⟩
 rcases cond_some h with ⟨_,h⟩ | ⟨_,h⟩
 ·obtain ⟨L,h1,h2⟩:=icM_some h;exact ⟨_,_,h1,h2⟩
 rcases cond_some h with ⟨_,h⟩ | ⟨_,h⟩
 ·obtain ⟨L,h1,h2⟩:=icM_some h;exact ⟨_,_,h1,h2⟩
 rcases cond_some h with ⟨_,h⟩ | ⟨_,h⟩
 ·obtain ⟨L,h1,h2⟩:=icM_some h;exact ⟨_,_,h1,h2⟩
 rcases cond_some h with ⟨_,h⟩ | ⟨_,h⟩
 ·obtain ⟨L,h1,h2⟩:=icM_some h;exact ⟨_,_,h1,h2⟩
 rcases cond_some h with ⟨_,h⟩ | ⟨_,h⟩
 ·obtain ⟨L,h1,h2⟩:=icM_some h;exact ⟨_,_,h1,h2⟩
 rcases cond_some h with ⟨_,h⟩ | ⟨_,h⟩
 ·obtain ⟨L,h1,h2⟩:=icM_some h;exact ⟨_,_,h1,h2⟩
 rcases cond_some h with ⟨_,h⟩ | ⟨_,h⟩
 ·obtain ⟨L,h1,h2⟩:=icM_some h;exact ⟨_,_,h1,h2⟩
 rcases cond_some h with ⟨_,h⟩ | ⟨_,h⟩
 ·obtain ⟨L,h1,h2⟩:=icM_some h;exact ⟨_,_,h1,h2⟩
 rcases cond_some h with ⟨_,h⟩ | ⟨_,h⟩
 ·obtain ⟨L,h1,h2⟩:=icM_some h;exact ⟨_,_,h1,h2⟩
 rcases cond_some h with ⟨_,h⟩ | ⟨_,h⟩
 ·obtain ⟨L,h1,h2⟩:=icM_some h;exact ⟨_,_,h1,h2⟩
 rcases cond_some h with ⟨_,h⟩ | ⟨_,h⟩
 ·obtain ⟨L,h1,h2⟩:=icM_some h;exact ⟨_,_,h1,h2⟩
 rcases cond_some h with ⟨_,h⟩ | ⟨_,h⟩
 ·obtain ⟨L,h1,h2⟩:=icM_some h;exact ⟨_,_,h1,h2⟩
 rcases cond_some h with ⟨_,h⟩ | ⟨_,h⟩
 ·obtain ⟨L,h1,h2⟩:=icM_some h;exact ⟨_,_,h1,h2⟩
 rcases cond_some h with ⟨_,h⟩ | ⟨_,h⟩
 ·obtain ⟨L,h1,h2⟩:=icM_some h;exact ⟨_,_,h1,h2⟩
 rcases cond_some h with ⟨_,h⟩ | ⟨_,h⟩
 ·obtain ⟨L,h1,h2⟩:=icM_some h;exact ⟨_,_,h1,h2⟩
 rcases cond_some h with ⟨_,h⟩ | ⟨_,h⟩
 ·obtain ⟨L,h1,h2⟩:=icM_some h;exact ⟨_,_,h1,h2⟩
 rcases cond_some h with ⟨_,h⟩ | ⟨_,h⟩
 ·obtain ⟨L,h1,h2⟩:=icM_some h;exact ⟨_,_,h1,h2⟩
 rcases cond_some h with ⟨_,h⟩ | ⟨_,h⟩
 ·obtain ⟨L,h1,h2⟩:=icM_some h;exact ⟨_,_,h1,h2⟩
 rcases cond_some h with ⟨_,h⟩ | ⟨_,h⟩
 ·obtain ⟨L,h1,h2⟩:=icM_some h;exact ⟨_,_,h1,h2⟩
 rcases cond_some h with ⟨_,h⟩ | ⟨_,h⟩
 ·obtain ⟨L,h1,h2⟩:=icM_some h;exact ⟨_,_,h1,h2⟩
 rcases cond_some h with ⟨_,h⟩ | ⟨_,h⟩
 ·obtain ⟨L,h1,h2⟩:=icM_some h;exact ⟨_,_,h1,h2⟩
 rcases cond_some h with ⟨_,h⟩ | ⟨_,h⟩
 ·obtain ⟨L,h1,h2⟩:=icM_some h;exact ⟨_,_,h1,h2⟩
 rcases cond_some h with ⟨_,h⟩ | ⟨_,h⟩
 ·obtain ⟨L,h1,h2⟩:=icM_some h;exact ⟨_,_,h1,h2⟩
 rcases cond_some h with ⟨_,h⟩ | ⟨_,h⟩
 ·obtain ⟨L,h1,h2⟩:=icM_some h;exact ⟨_,_,h1,h2⟩
 rcases cond_some h with ⟨_,h⟩ | ⟨_,h⟩
 ·obtain ⟨L,h1,h2⟩:=icM_some h;exact ⟨_,_,h1,h2⟩
 rcases cond_some h with ⟨_,h⟩ | ⟨_,h⟩
 ·obtain ⟨L,h1,h2⟩:=icM_some h;exact ⟨_,_,h1,h2⟩
 rcases cond_some h with ⟨_,h⟩ | ⟨_,h⟩
 ·obtain ⟨L,h1,h2⟩:=icM_some h;exact ⟨_,_,h1,h2⟩
 rcases cond_some h with ⟨_,h⟩ | ⟨_,h⟩
 ·obtain ⟨L,h1,h2⟩:=icM_some h;exact ⟨_,_,h1,h2⟩
 rcases cond_some h with ⟨_,h⟩ | ⟨_,h⟩
 ·obtain ⟨L,h1,h2⟩:=icM_some h;exact ⟨_,_,h1,h2⟩
 rcases cond_some h with ⟨_,h⟩ | ⟨_,h⟩
 ·obtain ⟨L,h1,h2⟩:=icM_some h;exact ⟨_,_,h1,h2⟩
 rcases cond_some h with ⟨_,h⟩ | ⟨_,h⟩
 ·obtain ⟨L,h1,h2⟩:=icM_some h;exact ⟨_,_,h1,h2⟩
 rcases cond_some h with ⟨_,h⟩ | ⟨_,h⟩
 ·obtain ⟨L,h1,h2⟩:=icM_some h;exact ⟨_,_,h1,h2⟩
 rcases cond_some h with ⟨_,h⟩ | ⟨_,h⟩
 ·obtain ⟨L,h1,h2⟩:=icM_some h;exact ⟨_,_,h1,h2⟩
 cases h⟩
noncomputable def fa33:FA:=⟨1,4,[.tmp 2],[78],
 (.seq
 (.ops false [o1 1 (.box 59 (t' 0)) 0,o1 2 (.assign (.const (.nilFunc))) 78])
 (.seq
 (.ops false [o1 3 (.makeFunc (.func 58) #[] #[(t' 1)]) 77,asg 2 3 78])
 (.ret)))⟩
theorem fa33_eq:fnA qcfg.P (qcfg.rxf 33) 33=some fa33:=by kernel_rfl
noncomputable def fa4:FA:=⟨1,14,[.tmp 2,.tmp 3],[23,24],
 (.seq
 (.ops false [o1 2 (.assign (.const (.pointer none))) 23,o1 3 (.assign (.const (.int .i64 (0)))) 24])
 (.seq
 (.seq
 (.ops false [mv 4 0 3,o1 5 (.binOp .lss 3 (t' 4) (.const (.int .i64 (1))) 3) 4,mv 6 5 4,o2 7 (.move (t' 0)) 3 6 false,o2 8 (.binOp .gtr 3 (t' 7) (.const (.int .i64 (1024))) 3) 4 6 false,o1 9 (.pick (t' 6) (.const (.bool true)) (t' 8)) 4])
 (.cond (t' 9)
 (.seq
 (.ops false [o1 2 (.assign (.const (.pointer none))) 23,o1 3 (.assign (.const (.int .i64 (1)))) 24])
 (.ret))
 (.skip)))
 (.seq
 (.ops false [mv 10 0 3,o1 11 (.makeMap 49 none) 49,o1 12 (.build 52 #[(0,(t' 10)),(1,(t' 11))]) 52,o1 13 (.box 52 (t' 12)) 23,asg 2 13 23,o1 3 (.assign (.const (.int .i64 (0)))) 24])
 (.ret))))⟩
theorem fa4_eq:fnA qcfg.P (qcfg.rxf 4) 4=some fa4:=by kernel_rfl
noncomputable def fa37:FA:=⟨2,15,[.tmp 4],[4],
 (.seq
 (.ops false [o1 4 (.assign (.const (.bool false))) 4])
 (.seq
 (.ops false [mv 5 1 3,o1 6 (.binOp .geq 3 (t' 5) (.const (.int .i64 (0))) 3) 4,mv 7 6 4,o2 8 (.move (t' 1)) 3 7 true,o2 9 (.move (t' 0)) 23 7 true,o2 10 (.nilCheck (t' 9)) 0 7 true,o2 11 (.fieldAddr 52 (t' 10) 0) 0 7 true,o2 12 (.load 3 (t' 11)) 3 7 true,o2 13 (.binOp .lss 3 (t' 8) (t' 12) 3) 4 7 true,o1 14 (.pick (t' 7) (t' 13) (.const (.bool false))) 4,asg 4 14 4])
 (.ret)))⟩
theorem fa37_eq:fnA qcfg.P (qcfg.rxf 37) 37=some fa37:=by kernel_rfl
noncomputable def fa44:FA:=⟨1,7,[.tmp 2],[3],
 (.seq
 (.ops false [o1 2 (.assign (.const (.int .i64 (0)))) 3])
 (.seq
 (.ops false [mv 3 0 23,o1 4 (.nilCheck (t' 3)) 0,o1 5 (.fieldAddr 52 (t' 4) 0) 0,o1 6 (.load 3 (t' 5)) 3,asg 2 6 3])
 (.ret)))⟩
theorem fa44_eq:fnA qcfg.P (qcfg.rxf 44) 44=some fa44:=by kernel_rfl
noncomputable def fa39:FA:=⟨2,19,[.tmp 4],[9],
 (.seq
 (.ops false [o1 4 (.assign (.const (.string ⟨⟨[]⟩⟩))) 9])
 (.seq
 (.seq
 (.ops false [mv 8 0 23,o1 9 (.nilCheck (t' 8)) 0,o1 10 (.fieldAddr 52 (t' 9) 1) 0,o1 11 (.load 49 (t' 10)) 49,mv 12 1 3,o1 13 (.lookup 49 (t' 11) (t' 12) true) 104,mv 7 13 104,o1 14 (.extract (t' 7) 0) 9,o1 15 (.extract (t' 7) 1) 4,asg 5 14 9,asg 6 15 4])
 (.seq
 (.ops false [mv 16 6 4])
 (.cond (t' 16)
 (.seq
 (.ops false [mv 17 5 9,asg 4 17 9])
 (.ret))
 (.skip))))
 (.seq
 (.ops false [o1 18 (.call ⟨(.value (.func 61)),#[],#[]⟩) 9,asg 4 18 9])
 (.ret))))⟩
theorem fa39_eq:fnA qcfg.P (qcfg.rxf 39) 39=some fa39:=by kernel_rfl
noncomputable def fa6:FA:=⟨2,17,[.tmp 4,.tmp 5],[30,24],
 (.seq
 (.ops false [o1 4 (.assign (.const (.pointer none))) 30,o1 5 (.assign (.const (.int .i64 (0)))) 24])
 (.seq
 (.seq
 (.ops false [mv 6 1 3,o1 7 (.binOp .lss 3 (t' 6) (.const (.int .i64 (1))) 3) 4,mv 8 7 4,o2 9 (.move (t' 1)) 3 8 false,o2 10 (.binOp .gtr 3 (t' 9) (.const (.int .i64 (64))) 3) 4 8 false,o1 11 (.pick (t' 8) (.const (.bool true)) (t' 10)) 4])
 (.cond (t' 11)
 (.seq
 (.ops false [o1 4 (.assign (.const (.pointer none))) 30,o1 5 (.assign (.const (.int .i64 (1)))) 24])
 (.ret))
 (.skip)))
 (.seq
 (.ops false [mv 12 0 23,mv 13 1 3,o1 14 (.makeMap 59 none) 59,o1 15 (.build 61 #[(0,(t' 12)),(1,(t' 13)),(2,(t' 14))]) 61,o1 16 (.box 61 (t' 15)) 30,asg 4 16 30,o1 5 (.assign (.const (.int .i64 (0)))) 24])
 (.ret))))⟩
theorem fa6_eq:fnA qcfg.P (qcfg.rxf 6) 6=some fa6:=by kernel_rfl
noncomputable def fa52:FA:=⟨2,20,[.tmp 4],[4],
 (.seq
 (.ops false [o1 4 (.assign (.const (.bool false))) 4])
 (.seq
 (.ops true [mv 5 1 72,o1 6 (.nilCheck (t' 5)) 0,o1 7 (.fieldAddr 71 (t' 6) 2) 0,o1 8 (.load 4 (t' 7)) 4,mv 9 8 4,o2 10 (.move (t' 1)) 72 9 true,o2 11 (.nilCheck (t' 10)) 0 9 true,o2 12 (.fieldAddr 71 (t' 11) 4) 0 9 true,o2 13 (.load 3 (t' 12)) 3 9 true,o2 14 (.move (t' 0)) 30 9 true,o2 15 (.nilCheck (t' 14)) 0 9 true,o2 16 (.fieldAddr 61 (t' 15) 4) 0 9 true,o2 17 (.load 3 (t' 16)) 3 9 true,o2 18 (.binOp .leq 3 (t' 13) (t' 17) 3) 4 9 true,o1 19 (.pick (t' 9) (t' 18) (.const (.bool false))) 4,asg 4 19 4])
 (.ret)))⟩
theorem fa52_eq:fnA qcfg.P (qcfg.rxf 52) 52=some fa52:=by kernel_rfl
noncomputable def fa50:FA:=⟨2,23,[.tmp 4,.tmp 5],[72,24],
 (.seq
 (.ops false [o1 4 (.assign (.const (.pointer none))) 72,o1 5 (.assign (.const (.int .i64 (0)))) 24])
 (.seq
 (.ops false [mv 7 0 30,o1 8 (.nilCheck (t' 7)) 0,o1 9 (.fieldAddr 61 (t' 8) 2) 0,o1 10 (.load 59 (t' 9)) 59,mv 11 1 3,o1 12 (.lookup 59 (t' 10) (t' 11) false) 72,asg 6 12 72])
 (.seq
 (.block 0
 (.seq
 (.ops false [mv 14 6 72,o1 15 (.binOp .eql 72 (t' 14) (.const (.pointer none)) 72) 4,asg 13 15 4])
 (.cond (t' 13)
 (.seq
 (.ops false [o1 4 (.assign (.const (.pointer none))) 72,o1 5 (.assign (.const (.int .i64 (7)))) 24])
 (.ret))
 (.seq
 (.ops false [mv 17 6 72,o1 18 (.nilCheck (t' 17)) 0,o1 19 (.fieldAddr 71 (t' 18) 1) 0,o1 20 (.load 3 (t' 19)) 3,o1 21 (.binOp .eql 3 (t' 20) (.const (.int .i64 (0))) 3) 4,asg 16 21 4])
 (.cond (t' 16)
 (.seq
 (.ops false [o1 4 (.assign (.const (.pointer none))) 72,o1 5 (.assign (.const (.int .i64 (9)))) 24])
 (.ret))
 (.skip))))))
 (.seq
 (.ops false [mv 22 6 72,asg 4 22 72,o1 5 (.assign (.const (.int .i64 (0)))) 24])
 (.ret)))))⟩
theorem fa50_eq:fnA qcfg.P (qcfg.rxf 50) 50=some fa50:=by kernel_rfl
noncomputable def fa53:FA:=⟨2,27,[],[],
 (.seq
 (.ops true [mv 4 0 30,o1 5 (.nilCheck (t' 4)) 0,o1 6 (.fieldAddr 61 (t' 5) 0) 0,o1 7 (.load 23 (t' 6)) 23,mv 8 1 3,mv 9 0 30,o1 10 (.nilCheck (t' 9)) 0,o1 11 (.fieldAddr 61 (t' 10) 2) 0,o1 12 (.load 59 (t' 11)) 59,mv 13 1 3,o1 14 (.lookup 59 (t' 12) (t' 13) false) 72,o1 15 (.nilCheck (t' 14)) 0,o1 16 (.fieldAddr 71 (t' 15) 0) 0,o1 17 (.load 9 (t' 16)) 9,⟨(some 18),.call ⟨(.value (.func 69)),#[(t' 7),(t' 8),(t' 17)],#[23,3,9]⟩,24,none,false,true,false⟩])
 (.ops false [mv 19 0 30,o1 20 (.nilCheck (t' 19)) 0,o1 21 (.fieldAddr 61 (t' 20) 2) 0,o1 22 (.load 59 (t' 21)) 59,mv 23 1 3,o1 24 (.lookup 59 (t' 22) (t' 23) false) 72,o1 25 (.nilCheck (t' 24)) 0,o1 26 (.fieldAddr 71 (t' 25) 2) 0,o0 (.store 4 (t' 26) (.const (.bool false))) 0]))⟩
theorem fa53_eq:fnA qcfg.P (qcfg.rxf 53) 53=some fa53:=by kernel_rfl
noncomputable def fa67:FA:=⟨2,7,[.tmp 3],[4],
 (.seq
 (.ops false [o1 3 (.assign (.const (.bool false))) 4])
 (.seq
 (.ops false [mv 4 0 3,o1 5 (.load 3 (t' 1)) 3,o1 6 (.binOp .eql 3 (t' 4) (t' 5) 3) 4,asg 3 6 4])
 (.ret)))⟩
theorem fa67_eq:fnA qcfg.P (qcfg.rxf 67) 67=some fa67:=by kernel_rfl
noncomputable def fa36:FA:=⟨2,14,[.tmp 3],[4],
 (.seq
 (.ops false [o1 3 (.assign (.const (.bool false))) 4])
 (.seq
 (.ops false [o1 4 (.load 30 (t' 1)) 30,o1 5 (.nilCheck (t' 4)) 0,o1 6 (.fieldAddr 61 (t' 5) 2) 0,o1 7 (.load 59 (t' 6)) 59,mv 8 0 3,o1 9 (.lookup 59 (t' 7) (t' 8) false) 72,o1 10 (.nilCheck (t' 9)) 0,o1 11 (.fieldAddr 71 (t' 10) 2) 0,o1 12 (.load 4 (t' 11)) 4,o1 13 (.unOp .not 4 (t' 12)) 4,asg 3 13 4])
 (.ret)))⟩
theorem fa36_eq:fnA qcfg.P (qcfg.rxf 36) 36=some fa36:=by kernel_rfl
noncomputable def fa29:FA:=⟨2,13,[],[],
 (.ops false [mv 4 0 30,mv 5 0 30,o1 6 (.nilCheck (t' 5)) 0,o1 7 (.fieldAddr 61 (t' 6) 4) 0,o1 8 (.load 3 (t' 7)) 3,mv 9 1 3,o1 10 (.call ⟨(.builtin .max),#[(t' 8),(t' 9)],#[3,3]⟩) 3,o1 11 (.nilCheck (t' 4)) 0,o1 12 (.fieldAddr 61 (t' 11) 4) 0,o0 (.store 3 (t' 12) (t' 10)) 0])⟩
theorem fa29_eq:fnA qcfg.P (qcfg.rxf 29) 29=some fa29:=by kernel_rfl
noncomputable def fa7:FA:=⟨2,16,[.tmp 4,.tmp 5],[33,24],
 (.seq
 (.ops false [o1 4 (.assign (.const (.pointer none))) 33,o1 5 (.assign (.const (.int .i64 (0)))) 24])
 (.seq
 (.seq
 (.ops false [mv 6 1 3,o1 7 (.binOp .lss 3 (t' 6) (.const (.int .i64 (1))) 3) 4,mv 8 7 4,o2 9 (.move (t' 1)) 3 8 false,o2 10 (.binOp .gtr 3 (t' 9) (.const (.int .i64 (64))) 3) 4 8 false,o1 11 (.pick (t' 8) (.const (.bool true)) (t' 10)) 4])
 (.cond (t' 11)
 (.seq
 (.ops false [o1 4 (.assign (.const (.pointer none))) 33,o1 5 (.assign (.const (.int .i64 (1)))) 24])
 (.ret))
 (.skip)))
 (.seq
 (.ops false [mv 12 0 27,mv 13 1 3,o1 14 (.build 64 #[(0,(t' 12)),(1,(t' 13))]) 64,o1 15 (.box 64 (t' 14)) 33,asg 4 15 33,o1 5 (.assign (.const (.int .i64 (0)))) 24])
 (.ret))))⟩
theorem fa7_eq:fnA qcfg.P (qcfg.rxf 7) 7=some fa7:=by kernel_rfl
noncomputable def fa54:FA:=⟨2,20,[.tmp 4],[4],
 (.seq
 (.ops false [o1 4 (.assign (.const (.bool false))) 4])
 (.seq
 (.ops true [mv 5 1 75,o1 6 (.nilCheck (t' 5)) 0,o1 7 (.fieldAddr 74 (t' 6) 3) 0,o1 8 (.load 4 (t' 7)) 4,mv 9 8 4,o2 10 (.move (t' 1)) 75 9 true,o2 11 (.nilCheck (t' 10)) 0 9 true,o2 12 (.fieldAddr 74 (t' 11) 5) 0 9 true,o2 13 (.load 3 (t' 12)) 3 9 true,o2 14 (.move (t' 0)) 33 9 true,o2 15 (.nilCheck (t' 14)) 0 9 true,o2 16 (.fieldAddr 64 (t' 15) 2) 0 9 true,o2 17 (.load 3 (t' 16)) 3 9 true,o2 18 (.binOp .leq 3 (t' 13) (t' 17) 3) 4 9 true,o1 19 (.pick (t' 9) (t' 18) (.const (.bool false))) 4,asg 4 19 4])
 (.ret)))⟩
theorem fa54_eq:fnA qcfg.P (qcfg.rxf 54) 54=some fa54:=by kernel_rfl
noncomputable def hkI1:KC:=qkC.inl [(33,fa33),(4,fa4),(37,fa37),(44,fa44),(39,fa39),(6,fa6),(52,fa52),(50,fa50),(53,fa53),(67,fa67),(36,fa36),(29,fa29),(7,fa7),(54,fa54)]
theorem hikI1:IKOK hkI1:=inl_ok qikC (by
 intro x hx
 simp only [List.mem_cons,List.not_mem_nil,or_false] at hx
 rcases hx with rfl | rfl | rfl | rfl | rfl | rfl | rfl | rfl | rfl | rfl | rfl | rfl | rfl | rfl
 ·exact ⟨rfl,fa33_eq,rfl⟩
 ·exact ⟨rfl,fa4_eq,rfl⟩
 ·exact ⟨rfl,fa37_eq,rfl⟩
 ·exact ⟨rfl,fa44_eq,rfl⟩
 ·exact ⟨rfl,fa39_eq,rfl⟩
 ·exact ⟨rfl,fa6_eq,rfl⟩
 ·exact ⟨rfl,fa52_eq,rfl⟩
 ·exact ⟨rfl,fa50_eq,rfl⟩
 ·exact ⟨rfl,fa53_eq,rfl⟩
 ·exact ⟨rfl,fa67_eq,rfl⟩
 ·exact ⟨rfl,fa36_eq,rfl⟩
 ·exact ⟨rfl,fa29_eq,rfl⟩
 ·exact ⟨rfl,fa7_eq,rfl⟩
 ·exact ⟨rfl,fa54_eq,rfl⟩)
noncomputable def fa65:FA:=⟨2,28,[.tmp 3],[4],
 (.seq
 (.ops false [o1 3 (.assign (.const (.bool false))) 4])
 (.seq
 (.ops false [o1 5 (.load 30 (t' 1)) 30,o1 6 (.nilCheck (t' 5)) 0,o1 7 (.fieldAddr 61 (t' 6) 2) 0,o1 8 (.load 59 (t' 7)) 59,mv 9 0 3,o1 10 (.lookup 59 (t' 8) (t' 9) false) 72,asg 4 10 72])
 (.seq
 (.ops false [mv 11 4 72,o1 12 (.nilCheck (t' 11)) 0,o1 13 (.fieldAddr 71 (t' 12) 1) 0,o1 14 (.load 3 (t' 13)) 3,o1 15 (.binOp .eql 3 (t' 14) (.const (.int .i64 (0))) 3) 4,mv 16 15 4,o2 17 (.move (t' 4)) 72 16 true,o2 18 (.nilCheck (t' 17)) 0 16 true,o2 19 (.fieldAddr 71 (t' 18) 2) 0 16 true,o2 20 (.load 4 (t' 19)) 4 16 true,o2 21 (.unOp .not 4 (t' 20)) 4 16 true,o2 22 (.move (t' 21)) 4 16 true,o2 23 (.load 30 (t' 1)) 30 22 false,o2 24 (.move (t' 4)) 72 22 false,o2 25 (.call ⟨(.value (.func 52)),#[(t' 23),(t' 24)],#[30,72]⟩) 4 22 false,o2 26 (.pick (t' 22) (.const (.bool true)) (t' 25)) 4 16 true,o1 27 (.pick (t' 16) (t' 26) (.const (.bool false))) 4,asg 3 27 4])
 (.ret))))⟩
theorem fa65_eq:fnA qcfg.P (qcfg.rxf 65) 65=some fa65:=by kernel_rfl
noncomputable def fa47:FA:=⟨2,26,[],[],
 (.seq
 (.ops false [o1 5 (.buildSlice 62 0 #[]) 62,mv 6 0 33,o1 7 (.nilCheck (t' 6)) 0,o1 8 (.fieldAddr 64 (t' 7) 3) 0,o1 9 (.load 62 (t' 8)) 62,mv 10 1 3,o1 11 (.slice 62 (t' 9) none (some (t' 10)) none) 62,o1 12 (.call ⟨(.builtin .append),#[(t' 5),(t' 11)],#[62,62]⟩) 62,asg 4 12 62])
 (.seq
 (.ops false [mv 13 4 62,mv 14 0 33,o1 15 (.nilCheck (t' 14)) 0,o1 16 (.fieldAddr 64 (t' 15) 3) 0,o1 17 (.load 62 (t' 16)) 62,mv 18 1 3,o1 19 (.binOp .add 3 (t' 18) (.const (.int .i64 (1))) 3) 3,o1 20 (.slice 62 (t' 17) (some (t' 19)) none none) 62,o1 21 (.call ⟨(.builtin .append),#[(t' 13),(t' 20)],#[62,62]⟩) 62,asg 4 21 62])
 (.ops false [mv 22 0 33,mv 23 4 62,o1 24 (.nilCheck (t' 22)) 0,o1 25 (.fieldAddr 64 (t' 24) 3) 0,o0 (.store 62 (t' 25) (t' 23)) 0])))⟩
theorem fa47_eq:fnA qcfg.P (qcfg.rxf 47) 47=some fa47:=by kernel_rfl
noncomputable def fa55:FA:=⟨2,20,[],[],
 (.seq
 (.ops true [mv 4 0 33,o1 5 (.nilCheck (t' 4)) 0,o1 6 (.fieldAddr 64 (t' 5) 0) 0,o1 7 (.load 27 (t' 6)) 27,mv 8 1 75,o1 9 (.nilCheck (t' 8)) 0,o1 10 (.fieldAddr 74 (t' 9) 0) 0,o1 11 (.load 3 (t' 10)) 3,mv 12 1 75,o1 13 (.nilCheck (t' 12)) 0,o1 14 (.fieldAddr 74 (t' 13) 1) 0,o1 15 (.load 9 (t' 14)) 9,⟨(some 16),.call ⟨(.value (.func 70)),#[(t' 7),(t' 11),(t' 15)],#[27,3,9]⟩,24,none,false,true,false⟩])
 (.ops false [mv 17 1 75,o1 18 (.nilCheck (t' 17)) 0,o1 19 (.fieldAddr 74 (t' 18) 3) 0,o0 (.store 4 (t' 19) (.const (.bool false))) 0]))⟩
theorem fa55_eq:fnA qcfg.P (qcfg.rxf 55) 55=some fa55:=by kernel_rfl
noncomputable def fa51:FA:=⟨2,22,[.tmp 4],[24],
 (.seq
 (.ops false [o1 4 (.assign (.const (.int .i64 (0)))) 24])
 (.seq
 (.ops false [mv 6 0 33,mv 7 1 3,o1 8 (.call ⟨(.value (.func 34)),#[(t' 6),(t' 7)],#[33,3]⟩) 3,asg 5 8 3])
 (.seq
 (.seq
 (.ops false [mv 9 5 3,o1 10 (.binOp .lss 3 (t' 9) (.const (.int .i64 (0))) 3) 4])
 (.cond (t' 10)
 (.seq
 (.ops false [o1 4 (.assign (.const (.int .i64 (7)))) 24])
 (.ret))
 (.skip)))
 (.seq
 (.seq
 (.ops false [mv 11 0 33,o1 12 (.nilCheck (t' 11)) 0,o1 13 (.fieldAddr 64 (t' 12) 3) 0,o1 14 (.load 62 (t' 13)) 62,mv 15 5 3,o1 16 (.indexAddr 62 (t' 14) (t' 15)) 0,o1 17 (.load 75 (t' 16)) 75,o1 18 (.nilCheck (t' 17)) 0,o1 19 (.fieldAddr 74 (t' 18) 2) 0,o1 20 (.load 3 (t' 19)) 3,o1 21 (.binOp .eql 3 (t' 20) (.const (.int .i64 (0))) 3) 4])
 (.cond (t' 21)
 (.seq
 (.ops false [o1 4 (.assign (.const (.int .i64 (9)))) 24])
 (.ret))
 (.skip)))
 (.seq
 (.ops false [o1 4 (.assign (.const (.int .i64 (0)))) 24])
 (.ret))))))⟩
theorem fa51_eq:fnA qcfg.P (qcfg.rxf 51) 51=some fa51:=by kernel_rfl
noncomputable def qk:KC:=hkI1.inl [(65,fa65),(47,fa47),(55,fa55),(51,fa51)]
theorem qik:IKOK qk:=inl_ok hikI1 (by
 intro x hx
 simp only [List.mem_cons,List.not_mem_nil,or_false] at hx
 rcases hx with rfl | rfl | rfl | rfl
 ·exact ⟨rfl,fa65_eq,rfl⟩
 ·exact ⟨rfl,fa47_eq,rfl⟩
 ·exact ⟨rfl,fa55_eq,rfl⟩
 ·exact ⟨rfl,fa51_eq,rfl⟩)
noncomputable def fa99:FA:=(fnA qcfg.P (qcfg.rxf 99) 99).getD faN
theorem fa99_eq:fnA qcfg.P (qcfg.rxf 99) 99=some fa99:=fa_of (by kernel_rfl)
noncomputable def e99 (a0:List UInt8) (a1:Int):R :=
 cond (decide (a1 < 0))
 (some (.done (V.int .i64 1)))
 (cond (decide (a1 > (a0.length:Int)))
 (some (.done (V.int .i64 1)))
 (some (.done (V.int .i64 0))))
theorem e99_eq (a0:List UInt8) (a1:Int):enterK qk false fa99 [V.str a0,V.int .i64 a1] []=e99 a0 a1:=by kernel_rfl
theorem e99_run (a0:List UInt8) (a1:Int) {o:Out} {v:V} (h:e99 a0 a1=some o) (hg:Go qk false 0 fa99 o (.done v)):pcW qcfg 99 [V.str a0,V.int .i64 a1]=some v:=pcW_go qik rfl fa99_eq ((e99_eq ..).trans h) hg
theorem e99_done (a0:List UInt8) (a1:Int) {v:V} (h:e99 a0 a1=some (.done v)):pcW qcfg 99 [V.str a0,V.int .i64 a1]=some v:=e99_run a0 a1 h (.refl _)
noncomputable def fa90:FA:=(fnA qcfg.P (qcfg.rxf 90) 90).getD faN
theorem fa90_eq:fnA qcfg.P (qcfg.rxf 90) 90=some fa90:=fa_of (by kernel_rfl)
noncomputable def e90 (a0:List UInt8) (a1 a2:Int):R :=
 cond (decide (a2 < 1))
 (some (.done (V.int .i64 1)))
 (cond (decide (a2 > 8))
 (some (.done (V.int .i64 1)))
 (pcK qcfg 99 [V.str a0,V.int .i64 a1] fun r =>
  kI .i64 r fun r99 =>
  cond (r99 != (0:Int))
 (some (.done (V.int .i64 1)))
 (cond (decide (W .i64 ((a0.length:Int) - a1) < a2))
 (some (.done (V.int .i64 3)))
 (some (.done (V.int .i64 0))))))
theorem e90_eq (a0:List UInt8) (a1 a2:Int):enterK qk false fa90 [V.str a0,V.int .i64 a1,V.int .i64 a2] []=e90 a0 a1 a2:=by kernel_rfl
theorem e90_run (a0:List UInt8) (a1 a2:Int) {o:Out} {v:V} (h:e90 a0 a1 a2=some o) (hg:Go qk false 0 fa90 o (.done v)):pcW qcfg 90 [V.str a0,V.int .i64 a1,V.int .i64 a2]=some v:=pcW_go qik rfl fa90_eq ((e90_eq ..).trans h) hg
theorem e90_done (a0:List UInt8) (a1 a2:Int) {v:V} (h:e90 a0 a1 a2=some (.done v)):pcW qcfg 90 [V.str a0,V.int .i64 a1,V.int .i64 a2]=some v:=e90_run a0 a1 a2 h (.refl _)
noncomputable def fa75:FA:=(fnA qcfg.P (qcfg.rxf 75) 75).getD faN
theorem fa75_eq:fnA qcfg.P (qcfg.rxf 75) 75=some fa75:=fa_of (by kernel_rfl)
def T75_0 (x0:List UInt8) (x1 x9:Int) (x18 x19:Int):S:=⟨[V.str x0,V.int .i64 x1]++(JU 4)++[V.int .u64 0,V.int .i64 0,V.junk,V.int .u64 x9]++(JU 8)++[V.int .i64 x18,V.int .i64 x19]++(JU 15),[]⟩
noncomputable def e75 (a0:List UInt8) (a1 a2:Int):R :=
 pcK qcfg 90 [V.str a0,V.int .i64 a1,V.int .i64 a2] fun r =>
 kI .i64 r fun r90 =>
 cond (r90 != (0:Int))
 (some (.done (V.tup [V.int .u64 0,V.int .i64 r90])))
 (some (.head 0 (T75_0 a0 a1 0 a2 0)))
theorem e75_eq (a0:List UInt8) (a1 a2:Int):enterK qk false fa75 [V.str a0,V.int .i64 a1,V.int .i64 a2] []=e75 a0 a1 a2:=by kernel_rfl
theorem e75_run (a0:List UInt8) (a1 a2:Int) {o:Out} {v:V} (h:e75 a0 a1 a2=some o) (hg:Go qk false 0 fa75 o (.done v)):pcW qcfg 75 [V.str a0,V.int .i64 a1,V.int .i64 a2]=some v:=pcW_go qik rfl fa75_eq ((e75_eq ..).trans h) hg
noncomputable def s75_0 (x0:List UInt8) (x1 x9:Int) (x18 x19:Int):R :=
 cond (decide (x19 < x18))
 (gd (decide (0<=W .i64 (x1+x19))) <|
  idxK x0 ((W .i64 (x1+x19)).toNat) fun c =>
  gd (!decide (W .i64 (8 * x19) < 0)) <|
  some (.head 0 (T75_0 x0 x1 (W .u64 (((BitVec.ofInt (IntKind.bits .u64) x9 ||| BitVec.ofInt (IntKind.bits .u64) (W .u64 (W .u64 ((c.toNat:Int)) * 2 ^ (min (W .i64 (8 * x19)).toNat (IntKind.bits .u64))))).toNat:Int))) x18 (W .i64 (x19+1)))))
 (some (.done (V.tup [V.int .u64 x9,V.int .i64 0])))
theorem s75_0_run (x0:List UInt8) (x1 x9:Int) (x18 x19:Int) {o o':Out} (h:s75_0 x0 x1 x9 x18 x19=some o) (hg:Go qk false 0 fa75 o o'):Go qk false 0 fa75 (.head 0 (T75_0 x0 x1 x9 x18 x19)) o':=.step (Eq.trans (by kernel_rfl) h) hg
noncomputable def fa89:FA:=(fnA qcfg.P (qcfg.rxf 89) 89).getD faN
theorem fa89_eq:fnA qcfg.P (qcfg.rxf 89) 89=some fa89:=fa_of (by kernel_rfl)
def T89_0 (x0:List UInt8) (x1 x3:Int) (x31 x32:Int) (m0:List V):S:=⟨[V.str x0,V.int .i64 x1,V.junk,V.int .u64 x3]++(JU 4)++[V.str [],V.int .i64 0,V.junk,V.own 0]++(JU 19)++[V.int .i64 x31,V.int .i64 x32]++(JU 15),[O.row 5 m0 0]⟩
noncomputable def e89 (a0:List UInt8) (a1 a2 a3:Int):R :=
 pcK qcfg 90 [V.str a0,V.int .i64 a1,V.int .i64 a2] fun r =>
 kI .i64 r fun r90 =>
 cond (r90 != (0:Int))
 (some (.done (V.tup [V.str [],V.int .i64 r90])))
 (cond (decide (a2 < 8))
 (gd (!decide (W .i64 (8 * a2) < 0)) <|
  cond (decide (a3.fdiv (2 ^ (min (W .i64 (8 * a2)).toNat (IntKind.bits .u64))) > 0))
 (some (.done (V.tup [V.str [],V.int .i64 2])))
 (gd (decide (0<=a2)) <|
  gd (decide (a2<=a2)) <|
  gd (decide (a2.toNat<=16777216)) <|
  some (.head 0 (T89_0 a0 a1 a3 a2 0 (List.replicate a2.toNat (V.int .u8 0))))))
 (gd (decide (0<=a2)) <|
  gd (decide (a2<=a2)) <|
  gd (decide (a2.toNat<=16777216)) <|
  some (.head 0 (T89_0 a0 a1 a3 a2 0 (List.replicate a2.toNat (V.int .u8 0))))))
theorem e89_eq (a0:List UInt8) (a1 a2 a3:Int):enterK qk false fa89 [V.str a0,V.int .i64 a1,V.int .i64 a2,V.int .u64 a3] []=e89 a0 a1 a2 a3:=by kernel_rfl
theorem e89_run (a0:List UInt8) (a1 a2 a3:Int) {o:Out} {v:V} (h:e89 a0 a1 a2 a3=some o) (hg:Go qk false 0 fa89 o (.done v)):pcW qcfg 89 [V.str a0,V.int .i64 a1,V.int .i64 a2,V.int .u64 a3]=some v:=pcW_go qik rfl fa89_eq ((e89_eq ..).trans h) hg
noncomputable def s89_0 (x0:List UInt8) (x1 x3:Int) (x31 x32:Int) (m0:List V):R :=
 cond (decide (x32 < x31))
 (gd (!decide (W .i64 (8 * x32) < 0)) <|
  gd (decide (0<=x32)) <|
  gd (decide (x32.toNat < m0.length)) <|
  idxK m0 x32.toNat fun v =>
  kI .u8 v fun n =>
  some (.head 0 (T89_0 x0 x1 x3 x31 (W .i64 (x32+1)) ((m0).set x32.toNat (V.int .u8 (W .u8 (x3.fdiv (2 ^ (min (W .i64 (8 * x32)).toNat (IntKind.bits .u64))))))))))
 (pcK qcfg 98 [V.str x0,V.int .i64 x1,V.sl m0] fun r =>
  kS r fun r98 =>
  some (.done (V.tup [V.str r98,V.int .i64 0])))
theorem s89_0_run (x0:List UInt8) (x1 x3:Int) (x31 x32:Int) (m0:List V) {o o':Out} (h:s89_0 x0 x1 x3 x31 x32 m0=some o) (hg:Go qk false 0 fa89 o o'):Go qk false 0 fa89 (.head 0 (T89_0 x0 x1 x3 x31 x32 m0)) o':=.step (Eq.trans (by kernel_rfl) h) hg
noncomputable def fa88:FA:=(fnA qcfg.P (qcfg.rxf 88) 88).getD faN
theorem fa88_eq:fnA qcfg.P (qcfg.rxf 88) 88=some fa88:=fa_of (by kernel_rfl)
noncomputable def e88 (a0:List UInt8) (a1:Int):R :=
 cond (decide (a1 < 0))
 (some (.done (V.tup [V.str [],V.int .i64 1])))
 (cond (decide (a1 > 65536))
 (some (.done (V.tup [V.str [],V.int .i64 1])))
 (cond (decide ((a0.length:Int) > a1))
 (some (.done (V.tup [V.str [],V.int .i64 2])))
 (gd (decide (0<=W .i64 (a1 - (a0.length:Int)))) <|
  gd (decide (W .i64 (a1 - (a0.length:Int))<=W .i64 (a1 - (a0.length:Int)))) <|
  gd (decide ((W .i64 (a1 - (a0.length:Int))).toNat<=16777216)) <|
  opt (numsOf (List.replicate ((W .i64 (a1 - (a0.length:Int))).toNat) (V.int .u8 0))) fun ns =>
  gd (decide (a0.length+(ns.map fun n=>UInt8.ofNat n.toNat).length<=4611686018427387904)) <|
  some (.done (V.tup [V.str (a0++(ns.map fun n=>UInt8.ofNat n.toNat)),V.int .i64 0])))))
theorem e88_eq (a0:List UInt8) (a1:Int):enterK qk false fa88 [V.str a0,V.int .i64 a1] []=e88 a0 a1:=by kernel_rfl
theorem e88_run (a0:List UInt8) (a1:Int) {o:Out} {v:V} (h:e88 a0 a1=some o) (hg:Go qk false 0 fa88 o (.done v)):pcW qcfg 88 [V.str a0,V.int .i64 a1]=some v:=pcW_go qik rfl fa88_eq ((e88_eq ..).trans h) hg
theorem e88_done (a0:List UInt8) (a1:Int) {v:V} (h:e88 a0 a1=some (.done v)):pcW qcfg 88 [V.str a0,V.int .i64 a1]=some v:=e88_run a0 a1 h (.refl _)
noncomputable def fa64:FA:=(fnA qcfg.P (qcfg.rxf 64) 64).getD faN
theorem fa64_eq:fnA qcfg.P (qcfg.rxf 64) 64=some fa64:=fa_of (by kernel_rfl)
noncomputable def e64 (a0:List UInt8) (a1 a2:Int):R :=
 cond (decide (a2 < 1))
 (some (.done (V.int .i64 1)))
 (cond (decide (a2 > 8))
 (some (.done (V.int .i64 1)))
 (cond (decide (a1 < 0))
 (some (.done (V.int .i64 1)))
 (cond (decide (a1 > (a0.length:Int)))
 (some (.done (V.int .i64 1)))
 (cond (decide (W .i64 (a1+a2) > (a0.length:Int)))
 (some (.done (V.int .i64 3)))
 (some (.done (V.int .i64 0)))))))
theorem e64_eq (a0:List UInt8) (a1 a2:Int):enterK qk false fa64 [V.str a0,V.int .i64 a1,V.int .i64 a2] []=e64 a0 a1 a2:=by kernel_rfl
theorem e64_run (a0:List UInt8) (a1 a2:Int) {o:Out} {v:V} (h:e64 a0 a1 a2=some o) (hg:Go qk false 0 fa64 o (.done v)):pcW qcfg 64 [V.str a0,V.int .i64 a1,V.int .i64 a2]=some v:=pcW_go qik rfl fa64_eq ((e64_eq ..).trans h) hg
theorem e64_done (a0:List UInt8) (a1 a2:Int) {v:V} (h:e64 a0 a1 a2=some (.done v)):pcW qcfg 64 [V.str a0,V.int .i64 a1,V.int .i64 a2]=some v:=e64_run a0 a1 a2 h (.refl _)
noncomputable def fa63:FA:=(fnA qcfg.P (qcfg.rxf 63) 63).getD faN
theorem fa63_eq:fnA qcfg.P (qcfg.rxf 63) 63=some fa63:=fa_of (by kernel_rfl)
noncomputable def e63 (a0 a1:Int):R :=
 cond (a1==(0:Int))
 (some (.done (V.str [])))
 (pcK qcfg 63 [V.int .u64 (W .u64 ((a0.tdiv 256))),V.int .i64 (W .i64 (a1 - 1))] fun r =>
  kS r fun r63 =>
  gd (decide (([UInt8.ofNat (W .u8 (a0.tmod 256)).toNat]:List UInt8).length+r63.length<=4611686018427387904)) <|
  some (.done (V.str ([UInt8.ofNat (W .u8 (a0.tmod 256)).toNat]++r63))))
theorem e63_eq (a0 a1:Int):enterK qk false fa63 [V.int .u64 a0,V.int .i64 a1] []=e63 a0 a1:=by kernel_rfl
theorem e63_run (a0 a1:Int) {o:Out} {v:V} (h:e63 a0 a1=some o) (hg:Go qk false 0 fa63 o (.done v)):pcW qcfg 63 [V.int .u64 a0,V.int .i64 a1]=some v:=pcW_go qik rfl fa63_eq ((e63_eq ..).trans h) hg
theorem e63_done (a0 a1:Int) {v:V} (h:e63 a0 a1=some (.done v)):pcW qcfg 63 [V.int .u64 a0,V.int .i64 a1]=some v:=e63_run a0 a1 h (.refl _)
noncomputable def fa42:FA:=(fnA qcfg.P (qcfg.rxf 42) 42).getD faN
theorem fa42_eq:fnA qcfg.P (qcfg.rxf 42) 42=some fa42:=fa_of (by kernel_rfl)
def T42_0 (x0:List UInt8) (x1 x2:Int) (x3 x11 x12:Int):S:=⟨[V.str x0,V.int .i64 x1,V.int .i64 x2,V.int .u64 x3]++(JU 4)++[V.str [],V.int .i64 0,V.junk,V.int .u64 x11,V.int .i64 x12]++(JU 30),[]⟩
noncomputable def e42 (a0:List UInt8) (a1 a2 a3:Int):R :=
 pcK qcfg 64 [V.str a0,V.int .i64 a1,V.int .i64 a2] fun r =>
 kI .i64 r fun r64 =>
 cond (r64 != (0:Int))
 (some (.done (V.tup [V.str [],V.int .i64 r64])))
 (some (.head 0 (T42_0 a0 a1 a2 a3 a3 0)))
theorem e42_eq (a0:List UInt8) (a1 a2 a3:Int):enterK qk false fa42 [V.str a0,V.int .i64 a1,V.int .i64 a2,V.int .u64 a3] []=e42 a0 a1 a2 a3:=by kernel_rfl
theorem e42_run (a0:List UInt8) (a1 a2 a3:Int) {o:Out} {v:V} (h:e42 a0 a1 a2 a3=some o) (hg:Go qk false 0 fa42 o (.done v)):pcW qcfg 42 [V.str a0,V.int .i64 a1,V.int .i64 a2,V.int .u64 a3]=some v:=pcW_go qik rfl fa42_eq ((e42_eq ..).trans h) hg
noncomputable def s42_0 (x0:List UInt8) (x1 x2:Int) (x3 x11 x12:Int):R :=
 cond (decide (x12 < x2))
 (some (.head 0 (T42_0 x0 x1 x2 x3 (W .u64 ((x11.tdiv 256))) (W .i64 (x12+1)))))
 (cond (decide (x11 > 0))
 (some (.done (V.tup [V.str [],V.int .i64 2])))
 (gd (decide (0<=x1)) <|
  gd (decide (x1.toNat<=x0.length)) <|
  pcK qcfg 63 [V.int .u64 x3,V.int .i64 x2] fun r =>
  kS r fun r63 =>
  gd (decide ((x0.take x1.toNat).length+r63.length<=4611686018427387904)) <|
  gd (decide (0<=W .i64 (x1+x2))) <|
  gd (decide ((W .i64 (x1+x2)).toNat<=x0.length)) <|
  gd (decide (((x0.take x1.toNat)++r63).length+((x0.take x0.length).drop ((W .i64 (x1+x2)).toNat)).length<=4611686018427387904)) <|
  some (.done (V.tup [V.str (((x0.take x1.toNat)++r63)++((x0.take x0.length).drop ((W .i64 (x1+x2)).toNat))),V.int .i64 0]))))
theorem s42_0_run (x0:List UInt8) (x1 x2:Int) (x3 x11 x12:Int) {o o':Out} (h:s42_0 x0 x1 x2 x3 x11 x12=some o) (hg:Go qk false 0 fa42 o o'):Go qk false 0 fa42 (.head 0 (T42_0 x0 x1 x2 x3 x11 x12)) o':=.step (Eq.trans (by kernel_rfl) h) hg
noncomputable def fa41:FA:=(fnA qcfg.P (qcfg.rxf 41) 41).getD faN
theorem fa41_eq:fnA qcfg.P (qcfg.rxf 41) 41=some fa41:=fa_of (by kernel_rfl)
noncomputable def e41 (a0:List UInt8) (a1:Int):R :=
 cond (decide (a1 < 0))
 (some (.done (V.tup [V.str [],V.int .i64 1])))
 (cond (decide (a1 > 65536))
 (some (.done (V.tup [V.str [],V.int .i64 1])))
 (cond (decide ((a0.length:Int) > a1))
 (some (.done (V.tup [V.str [],V.int .i64 2])))
 (pcK qcfg 63 [V.int .u64 0,V.int .i64 (W .i64 (a1 - (a0.length:Int)))] fun r =>
  kS r fun r63 =>
  gd (decide (a0.length+r63.length<=4611686018427387904)) <|
  some (.done (V.tup [V.str (a0++r63),V.int .i64 0])))))
theorem e41_eq (a0:List UInt8) (a1:Int):enterK qk false fa41 [V.str a0,V.int .i64 a1] []=e41 a0 a1:=by kernel_rfl
theorem e41_run (a0:List UInt8) (a1:Int) {o:Out} {v:V} (h:e41 a0 a1=some o) (hg:Go qk false 0 fa41 o (.done v)):pcW qcfg 41 [V.str a0,V.int .i64 a1]=some v:=pcW_go qik rfl fa41_eq ((e41_eq ..).trans h) hg
theorem e41_done (a0:List UInt8) (a1:Int) {v:V} (h:e41 a0 a1=some (.done v)):pcW qcfg 41 [V.str a0,V.int .i64 a1]=some v:=e41_run a0 a1 h (.refl _)
noncomputable def fa11:FA:=(fnA qcfg.P (qcfg.rxf 11) 11).getD faN
theorem fa11_eq:fnA qcfg.P (qcfg.rxf 11) 11=some fa11:=fa_of (by kernel_rfl)
def T11_0 (x0 x1:List V) (x5:Int):S:=⟨[V.sl x0,V.sl x1,V.junk,V.junk,V.bool false,V.int .i64 x5]++(JU 20),[]⟩
noncomputable def e11 (a0 a1:List V):R :=
 cond ((a0.length:Int) != (a1.length:Int))
 (some (.done (V.bool false)))
 (some (.head 0 (T11_0 a0 a1 0)))
theorem e11_eq (a0 a1:List V):enterK qk false fa11 [V.sl a0,V.sl a1] []=e11 a0 a1:=by kernel_rfl
theorem e11_run (a0 a1:List V) {o:Out} {v:V} (h:e11 a0 a1=some o) (hg:Go qk false 0 fa11 o (.done v)):pcW qcfg 11 [V.sl a0,V.sl a1]=some v:=pcW_go qik rfl fa11_eq ((e11_eq ..).trans h) hg
noncomputable def s11_0 (x0 x1:List V) (x5:Int):R :=
 cond (decide (x5 < (x0.length:Int)))
 (gd (decide (0<=x5)) <|
  idxK x0 x5.toNat fun v =>
  kI .i64 v fun n =>
  gd (decide (0<=x5)) <|
  idxK x1 x5.toNat fun v_1 =>
  kI .i64 v_1 fun n_1 =>
  cond (n != n_1)
 (some (.done (V.bool false)))
 (some (.head 0 (T11_0 x0 x1 (W .i64 (x5+1))))))
 (some (.done (V.bool true)))
theorem s11_0_run (x0 x1:List V) (x5:Int) {o o':Out} (h:s11_0 x0 x1 x5=some o) (hg:Go qk false 0 fa11 o o'):Go qk false 0 fa11 (.head 0 (T11_0 x0 x1 x5)) o':=.step (Eq.trans (by kernel_rfl) h) hg
noncomputable def fa43:FA:=(fnA qcfg.P (qcfg.rxf 43) 43).getD faN
theorem fa43_eq:fnA qcfg.P (qcfg.rxf 43) 43=some fa43:=fa_of (by kernel_rfl)
def T43_0 (x0:List UInt8) (x3 x4:Int):S:=⟨[V.str x0,V.junk,V.int .u32 0,V.int .u32 x3,V.int .i64 x4]++(JU 28),[]⟩
def T43_1 (x0:List UInt8) (x3 x4 x5:Int):S:=⟨[V.str x0,V.junk,V.int .u32 0,V.int .u32 x3,V.int .i64 x4,V.int .i64 x5]++(JU 27),[]⟩
noncomputable def e43 (a0:List UInt8):R :=
 some (.head 0 (T43_0 a0 4294967295 0))
theorem e43_eq (a0:List UInt8):enterK qk false fa43 [V.str a0] []=e43 a0:=by kernel_rfl
theorem e43_run (a0:List UInt8) {o:Out} {v:V} (h:e43 a0=some o) (hg:Go qk false 0 fa43 o (.done v)):pcW qcfg 43 [V.str a0]=some v:=pcW_go qik rfl fa43_eq ((e43_eq ..).trans h) hg
noncomputable def s43_0 (x0:List UInt8) (x3 x4:Int):R :=
 cond (decide (x4 < (x0.length:Int)))
 (gd (decide (0<=x4)) <|
  idxK x0 x4.toNat fun c =>
  some (.head 1 (T43_1 x0 (W .u32 (((BitVec.ofInt (IntKind.bits .u32) x3 ^^^ BitVec.ofInt (IntKind.bits .u32) (W .u32 ((c.toNat:Int)))).toNat:Int))) x4 0)))
 (some (.done (V.int .u32 (W .u32 (4294967295 - x3)))))
theorem s43_0_run (x0:List UInt8) (x3 x4:Int) {o o':Out} (h:s43_0 x0 x3 x4=some o) (hg:Go qk false 0 fa43 o o'):Go qk false 0 fa43 (.head 0 (T43_0 x0 x3 x4)) o':=.step (Eq.trans (by kernel_rfl) h) hg
noncomputable def s43_1 (x0:List UInt8) (x3 x4 x5:Int):R :=
 cond (decide (x5 < 8))
 (cond ((x3.tmod 2)==(1:Int))
 (some (.head 1 (T43_1 x0 (W .u32 (((BitVec.ofInt (IntKind.bits .u32) (W .u32 ((x3.tdiv 2))) ^^^ BitVec.ofInt (IntKind.bits .u32) 2197175160).toNat:Int))) x4 (W .i64 (x5+1)))))
 (some (.head 1 (T43_1 x0 (W .u32 ((x3.tdiv 2))) x4 (W .i64 (x5+1))))))
 (some (.head 0 (T43_0 x0 x3 (W .i64 (x4+1)))))
theorem s43_1_run (x0:List UInt8) (x3 x4 x5:Int) {o o':Out} (h:s43_1 x0 x3 x4 x5=some o) (hg:Go qk false 0 fa43 o o'):Go qk false 0 fa43 (.head 1 (T43_1 x0 x3 x4 x5)) o':=.step (Eq.trans (by kernel_rfl) h) hg
noncomputable def fa22:FA:=(fnA qcfg.P (qcfg.rxf 22) 22).getD faN
theorem fa22_eq:fnA qcfg.P (qcfg.rxf 22) 22=some fa22:=fa_of (by kernel_rfl)
noncomputable def e22 (a0:List UInt8):R :=
 cond (decide ((a0.length:Int) > 252))
 (some (.done (V.tup [V.str [],V.int .i64 2])))
 (pcK qcfg 41 [V.str a0,V.int .i64 252] fun r =>
  d57 r fun r41_0 r41_1 =>
  pcK qcfg 43 [V.str r41_0] fun r_1 =>
  kI .u32 r_1 fun r43 =>
  pcK qcfg 42 [V.str [32,32,32,32],V.int .i64 0,V.int .i64 4,V.int .u64 (W .u64 (r43))] fun r_2 =>
  d57 r_2 fun r42_0 r42_1 =>
  gd (decide (r41_0.length+r42_0.length<=4611686018427387904)) <|
  some (.done (V.tup [V.str (r41_0++r42_0),V.int .i64 0])))
theorem e22_eq (a0:List UInt8):enterK qk false fa22 [V.str a0] []=e22 a0:=by kernel_rfl
theorem e22_run (a0:List UInt8) {o:Out} {v:V} (h:e22 a0=some o) (hg:Go qk false 0 fa22 o (.done v)):pcW qcfg 22 [V.str a0]=some v:=pcW_go qik rfl fa22_eq ((e22_eq ..).trans h) hg
theorem e22_done (a0:List UInt8) {v:V} (h:e22 a0=some (.done v)):pcW qcfg 22 [V.str a0]=some v:=e22_run a0 h (.refl _)
noncomputable def fa68:FA:=(fnA qcfg.P (qcfg.rxf 68) 68).getD faN
theorem fa68_eq:fnA qcfg.P (qcfg.rxf 68) 68=some fa68:=fa_of (by kernel_rfl)
noncomputable def e68 (a0:List UInt8):R :=
 cond ((a0.length:Int) != (256:Int))
 (some (.done (V.tup [V.str [],V.int .i64 4])))
 (gd (decide (252<=a0.length)) <|
  pcK qcfg 22 [V.str (a0.take 252)] fun r =>
  d57 r fun r22_0 r22_1 =>
  cond (!(r22_0==a0))
 (some (.done (V.tup [V.str [],V.int .i64 5])))
 (gd (decide (252<=a0.length)) <|
  some (.done (V.tup [V.str (a0.take 252),V.int .i64 0]))))
theorem e68_eq (a0:List UInt8):enterK qk false fa68 [V.str a0] []=e68 a0:=by kernel_rfl
theorem e68_run (a0:List UInt8) {o:Out} {v:V} (h:e68 a0=some o) (hg:Go qk false 0 fa68 o (.done v)):pcW qcfg 68 [V.str a0]=some v:=pcW_go qik rfl fa68_eq ((e68_eq ..).trans h) hg
theorem e68_done (a0:List UInt8) {v:V} (h:e68 a0=some (.done v)):pcW qcfg 68 [V.str a0]=some v:=e68_run a0 h (.refl _)
noncomputable def fa74:FA:=(fnA qcfg.P (qcfg.rxf 74) 74).getD faN
theorem fa74_eq:fnA qcfg.P (qcfg.rxf 74) 74=some fa74:=fa_of (by kernel_rfl)
noncomputable def e74 (a0:List UInt8):R :=
 cond (decide ((a0.length:Int) > 252))
 (some (.done (V.tup [V.str [],V.int .i64 2])))
 (pcK qcfg 88 [V.str a0,V.int .i64 252] fun r =>
  d57 r fun r88_0 r88_1 =>
  pcK qcfg 88 [V.str r88_0,V.int .i64 256] fun r_1 =>
  d57 r_1 fun r88_0_1 r88_1_1 =>
  pcK qcfg 76 [V.str r88_0] fun r_2 =>
  kI .u32 r_2 fun r76 =>
  pcK qcfg 89 [V.str r88_0_1,V.int .i64 252,V.int .i64 4,V.int .u64 (W .u64 (r76))] fun r_3 =>
  d57 r_3 fun r89_0 r89_1 =>
  some (.done (V.tup [V.str r89_0,V.int .i64 r89_1])))
theorem e74_eq (a0:List UInt8):enterK qk false fa74 [V.str a0] []=e74 a0:=by kernel_rfl
theorem e74_run (a0:List UInt8) {o:Out} {v:V} (h:e74 a0=some o) (hg:Go qk false 0 fa74 o (.done v)):pcW qcfg 74 [V.str a0]=some v:=pcW_go qik rfl fa74_eq ((e74_eq ..).trans h) hg
theorem e74_done (a0:List UInt8) {v:V} (h:e74 a0=some (.done v)):pcW qcfg 74 [V.str a0]=some v:=e74_run a0 h (.refl _)
noncomputable def fa62:FA:=(fnA qcfg.P (qcfg.rxf 62) 62).getD faN
theorem fa62_eq:fnA qcfg.P (qcfg.rxf 62) 62=some fa62:=fa_of (by kernel_rfl)
noncomputable def e62 (a0:List UInt8):R :=
 cond ((a0.length:Int) != (256:Int))
 (some (.done (V.tup [V.str [],V.int .i64 4])))
 (pcK qcfg 75 [V.str a0,V.int .i64 252,V.int .i64 4] fun r =>
  d114 r fun r75_0 r75_1 =>
  gd (decide (252<=a0.length)) <|
  pcK qcfg 76 [V.str (a0.take 252)] fun r_1 =>
  kI .u32 r_1 fun r76 =>
  cond ((W .u32 (r75_0)) != r76)
 (some (.done (V.tup [V.str [],V.int .i64 5])))
 (gd (decide (252<=a0.length)) <|
  some (.done (V.tup [V.str (a0.take 252),V.int .i64 0]))))
theorem e62_eq (a0:List UInt8):enterK qk false fa62 [V.str a0] []=e62 a0:=by kernel_rfl
theorem e62_run (a0:List UInt8) {o:Out} {v:V} (h:e62 a0=some o) (hg:Go qk false 0 fa62 o (.done v)):pcW qcfg 62 [V.str a0]=some v:=pcW_go qik rfl fa62_eq ((e62_eq ..).trans h) hg
theorem e62_done (a0:List UInt8) {v:V} (h:e62 a0=some (.done v)):pcW qcfg 62 [V.str a0]=some v:=e62_run a0 h (.refl _)
noncomputable def fa61:FA:=(fnA qcfg.P (qcfg.rxf 61) 61).getD faN
theorem fa61_eq:fnA qcfg.P (qcfg.rxf 61) 61=some fa61:=fa_of (by kernel_rfl)
noncomputable def e61 :R :=
 pcK qcfg 74 [V.str []] fun r =>
 d57 r fun r74_0 r74_1 =>
 some (.done (V.str r74_0))
theorem e61_eq :enterK qk false fa61 [] []=e61 :=by kernel_rfl
theorem e61_run  {o:Out} {v:V} (h:e61 =some o) (hg:Go qk false 0 fa61 o (.done v)):pcW qcfg 61 []=some v:=pcW_go qik rfl fa61_eq ((e61_eq ).trans h) hg
theorem e61_done  {v:V} (h:e61 =some (.done v)):pcW qcfg 61 []=some v:=e61_run  h (.refl _)
noncomputable def fa3:FA:=(fnA qcfg.P (qcfg.rxf 3) 3).getD faN
theorem fa3_eq:fnA qcfg.P (qcfg.rxf 3) 3=some fa3:=fa_of (by kernel_rfl)
def T3_0 (x1 m0:List V) (m1 m6 m7:List V):S:=⟨[V.junk,V.sl x1,V.junk,V.junk,V.bool false,V.ptr 2 0 0,V.junk,V.ptr 3 0 0,V.junk,V.nilP,V.int .i64 1,V.nilP,V.int .i64 1,V.int .i64 0]++(JU 148),[O.arena 71 m0,O.arena 74 m1,O.box 52 (V.agg [V.int .i64 8,V.mp 4,V.tail 5 0]) false,O.box 56 (V.agg [V.tail 6 0,V.tail 7 0]) false,O.map [],O.row 83 [] 0,O.row 9 m6 0,O.row 85 m7 0]⟩
def T3_0b (x1 m0 m1:List V) (m4_1:Int) (m7 m8:List V):S:=⟨[V.junk,V.sl x1,V.junk,V.junk,V.bool false,V.ptr 2 0 0,V.junk,V.ptr 3 0 0,V.junk,V.nilP,V.int .i64 1,V.ptr 4 0 0,V.int .i64 0,V.int .i64 0]++(JU 148),[O.arena 71 m0,O.arena 74 m1,O.box 52 (V.agg [V.int .i64 8,V.mp 5,V.tail 6 0]) false,O.box 56 (V.agg [V.tail 7 0,V.tail 8 0]) false,O.box 64 (V.agg [V.ptr 3 0 0,V.int .i64 m4_1,V.int .i64 0,V.tail 9 0]) false,O.map [],O.row 83 [] 0,O.row 9 m7 0,O.row 85 m8 0,O.row 75 [] 0]⟩
def T3_0c (x1 m0 m1:List V) (m4_1:Int) (m7 m8:List V):S:=⟨[V.junk,V.sl x1,V.junk,V.junk,V.bool false,V.ptr 2 0 0,V.junk,V.ptr 3 0 0,V.junk,V.ptr 4 0 0,V.int .i64 0,V.nilP,V.int .i64 1,V.int .i64 0]++(JU 148),[O.arena 71 m0,O.arena 74 m1,O.box 52 (V.agg [V.int .i64 8,V.mp 5,V.tail 6 0]) false,O.box 56 (V.agg [V.tail 7 0,V.tail 8 0]) false,O.box 61 (V.agg [V.ptr 2 0 0,V.int .i64 m4_1,V.mp 9,V.tail 10 0,V.int .i64 0]) false,O.map [],O.row 83 [] 0,O.row 9 m7 0,O.row 85 m8 0,O.map [],O.row 3 [] 0]⟩
def T3_0d (x1:List V) (x13:Int) (m0 m1:List V) (m2_0 m4_1:Int) (m4_4 m5_1 m5_2:Int) (m6:List (V × V)) (m7:List V) (z7:Nat) (m8 m9:List V) (m10:List (V × V)) (m11 m12:List V):S:=⟨[V.junk,V.sl x1,V.junk,V.junk,V.bool false,V.ptr 2 0 0,V.junk,V.ptr 3 0 0,V.junk,V.ptr 4 0 0,V.int .i64 0,V.ptr 5 0 0,V.int .i64 0,V.int .i64 x13]++(JU 148),[O.arena 71 m0,O.arena 74 m1,O.box 52 (V.agg [V.int .i64 m2_0,V.mp 6,V.tail 7 0]) false,O.box 56 (V.agg [V.tail 8 0,V.tail 9 0]) false,O.box 61 (V.agg [V.ptr 2 0 0,V.int .i64 m4_1,V.mp 10,V.tail 11 0,V.int .i64 m4_4]) false,O.box 64 (V.agg [V.ptr 3 0 0,V.int .i64 m5_1,V.int .i64 m5_2,V.tail 12 0]) false,O.map m6,O.row 83 m7 z7,O.row 9 m8 0,O.row 85 m9 0,O.map m10,O.row 3 m11 0,O.row 75 m12 0]⟩
def T3_1 (x1:List V) (x13 x18:Int) (m0 m1:List V) (m2_0 m4_1:Int) (m4_4 m5_1 m5_2:Int) (m6:List (V × V)) (m7:List V) (z7:Nat) (m8 m9:List V) (m10:List (V × V)) (m11 m12:List V):S:=⟨[V.junk,V.sl x1,V.junk,V.junk,V.bool false,V.ptr 2 0 0,V.junk,V.ptr 3 0 0,V.junk,V.ptr 4 0 0,V.int .i64 0,V.ptr 5 0 0,V.int .i64 0,V.int .i64 x13]++(JU 4)++[V.int .i64 x18]++(JU 143),[O.arena 71 m0,O.arena 74 m1,O.box 52 (V.agg [V.int .i64 m2_0,V.mp 6,V.tail 7 0]) false,O.box 56 (V.agg [V.tail 8 0,V.tail 9 0]) false,O.box 61 (V.agg [V.ptr 2 0 0,V.int .i64 m4_1,V.mp 10,V.tail 11 0,V.int .i64 m4_4]) false,O.box 64 (V.agg [V.ptr 3 0 0,V.int .i64 m5_1,V.int .i64 m5_2,V.tail 12 0]) false,O.map m6,O.row 83 m7 z7,O.row 9 m8 0,O.row 85 m9 0,O.map m10,O.row 3 m11 0,O.row 75 m12 0]⟩
noncomputable def e3 (pl:Int) (sc:List V):R :=
 icM qcfg ⟨true,false⟩ mk5 5 [V.int .i64 8] [O.arena 71 [],O.arena 74 []] fun L =>
 cond (L.1 != (0:Int))
 (some (.doneM (V.bool false) [O.arena 71 L.2.1,O.arena 74 L.2.2.1,O.map [],O.row 83 [] 0,O.box 52 (V.agg [V.int .i64 8,V.mp 2,V.tail 3 0]) false,O.box 56 (V.agg [V.tail 6 0,V.tail 7 0]) false,O.row 9 L.2.2.2.1 0,O.row 85 L.2.2.2.2 0]))
 (cond (decide (W .i64 (1+(W .i64 (((BitVec.ofInt (IntKind.bits .i64) pl &&& BitVec.ofInt (IntKind.bits .i64) 7).toNat:Int)))) < 1))
 (cond (decide (W .i64 (1+(W .i64 (((BitVec.ofInt (IntKind.bits .i64) pl &&& BitVec.ofInt (IntKind.bits .i64) 7).toNat:Int)))) < 1))
 (some (.head 0 (T3_0 sc L.2.1 L.2.2.1 L.2.2.2.1 L.2.2.2.2)))
 (cond (decide (W .i64 (1+(W .i64 (((BitVec.ofInt (IntKind.bits .i64) pl &&& BitVec.ofInt (IntKind.bits .i64) 7).toNat:Int)))) > 64))
 (some (.head 0 (T3_0 sc L.2.1 L.2.2.1 L.2.2.2.1 L.2.2.2.2)))
 (some (.head 0 (T3_0b sc L.2.1 L.2.2.1 (W .i64 (1+(W .i64 (((BitVec.ofInt (IntKind.bits .i64) pl &&& BitVec.ofInt (IntKind.bits .i64) 7).toNat:Int))))) L.2.2.2.1 L.2.2.2.2)))))
 (cond (decide (W .i64 (1+(W .i64 (((BitVec.ofInt (IntKind.bits .i64) pl &&& BitVec.ofInt (IntKind.bits .i64) 7).toNat:Int)))) > 64))
 (cond (decide (W .i64 (1+(W .i64 (((BitVec.ofInt (IntKind.bits .i64) pl &&& BitVec.ofInt (IntKind.bits .i64) 7).toNat:Int)))) < 1))
 (some (.head 0 (T3_0 sc L.2.1 L.2.2.1 L.2.2.2.1 L.2.2.2.2)))
 (cond (decide (W .i64 (1+(W .i64 (((BitVec.ofInt (IntKind.bits .i64) pl &&& BitVec.ofInt (IntKind.bits .i64) 7).toNat:Int)))) > 64))
 (some (.head 0 (T3_0 sc L.2.1 L.2.2.1 L.2.2.2.1 L.2.2.2.2)))
 (some (.head 0 (T3_0b sc L.2.1 L.2.2.1 (W .i64 (1+(W .i64 (((BitVec.ofInt (IntKind.bits .i64) pl &&& BitVec.ofInt (IntKind.bits .i64) 7).toNat:Int))))) L.2.2.2.1 L.2.2.2.2)))))
 (cond (decide (W .i64 (1+(W .i64 (((BitVec.ofInt (IntKind.bits .i64) pl &&& BitVec.ofInt (IntKind.bits .i64) 7).toNat:Int)))) < 1))
 (some (.head 0 (T3_0c sc L.2.1 L.2.2.1 (W .i64 (1+(W .i64 (((BitVec.ofInt (IntKind.bits .i64) pl &&& BitVec.ofInt (IntKind.bits .i64) 7).toNat:Int))))) L.2.2.2.1 L.2.2.2.2)))
 (cond (decide (W .i64 (1+(W .i64 (((BitVec.ofInt (IntKind.bits .i64) pl &&& BitVec.ofInt (IntKind.bits .i64) 7).toNat:Int)))) > 64))
 (some (.head 0 (T3_0c sc L.2.1 L.2.2.1 (W .i64 (1+(W .i64 (((BitVec.ofInt (IntKind.bits .i64) pl &&& BitVec.ofInt (IntKind.bits .i64) 7).toNat:Int))))) L.2.2.2.1 L.2.2.2.2)))
 (some (.head 0 (T3_0d sc 0 L.2.1 L.2.2.1 8 (W .i64 (1+(W .i64 (((BitVec.ofInt (IntKind.bits .i64) pl &&& BitVec.ofInt (IntKind.bits .i64) 7).toNat:Int))))) 0 (W .i64 (1+(W .i64 (((BitVec.ofInt (IntKind.bits .i64) pl &&& BitVec.ofInt (IntKind.bits .i64) 7).toNat:Int))))) 0 [] [] 0 L.2.2.2.1 L.2.2.2.2 [] [] [])))))))
theorem e3_eq (pl:Int) (sc:List V):enterK qk true fa3 [V.int .i64 pl,V.sl sc] [O.arena 71 [],O.arena 74 []]=e3 pl sc:=by kernel_rfl
noncomputable def s3_0d (x1:List V) (x13:Int) (m0 m1:List V) (m2_0 m4_1:Int) (m4_4 m5_1 m5_2:Int) (m6:List (V × V)) (m7:List V) (z7:Nat) (m8 m9:List V) (m10:List (V × V)) (m11 m12:List V):R :=
 cond (decide (x13 < (x1.length:Int)))
 (cond (decide (x13 < 80))
 (gd (decide (0<=x13)) <|
  idxK x1 x13.toNat fun v =>
  d38 v fun kind0 page s n =>
  icM qcfg ⟨false,false⟩ mk8 8 [V.ptr 2 0 0,V.ptr 3 0 0,V.agg [V.int .i64 kind0,V.int .i64 page,V.str s,V.int .i64 n]] [O.arena 71 m0,O.arena 74 m1,O.box 61 (V.agg [V.ptr 4 0 0,V.int .i64 m4_1,V.mp 5,V.tail 6 0,V.int .i64 m4_4]) false,O.box 64 (V.agg [V.ptr 7 0 0,V.int .i64 m5_1,V.int .i64 m5_2,V.tail 8 0]) false,O.box 52 (V.agg [V.int .i64 m2_0,V.mp 9,V.tail 10 0]) false,O.map m10,O.row 3 m11 0,O.box 56 (V.agg [V.tail 11 0,V.tail 12 0]) false,O.row 75 m12 0,O.map m6,O.row 83 m7 z7,O.row 9 m8 0,O.row 85 m9 0] fun L =>
  cond (!L.1)
 (some (.doneM (V.bool false) [O.arena 71 L.2.1,O.arena 74 L.2.2.1,O.box 52 (V.agg [V.int .i64 L.2.2.2.2.2.2.2.1,V.mp 6,V.tail 7 0]) false,O.box 56 (V.agg [V.tail 8 0,V.tail 9 0]) false,O.box 61 (V.agg [V.ptr 2 0 0,V.int .i64 L.2.2.2.1,V.mp 10,V.tail 11 0,V.int .i64 L.2.2.2.2.1]) false,O.box 64 (V.agg [V.ptr 3 0 0,V.int .i64 L.2.2.2.2.2.1,V.int .i64 L.2.2.2.2.2.2.1,V.tail 12 0]) false,O.map L.2.2.2.2.2.2.2.2.2.1,O.row 83 L.2.2.2.2.2.2.2.2.2.2.2.2.1 L.2.2.2.2.2.2.2.2.2.2.2.2.2.1,O.row 9 L.2.2.2.2.2.2.2.2.2.2.2.2.2.2.1 0,O.row 85 L.2.2.2.2.2.2.2.2.2.2.2.2.2.2.2 0,O.map L.2.2.2.2.2.2.2.2.1,O.row 3 L.2.2.2.2.2.2.2.2.2.2.1 0,O.row 75 L.2.2.2.2.2.2.2.2.2.2.2.1 0]))
 (icM qcfg ⟨true,false⟩ mk9 9 [V.ptr 2 0 0] [O.arena 71 L.2.1,O.arena 74 L.2.2.1,O.box 61 (V.agg [V.ptr 3 0 0,V.int .i64 L.2.2.2.1,V.mp 4,V.tail 5 0,V.int .i64 L.2.2.2.2.1]) false,O.box 52 (V.agg [V.int .i64 L.2.2.2.2.2.2.2.1,V.mp 6,V.tail 7 0]) false,O.map L.2.2.2.2.2.2.2.2.1,O.row 3 L.2.2.2.2.2.2.2.2.2.2.1 0,O.map L.2.2.2.2.2.2.2.2.2.1,O.row 83 L.2.2.2.2.2.2.2.2.2.2.2.2.1 L.2.2.2.2.2.2.2.2.2.2.2.2.2.1] fun L_1 =>
  icM qcfg ⟨true,false⟩ mk10 10 [V.ptr 2 0 0] [O.arena 71 L_1.2.2.1,O.arena 74 L_1.2.2.2.1,O.box 64 (V.agg [V.ptr 3 0 0,V.int .i64 L.2.2.2.2.2.1,V.int .i64 L.2.2.2.2.2.2.1,V.tail 4 0]) false,O.box 56 (V.agg [V.tail 5 0,V.tail 6 0]) false,O.row 75 L.2.2.2.2.2.2.2.2.2.2.2.1 0,O.row 9 L.2.2.2.2.2.2.2.2.2.2.2.2.2.2.1 0,O.row 85 L.2.2.2.2.2.2.2.2.2.2.2.2.2.2.2 0] fun L_2 =>
  cond (L_1.1 != L_2.1)
 (some (.doneM (V.bool false) [O.arena 71 L_2.2.2.1,O.arena 74 L_2.2.2.2.1,O.box 52 (V.agg [V.int .i64 L_1.2.2.2.2.2.2.1,V.mp 6,V.tail 7 0]) false,O.box 56 (V.agg [V.tail 8 0,V.tail 9 0]) false,O.box 61 (V.agg [V.ptr 2 0 0,V.int .i64 L_1.2.2.2.2.1,V.mp 10,V.tail 11 0,V.int .i64 L_1.2.2.2.2.2.1]) false,O.box 64 (V.agg [V.ptr 3 0 0,V.int .i64 L_2.2.2.2.2.1,V.int .i64 L_2.2.2.2.2.2.1,V.tail 12 0]) false,O.map L_1.2.2.2.2.2.2.2.2.2.1,O.row 83 L_1.2.2.2.2.2.2.2.2.2.2.1 L_1.2.2.2.2.2.2.2.2.2.2.2,O.row 9 L_2.2.2.2.2.2.2.2.1 0,O.row 85 L_2.2.2.2.2.2.2.2.2 0,O.map L_1.2.2.2.2.2.2.2.1,O.row 3 L_1.2.2.2.2.2.2.2.2.1 0,O.row 75 L_2.2.2.2.2.2.2.1 0]))
 (cond (!(L_1.2.1==L_2.2.1))
 (some (.doneM (V.bool false) [O.arena 71 L_2.2.2.1,O.arena 74 L_2.2.2.2.1,O.box 52 (V.agg [V.int .i64 L_1.2.2.2.2.2.2.1,V.mp 6,V.tail 7 0]) false,O.box 56 (V.agg [V.tail 8 0,V.tail 9 0]) false,O.box 61 (V.agg [V.ptr 2 0 0,V.int .i64 L_1.2.2.2.2.1,V.mp 10,V.tail 11 0,V.int .i64 L_1.2.2.2.2.2.1]) false,O.box 64 (V.agg [V.ptr 3 0 0,V.int .i64 L_2.2.2.2.2.1,V.int .i64 L_2.2.2.2.2.2.1,V.tail 12 0]) false,O.map L_1.2.2.2.2.2.2.2.2.2.1,O.row 83 L_1.2.2.2.2.2.2.2.2.2.2.1 L_1.2.2.2.2.2.2.2.2.2.2.2,O.row 9 L_2.2.2.2.2.2.2.2.1 0,O.row 85 L_2.2.2.2.2.2.2.2.2 0,O.map L_1.2.2.2.2.2.2.2.1,O.row 3 L_1.2.2.2.2.2.2.2.2.1 0,O.row 75 L_2.2.2.2.2.2.2.1 0]))
 (icM qcfg ⟨true,false⟩ mk12 12 [V.ptr 2 0 0] [O.arena 71 L_2.2.2.1,O.arena 74 L_2.2.2.2.1,O.box 61 (V.agg [V.ptr 3 0 0,V.int .i64 L_1.2.2.2.2.1,V.mp 4,V.tail 5 0,V.int .i64 L_1.2.2.2.2.2.1]) false,O.box 52 (V.agg [V.int .i64 L_1.2.2.2.2.2.2.1,V.mp 6,V.tail 7 0]) false,O.map L_1.2.2.2.2.2.2.2.1,O.row 3 L_1.2.2.2.2.2.2.2.2.1 0,O.map L_1.2.2.2.2.2.2.2.2.2.1,O.row 83 L_1.2.2.2.2.2.2.2.2.2.2.1 L_1.2.2.2.2.2.2.2.2.2.2.2] fun L_3 =>
  icM qcfg ⟨true,true⟩ mk13 13 [V.ptr 2 0 0,V.bool false] [O.arena 71 L_3.1,O.arena 74 L_3.2.1,O.box 64 (V.agg [V.ptr 3 0 0,V.int .i64 L_2.2.2.2.2.1,V.int .i64 L_2.2.2.2.2.2.1,V.tail 4 0]) false,O.box 56 (V.agg [V.tail 5 0,V.tail 6 0]) false,O.row 75 L_2.2.2.2.2.2.2.1 0,O.row 9 L_2.2.2.2.2.2.2.2.1 0,O.row 85 L_2.2.2.2.2.2.2.2.2 0] fun L_4 =>
  gd (decide (0+L_4.1<=L_4.2.2.2.2.2.2.2.2.length)) <|
  pcK qcfg 11 [V.sl L_3.2.2.2.2.2.2.2.2.2.2,V.sl (((L_4.2.2.2.2.2.2.2.2).drop 0).take L_4.1)] fun r =>
  kB r fun r11 =>
  cond (!r11)
 (some (.doneM (V.bool false) [O.arena 71 L_4.2.1,O.arena 74 L_4.2.2.1,O.box 52 (V.agg [V.int .i64 L_3.2.2.2.2.1,V.mp 6,V.tail 7 0]) false,O.box 56 (V.agg [V.tail 8 0,V.tail 9 0]) false,O.box 61 (V.agg [V.ptr 2 0 0,V.int .i64 L_3.2.2.1,V.mp 10,V.tail 11 0,V.int .i64 L_3.2.2.2.1]) false,O.box 64 (V.agg [V.ptr 3 0 0,V.int .i64 L_4.2.2.2.1,V.int .i64 L_4.2.2.2.2.1,V.tail 12 0]) false,O.map L_3.2.2.2.2.2.2.2.1,O.row 83 L_3.2.2.2.2.2.2.2.2.1 L_3.2.2.2.2.2.2.2.2.2.1,O.row 9 L_4.2.2.2.2.2.2.1 0,O.row 85 L_4.2.2.2.2.2.2.2.1 0,O.map L_3.2.2.2.2.2.1,O.row 3 L_3.2.2.2.2.2.2.1 0,O.row 75 L_4.2.2.2.2.2.1 0]))
 (icM qcfg ⟨true,true⟩ mk14 14 [V.ptr 2 0 0] [O.arena 71 L_4.2.1,O.arena 74 L_4.2.2.1,O.box 61 (V.agg [V.ptr 3 0 0,V.int .i64 L_3.2.2.1,V.mp 4,V.tail 5 0,V.int .i64 L_3.2.2.2.1]) false,O.box 52 (V.agg [V.int .i64 L_3.2.2.2.2.1,V.mp 6,V.tail 7 0]) false,O.map L_3.2.2.2.2.2.1,O.row 3 L_3.2.2.2.2.2.2.1 0,O.map L_3.2.2.2.2.2.2.2.1,O.row 83 L_3.2.2.2.2.2.2.2.2.1 L_3.2.2.2.2.2.2.2.2.2.1] fun L_5 =>
  icM qcfg ⟨true,true⟩ mk13 13 [V.ptr 2 0 0,V.bool true] [O.arena 71 L_5.2.1,O.arena 74 L_5.2.2.1,O.box 64 (V.agg [V.ptr 3 0 0,V.int .i64 L_4.2.2.2.1,V.int .i64 L_4.2.2.2.2.1,V.tail 4 0]) false,O.box 56 (V.agg [V.tail 5 0,V.tail 6 0]) false,O.row 75 L_4.2.2.2.2.2.1 0,O.row 9 L_4.2.2.2.2.2.2.1 0,O.row 85 L_4.2.2.2.2.2.2.2.1 0] fun L_6 =>
  gd (decide (0+L_5.1<=L_5.2.2.2.2.2.2.2.2.2.2.2.length)) <|
  gd (decide (0+L_6.1<=L_6.2.2.2.2.2.2.2.2.length)) <|
  pcK qcfg 11 [V.sl (((L_5.2.2.2.2.2.2.2.2.2.2.2).drop 0).take L_5.1),V.sl (((L_6.2.2.2.2.2.2.2.2).drop 0).take L_6.1)] fun r_1 =>
  kB r_1 fun r11_1 =>
  cond (!r11_1)
 (some (.doneM (V.bool false) [O.arena 71 L_6.2.1,O.arena 74 L_6.2.2.1,O.box 52 (V.agg [V.int .i64 L_5.2.2.2.2.2.1,V.mp 6,V.tail 7 0]) false,O.box 56 (V.agg [V.tail 8 0,V.tail 9 0]) false,O.box 61 (V.agg [V.ptr 2 0 0,V.int .i64 L_5.2.2.2.1,V.mp 10,V.tail 11 0,V.int .i64 L_5.2.2.2.2.1]) false,O.box 64 (V.agg [V.ptr 3 0 0,V.int .i64 L_6.2.2.2.1,V.int .i64 L_6.2.2.2.2.1,V.tail 12 0]) false,O.map L_5.2.2.2.2.2.2.2.2.1,O.row 83 L_5.2.2.2.2.2.2.2.2.2.1 L_5.2.2.2.2.2.2.2.2.2.2.1,O.row 9 L_6.2.2.2.2.2.2.1 0,O.row 85 L_6.2.2.2.2.2.2.2.1 0,O.map L_5.2.2.2.2.2.2.1,O.row 3 L_5.2.2.2.2.2.2.2.1 0,O.row 75 L_6.2.2.2.2.2.1 0]))
 (gd (decide (0<=x13)) <|
  idxK x1 x13.toNat fun v_1 =>
  d38 v_1 fun kind0_1 page_1 s_1 n_1 =>
  icM qcfg ⟨true,false⟩ mk15 15 [V.ptr 2 0 0,V.int .i64 page_1] [O.arena 71 L_6.2.1,O.arena 74 L_6.2.2.1,O.box 61 (V.agg [V.ptr 3 0 0,V.int .i64 L_5.2.2.2.1,V.mp 4,V.tail 5 0,V.int .i64 L_5.2.2.2.2.1]) false,O.box 52 (V.agg [V.int .i64 L_5.2.2.2.2.2.1,V.mp 6,V.tail 7 0]) false,O.map L_5.2.2.2.2.2.2.1,O.row 3 L_5.2.2.2.2.2.2.2.1 0,O.map L_5.2.2.2.2.2.2.2.2.1,O.row 83 L_5.2.2.2.2.2.2.2.2.2.1 L_5.2.2.2.2.2.2.2.2.2.2.1] fun L_7 =>
  gd (decide (0<=x13)) <|
  idxK x1 x13.toNat fun v_2 =>
  d38 v_2 fun kind0_2 page_2 s_2 n_2 =>
  icM qcfg ⟨true,false⟩ mk16 16 [V.ptr 2 0 0,V.int .i64 page_2] [O.arena 71 L_7.2.1,O.arena 74 L_7.2.2.1,O.box 64 (V.agg [V.ptr 3 0 0,V.int .i64 L_6.2.2.2.1,V.int .i64 L_6.2.2.2.2.1,V.tail 4 0]) false,O.box 56 (V.agg [V.tail 5 0,V.tail 6 0]) false,O.row 75 L_6.2.2.2.2.2.1 0,O.row 9 L_6.2.2.2.2.2.2.1 0,O.row 85 L_6.2.2.2.2.2.2.2.1 0] fun L_8 =>
  cond (L_7.1 != L_8.1)
 (some (.doneM (V.bool false) [O.arena 71 L_8.2.1,O.arena 74 L_8.2.2.1,O.box 52 (V.agg [V.int .i64 L_7.2.2.2.2.2.1,V.mp 6,V.tail 7 0]) false,O.box 56 (V.agg [V.tail 8 0,V.tail 9 0]) false,O.box 61 (V.agg [V.ptr 2 0 0,V.int .i64 L_7.2.2.2.1,V.mp 10,V.tail 11 0,V.int .i64 L_7.2.2.2.2.1]) false,O.box 64 (V.agg [V.ptr 3 0 0,V.int .i64 L_8.2.2.2.1,V.int .i64 L_8.2.2.2.2.1,V.tail 12 0]) false,O.map L_7.2.2.2.2.2.2.2.2.1,O.row 83 L_7.2.2.2.2.2.2.2.2.2.1 L_7.2.2.2.2.2.2.2.2.2.2,O.row 9 L_8.2.2.2.2.2.2.1 0,O.row 85 L_8.2.2.2.2.2.2.2 0,O.map L_7.2.2.2.2.2.2.1,O.row 3 L_7.2.2.2.2.2.2.2.1 0,O.row 75 L_8.2.2.2.2.2.1 0]))
 (icM qcfg ⟨true,true⟩ mk17 17 [V.ptr 2 0 0] [O.arena 71 L_8.2.1,O.arena 74 L_8.2.2.1,O.box 52 (V.agg [V.int .i64 L_7.2.2.2.2.2.1,V.mp 3,V.tail 4 0]) false,O.map L_7.2.2.2.2.2.2.2.2.1,O.row 83 L_7.2.2.2.2.2.2.2.2.2.1 L_7.2.2.2.2.2.2.2.2.2.2] fun L_9 =>
  icM qcfg ⟨true,true⟩ mk18 18 [V.ptr 2 0 0] [O.arena 71 L_9.2.1,O.arena 74 L_9.2.2.1,O.box 56 (V.agg [V.tail 3 0,V.tail 4 0]) false,O.row 9 L_8.2.2.2.2.2.2.1 0,O.row 85 L_8.2.2.2.2.2.2.2 0] fun L_10 =>
  gd (decide (0+L_9.1<=L_9.2.2.2.2.2.2.2.length)) <|
  gd (decide (0+L_10.1<=L_10.2.2.2.2.2.length)) <|
  pcK qcfg 11 [V.sl (((L_9.2.2.2.2.2.2.2).drop 0).take L_9.1),V.sl (((L_10.2.2.2.2.2).drop 0).take L_10.1)] fun r_2 =>
  kB r_2 fun r11_2 =>
  cond (!r11_2)
 (some (.doneM (V.bool false) [O.arena 71 L_10.2.1,O.arena 74 L_10.2.2.1,O.box 52 (V.agg [V.int .i64 L_9.2.2.2.1,V.mp 6,V.tail 7 0]) false,O.box 56 (V.agg [V.tail 8 0,V.tail 9 0]) false,O.box 61 (V.agg [V.ptr 2 0 0,V.int .i64 L_7.2.2.2.1,V.mp 10,V.tail 11 0,V.int .i64 L_7.2.2.2.2.1]) false,O.box 64 (V.agg [V.ptr 3 0 0,V.int .i64 L_8.2.2.2.1,V.int .i64 L_8.2.2.2.2.1,V.tail 12 0]) false,O.map L_9.2.2.2.2.1,O.row 83 L_9.2.2.2.2.2.1 L_9.2.2.2.2.2.2.1,O.row 9 L_10.2.2.2.1 0,O.row 85 L_10.2.2.2.2.1 0,O.map L_7.2.2.2.2.2.2.1,O.row 3 L_7.2.2.2.2.2.2.2.1 0,O.row 75 L_8.2.2.2.2.2.1 0]))
 (some (.head 1 (T3_1 x1 x13 0 L_10.2.1 L_10.2.2.1 L_9.2.2.2.1 L_7.2.2.2.1 L_7.2.2.2.2.1 L_8.2.2.2.1 L_8.2.2.2.2.1 L_9.2.2.2.2.1 L_9.2.2.2.2.2.1 L_9.2.2.2.2.2.2.1 L_10.2.2.2.1 L_10.2.2.2.2.1 L_7.2.2.2.2.2.2.1 L_7.2.2.2.2.2.2.2.1 L_8.2.2.2.2.2.1))))))))))
 (pcK qcfg 21 [] fun r_3 =>
  kB r_3 fun r21 =>
  some (.doneM (V.bool r21) [O.arena 71 m0,O.arena 74 m1,O.box 52 (V.agg [V.int .i64 m2_0,V.mp 6,V.tail 7 0]) false,O.box 56 (V.agg [V.tail 8 0,V.tail 9 0]) false,O.box 61 (V.agg [V.ptr 2 0 0,V.int .i64 m4_1,V.mp 10,V.tail 11 0,V.int .i64 m4_4]) false,O.box 64 (V.agg [V.ptr 3 0 0,V.int .i64 m5_1,V.int .i64 m5_2,V.tail 12 0]) false,O.map m6,O.row 83 m7 z7,O.row 9 m8 0,O.row 85 m9 0,O.map m10,O.row 3 m11 0,O.row 75 m12 0])))
 (pcK qcfg 21 [] fun r_4 =>
  kB r_4 fun r21_1 =>
  some (.doneM (V.bool r21_1) [O.arena 71 m0,O.arena 74 m1,O.box 52 (V.agg [V.int .i64 m2_0,V.mp 6,V.tail 7 0]) false,O.box 56 (V.agg [V.tail 8 0,V.tail 9 0]) false,O.box 61 (V.agg [V.ptr 2 0 0,V.int .i64 m4_1,V.mp 10,V.tail 11 0,V.int .i64 m4_4]) false,O.box 64 (V.agg [V.ptr 3 0 0,V.int .i64 m5_1,V.int .i64 m5_2,V.tail 12 0]) false,O.map m6,O.row 83 m7 z7,O.row 9 m8 0,O.row 85 m9 0,O.map m10,O.row 3 m11 0,O.row 75 m12 0]))
theorem s3_0d_run (x1:List V) (x13:Int) (m0 m1:List V) (m2_0 m4_1:Int) (m4_4 m5_1 m5_2:Int) (m6:List (V × V)) (m7:List V) (z7:Nat) (m8 m9:List V) (m10:List (V × V)) (m11 m12:List V) {o o':Out} (h:s3_0d x1 x13 m0 m1 m2_0 m4_1 m4_4 m5_1 m5_2 m6 m7 z7 m8 m9 m10 m11 m12=some o) (hg:Go qk true 2 fa3 o o'):Go qk true 2 fa3 (.head 0 (T3_0d x1 x13 m0 m1 m2_0 m4_1 m4_4 m5_1 m5_2 m6 m7 z7 m8 m9 m10 m11 m12)) o':=.step (Eq.trans (by kernel_rfl) h) hg
noncomputable def s3_1 (x1:List V) (x13 x18:Int) (m0 m1:List V) (m2_0 m4_1:Int) (m4_4 m5_1 m5_2:Int) (m6:List (V × V)) (m7:List V) (z7:Nat) (m8 m9:List V) (m10:List (V × V)) (m11 m12:List V):R :=
 cond (decide (x18 < 8))
 (icM qcfg ⟨true,false⟩ mk19 19 [V.ptr 2 0 0,V.int .i64 x18] [O.arena 71 m0,O.arena 74 m1,O.box 52 (V.agg [V.int .i64 m2_0,V.mp 3,V.tail 4 0]) false,O.map m6,O.row 83 m7 z7] fun L =>
  icM qcfg ⟨true,false⟩ mk20 20 [V.ptr 2 0 0,V.int .i64 x18] [O.arena 71 L.2.1,O.arena 74 L.2.2.1,O.box 56 (V.agg [V.tail 3 0,V.tail 4 0]) false,O.row 9 m8 0,O.row 85 m9 0] fun L_1 =>
  cond (!(L.1==L_1.1))
 (some (.doneM (V.bool false) [O.arena 71 L_1.2.1,O.arena 74 L_1.2.2.1,O.box 52 (V.agg [V.int .i64 L.2.2.2.1,V.mp 6,V.tail 7 0]) false,O.box 56 (V.agg [V.tail 8 0,V.tail 9 0]) false,O.box 61 (V.agg [V.ptr 2 0 0,V.int .i64 m4_1,V.mp 10,V.tail 11 0,V.int .i64 m4_4]) false,O.box 64 (V.agg [V.ptr 3 0 0,V.int .i64 m5_1,V.int .i64 m5_2,V.tail 12 0]) false,O.map L.2.2.2.2.1,O.row 83 L.2.2.2.2.2.1 L.2.2.2.2.2.2,O.row 9 L_1.2.2.2.1 0,O.row 85 L_1.2.2.2.2 0,O.map m10,O.row 3 m11 0,O.row 75 m12 0]))
 (some (.head 1 (T3_1 x1 x13 (W .i64 (x18+1)) L_1.2.1 L_1.2.2.1 L.2.2.2.1 m4_1 m4_4 m5_1 m5_2 L.2.2.2.2.1 L.2.2.2.2.2.1 L.2.2.2.2.2.2 L_1.2.2.2.1 L_1.2.2.2.2 m10 m11 m12))))
 (some (.head 0 (T3_0d x1 (W .i64 (x13+1)) m0 m1 m2_0 m4_1 m4_4 m5_1 m5_2 m6 m7 z7 m8 m9 m10 m11 m12)))
theorem s3_1_run (x1:List V) (x13 x18:Int) (m0 m1:List V) (m2_0 m4_1:Int) (m4_4 m5_1 m5_2:Int) (m6:List (V × V)) (m7:List V) (z7:Nat) (m8 m9:List V) (m10:List (V × V)) (m11 m12:List V) {o o':Out} (h:s3_1 x1 x13 x18 m0 m1 m2_0 m4_1 m4_4 m5_1 m5_2 m6 m7 z7 m8 m9 m10 m11 m12=some o) (hg:Go qk true 2 fa3 o o'):Go qk true 2 fa3 (.head 1 (T3_1 x1 x13 x18 m0 m1 m2_0 m4_1 m4_4 m5_1 m5_2 m6 m7 z7 m8 m9 m10 m11 m12)) o':=.step (Eq.trans (by kernel_rfl) h) hg
noncomputable def fa21:FA:=(fnA qcfg.P (qcfg.rxf 21) 21).getD faN
theorem fa21_eq:fnA qcfg.P (qcfg.rxf 21) 21=some fa21:=fa_of (by kernel_rfl)
noncomputable def e21 :R :=
 icM qcfg ⟨false,false⟩ mk23 23 [V.ptr 2 0 0,V.int .i64 4] [O.arena 71 [],O.arena 74 [],O.box 61 (V.agg [V.ptr 3 0 0,V.int .i64 1,V.mp 4,V.tail 5 0,V.int .i64 0]) false,O.box 52 (V.agg [V.int .i64 4,V.mp 6,V.tail 7 0]) false,O.map [],O.row 3 [] 0,O.map [],O.row 83 [] 0] fun L =>
 icM qcfg ⟨false,false⟩ mk23 23 [V.ptr 2 0 0,V.int .i64 0] [O.arena 71 L.2.2.1,O.arena 74 L.2.2.2.1,O.box 61 (V.agg [V.ptr 3 0 0,V.int .i64 L.2.2.2.2.1,V.mp 4,V.tail 5 0,V.int .i64 L.2.2.2.2.2.1]) false,O.box 52 (V.agg [V.int .i64 L.2.2.2.2.2.2.1,V.mp 6,V.tail 7 0]) false,O.map L.2.2.2.2.2.2.2.1,O.row 3 L.2.2.2.2.2.2.2.2.2.1 0,O.map L.2.2.2.2.2.2.2.2.1,O.row 83 L.2.2.2.2.2.2.2.2.2.2.1 L.2.2.2.2.2.2.2.2.2.2.2] fun L_1 =>
 icM qcfg ⟨true,false⟩ mk27 27 [V.ptr 2 0 0,V.int .i64 0,V.str [97],V.int .i64 5] [O.arena 71 L_1.2.2.1,O.arena 74 L_1.2.2.2.1,O.box 61 (V.agg [V.ptr 3 0 0,V.int .i64 L_1.2.2.2.2.1,V.mp 4,V.tail 5 0,V.int .i64 L_1.2.2.2.2.2.1]) false,O.box 52 (V.agg [V.int .i64 L_1.2.2.2.2.2.2.1,V.mp 6,V.tail 7 0]) false,O.map L_1.2.2.2.2.2.2.2.1,O.row 3 L_1.2.2.2.2.2.2.2.2.2.1 0,O.map L_1.2.2.2.2.2.2.2.2.1,O.row 83 L_1.2.2.2.2.2.2.2.2.2.2.1 L_1.2.2.2.2.2.2.2.2.2.2.2] fun L_2 =>
 icM qcfg ⟨true,false⟩ mk27 27 [V.ptr 2 0 0,V.int .i64 0,V.str [98],V.int .i64 4] [O.arena 71 L_2.2.1,O.arena 74 L_2.2.2.1,O.box 61 (V.agg [V.ptr 3 0 0,V.int .i64 L_2.2.2.2.1,V.mp 4,V.tail 5 0,V.int .i64 L_2.2.2.2.2.1]) false,O.box 52 (V.agg [V.int .i64 L_2.2.2.2.2.2.1,V.mp 6,V.tail 7 0]) false,O.map L_2.2.2.2.2.2.2.1,O.row 3 L_2.2.2.2.2.2.2.2.1 0,O.map L_2.2.2.2.2.2.2.2.2.1,O.row 83 L_2.2.2.2.2.2.2.2.2.2.1 L_2.2.2.2.2.2.2.2.2.2.2] fun L_3 =>
 icM qcfg ⟨true,false⟩ mk27 27 [V.ptr 2 0 0,V.int .i64 1,V.str [99],V.int .i64 5] [O.arena 71 L_3.2.1,O.arena 74 L_3.2.2.1,O.box 61 (V.agg [V.ptr 3 0 0,V.int .i64 L_3.2.2.2.1,V.mp 4,V.tail 5 0,V.int .i64 L_3.2.2.2.2.1]) false,O.box 52 (V.agg [V.int .i64 L_3.2.2.2.2.2.1,V.mp 6,V.tail 7 0]) false,O.map L_3.2.2.2.2.2.2.1,O.row 3 L_3.2.2.2.2.2.2.2.1 0,O.map L_3.2.2.2.2.2.2.2.2.1,O.row 83 L_3.2.2.2.2.2.2.2.2.2.1 L_3.2.2.2.2.2.2.2.2.2.2] fun L_4 =>
 icM qcfg ⟨false,false⟩ mk23 23 [V.ptr 2 0 0,V.int .i64 1] [O.arena 71 L_4.2.1,O.arena 74 L_4.2.2.1,O.box 61 (V.agg [V.ptr 3 0 0,V.int .i64 L_4.2.2.2.1,V.mp 4,V.tail 5 0,V.int .i64 L_4.2.2.2.2.1]) false,O.box 52 (V.agg [V.int .i64 L_4.2.2.2.2.2.1,V.mp 6,V.tail 7 0]) false,O.map L_4.2.2.2.2.2.2.1,O.row 3 L_4.2.2.2.2.2.2.2.1 0,O.map L_4.2.2.2.2.2.2.2.2.1,O.row 83 L_4.2.2.2.2.2.2.2.2.2.1 L_4.2.2.2.2.2.2.2.2.2.2] fun L_5 =>
 icM qcfg ⟨true,false⟩ mk25 25 [V.ptr 2 0 0,V.int .i64 0] [O.arena 71 L_5.2.2.1,O.arena 74 L_5.2.2.2.1,O.box 61 (V.agg [V.ptr 3 0 0,V.int .i64 L_5.2.2.2.2.1,V.mp 4,V.tail 5 0,V.int .i64 L_5.2.2.2.2.2.1]) false,O.box 52 (V.agg [V.int .i64 L_5.2.2.2.2.2.2.1,V.mp 6,V.tail 7 0]) false,O.map L_5.2.2.2.2.2.2.2.1,O.row 3 L_5.2.2.2.2.2.2.2.2.2.1 0,O.map L_5.2.2.2.2.2.2.2.2.1,O.row 83 L_5.2.2.2.2.2.2.2.2.2.2.1 L_5.2.2.2.2.2.2.2.2.2.2.2] fun L_6 =>
 icM qcfg ⟨true,false⟩ mk25 25 [V.ptr 2 0 0,V.int .i64 0] [O.arena 71 L_6.2.1,O.arena 74 L_6.2.2.1,O.box 61 (V.agg [V.ptr 3 0 0,V.int .i64 L_6.2.2.2.1,V.mp 4,V.tail 5 0,V.int .i64 L_6.2.2.2.2.1]) false,O.box 52 (V.agg [V.int .i64 L_6.2.2.2.2.2.1,V.mp 6,V.tail 7 0]) false,O.map L_6.2.2.2.2.2.2.1,O.row 3 L_6.2.2.2.2.2.2.2.1 0,O.map L_6.2.2.2.2.2.2.2.2.1,O.row 83 L_6.2.2.2.2.2.2.2.2.2.1 L_6.2.2.2.2.2.2.2.2.2.2] fun L_7 =>
 icM qcfg ⟨false,false⟩ mk23 23 [V.ptr 2 0 0,V.int .i64 1] [O.arena 71 L_7.2.1,O.arena 74 L_7.2.2.1,O.box 61 (V.agg [V.ptr 3 0 0,V.int .i64 L_7.2.2.2.1,V.mp 4,V.tail 5 0,V.int .i64 L_7.2.2.2.2.1]) false,O.box 52 (V.agg [V.int .i64 L_7.2.2.2.2.2.1,V.mp 6,V.tail 7 0]) false,O.map L_7.2.2.2.2.2.2.1,O.row 3 L_7.2.2.2.2.2.2.2.1 0,O.map L_7.2.2.2.2.2.2.2.2.1,O.row 83 L_7.2.2.2.2.2.2.2.2.2.1 L_7.2.2.2.2.2.2.2.2.2.2] fun L_8 =>
 icM qcfg ⟨true,false⟩ mk9 9 [V.ptr 2 0 0] [O.arena 71 L_8.2.2.1,O.arena 74 L_8.2.2.2.1,O.box 61 (V.agg [V.ptr 3 0 0,V.int .i64 L_8.2.2.2.2.1,V.mp 4,V.tail 5 0,V.int .i64 L_8.2.2.2.2.2.1]) false,O.box 52 (V.agg [V.int .i64 L_8.2.2.2.2.2.2.1,V.mp 6,V.tail 7 0]) false,O.map L_8.2.2.2.2.2.2.2.1,O.row 3 L_8.2.2.2.2.2.2.2.2.2.1 0,O.map L_8.2.2.2.2.2.2.2.2.1,O.row 83 L_8.2.2.2.2.2.2.2.2.2.2.1 L_8.2.2.2.2.2.2.2.2.2.2.2] fun L_9 =>
 icM qcfg ⟨false,false⟩ mk23 23 [V.ptr 2 0 0,V.int .i64 1] [O.arena 71 L_9.2.2.1,O.arena 74 L_9.2.2.2.1,O.box 61 (V.agg [V.ptr 3 0 0,V.int .i64 L_9.2.2.2.2.1,V.mp 4,V.tail 5 0,V.int .i64 (if L_9.2.2.2.2.2.1 < 5 then 5 else L_9.2.2.2.2.2.1)]) false,O.box 52 (V.agg [V.int .i64 L_9.2.2.2.2.2.2.1,V.mp 6,V.tail 7 0]) false,O.map L_9.2.2.2.2.2.2.2.1,O.row 3 L_9.2.2.2.2.2.2.2.2.1 0,O.map L_9.2.2.2.2.2.2.2.2.2.1,O.row 83 L_9.2.2.2.2.2.2.2.2.2.2.1 L_9.2.2.2.2.2.2.2.2.2.2.2] fun L_10 =>
 icM qcfg ⟨true,false⟩ mk40 40 [V.ptr 2 0 0,V.int .i64 0] [O.arena 71 L_10.2.2.1,O.arena 74 L_10.2.2.2.1,O.box 52 (V.agg [V.int .i64 L_10.2.2.2.2.2.2.1,V.mp 3,V.tail 4 0]) false,O.map L_10.2.2.2.2.2.2.2.2.1,O.row 83 L_10.2.2.2.2.2.2.2.2.2.2.1 L_10.2.2.2.2.2.2.2.2.2.2.2] fun L_11 =>
 pcK qcfg 41 [V.str [97],V.int .i64 252] fun r =>
 d57 r fun r41_0 r41_1 =>
 cond (L.2.1==(1:Int))
 (cond (L_1.2.1==(0:Int))
 (cond (L_2.1==(0:Int))
 (cond (L_3.1==(1:Int))
 (cond (L_4.1==(7:Int))
 (cond (L_5.2.1==(6:Int))
 (cond (L_6.1==(0:Int))
 (cond (L_7.1==(9:Int))
 (cond (L_8.2.1==(6:Int))
 (cond (L_9.1==(5:Int))
 (cond L_9.2.1
 (cond (L_10.2.1==(0:Int))
 (cond (L_11.1==r41_0)
 (cond (L_11.2.1==(0:Int))
 (icM qcfg ⟨true,false⟩ mk12 12 [V.ptr 2 0 0] [O.arena 71 L_11.2.2.1,O.arena 74 L_11.2.2.2.1,O.box 61 (V.agg [V.ptr 3 0 0,V.int .i64 L_10.2.2.2.2.1,V.mp 4,V.tail 5 0,V.int .i64 L_10.2.2.2.2.2.1]) false,O.box 52 (V.agg [V.int .i64 L_11.2.2.2.2.1,V.mp 6,V.tail 7 0]) false,O.map L_10.2.2.2.2.2.2.2.1,O.row 3 L_10.2.2.2.2.2.2.2.2.2.1 0,O.map L_11.2.2.2.2.2.1,O.row 83 L_11.2.2.2.2.2.2.1 L_11.2.2.2.2.2.2.2] fun L_12 =>
  pcK qcfg 11 [V.sl L_12.2.2.2.2.2.2.2.2.2.2,V.sl [V.int .i64 1]] fun r_1 =>
  kB r_1 fun r11 =>
  cond r11
 (icM qcfg ⟨true,true⟩ mk14 14 [V.ptr 2 0 0] [O.arena 71 L_12.1,O.arena 74 L_12.2.1,O.box 61 (V.agg [V.ptr 3 0 0,V.int .i64 L_12.2.2.1,V.mp 4,V.tail 5 0,V.int .i64 L_12.2.2.2.1]) false,O.box 52 (V.agg [V.int .i64 L_12.2.2.2.2.1,V.mp 6,V.tail 7 0]) false,O.map L_12.2.2.2.2.2.1,O.row 3 L_12.2.2.2.2.2.2.1 0,O.map L_12.2.2.2.2.2.2.2.1,O.row 83 L_12.2.2.2.2.2.2.2.2.1 L_12.2.2.2.2.2.2.2.2.2.1] fun L_13 =>
  gd (decide (0+L_13.1<=L_13.2.2.2.2.2.2.2.2.2.2.2.length)) <|
  cond (((((L_13.2.2.2.2.2.2.2.2.2.2.2).drop 0).take L_13.1).length:Int)==(0:Int))
 (icM qcfg ⟨true,false⟩ mk15 15 [V.ptr 2 0 0,V.int .i64 1] [O.arena 71 L_13.2.1,O.arena 74 L_13.2.2.1,O.box 61 (V.agg [V.ptr 3 0 0,V.int .i64 L_13.2.2.2.1,V.mp 4,V.tail 5 0,V.int .i64 L_13.2.2.2.2.1]) false,O.box 52 (V.agg [V.int .i64 L_13.2.2.2.2.2.1,V.mp 6,V.tail 7 0]) false,O.map L_13.2.2.2.2.2.2.1,O.row 3 L_13.2.2.2.2.2.2.2.1 0,O.map L_13.2.2.2.2.2.2.2.2.1,O.row 83 L_13.2.2.2.2.2.2.2.2.2.1 L_13.2.2.2.2.2.2.2.2.2.2.1] fun L_14 =>
  cond (L_14.1==(1:Int))
 (icM qcfg ⟨true,false⟩ mk15 15 [V.ptr 2 0 0,V.int .i64 0] [O.arena 71 L_14.2.1,O.arena 74 L_14.2.2.1,O.box 61 (V.agg [V.ptr 3 0 0,V.int .i64 L_14.2.2.2.1,V.mp 4,V.tail 5 0,V.int .i64 L_14.2.2.2.2.1]) false,O.box 52 (V.agg [V.int .i64 L_14.2.2.2.2.2.1,V.mp 6,V.tail 7 0]) false,O.map L_14.2.2.2.2.2.2.1,O.row 3 L_14.2.2.2.2.2.2.2.1 0,O.map L_14.2.2.2.2.2.2.2.2.1,O.row 83 L_14.2.2.2.2.2.2.2.2.2.1 L_14.2.2.2.2.2.2.2.2.2.2] fun L_15 =>
  cond (L_15.1==(0:Int))
 (icM qcfg ⟨false,false⟩ mk30 30 [V.ptr 2 0 0] [O.arena 71 L_15.2.1,O.arena 74 L_15.2.2.1,O.box 61 (V.agg [V.ptr 3 0 0,V.int .i64 L_15.2.2.2.1,V.mp 4,V.tail 5 0,V.int .i64 L_15.2.2.2.2.1]) false,O.box 52 (V.agg [V.int .i64 L_15.2.2.2.2.2.1,V.mp 6,V.tail 7 0]) false,O.map L_15.2.2.2.2.2.2.1,O.row 3 L_15.2.2.2.2.2.2.2.1 0,O.map L_15.2.2.2.2.2.2.2.2.1,O.row 83 L_15.2.2.2.2.2.2.2.2.2.1 L_15.2.2.2.2.2.2.2.2.2.2] fun L_16 =>
  some (.doneM (V.bool (L_16.1==(0:Int))) [O.arena 71 L_16.2.1,O.arena 74 L_16.2.2.1,O.map L_16.2.2.2.2.2.2.2.1,O.dead,O.box 52 (V.agg [V.int .i64 L_16.2.2.2.2.2.1,V.mp 2,V.tail 22 0]) false,O.map L_16.2.2.2.2.2.2.1,O.dead,O.box 61 (V.agg [V.ptr 4 0 0,V.int .i64 L_16.2.2.2.1,V.mp 5,V.tail 21 0,V.int .i64 L_16.2.2.2.2.1]) false,O.dead,O.dead,O.dead,O.dead,O.dead,O.dead,O.dead,O.dead,O.dead,O.dead,O.row 3 L_12.2.2.2.2.2.2.2.2.2.2 0,O.row 3 [V.int .i64 1] 0,O.row 3 L_13.2.2.2.2.2.2.2.2.2.2.2 0,O.row 3 L_16.2.2.2.2.2.2.2.2.1 0,O.row 83 L_16.2.2.2.2.2.2.2.2.2.1 L_16.2.2.2.2.2.2.2.2.2.2]))
 (some (.doneM (V.bool false) [O.arena 71 L_15.2.1,O.arena 74 L_15.2.2.1,O.map L_15.2.2.2.2.2.2.2.2.1,O.dead,O.box 52 (V.agg [V.int .i64 L_15.2.2.2.2.2.1,V.mp 2,V.tail 17 0]) false,O.map L_15.2.2.2.2.2.2.1,O.dead,O.box 61 (V.agg [V.ptr 4 0 0,V.int .i64 L_15.2.2.2.1,V.mp 5,V.tail 16 0,V.int .i64 L_15.2.2.2.2.1]) false,O.dead,O.dead,O.dead,O.dead,O.dead,O.dead,O.dead,O.dead,O.row 3 L_15.2.2.2.2.2.2.2.1 0,O.row 83 L_15.2.2.2.2.2.2.2.2.2.1 L_15.2.2.2.2.2.2.2.2.2.2,O.row 3 L_12.2.2.2.2.2.2.2.2.2.2 0,O.row 3 [V.int .i64 1] 0,O.row 3 L_13.2.2.2.2.2.2.2.2.2.2.2 0])))
 (some (.doneM (V.bool false) [O.arena 71 L_14.2.1,O.arena 74 L_14.2.2.1,O.map L_14.2.2.2.2.2.2.2.2.1,O.dead,O.box 52 (V.agg [V.int .i64 L_14.2.2.2.2.2.1,V.mp 2,V.tail 17 0]) false,O.map L_14.2.2.2.2.2.2.1,O.dead,O.box 61 (V.agg [V.ptr 4 0 0,V.int .i64 L_14.2.2.2.1,V.mp 5,V.tail 16 0,V.int .i64 L_14.2.2.2.2.1]) false,O.dead,O.dead,O.dead,O.dead,O.dead,O.dead,O.dead,O.dead,O.row 3 L_14.2.2.2.2.2.2.2.1 0,O.row 83 L_14.2.2.2.2.2.2.2.2.2.1 L_14.2.2.2.2.2.2.2.2.2.2,O.row 3 L_12.2.2.2.2.2.2.2.2.2.2 0,O.row 3 [V.int .i64 1] 0,O.row 3 L_13.2.2.2.2.2.2.2.2.2.2.2 0])))
 (some (.doneM (V.bool false) [O.arena 71 L_13.2.1,O.arena 74 L_13.2.2.1,O.map L_13.2.2.2.2.2.2.2.2.1,O.dead,O.box 52 (V.agg [V.int .i64 L_13.2.2.2.2.2.1,V.mp 2,V.tail 17 0]) false,O.map L_13.2.2.2.2.2.2.1,O.dead,O.box 61 (V.agg [V.ptr 4 0 0,V.int .i64 L_13.2.2.2.1,V.mp 5,V.tail 16 0,V.int .i64 L_13.2.2.2.2.1]) false,O.dead,O.dead,O.dead,O.dead,O.dead,O.dead,O.dead,O.dead,O.row 3 L_13.2.2.2.2.2.2.2.1 0,O.row 83 L_13.2.2.2.2.2.2.2.2.2.1 L_13.2.2.2.2.2.2.2.2.2.2.1,O.row 3 L_12.2.2.2.2.2.2.2.2.2.2 0,O.row 3 [V.int .i64 1] 0,O.row 3 L_13.2.2.2.2.2.2.2.2.2.2.2 0])))
 (some (.doneM (V.bool false) [O.arena 71 L_12.1,O.arena 74 L_12.2.1,O.map L_12.2.2.2.2.2.2.2.1,O.dead,O.box 52 (V.agg [V.int .i64 L_12.2.2.2.2.1,V.mp 2,V.tail 17 0]) false,O.map L_12.2.2.2.2.2.1,O.dead,O.box 61 (V.agg [V.ptr 4 0 0,V.int .i64 L_12.2.2.1,V.mp 5,V.tail 16 0,V.int .i64 L_12.2.2.2.1]) false,O.dead,O.dead,O.dead,O.dead,O.dead,O.dead,O.dead,O.dead,O.row 3 L_12.2.2.2.2.2.2.1 0,O.row 83 L_12.2.2.2.2.2.2.2.2.1 L_12.2.2.2.2.2.2.2.2.2.1,O.row 3 L_12.2.2.2.2.2.2.2.2.2.2 0,O.row 3 [V.int .i64 1] 0])))
 (some (.doneM (V.bool false) [O.arena 71 L_11.2.2.1,O.arena 74 L_11.2.2.2.1,O.map L_11.2.2.2.2.2.1,O.dead,O.box 52 (V.agg [V.int .i64 L_11.2.2.2.2.1,V.mp 2,V.tail 17 0]) false,O.map L_10.2.2.2.2.2.2.2.1,O.dead,O.box 61 (V.agg [V.ptr 4 0 0,V.int .i64 L_10.2.2.2.2.1,V.mp 5,V.tail 16 0,V.int .i64 L_10.2.2.2.2.2.1]) false,O.dead,O.dead,O.dead,O.dead,O.dead,O.dead,O.dead,O.dead,O.row 3 L_10.2.2.2.2.2.2.2.2.2.1 0,O.row 83 L_11.2.2.2.2.2.2.1 L_11.2.2.2.2.2.2.2])))
 (some (.doneM (V.bool false) [O.arena 71 L_11.2.2.1,O.arena 74 L_11.2.2.2.1,O.map L_11.2.2.2.2.2.1,O.dead,O.box 52 (V.agg [V.int .i64 L_11.2.2.2.2.1,V.mp 2,V.tail 17 0]) false,O.map L_10.2.2.2.2.2.2.2.1,O.dead,O.box 61 (V.agg [V.ptr 4 0 0,V.int .i64 L_10.2.2.2.2.1,V.mp 5,V.tail 16 0,V.int .i64 L_10.2.2.2.2.2.1]) false,O.dead,O.dead,O.dead,O.dead,O.dead,O.dead,O.dead,O.dead,O.row 3 L_10.2.2.2.2.2.2.2.2.2.1 0,O.row 83 L_11.2.2.2.2.2.2.1 L_11.2.2.2.2.2.2.2])))
 (some (.doneM (V.bool false) [O.arena 71 L_11.2.2.1,O.arena 74 L_11.2.2.2.1,O.map L_11.2.2.2.2.2.1,O.dead,O.box 52 (V.agg [V.int .i64 L_11.2.2.2.2.1,V.mp 2,V.tail 17 0]) false,O.map L_10.2.2.2.2.2.2.2.1,O.dead,O.box 61 (V.agg [V.ptr 4 0 0,V.int .i64 L_10.2.2.2.2.1,V.mp 5,V.tail 16 0,V.int .i64 L_10.2.2.2.2.2.1]) false,O.dead,O.dead,O.dead,O.dead,O.dead,O.dead,O.dead,O.dead,O.row 3 L_10.2.2.2.2.2.2.2.2.2.1 0,O.row 83 L_11.2.2.2.2.2.2.1 L_11.2.2.2.2.2.2.2])))
 (some (.doneM (V.bool false) [O.arena 71 L_11.2.2.1,O.arena 74 L_11.2.2.2.1,O.map L_11.2.2.2.2.2.1,O.dead,O.box 52 (V.agg [V.int .i64 L_11.2.2.2.2.1,V.mp 2,V.tail 17 0]) false,O.map L_10.2.2.2.2.2.2.2.1,O.dead,O.box 61 (V.agg [V.ptr 4 0 0,V.int .i64 L_10.2.2.2.2.1,V.mp 5,V.tail 16 0,V.int .i64 L_10.2.2.2.2.2.1]) false,O.dead,O.dead,O.dead,O.dead,O.dead,O.dead,O.dead,O.dead,O.row 3 L_10.2.2.2.2.2.2.2.2.2.1 0,O.row 83 L_11.2.2.2.2.2.2.1 L_11.2.2.2.2.2.2.2])))
 (some (.doneM (V.bool false) [O.arena 71 L_11.2.2.1,O.arena 74 L_11.2.2.2.1,O.map L_11.2.2.2.2.2.1,O.dead,O.box 52 (V.agg [V.int .i64 L_11.2.2.2.2.1,V.mp 2,V.tail 17 0]) false,O.map L_10.2.2.2.2.2.2.2.1,O.dead,O.box 61 (V.agg [V.ptr 4 0 0,V.int .i64 L_10.2.2.2.2.1,V.mp 5,V.tail 16 0,V.int .i64 L_10.2.2.2.2.2.1]) false,O.dead,O.dead,O.dead,O.dead,O.dead,O.dead,O.dead,O.dead,O.row 3 L_10.2.2.2.2.2.2.2.2.2.1 0,O.row 83 L_11.2.2.2.2.2.2.1 L_11.2.2.2.2.2.2.2])))
 (some (.doneM (V.bool false) [O.arena 71 L_11.2.2.1,O.arena 74 L_11.2.2.2.1,O.map L_11.2.2.2.2.2.1,O.dead,O.box 52 (V.agg [V.int .i64 L_11.2.2.2.2.1,V.mp 2,V.tail 17 0]) false,O.map L_10.2.2.2.2.2.2.2.1,O.dead,O.box 61 (V.agg [V.ptr 4 0 0,V.int .i64 L_10.2.2.2.2.1,V.mp 5,V.tail 16 0,V.int .i64 L_10.2.2.2.2.2.1]) false,O.dead,O.dead,O.dead,O.dead,O.dead,O.dead,O.dead,O.dead,O.row 3 L_10.2.2.2.2.2.2.2.2.2.1 0,O.row 83 L_11.2.2.2.2.2.2.1 L_11.2.2.2.2.2.2.2])))
 (some (.doneM (V.bool false) [O.arena 71 L_11.2.2.1,O.arena 74 L_11.2.2.2.1,O.map L_11.2.2.2.2.2.1,O.dead,O.box 52 (V.agg [V.int .i64 L_11.2.2.2.2.1,V.mp 2,V.tail 17 0]) false,O.map L_10.2.2.2.2.2.2.2.1,O.dead,O.box 61 (V.agg [V.ptr 4 0 0,V.int .i64 L_10.2.2.2.2.1,V.mp 5,V.tail 16 0,V.int .i64 L_10.2.2.2.2.2.1]) false,O.dead,O.dead,O.dead,O.dead,O.dead,O.dead,O.dead,O.dead,O.row 3 L_10.2.2.2.2.2.2.2.2.2.1 0,O.row 83 L_11.2.2.2.2.2.2.1 L_11.2.2.2.2.2.2.2])))
 (some (.doneM (V.bool false) [O.arena 71 L_11.2.2.1,O.arena 74 L_11.2.2.2.1,O.map L_11.2.2.2.2.2.1,O.dead,O.box 52 (V.agg [V.int .i64 L_11.2.2.2.2.1,V.mp 2,V.tail 17 0]) false,O.map L_10.2.2.2.2.2.2.2.1,O.dead,O.box 61 (V.agg [V.ptr 4 0 0,V.int .i64 L_10.2.2.2.2.1,V.mp 5,V.tail 16 0,V.int .i64 L_10.2.2.2.2.2.1]) false,O.dead,O.dead,O.dead,O.dead,O.dead,O.dead,O.dead,O.dead,O.row 3 L_10.2.2.2.2.2.2.2.2.2.1 0,O.row 83 L_11.2.2.2.2.2.2.1 L_11.2.2.2.2.2.2.2])))
 (some (.doneM (V.bool false) [O.arena 71 L_11.2.2.1,O.arena 74 L_11.2.2.2.1,O.map L_11.2.2.2.2.2.1,O.dead,O.box 52 (V.agg [V.int .i64 L_11.2.2.2.2.1,V.mp 2,V.tail 17 0]) false,O.map L_10.2.2.2.2.2.2.2.1,O.dead,O.box 61 (V.agg [V.ptr 4 0 0,V.int .i64 L_10.2.2.2.2.1,V.mp 5,V.tail 16 0,V.int .i64 L_10.2.2.2.2.2.1]) false,O.dead,O.dead,O.dead,O.dead,O.dead,O.dead,O.dead,O.dead,O.row 3 L_10.2.2.2.2.2.2.2.2.2.1 0,O.row 83 L_11.2.2.2.2.2.2.1 L_11.2.2.2.2.2.2.2])))
 (some (.doneM (V.bool false) [O.arena 71 L_11.2.2.1,O.arena 74 L_11.2.2.2.1,O.map L_11.2.2.2.2.2.1,O.dead,O.box 52 (V.agg [V.int .i64 L_11.2.2.2.2.1,V.mp 2,V.tail 17 0]) false,O.map L_10.2.2.2.2.2.2.2.1,O.dead,O.box 61 (V.agg [V.ptr 4 0 0,V.int .i64 L_10.2.2.2.2.1,V.mp 5,V.tail 16 0,V.int .i64 L_10.2.2.2.2.2.1]) false,O.dead,O.dead,O.dead,O.dead,O.dead,O.dead,O.dead,O.dead,O.row 3 L_10.2.2.2.2.2.2.2.2.2.1 0,O.row 83 L_11.2.2.2.2.2.2.1 L_11.2.2.2.2.2.2.2])))
 (some (.doneM (V.bool false) [O.arena 71 L_11.2.2.1,O.arena 74 L_11.2.2.2.1,O.map L_11.2.2.2.2.2.1,O.dead,O.box 52 (V.agg [V.int .i64 L_11.2.2.2.2.1,V.mp 2,V.tail 17 0]) false,O.map L_10.2.2.2.2.2.2.2.1,O.dead,O.box 61 (V.agg [V.ptr 4 0 0,V.int .i64 L_10.2.2.2.2.1,V.mp 5,V.tail 16 0,V.int .i64 L_10.2.2.2.2.2.1]) false,O.dead,O.dead,O.dead,O.dead,O.dead,O.dead,O.dead,O.dead,O.row 3 L_10.2.2.2.2.2.2.2.2.2.1 0,O.row 83 L_11.2.2.2.2.2.2.1 L_11.2.2.2.2.2.2.2])))
 (some (.doneM (V.bool false) [O.arena 71 L_11.2.2.1,O.arena 74 L_11.2.2.2.1,O.map L_11.2.2.2.2.2.1,O.dead,O.box 52 (V.agg [V.int .i64 L_11.2.2.2.2.1,V.mp 2,V.tail 17 0]) false,O.map L_10.2.2.2.2.2.2.2.1,O.dead,O.box 61 (V.agg [V.ptr 4 0 0,V.int .i64 L_10.2.2.2.2.1,V.mp 5,V.tail 16 0,V.int .i64 L_10.2.2.2.2.2.1]) false,O.dead,O.dead,O.dead,O.dead,O.dead,O.dead,O.dead,O.dead,O.row 3 L_10.2.2.2.2.2.2.2.2.2.1 0,O.row 83 L_11.2.2.2.2.2.2.1 L_11.2.2.2.2.2.2.2])))
 (some (.doneM (V.bool false) [O.arena 71 L_11.2.2.1,O.arena 74 L_11.2.2.2.1,O.map L_11.2.2.2.2.2.1,O.dead,O.box 52 (V.agg [V.int .i64 L_11.2.2.2.2.1,V.mp 2,V.tail 17 0]) false,O.map L_10.2.2.2.2.2.2.2.1,O.dead,O.box 61 (V.agg [V.ptr 4 0 0,V.int .i64 L_10.2.2.2.2.1,V.mp 5,V.tail 16 0,V.int .i64 L_10.2.2.2.2.2.1]) false,O.dead,O.dead,O.dead,O.dead,O.dead,O.dead,O.dead,O.dead,O.row 3 L_10.2.2.2.2.2.2.2.2.2.1 0,O.row 83 L_11.2.2.2.2.2.2.1 L_11.2.2.2.2.2.2.2])))
 (some (.doneM (V.bool false) [O.arena 71 L_11.2.2.1,O.arena 74 L_11.2.2.2.1,O.map L_11.2.2.2.2.2.1,O.dead,O.box 52 (V.agg [V.int .i64 L_11.2.2.2.2.1,V.mp 2,V.tail 17 0]) false,O.map L_10.2.2.2.2.2.2.2.1,O.dead,O.box 61 (V.agg [V.ptr 4 0 0,V.int .i64 L_10.2.2.2.2.1,V.mp 5,V.tail 16 0,V.int .i64 L_10.2.2.2.2.2.1]) false,O.dead,O.dead,O.dead,O.dead,O.dead,O.dead,O.dead,O.dead,O.row 3 L_10.2.2.2.2.2.2.2.2.2.1 0,O.row 83 L_11.2.2.2.2.2.2.1 L_11.2.2.2.2.2.2.2]))
theorem e21_eq :enterK qk true fa21 [] [O.arena 71 [],O.arena 74 []]=e21 :=by kernel_rfl
noncomputable def fa5:FA:=(fnA qcfg.P (qcfg.rxf 5) 5).getD faN
theorem fa5_eq:fnA qcfg.P (qcfg.rxf 5) 5=some fa5:=fa_of (by kernel_rfl)
def T5_0 (x0:Int) (x5:List UInt8) (x7:Int) (m0 m1 m3:List V):S:=⟨[V.int .i64 x0,V.junk,V.nilP,V.int .i64 0,V.ptr 2 0 0,V.str x5,V.junk,V.int .i64 x7]++(JU 28),[O.arena 71 m0,O.arena 74 m1,O.box 56 (V.agg [V.tail 3 0,V.tail 4 0]) false,O.row 9 m3 0,O.row 85 [] 0]⟩
noncomputable def e5 (x0:Int) (m0 m1:List V):R :=
 cond (decide (x0 < 1))
 (some (.doneM (V.tup [V.nilP,V.int .i64 1]) [O.arena 71 m0,O.arena 74 m1]))
 (cond (decide (x0 > 1024))
 (some (.doneM (V.tup [V.nilP,V.int .i64 1]) [O.arena 71 m0,O.arena 74 m1]))
 (pcK qcfg 22 [V.str []] fun r =>
  d57 r fun r22_0 r22_1 =>
  some (.head 0 (T5_0 x0 r22_0 0 m0 m1 []))))
theorem e5_eq (x0:Int) (m0 m1:List V):enterK qk true fa5 [V.int .i64 x0] [O.arena 71 m0,O.arena 74 m1]=e5 x0 m0 m1:=by kernel_rfl
theorem e5_run (x0:Int) (m0 m1:List V) {o:Out} {r:V × List O} (h:e5 x0 m0 m1=some o) (hg:GoN qk 2 fa5 ⟨true,false⟩ [O.arena 71 m0,O.arena 74 m1] o r):icC qcfg ⟨true,false⟩ 5 [V.int .i64 x0] [O.arena 71 m0,O.arena 74 m1]=some r:=icC_go qik rfl fa5_eq ((e5_eq ..).trans h) hg
noncomputable def s5_0 (x0:Int) (x5:List UInt8) (x7:Int) (m0 m1 m3:List V):R :=
 cond (decide (x7 < x0))
 (gd (decide (m3.length+([V.str x5]:List V).length<=16777216)) <|
  some (.head 0 (T5_0 x0 x5 (W .i64 (x7+1)) m0 m1 (m3++[V.str x5]))))
 (some (.doneM (V.tup [V.ptr 2 0 0,V.int .i64 0]) [O.arena 71 m0,O.arena 74 m1,O.box 56 (V.agg [V.tail 3 0,V.tail 4 0]) false,O.row 9 m3 0,O.row 85 [] 0]))
theorem s5_0_run (x0:Int) (x5:List UInt8) (x7:Int) (m0 m1 m3:List V) {o o':Out} (h:s5_0 x0 x5 x7 m0 m1 m3=some o) (hg:Go qk true 2 fa5 o o'):Go qk true 2 fa5 (.head 0 (T5_0 x0 x5 x7 m0 m1 m3)) o':=.step (Eq.trans (by kernel_rfl) h) hg
noncomputable def fa8:FA:=(fnA qcfg.P (qcfg.rxf 8) 8).getD faN
theorem fa8_eq:fnA qcfg.P (qcfg.rxf 8) 8=some fa8:=fa_of (by kernel_rfl)
noncomputable def e8 (x2_0 x2_1:Int) (x2_2:List UInt8) (x2_3:Int) (m0 m1:List V) (m2_1 m2_4:Int) (m3_1 m3_2 m4_0:Int) (m5:List (V × V)) (m6 m8:List V) (m9:List (V × V)) (m10:List V) (z10:Nat) (m11 m12:List V):R :=
 gd (decide (0<=(if 300 < (x2_2.length:Int) then 300 else (x2_2.length:Int)))) <|
 gd (decide ((if 300 < (x2_2.length:Int) then 300 else (x2_2.length:Int)).toNat<=x2_2.length)) <|
 cond (x2_0==(0:Int))
 (icM qcfg ⟨false,false⟩ mk23 23 [V.ptr 2 0 0,V.int .i64 x2_1] [O.arena 71 m0,O.arena 74 m1,O.box 61 (V.agg [V.ptr 3 0 0,V.int .i64 m2_1,V.mp 4,V.tail 5 0,V.int .i64 m2_4]) false,O.box 52 (V.agg [V.int .i64 m4_0,V.mp 6,V.tail 7 0]) false,O.map m5,O.row 3 m6 0,O.map m9,O.row 83 m10 z10] fun L =>
  icM qcfg ⟨false,false⟩ mk24 24 [V.ptr 2 0 0,V.int .i64 x2_1] [O.arena 71 L.2.2.1,O.arena 74 L.2.2.2.1,O.box 64 (V.agg [V.ptr 3 0 0,V.int .i64 m3_1,V.int .i64 m3_2,V.tail 4 0]) false,O.box 56 (V.agg [V.tail 5 0,V.tail 6 0]) false,O.row 75 m8 0,O.row 9 m11 0,O.row 85 m12 0] fun L_1 =>
  cond (L.1==L_1.1)
 (some (.doneM (V.bool (L.2.1==L_1.2.1)) [O.arena 71 L_1.2.2.1,O.arena 74 L_1.2.2.2.1,O.box 61 (V.agg [V.ptr 4 0 0,V.int .i64 L.2.2.2.2.1,V.mp 5,V.tail 13 0,V.int .i64 L.2.2.2.2.2.1]) false,O.box 64 (V.agg [V.ptr 7 0 0,V.int .i64 L_1.2.2.2.2.1,V.int .i64 L_1.2.2.2.2.2.1,V.tail 15 0]) false,O.box 52 (V.agg [V.int .i64 L.2.2.2.2.2.2.1,V.mp 9,V.tail 14 0]) false,O.map L.2.2.2.2.2.2.2.1,O.dead,O.box 56 (V.agg [V.tail 16 0,V.tail 17 0]) false,O.dead,O.map L.2.2.2.2.2.2.2.2.1,O.dead,O.dead,O.dead,O.row 3 L.2.2.2.2.2.2.2.2.2.1 0,O.row 83 L.2.2.2.2.2.2.2.2.2.2.1 L.2.2.2.2.2.2.2.2.2.2.2,O.row 75 L_1.2.2.2.2.2.2.1 0,O.row 9 L_1.2.2.2.2.2.2.2.1 0,O.row 85 L_1.2.2.2.2.2.2.2.2 0]))
 (some (.doneM (V.bool false) [O.arena 71 L_1.2.2.1,O.arena 74 L_1.2.2.2.1,O.box 61 (V.agg [V.ptr 4 0 0,V.int .i64 L.2.2.2.2.1,V.mp 5,V.tail 13 0,V.int .i64 L.2.2.2.2.2.1]) false,O.box 64 (V.agg [V.ptr 7 0 0,V.int .i64 L_1.2.2.2.2.1,V.int .i64 L_1.2.2.2.2.2.1,V.tail 15 0]) false,O.box 52 (V.agg [V.int .i64 L.2.2.2.2.2.2.1,V.mp 9,V.tail 14 0]) false,O.map L.2.2.2.2.2.2.2.1,O.dead,O.box 56 (V.agg [V.tail 16 0,V.tail 17 0]) false,O.dead,O.map L.2.2.2.2.2.2.2.2.1,O.dead,O.dead,O.dead,O.row 3 L.2.2.2.2.2.2.2.2.2.1 0,O.row 83 L.2.2.2.2.2.2.2.2.2.2.1 L.2.2.2.2.2.2.2.2.2.2.2,O.row 75 L_1.2.2.2.2.2.2.1 0,O.row 9 L_1.2.2.2.2.2.2.2.1 0,O.row 85 L_1.2.2.2.2.2.2.2.2 0])))
 (cond (x2_0==(1:Int))
 (icM qcfg ⟨true,false⟩ mk25 25 [V.ptr 2 0 0,V.int .i64 x2_1] [O.arena 71 m0,O.arena 74 m1,O.box 61 (V.agg [V.ptr 3 0 0,V.int .i64 m2_1,V.mp 4,V.tail 5 0,V.int .i64 m2_4]) false,O.box 52 (V.agg [V.int .i64 m4_0,V.mp 6,V.tail 7 0]) false,O.map m5,O.row 3 m6 0,O.map m9,O.row 83 m10 z10] fun L_2 =>
  icM qcfg ⟨true,false⟩ mk26 26 [V.ptr 2 0 0,V.int .i64 x2_1] [O.arena 71 L_2.2.1,O.arena 74 L_2.2.2.1,O.box 64 (V.agg [V.ptr 3 0 0,V.int .i64 m3_1,V.int .i64 m3_2,V.tail 4 0]) false,O.box 56 (V.agg [V.tail 5 0,V.tail 6 0]) false,O.row 75 m8 0,O.row 9 m11 0,O.row 85 m12 0] fun L_3 =>
  some (.doneM (V.bool (L_2.1==L_3.1)) [O.arena 71 L_3.2.1,O.arena 74 L_3.2.2.1,O.box 61 (V.agg [V.ptr 4 0 0,V.int .i64 L_2.2.2.2.1,V.mp 5,V.tail 6 0,V.int .i64 L_2.2.2.2.2.1]) false,O.box 64 (V.agg [V.ptr 7 0 0,V.int .i64 L_3.2.2.2.1,V.int .i64 L_3.2.2.2.2.1,V.tail 8 0]) false,O.box 52 (V.agg [V.int .i64 L_2.2.2.2.2.2.1,V.mp 9,V.tail 10 0]) false,O.map L_2.2.2.2.2.2.2.1,O.row 3 L_2.2.2.2.2.2.2.2.1 0,O.box 56 (V.agg [V.tail 11 0,V.tail 12 0]) false,O.row 75 L_3.2.2.2.2.2.1 0,O.map L_2.2.2.2.2.2.2.2.2.1,O.row 83 L_2.2.2.2.2.2.2.2.2.2.1 L_2.2.2.2.2.2.2.2.2.2.2,O.row 9 L_3.2.2.2.2.2.2.1 0,O.row 85 L_3.2.2.2.2.2.2.2 0]))
 (cond (x2_0==(2:Int))
 (icM qcfg ⟨true,false⟩ mk27 27 [V.ptr 2 0 0,V.int .i64 x2_1,V.str (x2_2.take ((if 300 < (x2_2.length:Int) then 300 else (x2_2.length:Int)).toNat)),V.int .i64 x2_3] [O.arena 71 m0,O.arena 74 m1,O.box 61 (V.agg [V.ptr 3 0 0,V.int .i64 m2_1,V.mp 4,V.tail 5 0,V.int .i64 m2_4]) false,O.box 52 (V.agg [V.int .i64 m4_0,V.mp 6,V.tail 7 0]) false,O.map m5,O.row 3 m6 0,O.map m9,O.row 83 m10 z10] fun L_4 =>
  icM qcfg ⟨true,false⟩ mk28 28 [V.ptr 2 0 0,V.int .i64 x2_1,V.str (x2_2.take ((if 300 < (x2_2.length:Int) then 300 else (x2_2.length:Int)).toNat)),V.int .i64 x2_3] [O.arena 71 L_4.2.1,O.arena 74 L_4.2.2.1,O.box 64 (V.agg [V.ptr 3 0 0,V.int .i64 m3_1,V.int .i64 m3_2,V.tail 4 0]) false,O.box 56 (V.agg [V.tail 5 0,V.tail 6 0]) false,O.row 75 m8 0,O.row 9 m11 0,O.row 85 m12 0] fun L_5 =>
  some (.doneM (V.bool (L_4.1==L_5.1)) [O.arena 71 L_5.2.1,O.arena 74 L_5.2.2.1,O.box 61 (V.agg [V.ptr 4 0 0,V.int .i64 L_4.2.2.2.1,V.mp 5,V.tail 6 0,V.int .i64 L_4.2.2.2.2.1]) false,O.box 64 (V.agg [V.ptr 7 0 0,V.int .i64 L_5.2.2.2.1,V.int .i64 L_5.2.2.2.2.1,V.tail 8 0]) false,O.box 52 (V.agg [V.int .i64 L_4.2.2.2.2.2.1,V.mp 9,V.tail 10 0]) false,O.map L_4.2.2.2.2.2.2.1,O.row 3 L_4.2.2.2.2.2.2.2.1 0,O.box 56 (V.agg [V.tail 11 0,V.tail 12 0]) false,O.row 75 L_5.2.2.2.2.2.1 0,O.map L_4.2.2.2.2.2.2.2.2.1,O.row 83 L_4.2.2.2.2.2.2.2.2.2.1 L_4.2.2.2.2.2.2.2.2.2.2,O.row 9 L_5.2.2.2.2.2.2.1 0,O.row 85 L_5.2.2.2.2.2.2.2 0]))
 (cond (x2_0==(3:Int))
 (some (.doneM (V.bool true) [O.arena 71 m0,O.arena 74 m1,O.box 61 (V.agg [V.ptr 4 0 0,V.int .i64 m2_1,V.mp 5,V.tail 6 0,V.int .i64 (if m2_4 < x2_3 then x2_3 else m2_4)]) false,O.box 64 (V.agg [V.ptr 7 0 0,V.int .i64 m3_1,V.int .i64 (if m3_2 < x2_3 then x2_3 else m3_2),V.tail 8 0]) false,O.box 52 (V.agg [V.int .i64 m4_0,V.mp 9,V.tail 10 0]) false,O.map m5,O.row 3 m6 0,O.box 56 (V.agg [V.tail 11 0,V.tail 12 0]) false,O.row 75 m8 0,O.map m9,O.row 83 m10 z10,O.row 9 m11 0,O.row 85 m12 0]))
 (icM qcfg ⟨false,false⟩ mk30 30 [V.ptr 2 0 0] [O.arena 71 m0,O.arena 74 m1,O.box 61 (V.agg [V.ptr 3 0 0,V.int .i64 m2_1,V.mp 4,V.tail 5 0,V.int .i64 m2_4]) false,O.box 52 (V.agg [V.int .i64 m4_0,V.mp 6,V.tail 7 0]) false,O.map m5,O.row 3 m6 0,O.map m9,O.row 83 m10 z10] fun L_6 =>
  icM qcfg ⟨false,false⟩ mk31 31 [V.ptr 2 0 0] [O.arena 71 L_6.2.1,O.arena 74 L_6.2.2.1,O.box 64 (V.agg [V.ptr 3 0 0,V.int .i64 m3_1,V.int .i64 m3_2,V.tail 4 0]) false,O.box 56 (V.agg [V.tail 5 0,V.tail 6 0]) false,O.row 75 m8 0,O.row 9 m11 0,O.row 85 m12 0] fun L_7 =>
  some (.doneM (V.bool (L_6.1==L_7.1)) [O.arena 71 L_7.2.1,O.arena 74 L_7.2.2.1,O.box 61 (V.agg [V.ptr 4 0 0,V.int .i64 L_6.2.2.2.1,V.mp 5,V.tail 13 0,V.int .i64 L_6.2.2.2.2.1]) false,O.box 64 (V.agg [V.ptr 7 0 0,V.int .i64 L_7.2.2.2.1,V.int .i64 L_7.2.2.2.2.1,V.tail 15 0]) false,O.box 52 (V.agg [V.int .i64 L_6.2.2.2.2.2.1,V.mp 9,V.tail 14 0]) false,O.map L_6.2.2.2.2.2.2.1,O.dead,O.box 56 (V.agg [V.tail 16 0,V.tail 17 0]) false,O.dead,O.map L_6.2.2.2.2.2.2.2.1,O.dead,O.dead,O.dead,O.row 3 L_6.2.2.2.2.2.2.2.2.1 0,O.row 83 L_6.2.2.2.2.2.2.2.2.2.1 L_6.2.2.2.2.2.2.2.2.2.2,O.row 75 L_7.2.2.2.2.2.1 0,O.row 9 L_7.2.2.2.2.2.2.1 0,O.row 85 L_7.2.2.2.2.2.2.2 0])))))
theorem e8_eq (x2_0 x2_1:Int) (x2_2:List UInt8) (x2_3:Int) (m0 m1:List V) (m2_1 m2_4:Int) (m3_1 m3_2 m4_0:Int) (m5:List (V × V)) (m6 m8:List V) (m9:List (V × V)) (m10:List V) (z10:Nat) (m11 m12:List V):enterK qk true fa8 [V.ptr 2 0 0,V.ptr 3 0 0,V.agg [V.int .i64 x2_0,V.int .i64 x2_1,V.str x2_2,V.int .i64 x2_3]] [O.arena 71 m0,O.arena 74 m1,O.box 61 (V.agg [V.ptr 4 0 0,V.int .i64 m2_1,V.mp 5,V.tail 6 0,V.int .i64 m2_4]) false,O.box 64 (V.agg [V.ptr 7 0 0,V.int .i64 m3_1,V.int .i64 m3_2,V.tail 8 0]) false,O.box 52 (V.agg [V.int .i64 m4_0,V.mp 9,V.tail 10 0]) false,O.map m5,O.row 3 m6 0,O.box 56 (V.agg [V.tail 11 0,V.tail 12 0]) false,O.row 75 m8 0,O.map m9,O.row 83 m10 z10,O.row 9 m11 0,O.row 85 m12 0]=e8 x2_0 x2_1 x2_2 x2_3 m0 m1 m2_1 m2_4 m3_1 m3_2 m4_0 m5 m6 m8 m9 m10 z10 m11 m12:=by kernel_rfl
theorem e8_run (x2_0 x2_1:Int) (x2_2:List UInt8) (x2_3:Int) (m0 m1:List V) (m2_1 m2_4:Int) (m3_1 m3_2 m4_0:Int) (m5:List (V × V)) (m6 m8:List V) (m9:List (V × V)) (m10:List V) (z10:Nat) (m11 m12:List V) {o:Out} {r:V × List O} (h:e8 x2_0 x2_1 x2_2 x2_3 m0 m1 m2_1 m2_4 m3_1 m3_2 m4_0 m5 m6 m8 m9 m10 z10 m11 m12=some o) (hg:GoN qk 13 fa8 ⟨false,false⟩ [O.arena 71 m0,O.arena 74 m1,O.box 61 (V.agg [V.ptr 4 0 0,V.int .i64 m2_1,V.mp 5,V.tail 6 0,V.int .i64 m2_4]) false,O.box 64 (V.agg [V.ptr 7 0 0,V.int .i64 m3_1,V.int .i64 m3_2,V.tail 8 0]) false,O.box 52 (V.agg [V.int .i64 m4_0,V.mp 9,V.tail 10 0]) false,O.map m5,O.row 3 m6 0,O.box 56 (V.agg [V.tail 11 0,V.tail 12 0]) false,O.row 75 m8 0,O.map m9,O.row 83 m10 z10,O.row 9 m11 0,O.row 85 m12 0] o r):icC qcfg ⟨false,false⟩ 8 [V.ptr 2 0 0,V.ptr 3 0 0,V.agg [V.int .i64 x2_0,V.int .i64 x2_1,V.str x2_2,V.int .i64 x2_3]] [O.arena 71 m0,O.arena 74 m1,O.box 61 (V.agg [V.ptr 4 0 0,V.int .i64 m2_1,V.mp 5,V.tail 6 0,V.int .i64 m2_4]) false,O.box 64 (V.agg [V.ptr 7 0 0,V.int .i64 m3_1,V.int .i64 m3_2,V.tail 8 0]) false,O.box 52 (V.agg [V.int .i64 m4_0,V.mp 9,V.tail 10 0]) false,O.map m5,O.row 3 m6 0,O.box 56 (V.agg [V.tail 11 0,V.tail 12 0]) false,O.row 75 m8 0,O.map m9,O.row 83 m10 z10,O.row 9 m11 0,O.row 85 m12 0]=some r:=icC_go qik rfl fa8_eq ((e8_eq ..).trans h) hg
noncomputable def fa9:FA:=(fnA qcfg.P (qcfg.rxf 9) 9).getD faN
theorem fa9_eq:fnA qcfg.P (qcfg.rxf 9) 9=some fa9:=fa_of (by kernel_rfl)
def T9_0 (x5:Int) (x24:Nat) (x25 x26:Int) (m0 m1:List V) (m2_1 m2_4 m3_0:Int) (m4:List (V × V)) (m5:List V) (m6:List (V × V)) (m7:List V) (z7:Nat) (m8:List V):S:=⟨[V.ptr 2 0 0,V.junk,V.int .i64 0,V.bool false,V.junk,V.int .i64 x5]++(JU 18)++[V.win 8 0 x24,V.int .i64 x25,V.int .i64 x26]++(JU 16),[O.arena 71 m0,O.arena 74 m1,O.box 61 (V.agg [V.ptr 3 0 0,V.int .i64 m2_1,V.mp 4,V.tail 5 0,V.int .i64 m2_4]) false,O.box 52 (V.agg [V.int .i64 m3_0,V.mp 6,V.tail 7 0]) false,O.map m4,O.row 3 m5 0,O.map m6,O.row 83 m7 z7,O.row 3 m8 0]⟩
noncomputable def e9 (m0 m1:List V) (m2_1 m2_4 m3_0:Int) (m4:List (V × V)) (m5:List V) (m6:List (V × V)) (m7:List V) (z7:Nat):R :=
 icM qcfg ⟨true,true⟩ mk14 14 [V.ptr 2 0 0] [O.arena 71 m0,O.arena 74 m1,O.box 61 (V.agg [V.ptr 3 0 0,V.int .i64 m2_1,V.mp 4,V.tail 5 0,V.int .i64 m2_4]) false,O.box 52 (V.agg [V.int .i64 m3_0,V.mp 6,V.tail 7 0]) false,O.map m4,O.row 3 m5 0,O.map m6,O.row 83 m7 z7] fun L =>
 gd (decide (0+L.1<=L.2.2.2.2.2.2.2.2.2.2.2.length)) <|
 cond (((((L.2.2.2.2.2.2.2.2.2.2.2).drop 0).take L.1).length:Int)==(0:Int))
 (some (.doneM (V.tup [V.int .i64 0,V.bool false]) [O.arena 71 L.2.1,O.arena 74 L.2.2.1,O.box 61 (V.agg [V.ptr 3 0 0,V.int .i64 L.2.2.2.1,V.mp 4,V.tail 5 0,V.int .i64 L.2.2.2.2.1]) false,O.box 52 (V.agg [V.int .i64 L.2.2.2.2.2.1,V.mp 6,V.tail 7 0]) false,O.map L.2.2.2.2.2.2.1,O.row 3 L.2.2.2.2.2.2.2.1 0,O.map L.2.2.2.2.2.2.2.2.1,O.row 83 L.2.2.2.2.2.2.2.2.2.1 L.2.2.2.2.2.2.2.2.2.2.1,O.row 3 L.2.2.2.2.2.2.2.2.2.2.2 0]))
 (gd (decide (0 < L.1)) <|
  gd (decide (0+L.1<=L.2.2.2.2.2.2.2.2.2.2.2.length)) <|
  idxK L.2.2.2.2.2.2.2.2.2.2.2 (0+0) fun v =>
  kI .i64 v fun n =>
  mfK L.2.2.2.2.2.2.1 (V.int .i64 n)
 (none) fun r =>
  kP 71 r fun p =>
  idxK L.2.1 p fun v_1 =>
  d71 v_1 fun s pins dirty first last =>
  gd (decide (0+L.1<=L.2.2.2.2.2.2.2.2.2.2.2.length)) <|
  some (.head 0 (T9_0 first L.1 ((((L.2.2.2.2.2.2.2.2.2.2.2).drop 0).take L.1).length:Int) 0 L.2.1 L.2.2.1 L.2.2.2.1 L.2.2.2.2.1 L.2.2.2.2.2.1 L.2.2.2.2.2.2.1 L.2.2.2.2.2.2.2.1 L.2.2.2.2.2.2.2.2.1 L.2.2.2.2.2.2.2.2.2.1 L.2.2.2.2.2.2.2.2.2.2.1 L.2.2.2.2.2.2.2.2.2.2.2)))
theorem e9_eq (m0 m1:List V) (m2_1 m2_4 m3_0:Int) (m4:List (V × V)) (m5:List V) (m6:List (V × V)) (m7:List V) (z7:Nat):enterK qk true fa9 [V.ptr 2 0 0] [O.arena 71 m0,O.arena 74 m1,O.box 61 (V.agg [V.ptr 3 0 0,V.int .i64 m2_1,V.mp 4,V.tail 5 0,V.int .i64 m2_4]) false,O.box 52 (V.agg [V.int .i64 m3_0,V.mp 6,V.tail 7 0]) false,O.map m4,O.row 3 m5 0,O.map m6,O.row 83 m7 z7]=e9 m0 m1 m2_1 m2_4 m3_0 m4 m5 m6 m7 z7:=by kernel_rfl
theorem e9_run (m0 m1:List V) (m2_1 m2_4 m3_0:Int) (m4:List (V × V)) (m5:List V) (m6:List (V × V)) (m7:List V) (z7:Nat) {o:Out} {r:V × List O} (h:e9 m0 m1 m2_1 m2_4 m3_0 m4 m5 m6 m7 z7=some o) (hg:GoN qk 8 fa9 ⟨true,false⟩ [O.arena 71 m0,O.arena 74 m1,O.box 61 (V.agg [V.ptr 3 0 0,V.int .i64 m2_1,V.mp 4,V.tail 5 0,V.int .i64 m2_4]) false,O.box 52 (V.agg [V.int .i64 m3_0,V.mp 6,V.tail 7 0]) false,O.map m4,O.row 3 m5 0,O.map m6,O.row 83 m7 z7] o r):icC qcfg ⟨true,false⟩ 9 [V.ptr 2 0 0] [O.arena 71 m0,O.arena 74 m1,O.box 61 (V.agg [V.ptr 3 0 0,V.int .i64 m2_1,V.mp 4,V.tail 5 0,V.int .i64 m2_4]) false,O.box 52 (V.agg [V.int .i64 m3_0,V.mp 6,V.tail 7 0]) false,O.map m4,O.row 3 m5 0,O.map m6,O.row 83 m7 z7]=some r:=icC_go qik rfl fa9_eq ((e9_eq ..).trans h) hg
noncomputable def s9_0 (x5:Int) (x24:Nat) (x25 x26:Int) (m0 m1:List V) (m2_1 m2_4 m3_0:Int) (m4:List (V × V)) (m5:List V) (m6:List (V × V)) (m7:List V) (z7:Nat) (m8:List V):R :=
 cond (decide (x26 < x25))
 (gd (decide (0<=x26)) <|
  gd (decide (x26.toNat < x24)) <|
  gd (decide (0+x24<=m8.length)) <|
  idxK m8 (0+x26.toNat) fun v =>
  kI .i64 v fun n =>
  mfK m4 (V.int .i64 n)
 (none) fun r =>
  kP 71 r fun p =>
  idxK m0 p fun v_1 =>
  d71 v_1 fun s pins dirty first last =>
  some (.head 0 (T9_0 (if first < x5 then first else x5) x24 x25 (W .i64 (x26+1)) m0 m1 m2_1 m2_4 m3_0 m4 m5 m6 m7 z7 m8)))
 (some (.doneM (V.tup [V.int .i64 x5,V.bool true]) [O.arena 71 m0,O.arena 74 m1,O.box 61 (V.agg [V.ptr 3 0 0,V.int .i64 m2_1,V.mp 4,V.tail 5 0,V.int .i64 m2_4]) false,O.box 52 (V.agg [V.int .i64 m3_0,V.mp 6,V.tail 7 0]) false,O.map m4,O.row 3 m5 0,O.map m6,O.row 83 m7 z7,O.row 3 m8 0]))
theorem s9_0_run (x5:Int) (x24:Nat) (x25 x26:Int) (m0 m1:List V) (m2_1 m2_4 m3_0:Int) (m4:List (V × V)) (m5:List V) (m6:List (V × V)) (m7:List V) (z7:Nat) (m8:List V) {o o':Out} (h:s9_0 x5 x24 x25 x26 m0 m1 m2_1 m2_4 m3_0 m4 m5 m6 m7 z7 m8=some o) (hg:Go qk true 8 fa9 o o'):Go qk true 8 fa9 (.head 0 (T9_0 x5 x24 x25 x26 m0 m1 m2_1 m2_4 m3_0 m4 m5 m6 m7 z7 m8)) o':=.step (Eq.trans (by kernel_rfl) h) hg
noncomputable def fa10:FA:=(fnA qcfg.P (qcfg.rxf 10) 10).getD faN
theorem fa10_eq:fnA qcfg.P (qcfg.rxf 10) 10=some fa10:=fa_of (by kernel_rfl)
def T10_0 (x4:Int) (x5:Bool) (x6:Int) (m0 m1:List V) (m2_1 m2_2:Int) (m4 m5 m6:List V):S:=⟨[V.ptr 2 0 0,V.junk,V.int .i64 0,V.bool false,V.int .i64 x4,V.bool x5,V.int .i64 x6]++(JU 49),[O.arena 71 m0,O.arena 74 m1,O.box 64 (V.agg [V.ptr 3 0 0,V.int .i64 m2_1,V.int .i64 m2_2,V.tail 4 0]) false,O.box 56 (V.agg [V.tail 5 0,V.tail 6 0]) false,O.row 75 m4 0,O.row 9 m5 0,O.row 85 m6 0]⟩
noncomputable def e10 (m0 m1:List V) (m2_1 m2_2:Int) (m4 m5 m6:List V):R :=
 some (.head 0 (T10_0 0 false 0 m0 m1 m2_1 m2_2 m4 m5 m6))
theorem e10_eq (m0 m1:List V) (m2_1 m2_2:Int) (m4 m5 m6:List V):enterK qk true fa10 [V.ptr 2 0 0] [O.arena 71 m0,O.arena 74 m1,O.box 64 (V.agg [V.ptr 3 0 0,V.int .i64 m2_1,V.int .i64 m2_2,V.tail 4 0]) false,O.box 56 (V.agg [V.tail 5 0,V.tail 6 0]) false,O.row 75 m4 0,O.row 9 m5 0,O.row 85 m6 0]=e10 m0 m1 m2_1 m2_2 m4 m5 m6:=by kernel_rfl
theorem e10_run (m0 m1:List V) (m2_1 m2_2:Int) (m4 m5 m6:List V) {o:Out} {r:V × List O} (h:e10 m0 m1 m2_1 m2_2 m4 m5 m6=some o) (hg:GoN qk 7 fa10 ⟨true,false⟩ [O.arena 71 m0,O.arena 74 m1,O.box 64 (V.agg [V.ptr 3 0 0,V.int .i64 m2_1,V.int .i64 m2_2,V.tail 4 0]) false,O.box 56 (V.agg [V.tail 5 0,V.tail 6 0]) false,O.row 75 m4 0,O.row 9 m5 0,O.row 85 m6 0] o r):icC qcfg ⟨true,false⟩ 10 [V.ptr 2 0 0] [O.arena 71 m0,O.arena 74 m1,O.box 64 (V.agg [V.ptr 3 0 0,V.int .i64 m2_1,V.int .i64 m2_2,V.tail 4 0]) false,O.box 56 (V.agg [V.tail 5 0,V.tail 6 0]) false,O.row 75 m4 0,O.row 9 m5 0,O.row 85 m6 0]=some r:=icC_go qik rfl fa10_eq ((e10_eq ..).trans h) hg
noncomputable def s10_0 (x4:Int) (x5:Bool) (x6:Int) (m0 m1:List V) (m2_1 m2_2:Int) (m4 m5 m6:List V):R :=
 cond (decide (x6 < (m4.length:Int)))
 (gd (decide (0<=x6)) <|
  gd (decide (x6.toNat < m4.length)) <|
  idxK m4 (0+x6.toNat) fun v =>
  kP 74 v fun p =>
  idxK m1 p fun v_1 =>
  d74 v_1 fun page s pins dirty first last =>
  cond dirty
 (cond (!x5)
 (gd (decide (0<=x6)) <|
  gd (decide (x6.toNat < m4.length)) <|
  idxK m4 (0+x6.toNat) fun v_2 =>
  kP 74 v_2 fun p_1 =>
  idxK m1 p_1 fun v_3 =>
  d74 v_3 fun page_1 s_1 pins_1 dirty_1 first_1 last_1 =>
  some (.head 0 (T10_0 first_1 true (W .i64 (x6+1)) m0 m1 m2_1 m2_2 m4 m5 m6)))
 (gd (decide (0<=x6)) <|
  gd (decide (x6.toNat < m4.length)) <|
  idxK m4 (0+x6.toNat) fun v_4 =>
  kP 74 v_4 fun p_2 =>
  idxK m1 p_2 fun v_5 =>
  d74 v_5 fun page_2 s_2 pins_2 dirty_2 first_2 last_2 =>
  cond (decide (first_2 < x4))
 (gd (decide (0<=x6)) <|
  gd (decide (x6.toNat < m4.length)) <|
  idxK m4 (0+x6.toNat) fun v_6 =>
  kP 74 v_6 fun p_3 =>
  idxK m1 p_3 fun v_7 =>
  d74 v_7 fun page_3 s_3 pins_3 dirty_3 first_3 last_3 =>
  some (.head 0 (T10_0 first_3 true (W .i64 (x6+1)) m0 m1 m2_1 m2_2 m4 m5 m6)))
 (some (.head 0 (T10_0 x4 x5 (W .i64 (x6+1)) m0 m1 m2_1 m2_2 m4 m5 m6)))))
 (some (.head 0 (T10_0 x4 x5 (W .i64 (x6+1)) m0 m1 m2_1 m2_2 m4 m5 m6))))
 (some (.doneM (V.tup [V.int .i64 x4,V.bool x5]) [O.arena 71 m0,O.arena 74 m1,O.box 64 (V.agg [V.ptr 3 0 0,V.int .i64 m2_1,V.int .i64 m2_2,V.tail 4 0]) false,O.box 56 (V.agg [V.tail 5 0,V.tail 6 0]) false,O.row 75 m4 0,O.row 9 m5 0,O.row 85 m6 0]))
theorem s10_0_run (x4:Int) (x5:Bool) (x6:Int) (m0 m1:List V) (m2_1 m2_2:Int) (m4 m5 m6:List V) {o o':Out} (h:s10_0 x4 x5 x6 m0 m1 m2_1 m2_2 m4 m5 m6=some o) (hg:Go qk true 7 fa10 o o'):Go qk true 7 fa10 (.head 0 (T10_0 x4 x5 x6 m0 m1 m2_1 m2_2 m4 m5 m6)) o':=.step (Eq.trans (by kernel_rfl) h) hg
noncomputable def fa12:FA:=(fnA qcfg.P (qcfg.rxf 12) 12).getD faN
theorem fa12_eq:fnA qcfg.P (qcfg.rxf 12) 12=some fa12:=fa_of (by kernel_rfl)
noncomputable def e12 (m0 m1:List V) (m2_1 m2_4 m3_0:Int) (m4:List (V × V)) (m5:List V) (m6:List (V × V)) (m7:List V) (z7:Nat):R :=
 opt (keyInts m4) fun ks =>
 gd (decide (ks.length<=16777216)) <|
 some (.doneM (V.own 10) [O.arena 71 m0,O.arena 74 m1,O.box 61 (V.agg [V.ptr 3 0 0,V.int .i64 m2_1,V.mp 4,V.tail 5 0,V.int .i64 m2_4]) false,O.box 52 (V.agg [V.int .i64 m3_0,V.mp 6,V.tail 7 0]) false,O.map m4,O.row 3 m5 0,O.map m6,O.row 83 m7 z7,O.row 3 [] 0,O.box 59 (V.mp 4) false,O.row 3 ((srt ks).map iV) 0])
theorem e12_eq (m0 m1:List V) (m2_1 m2_4 m3_0:Int) (m4:List (V × V)) (m5:List V) (m6:List (V × V)) (m7:List V) (z7:Nat):enterK qk true fa12 [V.ptr 2 0 0] [O.arena 71 m0,O.arena 74 m1,O.box 61 (V.agg [V.ptr 3 0 0,V.int .i64 m2_1,V.mp 4,V.tail 5 0,V.int .i64 m2_4]) false,O.box 52 (V.agg [V.int .i64 m3_0,V.mp 6,V.tail 7 0]) false,O.map m4,O.row 3 m5 0,O.map m6,O.row 83 m7 z7]=e12 m0 m1 m2_1 m2_4 m3_0 m4 m5 m6 m7 z7:=by kernel_rfl
theorem e12_run (m0 m1:List V) (m2_1 m2_4 m3_0:Int) (m4:List (V × V)) (m5:List V) (m6:List (V × V)) (m7:List V) (z7:Nat) {o:Out} {r:V × List O} (h:e12 m0 m1 m2_1 m2_4 m3_0 m4 m5 m6 m7 z7=some o) (hg:GoN qk 8 fa12 ⟨true,false⟩ [O.arena 71 m0,O.arena 74 m1,O.box 61 (V.agg [V.ptr 3 0 0,V.int .i64 m2_1,V.mp 4,V.tail 5 0,V.int .i64 m2_4]) false,O.box 52 (V.agg [V.int .i64 m3_0,V.mp 6,V.tail 7 0]) false,O.map m4,O.row 3 m5 0,O.map m6,O.row 83 m7 z7] o r):icC qcfg ⟨true,false⟩ 12 [V.ptr 2 0 0] [O.arena 71 m0,O.arena 74 m1,O.box 61 (V.agg [V.ptr 3 0 0,V.int .i64 m2_1,V.mp 4,V.tail 5 0,V.int .i64 m2_4]) false,O.box 52 (V.agg [V.int .i64 m3_0,V.mp 6,V.tail 7 0]) false,O.map m4,O.row 3 m5 0,O.map m6,O.row 83 m7 z7]=some r:=icC_go qik rfl fa12_eq ((e12_eq ..).trans h) hg
noncomputable def fa13:FA:=(fnA qcfg.P (qcfg.rxf 13) 13).getD faN
theorem fa13_eq:fnA qcfg.P (qcfg.rxf 13) 13=some fa13:=fa_of (by kernel_rfl)
def T13_0 (x1:Bool) (x6:Int) (m0 m1:List V) (m2_1 m2_2:Int) (m4 m5:List V) (m6 m8:List V):S:=⟨[V.ptr 2 0 0,V.bool x1,V.junk,V.junk,V.own 7,V.own 8,V.int .i64 x6]++(JU 40),[O.arena 71 m0,O.arena 74 m1,O.box 64 (V.agg [V.ptr 3 0 0,V.int .i64 m2_1,V.int .i64 m2_2,V.tail 4 0]) false,O.box 56 (V.agg [V.tail 5 0,V.tail 6 0]) false,O.row 75 m4 0,O.row 9 m5 0,O.row 85 m6 0,O.row 3 [] 0,O.row 3 m8 0]⟩
noncomputable def e13 (x1:Bool) (m0 m1:List V) (m2_1 m2_2:Int) (m4 m5 m6:List V):R :=
 some (.head 0 (T13_0 x1 0 m0 m1 m2_1 m2_2 m4 m5 m6 []))
theorem e13_eq (x1:Bool) (m0 m1:List V) (m2_1 m2_2:Int) (m4 m5 m6:List V):enterK qk true fa13 [V.ptr 2 0 0,V.bool x1] [O.arena 71 m0,O.arena 74 m1,O.box 64 (V.agg [V.ptr 3 0 0,V.int .i64 m2_1,V.int .i64 m2_2,V.tail 4 0]) false,O.box 56 (V.agg [V.tail 5 0,V.tail 6 0]) false,O.row 75 m4 0,O.row 9 m5 0,O.row 85 m6 0]=e13 x1 m0 m1 m2_1 m2_2 m4 m5 m6:=by kernel_rfl
theorem e13_run (x1:Bool) (m0 m1:List V) (m2_1 m2_2:Int) (m4 m5 m6:List V) {o:Out} {r:V × List O} (h:e13 x1 m0 m1 m2_1 m2_2 m4 m5 m6=some o) (hg:GoN qk 7 fa13 ⟨true,true⟩ [O.arena 71 m0,O.arena 74 m1,O.box 64 (V.agg [V.ptr 3 0 0,V.int .i64 m2_1,V.int .i64 m2_2,V.tail 4 0]) false,O.box 56 (V.agg [V.tail 5 0,V.tail 6 0]) false,O.row 75 m4 0,O.row 9 m5 0,O.row 85 m6 0] o r):icC qcfg ⟨true,true⟩ 13 [V.ptr 2 0 0,V.bool x1] [O.arena 71 m0,O.arena 74 m1,O.box 64 (V.agg [V.ptr 3 0 0,V.int .i64 m2_1,V.int .i64 m2_2,V.tail 4 0]) false,O.box 56 (V.agg [V.tail 5 0,V.tail 6 0]) false,O.row 75 m4 0,O.row 9 m5 0,O.row 85 m6 0]=some r:=icC_go qik rfl fa13_eq ((e13_eq ..).trans h) hg
noncomputable def s13_0 (x1:Bool) (x6:Int) (m0 m1:List V) (m2_1 m2_2:Int) (m4 m5:List V) (m6 m8:List V):R :=
 cond (decide (x6 < (m5.length:Int)))
 (icR qcfg ⟨true,false⟩ mk34 34 [V.ptr 2 0 0,V.int .i64 x6] [O.arena 71 m0,O.arena 74 m1,O.box 64 (V.agg [V.ptr 3 0 0,V.int .i64 m2_1,V.int .i64 m2_2,V.tail 4 0]) false,O.box 56 (V.agg [V.tail 5 0,V.tail 6 0]) false,O.row 75 m4 0,O.row 9 m5 0,O.row 85 m6 0] fun L =>
  gdS [O.arena 71 m0,O.arena 74 m1,O.box 64 (V.agg [V.ptr 3 0 0,V.int .i64 m2_1,V.int .i64 m2_2,V.tail 4 0]) false,O.box 56 (V.agg [V.tail 5 0,V.tail 6 0]) false,O.row 75 m4 0,O.row 9 m5 0,O.row 85 m6 0,O.row 3 [] 0,O.row 3 m8 0] <|
  cond (decide (L ≥ 0))
 (cond (!x1)
 (gd (decide (m8.length+([V.int .i64 x6]:List V).length<=16777216)) <|
  some (.head 0 (T13_0 x1 (W .i64 (x6+1)) m0 m1 m2_1 m2_2 m4 m5 m6 (m8++[V.int .i64 x6]))))
 (gd (decide (0<=L)) <|
  gd (decide (L.toNat < m4.length)) <|
  idxK m4 (0+L.toNat) fun v =>
  kP 74 v fun p =>
  idxK m1 p fun v_1 =>
  d74 v_1 fun page s pins dirty first last =>
  cond dirty
 (gd (decide (m8.length+([V.int .i64 x6]:List V).length<=16777216)) <|
  some (.head 0 (T13_0 x1 (W .i64 (x6+1)) m0 m1 m2_1 m2_2 m4 m5 m6 (m8++[V.int .i64 x6]))))
 (some (.head 0 (T13_0 x1 (W .i64 (x6+1)) m0 m1 m2_1 m2_2 m4 m5 m6 m8)))))
 (some (.head 0 (T13_0 x1 (W .i64 (x6+1)) m0 m1 m2_1 m2_2 m4 m5 m6 m8))))
 (some (.doneM (V.own 8) [O.arena 71 m0,O.arena 74 m1,O.box 64 (V.agg [V.ptr 3 0 0,V.int .i64 m2_1,V.int .i64 m2_2,V.tail 4 0]) false,O.box 56 (V.agg [V.tail 5 0,V.tail 6 0]) false,O.row 75 m4 0,O.row 9 m5 0,O.row 85 m6 0,O.row 3 [] 0,O.row 3 m8 0]))
theorem s13_0_run (x1:Bool) (x6:Int) (m0 m1:List V) (m2_1 m2_2:Int) (m4 m5:List V) (m6 m8:List V) {o o':Out} (h:s13_0 x1 x6 m0 m1 m2_1 m2_2 m4 m5 m6 m8=some o) (hg:Go qk true 7 fa13 o o'):Go qk true 7 fa13 (.head 0 (T13_0 x1 x6 m0 m1 m2_1 m2_2 m4 m5 m6 m8)) o':=.step (Eq.trans (by kernel_rfl) h) hg
noncomputable def fa14:FA:=(fnA qcfg.P (qcfg.rxf 14) 14).getD faN
theorem fa14_eq:fnA qcfg.P (qcfg.rxf 14) 14=some fa14:=fa_of (by kernel_rfl)
noncomputable def e14 (m0 m1:List V) (m2_1 m2_4 m3_0:Int) (m4:List (V × V)) (m5:List V) (m6:List (V × V)) (m7:List V) (z7:Nat):R :=
 icM qcfg ⟨true,false⟩ mk12 12 [V.ptr 2 0 0] [O.arena 71 m0,O.arena 74 m1,O.box 61 (V.agg [V.ptr 3 0 0,V.int .i64 m2_1,V.mp 4,V.tail 5 0,V.int .i64 m2_4]) false,O.box 52 (V.agg [V.int .i64 m3_0,V.mp 6,V.tail 7 0]) false,O.map m4,O.row 3 m5 0,O.map m6,O.row 83 m7 z7] fun L =>
 icM qcfg ⟨true,true⟩ mk35 35 [V.own 2,V.fn 36 [V.ptr 3 0 0]] [O.arena 71 L.1,O.arena 74 L.2.1,O.row 3 L.2.2.2.2.2.2.2.2.2.2 0,O.box 30 (V.ptr 4 0 0) false,O.box 61 (V.agg [V.ptr 5 0 0,V.int .i64 L.2.2.1,V.mp 6,V.tail 7 0,V.int .i64 L.2.2.2.1]) false,O.box 52 (V.agg [V.int .i64 L.2.2.2.2.1,V.mp 8,V.tail 9 0]) false,O.map L.2.2.2.2.2.1,O.row 3 L.2.2.2.2.2.2.1 0,O.map L.2.2.2.2.2.2.2.1,O.row 83 L.2.2.2.2.2.2.2.2.1 L.2.2.2.2.2.2.2.2.2.1] fun L_1 =>
 some (.doneM (V.win 10 0 L_1.1) [O.arena 71 L_1.2.1,O.arena 74 L_1.2.2.1,O.box 61 (V.agg [V.ptr 3 0 0,V.int .i64 L_1.2.2.2.2.1,V.mp 4,V.tail 5 0,V.int .i64 L_1.2.2.2.2.2.1]) false,O.box 52 (V.agg [V.int .i64 L_1.2.2.2.2.2.2.1,V.mp 6,V.tail 7 0]) false,O.map L_1.2.2.2.2.2.2.2.1,O.row 3 L_1.2.2.2.2.2.2.2.2.1 0,O.map L_1.2.2.2.2.2.2.2.2.2.1,O.row 83 L_1.2.2.2.2.2.2.2.2.2.2.1 L_1.2.2.2.2.2.2.2.2.2.2.2,O.box 30 (V.ptr 2 0 0) false,O.row 3 [] 0,O.row 3 L_1.2.2.2.1 0])
theorem e14_eq (m0 m1:List V) (m2_1 m2_4 m3_0:Int) (m4:List (V × V)) (m5:List V) (m6:List (V × V)) (m7:List V) (z7:Nat):enterK qk true fa14 [V.ptr 2 0 0] [O.arena 71 m0,O.arena 74 m1,O.box 61 (V.agg [V.ptr 3 0 0,V.int .i64 m2_1,V.mp 4,V.tail 5 0,V.int .i64 m2_4]) false,O.box 52 (V.agg [V.int .i64 m3_0,V.mp 6,V.tail 7 0]) false,O.map m4,O.row 3 m5 0,O.map m6,O.row 83 m7 z7]=e14 m0 m1 m2_1 m2_4 m3_0 m4 m5 m6 m7 z7:=by kernel_rfl
theorem e14_run (m0 m1:List V) (m2_1 m2_4 m3_0:Int) (m4:List (V × V)) (m5:List V) (m6:List (V × V)) (m7:List V) (z7:Nat) {o:Out} {r:V × List O} (h:e14 m0 m1 m2_1 m2_4 m3_0 m4 m5 m6 m7 z7=some o) (hg:GoN qk 8 fa14 ⟨true,true⟩ [O.arena 71 m0,O.arena 74 m1,O.box 61 (V.agg [V.ptr 3 0 0,V.int .i64 m2_1,V.mp 4,V.tail 5 0,V.int .i64 m2_4]) false,O.box 52 (V.agg [V.int .i64 m3_0,V.mp 6,V.tail 7 0]) false,O.map m4,O.row 3 m5 0,O.map m6,O.row 83 m7 z7] o r):icC qcfg ⟨true,true⟩ 14 [V.ptr 2 0 0] [O.arena 71 m0,O.arena 74 m1,O.box 61 (V.agg [V.ptr 3 0 0,V.int .i64 m2_1,V.mp 4,V.tail 5 0,V.int .i64 m2_4]) false,O.box 52 (V.agg [V.int .i64 m3_0,V.mp 6,V.tail 7 0]) false,O.map m4,O.row 3 m5 0,O.map m6,O.row 83 m7 z7]=some r:=icC_go qik rfl fa14_eq ((e14_eq ..).trans h) hg
noncomputable def fa15:FA:=(fnA qcfg.P (qcfg.rxf 15) 15).getD faN
theorem fa15_eq:fnA qcfg.P (qcfg.rxf 15) 15=some fa15:=fa_of (by kernel_rfl)
noncomputable def e15 (x1:Int) (m0 m1:List V) (m2_1 m2_4 m3_0:Int) (m4:List (V × V)) (m5:List V) (m6:List (V × V)) (m7:List V) (z7:Nat):R :=
 mfK m4 (V.int .i64 x1)
 (some (.doneM (V.int .i64 0) [O.arena 71 m0,O.arena 74 m1,O.box 61 (V.agg [V.ptr 3 0 0,V.int .i64 m2_1,V.mp 4,V.tail 5 0,V.int .i64 m2_4]) false,O.box 52 (V.agg [V.int .i64 m3_0,V.mp 6,V.tail 7 0]) false,O.map m4,O.row 3 m5 0,O.map m6,O.row 83 m7 z7])) fun r =>
  kP 71 r fun p =>
  mfK m4 (V.int .i64 x1)
 (none) fun r_1 =>
  kP 71 r_1 fun p_1 =>
  idxK m0 p_1 fun v =>
  d71 v fun s pins dirty first last =>
  some (.doneM (V.int .i64 pins) [O.arena 71 m0,O.arena 74 m1,O.box 61 (V.agg [V.ptr 3 0 0,V.int .i64 m2_1,V.mp 4,V.tail 5 0,V.int .i64 m2_4]) false,O.box 52 (V.agg [V.int .i64 m3_0,V.mp 6,V.tail 7 0]) false,O.map m4,O.row 3 m5 0,O.map m6,O.row 83 m7 z7])
theorem e15_eq (x1:Int) (m0 m1:List V) (m2_1 m2_4 m3_0:Int) (m4:List (V × V)) (m5:List V) (m6:List (V × V)) (m7:List V) (z7:Nat):enterK qk true fa15 [V.ptr 2 0 0,V.int .i64 x1] [O.arena 71 m0,O.arena 74 m1,O.box 61 (V.agg [V.ptr 3 0 0,V.int .i64 m2_1,V.mp 4,V.tail 5 0,V.int .i64 m2_4]) false,O.box 52 (V.agg [V.int .i64 m3_0,V.mp 6,V.tail 7 0]) false,O.map m4,O.row 3 m5 0,O.map m6,O.row 83 m7 z7]=e15 x1 m0 m1 m2_1 m2_4 m3_0 m4 m5 m6 m7 z7:=by kernel_rfl
theorem e15_run (x1:Int) (m0 m1:List V) (m2_1 m2_4 m3_0:Int) (m4:List (V × V)) (m5:List V) (m6:List (V × V)) (m7:List V) (z7:Nat) {o:Out} {r:V × List O} (h:e15 x1 m0 m1 m2_1 m2_4 m3_0 m4 m5 m6 m7 z7=some o) (hg:GoN qk 8 fa15 ⟨true,false⟩ [O.arena 71 m0,O.arena 74 m1,O.box 61 (V.agg [V.ptr 3 0 0,V.int .i64 m2_1,V.mp 4,V.tail 5 0,V.int .i64 m2_4]) false,O.box 52 (V.agg [V.int .i64 m3_0,V.mp 6,V.tail 7 0]) false,O.map m4,O.row 3 m5 0,O.map m6,O.row 83 m7 z7] o r):icC qcfg ⟨true,false⟩ 15 [V.ptr 2 0 0,V.int .i64 x1] [O.arena 71 m0,O.arena 74 m1,O.box 61 (V.agg [V.ptr 3 0 0,V.int .i64 m2_1,V.mp 4,V.tail 5 0,V.int .i64 m2_4]) false,O.box 52 (V.agg [V.int .i64 m3_0,V.mp 6,V.tail 7 0]) false,O.map m4,O.row 3 m5 0,O.map m6,O.row 83 m7 z7]=some r:=icC_go qik rfl fa15_eq ((e15_eq ..).trans h) hg
noncomputable def fa16:FA:=(fnA qcfg.P (qcfg.rxf 16) 16).getD faN
theorem fa16_eq:fnA qcfg.P (qcfg.rxf 16) 16=some fa16:=fa_of (by kernel_rfl)
noncomputable def e16 (x1:Int) (m0 m1:List V) (m2_1 m2_2:Int) (m4 m5 m6:List V):R :=
 icR qcfg ⟨true,false⟩ mk34 34 [V.ptr 2 0 0,V.int .i64 x1] [O.arena 71 m0,O.arena 74 m1,O.box 64 (V.agg [V.ptr 3 0 0,V.int .i64 m2_1,V.int .i64 m2_2,V.tail 4 0]) false,O.box 56 (V.agg [V.tail 5 0,V.tail 6 0]) false,O.row 75 m4 0,O.row 9 m5 0,O.row 85 m6 0] fun L =>
 gdS [O.arena 71 m0,O.arena 74 m1,O.box 64 (V.agg [V.ptr 3 0 0,V.int .i64 m2_1,V.int .i64 m2_2,V.tail 4 0]) false,O.box 56 (V.agg [V.tail 5 0,V.tail 6 0]) false,O.row 75 m4 0,O.row 9 m5 0,O.row 85 m6 0] <|
 cond (decide (L < 0))
 (some (.doneM (V.int .i64 0) [O.arena 71 m0,O.arena 74 m1,O.box 64 (V.agg [V.ptr 3 0 0,V.int .i64 m2_1,V.int .i64 m2_2,V.tail 4 0]) false,O.box 56 (V.agg [V.tail 5 0,V.tail 6 0]) false,O.row 75 m4 0,O.row 9 m5 0,O.row 85 m6 0]))
 (gd (decide (0<=L)) <|
  gd (decide (L.toNat < m4.length)) <|
  idxK m4 (0+L.toNat) fun v =>
  kP 74 v fun p =>
  idxK m1 p fun v_1 =>
  d74 v_1 fun page s pins dirty first last =>
  some (.doneM (V.int .i64 pins) [O.arena 71 m0,O.arena 74 m1,O.box 64 (V.agg [V.ptr 3 0 0,V.int .i64 m2_1,V.int .i64 m2_2,V.tail 4 0]) false,O.box 56 (V.agg [V.tail 5 0,V.tail 6 0]) false,O.row 75 m4 0,O.row 9 m5 0,O.row 85 m6 0]))
theorem e16_eq (x1:Int) (m0 m1:List V) (m2_1 m2_2:Int) (m4 m5 m6:List V):enterK qk true fa16 [V.ptr 2 0 0,V.int .i64 x1] [O.arena 71 m0,O.arena 74 m1,O.box 64 (V.agg [V.ptr 3 0 0,V.int .i64 m2_1,V.int .i64 m2_2,V.tail 4 0]) false,O.box 56 (V.agg [V.tail 5 0,V.tail 6 0]) false,O.row 75 m4 0,O.row 9 m5 0,O.row 85 m6 0]=e16 x1 m0 m1 m2_1 m2_2 m4 m5 m6:=by kernel_rfl
theorem e16_run (x1:Int) (m0 m1:List V) (m2_1 m2_2:Int) (m4 m5 m6:List V) {o:Out} {r:V × List O} (h:e16 x1 m0 m1 m2_1 m2_2 m4 m5 m6=some o) (hg:GoN qk 7 fa16 ⟨true,false⟩ [O.arena 71 m0,O.arena 74 m1,O.box 64 (V.agg [V.ptr 3 0 0,V.int .i64 m2_1,V.int .i64 m2_2,V.tail 4 0]) false,O.box 56 (V.agg [V.tail 5 0,V.tail 6 0]) false,O.row 75 m4 0,O.row 9 m5 0,O.row 85 m6 0] o r):icC qcfg ⟨true,false⟩ 16 [V.ptr 2 0 0,V.int .i64 x1] [O.arena 71 m0,O.arena 74 m1,O.box 64 (V.agg [V.ptr 3 0 0,V.int .i64 m2_1,V.int .i64 m2_2,V.tail 4 0]) false,O.box 56 (V.agg [V.tail 5 0,V.tail 6 0]) false,O.row 75 m4 0,O.row 9 m5 0,O.row 85 m6 0]=some r:=icC_go qik rfl fa16_eq ((e16_eq ..).trans h) hg
noncomputable def fa17:FA:=(fnA qcfg.P (qcfg.rxf 17) 17).getD faN
theorem fa17_eq:fnA qcfg.P (qcfg.rxf 17) 17=some fa17:=fa_of (by kernel_rfl)
def T17_0 (x10 x11:Int) (m0 m1:List V) (m2_0:Int) (m3:List (V × V)) (m4:List V) (z4:Nat) (m6:List V):S:=⟨[V.junk,V.junk,V.own 5,V.own 6]++(JU 5)++[V.tail 4 0,V.int .i64 x10,V.int .i64 x11]++(JU 10),[O.arena 71 m0,O.arena 74 m1,O.box 52 (V.agg [V.int .i64 m2_0,V.mp 3,V.tail 4 0]) false,O.map m3,O.row 83 m4 z4,O.row 3 [] 0,O.row 3 m6 0]⟩
noncomputable def e17 (m0 m1:List V) (m2_0:Int) (m3:List (V × V)) (m4:List V) (z4:Nat):R :=
 some (.head 0 (T17_0 (m4.length:Int) 0 m0 m1 m2_0 m3 m4 z4 []))
theorem e17_eq (m0 m1:List V) (m2_0:Int) (m3:List (V × V)) (m4:List V) (z4:Nat):enterK qk true fa17 [V.ptr 2 0 0] [O.arena 71 m0,O.arena 74 m1,O.box 52 (V.agg [V.int .i64 m2_0,V.mp 3,V.tail 4 0]) false,O.map m3,O.row 83 m4 z4]=e17 m0 m1 m2_0 m3 m4 z4:=by kernel_rfl
theorem e17_run (m0 m1:List V) (m2_0:Int) (m3:List (V × V)) (m4:List V) (z4:Nat) {o:Out} {r:V × List O} (h:e17 m0 m1 m2_0 m3 m4 z4=some o) (hg:GoN qk 5 fa17 ⟨true,true⟩ [O.arena 71 m0,O.arena 74 m1,O.box 52 (V.agg [V.int .i64 m2_0,V.mp 3,V.tail 4 0]) false,O.map m3,O.row 83 m4 z4] o r):icC qcfg ⟨true,true⟩ 17 [V.ptr 2 0 0] [O.arena 71 m0,O.arena 74 m1,O.box 52 (V.agg [V.int .i64 m2_0,V.mp 3,V.tail 4 0]) false,O.map m3,O.row 83 m4 z4]=some r:=icC_go qik rfl fa17_eq ((e17_eq ..).trans h) hg
noncomputable def s17_0 (x10 x11:Int) (m0 m1:List V) (m2_0:Int) (m3:List (V × V)) (m4:List V) (z4:Nat) (m6:List V):R :=
 cond (decide (x11 < x10))
 (gd (decide (0<=x11)) <|
  gd (decide (x11.toNat < m4.length)) <|
  idxK m4 (0+x11.toNat) fun v =>
  d83 v fun page raw =>
  gd (decide (m6.length+([V.int .i64 page]:List V).length<=16777216)) <|
  some (.head 0 (T17_0 x10 (W .i64 (x11+1)) m0 m1 m2_0 m3 m4 z4 (m6++[V.int .i64 page]))))
 (some (.doneM (V.own 6) [O.arena 71 m0,O.arena 74 m1,O.box 52 (V.agg [V.int .i64 m2_0,V.mp 3,V.tail 4 0]) false,O.map m3,O.row 83 m4 z4,O.row 3 [] 0,O.row 3 m6 0]))
theorem s17_0_run (x10 x11:Int) (m0 m1:List V) (m2_0:Int) (m3:List (V × V)) (m4:List V) (z4:Nat) (m6:List V) {o o':Out} (h:s17_0 x10 x11 m0 m1 m2_0 m3 m4 z4 m6=some o) (hg:Go qk true 5 fa17 o o'):Go qk true 5 fa17 (.head 0 (T17_0 x10 x11 m0 m1 m2_0 m3 m4 z4 m6)) o':=.step (Eq.trans (by kernel_rfl) h) hg
noncomputable def fa18:FA:=(fnA qcfg.P (qcfg.rxf 18) 18).getD faN
theorem fa18_eq:fnA qcfg.P (qcfg.rxf 18) 18=some fa18:=fa_of (by kernel_rfl)
def T18_0 (x4:Int) (m0 m1:List V) (m3 m4 m6:List V):S:=⟨[V.ptr 2 0 0,V.junk,V.own 5,V.own 6,V.int .i64 x4]++(JU 22),[O.arena 71 m0,O.arena 74 m1,O.box 56 (V.agg [V.tail 3 0,V.tail 4 0]) false,O.row 9 m3 0,O.row 85 m4 0,O.row 3 [] 0,O.row 3 m6 0]⟩
noncomputable def e18 (m0 m1:List V) (m3 m4:List V):R :=
 some (.head 0 (T18_0 0 m0 m1 m3 m4 []))
theorem e18_eq (m0 m1:List V) (m3 m4:List V):enterK qk true fa18 [V.ptr 2 0 0] [O.arena 71 m0,O.arena 74 m1,O.box 56 (V.agg [V.tail 3 0,V.tail 4 0]) false,O.row 9 m3 0,O.row 85 m4 0]=e18 m0 m1 m3 m4:=by kernel_rfl
theorem e18_run (m0 m1:List V) (m3 m4:List V) {o:Out} {r:V × List O} (h:e18 m0 m1 m3 m4=some o) (hg:GoN qk 5 fa18 ⟨true,true⟩ [O.arena 71 m0,O.arena 74 m1,O.box 56 (V.agg [V.tail 3 0,V.tail 4 0]) false,O.row 9 m3 0,O.row 85 m4 0] o r):icC qcfg ⟨true,true⟩ 18 [V.ptr 2 0 0] [O.arena 71 m0,O.arena 74 m1,O.box 56 (V.agg [V.tail 3 0,V.tail 4 0]) false,O.row 9 m3 0,O.row 85 m4 0]=some r:=icC_go qik rfl fa18_eq ((e18_eq ..).trans h) hg
noncomputable def s18_0 (x4:Int) (m0 m1:List V) (m3 m4 m6:List V):R :=
 cond (decide (x4 < (m4.length:Int)))
 (gd (decide (0<=x4)) <|
  gd (decide (x4.toNat < m4.length)) <|
  idxK m4 (0+x4.toNat) fun v =>
  d85 v fun page raw =>
  gd (decide (m6.length+([V.int .i64 page]:List V).length<=16777216)) <|
  some (.head 0 (T18_0 (W .i64 (x4+1)) m0 m1 m3 m4 (m6++[V.int .i64 page]))))
 (some (.doneM (V.own 6) [O.arena 71 m0,O.arena 74 m1,O.box 56 (V.agg [V.tail 3 0,V.tail 4 0]) false,O.row 9 m3 0,O.row 85 m4 0,O.row 3 [] 0,O.row 3 m6 0]))
theorem s18_0_run (x4:Int) (m0 m1:List V) (m3 m4 m6:List V) {o o':Out} (h:s18_0 x4 m0 m1 m3 m4 m6=some o) (hg:Go qk true 5 fa18 o o'):Go qk true 5 fa18 (.head 0 (T18_0 x4 m0 m1 m3 m4 m6)) o':=.step (Eq.trans (by kernel_rfl) h) hg
noncomputable def fa19:FA:=(fnA qcfg.P (qcfg.rxf 19) 19).getD faN
theorem fa19_eq:fnA qcfg.P (qcfg.rxf 19) 19=some fa19:=fa_of (by kernel_rfl)
def T19_0 (x15 m0 m1:List V) (m2_0:Int) (m3:List (V × V)) (m4:List V) (z4:Nat) (m5:Int):S:=⟨[V.ptr 2 0 0,V.junk,V.junk,V.ptr 5 0 0,V.ptr 6 0 0]++(JU 10)++[V.rest [3,83] x15]++(JU 11),[O.arena 71 m0,O.arena 74 m1,O.box 52 (V.agg [V.int .i64 m2_0,V.mp 3,V.tail 4 0]) false,O.map m3,O.row 83 m4 z4,O.box 3 (V.int .i64 m5) false,O.box 9 (V.str []) false]⟩
noncomputable def e19 (x1:Int) (m0 m1:List V) (m2_0:Int) (m3:List (V × V)) (m4:List V) (z4:Nat):R :=
 cond (decide (x1 ≥ 0))
 (cond (!(decide (x1 < m2_0)))
 (some (.doneM (V.str []) [O.arena 71 m0,O.arena 74 m1,O.box 52 (V.agg [V.int .i64 m2_0,V.mp 3,V.tail 4 0]) false,O.map m3,O.row 83 m4 z4,O.box 3 (V.int .i64 x1) false,O.box 9 (V.str []) false]))
 (opt (backP [V.ref (V.sl m4) 0]) fun rs =>
  some (.head 0 (T19_0 (rs.map V.tup) m0 m1 m2_0 m3 m4 m4.length x1))))
 (some (.doneM (V.str []) [O.arena 71 m0,O.arena 74 m1,O.box 52 (V.agg [V.int .i64 m2_0,V.mp 3,V.tail 4 0]) false,O.map m3,O.row 83 m4 z4,O.box 3 (V.int .i64 x1) false,O.box 9 (V.str []) false]))
theorem e19_eq (x1:Int) (m0 m1:List V) (m2_0:Int) (m3:List (V × V)) (m4:List V) (z4:Nat):enterK qk true fa19 [V.ptr 2 0 0,V.int .i64 x1] [O.arena 71 m0,O.arena 74 m1,O.box 52 (V.agg [V.int .i64 m2_0,V.mp 3,V.tail 4 0]) false,O.map m3,O.row 83 m4 z4]=e19 x1 m0 m1 m2_0 m3 m4 z4:=by kernel_rfl
theorem e19_run (x1:Int) (m0 m1:List V) (m2_0:Int) (m3:List (V × V)) (m4:List V) (z4:Nat) {o:Out} {r:V × List O} (h:e19 x1 m0 m1 m2_0 m3 m4 z4=some o) (hg:GoN qk 5 fa19 ⟨true,false⟩ [O.arena 71 m0,O.arena 74 m1,O.box 52 (V.agg [V.int .i64 m2_0,V.mp 3,V.tail 4 0]) false,O.map m3,O.row 83 m4 z4] o r):icC qcfg ⟨true,false⟩ 19 [V.ptr 2 0 0,V.int .i64 x1] [O.arena 71 m0,O.arena 74 m1,O.box 52 (V.agg [V.int .i64 m2_0,V.mp 3,V.tail 4 0]) false,O.map m3,O.row 83 m4 z4]=some r:=icC_go qik rfl fa19_eq ((e19_eq ..).trans h) hg
noncomputable def s19_0 (x15 m0 m1:List V) (m2_0:Int) (m3:List (V × V)) (m4:List V) (z4:Nat) (m5:Int):R :=
 restK x15
 (mfK m3 (V.int .i64 m5)
 (pcK qcfg 61 [] fun r_1 =>
  kS r_1 fun r61 =>
  some (.doneM (V.str r61) [O.arena 71 m0,O.arena 74 m1,O.box 52 (V.agg [V.int .i64 m2_0,V.mp 3,V.tail 4 0]) false,O.map m3,O.row 83 m4 z4,O.box 3 (V.int .i64 m5) false,O.box 9 (V.str r61) false])) fun r =>
  kS r fun s =>
  some (.doneM (V.str s) [O.arena 71 m0,O.arena 74 m1,O.box 52 (V.agg [V.int .i64 m2_0,V.mp 3,V.tail 4 0]) false,O.map m3,O.row 83 m4 z4,O.box 3 (V.int .i64 m5) false,O.box 9 (V.str s) false])) fun x0 l =>
  kT x0 fun vs=>unc vs fun c vs=>kI .i64 c fun n =>
  unc vs fun c_1 vs=>d83 c_1 fun page raw =>
  unn vs<|cond (page==m5)
 (some (.doneM (V.str raw) [O.arena 71 m0,O.arena 74 m1,O.box 52 (V.agg [V.int .i64 m2_0,V.mp 3,V.tail 4 0]) false,O.map m3,O.row 83 m4 z4,O.box 3 (V.int .i64 m5) false,O.box 9 (V.str raw) false]))
 (some (.head 0 (T19_0 l m0 m1 m2_0 m3 m4 z4 m5)))
theorem s19_0_run (x15 m0 m1:List V) (m2_0:Int) (m3:List (V × V)) (m4:List V) (z4:Nat) (m5:Int) {o o':Out} (h:s19_0 x15 m0 m1 m2_0 m3 m4 z4 m5=some o) (hg:Go qk true 5 fa19 o o'):Go qk true 5 fa19 (.head 0 (T19_0 x15 m0 m1 m2_0 m3 m4 z4 m5)) o':=.step (Eq.trans (by kernel_rfl) h) hg
noncomputable def fa20:FA:=(fnA qcfg.P (qcfg.rxf 20) 20).getD faN
theorem fa20_eq:fnA qcfg.P (qcfg.rxf 20) 20=some fa20:=fa_of (by kernel_rfl)
def T20_0 (x1:Int) (x5:List UInt8) (x6:Int) (m0 m1:List V) (m3 m4:List V):S:=⟨[V.ptr 2 0 0,V.int .i64 x1,V.junk,V.junk,V.str [],V.str x5,V.int .i64 x6]++(JU 46),[O.arena 71 m0,O.arena 74 m1,O.box 56 (V.agg [V.tail 3 0,V.tail 4 0]) false,O.row 9 m3 0,O.row 85 m4 0]⟩
noncomputable def e20 (x1:Int) (m0 m1:List V) (m3 m4:List V):R :=
 cond (decide (x1 < 0))
 (some (.doneM (V.str []) [O.arena 71 m0,O.arena 74 m1,O.box 56 (V.agg [V.tail 3 0,V.tail 4 0]) false,O.row 9 m3 0,O.row 85 m4 0]))
 (cond (decide (x1 ≥ (m3.length:Int)))
 (some (.doneM (V.str []) [O.arena 71 m0,O.arena 74 m1,O.box 56 (V.agg [V.tail 3 0,V.tail 4 0]) false,O.row 9 m3 0,O.row 85 m4 0]))
 (gd (decide (0<=x1)) <|
  gd (decide (x1.toNat < m3.length)) <|
  idxK m3 (0+x1.toNat) fun v =>
  kS v fun s =>
  some (.head 0 (T20_0 x1 s 0 m0 m1 m3 m4))))
theorem e20_eq (x1:Int) (m0 m1:List V) (m3 m4:List V):enterK qk true fa20 [V.ptr 2 0 0,V.int .i64 x1] [O.arena 71 m0,O.arena 74 m1,O.box 56 (V.agg [V.tail 3 0,V.tail 4 0]) false,O.row 9 m3 0,O.row 85 m4 0]=e20 x1 m0 m1 m3 m4:=by kernel_rfl
theorem e20_run (x1:Int) (m0 m1:List V) (m3 m4:List V) {o:Out} {r:V × List O} (h:e20 x1 m0 m1 m3 m4=some o) (hg:GoN qk 5 fa20 ⟨true,false⟩ [O.arena 71 m0,O.arena 74 m1,O.box 56 (V.agg [V.tail 3 0,V.tail 4 0]) false,O.row 9 m3 0,O.row 85 m4 0] o r):icC qcfg ⟨true,false⟩ 20 [V.ptr 2 0 0,V.int .i64 x1] [O.arena 71 m0,O.arena 74 m1,O.box 56 (V.agg [V.tail 3 0,V.tail 4 0]) false,O.row 9 m3 0,O.row 85 m4 0]=some r:=icC_go qik rfl fa20_eq ((e20_eq ..).trans h) hg
noncomputable def s20_0 (x1:Int) (x5:List UInt8) (x6:Int) (m0 m1:List V) (m3 m4:List V):R :=
 cond (decide (x6 < (m4.length:Int)))
 (gd (decide (0<=x6)) <|
  gd (decide (x6.toNat < m4.length)) <|
  idxK m4 (0+x6.toNat) fun v =>
  d85 v fun page raw =>
  cond (page==x1)
 (gd (decide (0<=x6)) <|
  gd (decide (x6.toNat < m4.length)) <|
  idxK m4 (0+x6.toNat) fun v_1 =>
  d85 v_1 fun page_1 raw_1 =>
  some (.head 0 (T20_0 x1 raw_1 (W .i64 (x6+1)) m0 m1 m3 m4)))
 (some (.head 0 (T20_0 x1 x5 (W .i64 (x6+1)) m0 m1 m3 m4))))
 (some (.doneM (V.str x5) [O.arena 71 m0,O.arena 74 m1,O.box 56 (V.agg [V.tail 3 0,V.tail 4 0]) false,O.row 9 m3 0,O.row 85 m4 0]))
theorem s20_0_run (x1:Int) (x5:List UInt8) (x6:Int) (m0 m1:List V) (m3 m4:List V) {o o':Out} (h:s20_0 x1 x5 x6 m0 m1 m3 m4=some o) (hg:Go qk true 5 fa20 o o'):Go qk true 5 fa20 (.head 0 (T20_0 x1 x5 x6 m0 m1 m3 m4)) o':=.step (Eq.trans (by kernel_rfl) h) hg
noncomputable def fa23:FA:=(fnA qcfg.P (qcfg.rxf 23) 23).getD faN
theorem fa23_eq:fnA qcfg.P (qcfg.rxf 23) 23=some fa23:=fa_of (by kernel_rfl)
noncomputable def e23 (x1:Int) (m0 m1:List V) (m2_1 m2_4 m3_0:Int) (m4:List (V × V)) (m5:List V) (m6:List (V × V)) (m7:List V) (z7:Nat):R :=
 cond (decide (x1 < 0))
 (some (.doneM (V.tup [V.str [],V.int .i64 1]) [O.arena 71 m0,O.arena 74 m1,O.box 61 (V.agg [V.ptr 3 0 0,V.int .i64 m2_1,V.mp 4,V.tail 5 0,V.int .i64 m2_4]) false,O.box 52 (V.agg [V.int .i64 m3_0,V.mp 6,V.tail 7 0]) false,O.map m4,O.row 3 m5 0,O.map m6,O.row 83 m7 z7]))
 (cond (decide (x1 ≥ m3_0))
 (some (.doneM (V.tup [V.str [],V.int .i64 1]) [O.arena 71 m0,O.arena 74 m1,O.box 61 (V.agg [V.ptr 3 0 0,V.int .i64 m2_1,V.mp 4,V.tail 5 0,V.int .i64 m2_4]) false,O.box 52 (V.agg [V.int .i64 m3_0,V.mp 6,V.tail 7 0]) false,O.map m4,O.row 3 m5 0,O.map m6,O.row 83 m7 z7]))
 (mfK m4 (V.int .i64 x1)
 (icM qcfg ⟨true,false⟩ mk40 40 [V.ptr 2 0 0,V.int .i64 x1] [O.arena 71 m0,O.arena 74 m1,O.box 52 (V.agg [V.int .i64 m3_0,V.mp 3,V.tail 4 0]) false,O.map m6,O.row 83 m7 z7] fun L =>
  cond (L.2.1 != (0:Int))
 (some (.doneM (V.tup [V.str [],V.int .i64 L.2.1]) [O.arena 71 L.2.2.1,O.arena 74 L.2.2.2.1,O.box 61 (V.agg [V.ptr 3 0 0,V.int .i64 m2_1,V.mp 4,V.tail 5 0,V.int .i64 m2_4]) false,O.box 52 (V.agg [V.int .i64 L.2.2.2.2.1,V.mp 6,V.tail 7 0]) false,O.map m4,O.row 3 m5 0,O.map L.2.2.2.2.2.1,O.row 83 L.2.2.2.2.2.2.1 L.2.2.2.2.2.2.2]))
 (icM qcfg ⟨false,false⟩ mk45 45 [V.ptr 2 0 0] [O.arena 71 L.2.2.1,O.arena 74 L.2.2.2.1,O.box 61 (V.agg [V.ptr 3 0 0,V.int .i64 m2_1,V.mp 4,V.tail 5 0,V.int .i64 m2_4]) false,O.box 52 (V.agg [V.int .i64 L.2.2.2.2.1,V.mp 6,V.tail 7 0]) false,O.map m4,O.row 3 m5 0,O.map L.2.2.2.2.2.1,O.row 83 L.2.2.2.2.2.2.1 L.2.2.2.2.2.2.2] fun L_1 =>
  cond (L_1.1 != (0:Int))
 (some (.doneM (V.tup [V.str [],V.int .i64 L_1.1]) [O.arena 71 L_1.2.1,O.arena 74 L_1.2.2.1,O.box 61 (V.agg [V.ptr 3 0 0,V.int .i64 L_1.2.2.2.1,V.mp 4,V.tail 8 0,V.int .i64 L_1.2.2.2.2.1]) false,O.box 52 (V.agg [V.int .i64 L_1.2.2.2.2.2.1,V.mp 6,V.tail 9 0]) false,O.map L_1.2.2.2.2.2.2.1,O.dead,O.map L_1.2.2.2.2.2.2.2.1,O.dead,O.row 3 L_1.2.2.2.2.2.2.2.2.1 0,O.row 83 L_1.2.2.2.2.2.2.2.2.2.1 L_1.2.2.2.2.2.2.2.2.2.2]))
 (opt (mapPut L_1.2.2.2.2.2.2.1 (V.int .i64 x1) (V.hp 71 L_1.2.1.length 0)) fun es =>
  icM qcfg ⟨false,false⟩ mk46 46 [V.ptr 2 0 0,V.int .i64 x1] [O.arena 71 (L_1.2.1++[V.agg [V.str L.1,V.int .i64 0,V.bool false,V.int .i64 0,V.int .i64 0]]),O.arena 74 L_1.2.2.1,O.box 61 (V.agg [V.ptr 3 0 0,V.int .i64 L_1.2.2.2.1,V.mp 4,V.tail 5 0,V.int .i64 L_1.2.2.2.2.1]) false,O.box 52 (V.agg [V.int .i64 L_1.2.2.2.2.2.1,V.mp 6,V.tail 7 0]) false,O.map es,O.row 3 L_1.2.2.2.2.2.2.2.2.1 0,O.map L_1.2.2.2.2.2.2.2.1,O.row 83 L_1.2.2.2.2.2.2.2.2.2.1 L_1.2.2.2.2.2.2.2.2.2.2] fun L_2 =>
  mfK L_2.2.2.2.2.2.1 (V.int .i64 x1)
 (none) fun r_1 =>
  kP 71 r_1 fun p =>
  idxK L_2.1 p fun v =>
  d71 v fun s pins dirty first last =>
  idxK L_2.1 p fun v_1 =>
  d71 v_1 fun s_1 pins_1 dirty_1 first_1 last_1 =>
  mfK L_2.2.2.2.2.2.1 (V.int .i64 x1)
 (none) fun r_2 =>
  kP 71 r_2 fun p_1 =>
  idxK ((L_2.1).set p (V.agg [V.str s_1,V.int .i64 (W .i64 (pins+1)),V.bool dirty_1,V.int .i64 first_1,V.int .i64 last_1])) p_1 fun v_2 =>
  d71 v_2 fun s_2 pins_2 dirty_2 first_2 last_2 =>
  some (.doneM (V.tup [V.str s_2,V.int .i64 0]) [O.arena 71 ((L_2.1).set p (V.agg [V.str s_1,V.int .i64 (W .i64 (pins+1)),V.bool dirty_1,V.int .i64 first_1,V.int .i64 last_1])),O.arena 74 L_2.2.1,O.box 61 (V.agg [V.ptr 3 0 0,V.int .i64 L_2.2.2.1,V.mp 4,V.tail 10 0,V.int .i64 L_2.2.2.2.1]) false,O.box 52 (V.agg [V.int .i64 L_2.2.2.2.2.1,V.mp 6,V.tail 11 0]) false,O.map L_2.2.2.2.2.2.1,O.dead,O.map L_2.2.2.2.2.2.2.1,O.dead,O.dead,O.dead,O.row 3 L_2.2.2.2.2.2.2.2.1 0,O.row 83 L_2.2.2.2.2.2.2.2.2.1 L_2.2.2.2.2.2.2.2.2.2])))) fun r =>
  kP 71 r fun p_2 =>
  icM qcfg ⟨false,false⟩ mk46 46 [V.ptr 2 0 0,V.int .i64 x1] [O.arena 71 m0,O.arena 74 m1,O.box 61 (V.agg [V.ptr 3 0 0,V.int .i64 m2_1,V.mp 4,V.tail 5 0,V.int .i64 m2_4]) false,O.box 52 (V.agg [V.int .i64 m3_0,V.mp 6,V.tail 7 0]) false,O.map m4,O.row 3 m5 0,O.map m6,O.row 83 m7 z7] fun L_3 =>
  mfK L_3.2.2.2.2.2.1 (V.int .i64 x1)
 (none) fun r_3 =>
  kP 71 r_3 fun p_3 =>
  idxK L_3.1 p_3 fun v_3 =>
  d71 v_3 fun s_3 pins_3 dirty_3 first_3 last_3 =>
  idxK L_3.1 p_3 fun v_4 =>
  d71 v_4 fun s_4 pins_4 dirty_4 first_4 last_4 =>
  mfK L_3.2.2.2.2.2.1 (V.int .i64 x1)
 (none) fun r_4 =>
  kP 71 r_4 fun p_4 =>
  idxK ((L_3.1).set p_3 (V.agg [V.str s_4,V.int .i64 (W .i64 (pins_3+1)),V.bool dirty_4,V.int .i64 first_4,V.int .i64 last_4])) p_4 fun v_5 =>
  d71 v_5 fun s_5 pins_5 dirty_5 first_5 last_5 =>
  some (.doneM (V.tup [V.str s_5,V.int .i64 0]) [O.arena 71 ((L_3.1).set p_3 (V.agg [V.str s_4,V.int .i64 (W .i64 (pins_3+1)),V.bool dirty_4,V.int .i64 first_4,V.int .i64 last_4])),O.arena 74 L_3.2.1,O.box 61 (V.agg [V.ptr 3 0 0,V.int .i64 L_3.2.2.1,V.mp 4,V.tail 8 0,V.int .i64 L_3.2.2.2.1]) false,O.box 52 (V.agg [V.int .i64 L_3.2.2.2.2.1,V.mp 6,V.tail 9 0]) false,O.map L_3.2.2.2.2.2.1,O.dead,O.map L_3.2.2.2.2.2.2.1,O.dead,O.row 3 L_3.2.2.2.2.2.2.2.1 0,O.row 83 L_3.2.2.2.2.2.2.2.2.1 L_3.2.2.2.2.2.2.2.2.2])))
theorem e23_eq (x1:Int) (m0 m1:List V) (m2_1 m2_4 m3_0:Int) (m4:List (V × V)) (m5:List V) (m6:List (V × V)) (m7:List V) (z7:Nat):enterK qk true fa23 [V.ptr 2 0 0,V.int .i64 x1] [O.arena 71 m0,O.arena 74 m1,O.box 61 (V.agg [V.ptr 3 0 0,V.int .i64 m2_1,V.mp 4,V.tail 5 0,V.int .i64 m2_4]) false,O.box 52 (V.agg [V.int .i64 m3_0,V.mp 6,V.tail 7 0]) false,O.map m4,O.row 3 m5 0,O.map m6,O.row 83 m7 z7]=e23 x1 m0 m1 m2_1 m2_4 m3_0 m4 m5 m6 m7 z7:=by kernel_rfl
theorem e23_run (x1:Int) (m0 m1:List V) (m2_1 m2_4 m3_0:Int) (m4:List (V × V)) (m5:List V) (m6:List (V × V)) (m7:List V) (z7:Nat) {o:Out} {r:V × List O} (h:e23 x1 m0 m1 m2_1 m2_4 m3_0 m4 m5 m6 m7 z7=some o) (hg:GoN qk 8 fa23 ⟨false,false⟩ [O.arena 71 m0,O.arena 74 m1,O.box 61 (V.agg [V.ptr 3 0 0,V.int .i64 m2_1,V.mp 4,V.tail 5 0,V.int .i64 m2_4]) false,O.box 52 (V.agg [V.int .i64 m3_0,V.mp 6,V.tail 7 0]) false,O.map m4,O.row 3 m5 0,O.map m6,O.row 83 m7 z7] o r):icC qcfg ⟨false,false⟩ 23 [V.ptr 2 0 0,V.int .i64 x1] [O.arena 71 m0,O.arena 74 m1,O.box 61 (V.agg [V.ptr 3 0 0,V.int .i64 m2_1,V.mp 4,V.tail 5 0,V.int .i64 m2_4]) false,O.box 52 (V.agg [V.int .i64 m3_0,V.mp 6,V.tail 7 0]) false,O.map m4,O.row 3 m5 0,O.map m6,O.row 83 m7 z7]=some r:=icC_go qik rfl fa23_eq ((e23_eq ..).trans h) hg
noncomputable def fa27:FA:=(fnA qcfg.P (qcfg.rxf 27) 27).getD faN
theorem fa27_eq:fnA qcfg.P (qcfg.rxf 27) 27=some fa27:=fa_of (by kernel_rfl)
noncomputable def e27 (x1:Int) (x2:List UInt8) (x3:Int) (m0 m1:List V) (m2_1 m2_4 m3_0:Int) (m4:List (V × V)) (m5:List V) (m6:List (V × V)) (m7:List V) (z7:Nat):R :=
 mfK m4 (V.int .i64 x1)
 (some (.doneM (V.int .i64 7) [O.arena 71 m0,O.arena 74 m1,O.box 61 (V.agg [V.ptr 3 0 0,V.int .i64 m2_1,V.mp 4,V.tail 5 0,V.int .i64 m2_4]) false,O.box 52 (V.agg [V.int .i64 m3_0,V.mp 6,V.tail 7 0]) false,O.map m4,O.row 3 m5 0,O.map m6,O.row 83 m7 z7])) fun r =>
  kP 71 r fun p =>
  idxK m0 p fun v =>
  d71 v fun s pins dirty first last =>
  cond (pins==(0:Int))
 (some (.doneM (V.int .i64 9) [O.arena 71 m0,O.arena 74 m1,O.box 61 (V.agg [V.ptr 3 0 0,V.int .i64 m2_1,V.mp 4,V.tail 5 0,V.int .i64 m2_4]) false,O.box 52 (V.agg [V.int .i64 m3_0,V.mp 6,V.tail 7 0]) false,O.map m4,O.row 3 m5 0,O.map m6,O.row 83 m7 z7]))
 (cond (decide ((x2.length:Int) > 252))
 (some (.doneM (V.int .i64 2) [O.arena 71 m0,O.arena 74 m1,O.box 61 (V.agg [V.ptr 3 0 0,V.int .i64 m2_1,V.mp 4,V.tail 5 0,V.int .i64 m2_4]) false,O.box 52 (V.agg [V.int .i64 m3_0,V.mp 6,V.tail 7 0]) false,O.map m4,O.row 3 m5 0,O.map m6,O.row 83 m7 z7]))
 (cond (decide (x3 < 1))
 (some (.doneM (V.int .i64 1) [O.arena 71 m0,O.arena 74 m1,O.box 61 (V.agg [V.ptr 3 0 0,V.int .i64 m2_1,V.mp 4,V.tail 5 0,V.int .i64 m2_4]) false,O.box 52 (V.agg [V.int .i64 m3_0,V.mp 6,V.tail 7 0]) false,O.map m4,O.row 3 m5 0,O.map m6,O.row 83 m7 z7]))
 (idxK m0 p fun v_1 =>
  d71 v_1 fun s_1 pins_1 dirty_1 first_1 last_1 =>
  cond (decide (x3 < last_1))
 (some (.doneM (V.int .i64 1) [O.arena 71 m0,O.arena 74 m1,O.box 61 (V.agg [V.ptr 3 0 0,V.int .i64 m2_1,V.mp 4,V.tail 5 0,V.int .i64 m2_4]) false,O.box 52 (V.agg [V.int .i64 m3_0,V.mp 6,V.tail 7 0]) false,O.map m4,O.row 3 m5 0,O.map m6,O.row 83 m7 z7]))
 (idxK m0 p fun v_2 =>
  d71 v_2 fun s_2 pins_2 dirty_2 first_2 last_2 =>
  cond (!dirty_2)
 (idxK m0 p fun v_3 =>
  d71 v_3 fun s_3 pins_3 dirty_3 first_3 last_3 =>
  gd (decide (0<=W .i64 (252 - (x2.length:Int)))) <|
  gd (decide (W .i64 (252 - (x2.length:Int))<=W .i64 (252 - (x2.length:Int)))) <|
  gd (decide ((W .i64 (252 - (x2.length:Int))).toNat<=16777216)) <|
  opt (numsOf (List.replicate ((W .i64 (252 - (x2.length:Int))).toNat) (V.int .u8 0))) fun ns =>
  gd (decide (x2.length+(ns.map fun n=>UInt8.ofNat n.toNat).length<=4611686018427387904)) <|
  idxK ((m0).set p (V.agg [V.str s_3,V.int .i64 pins_3,V.bool dirty_3,V.int .i64 x3,V.int .i64 last_3])) p fun v_4 =>
  d71 v_4 fun s_4 pins_4 dirty_4 first_4 last_4 =>
  idxK (((m0).set p (V.agg [V.str s_3,V.int .i64 pins_3,V.bool dirty_3,V.int .i64 x3,V.int .i64 last_3])).set p (V.agg [V.str (x2++(ns.map fun n=>UInt8.ofNat n.toNat)),V.int .i64 pins_4,V.bool dirty_4,V.int .i64 first_4,V.int .i64 last_4])) p fun v_5 =>
  d71 v_5 fun s_5 pins_5 dirty_5 first_5 last_5 =>
  idxK ((((m0).set p (V.agg [V.str s_3,V.int .i64 pins_3,V.bool dirty_3,V.int .i64 x3,V.int .i64 last_3])).set p (V.agg [V.str (x2++(ns.map fun n=>UInt8.ofNat n.toNat)),V.int .i64 pins_4,V.bool dirty_4,V.int .i64 first_4,V.int .i64 last_4])).set p (V.agg [V.str s_5,V.int .i64 pins_5,V.bool true,V.int .i64 first_5,V.int .i64 last_5])) p fun v_6 =>
  d71 v_6 fun s_6 pins_6 dirty_6 first_6 last_6 =>
  some (.doneM (V.int .i64 0) [O.arena 71 (((((m0).set p (V.agg [V.str s_3,V.int .i64 pins_3,V.bool dirty_3,V.int .i64 x3,V.int .i64 last_3])).set p (V.agg [V.str (x2++(ns.map fun n=>UInt8.ofNat n.toNat)),V.int .i64 pins_4,V.bool dirty_4,V.int .i64 first_4,V.int .i64 last_4])).set p (V.agg [V.str s_5,V.int .i64 pins_5,V.bool true,V.int .i64 first_5,V.int .i64 last_5])).set p (V.agg [V.str s_6,V.int .i64 pins_6,V.bool dirty_6,V.int .i64 first_6,V.int .i64 x3])),O.arena 74 m1,O.box 61 (V.agg [V.ptr 3 0 0,V.int .i64 m2_1,V.mp 4,V.tail 5 0,V.int .i64 m2_4]) false,O.box 52 (V.agg [V.int .i64 m3_0,V.mp 6,V.tail 7 0]) false,O.map m4,O.row 3 m5 0,O.map m6,O.row 83 m7 z7,O.row 5 (List.replicate ((W .i64 (252 - (x2.length:Int))).toNat) (V.int .u8 0)) 0]))
 (gd (decide (0<=W .i64 (252 - (x2.length:Int)))) <|
  gd (decide (W .i64 (252 - (x2.length:Int))<=W .i64 (252 - (x2.length:Int)))) <|
  gd (decide ((W .i64 (252 - (x2.length:Int))).toNat<=16777216)) <|
  opt (numsOf (List.replicate ((W .i64 (252 - (x2.length:Int))).toNat) (V.int .u8 0))) fun ns_1 =>
  gd (decide (x2.length+(ns_1.map fun n=>UInt8.ofNat n.toNat).length<=4611686018427387904)) <|
  idxK m0 p fun v_7 =>
  d71 v_7 fun s_7 pins_7 dirty_7 first_7 last_7 =>
  idxK ((m0).set p (V.agg [V.str (x2++(ns_1.map fun n=>UInt8.ofNat n.toNat)),V.int .i64 pins_7,V.bool dirty_7,V.int .i64 first_7,V.int .i64 last_7])) p fun v_8 =>
  d71 v_8 fun s_8 pins_8 dirty_8 first_8 last_8 =>
  idxK (((m0).set p (V.agg [V.str (x2++(ns_1.map fun n=>UInt8.ofNat n.toNat)),V.int .i64 pins_7,V.bool dirty_7,V.int .i64 first_7,V.int .i64 last_7])).set p (V.agg [V.str s_8,V.int .i64 pins_8,V.bool true,V.int .i64 first_8,V.int .i64 last_8])) p fun v_9 =>
  d71 v_9 fun s_9 pins_9 dirty_9 first_9 last_9 =>
  some (.doneM (V.int .i64 0) [O.arena 71 ((((m0).set p (V.agg [V.str (x2++(ns_1.map fun n=>UInt8.ofNat n.toNat)),V.int .i64 pins_7,V.bool dirty_7,V.int .i64 first_7,V.int .i64 last_7])).set p (V.agg [V.str s_8,V.int .i64 pins_8,V.bool true,V.int .i64 first_8,V.int .i64 last_8])).set p (V.agg [V.str s_9,V.int .i64 pins_9,V.bool dirty_9,V.int .i64 first_9,V.int .i64 x3])),O.arena 74 m1,O.box 61 (V.agg [V.ptr 3 0 0,V.int .i64 m2_1,V.mp 4,V.tail 5 0,V.int .i64 m2_4]) false,O.box 52 (V.agg [V.int .i64 m3_0,V.mp 6,V.tail 7 0]) false,O.map m4,O.row 3 m5 0,O.map m6,O.row 83 m7 z7,O.row 5 (List.replicate ((W .i64 (252 - (x2.length:Int))).toNat) (V.int .u8 0)) 0]))))))
theorem e27_eq (x1:Int) (x2:List UInt8) (x3:Int) (m0 m1:List V) (m2_1 m2_4 m3_0:Int) (m4:List (V × V)) (m5:List V) (m6:List (V × V)) (m7:List V) (z7:Nat):enterK qk true fa27 [V.ptr 2 0 0,V.int .i64 x1,V.str x2,V.int .i64 x3] [O.arena 71 m0,O.arena 74 m1,O.box 61 (V.agg [V.ptr 3 0 0,V.int .i64 m2_1,V.mp 4,V.tail 5 0,V.int .i64 m2_4]) false,O.box 52 (V.agg [V.int .i64 m3_0,V.mp 6,V.tail 7 0]) false,O.map m4,O.row 3 m5 0,O.map m6,O.row 83 m7 z7]=e27 x1 x2 x3 m0 m1 m2_1 m2_4 m3_0 m4 m5 m6 m7 z7:=by kernel_rfl
theorem e27_run (x1:Int) (x2:List UInt8) (x3:Int) (m0 m1:List V) (m2_1 m2_4 m3_0:Int) (m4:List (V × V)) (m5:List V) (m6:List (V × V)) (m7:List V) (z7:Nat) {o:Out} {r:V × List O} (h:e27 x1 x2 x3 m0 m1 m2_1 m2_4 m3_0 m4 m5 m6 m7 z7=some o) (hg:GoN qk 8 fa27 ⟨true,false⟩ [O.arena 71 m0,O.arena 74 m1,O.box 61 (V.agg [V.ptr 3 0 0,V.int .i64 m2_1,V.mp 4,V.tail 5 0,V.int .i64 m2_4]) false,O.box 52 (V.agg [V.int .i64 m3_0,V.mp 6,V.tail 7 0]) false,O.map m4,O.row 3 m5 0,O.map m6,O.row 83 m7 z7] o r):icC qcfg ⟨true,false⟩ 27 [V.ptr 2 0 0,V.int .i64 x1,V.str x2,V.int .i64 x3] [O.arena 71 m0,O.arena 74 m1,O.box 61 (V.agg [V.ptr 3 0 0,V.int .i64 m2_1,V.mp 4,V.tail 5 0,V.int .i64 m2_4]) false,O.box 52 (V.agg [V.int .i64 m3_0,V.mp 6,V.tail 7 0]) false,O.map m4,O.row 3 m5 0,O.map m6,O.row 83 m7 z7]=some r:=icC_go qik rfl fa27_eq ((e27_eq ..).trans h) hg
noncomputable def fa25:FA:=(fnA qcfg.P (qcfg.rxf 25) 25).getD faN
theorem fa25_eq:fnA qcfg.P (qcfg.rxf 25) 25=some fa25:=fa_of (by kernel_rfl)
noncomputable def e25 (x1:Int) (m0 m1:List V) (m2_1 m2_4 m3_0:Int) (m4:List (V × V)) (m5:List V) (m6:List (V × V)) (m7:List V) (z7:Nat):R :=
 mfK m4 (V.int .i64 x1)
 (some (.doneM (V.int .i64 7) [O.arena 71 m0,O.arena 74 m1,O.box 61 (V.agg [V.ptr 3 0 0,V.int .i64 m2_1,V.mp 4,V.tail 5 0,V.int .i64 m2_4]) false,O.box 52 (V.agg [V.int .i64 m3_0,V.mp 6,V.tail 7 0]) false,O.map m4,O.row 3 m5 0,O.map m6,O.row 83 m7 z7])) fun r =>
  kP 71 r fun p =>
  idxK m0 p fun v =>
  d71 v fun s pins dirty first last =>
  cond (pins==(0:Int))
 (some (.doneM (V.int .i64 9) [O.arena 71 m0,O.arena 74 m1,O.box 61 (V.agg [V.ptr 3 0 0,V.int .i64 m2_1,V.mp 4,V.tail 5 0,V.int .i64 m2_4]) false,O.box 52 (V.agg [V.int .i64 m3_0,V.mp 6,V.tail 7 0]) false,O.map m4,O.row 3 m5 0,O.map m6,O.row 83 m7 z7]))
 (idxK m0 p fun v_1 =>
  d71 v_1 fun s_1 pins_1 dirty_1 first_1 last_1 =>
  idxK m0 p fun v_2 =>
  d71 v_2 fun s_2 pins_2 dirty_2 first_2 last_2 =>
  some (.doneM (V.int .i64 0) [O.arena 71 ((m0).set p (V.agg [V.str s_2,V.int .i64 (W .i64 (pins_1 - 1)),V.bool dirty_2,V.int .i64 first_2,V.int .i64 last_2])),O.arena 74 m1,O.box 61 (V.agg [V.ptr 3 0 0,V.int .i64 m2_1,V.mp 4,V.tail 5 0,V.int .i64 m2_4]) false,O.box 52 (V.agg [V.int .i64 m3_0,V.mp 6,V.tail 7 0]) false,O.map m4,O.row 3 m5 0,O.map m6,O.row 83 m7 z7]))
theorem e25_eq (x1:Int) (m0 m1:List V) (m2_1 m2_4 m3_0:Int) (m4:List (V × V)) (m5:List V) (m6:List (V × V)) (m7:List V) (z7:Nat):enterK qk true fa25 [V.ptr 2 0 0,V.int .i64 x1] [O.arena 71 m0,O.arena 74 m1,O.box 61 (V.agg [V.ptr 3 0 0,V.int .i64 m2_1,V.mp 4,V.tail 5 0,V.int .i64 m2_4]) false,O.box 52 (V.agg [V.int .i64 m3_0,V.mp 6,V.tail 7 0]) false,O.map m4,O.row 3 m5 0,O.map m6,O.row 83 m7 z7]=e25 x1 m0 m1 m2_1 m2_4 m3_0 m4 m5 m6 m7 z7:=by kernel_rfl
theorem e25_run (x1:Int) (m0 m1:List V) (m2_1 m2_4 m3_0:Int) (m4:List (V × V)) (m5:List V) (m6:List (V × V)) (m7:List V) (z7:Nat) {o:Out} {r:V × List O} (h:e25 x1 m0 m1 m2_1 m2_4 m3_0 m4 m5 m6 m7 z7=some o) (hg:GoN qk 8 fa25 ⟨true,false⟩ [O.arena 71 m0,O.arena 74 m1,O.box 61 (V.agg [V.ptr 3 0 0,V.int .i64 m2_1,V.mp 4,V.tail 5 0,V.int .i64 m2_4]) false,O.box 52 (V.agg [V.int .i64 m3_0,V.mp 6,V.tail 7 0]) false,O.map m4,O.row 3 m5 0,O.map m6,O.row 83 m7 z7] o r):icC qcfg ⟨true,false⟩ 25 [V.ptr 2 0 0,V.int .i64 x1] [O.arena 71 m0,O.arena 74 m1,O.box 61 (V.agg [V.ptr 3 0 0,V.int .i64 m2_1,V.mp 4,V.tail 5 0,V.int .i64 m2_4]) false,O.box 52 (V.agg [V.int .i64 m3_0,V.mp 6,V.tail 7 0]) false,O.map m4,O.row 3 m5 0,O.map m6,O.row 83 m7 z7]=some r:=icC_go qik rfl fa25_eq ((e25_eq ..).trans h) hg
noncomputable def fa40:FA:=(fnA qcfg.P (qcfg.rxf 40) 40).getD faN
theorem fa40_eq:fnA qcfg.P (qcfg.rxf 40) 40=some fa40:=fa_of (by kernel_rfl)
noncomputable def e40 (x1:Int) (m0 m1:List V) (m2_0:Int) (m3:List (V × V)) (m4:List V) (z4:Nat):R :=
 cond (decide (x1 ≥ 0))
 (cond (!(decide (x1 < m2_0)))
 (some (.doneM (V.tup [V.str [],V.int .i64 1]) [O.arena 71 m0,O.arena 74 m1,O.box 52 (V.agg [V.int .i64 m2_0,V.mp 3,V.tail 4 0]) false,O.map m3,O.row 83 m4 z4]))
 (icM qcfg ⟨true,false⟩ mk19 19 [V.ptr 2 0 0,V.int .i64 x1] [O.arena 71 m0,O.arena 74 m1,O.box 52 (V.agg [V.int .i64 m2_0,V.mp 3,V.tail 4 0]) false,O.map m3,O.row 83 m4 z4] fun L =>
  pcK qcfg 62 [V.str L.1] fun r =>
  d57 r fun r62_0 r62_1 =>
  some (.doneM (V.tup [V.str r62_0,V.int .i64 r62_1]) [O.arena 71 L.2.1,O.arena 74 L.2.2.1,O.box 52 (V.agg [V.int .i64 L.2.2.2.1,V.mp 3,V.tail 4 0]) false,O.map L.2.2.2.2.1,O.row 83 L.2.2.2.2.2.1 L.2.2.2.2.2.2])))
 (some (.doneM (V.tup [V.str [],V.int .i64 1]) [O.arena 71 m0,O.arena 74 m1,O.box 52 (V.agg [V.int .i64 m2_0,V.mp 3,V.tail 4 0]) false,O.map m3,O.row 83 m4 z4]))
theorem e40_eq (x1:Int) (m0 m1:List V) (m2_0:Int) (m3:List (V × V)) (m4:List V) (z4:Nat):enterK qk true fa40 [V.ptr 2 0 0,V.int .i64 x1] [O.arena 71 m0,O.arena 74 m1,O.box 52 (V.agg [V.int .i64 m2_0,V.mp 3,V.tail 4 0]) false,O.map m3,O.row 83 m4 z4]=e40 x1 m0 m1 m2_0 m3 m4 z4:=by kernel_rfl
theorem e40_run (x1:Int) (m0 m1:List V) (m2_0:Int) (m3:List (V × V)) (m4:List V) (z4:Nat) {o:Out} {r:V × List O} (h:e40 x1 m0 m1 m2_0 m3 m4 z4=some o) (hg:GoN qk 5 fa40 ⟨true,false⟩ [O.arena 71 m0,O.arena 74 m1,O.box 52 (V.agg [V.int .i64 m2_0,V.mp 3,V.tail 4 0]) false,O.map m3,O.row 83 m4 z4] o r):icC qcfg ⟨true,false⟩ 40 [V.ptr 2 0 0,V.int .i64 x1] [O.arena 71 m0,O.arena 74 m1,O.box 52 (V.agg [V.int .i64 m2_0,V.mp 3,V.tail 4 0]) false,O.map m3,O.row 83 m4 z4]=some r:=icC_go qik rfl fa40_eq ((e40_eq ..).trans h) hg
noncomputable def fa30:FA:=(fnA qcfg.P (qcfg.rxf 30) 30).getD faN
theorem fa30_eq:fnA qcfg.P (qcfg.rxf 30) 30=some fa30:=fa_of (by kernel_rfl)
def T30_0 (x8 x9:Int) (m0 m1:List V) (m2_1 m2_4 m3_0:Int) (m4:List (V × V)) (m5:List V) (m6:List (V × V)) (m7:List V) (z7:Nat) (m8:List V):S:=⟨[V.ptr 2 0 0,V.junk,V.int .i64 0,V.int .i64 0,V.junk,V.junk,V.junk,V.own 8,V.int .i64 x8,V.int .i64 x9]++(JU 18),[O.arena 71 m0,O.arena 74 m1,O.box 61 (V.agg [V.ptr 3 0 0,V.int .i64 m2_1,V.mp 4,V.tail 5 0,V.int .i64 m2_4]) false,O.box 52 (V.agg [V.int .i64 m3_0,V.mp 6,V.tail 7 0]) false,O.map m4,O.row 3 m5 0,O.map m6,O.row 83 m7 z7,O.row 3 m8 0]⟩
def T30_0b (x3 x8 x9:Int) (m0 m1:List V) (m2_1 m2_4 m3_0:Int) (m4:List (V × V)) (m5:List V) (m6:List (V × V)) (m8 m9:List V) (z9:Nat):S:=⟨[V.ptr 2 0 0,V.junk,V.int .i64 0,V.int .i64 x3,V.junk,V.junk,V.junk,V.own 8,V.int .i64 x8,V.int .i64 x9]++(JU 18),[O.arena 71 m0,O.arena 74 m1,O.box 61 (V.agg [V.ptr 3 0 0,V.int .i64 m2_1,V.mp 4,V.tail 5 0,V.int .i64 m2_4]) false,O.box 52 (V.agg [V.int .i64 m3_0,V.mp 6,V.tail 9 0]) false,O.map m4,O.row 3 m5 0,O.map m6,O.dead,O.row 3 m8 0,O.row 83 m9 z9]⟩
noncomputable def e30 (m0 m1:List V) (m2_1 m2_4 m3_0:Int) (m4:List (V × V)) (m5:List V) (m6:List (V × V)) (m7:List V) (z7:Nat):R :=
 icM qcfg ⟨true,false⟩ mk12 12 [V.ptr 2 0 0] [O.arena 71 m0,O.arena 74 m1,O.box 61 (V.agg [V.ptr 3 0 0,V.int .i64 m2_1,V.mp 4,V.tail 5 0,V.int .i64 m2_4]) false,O.box 52 (V.agg [V.int .i64 m3_0,V.mp 6,V.tail 7 0]) false,O.map m4,O.row 3 m5 0,O.map m6,O.row 83 m7 z7] fun L =>
 some (.head 0 (T30_0 (L.2.2.2.2.2.2.2.2.2.2.length:Int) 0 L.1 L.2.1 L.2.2.1 L.2.2.2.1 L.2.2.2.2.1 L.2.2.2.2.2.1 L.2.2.2.2.2.2.1 L.2.2.2.2.2.2.2.1 L.2.2.2.2.2.2.2.2.1 L.2.2.2.2.2.2.2.2.2.1 L.2.2.2.2.2.2.2.2.2.2))
theorem e30_eq (m0 m1:List V) (m2_1 m2_4 m3_0:Int) (m4:List (V × V)) (m5:List V) (m6:List (V × V)) (m7:List V) (z7:Nat):enterK qk true fa30 [V.ptr 2 0 0] [O.arena 71 m0,O.arena 74 m1,O.box 61 (V.agg [V.ptr 3 0 0,V.int .i64 m2_1,V.mp 4,V.tail 5 0,V.int .i64 m2_4]) false,O.box 52 (V.agg [V.int .i64 m3_0,V.mp 6,V.tail 7 0]) false,O.map m4,O.row 3 m5 0,O.map m6,O.row 83 m7 z7]=e30 m0 m1 m2_1 m2_4 m3_0 m4 m5 m6 m7 z7:=by kernel_rfl
theorem e30_run (m0 m1:List V) (m2_1 m2_4 m3_0:Int) (m4:List (V × V)) (m5:List V) (m6:List (V × V)) (m7:List V) (z7:Nat) {o:Out} {r:V × List O} (h:e30 m0 m1 m2_1 m2_4 m3_0 m4 m5 m6 m7 z7=some o) (hg:GoN qk 8 fa30 ⟨false,false⟩ [O.arena 71 m0,O.arena 74 m1,O.box 61 (V.agg [V.ptr 3 0 0,V.int .i64 m2_1,V.mp 4,V.tail 5 0,V.int .i64 m2_4]) false,O.box 52 (V.agg [V.int .i64 m3_0,V.mp 6,V.tail 7 0]) false,O.map m4,O.row 3 m5 0,O.map m6,O.row 83 m7 z7] o r):icC qcfg ⟨false,false⟩ 30 [V.ptr 2 0 0] [O.arena 71 m0,O.arena 74 m1,O.box 61 (V.agg [V.ptr 3 0 0,V.int .i64 m2_1,V.mp 4,V.tail 5 0,V.int .i64 m2_4]) false,O.box 52 (V.agg [V.int .i64 m3_0,V.mp 6,V.tail 7 0]) false,O.map m4,O.row 3 m5 0,O.map m6,O.row 83 m7 z7]=some r:=icC_go qik rfl fa30_eq ((e30_eq ..).trans h) hg
noncomputable def s30_0 (x8 x9:Int) (m0 m1:List V) (m2_1 m2_4 m3_0:Int) (m4:List (V × V)) (m5:List V) (m6:List (V × V)) (m7:List V) (z7:Nat) (m8:List V):R :=
 cond (decide (x9 < x8))
 (gd (decide (0<=x9)) <|
  gd (decide (x9.toNat < m8.length)) <|
  idxK m8 x9.toNat fun v =>
  kI .i64 v fun n =>
  mfK m4 (V.int .i64 n)
 (none) fun r =>
  kP 71 r fun p =>
  idxK m0 p fun v_1 =>
  d71 v_1 fun s pins dirty first last =>
  cond dirty
 (idxK m0 p fun v_2 =>
  d71 v_2 fun s_1 pins_1 dirty_1 first_1 last_1 =>
  cond (decide (last_1<=m2_4))
 (mfK m4 (V.int .i64 n)
 (none) fun r_1 =>
  kP 71 r_1 fun p_1 =>
  idxK m0 p_1 fun v_3 =>
  d71 v_3 fun s_2 pins_2 dirty_2 first_2 last_2 =>
  icM qcfg ⟨false,false⟩ mk69 69 [V.ptr 2 0 0,V.int .i64 n,V.str s_2] [O.arena 71 m0,O.arena 74 m1,O.box 52 (V.agg [V.int .i64 m3_0,V.mp 3,V.tail 4 0]) false,O.map m6,O.row 83 m7 z7] fun L =>
  mfK m4 (V.int .i64 n)
 (none) fun r_2 =>
  kP 71 r_2 fun p_2 =>
  idxK L.2.1 p_2 fun v_4 =>
  d71 v_4 fun s_3 pins_3 dirty_3 first_3 last_3 =>
  some (.head 0 (T30_0b 1 x8 (W .i64 (x9+1)) ((L.2.1).set p_2 (V.agg [V.str s_3,V.int .i64 pins_3,V.bool false,V.int .i64 first_3,V.int .i64 last_3])) L.2.2.1 m2_1 m2_4 L.2.2.2.1 m4 m5 L.2.2.2.2.1 m8 L.2.2.2.2.2.1 L.2.2.2.2.2.2)))
 (some (.head 0 (T30_0 x8 (W .i64 (x9+1)) m0 m1 m2_1 m2_4 m3_0 m4 m5 m6 m7 z7 m8))))
 (some (.head 0 (T30_0 x8 (W .i64 (x9+1)) m0 m1 m2_1 m2_4 m3_0 m4 m5 m6 m7 z7 m8))))
 (some (.doneM (V.int .i64 0) [O.arena 71 m0,O.arena 74 m1,O.box 61 (V.agg [V.ptr 3 0 0,V.int .i64 m2_1,V.mp 4,V.tail 5 0,V.int .i64 m2_4]) false,O.box 52 (V.agg [V.int .i64 m3_0,V.mp 6,V.tail 7 0]) false,O.map m4,O.row 3 m5 0,O.map m6,O.row 83 m7 z7,O.row 3 m8 0]))
theorem s30_0_run (x8 x9:Int) (m0 m1:List V) (m2_1 m2_4 m3_0:Int) (m4:List (V × V)) (m5:List V) (m6:List (V × V)) (m7:List V) (z7:Nat) (m8:List V) {o o':Out} (h:s30_0 x8 x9 m0 m1 m2_1 m2_4 m3_0 m4 m5 m6 m7 z7 m8=some o) (hg:Go qk true 8 fa30 o o'):Go qk true 8 fa30 (.head 0 (T30_0 x8 x9 m0 m1 m2_1 m2_4 m3_0 m4 m5 m6 m7 z7 m8)) o':=.step (Eq.trans (by kernel_rfl) h) hg
noncomputable def s30_0b (x3 x8 x9:Int) (m0 m1:List V) (m2_1 m2_4 m3_0:Int) (m4:List (V × V)) (m5:List V) (m6:List (V × V)) (m8 m9:List V) (z9:Nat):R :=
 cond (decide (x9 < x8))
 (gd (decide (0<=x9)) <|
  gd (decide (x9.toNat < m8.length)) <|
  idxK m8 x9.toNat fun v =>
  kI .i64 v fun n =>
  mfK m4 (V.int .i64 n)
 (none) fun r =>
  kP 71 r fun p =>
  idxK m0 p fun v_1 =>
  d71 v_1 fun s pins dirty first last =>
  cond dirty
 (idxK m0 p fun v_2 =>
  d71 v_2 fun s_1 pins_1 dirty_1 first_1 last_1 =>
  cond (decide (last_1<=m2_4))
 (mfK m4 (V.int .i64 n)
 (none) fun r_1 =>
  kP 71 r_1 fun p_1 =>
  idxK m0 p_1 fun v_3 =>
  d71 v_3 fun s_2 pins_2 dirty_2 first_2 last_2 =>
  icM qcfg ⟨false,false⟩ mk69 69 [V.ptr 2 0 0,V.int .i64 n,V.str s_2] [O.arena 71 m0,O.arena 74 m1,O.box 52 (V.agg [V.int .i64 m3_0,V.mp 3,V.tail 4 0]) false,O.map m6,O.row 83 m9 z9] fun L =>
  mfK m4 (V.int .i64 n)
 (none) fun r_2 =>
  kP 71 r_2 fun p_2 =>
  idxK L.2.1 p_2 fun v_4 =>
  d71 v_4 fun s_3 pins_3 dirty_3 first_3 last_3 =>
  some (.head 0 (T30_0b (W .i64 (x3+1)) x8 (W .i64 (x9+1)) ((L.2.1).set p_2 (V.agg [V.str s_3,V.int .i64 pins_3,V.bool false,V.int .i64 first_3,V.int .i64 last_3])) L.2.2.1 m2_1 m2_4 L.2.2.2.1 m4 m5 L.2.2.2.2.1 m8 L.2.2.2.2.2.1 L.2.2.2.2.2.2)))
 (some (.head 0 (T30_0b x3 x8 (W .i64 (x9+1)) m0 m1 m2_1 m2_4 m3_0 m4 m5 m6 m8 m9 z9))))
 (some (.head 0 (T30_0b x3 x8 (W .i64 (x9+1)) m0 m1 m2_1 m2_4 m3_0 m4 m5 m6 m8 m9 z9))))
 (some (.doneM (V.int .i64 x3) [O.arena 71 m0,O.arena 74 m1,O.box 61 (V.agg [V.ptr 3 0 0,V.int .i64 m2_1,V.mp 4,V.tail 5 0,V.int .i64 m2_4]) false,O.box 52 (V.agg [V.int .i64 m3_0,V.mp 6,V.tail 9 0]) false,O.map m4,O.row 3 m5 0,O.map m6,O.dead,O.row 3 m8 0,O.row 83 m9 z9]))
theorem s30_0b_run (x3 x8 x9:Int) (m0 m1:List V) (m2_1 m2_4 m3_0:Int) (m4:List (V × V)) (m5:List V) (m6:List (V × V)) (m8 m9:List V) (z9:Nat) {o o':Out} (h:s30_0b x3 x8 x9 m0 m1 m2_1 m2_4 m3_0 m4 m5 m6 m8 m9 z9=some o) (hg:Go qk true 8 fa30 o o'):Go qk true 8 fa30 (.head 0 (T30_0b x3 x8 x9 m0 m1 m2_1 m2_4 m3_0 m4 m5 m6 m8 m9 z9)) o':=.step (Eq.trans (by kernel_rfl) h) hg
noncomputable def fa24:FA:=(fnA qcfg.P (qcfg.rxf 24) 24).getD faN
theorem fa24_eq:fnA qcfg.P (qcfg.rxf 24) 24=some fa24:=fa_of (by kernel_rfl)
noncomputable def e24 (x1:Int) (m0 m1:List V) (m2_1 m2_2:Int) (m4 m5 m6:List V):R :=
 cond (decide (x1 < 0))
 (some (.doneM (V.tup [V.str [],V.int .i64 1]) [O.arena 71 m0,O.arena 74 m1,O.box 64 (V.agg [V.ptr 3 0 0,V.int .i64 m2_1,V.int .i64 m2_2,V.tail 4 0]) false,O.box 56 (V.agg [V.tail 5 0,V.tail 6 0]) false,O.row 75 m4 0,O.row 9 m5 0,O.row 85 m6 0]))
 (cond (decide (x1 ≥ (m5.length:Int)))
 (some (.doneM (V.tup [V.str [],V.int .i64 1]) [O.arena 71 m0,O.arena 74 m1,O.box 64 (V.agg [V.ptr 3 0 0,V.int .i64 m2_1,V.int .i64 m2_2,V.tail 4 0]) false,O.box 56 (V.agg [V.tail 5 0,V.tail 6 0]) false,O.row 75 m4 0,O.row 9 m5 0,O.row 85 m6 0]))
 (icR qcfg ⟨true,false⟩ mk34 34 [V.ptr 2 0 0,V.int .i64 x1] [O.arena 71 m0,O.arena 74 m1,O.box 64 (V.agg [V.ptr 3 0 0,V.int .i64 m2_1,V.int .i64 m2_2,V.tail 4 0]) false,O.box 56 (V.agg [V.tail 5 0,V.tail 6 0]) false,O.row 75 m4 0,O.row 9 m5 0,O.row 85 m6 0] fun L =>
  gdS [O.arena 71 m0,O.arena 74 m1,O.box 64 (V.agg [V.ptr 3 0 0,V.int .i64 m2_1,V.int .i64 m2_2,V.tail 4 0]) false,O.box 56 (V.agg [V.tail 5 0,V.tail 6 0]) false,O.row 75 m4 0,O.row 9 m5 0,O.row 85 m6 0] <|
  cond (decide (L ≥ 0))
 (gd (decide (0<=L)) <|
  gd (decide (L.toNat < m4.length)) <|
  idxK m4 (0+L.toNat) fun v =>
  kP 74 v fun p =>
  gd (wfl 1 m4) <|
  gd (decide (0<=L)) <|
  gd (decide (L.toNat<=m4.length)) <|
  gd (decide ((0+0)+(L.toNat - 0)<=m4.length)) <|
  gd (wfl 1 (((m4).drop (0+0)).take (L.toNat - 0))) <|
  gd (decide (0+(((m4).drop (0+0)).take (L.toNat - 0)).length<=16777216)) <|
  gd (wfl 1 m4) <|
  gd (decide (0<=W .i64 (L+1))) <|
  gd (decide ((W .i64 (L+1)).toNat<=m4.length)) <|
  gd (wfl 1 (m4.drop (0+((W .i64 (L+1)).toNat)))) <|
  gd (decide ((((m4).drop (0+0)).take (L.toNat - 0)).length+(m4.drop (0+((W .i64 (L+1)).toNat))).length<=16777216)) <|
  idxK (m1++[V.agg [V.int .i64 x1,V.str [],V.int .i64 0,V.bool false,V.int .i64 0,V.int .i64 0]]) p fun v_1 =>
  d74 v_1 fun page s pins dirty first last =>
  idxK (m1++[V.agg [V.int .i64 x1,V.str [],V.int .i64 0,V.bool false,V.int .i64 0,V.int .i64 0]]) p fun v_2 =>
  d74 v_2 fun page_1 s_1 pins_1 dirty_1 first_1 last_1 =>
  gd (decide (((((m4).drop (0+0)).take (L.toNat - 0))++(m4.drop (0+((W .i64 (L+1)).toNat)))).length+([V.hp 74 p 0]:List V).length<=16777216)) <|
  idxK ((m1++[V.agg [V.int .i64 x1,V.str [],V.int .i64 0,V.bool false,V.int .i64 0,V.int .i64 0]]).set p (V.agg [V.int .i64 page_1,V.str s_1,V.int .i64 (W .i64 (pins+1)),V.bool dirty_1,V.int .i64 first_1,V.int .i64 last_1])) p fun v_3 =>
  d74 v_3 fun page_2 s_2 pins_2 dirty_2 first_2 last_2 =>
  some (.doneM (V.tup [V.str s_2,V.int .i64 0]) [O.arena 71 m0,O.arena 74 ((m1++[V.agg [V.int .i64 x1,V.str [],V.int .i64 0,V.bool false,V.int .i64 0,V.int .i64 0]]).set p (V.agg [V.int .i64 page_1,V.str s_1,V.int .i64 (W .i64 (pins+1)),V.bool dirty_1,V.int .i64 first_1,V.int .i64 last_1])),O.box 64 (V.agg [V.ptr 3 0 0,V.int .i64 m2_1,V.int .i64 m2_2,V.tail 11 0]) false,O.box 56 (V.agg [V.tail 5 0,V.tail 6 0]) false,O.row 75 m4 0,O.row 9 m5 0,O.row 85 m6 0,O.dead,O.dead,O.dead,O.row 75 [V.hp 74 p 0] 0,O.row 75 (((((m4).drop (0+0)).take (L.toNat - 0))++(m4.drop (0+((W .i64 (L+1)).toNat))))++[V.hp 74 p 0]) 0]))
 (icM qcfg ⟨true,false⟩ mk48 48 [V.ptr 2 0 0,V.int .i64 x1] [O.arena 71 m0,O.arena 74 (m1++[V.agg [V.int .i64 x1,V.str [],V.int .i64 0,V.bool false,V.int .i64 0,V.int .i64 0]]),O.box 56 (V.agg [V.tail 3 0,V.tail 4 0]) false,O.row 9 m5 0,O.row 85 m6 0] fun L_1 =>
  cond (L_1.2.1 != (0:Int))
 (some (.doneM (V.tup [V.str [],V.int .i64 L_1.2.1]) [O.arena 71 L_1.2.2.1,O.arena 74 L_1.2.2.2.1,O.box 64 (V.agg [V.ptr 3 0 0,V.int .i64 m2_1,V.int .i64 m2_2,V.tail 4 0]) false,O.box 56 (V.agg [V.tail 5 0,V.tail 6 0]) false,O.row 75 m4 0,O.row 9 L_1.2.2.2.2.1 0,O.row 85 L_1.2.2.2.2.2 0]))
 (icM qcfg ⟨false,false⟩ mk49 49 [V.ptr 2 0 0] [O.arena 71 L_1.2.2.1,O.arena 74 L_1.2.2.2.1,O.box 64 (V.agg [V.ptr 3 0 0,V.int .i64 m2_1,V.int .i64 m2_2,V.tail 4 0]) false,O.box 56 (V.agg [V.tail 5 0,V.tail 6 0]) false,O.row 75 m4 0,O.row 9 L_1.2.2.2.2.1 0,O.row 85 L_1.2.2.2.2.2 0] fun L_2 =>
  cond (!L_2.1)
 (some (.doneM (V.tup [V.str [],V.int .i64 6]) [O.arena 71 L_2.2.1,O.arena 74 L_2.2.2.1,O.box 64 (V.agg [V.ptr 3 0 0,V.int .i64 L_2.2.2.2.1,V.int .i64 L_2.2.2.2.2.1,V.tail 7 0]) false,O.box 56 (V.agg [V.tail 8 0,V.tail 9 0]) false,O.dead,O.dead,O.dead,O.row 75 L_2.2.2.2.2.2.1 0,O.row 9 L_2.2.2.2.2.2.2.1 0,O.row 85 L_2.2.2.2.2.2.2.2 0]))
 (idxK L_2.2.2.1 m1.length fun v_4 =>
  d74 v_4 fun page_3 s_3 pins_3 dirty_3 first_3 last_3 =>
  idxK ((L_2.2.2.1).set m1.length (V.agg [V.int .i64 page_3,V.str L_1.1,V.int .i64 pins_3,V.bool dirty_3,V.int .i64 first_3,V.int .i64 last_3])) m1.length fun v_5 =>
  d74 v_5 fun page_4 s_4 pins_4 dirty_4 first_4 last_4 =>
  idxK ((L_2.2.2.1).set m1.length (V.agg [V.int .i64 page_3,V.str L_1.1,V.int .i64 pins_3,V.bool dirty_3,V.int .i64 first_3,V.int .i64 last_3])) m1.length fun v_6 =>
  d74 v_6 fun page_5 s_5 pins_5 dirty_5 first_5 last_5 =>
  gd (decide (L_2.2.2.2.2.2.1.length+([V.hp 74 m1.length 0]:List V).length<=16777216)) <|
  idxK (((L_2.2.2.1).set m1.length (V.agg [V.int .i64 page_3,V.str L_1.1,V.int .i64 pins_3,V.bool dirty_3,V.int .i64 first_3,V.int .i64 last_3])).set m1.length (V.agg [V.int .i64 page_5,V.str s_5,V.int .i64 (W .i64 (pins_4+1)),V.bool dirty_5,V.int .i64 first_5,V.int .i64 last_5])) m1.length fun v_7 =>
  d74 v_7 fun page_6 s_6 pins_6 dirty_6 first_6 last_6 =>
  some (.doneM (V.tup [V.str s_6,V.int .i64 0]) [O.arena 71 L_2.2.1,O.arena 74 (((L_2.2.2.1).set m1.length (V.agg [V.int .i64 page_3,V.str L_1.1,V.int .i64 pins_3,V.bool dirty_3,V.int .i64 first_3,V.int .i64 last_3])).set m1.length (V.agg [V.int .i64 page_5,V.str s_5,V.int .i64 (W .i64 (pins_4+1)),V.bool dirty_5,V.int .i64 first_5,V.int .i64 last_5])),O.box 64 (V.agg [V.ptr 3 0 0,V.int .i64 L_2.2.2.2.1,V.int .i64 L_2.2.2.2.2.1,V.tail 11 0]) false,O.box 56 (V.agg [V.tail 8 0,V.tail 9 0]) false,O.dead,O.dead,O.dead,O.dead,O.row 9 L_2.2.2.2.2.2.2.1 0,O.row 85 L_2.2.2.2.2.2.2.2 0,O.row 75 [V.hp 74 m1.length 0] 0,O.row 75 (L_2.2.2.2.2.2.1++[V.hp 74 m1.length 0]) 0]))))))
theorem e24_eq (x1:Int) (m0 m1:List V) (m2_1 m2_2:Int) (m4 m5 m6:List V):enterK qk true fa24 [V.ptr 2 0 0,V.int .i64 x1] [O.arena 71 m0,O.arena 74 m1,O.box 64 (V.agg [V.ptr 3 0 0,V.int .i64 m2_1,V.int .i64 m2_2,V.tail 4 0]) false,O.box 56 (V.agg [V.tail 5 0,V.tail 6 0]) false,O.row 75 m4 0,O.row 9 m5 0,O.row 85 m6 0]=e24 x1 m0 m1 m2_1 m2_2 m4 m5 m6:=by kernel_rfl
theorem e24_run (x1:Int) (m0 m1:List V) (m2_1 m2_2:Int) (m4 m5 m6:List V) {o:Out} {r:V × List O} (h:e24 x1 m0 m1 m2_1 m2_2 m4 m5 m6=some o) (hg:GoN qk 7 fa24 ⟨false,false⟩ [O.arena 71 m0,O.arena 74 m1,O.box 64 (V.agg [V.ptr 3 0 0,V.int .i64 m2_1,V.int .i64 m2_2,V.tail 4 0]) false,O.box 56 (V.agg [V.tail 5 0,V.tail 6 0]) false,O.row 75 m4 0,O.row 9 m5 0,O.row 85 m6 0] o r):icC qcfg ⟨false,false⟩ 24 [V.ptr 2 0 0,V.int .i64 x1] [O.arena 71 m0,O.arena 74 m1,O.box 64 (V.agg [V.ptr 3 0 0,V.int .i64 m2_1,V.int .i64 m2_2,V.tail 4 0]) false,O.box 56 (V.agg [V.tail 5 0,V.tail 6 0]) false,O.row 75 m4 0,O.row 9 m5 0,O.row 85 m6 0]=some r:=icC_go qik rfl fa24_eq ((e24_eq ..).trans h) hg
noncomputable def fa26:FA:=(fnA qcfg.P (qcfg.rxf 26) 26).getD faN
theorem fa26_eq:fnA qcfg.P (qcfg.rxf 26) 26=some fa26:=fa_of (by kernel_rfl)
noncomputable def e26 (x1:Int) (m0 m1:List V) (m2_1 m2_2:Int) (m4 m5 m6:List V):R :=
 icR qcfg ⟨true,false⟩ mk34 34 [V.ptr 2 0 0,V.int .i64 x1] [O.arena 71 m0,O.arena 74 m1,O.box 64 (V.agg [V.ptr 3 0 0,V.int .i64 m2_1,V.int .i64 m2_2,V.tail 4 0]) false,O.box 56 (V.agg [V.tail 5 0,V.tail 6 0]) false,O.row 75 m4 0,O.row 9 m5 0,O.row 85 m6 0] fun L =>
 gdS [O.arena 71 m0,O.arena 74 m1,O.box 64 (V.agg [V.ptr 3 0 0,V.int .i64 m2_1,V.int .i64 m2_2,V.tail 4 0]) false,O.box 56 (V.agg [V.tail 5 0,V.tail 6 0]) false,O.row 75 m4 0,O.row 9 m5 0,O.row 85 m6 0] <|
 cond (decide (L < 0))
 (some (.doneM (V.int .i64 7) [O.arena 71 m0,O.arena 74 m1,O.box 64 (V.agg [V.ptr 3 0 0,V.int .i64 m2_1,V.int .i64 m2_2,V.tail 4 0]) false,O.box 56 (V.agg [V.tail 5 0,V.tail 6 0]) false,O.row 75 m4 0,O.row 9 m5 0,O.row 85 m6 0]))
 (gd (decide (0<=L)) <|
  gd (decide (L.toNat < m4.length)) <|
  idxK m4 (0+L.toNat) fun v =>
  kP 74 v fun p =>
  idxK m1 p fun v_1 =>
  d74 v_1 fun page s pins dirty first last =>
  cond (pins==(0:Int))
 (some (.doneM (V.int .i64 9) [O.arena 71 m0,O.arena 74 m1,O.box 64 (V.agg [V.ptr 3 0 0,V.int .i64 m2_1,V.int .i64 m2_2,V.tail 4 0]) false,O.box 56 (V.agg [V.tail 5 0,V.tail 6 0]) false,O.row 75 m4 0,O.row 9 m5 0,O.row 85 m6 0]))
 (icR qcfg ⟨true,false⟩ mk34 34 [V.ptr 2 0 0,V.int .i64 x1] [O.arena 71 m0,O.arena 74 m1,O.box 64 (V.agg [V.ptr 3 0 0,V.int .i64 m2_1,V.int .i64 m2_2,V.tail 4 0]) false,O.box 56 (V.agg [V.tail 5 0,V.tail 6 0]) false,O.row 75 m4 0,O.row 9 m5 0,O.row 85 m6 0] fun L_1 =>
  gdS [O.arena 71 m0,O.arena 74 m1,O.box 64 (V.agg [V.ptr 3 0 0,V.int .i64 m2_1,V.int .i64 m2_2,V.tail 4 0]) false,O.box 56 (V.agg [V.tail 5 0,V.tail 6 0]) false,O.row 75 m4 0,O.row 9 m5 0,O.row 85 m6 0] <|
  gd (decide (0<=L_1)) <|
  gd (decide (L_1.toNat < m4.length)) <|
  idxK m4 (0+L_1.toNat) fun v_2 =>
  kP 74 v_2 fun p_1 =>
  idxK m1 p_1 fun v_3 =>
  d74 v_3 fun page_1 s_1 pins_1 dirty_1 first_1 last_1 =>
  idxK m1 p_1 fun v_4 =>
  d74 v_4 fun page_2 s_2 pins_2 dirty_2 first_2 last_2 =>
  some (.doneM (V.int .i64 0) [O.arena 71 m0,O.arena 74 ((m1).set p_1 (V.agg [V.int .i64 page_2,V.str s_2,V.int .i64 (W .i64 (pins_1 - 1)),V.bool dirty_2,V.int .i64 first_2,V.int .i64 last_2])),O.box 64 (V.agg [V.ptr 3 0 0,V.int .i64 m2_1,V.int .i64 m2_2,V.tail 4 0]) false,O.box 56 (V.agg [V.tail 5 0,V.tail 6 0]) false,O.row 75 m4 0,O.row 9 m5 0,O.row 85 m6 0])))
theorem e26_eq (x1:Int) (m0 m1:List V) (m2_1 m2_2:Int) (m4 m5 m6:List V):enterK qk true fa26 [V.ptr 2 0 0,V.int .i64 x1] [O.arena 71 m0,O.arena 74 m1,O.box 64 (V.agg [V.ptr 3 0 0,V.int .i64 m2_1,V.int .i64 m2_2,V.tail 4 0]) false,O.box 56 (V.agg [V.tail 5 0,V.tail 6 0]) false,O.row 75 m4 0,O.row 9 m5 0,O.row 85 m6 0]=e26 x1 m0 m1 m2_1 m2_2 m4 m5 m6:=by kernel_rfl
theorem e26_run (x1:Int) (m0 m1:List V) (m2_1 m2_2:Int) (m4 m5 m6:List V) {o:Out} {r:V × List O} (h:e26 x1 m0 m1 m2_1 m2_2 m4 m5 m6=some o) (hg:GoN qk 7 fa26 ⟨true,false⟩ [O.arena 71 m0,O.arena 74 m1,O.box 64 (V.agg [V.ptr 3 0 0,V.int .i64 m2_1,V.int .i64 m2_2,V.tail 4 0]) false,O.box 56 (V.agg [V.tail 5 0,V.tail 6 0]) false,O.row 75 m4 0,O.row 9 m5 0,O.row 85 m6 0] o r):icC qcfg ⟨true,false⟩ 26 [V.ptr 2 0 0,V.int .i64 x1] [O.arena 71 m0,O.arena 74 m1,O.box 64 (V.agg [V.ptr 3 0 0,V.int .i64 m2_1,V.int .i64 m2_2,V.tail 4 0]) false,O.box 56 (V.agg [V.tail 5 0,V.tail 6 0]) false,O.row 75 m4 0,O.row 9 m5 0,O.row 85 m6 0]=some r:=icC_go qik rfl fa26_eq ((e26_eq ..).trans h) hg
noncomputable def fa28:FA:=(fnA qcfg.P (qcfg.rxf 28) 28).getD faN
theorem fa28_eq:fnA qcfg.P (qcfg.rxf 28) 28=some fa28:=fa_of (by kernel_rfl)
noncomputable def e28 (x1:Int) (x2:List UInt8) (x3:Int) (m0 m1:List V) (m2_1 m2_2:Int) (m4 m5 m6:List V):R :=
 icR qcfg ⟨true,false⟩ mk34 34 [V.ptr 2 0 0,V.int .i64 x1] [O.arena 71 m0,O.arena 74 m1,O.box 64 (V.agg [V.ptr 3 0 0,V.int .i64 m2_1,V.int .i64 m2_2,V.tail 4 0]) false,O.box 56 (V.agg [V.tail 5 0,V.tail 6 0]) false,O.row 75 m4 0,O.row 9 m5 0,O.row 85 m6 0] fun L =>
 gdS [O.arena 71 m0,O.arena 74 m1,O.box 64 (V.agg [V.ptr 3 0 0,V.int .i64 m2_1,V.int .i64 m2_2,V.tail 4 0]) false,O.box 56 (V.agg [V.tail 5 0,V.tail 6 0]) false,O.row 75 m4 0,O.row 9 m5 0,O.row 85 m6 0] <|
 cond (decide (L < 0))
 (some (.doneM (V.int .i64 7) [O.arena 71 m0,O.arena 74 m1,O.box 64 (V.agg [V.ptr 3 0 0,V.int .i64 m2_1,V.int .i64 m2_2,V.tail 4 0]) false,O.box 56 (V.agg [V.tail 5 0,V.tail 6 0]) false,O.row 75 m4 0,O.row 9 m5 0,O.row 85 m6 0]))
 (gd (decide (0<=L)) <|
  gd (decide (L.toNat < m4.length)) <|
  idxK m4 (0+L.toNat) fun v =>
  kP 74 v fun p =>
  idxK m1 p fun v_1 =>
  d74 v_1 fun page s pins dirty first last =>
  cond (pins==(0:Int))
 (some (.doneM (V.int .i64 9) [O.arena 71 m0,O.arena 74 m1,O.box 64 (V.agg [V.ptr 3 0 0,V.int .i64 m2_1,V.int .i64 m2_2,V.tail 4 0]) false,O.box 56 (V.agg [V.tail 5 0,V.tail 6 0]) false,O.row 75 m4 0,O.row 9 m5 0,O.row 85 m6 0]))
 (cond (decide ((x2.length:Int) > 252))
 (some (.doneM (V.int .i64 2) [O.arena 71 m0,O.arena 74 m1,O.box 64 (V.agg [V.ptr 3 0 0,V.int .i64 m2_1,V.int .i64 m2_2,V.tail 4 0]) false,O.box 56 (V.agg [V.tail 5 0,V.tail 6 0]) false,O.row 75 m4 0,O.row 9 m5 0,O.row 85 m6 0]))
 (icR qcfg ⟨true,false⟩ mk34 34 [V.ptr 2 0 0,V.int .i64 x1] [O.arena 71 m0,O.arena 74 m1,O.box 64 (V.agg [V.ptr 3 0 0,V.int .i64 m2_1,V.int .i64 m2_2,V.tail 4 0]) false,O.box 56 (V.agg [V.tail 5 0,V.tail 6 0]) false,O.row 75 m4 0,O.row 9 m5 0,O.row 85 m6 0] fun L_1 =>
  gdS [O.arena 71 m0,O.arena 74 m1,O.box 64 (V.agg [V.ptr 3 0 0,V.int .i64 m2_1,V.int .i64 m2_2,V.tail 4 0]) false,O.box 56 (V.agg [V.tail 5 0,V.tail 6 0]) false,O.row 75 m4 0,O.row 9 m5 0,O.row 85 m6 0] <|
  gd (decide (0<=L_1)) <|
  gd (decide (L_1.toNat < m4.length)) <|
  idxK m4 (0+L_1.toNat) fun v_2 =>
  kP 74 v_2 fun p_1 =>
  cond (decide (x3 < 1))
 (some (.doneM (V.int .i64 1) [O.arena 71 m0,O.arena 74 m1,O.box 64 (V.agg [V.ptr 3 0 0,V.int .i64 m2_1,V.int .i64 m2_2,V.tail 4 0]) false,O.box 56 (V.agg [V.tail 5 0,V.tail 6 0]) false,O.row 75 m4 0,O.row 9 m5 0,O.row 85 m6 0]))
 (idxK m1 p_1 fun v_3 =>
  d74 v_3 fun page_1 s_1 pins_1 dirty_1 first_1 last_1 =>
  cond (decide (x3 < last_1))
 (some (.doneM (V.int .i64 1) [O.arena 71 m0,O.arena 74 m1,O.box 64 (V.agg [V.ptr 3 0 0,V.int .i64 m2_1,V.int .i64 m2_2,V.tail 4 0]) false,O.box 56 (V.agg [V.tail 5 0,V.tail 6 0]) false,O.row 75 m4 0,O.row 9 m5 0,O.row 85 m6 0]))
 (idxK m1 p_1 fun v_4 =>
  d74 v_4 fun page_2 s_2 pins_2 dirty_2 first_2 last_2 =>
  cond (!dirty_2)
 (idxK m1 p_1 fun v_5 =>
  d74 v_5 fun page_3 s_3 pins_3 dirty_3 first_3 last_3 =>
  pcK qcfg 41 [V.str x2,V.int .i64 252] fun r =>
  d57 r fun r41_0 r41_1 =>
  idxK ((m1).set p_1 (V.agg [V.int .i64 page_3,V.str s_3,V.int .i64 pins_3,V.bool dirty_3,V.int .i64 x3,V.int .i64 last_3])) p_1 fun v_6 =>
  d74 v_6 fun page_4 s_4 pins_4 dirty_4 first_4 last_4 =>
  idxK (((m1).set p_1 (V.agg [V.int .i64 page_3,V.str s_3,V.int .i64 pins_3,V.bool dirty_3,V.int .i64 x3,V.int .i64 last_3])).set p_1 (V.agg [V.int .i64 page_4,V.str r41_0,V.int .i64 pins_4,V.bool dirty_4,V.int .i64 first_4,V.int .i64 last_4])) p_1 fun v_7 =>
  d74 v_7 fun page_5 s_5 pins_5 dirty_5 first_5 last_5 =>
  idxK ((((m1).set p_1 (V.agg [V.int .i64 page_3,V.str s_3,V.int .i64 pins_3,V.bool dirty_3,V.int .i64 x3,V.int .i64 last_3])).set p_1 (V.agg [V.int .i64 page_4,V.str r41_0,V.int .i64 pins_4,V.bool dirty_4,V.int .i64 first_4,V.int .i64 last_4])).set p_1 (V.agg [V.int .i64 page_5,V.str s_5,V.int .i64 pins_5,V.bool true,V.int .i64 first_5,V.int .i64 last_5])) p_1 fun v_8 =>
  d74 v_8 fun page_6 s_6 pins_6 dirty_6 first_6 last_6 =>
  some (.doneM (V.int .i64 0) [O.arena 71 m0,O.arena 74 (((((m1).set p_1 (V.agg [V.int .i64 page_3,V.str s_3,V.int .i64 pins_3,V.bool dirty_3,V.int .i64 x3,V.int .i64 last_3])).set p_1 (V.agg [V.int .i64 page_4,V.str r41_0,V.int .i64 pins_4,V.bool dirty_4,V.int .i64 first_4,V.int .i64 last_4])).set p_1 (V.agg [V.int .i64 page_5,V.str s_5,V.int .i64 pins_5,V.bool true,V.int .i64 first_5,V.int .i64 last_5])).set p_1 (V.agg [V.int .i64 page_6,V.str s_6,V.int .i64 pins_6,V.bool dirty_6,V.int .i64 first_6,V.int .i64 x3])),O.box 64 (V.agg [V.ptr 3 0 0,V.int .i64 m2_1,V.int .i64 m2_2,V.tail 4 0]) false,O.box 56 (V.agg [V.tail 5 0,V.tail 6 0]) false,O.row 75 m4 0,O.row 9 m5 0,O.row 85 m6 0]))
 (pcK qcfg 41 [V.str x2,V.int .i64 252] fun r_1 =>
  d57 r_1 fun r41_0_1 r41_1_1 =>
  idxK m1 p_1 fun v_9 =>
  d74 v_9 fun page_7 s_7 pins_7 dirty_7 first_7 last_7 =>
  idxK ((m1).set p_1 (V.agg [V.int .i64 page_7,V.str r41_0_1,V.int .i64 pins_7,V.bool dirty_7,V.int .i64 first_7,V.int .i64 last_7])) p_1 fun v_10 =>
  d74 v_10 fun page_8 s_8 pins_8 dirty_8 first_8 last_8 =>
  idxK (((m1).set p_1 (V.agg [V.int .i64 page_7,V.str r41_0_1,V.int .i64 pins_7,V.bool dirty_7,V.int .i64 first_7,V.int .i64 last_7])).set p_1 (V.agg [V.int .i64 page_8,V.str s_8,V.int .i64 pins_8,V.bool true,V.int .i64 first_8,V.int .i64 last_8])) p_1 fun v_11 =>
  d74 v_11 fun page_9 s_9 pins_9 dirty_9 first_9 last_9 =>
  some (.doneM (V.int .i64 0) [O.arena 71 m0,O.arena 74 ((((m1).set p_1 (V.agg [V.int .i64 page_7,V.str r41_0_1,V.int .i64 pins_7,V.bool dirty_7,V.int .i64 first_7,V.int .i64 last_7])).set p_1 (V.agg [V.int .i64 page_8,V.str s_8,V.int .i64 pins_8,V.bool true,V.int .i64 first_8,V.int .i64 last_8])).set p_1 (V.agg [V.int .i64 page_9,V.str s_9,V.int .i64 pins_9,V.bool dirty_9,V.int .i64 first_9,V.int .i64 x3])),O.box 64 (V.agg [V.ptr 3 0 0,V.int .i64 m2_1,V.int .i64 m2_2,V.tail 4 0]) false,O.box 56 (V.agg [V.tail 5 0,V.tail 6 0]) false,O.row 75 m4 0,O.row 9 m5 0,O.row 85 m6 0])))))))
theorem e28_eq (x1:Int) (x2:List UInt8) (x3:Int) (m0 m1:List V) (m2_1 m2_2:Int) (m4 m5 m6:List V):enterK qk true fa28 [V.ptr 2 0 0,V.int .i64 x1,V.str x2,V.int .i64 x3] [O.arena 71 m0,O.arena 74 m1,O.box 64 (V.agg [V.ptr 3 0 0,V.int .i64 m2_1,V.int .i64 m2_2,V.tail 4 0]) false,O.box 56 (V.agg [V.tail 5 0,V.tail 6 0]) false,O.row 75 m4 0,O.row 9 m5 0,O.row 85 m6 0]=e28 x1 x2 x3 m0 m1 m2_1 m2_2 m4 m5 m6:=by kernel_rfl
theorem e28_run (x1:Int) (x2:List UInt8) (x3:Int) (m0 m1:List V) (m2_1 m2_2:Int) (m4 m5 m6:List V) {o:Out} {r:V × List O} (h:e28 x1 x2 x3 m0 m1 m2_1 m2_2 m4 m5 m6=some o) (hg:GoN qk 7 fa28 ⟨true,false⟩ [O.arena 71 m0,O.arena 74 m1,O.box 64 (V.agg [V.ptr 3 0 0,V.int .i64 m2_1,V.int .i64 m2_2,V.tail 4 0]) false,O.box 56 (V.agg [V.tail 5 0,V.tail 6 0]) false,O.row 75 m4 0,O.row 9 m5 0,O.row 85 m6 0] o r):icC qcfg ⟨true,false⟩ 28 [V.ptr 2 0 0,V.int .i64 x1,V.str x2,V.int .i64 x3] [O.arena 71 m0,O.arena 74 m1,O.box 64 (V.agg [V.ptr 3 0 0,V.int .i64 m2_1,V.int .i64 m2_2,V.tail 4 0]) false,O.box 56 (V.agg [V.tail 5 0,V.tail 6 0]) false,O.row 75 m4 0,O.row 9 m5 0,O.row 85 m6 0]=some r:=icC_go qik rfl fa28_eq ((e28_eq ..).trans h) hg
noncomputable def fa31:FA:=(fnA qcfg.P (qcfg.rxf 31) 31).getD faN
theorem fa31_eq:fnA qcfg.P (qcfg.rxf 31) 31=some fa31:=fa_of (by kernel_rfl)
def T31_0 (x4:Nat) (x5:Int) (m0 m1:List V) (m2_1 m2_2:Int) (m4 m5:List V) (m6 m7:List V):S:=⟨[V.ptr 2 0 0,V.junk,V.int .i64 0,V.int .i64 0,V.win 7 0 x4,V.int .i64 x5]++(JU 30),[O.arena 71 m0,O.arena 74 m1,O.box 64 (V.agg [V.ptr 3 0 0,V.int .i64 m2_1,V.int .i64 m2_2,V.tail 4 0]) false,O.box 56 (V.agg [V.tail 5 0,V.tail 6 0]) false,O.row 75 m4 0,O.row 9 m5 0,O.row 85 m6 0,O.row 3 m7 0]⟩
def T31_0b (x3:Int) (x4:Nat) (x5:Int) (m0 m1:List V) (m2_1 m2_2:Int) (m4 m7:List V) (m8 m9:List V):S:=⟨[V.ptr 2 0 0,V.junk,V.int .i64 0,V.int .i64 x3,V.win 7 0 x4,V.int .i64 x5]++(JU 30),[O.arena 71 m0,O.arena 74 m1,O.box 64 (V.agg [V.ptr 3 0 0,V.int .i64 m2_1,V.int .i64 m2_2,V.tail 4 0]) false,O.box 56 (V.agg [V.tail 8 0,V.tail 9 0]) false,O.row 75 m4 0,O.dead,O.dead,O.row 3 m7 0,O.row 9 m8 0,O.row 85 m9 0]⟩
noncomputable def e31 (m0 m1:List V) (m2_1 m2_2:Int) (m4 m5 m6:List V):R :=
 icM qcfg ⟨true,true⟩ mk13 13 [V.ptr 2 0 0,V.bool true] [O.arena 71 m0,O.arena 74 m1,O.box 64 (V.agg [V.ptr 3 0 0,V.int .i64 m2_1,V.int .i64 m2_2,V.tail 4 0]) false,O.box 56 (V.agg [V.tail 5 0,V.tail 6 0]) false,O.row 75 m4 0,O.row 9 m5 0,O.row 85 m6 0] fun L =>
 some (.head 0 (T31_0 L.1 0 L.2.1 L.2.2.1 L.2.2.2.1 L.2.2.2.2.1 L.2.2.2.2.2.1 L.2.2.2.2.2.2.1 L.2.2.2.2.2.2.2.1 L.2.2.2.2.2.2.2.2))
theorem e31_eq (m0 m1:List V) (m2_1 m2_2:Int) (m4 m5 m6:List V):enterK qk true fa31 [V.ptr 2 0 0] [O.arena 71 m0,O.arena 74 m1,O.box 64 (V.agg [V.ptr 3 0 0,V.int .i64 m2_1,V.int .i64 m2_2,V.tail 4 0]) false,O.box 56 (V.agg [V.tail 5 0,V.tail 6 0]) false,O.row 75 m4 0,O.row 9 m5 0,O.row 85 m6 0]=e31 m0 m1 m2_1 m2_2 m4 m5 m6:=by kernel_rfl
theorem e31_run (m0 m1:List V) (m2_1 m2_2:Int) (m4 m5 m6:List V) {o:Out} {r:V × List O} (h:e31 m0 m1 m2_1 m2_2 m4 m5 m6=some o) (hg:GoN qk 7 fa31 ⟨false,false⟩ [O.arena 71 m0,O.arena 74 m1,O.box 64 (V.agg [V.ptr 3 0 0,V.int .i64 m2_1,V.int .i64 m2_2,V.tail 4 0]) false,O.box 56 (V.agg [V.tail 5 0,V.tail 6 0]) false,O.row 75 m4 0,O.row 9 m5 0,O.row 85 m6 0] o r):icC qcfg ⟨false,false⟩ 31 [V.ptr 2 0 0] [O.arena 71 m0,O.arena 74 m1,O.box 64 (V.agg [V.ptr 3 0 0,V.int .i64 m2_1,V.int .i64 m2_2,V.tail 4 0]) false,O.box 56 (V.agg [V.tail 5 0,V.tail 6 0]) false,O.row 75 m4 0,O.row 9 m5 0,O.row 85 m6 0]=some r:=icC_go qik rfl fa31_eq ((e31_eq ..).trans h) hg
noncomputable def s31_0 (x4:Nat) (x5:Int) (m0 m1:List V) (m2_1 m2_2:Int) (m4 m5:List V) (m6 m7:List V):R :=
 gd (decide (0+x4<=m7.length)) <|
 cond (decide (x5 < ((((m7).drop 0).take x4).length:Int)))
 (gd (decide (0<=x5)) <|
  gd (decide (x5.toNat < x4)) <|
  gd (decide (0+x4<=m7.length)) <|
  idxK m7 (0+x5.toNat) fun v =>
  kI .i64 v fun n =>
  icR qcfg ⟨true,false⟩ mk34 34 [V.ptr 2 0 0,V.int .i64 n] [O.arena 71 m0,O.arena 74 m1,O.box 64 (V.agg [V.ptr 3 0 0,V.int .i64 m2_1,V.int .i64 m2_2,V.tail 4 0]) false,O.box 56 (V.agg [V.tail 5 0,V.tail 6 0]) false,O.row 75 m4 0,O.row 9 m5 0,O.row 85 m6 0] fun L =>
  gdS [O.arena 71 m0,O.arena 74 m1,O.box 64 (V.agg [V.ptr 3 0 0,V.int .i64 m2_1,V.int .i64 m2_2,V.tail 4 0]) false,O.box 56 (V.agg [V.tail 5 0,V.tail 6 0]) false,O.row 75 m4 0,O.row 9 m5 0,O.row 85 m6 0,O.row 3 m7 0] <|
  gd (decide (0<=L)) <|
  gd (decide (L.toNat < m4.length)) <|
  idxK m4 (0+L.toNat) fun v_1 =>
  kP 74 v_1 fun p =>
  idxK m1 p fun v_2 =>
  d74 v_2 fun page s pins dirty first last =>
  cond dirty
 (idxK m1 p fun v_3 =>
  d74 v_3 fun page_1 s_1 pins_1 dirty_1 first_1 last_1 =>
  cond (decide (last_1<=m2_2))
 (idxK m1 p fun v_4 =>
  d74 v_4 fun page_2 s_2 pins_2 dirty_2 first_2 last_2 =>
  idxK m1 p fun v_5 =>
  d74 v_5 fun page_3 s_3 pins_3 dirty_3 first_3 last_3 =>
  icM qcfg ⟨false,false⟩ mk70 70 [V.ptr 2 0 0,V.int .i64 page_2,V.str s_3] [O.arena 71 m0,O.arena 74 m1,O.box 56 (V.agg [V.tail 3 0,V.tail 4 0]) false,O.row 9 m5 0,O.row 85 m6 0] fun L_1 =>
  idxK L_1.2.2.1 p fun v_6 =>
  d74 v_6 fun page_4 s_4 pins_4 dirty_4 first_4 last_4 =>
  some (.head 0 (T31_0b 1 x4 (W .i64 (x5+1)) L_1.2.1 ((L_1.2.2.1).set p (V.agg [V.int .i64 page_4,V.str s_4,V.int .i64 pins_4,V.bool false,V.int .i64 first_4,V.int .i64 last_4])) m2_1 m2_2 m4 m7 L_1.2.2.2.1 L_1.2.2.2.2)))
 (some (.head 0 (T31_0 x4 (W .i64 (x5+1)) m0 m1 m2_1 m2_2 m4 m5 m6 m7))))
 (some (.head 0 (T31_0 x4 (W .i64 (x5+1)) m0 m1 m2_1 m2_2 m4 m5 m6 m7))))
 (some (.doneM (V.int .i64 0) [O.arena 71 m0,O.arena 74 m1,O.box 64 (V.agg [V.ptr 3 0 0,V.int .i64 m2_1,V.int .i64 m2_2,V.tail 4 0]) false,O.box 56 (V.agg [V.tail 5 0,V.tail 6 0]) false,O.row 75 m4 0,O.row 9 m5 0,O.row 85 m6 0,O.row 3 m7 0]))
theorem s31_0_run (x4:Nat) (x5:Int) (m0 m1:List V) (m2_1 m2_2:Int) (m4 m5:List V) (m6 m7:List V) {o o':Out} (h:s31_0 x4 x5 m0 m1 m2_1 m2_2 m4 m5 m6 m7=some o) (hg:Go qk true 7 fa31 o o'):Go qk true 7 fa31 (.head 0 (T31_0 x4 x5 m0 m1 m2_1 m2_2 m4 m5 m6 m7)) o':=.step (Eq.trans (by kernel_rfl) h) hg
noncomputable def s31_0b (x3:Int) (x4:Nat) (x5:Int) (m0 m1:List V) (m2_1 m2_2:Int) (m4 m7:List V) (m8 m9:List V):R :=
 gd (decide (0+x4<=m7.length)) <|
 cond (decide (x5 < ((((m7).drop 0).take x4).length:Int)))
 (gd (decide (0<=x5)) <|
  gd (decide (x5.toNat < x4)) <|
  gd (decide (0+x4<=m7.length)) <|
  idxK m7 (0+x5.toNat) fun v =>
  kI .i64 v fun n =>
  icR qcfg ⟨true,false⟩ mk34 34 [V.ptr 2 0 0,V.int .i64 n] [O.arena 71 m0,O.arena 74 m1,O.box 64 (V.agg [V.ptr 3 0 0,V.int .i64 m2_1,V.int .i64 m2_2,V.tail 4 0]) false,O.box 56 (V.agg [V.tail 5 0,V.tail 6 0]) false,O.row 75 m4 0,O.row 9 m8 0,O.row 85 m9 0] fun L =>
  gdS [O.arena 71 m0,O.arena 74 m1,O.box 64 (V.agg [V.ptr 3 0 0,V.int .i64 m2_1,V.int .i64 m2_2,V.tail 4 0]) false,O.box 56 (V.agg [V.tail 8 0,V.tail 9 0]) false,O.row 75 m4 0,O.dead,O.dead,O.row 3 m7 0,O.row 9 m8 0,O.row 85 m9 0] <|
  gd (decide (0<=L)) <|
  gd (decide (L.toNat < m4.length)) <|
  idxK m4 (0+L.toNat) fun v_1 =>
  kP 74 v_1 fun p =>
  idxK m1 p fun v_2 =>
  d74 v_2 fun page s pins dirty first last =>
  cond dirty
 (idxK m1 p fun v_3 =>
  d74 v_3 fun page_1 s_1 pins_1 dirty_1 first_1 last_1 =>
  cond (decide (last_1<=m2_2))
 (idxK m1 p fun v_4 =>
  d74 v_4 fun page_2 s_2 pins_2 dirty_2 first_2 last_2 =>
  idxK m1 p fun v_5 =>
  d74 v_5 fun page_3 s_3 pins_3 dirty_3 first_3 last_3 =>
  icM qcfg ⟨false,false⟩ mk70 70 [V.ptr 2 0 0,V.int .i64 page_2,V.str s_3] [O.arena 71 m0,O.arena 74 m1,O.box 56 (V.agg [V.tail 3 0,V.tail 4 0]) false,O.row 9 m8 0,O.row 85 m9 0] fun L_1 =>
  idxK L_1.2.2.1 p fun v_6 =>
  d74 v_6 fun page_4 s_4 pins_4 dirty_4 first_4 last_4 =>
  some (.head 0 (T31_0b (W .i64 (x3+1)) x4 (W .i64 (x5+1)) L_1.2.1 ((L_1.2.2.1).set p (V.agg [V.int .i64 page_4,V.str s_4,V.int .i64 pins_4,V.bool false,V.int .i64 first_4,V.int .i64 last_4])) m2_1 m2_2 m4 m7 L_1.2.2.2.1 L_1.2.2.2.2)))
 (some (.head 0 (T31_0b x3 x4 (W .i64 (x5+1)) m0 m1 m2_1 m2_2 m4 m7 m8 m9))))
 (some (.head 0 (T31_0b x3 x4 (W .i64 (x5+1)) m0 m1 m2_1 m2_2 m4 m7 m8 m9))))
 (some (.doneM (V.int .i64 x3) [O.arena 71 m0,O.arena 74 m1,O.box 64 (V.agg [V.ptr 3 0 0,V.int .i64 m2_1,V.int .i64 m2_2,V.tail 4 0]) false,O.box 56 (V.agg [V.tail 8 0,V.tail 9 0]) false,O.row 75 m4 0,O.dead,O.dead,O.row 3 m7 0,O.row 9 m8 0,O.row 85 m9 0]))
theorem s31_0b_run (x3:Int) (x4:Nat) (x5:Int) (m0 m1:List V) (m2_1 m2_2:Int) (m4 m7:List V) (m8 m9:List V) {o o':Out} (h:s31_0b x3 x4 x5 m0 m1 m2_1 m2_2 m4 m7 m8 m9=some o) (hg:Go qk true 7 fa31 o o'):Go qk true 7 fa31 (.head 0 (T31_0b x3 x4 x5 m0 m1 m2_1 m2_2 m4 m7 m8 m9)) o':=.step (Eq.trans (by kernel_rfl) h) hg
noncomputable def fa34:FA:=(fnA qcfg.P (qcfg.rxf 34) 34).getD faN
theorem fa34_eq:fnA qcfg.P (qcfg.rxf 34) 34=some fa34:=fa_of (by kernel_rfl)
def T34_0 (x1 x5:Int) (m0 m1:List V) (m2_1 m2_2:Int) (m4 m5 m6:List V):S:=⟨[V.ptr 2 0 0,V.int .i64 x1,V.junk,V.junk,V.int .i64 0,V.int .i64 x5]++(JU 22),[O.arena 71 m0,O.arena 74 m1,O.box 64 (V.agg [V.ptr 3 0 0,V.int .i64 m2_1,V.int .i64 m2_2,V.tail 4 0]) false,O.box 56 (V.agg [V.tail 5 0,V.tail 6 0]) false,O.row 75 m4 0,O.row 9 m5 0,O.row 85 m6 0]⟩
noncomputable def e34 (x1:Int) (m0 m1:List V) (m2_1 m2_2:Int) (m4 m5 m6:List V):R :=
 some (.head 0 (T34_0 x1 0 m0 m1 m2_1 m2_2 m4 m5 m6))
theorem e34_eq (x1:Int) (m0 m1:List V) (m2_1 m2_2:Int) (m4 m5 m6:List V):enterK qk true fa34 [V.ptr 2 0 0,V.int .i64 x1] [O.arena 71 m0,O.arena 74 m1,O.box 64 (V.agg [V.ptr 3 0 0,V.int .i64 m2_1,V.int .i64 m2_2,V.tail 4 0]) false,O.box 56 (V.agg [V.tail 5 0,V.tail 6 0]) false,O.row 75 m4 0,O.row 9 m5 0,O.row 85 m6 0]=e34 x1 m0 m1 m2_1 m2_2 m4 m5 m6:=by kernel_rfl
theorem e34_run (x1:Int) (m0 m1:List V) (m2_1 m2_2:Int) (m4 m5 m6:List V) {o:Out} {r:V × List O} (h:e34 x1 m0 m1 m2_1 m2_2 m4 m5 m6=some o) (hg:GoN qk 7 fa34 ⟨true,false⟩ [O.arena 71 m0,O.arena 74 m1,O.box 64 (V.agg [V.ptr 3 0 0,V.int .i64 m2_1,V.int .i64 m2_2,V.tail 4 0]) false,O.box 56 (V.agg [V.tail 5 0,V.tail 6 0]) false,O.row 75 m4 0,O.row 9 m5 0,O.row 85 m6 0] o r):icC qcfg ⟨true,false⟩ 34 [V.ptr 2 0 0,V.int .i64 x1] [O.arena 71 m0,O.arena 74 m1,O.box 64 (V.agg [V.ptr 3 0 0,V.int .i64 m2_1,V.int .i64 m2_2,V.tail 4 0]) false,O.box 56 (V.agg [V.tail 5 0,V.tail 6 0]) false,O.row 75 m4 0,O.row 9 m5 0,O.row 85 m6 0]=some r:=icC_go qik rfl fa34_eq ((e34_eq ..).trans h) hg
noncomputable def s34_0 (x1 x5:Int) (m0 m1:List V) (m2_1 m2_2:Int) (m4 m5 m6:List V):R :=
 cond (decide (x5 < (m4.length:Int)))
 (gd (decide (0<=x5)) <|
  gd (decide (x5.toNat < m4.length)) <|
  idxK m4 (0+x5.toNat) fun v =>
  kP 74 v fun p =>
  idxK m1 p fun v_1 =>
  d74 v_1 fun page s pins dirty first last =>
  cond (page==x1)
 (some (.doneM (V.int .i64 x5) [O.arena 71 m0,O.arena 74 m1,O.box 64 (V.agg [V.ptr 3 0 0,V.int .i64 m2_1,V.int .i64 m2_2,V.tail 4 0]) false,O.box 56 (V.agg [V.tail 5 0,V.tail 6 0]) false,O.row 75 m4 0,O.row 9 m5 0,O.row 85 m6 0]))
 (some (.head 0 (T34_0 x1 (W .i64 (x5+1)) m0 m1 m2_1 m2_2 m4 m5 m6))))
 (some (.doneM (V.int .i64 (-1)) [O.arena 71 m0,O.arena 74 m1,O.box 64 (V.agg [V.ptr 3 0 0,V.int .i64 m2_1,V.int .i64 m2_2,V.tail 4 0]) false,O.box 56 (V.agg [V.tail 5 0,V.tail 6 0]) false,O.row 75 m4 0,O.row 9 m5 0,O.row 85 m6 0]))
theorem s34_0_run (x1 x5:Int) (m0 m1:List V) (m2_1 m2_2:Int) (m4 m5 m6:List V) {o o':Out} (h:s34_0 x1 x5 m0 m1 m2_1 m2_2 m4 m5 m6=some o) (hg:Go qk true 7 fa34 o o'):Go qk true 7 fa34 (.head 0 (T34_0 x1 x5 m0 m1 m2_1 m2_2 m4 m5 m6)) o':=.step (Eq.trans (by kernel_rfl) h) hg
noncomputable def fa35:FA:=(fnA qcfg.P (qcfg.rxf 35) 35).getD faN
theorem fa35_eq:fnA qcfg.P (qcfg.rxf 35) 35=some fa35:=fa_of (by kernel_rfl)
def T35_0 (x5 x6:Int) (m0 m1 m2:List V) (m4_1 m4_4 m5_0:Int) (m6:List (V × V)) (m7:List V) (m8:List (V × V)) (m9:List V) (z9:Nat):S:=⟨[V.own 2,V.fn 36 [V.ptr 3 0 0],V.junk,V.junk,V.own 10,V.int .i64 x5,V.int .i64 x6]++(JU 35),[O.arena 71 m0,O.arena 74 m1,O.row 3 m2 0,O.box 30 (V.ptr 4 0 0) false,O.box 61 (V.agg [V.ptr 5 0 0,V.int .i64 m4_1,V.mp 6,V.tail 7 0,V.int .i64 m4_4]) false,O.box 52 (V.agg [V.int .i64 m5_0,V.mp 8,V.tail 9 0]) false,O.map m6,O.row 3 m7 0,O.map m8,O.row 83 m9 z9,O.row 3 [] 0]⟩
noncomputable def e35 (m0 m1 m2:List V) (m4_1 m4_4 m5_0:Int) (m6:List (V × V)) (m7:List V) (m8:List (V × V)) (m9:List V) (z9:Nat):R :=
 icM qcfg ⟨true,false⟩ mk59b 59 [V.own 2,V.fn 36 [V.ptr 3 0 0]] [O.arena 71 m0,O.arena 74 m1,O.row 3 m2 0,O.box 30 (V.ptr 4 0 0) false,O.box 61 (V.agg [V.ptr 5 0 0,V.int .i64 m4_1,V.mp 6,V.tail 7 0,V.int .i64 m4_4]) false,O.box 52 (V.agg [V.int .i64 m5_0,V.mp 8,V.tail 9 0]) false,O.map m6,O.row 3 m7 0,O.map m8,O.row 83 m9 z9] fun L =>
 cond (L.1==((-1):Int))
 (some (.doneM (V.own 2) [O.arena 71 L.2.1,O.arena 74 L.2.2.1,O.row 3 L.2.2.2.1 0,O.box 30 (V.ptr 4 0 0) false,O.box 61 (V.agg [V.ptr 5 0 0,V.int .i64 L.2.2.2.2.1,V.mp 6,V.tail 7 0,V.int .i64 L.2.2.2.2.2.1]) false,O.box 52 (V.agg [V.int .i64 L.2.2.2.2.2.2.1,V.mp 8,V.tail 9 0]) false,O.map L.2.2.2.2.2.2.2.1,O.row 3 L.2.2.2.2.2.2.2.2.1 0,O.map L.2.2.2.2.2.2.2.2.2.1,O.row 83 L.2.2.2.2.2.2.2.2.2.2.1 L.2.2.2.2.2.2.2.2.2.2.2,O.row 3 [] 0]))
 (some (.head 0 (T35_0 L.1 (W .i64 (L.1+1)) L.2.1 L.2.2.1 L.2.2.2.1 L.2.2.2.2.1 L.2.2.2.2.2.1 L.2.2.2.2.2.2.1 L.2.2.2.2.2.2.2.1 L.2.2.2.2.2.2.2.2.1 L.2.2.2.2.2.2.2.2.2.1 L.2.2.2.2.2.2.2.2.2.2.1 L.2.2.2.2.2.2.2.2.2.2.2)))
theorem e35_eq (m0 m1 m2:List V) (m4_1 m4_4 m5_0:Int) (m6:List (V × V)) (m7:List V) (m8:List (V × V)) (m9:List V) (z9:Nat):enterK qk true fa35 [V.own 2,V.fn 36 [V.ptr 3 0 0]] [O.arena 71 m0,O.arena 74 m1,O.row 3 m2 0,O.box 30 (V.ptr 4 0 0) false,O.box 61 (V.agg [V.ptr 5 0 0,V.int .i64 m4_1,V.mp 6,V.tail 7 0,V.int .i64 m4_4]) false,O.box 52 (V.agg [V.int .i64 m5_0,V.mp 8,V.tail 9 0]) false,O.map m6,O.row 3 m7 0,O.map m8,O.row 83 m9 z9]=e35 m0 m1 m2 m4_1 m4_4 m5_0 m6 m7 m8 m9 z9:=by kernel_rfl
theorem e35_run (m0 m1 m2:List V) (m4_1 m4_4 m5_0:Int) (m6:List (V × V)) (m7:List V) (m8:List (V × V)) (m9:List V) (z9:Nat) {o:Out} {r:V × List O} (h:e35 m0 m1 m2 m4_1 m4_4 m5_0 m6 m7 m8 m9 z9=some o) (hg:GoN qk 10 fa35 ⟨true,true⟩ [O.arena 71 m0,O.arena 74 m1,O.row 3 m2 0,O.box 30 (V.ptr 4 0 0) false,O.box 61 (V.agg [V.ptr 5 0 0,V.int .i64 m4_1,V.mp 6,V.tail 7 0,V.int .i64 m4_4]) false,O.box 52 (V.agg [V.int .i64 m5_0,V.mp 8,V.tail 9 0]) false,O.map m6,O.row 3 m7 0,O.map m8,O.row 83 m9 z9] o r):icC qcfg ⟨true,true⟩ 35 [V.own 2,V.fn 36 [V.ptr 3 0 0]] [O.arena 71 m0,O.arena 74 m1,O.row 3 m2 0,O.box 30 (V.ptr 4 0 0) false,O.box 61 (V.agg [V.ptr 5 0 0,V.int .i64 m4_1,V.mp 6,V.tail 7 0,V.int .i64 m4_4]) false,O.box 52 (V.agg [V.int .i64 m5_0,V.mp 8,V.tail 9 0]) false,O.map m6,O.row 3 m7 0,O.map m8,O.row 83 m9 z9]=some r:=icC_go qik rfl fa35_eq ((e35_eq ..).trans h) hg
noncomputable def s35_0 (x5 x6:Int) (m0 m1 m2:List V) (m4_1 m4_4 m5_0:Int) (m6:List (V × V)) (m7:List V) (m8:List (V × V)) (m9:List V) (z9:Nat):R :=
 cond (decide (x6 < (m2.length:Int)))
 (gd (decide (0<=x6)) <|
  gd (decide (x6.toNat < m2.length)) <|
  idxK m2 x6.toNat fun v =>
  kI .i64 v fun n =>
  mfK m6 (V.int .i64 n)
 (none) fun r =>
  kP 71 r fun p =>
  idxK m0 p fun v_1 =>
  d71 v_1 fun s pins dirty first last =>
  cond (!(!dirty))
 (gd (decide (0<=x5)) <|
  gd (decide (x5.toNat < m2.length)) <|
  idxK m2 x5.toNat fun v_2 =>
  kI .i64 v_2 fun n_1 =>
  some (.head 0 (T35_0 (W .i64 (x5+1)) (W .i64 (x6+1)) m0 m1 ((m2).set x5.toNat (V.int .i64 n)) m4_1 m4_4 m5_0 m6 m7 m8 m9 z9)))
 (some (.head 0 (T35_0 x5 (W .i64 (x6+1)) m0 m1 m2 m4_1 m4_4 m5_0 m6 m7 m8 m9 z9))))
 (gd (wfl 1 m2) <|
  gd (decide (0<=x5)) <|
  gd (decide (x5.toNat<=m2.length)) <|
  gd (decide (x5.toNat+(m2.length - x5.toNat)<=m2.length)) <|
  gd (wfl 1 (m2.take x5.toNat++List.replicate (m2.length - x5.toNat) (V.int .i64 0)++m2.drop (x5.toNat+(m2.length - x5.toNat)))) <|
  gd (decide (0<=x5)) <|
  gd (decide (x5.toNat<=(m2.take x5.toNat++List.replicate (m2.length - x5.toNat) (V.int .i64 0)++m2.drop (x5.toNat+(m2.length - x5.toNat))).length)) <|
  some (.doneM (V.win 2 0 (x5.toNat - 0)) [O.arena 71 m0,O.arena 74 m1,O.row 3 (m2.take x5.toNat++List.replicate (m2.length - x5.toNat) (V.int .i64 0)++m2.drop (x5.toNat+(m2.length - x5.toNat))) 0,O.box 30 (V.ptr 4 0 0) false,O.box 61 (V.agg [V.ptr 5 0 0,V.int .i64 m4_1,V.mp 6,V.tail 7 0,V.int .i64 m4_4]) false,O.box 52 (V.agg [V.int .i64 m5_0,V.mp 8,V.tail 9 0]) false,O.map m6,O.row 3 m7 0,O.map m8,O.row 83 m9 z9,O.row 3 [] 0]))
theorem s35_0_run (x5 x6:Int) (m0 m1 m2:List V) (m4_1 m4_4 m5_0:Int) (m6:List (V × V)) (m7:List V) (m8:List (V × V)) (m9:List V) (z9:Nat) {o o':Out} (h:s35_0 x5 x6 m0 m1 m2 m4_1 m4_4 m5_0 m6 m7 m8 m9 z9=some o) (hg:Go qk true 10 fa35 o o'):Go qk true 10 fa35 (.head 0 (T35_0 x5 x6 m0 m1 m2 m4_1 m4_4 m5_0 m6 m7 m8 m9 z9)) o':=.step (Eq.trans (by kernel_rfl) h) hg
noncomputable def fa45:FA:=(fnA qcfg.P (qcfg.rxf 45) 45).getD faN
theorem fa45_eq:fnA qcfg.P (qcfg.rxf 45) 45=some fa45:=fa_of (by kernel_rfl)
noncomputable def e45 (m0 m1:List V) (m2_1 m2_4 m3_0:Int) (m4:List (V × V)) (m5:List V) (m6:List (V × V)) (m7:List V) (z7:Nat):R :=
 cond (decide ((m4.length:Int) < m2_1))
 (some (.doneM (V.int .i64 0) [O.arena 71 m0,O.arena 74 m1,O.box 61 (V.agg [V.ptr 3 0 0,V.int .i64 m2_1,V.mp 4,V.tail 5 0,V.int .i64 m2_4]) false,O.box 52 (V.agg [V.int .i64 m3_0,V.mp 6,V.tail 7 0]) false,O.map m4,O.row 3 m5 0,O.map m6,O.row 83 m7 z7,O.box 30 (V.ptr 2 0 0) false]))
 (icM qcfg ⟨true,false⟩ mk59 59 [V.tail 2 0,V.fn 65 [V.ptr 3 0 0]] [O.arena 71 m0,O.arena 74 m1,O.row 3 m5 0,O.box 30 (V.ptr 4 0 0) false,O.box 61 (V.agg [V.ptr 5 0 0,V.int .i64 m2_1,V.mp 6,V.tail 2 0,V.int .i64 m2_4]) false,O.box 52 (V.agg [V.int .i64 m3_0,V.mp 7,V.tail 8 0]) false,O.map m4,O.map m6,O.row 83 m7 z7] fun L =>
  cond (decide (L.1 < 0))
 (some (.doneM (V.int .i64 6) [O.arena 71 L.2.1,O.arena 74 L.2.2.1,O.box 61 (V.agg [V.ptr 3 0 0,V.int .i64 L.2.2.2.2.1,V.mp 4,V.tail 5 0,V.int .i64 L.2.2.2.2.2.1]) false,O.box 52 (V.agg [V.int .i64 L.2.2.2.2.2.2.1,V.mp 6,V.tail 7 0]) false,O.map L.2.2.2.2.2.2.2.1,O.row 3 L.2.2.2.1 0,O.map L.2.2.2.2.2.2.2.2.1,O.row 83 L.2.2.2.2.2.2.2.2.2.1 L.2.2.2.2.2.2.2.2.2.2,O.box 30 (V.ptr 2 0 0) false]))
 (gd (decide (0<=L.1)) <|
  gd (decide (L.1.toNat < L.2.2.2.1.length)) <|
  idxK L.2.2.2.1 (0+L.1.toNat) fun v =>
  kI .i64 v fun n =>
  mfK L.2.2.2.2.2.2.2.1 (V.int .i64 n)
 (none) fun r =>
  kP 71 r fun p =>
  idxK L.2.1 p fun v_1 =>
  d71 v_1 fun s pins dirty first last =>
  cond dirty
 (mfK L.2.2.2.2.2.2.2.1 (V.int .i64 n)
 (none) fun r_1 =>
  kP 71 r_1 fun p_1 =>
  idxK L.2.1 p_1 fun v_2 =>
  d71 v_2 fun s_1 pins_1 dirty_1 first_1 last_1 =>
  icM qcfg ⟨false,false⟩ mk69 69 [V.ptr 2 0 0,V.int .i64 n,V.str s_1] [O.arena 71 L.2.1,O.arena 74 L.2.2.1,O.box 52 (V.agg [V.int .i64 L.2.2.2.2.2.2.1,V.mp 3,V.tail 4 0]) false,O.map L.2.2.2.2.2.2.2.2.1,O.row 83 L.2.2.2.2.2.2.2.2.2.1 L.2.2.2.2.2.2.2.2.2.2] fun L_1 =>
  mfK L.2.2.2.2.2.2.2.1 (V.int .i64 n)
 (none) fun r_2 =>
  kP 71 r_2 fun p_2 =>
  idxK L_1.2.1 p_2 fun v_3 =>
  d71 v_3 fun s_2 pins_2 dirty_2 first_2 last_2 =>
  opt (mapDel L.2.2.2.2.2.2.2.1 (V.int .i64 n)) fun es =>
  gd (decide (0<=L.1/\L.1<=W .i64 (L.1+1)/\(W .i64 (L.1+1)).toNat<=L.2.2.2.1.length/\L.2.2.2.1.length<=16777216)) <|
  some (.doneM (V.int .i64 0) [O.arena 71 ((L_1.2.1).set p_2 (V.agg [V.str s_2,V.int .i64 pins_2,V.bool false,V.int .i64 first_2,V.int .i64 last_2])),O.arena 74 L_1.2.2.1,O.box 61 (V.agg [V.ptr 3 0 0,V.int .i64 L.2.2.2.2.1,V.mp 4,V.tail 10 0,V.int .i64 L.2.2.2.2.2.1]) false,O.box 52 (V.agg [V.int .i64 L_1.2.2.2.1,V.mp 6,V.tail 9 0]) false,O.map es,O.dead,O.map L_1.2.2.2.2.1,O.dead,O.box 30 (V.ptr 2 0 0) false,O.row 83 L_1.2.2.2.2.2.1 L_1.2.2.2.2.2.2,O.row 3 ((L.2.2.2.1.take L.1.toNat)++(L.2.2.2.1.drop ((W .i64 (L.1+1)).toNat))) 0]))
 (opt (mapDel L.2.2.2.2.2.2.2.1 (V.int .i64 n)) fun es_1 =>
  gd (decide (0<=L.1/\L.1<=W .i64 (L.1+1)/\(W .i64 (L.1+1)).toNat<=L.2.2.2.1.length/\L.2.2.2.1.length<=16777216)) <|
  some (.doneM (V.int .i64 0) [O.arena 71 L.2.1,O.arena 74 L.2.2.1,O.box 61 (V.agg [V.ptr 3 0 0,V.int .i64 L.2.2.2.2.1,V.mp 4,V.tail 9 0,V.int .i64 L.2.2.2.2.2.1]) false,O.box 52 (V.agg [V.int .i64 L.2.2.2.2.2.2.1,V.mp 6,V.tail 7 0]) false,O.map es_1,O.dead,O.map L.2.2.2.2.2.2.2.2.1,O.row 83 L.2.2.2.2.2.2.2.2.2.1 L.2.2.2.2.2.2.2.2.2.2,O.box 30 (V.ptr 2 0 0) false,O.row 3 ((L.2.2.2.1.take L.1.toNat)++(L.2.2.2.1.drop ((W .i64 (L.1+1)).toNat))) 0]))))
theorem e45_eq (m0 m1:List V) (m2_1 m2_4 m3_0:Int) (m4:List (V × V)) (m5:List V) (m6:List (V × V)) (m7:List V) (z7:Nat):enterK qk true fa45 [V.ptr 2 0 0] [O.arena 71 m0,O.arena 74 m1,O.box 61 (V.agg [V.ptr 3 0 0,V.int .i64 m2_1,V.mp 4,V.tail 5 0,V.int .i64 m2_4]) false,O.box 52 (V.agg [V.int .i64 m3_0,V.mp 6,V.tail 7 0]) false,O.map m4,O.row 3 m5 0,O.map m6,O.row 83 m7 z7]=e45 m0 m1 m2_1 m2_4 m3_0 m4 m5 m6 m7 z7:=by kernel_rfl
theorem e45_run (m0 m1:List V) (m2_1 m2_4 m3_0:Int) (m4:List (V × V)) (m5:List V) (m6:List (V × V)) (m7:List V) (z7:Nat) {o:Out} {r:V × List O} (h:e45 m0 m1 m2_1 m2_4 m3_0 m4 m5 m6 m7 z7=some o) (hg:GoN qk 8 fa45 ⟨false,false⟩ [O.arena 71 m0,O.arena 74 m1,O.box 61 (V.agg [V.ptr 3 0 0,V.int .i64 m2_1,V.mp 4,V.tail 5 0,V.int .i64 m2_4]) false,O.box 52 (V.agg [V.int .i64 m3_0,V.mp 6,V.tail 7 0]) false,O.map m4,O.row 3 m5 0,O.map m6,O.row 83 m7 z7] o r):icC qcfg ⟨false,false⟩ 45 [V.ptr 2 0 0] [O.arena 71 m0,O.arena 74 m1,O.box 61 (V.agg [V.ptr 3 0 0,V.int .i64 m2_1,V.mp 4,V.tail 5 0,V.int .i64 m2_4]) false,O.box 52 (V.agg [V.int .i64 m3_0,V.mp 6,V.tail 7 0]) false,O.map m4,O.row 3 m5 0,O.map m6,O.row 83 m7 z7]=some r:=icC_go qik rfl fa45_eq ((e45_eq ..).trans h) hg
noncomputable def fa46:FA:=(fnA qcfg.P (qcfg.rxf 46) 46).getD faN
theorem fa46_eq:fnA qcfg.P (qcfg.rxf 46) 46=some fa46:=fa_of (by kernel_rfl)
noncomputable def e46 (x1:Int) (m0 m1:List V) (m2_1 m2_4 m3_0:Int) (m4:List (V × V)) (m5:List V) (m6:List (V × V)) (m7:List V) (z7:Nat):R :=
 icM qcfg ⟨true,true⟩ mk35b 35 [V.tail 2 0,V.fn 67 [V.ptr 3 0 0]] [O.arena 71 m0,O.arena 74 m1,O.row 3 m5 0,O.box 3 (V.int .i64 x1) false] fun L =>
 gd (decide (0+L.1<=L.2.2.2.1.length)) <|
 gd (decide (L.1+([V.int .i64 L.2.2.2.2]:List V).length<=16777216)) <|
 some (.doneM (V.tup []) [O.arena 71 L.2.1,O.arena 74 L.2.2.1,O.box 61 (V.agg [V.ptr 3 0 0,V.int .i64 m2_1,V.mp 4,V.tail 9 0,V.int .i64 m2_4]) false,O.box 52 (V.agg [V.int .i64 m3_0,V.mp 6,V.tail 7 0]) false,O.map m4,O.dead,O.map m6,O.row 83 m7 z7,O.box 3 (V.int .i64 L.2.2.2.2) false,O.row 3 (((L.2.2.2.1.drop 0).take L.1)++[V.int .i64 L.2.2.2.2]) 0])
theorem e46_eq (x1:Int) (m0 m1:List V) (m2_1 m2_4 m3_0:Int) (m4:List (V × V)) (m5:List V) (m6:List (V × V)) (m7:List V) (z7:Nat):enterK qk true fa46 [V.ptr 2 0 0,V.int .i64 x1] [O.arena 71 m0,O.arena 74 m1,O.box 61 (V.agg [V.ptr 3 0 0,V.int .i64 m2_1,V.mp 4,V.tail 5 0,V.int .i64 m2_4]) false,O.box 52 (V.agg [V.int .i64 m3_0,V.mp 6,V.tail 7 0]) false,O.map m4,O.row 3 m5 0,O.map m6,O.row 83 m7 z7]=e46 x1 m0 m1 m2_1 m2_4 m3_0 m4 m5 m6 m7 z7:=by kernel_rfl
theorem e46_run (x1:Int) (m0 m1:List V) (m2_1 m2_4 m3_0:Int) (m4:List (V × V)) (m5:List V) (m6:List (V × V)) (m7:List V) (z7:Nat) {o:Out} {r:V × List O} (h:e46 x1 m0 m1 m2_1 m2_4 m3_0 m4 m5 m6 m7 z7=some o) (hg:GoN qk 8 fa46 ⟨false,false⟩ [O.arena 71 m0,O.arena 74 m1,O.box 61 (V.agg [V.ptr 3 0 0,V.int .i64 m2_1,V.mp 4,V.tail 5 0,V.int .i64 m2_4]) false,O.box 52 (V.agg [V.int .i64 m3_0,V.mp 6,V.tail 7 0]) false,O.map m4,O.row 3 m5 0,O.map m6,O.row 83 m7 z7] o r):icC qcfg ⟨false,false⟩ 46 [V.ptr 2 0 0,V.int .i64 x1] [O.arena 71 m0,O.arena 74 m1,O.box 61 (V.agg [V.ptr 3 0 0,V.int .i64 m2_1,V.mp 4,V.tail 5 0,V.int .i64 m2_4]) false,O.box 52 (V.agg [V.int .i64 m3_0,V.mp 6,V.tail 7 0]) false,O.map m4,O.row 3 m5 0,O.map m6,O.row 83 m7 z7]=some r:=icC_go qik rfl fa46_eq ((e46_eq ..).trans h) hg
noncomputable def fa69:FA:=(fnA qcfg.P (qcfg.rxf 69) 69).getD faN
theorem fa69_eq:fnA qcfg.P (qcfg.rxf 69) 69=some fa69:=fa_of (by kernel_rfl)
noncomputable def e69 (x1:Int) (x2:List UInt8) (m0 m1:List V) (m2_0:Int) (m3:List (V × V)) (m4:List V) (z4:Nat):R :=
 cond (decide (x1 ≥ 0))
 (cond (!(decide (x1 < m2_0)))
 (some (.doneM (V.int .i64 1) [O.arena 71 m0,O.arena 74 m1,O.box 52 (V.agg [V.int .i64 m2_0,V.mp 3,V.tail 4 0]) false,O.map m3,O.row 83 m4 z4]))
 (pcK qcfg 74 [V.str x2] fun r =>
  d57 r fun r74_0 r74_1 =>
  cond (r74_1==(0:Int))
 (gd (Nat.beq z4 0 || Nat.blt 0 z4) <|
  gd (decide (m4.length+([V.agg [V.int .i64 x1,V.str r74_0]]:List V).length<=16777216)) <|
  some (.doneM (V.int .i64 r74_1) [O.arena 71 m0,O.arena 74 m1,O.box 52 (V.agg [V.int .i64 m2_0,V.mp 3,V.tail 6 0]) false,O.map m3,O.dead,O.row 83 [V.agg [V.int .i64 x1,V.str r74_0]] 0,O.row 83 (m4++[V.agg [V.int .i64 x1,V.str r74_0]]) (cond (Nat.beq z4 0) 0 (z4 - 0))]))
 (some (.doneM (V.int .i64 r74_1) [O.arena 71 m0,O.arena 74 m1,O.box 52 (V.agg [V.int .i64 m2_0,V.mp 3,V.tail 4 0]) false,O.map m3,O.row 83 m4 z4]))))
 (some (.doneM (V.int .i64 1) [O.arena 71 m0,O.arena 74 m1,O.box 52 (V.agg [V.int .i64 m2_0,V.mp 3,V.tail 4 0]) false,O.map m3,O.row 83 m4 z4]))
theorem e69_eq (x1:Int) (x2:List UInt8) (m0 m1:List V) (m2_0:Int) (m3:List (V × V)) (m4:List V) (z4:Nat):enterK qk true fa69 [V.ptr 2 0 0,V.int .i64 x1,V.str x2] [O.arena 71 m0,O.arena 74 m1,O.box 52 (V.agg [V.int .i64 m2_0,V.mp 3,V.tail 4 0]) false,O.map m3,O.row 83 m4 z4]=e69 x1 x2 m0 m1 m2_0 m3 m4 z4:=by kernel_rfl
theorem e69_run (x1:Int) (x2:List UInt8) (m0 m1:List V) (m2_0:Int) (m3:List (V × V)) (m4:List V) (z4:Nat) {o:Out} {r:V × List O} (h:e69 x1 x2 m0 m1 m2_0 m3 m4 z4=some o) (hg:GoN qk 5 fa69 ⟨false,false⟩ [O.arena 71 m0,O.arena 74 m1,O.box 52 (V.agg [V.int .i64 m2_0,V.mp 3,V.tail 4 0]) false,O.map m3,O.row 83 m4 z4] o r):icC qcfg ⟨false,false⟩ 69 [V.ptr 2 0 0,V.int .i64 x1,V.str x2] [O.arena 71 m0,O.arena 74 m1,O.box 52 (V.agg [V.int .i64 m2_0,V.mp 3,V.tail 4 0]) false,O.map m3,O.row 83 m4 z4]=some r:=icC_go qik rfl fa69_eq ((e69_eq ..).trans h) hg
noncomputable def fa48:FA:=(fnA qcfg.P (qcfg.rxf 48) 48).getD faN
theorem fa48_eq:fnA qcfg.P (qcfg.rxf 48) 48=some fa48:=fa_of (by kernel_rfl)
noncomputable def e48 (x1:Int) (m0 m1:List V) (m3 m4:List V):R :=
 cond (decide (x1 < 0))
 (some (.doneM (V.tup [V.str [],V.int .i64 1]) [O.arena 71 m0,O.arena 74 m1,O.box 56 (V.agg [V.tail 3 0,V.tail 4 0]) false,O.row 9 m3 0,O.row 85 m4 0]))
 (cond (decide (x1 ≥ (m3.length:Int)))
 (some (.doneM (V.tup [V.str [],V.int .i64 1]) [O.arena 71 m0,O.arena 74 m1,O.box 56 (V.agg [V.tail 3 0,V.tail 4 0]) false,O.row 9 m3 0,O.row 85 m4 0]))
 (icM qcfg ⟨true,false⟩ mk20 20 [V.ptr 2 0 0,V.int .i64 x1] [O.arena 71 m0,O.arena 74 m1,O.box 56 (V.agg [V.tail 3 0,V.tail 4 0]) false,O.row 9 m3 0,O.row 85 m4 0] fun L =>
  pcK qcfg 68 [V.str L.1] fun r =>
  d57 r fun r68_0 r68_1 =>
  some (.doneM (V.tup [V.str r68_0,V.int .i64 r68_1]) [O.arena 71 L.2.1,O.arena 74 L.2.2.1,O.box 56 (V.agg [V.tail 3 0,V.tail 4 0]) false,O.row 9 L.2.2.2.1 0,O.row 85 L.2.2.2.2 0])))
theorem e48_eq (x1:Int) (m0 m1:List V) (m3 m4:List V):enterK qk true fa48 [V.ptr 2 0 0,V.int .i64 x1] [O.arena 71 m0,O.arena 74 m1,O.box 56 (V.agg [V.tail 3 0,V.tail 4 0]) false,O.row 9 m3 0,O.row 85 m4 0]=e48 x1 m0 m1 m3 m4:=by kernel_rfl
theorem e48_run (x1:Int) (m0 m1:List V) (m3 m4:List V) {o:Out} {r:V × List O} (h:e48 x1 m0 m1 m3 m4=some o) (hg:GoN qk 5 fa48 ⟨true,false⟩ [O.arena 71 m0,O.arena 74 m1,O.box 56 (V.agg [V.tail 3 0,V.tail 4 0]) false,O.row 9 m3 0,O.row 85 m4 0] o r):icC qcfg ⟨true,false⟩ 48 [V.ptr 2 0 0,V.int .i64 x1] [O.arena 71 m0,O.arena 74 m1,O.box 56 (V.agg [V.tail 3 0,V.tail 4 0]) false,O.row 9 m3 0,O.row 85 m4 0]=some r:=icC_go qik rfl fa48_eq ((e48_eq ..).trans h) hg
noncomputable def fa49:FA:=(fnA qcfg.P (qcfg.rxf 49) 49).getD faN
theorem fa49_eq:fnA qcfg.P (qcfg.rxf 49) 49=some fa49:=fa_of (by kernel_rfl)
def T49_0 (x3:Int) (m0 m1:List V) (m2_1 m2_2:Int) (m4 m5 m6:List V):S:=⟨[V.ptr 2 0 0,V.junk,V.bool false,V.int .i64 x3]++(JU 54),[O.arena 71 m0,O.arena 74 m1,O.box 64 (V.agg [V.ptr 3 0 0,V.int .i64 m2_1,V.int .i64 m2_2,V.tail 4 0]) false,O.box 56 (V.agg [V.tail 5 0,V.tail 6 0]) false,O.row 75 m4 0,O.row 9 m5 0,O.row 85 m6 0]⟩
noncomputable def e49 (m0 m1:List V) (m2_1 m2_2:Int) (m4 m5 m6:List V):R :=
 cond (decide ((m4.length:Int) < m2_1))
 (some (.doneM (V.bool true) [O.arena 71 m0,O.arena 74 m1,O.box 64 (V.agg [V.ptr 3 0 0,V.int .i64 m2_1,V.int .i64 m2_2,V.tail 4 0]) false,O.box 56 (V.agg [V.tail 5 0,V.tail 6 0]) false,O.row 75 m4 0,O.row 9 m5 0,O.row 85 m6 0]))
 (some (.head 0 (T49_0 0 m0 m1 m2_1 m2_2 m4 m5 m6)))
theorem e49_eq (m0 m1:List V) (m2_1 m2_2:Int) (m4 m5 m6:List V):enterK qk true fa49 [V.ptr 2 0 0] [O.arena 71 m0,O.arena 74 m1,O.box 64 (V.agg [V.ptr 3 0 0,V.int .i64 m2_1,V.int .i64 m2_2,V.tail 4 0]) false,O.box 56 (V.agg [V.tail 5 0,V.tail 6 0]) false,O.row 75 m4 0,O.row 9 m5 0,O.row 85 m6 0]=e49 m0 m1 m2_1 m2_2 m4 m5 m6:=by kernel_rfl
theorem e49_run (m0 m1:List V) (m2_1 m2_2:Int) (m4 m5 m6:List V) {o:Out} {r:V × List O} (h:e49 m0 m1 m2_1 m2_2 m4 m5 m6=some o) (hg:GoN qk 7 fa49 ⟨false,false⟩ [O.arena 71 m0,O.arena 74 m1,O.box 64 (V.agg [V.ptr 3 0 0,V.int .i64 m2_1,V.int .i64 m2_2,V.tail 4 0]) false,O.box 56 (V.agg [V.tail 5 0,V.tail 6 0]) false,O.row 75 m4 0,O.row 9 m5 0,O.row 85 m6 0] o r):icC qcfg ⟨false,false⟩ 49 [V.ptr 2 0 0] [O.arena 71 m0,O.arena 74 m1,O.box 64 (V.agg [V.ptr 3 0 0,V.int .i64 m2_1,V.int .i64 m2_2,V.tail 4 0]) false,O.box 56 (V.agg [V.tail 5 0,V.tail 6 0]) false,O.row 75 m4 0,O.row 9 m5 0,O.row 85 m6 0]=some r:=icC_go qik rfl fa49_eq ((e49_eq ..).trans h) hg
noncomputable def s49_0 (x3:Int) (m0 m1:List V) (m2_1 m2_2:Int) (m4 m5 m6:List V):R :=
 cond (decide (x3 < (m4.length:Int)))
 (gd (decide (0<=x3)) <|
  gd (decide (x3.toNat < m4.length)) <|
  idxK m4 (0+x3.toNat) fun v =>
  kP 74 v fun p =>
  idxK m1 p fun v_1 =>
  d74 v_1 fun page s pins dirty first last =>
  cond (pins==(0:Int))
 (idxK m1 p fun v_2 =>
  d74 v_2 fun page_1 s_1 pins_1 dirty_1 first_1 last_1 =>
  cond (!dirty_1)
 (idxK m1 p fun v_3 =>
  d74 v_3 fun page_2 s_2 pins_2 dirty_2 first_2 last_2 =>
  cond dirty_2
 (idxK m1 p fun v_4 =>
  d74 v_4 fun page_3 s_3 pins_3 dirty_3 first_3 last_3 =>
  idxK m1 p fun v_5 =>
  d74 v_5 fun page_4 s_4 pins_4 dirty_4 first_4 last_4 =>
  icM qcfg ⟨false,false⟩ mk70 70 [V.ptr 2 0 0,V.int .i64 page_3,V.str s_4] [O.arena 71 m0,O.arena 74 m1,O.box 56 (V.agg [V.tail 3 0,V.tail 4 0]) false,O.row 9 m5 0,O.row 85 m6 0] fun L =>
  idxK L.2.2.1 p fun v_6 =>
  d74 v_6 fun page_5 s_5 pins_5 dirty_5 first_5 last_5 =>
  gd (wfl 1 m4) <|
  gd (decide (0<=x3)) <|
  gd (decide (x3.toNat<=m4.length)) <|
  gd (decide ((0+0)+(x3.toNat - 0)<=m4.length)) <|
  gd (wfl 1 (((m4).drop (0+0)).take (x3.toNat - 0))) <|
  gd (decide (0+(((m4).drop (0+0)).take (x3.toNat - 0)).length<=16777216)) <|
  gd (wfl 1 m4) <|
  gd (decide (0<=W .i64 (x3+1))) <|
  gd (decide ((W .i64 (x3+1)).toNat<=m4.length)) <|
  gd (wfl 1 (m4.drop (0+((W .i64 (x3+1)).toNat)))) <|
  gd (decide ((((m4).drop (0+0)).take (x3.toNat - 0)).length+(m4.drop (0+((W .i64 (x3+1)).toNat))).length<=16777216)) <|
  some (.doneM (V.bool true) [O.arena 71 L.2.1,O.arena 74 ((L.2.2.1).set p (V.agg [V.int .i64 page_5,V.str s_5,V.int .i64 pins_5,V.bool false,V.int .i64 first_5,V.int .i64 last_5])),O.box 64 (V.agg [V.ptr 3 0 0,V.int .i64 m2_1,V.int .i64 m2_2,V.tail 7 0]) false,O.box 56 (V.agg [V.tail 8 0,V.tail 9 0]) false,O.row 75 m4 0,O.dead,O.dead,O.row 75 ((((m4).drop (0+0)).take (x3.toNat - 0))++(m4.drop (0+((W .i64 (x3+1)).toNat)))) 0,O.row 9 L.2.2.2.1 0,O.row 85 L.2.2.2.2 0]))
 (gd (wfl 1 m4) <|
  gd (decide (0<=x3)) <|
  gd (decide (x3.toNat<=m4.length)) <|
  gd (decide ((0+0)+(x3.toNat - 0)<=m4.length)) <|
  gd (wfl 1 (((m4).drop (0+0)).take (x3.toNat - 0))) <|
  gd (decide (0+(((m4).drop (0+0)).take (x3.toNat - 0)).length<=16777216)) <|
  gd (wfl 1 m4) <|
  gd (decide (0<=W .i64 (x3+1))) <|
  gd (decide ((W .i64 (x3+1)).toNat<=m4.length)) <|
  gd (wfl 1 (m4.drop (0+((W .i64 (x3+1)).toNat)))) <|
  gd (decide ((((m4).drop (0+0)).take (x3.toNat - 0)).length+(m4.drop (0+((W .i64 (x3+1)).toNat))).length<=16777216)) <|
  some (.doneM (V.bool true) [O.arena 71 m0,O.arena 74 m1,O.box 64 (V.agg [V.ptr 3 0 0,V.int .i64 m2_1,V.int .i64 m2_2,V.tail 7 0]) false,O.box 56 (V.agg [V.tail 5 0,V.tail 6 0]) false,O.row 75 m4 0,O.row 9 m5 0,O.row 85 m6 0,O.row 75 ((((m4).drop (0+0)).take (x3.toNat - 0))++(m4.drop (0+((W .i64 (x3+1)).toNat)))) 0])))
 (idxK m1 p fun v_7 =>
  d74 v_7 fun page_6 s_6 pins_6 dirty_6 first_6 last_6 =>
  cond dirty_6
 (idxK m1 p fun v_8 =>
  d74 v_8 fun page_7 s_7 pins_7 dirty_7 first_7 last_7 =>
  cond (decide (last_7<=m2_2))
 (idxK m1 p fun v_9 =>
  d74 v_9 fun page_8 s_8 pins_8 dirty_8 first_8 last_8 =>
  cond dirty_8
 (idxK m1 p fun v_10 =>
  d74 v_10 fun page_9 s_9 pins_9 dirty_9 first_9 last_9 =>
  idxK m1 p fun v_11 =>
  d74 v_11 fun page_10 s_10 pins_10 dirty_10 first_10 last_10 =>
  icM qcfg ⟨false,false⟩ mk70 70 [V.ptr 2 0 0,V.int .i64 page_9,V.str s_10] [O.arena 71 m0,O.arena 74 m1,O.box 56 (V.agg [V.tail 3 0,V.tail 4 0]) false,O.row 9 m5 0,O.row 85 m6 0] fun L_1 =>
  idxK L_1.2.2.1 p fun v_12 =>
  d74 v_12 fun page_11 s_11 pins_11 dirty_11 first_11 last_11 =>
  gd (wfl 1 m4) <|
  gd (decide (0<=x3)) <|
  gd (decide (x3.toNat<=m4.length)) <|
  gd (decide ((0+0)+(x3.toNat - 0)<=m4.length)) <|
  gd (wfl 1 (((m4).drop (0+0)).take (x3.toNat - 0))) <|
  gd (decide (0+(((m4).drop (0+0)).take (x3.toNat - 0)).length<=16777216)) <|
  gd (wfl 1 m4) <|
  gd (decide (0<=W .i64 (x3+1))) <|
  gd (decide ((W .i64 (x3+1)).toNat<=m4.length)) <|
  gd (wfl 1 (m4.drop (0+((W .i64 (x3+1)).toNat)))) <|
  gd (decide ((((m4).drop (0+0)).take (x3.toNat - 0)).length+(m4.drop (0+((W .i64 (x3+1)).toNat))).length<=16777216)) <|
  some (.doneM (V.bool true) [O.arena 71 L_1.2.1,O.arena 74 ((L_1.2.2.1).set p (V.agg [V.int .i64 page_11,V.str s_11,V.int .i64 pins_11,V.bool false,V.int .i64 first_11,V.int .i64 last_11])),O.box 64 (V.agg [V.ptr 3 0 0,V.int .i64 m2_1,V.int .i64 m2_2,V.tail 7 0]) false,O.box 56 (V.agg [V.tail 8 0,V.tail 9 0]) false,O.row 75 m4 0,O.dead,O.dead,O.row 75 ((((m4).drop (0+0)).take (x3.toNat - 0))++(m4.drop (0+((W .i64 (x3+1)).toNat)))) 0,O.row 9 L_1.2.2.2.1 0,O.row 85 L_1.2.2.2.2 0]))
 (gd (wfl 1 m4) <|
  gd (decide (0<=x3)) <|
  gd (decide (x3.toNat<=m4.length)) <|
  gd (decide ((0+0)+(x3.toNat - 0)<=m4.length)) <|
  gd (wfl 1 (((m4).drop (0+0)).take (x3.toNat - 0))) <|
  gd (decide (0+(((m4).drop (0+0)).take (x3.toNat - 0)).length<=16777216)) <|
  gd (wfl 1 m4) <|
  gd (decide (0<=W .i64 (x3+1))) <|
  gd (decide ((W .i64 (x3+1)).toNat<=m4.length)) <|
  gd (wfl 1 (m4.drop (0+((W .i64 (x3+1)).toNat)))) <|
  gd (decide ((((m4).drop (0+0)).take (x3.toNat - 0)).length+(m4.drop (0+((W .i64 (x3+1)).toNat))).length<=16777216)) <|
  some (.doneM (V.bool true) [O.arena 71 m0,O.arena 74 m1,O.box 64 (V.agg [V.ptr 3 0 0,V.int .i64 m2_1,V.int .i64 m2_2,V.tail 7 0]) false,O.box 56 (V.agg [V.tail 5 0,V.tail 6 0]) false,O.row 75 m4 0,O.row 9 m5 0,O.row 85 m6 0,O.row 75 ((((m4).drop (0+0)).take (x3.toNat - 0))++(m4.drop (0+((W .i64 (x3+1)).toNat)))) 0])))
 (some (.head 0 (T49_0 (W .i64 (x3+1)) m0 m1 m2_1 m2_2 m4 m5 m6))))
 (some (.head 0 (T49_0 (W .i64 (x3+1)) m0 m1 m2_1 m2_2 m4 m5 m6)))))
 (some (.head 0 (T49_0 (W .i64 (x3+1)) m0 m1 m2_1 m2_2 m4 m5 m6))))
 (some (.doneM (V.bool false) [O.arena 71 m0,O.arena 74 m1,O.box 64 (V.agg [V.ptr 3 0 0,V.int .i64 m2_1,V.int .i64 m2_2,V.tail 4 0]) false,O.box 56 (V.agg [V.tail 5 0,V.tail 6 0]) false,O.row 75 m4 0,O.row 9 m5 0,O.row 85 m6 0]))
theorem s49_0_run (x3:Int) (m0 m1:List V) (m2_1 m2_2:Int) (m4 m5 m6:List V) {o o':Out} (h:s49_0 x3 m0 m1 m2_1 m2_2 m4 m5 m6=some o) (hg:Go qk true 7 fa49 o o'):Go qk true 7 fa49 (.head 0 (T49_0 x3 m0 m1 m2_1 m2_2 m4 m5 m6)) o':=.step (Eq.trans (by kernel_rfl) h) hg
noncomputable def fa70:FA:=(fnA qcfg.P (qcfg.rxf 70) 70).getD faN
theorem fa70_eq:fnA qcfg.P (qcfg.rxf 70) 70=some fa70:=fa_of (by kernel_rfl)
noncomputable def e70 (x1:Int) (x2:List UInt8) (m0 m1:List V) (m3 m4:List V):R :=
 cond (decide (x1 < 0))
 (some (.doneM (V.int .i64 1) [O.arena 71 m0,O.arena 74 m1,O.box 56 (V.agg [V.tail 3 0,V.tail 4 0]) false,O.row 9 m3 0,O.row 85 m4 0]))
 (cond (decide (x1 ≥ (m3.length:Int)))
 (some (.doneM (V.int .i64 1) [O.arena 71 m0,O.arena 74 m1,O.box 56 (V.agg [V.tail 3 0,V.tail 4 0]) false,O.row 9 m3 0,O.row 85 m4 0]))
 (pcK qcfg 22 [V.str x2] fun r =>
  d57 r fun r22_0 r22_1 =>
  cond (r22_1 != (0:Int))
 (some (.doneM (V.int .i64 r22_1) [O.arena 71 m0,O.arena 74 m1,O.box 56 (V.agg [V.tail 3 0,V.tail 4 0]) false,O.row 9 m3 0,O.row 85 m4 0]))
 (gd (decide (m4.length+([V.agg [V.int .i64 x1,V.str r22_0]]:List V).length<=16777216)) <|
  some (.doneM (V.int .i64 0) [O.arena 71 m0,O.arena 74 m1,O.box 56 (V.agg [V.tail 3 0,V.tail 6 0]) false,O.row 9 m3 0,O.dead,O.row 85 [V.agg [V.int .i64 x1,V.str r22_0]] 0,O.row 85 (m4++[V.agg [V.int .i64 x1,V.str r22_0]]) 0]))))
theorem e70_eq (x1:Int) (x2:List UInt8) (m0 m1:List V) (m3 m4:List V):enterK qk true fa70 [V.ptr 2 0 0,V.int .i64 x1,V.str x2] [O.arena 71 m0,O.arena 74 m1,O.box 56 (V.agg [V.tail 3 0,V.tail 4 0]) false,O.row 9 m3 0,O.row 85 m4 0]=e70 x1 x2 m0 m1 m3 m4:=by kernel_rfl
theorem e70_run (x1:Int) (x2:List UInt8) (m0 m1:List V) (m3 m4:List V) {o:Out} {r:V × List O} (h:e70 x1 x2 m0 m1 m3 m4=some o) (hg:GoN qk 5 fa70 ⟨false,false⟩ [O.arena 71 m0,O.arena 74 m1,O.box 56 (V.agg [V.tail 3 0,V.tail 4 0]) false,O.row 9 m3 0,O.row 85 m4 0] o r):icC qcfg ⟨false,false⟩ 70 [V.ptr 2 0 0,V.int .i64 x1,V.str x2] [O.arena 71 m0,O.arena 74 m1,O.box 56 (V.agg [V.tail 3 0,V.tail 4 0]) false,O.row 9 m3 0,O.row 85 m4 0]=some r:=icC_go qik rfl fa70_eq ((e70_eq ..).trans h) hg
noncomputable def fa59:FA:=(fnA qcfg.P (qcfg.rxf 59) 59).getD faN
theorem fa59_eq:fnA qcfg.P (qcfg.rxf 59) 59=some fa59:=fa_of (by kernel_rfl)
def T59b_0 (x7 x8:Int) (m0 m1 m2:List V) (m4_1 m4_4 m5_0:Int) (m6:List (V × V)) (m7:List V) (m8:List (V × V)) (m9:List V) (z9:Nat):S:=⟨[V.own 2,V.fn 36 [V.ptr 3 0 0],V.junk,V.junk,V.int .i64 0,V.junk,V.junk,V.int .i64 x7,V.int .i64 x8]++(JU 10),[O.arena 71 m0,O.arena 74 m1,O.row 3 m2 0,O.box 30 (V.ptr 4 0 0) false,O.box 61 (V.agg [V.ptr 5 0 0,V.int .i64 m4_1,V.mp 6,V.tail 7 0,V.int .i64 m4_4]) false,O.box 52 (V.agg [V.int .i64 m5_0,V.mp 8,V.tail 9 0]) false,O.map m6,O.row 3 m7 0,O.map m8,O.row 83 m9 z9]⟩
noncomputable def e59b (m0 m1 m2:List V) (m4_1 m4_4 m5_0:Int) (m6:List (V × V)) (m7:List V) (m8:List (V × V)) (m9:List V) (z9:Nat):R :=
 some (.head 0 (T59b_0 (m2.length:Int) 0 m0 m1 m2 m4_1 m4_4 m5_0 m6 m7 m8 m9 z9))
theorem e59b_eq (m0 m1 m2:List V) (m4_1 m4_4 m5_0:Int) (m6:List (V × V)) (m7:List V) (m8:List (V × V)) (m9:List V) (z9:Nat):enterK qk true fa59 [V.own 2,V.fn 36 [V.ptr 3 0 0]] [O.arena 71 m0,O.arena 74 m1,O.row 3 m2 0,O.box 30 (V.ptr 4 0 0) false,O.box 61 (V.agg [V.ptr 5 0 0,V.int .i64 m4_1,V.mp 6,V.tail 7 0,V.int .i64 m4_4]) false,O.box 52 (V.agg [V.int .i64 m5_0,V.mp 8,V.tail 9 0]) false,O.map m6,O.row 3 m7 0,O.map m8,O.row 83 m9 z9]=e59b m0 m1 m2 m4_1 m4_4 m5_0 m6 m7 m8 m9 z9:=by kernel_rfl
theorem e59b_run (m0 m1 m2:List V) (m4_1 m4_4 m5_0:Int) (m6:List (V × V)) (m7:List V) (m8:List (V × V)) (m9:List V) (z9:Nat) {o:Out} {r:V × List O} (h:e59b m0 m1 m2 m4_1 m4_4 m5_0 m6 m7 m8 m9 z9=some o) (hg:GoN qk 10 fa59 ⟨true,false⟩ [O.arena 71 m0,O.arena 74 m1,O.row 3 m2 0,O.box 30 (V.ptr 4 0 0) false,O.box 61 (V.agg [V.ptr 5 0 0,V.int .i64 m4_1,V.mp 6,V.tail 7 0,V.int .i64 m4_4]) false,O.box 52 (V.agg [V.int .i64 m5_0,V.mp 8,V.tail 9 0]) false,O.map m6,O.row 3 m7 0,O.map m8,O.row 83 m9 z9] o r):icC qcfg ⟨true,false⟩ 59 [V.own 2,V.fn 36 [V.ptr 3 0 0]] [O.arena 71 m0,O.arena 74 m1,O.row 3 m2 0,O.box 30 (V.ptr 4 0 0) false,O.box 61 (V.agg [V.ptr 5 0 0,V.int .i64 m4_1,V.mp 6,V.tail 7 0,V.int .i64 m4_4]) false,O.box 52 (V.agg [V.int .i64 m5_0,V.mp 8,V.tail 9 0]) false,O.map m6,O.row 3 m7 0,O.map m8,O.row 83 m9 z9]=some r:=icC_go qik rfl fa59_eq ((e59b_eq ..).trans h) hg
noncomputable def s59b_0 (x7 x8:Int) (m0 m1 m2:List V) (m4_1 m4_4 m5_0:Int) (m6:List (V × V)) (m7:List V) (m8:List (V × V)) (m9:List V) (z9:Nat):R :=
 cond (decide (x8 < x7))
 (gd (decide (0<=x8)) <|
  gd (decide (x8.toNat < m2.length)) <|
  idxK m2 x8.toNat fun v =>
  kI .i64 v fun n =>
  mfK m6 (V.int .i64 n)
 (none) fun r =>
  kP 71 r fun p =>
  idxK m0 p fun v_1 =>
  d71 v_1 fun s pins dirty first last =>
  cond (!dirty)
 (some (.doneM (V.int .i64 x8) [O.arena 71 m0,O.arena 74 m1,O.row 3 m2 0,O.box 30 (V.ptr 4 0 0) false,O.box 61 (V.agg [V.ptr 5 0 0,V.int .i64 m4_1,V.mp 6,V.tail 7 0,V.int .i64 m4_4]) false,O.box 52 (V.agg [V.int .i64 m5_0,V.mp 8,V.tail 9 0]) false,O.map m6,O.row 3 m7 0,O.map m8,O.row 83 m9 z9]))
 (some (.head 0 (T59b_0 x7 (W .i64 (x8+1)) m0 m1 m2 m4_1 m4_4 m5_0 m6 m7 m8 m9 z9))))
 (some (.doneM (V.int .i64 (-1)) [O.arena 71 m0,O.arena 74 m1,O.row 3 m2 0,O.box 30 (V.ptr 4 0 0) false,O.box 61 (V.agg [V.ptr 5 0 0,V.int .i64 m4_1,V.mp 6,V.tail 7 0,V.int .i64 m4_4]) false,O.box 52 (V.agg [V.int .i64 m5_0,V.mp 8,V.tail 9 0]) false,O.map m6,O.row 3 m7 0,O.map m8,O.row 83 m9 z9]))
theorem s59b_0_run (x7 x8:Int) (m0 m1 m2:List V) (m4_1 m4_4 m5_0:Int) (m6:List (V × V)) (m7:List V) (m8:List (V × V)) (m9:List V) (z9:Nat) {o o':Out} (h:s59b_0 x7 x8 m0 m1 m2 m4_1 m4_4 m5_0 m6 m7 m8 m9 z9=some o) (hg:Go qk true 10 fa59 o o'):Go qk true 10 fa59 (.head 0 (T59b_0 x7 x8 m0 m1 m2 m4_1 m4_4 m5_0 m6 m7 m8 m9 z9)) o':=.step (Eq.trans (by kernel_rfl) h) hg
def T59_0 (x7 x8:Int) (m0 m1 m2:List V) (m4_1 m4_4 m5_0:Int) (m6 m7:List (V × V)) (m8:List V) (z8:Nat):S:=⟨[V.tail 2 0,V.fn 65 [V.ptr 3 0 0],V.junk,V.junk,V.int .i64 0,V.junk,V.junk,V.int .i64 x7,V.int .i64 x8]++(JU 10),[O.arena 71 m0,O.arena 74 m1,O.row 3 m2 0,O.box 30 (V.ptr 4 0 0) false,O.box 61 (V.agg [V.ptr 5 0 0,V.int .i64 m4_1,V.mp 6,V.tail 2 0,V.int .i64 m4_4]) false,O.box 52 (V.agg [V.int .i64 m5_0,V.mp 7,V.tail 8 0]) false,O.map m6,O.map m7,O.row 83 m8 z8]⟩
noncomputable def e59 (m0 m1 m2:List V) (m4_1 m4_4 m5_0:Int) (m6 m7:List (V × V)) (m8:List V) (z8:Nat):R :=
 some (.head 0 (T59_0 (m2.length:Int) 0 m0 m1 m2 m4_1 m4_4 m5_0 m6 m7 m8 z8))
theorem e59_eq (m0 m1 m2:List V) (m4_1 m4_4 m5_0:Int) (m6 m7:List (V × V)) (m8:List V) (z8:Nat):enterK qk true fa59 [V.tail 2 0,V.fn 65 [V.ptr 3 0 0]] [O.arena 71 m0,O.arena 74 m1,O.row 3 m2 0,O.box 30 (V.ptr 4 0 0) false,O.box 61 (V.agg [V.ptr 5 0 0,V.int .i64 m4_1,V.mp 6,V.tail 2 0,V.int .i64 m4_4]) false,O.box 52 (V.agg [V.int .i64 m5_0,V.mp 7,V.tail 8 0]) false,O.map m6,O.map m7,O.row 83 m8 z8]=e59 m0 m1 m2 m4_1 m4_4 m5_0 m6 m7 m8 z8:=by kernel_rfl
theorem e59_run (m0 m1 m2:List V) (m4_1 m4_4 m5_0:Int) (m6 m7:List (V × V)) (m8:List V) (z8:Nat) {o:Out} {r:V × List O} (h:e59 m0 m1 m2 m4_1 m4_4 m5_0 m6 m7 m8 z8=some o) (hg:GoN qk 9 fa59 ⟨true,false⟩ [O.arena 71 m0,O.arena 74 m1,O.row 3 m2 0,O.box 30 (V.ptr 4 0 0) false,O.box 61 (V.agg [V.ptr 5 0 0,V.int .i64 m4_1,V.mp 6,V.tail 2 0,V.int .i64 m4_4]) false,O.box 52 (V.agg [V.int .i64 m5_0,V.mp 7,V.tail 8 0]) false,O.map m6,O.map m7,O.row 83 m8 z8] o r):icC qcfg ⟨true,false⟩ 59 [V.tail 2 0,V.fn 65 [V.ptr 3 0 0]] [O.arena 71 m0,O.arena 74 m1,O.row 3 m2 0,O.box 30 (V.ptr 4 0 0) false,O.box 61 (V.agg [V.ptr 5 0 0,V.int .i64 m4_1,V.mp 6,V.tail 2 0,V.int .i64 m4_4]) false,O.box 52 (V.agg [V.int .i64 m5_0,V.mp 7,V.tail 8 0]) false,O.map m6,O.map m7,O.row 83 m8 z8]=some r:=icC_go qik rfl fa59_eq ((e59_eq ..).trans h) hg
noncomputable def s59_0 (x7 x8:Int) (m0 m1 m2:List V) (m4_1 m4_4 m5_0:Int) (m6 m7:List (V × V)) (m8:List V) (z8:Nat):R :=
 cond (decide (x8 < x7))
 (gd (decide (0<=x8)) <|
  gd (decide (x8.toNat < m2.length)) <|
  idxK m2 (0+x8.toNat) fun v =>
  kI .i64 v fun n =>
  mfK m6 (V.int .i64 n)
 (none) fun r =>
  kP 71 r fun p =>
  idxK m0 p fun v_1 =>
  d71 v_1 fun s pins dirty first last =>
  cond (pins==(0:Int))
 (idxK m0 p fun v_2 =>
  d71 v_2 fun s_1 pins_1 dirty_1 first_1 last_1 =>
  cond (!dirty_1)
 (some (.doneM (V.int .i64 x8) [O.arena 71 m0,O.arena 74 m1,O.row 3 m2 0,O.box 30 (V.ptr 4 0 0) false,O.box 61 (V.agg [V.ptr 5 0 0,V.int .i64 m4_1,V.mp 6,V.tail 2 0,V.int .i64 m4_4]) false,O.box 52 (V.agg [V.int .i64 m5_0,V.mp 7,V.tail 8 0]) false,O.map m6,O.map m7,O.row 83 m8 z8]))
 (idxK m0 p fun v_3 =>
  d71 v_3 fun s_2 pins_2 dirty_2 first_2 last_2 =>
  cond dirty_2
 (idxK m0 p fun v_4 =>
  d71 v_4 fun s_3 pins_3 dirty_3 first_3 last_3 =>
  cond (decide (last_3<=m4_4))
 (some (.doneM (V.int .i64 x8) [O.arena 71 m0,O.arena 74 m1,O.row 3 m2 0,O.box 30 (V.ptr 4 0 0) false,O.box 61 (V.agg [V.ptr 5 0 0,V.int .i64 m4_1,V.mp 6,V.tail 2 0,V.int .i64 m4_4]) false,O.box 52 (V.agg [V.int .i64 m5_0,V.mp 7,V.tail 8 0]) false,O.map m6,O.map m7,O.row 83 m8 z8]))
 (some (.head 0 (T59_0 x7 (W .i64 (x8+1)) m0 m1 m2 m4_1 m4_4 m5_0 m6 m7 m8 z8))))
 (some (.head 0 (T59_0 x7 (W .i64 (x8+1)) m0 m1 m2 m4_1 m4_4 m5_0 m6 m7 m8 z8)))))
 (some (.head 0 (T59_0 x7 (W .i64 (x8+1)) m0 m1 m2 m4_1 m4_4 m5_0 m6 m7 m8 z8))))
 (some (.doneM (V.int .i64 (-1)) [O.arena 71 m0,O.arena 74 m1,O.row 3 m2 0,O.box 30 (V.ptr 4 0 0) false,O.box 61 (V.agg [V.ptr 5 0 0,V.int .i64 m4_1,V.mp 6,V.tail 2 0,V.int .i64 m4_4]) false,O.box 52 (V.agg [V.int .i64 m5_0,V.mp 7,V.tail 8 0]) false,O.map m6,O.map m7,O.row 83 m8 z8]))
theorem s59_0_run (x7 x8:Int) (m0 m1 m2:List V) (m4_1 m4_4 m5_0:Int) (m6 m7:List (V × V)) (m8:List V) (z8:Nat) {o o':Out} (h:s59_0 x7 x8 m0 m1 m2 m4_1 m4_4 m5_0 m6 m7 m8 z8=some o) (hg:Go qk true 9 fa59 o o'):Go qk true 9 fa59 (.head 0 (T59_0 x7 x8 m0 m1 m2 m4_1 m4_4 m5_0 m6 m7 m8 z8)) o':=.step (Eq.trans (by kernel_rfl) h) hg
def T35b_0 (x5 x6:Int) (m0 m1 m2:List V) (m3:Int):S:=⟨[V.tail 2 0,V.fn 67 [V.ptr 3 0 0],V.junk,V.junk,V.own 4,V.int .i64 x5,V.int .i64 x6]++(JU 35),[O.arena 71 m0,O.arena 74 m1,O.row 3 m2 0,O.box 3 (V.int .i64 m3) false,O.row 3 [] 0]⟩
noncomputable def e35b (m0 m1 m2:List V) (m3:Int):R :=
 icM qcfg ⟨true,false⟩ mk59c 59 [V.tail 2 0,V.fn 67 [V.ptr 3 0 0]] [O.arena 71 m0,O.arena 74 m1,O.row 3 m2 0,O.box 3 (V.int .i64 m3) false] fun L =>
 cond (L.1==((-1):Int))
 (some (.doneM (V.tail 2 0) [O.arena 71 L.2.1,O.arena 74 L.2.2.1,O.row 3 L.2.2.2.1 0,O.box 3 (V.int .i64 L.2.2.2.2) false,O.row 3 [] 0]))
 (some (.head 0 (T35b_0 L.1 (W .i64 (L.1+1)) L.2.1 L.2.2.1 L.2.2.2.1 L.2.2.2.2)))
theorem e35b_eq (m0 m1 m2:List V) (m3:Int):enterK qk true fa35 [V.tail 2 0,V.fn 67 [V.ptr 3 0 0]] [O.arena 71 m0,O.arena 74 m1,O.row 3 m2 0,O.box 3 (V.int .i64 m3) false]=e35b m0 m1 m2 m3:=by kernel_rfl
theorem e35b_run (m0 m1 m2:List V) (m3:Int) {o:Out} {r:V × List O} (h:e35b m0 m1 m2 m3=some o) (hg:GoN qk 4 fa35 ⟨true,true⟩ [O.arena 71 m0,O.arena 74 m1,O.row 3 m2 0,O.box 3 (V.int .i64 m3) false] o r):icC qcfg ⟨true,true⟩ 35 [V.tail 2 0,V.fn 67 [V.ptr 3 0 0]] [O.arena 71 m0,O.arena 74 m1,O.row 3 m2 0,O.box 3 (V.int .i64 m3) false]=some r:=icC_go qik rfl fa35_eq ((e35b_eq ..).trans h) hg
noncomputable def s35b_0 (x5 x6:Int) (m0 m1 m2:List V) (m3:Int):R :=
 cond (decide (x6 < (m2.length:Int)))
 (gd (decide (0<=x6)) <|
  gd (decide (x6.toNat < m2.length)) <|
  idxK m2 (0+x6.toNat) fun v =>
  kI .i64 v fun n =>
  cond (!(n==m3))
 (gd (decide (0<=x5)) <|
  gd (decide (x5.toNat < m2.length)) <|
  idxK m2 (0+x5.toNat) fun v_1 =>
  kI .i64 v_1 fun n_1 =>
  some (.head 0 (T35b_0 (W .i64 (x5+1)) (W .i64 (x6+1)) m0 m1 ((m2).set (0+x5.toNat) (V.int .i64 n)) m3)))
 (some (.head 0 (T35b_0 x5 (W .i64 (x6+1)) m0 m1 m2 m3))))
 (gd (wfl 1 m2) <|
  gd (decide (0<=x5)) <|
  gd (decide (x5.toNat<=m2.length)) <|
  gd (decide (0+x5.toNat+(m2.length - (0+x5.toNat))<=m2.length)) <|
  gd (wfl 1 (m2.take (0+x5.toNat)++List.replicate (m2.length - (0+x5.toNat)) (V.int .i64 0)++m2.drop (0+x5.toNat+(m2.length - (0+x5.toNat))))) <|
  gd (decide (0<=x5)) <|
  gd (decide (x5.toNat<=(m2.take (0+x5.toNat)++List.replicate (m2.length - (0+x5.toNat)) (V.int .i64 0)++m2.drop (0+x5.toNat+(m2.length - (0+x5.toNat)))).length)) <|
  some (.doneM (V.win 2 (0+0) (x5.toNat - 0)) [O.arena 71 m0,O.arena 74 m1,O.row 3 (m2.take (0+x5.toNat)++List.replicate (m2.length - (0+x5.toNat)) (V.int .i64 0)++m2.drop (0+x5.toNat+(m2.length - (0+x5.toNat)))) 0,O.box 3 (V.int .i64 m3) false,O.row 3 [] 0]))
theorem s35b_0_run (x5 x6:Int) (m0 m1 m2:List V) (m3:Int) {o o':Out} (h:s35b_0 x5 x6 m0 m1 m2 m3=some o) (hg:Go qk true 4 fa35 o o'):Go qk true 4 fa35 (.head 0 (T35b_0 x5 x6 m0 m1 m2 m3)) o':=.step (Eq.trans (by kernel_rfl) h) hg
def T59c_0 (x7 x8:Int) (m0 m1 m2:List V) (m3:Int):S:=⟨[V.tail 2 0,V.fn 67 [V.ptr 3 0 0],V.junk,V.junk,V.int .i64 0,V.junk,V.junk,V.int .i64 x7,V.int .i64 x8]++(JU 10),[O.arena 71 m0,O.arena 74 m1,O.row 3 m2 0,O.box 3 (V.int .i64 m3) false]⟩
noncomputable def e59c (m0 m1 m2:List V) (m3:Int):R :=
 some (.head 0 (T59c_0 (m2.length:Int) 0 m0 m1 m2 m3))
theorem e59c_eq (m0 m1 m2:List V) (m3:Int):enterK qk true fa59 [V.tail 2 0,V.fn 67 [V.ptr 3 0 0]] [O.arena 71 m0,O.arena 74 m1,O.row 3 m2 0,O.box 3 (V.int .i64 m3) false]=e59c m0 m1 m2 m3:=by kernel_rfl
theorem e59c_run (m0 m1 m2:List V) (m3:Int) {o:Out} {r:V × List O} (h:e59c m0 m1 m2 m3=some o) (hg:GoN qk 4 fa59 ⟨true,false⟩ [O.arena 71 m0,O.arena 74 m1,O.row 3 m2 0,O.box 3 (V.int .i64 m3) false] o r):icC qcfg ⟨true,false⟩ 59 [V.tail 2 0,V.fn 67 [V.ptr 3 0 0]] [O.arena 71 m0,O.arena 74 m1,O.row 3 m2 0,O.box 3 (V.int .i64 m3) false]=some r:=icC_go qik rfl fa59_eq ((e59c_eq ..).trans h) hg
noncomputable def s59c_0 (x7 x8:Int) (m0 m1 m2:List V) (m3:Int):R :=
 cond (decide (x8 < x7))
 (gd (decide (0<=x8)) <|
  gd (decide (x8.toNat < m2.length)) <|
  idxK m2 (0+x8.toNat) fun v =>
  kI .i64 v fun n =>
  cond (n==m3)
 (some (.doneM (V.int .i64 x8) [O.arena 71 m0,O.arena 74 m1,O.row 3 m2 0,O.box 3 (V.int .i64 m3) false]))
 (some (.head 0 (T59c_0 x7 (W .i64 (x8+1)) m0 m1 m2 m3))))
 (some (.doneM (V.int .i64 (-1)) [O.arena 71 m0,O.arena 74 m1,O.row 3 m2 0,O.box 3 (V.int .i64 m3) false]))
theorem s59c_0_run (x7 x8:Int) (m0 m1 m2:List V) (m3:Int) {o o':Out} (h:s59c_0 x7 x8 m0 m1 m2 m3=some o) (hg:Go qk true 4 fa59 o o'):Go qk true 4 fa59 (.head 0 (T59c_0 x7 x8 m0 m1 m2 m3)) o':=.step (Eq.trans (by kernel_rfl) h) hg
def d126 (v:V) (k:Int->Int->Int->Int->Int->Int->Int->Int->Int->Int->Int->Int->Int->Int->Int->Int->R):R:=kA v fun cs=>unc cs fun c cs=>kI .u32 c fun x0=>unc cs fun c cs=>kI .u32 c fun x1=>unc cs fun c cs=>kI .u32 c fun x2=>unc cs fun c cs=>kI .u32 c fun x3=>unc cs fun c cs=>kI .u32 c fun x4=>unc cs fun c cs=>kI .u32 c fun x5=>unc cs fun c cs=>kI .u32 c fun x6=>unc cs fun c cs=>kI .u32 c fun x7=>unc cs fun c cs=>kI .u32 c fun x8=>unc cs fun c cs=>kI .u32 c fun x9=>unc cs fun c cs=>kI .u32 c fun x10=>unc cs fun c cs=>kI .u32 c fun x11=>unc cs fun c cs=>kI .u32 c fun x12=>unc cs fun c cs=>kI .u32 c fun x13=>unc cs fun c cs=>kI .u32 c fun x14=>unc cs fun c cs=>kI .u32 c fun x15=>unn cs<|(k x0 x1 x2 x3 x4 x5 x6 x7 x8 x9 x10 x11 x12 x13 x14 x15)
@[simp] theorem d126_mk (x0:Int) (x1:Int) (x2:Int) (x3:Int) (x4:Int) (x5:Int) (x6:Int) (x7:Int) (x8:Int) (x9:Int) (x10:Int) (x11:Int) (x12:Int) (x13:Int) (x14:Int) (x15:Int) (k:Int->Int->Int->Int->Int->Int->Int->Int->Int->Int->Int->Int->Int->Int->Int->Int->R):d126 (.agg [V.int .u32 x0,V.int .u32 x1,V.int .u32 x2,V.int .u32 x3,V.int .u32 x4,V.int .u32 x5,V.int .u32 x6,V.int .u32 x7,V.int .u32 x8,V.int .u32 x9,V.int .u32 x10,V.int .u32 x11,V.int .u32 x12,V.int .u32 x13,V.int .u32 x14,V.int .u32 x15]) k=k x0 x1 x2 x3 x4 x5 x6 x7 x8 x9 x10 x11 x12 x13 x14 x15:=rfl
@[congr] theorem d126_wc {v v':V} {k:Int->Int->Int->Int->Int->Int->Int->Int->Int->Int->Int->Int->Int->Int->Int->Int->R} (h:v=v'):d126 v k=d126 v' k:=by rw [h]
noncomputable def fa76:FA:=⟨1,36,[.tmp 2],[92],
 (.seq
 (.ops false [o1 2 (.assign (.const (.int .u32 (0)))) 92])
 (.seq
 (.ops false [o1 7 (.call ⟨(.value (.func 91)),#[],#[]⟩) 126,o1 3 (.alloc 126) 0,o0 (.store 126 (t' 3) (t' 7)) 0,o1 4 (.assign (.const (.int .u32 (4294967295)))) 92])
 (.seq
 (.seq
 (.ops false [mv 8 0 9,o1 9 (.convert 9 97 (t' 8)) 97,o1 10 (.call ⟨(.builtin .len),#[(t' 9)],#[97]⟩) 3,o1 11 (.move (.const (.int .i64 (0)))) 3])
 (.block 0
 (.loop ([0,1]++List.range' 5 4++List.range' 12 24)
 (.seq
 (.ops false [o1 12 (.binOp .lss 3 (t' 11) (t' 10) 3) 0])
 (.seq
 (.cond (t' 12)
 (.skip)
 (.exit 0))
 (.seq
 (.block 1
 (.seq
 (.ops false [o1 13 (.indexAddr 97 (t' 9) (t' 11)) 0,o1 14 (.load 5 (t' 13)) 5,asg 6 14 5])
 (.seq
 (.ops false [mv 15 4 92,mv 16 6 5,o1 17 (.convert 5 92 (t' 16)) 92,o1 18 (.binOp .xor 92 (t' 15) (t' 17) 92) 92,asg 4 18 92])
 (.seq
 (.ops false [mv 19 4 92,o1 20 (.binOp .shr 92 (t' 19) (.const (.int .u64 (4))) 113) 92,mv 21 4 92,o1 22 (.binOp .rem 92 (t' 21) (.const (.int .u32 (16))) 92) 92,o1 23 (.indexAddr 126 (t' 3) (t' 22)) 0,o1 24 (.load 92 (t' 23)) 92,o1 25 (.binOp .xor 92 (t' 20) (t' 24) 92) 92,asg 4 25 92])
 (.ops false [mv 26 4 92,o1 27 (.binOp .shr 92 (t' 26) (.const (.int .u64 (4))) 113) 92,mv 28 4 92,o1 29 (.binOp .rem 92 (t' 28) (.const (.int .u32 (16))) 92) 92,o1 30 (.indexAddr 126 (t' 3) (t' 29)) 0,o1 31 (.load 92 (t' 30)) 92,o1 32 (.binOp .xor 92 (t' 27) (t' 31) 92) 92,asg 4 32 92])))))
 (.ops false [o1 33 (.binOp .add 3 (t' 11) (.const (.int .i64 (1))) 3) 3,mv 11 33 3])))))))
 (.seq
 (.ops false [mv 34 4 92,o1 35 (.unOp .xor 92 (t' 34)) 92,asg 2 35 92])
 (.ret)))))⟩
theorem fa76_eq:fnA qcfg.P (qcfg.rxf 76) 76=some fa76:=by kernel_rfl
def T76_0 (x4:Int) (x9:List V) (x10 x11:Int) (m0_0 m0_1:Int) (m0_2 m0_3:Int) (m0_4 m0_5:Int) (m0_6 m0_7:Int) (m0_8 m0_9:Int) (m0_10 m0_11:Int) (m0_12 m0_13:Int) (m0_14 m0_15:Int):S:=⟨[V.junk,V.junk,V.int .u32 0,V.ptr 0 0 0,V.int .u32 x4]++(JU 4)++[V.sl x9,V.int .i64 x10,V.int .i64 x11]++(JU 24),[O.box 126 (V.agg [V.int .u32 m0_0,V.int .u32 m0_1,V.int .u32 m0_2,V.int .u32 m0_3,V.int .u32 m0_4,V.int .u32 m0_5,V.int .u32 m0_6,V.int .u32 m0_7,V.int .u32 m0_8,V.int .u32 m0_9,V.int .u32 m0_10,V.int .u32 m0_11,V.int .u32 m0_12,V.int .u32 m0_13,V.int .u32 m0_14,V.int .u32 m0_15]) false]⟩
noncomputable def e76 (a0:List UInt8):R :=
 pcK qcfg 91 [] fun r =>
 d126 r fun r910 r911 r912 r913 r914 r915 r916 r917 r918 r919 r9110 r9111 r9112 r9113 r9114 r9115 =>
 some (.head 0 (T76_0 4294967295 (bytesV a0) ((bytesV a0).length:Int) 0 r910 r911 r912 r913 r914 r915 r916 r917 r918 r919 r9110 r9111 r9112 r9113 r9114 r9115))
theorem e76_eq (a0:List UInt8):enterK qk false fa76 [V.str a0] []=e76 a0:=by kernel_rfl
theorem e76_run (a0:List UInt8) {o:Out} {v:V} (h:e76 a0=some o) (hg:Go qk false 0 fa76 o (.done v)):pcW qcfg 76 [V.str a0]=some v:=pcW_go qik rfl fa76_eq ((e76_eq ..).trans h) hg
noncomputable def s76_0 (x4:Int) (x9:List V) (x10 x11:Int) (m0_0 m0_1:Int) (m0_2 m0_3:Int) (m0_4 m0_5:Int) (m0_6 m0_7:Int) (m0_8 m0_9:Int) (m0_10 m0_11:Int) (m0_12 m0_13:Int) (m0_14 m0_15:Int):R :=
 cond (decide (x11 < x10))
 (gd (decide (0<=x11)) <|
  idxK x9 x11.toNat fun v =>
  kI .u8 v fun n =>
  gd (decide (0<=(W .u32 (((BitVec.ofInt (IntKind.bits .u32) x4 ^^^ BitVec.ofInt (IntKind.bits .u32) (W .u32 (n))).toNat:Int))).tmod 16)) <|
  gd (decide (((W .u32 (((BitVec.ofInt (IntKind.bits .u32) x4 ^^^ BitVec.ofInt (IntKind.bits .u32) (W .u32 (n))).toNat:Int))).tmod 16).toNat < 16)) <|
  idxK [V.int .u32 m0_0,V.int .u32 m0_1,V.int .u32 m0_2,V.int .u32 m0_3,V.int .u32 m0_4,V.int .u32 m0_5,V.int .u32 m0_6,V.int .u32 m0_7,V.int .u32 m0_8,V.int .u32 m0_9,V.int .u32 m0_10,V.int .u32 m0_11,V.int .u32 m0_12,V.int .u32 m0_13,V.int .u32 m0_14,V.int .u32 m0_15] (0+(((W .u32 (((BitVec.ofInt (IntKind.bits .u32) x4 ^^^ BitVec.ofInt (IntKind.bits .u32) (W .u32 (n))).toNat:Int))).tmod 16).toNat) * 1) fun v_1 =>
  kI .u32 v_1 fun n_1 =>
  gd (decide (0<=(W .u32 (((BitVec.ofInt (IntKind.bits .u32) ((W .u32 (((BitVec.ofInt (IntKind.bits .u32) x4 ^^^ BitVec.ofInt (IntKind.bits .u32) (W .u32 (n))).toNat:Int))).fdiv (2 ^ (min 4 (IntKind.bits .u32)))) ^^^ BitVec.ofInt (IntKind.bits .u32) n_1).toNat:Int))).tmod 16)) <|
  gd (decide (((W .u32 (((BitVec.ofInt (IntKind.bits .u32) ((W .u32 (((BitVec.ofInt (IntKind.bits .u32) x4 ^^^ BitVec.ofInt (IntKind.bits .u32) (W .u32 (n))).toNat:Int))).fdiv (2 ^ (min 4 (IntKind.bits .u32)))) ^^^ BitVec.ofInt (IntKind.bits .u32) n_1).toNat:Int))).tmod 16).toNat < 16)) <|
  idxK [V.int .u32 m0_0,V.int .u32 m0_1,V.int .u32 m0_2,V.int .u32 m0_3,V.int .u32 m0_4,V.int .u32 m0_5,V.int .u32 m0_6,V.int .u32 m0_7,V.int .u32 m0_8,V.int .u32 m0_9,V.int .u32 m0_10,V.int .u32 m0_11,V.int .u32 m0_12,V.int .u32 m0_13,V.int .u32 m0_14,V.int .u32 m0_15] (0+(((W .u32 (((BitVec.ofInt (IntKind.bits .u32) ((W .u32 (((BitVec.ofInt (IntKind.bits .u32) x4 ^^^ BitVec.ofInt (IntKind.bits .u32) (W .u32 (n))).toNat:Int))).fdiv (2 ^ (min 4 (IntKind.bits .u32)))) ^^^ BitVec.ofInt (IntKind.bits .u32) n_1).toNat:Int))).tmod 16).toNat) * 1) fun v_2 =>
  kI .u32 v_2 fun n_2 =>
  some (.head 0 (T76_0 (W .u32 (((BitVec.ofInt (IntKind.bits .u32) ((W .u32 (((BitVec.ofInt (IntKind.bits .u32) ((W .u32 (((BitVec.ofInt (IntKind.bits .u32) x4 ^^^ BitVec.ofInt (IntKind.bits .u32) (W .u32 (n))).toNat:Int))).fdiv (2 ^ (min 4 (IntKind.bits .u32)))) ^^^ BitVec.ofInt (IntKind.bits .u32) n_1).toNat:Int))).fdiv (2 ^ (min 4 (IntKind.bits .u32)))) ^^^ BitVec.ofInt (IntKind.bits .u32) n_2).toNat:Int))) x9 x10 (W .i64 (x11+1)) m0_0 m0_1 m0_2 m0_3 m0_4 m0_5 m0_6 m0_7 m0_8 m0_9 m0_10 m0_11 m0_12 m0_13 m0_14 m0_15)))
 (some (.done (V.int .u32 (W .u32 (((BitVec.ofInt (IntKind.bits .u32) 4294967295 ^^^ BitVec.ofInt (IntKind.bits .u32) x4).toNat:Int))))))
theorem s76_0_eq (x4:Int) (x9:List V) (x10 x11:Int) (m0_0 m0_1:Int) (m0_2 m0_3:Int) (m0_4 m0_5:Int) (m0_6 m0_7:Int) (m0_8 m0_9:Int) (m0_10 m0_11:Int) (m0_12 m0_13:Int) (m0_14 m0_15:Int):goK qk false 0 fa76 0 (T76_0 x4 x9 x10 x11 m0_0 m0_1 m0_2 m0_3 m0_4 m0_5 m0_6 m0_7 m0_8 m0_9 m0_10 m0_11 m0_12 m0_13 m0_14 m0_15)=s76_0 x4 x9 x10 x11 m0_0 m0_1 m0_2 m0_3 m0_4 m0_5 m0_6 m0_7 m0_8 m0_9 m0_10 m0_11 m0_12 m0_13 m0_14 m0_15:=by kernel_rfl
theorem s76_0_run (x4:Int) (x9:List V) (x10 x11:Int) (m0_0 m0_1:Int) (m0_2 m0_3:Int) (m0_4 m0_5:Int) (m0_6 m0_7:Int) (m0_8 m0_9:Int) (m0_10 m0_11:Int) (m0_12 m0_13:Int) (m0_14 m0_15:Int) {o o':Out} (h:s76_0 x4 x9 x10 x11 m0_0 m0_1 m0_2 m0_3 m0_4 m0_5 m0_6 m0_7 m0_8 m0_9 m0_10 m0_11 m0_12 m0_13 m0_14 m0_15=some o) (hg:Go qk false 0 fa76 o o'):Go qk false 0 fa76 (.head 0 (T76_0 x4 x9 x10 x11 m0_0 m0_1 m0_2 m0_3 m0_4 m0_5 m0_6 m0_7 m0_8 m0_9 m0_10 m0_11 m0_12 m0_13 m0_14 m0_15)) o':=.step ((s76_0_eq ..).trans h) hg
noncomputable def fa100:FA:=⟨1,16,[.tmp 2],[92],
 (.seq
 (.ops false [o1 2 (.assign (.const (.int .u32 (0)))) 92])
 (.seq
 (.seq
 (.ops false [o1 4 (.move (.const (.int .i64 (0)))) 3])
 (.block 0
 (.loop ([1,3]++List.range' 5 11)
 (.seq
 (.ops false [o1 5 (.binOp .lss 3 (t' 4) (.const (.int .i64 (4))) 3) 4])
 (.seq
 (.cond (t' 5)
 (.skip)
 (.exit 0))
 (.seq
 (.block 1
 (.seq
 (.ops false [mv 6 0 92,o1 7 (.binOp .and 92 (t' 6) (.const (.int .u32 (1))) 92) 92,asg 3 7 92])
 (.seq
 (.ops false [mv 8 0 92,o1 9 (.binOp .shr 92 (t' 8) (.const (.int .u64 (1))) 113) 92,asg 0 9 92])
 (.seq
 (.ops false [mv 10 3 92,o1 11 (.binOp .eql 92 (t' 10) (.const (.int .u32 (1))) 92) 4])
 (.cond (t' 11)
 (.ops false [mv 12 0 92,o1 13 (.binOp .xor 92 (t' 12) (.const (.int .u32 (2197175160))) 92) 92,asg 0 13 92])
 (.skip))))))
 (.ops false [o1 14 (.binOp .add 3 (t' 4) (.const (.int .i64 (1))) 3) 3,mv 4 14 3])))))))
 (.seq
 (.ops false [mv 15 0 92,asg 2 15 92])
 (.ret))))⟩
theorem fa100_eq:fnA qcfg.P (qcfg.rxf 100) 100=some fa100:=by kernel_rfl
def T100_0 (x0 x4:Int):S:=⟨[V.int .u32 x0,V.junk,V.int .u32 0,V.junk,V.int .i64 x4]++(JU 11),[]⟩
noncomputable def e100 (a0:Int):R :=
 some (.head 0 (T100_0 a0 0))
theorem e100_eq (a0:Int):enterK qk false fa100 [V.int .u32 a0] []=e100 a0:=by kernel_rfl
theorem e100_run (a0:Int) {o:Out} {v:V} (h:e100 a0=some o) (hg:Go qk false 0 fa100 o (.done v)):pcW qcfg 100 [V.int .u32 a0]=some v:=pcW_go qik rfl fa100_eq ((e100_eq ..).trans h) hg
noncomputable def s100_0 (x0 x4:Int):R :=
 cond (decide (x4 < 4))
 (cond ((W .u32 (((BitVec.ofInt (IntKind.bits .u32) x0 &&& BitVec.ofInt (IntKind.bits .u32) 1).toNat:Int)))==(1:Int))
 (some (.head 0 (T100_0 (W .u32 (((BitVec.ofInt (IntKind.bits .u32) (x0.fdiv (2 ^ (min 1 (IntKind.bits .u32)))) ^^^ BitVec.ofInt (IntKind.bits .u32) 2197175160).toNat:Int))) (W .i64 (x4+1)))))
 (some (.head 0 (T100_0 (x0.fdiv (2 ^ (min 1 (IntKind.bits .u32)))) (W .i64 (x4+1))))))
 (some (.done (V.int .u32 x0)))
theorem s100_0_eq (x0 x4:Int):goK qk false 0 fa100 0 (T100_0 x0 x4)=s100_0 x0 x4:=by kernel_rfl
theorem s100_0_run (x0 x4:Int) {o o':Out} (h:s100_0 x0 x4=some o) (hg:Go qk false 0 fa100 o o'):Go qk false 0 fa100 (.head 0 (T100_0 x0 x4)) o':=.step ((s100_0_eq ..).trans h) hg
noncomputable def fa91:FA:=⟨0,15,[.cell 0 126],[126],
 (.seq
 (.ops false [o1 0 (.alloc 126) 0])
 (.seq
 (.ops false [o1 1 (.assign (.func 100)) 136])
 (.seq
 (.ops false [o1 2 (.alloc 126) 0])
 (.seq
 (.seq
 (.ops false [o1 4 (.move (.const (.int .i64 (0)))) 3])
 (.block 0
 (.loop ([3]++List.range' 5 10)
 (.seq
 (.ops false [o1 5 (.binOp .lss 3 (t' 4) (.const (.int .i64 (16))) 3) 0])
 (.seq
 (.cond (t' 5)
 (.skip)
 (.exit 0))
 (.seq
 (.block 1
 (.seq
 (.ops false [mv 6 4 3,asg 3 6 3])
 (.ops false [mv 7 3 3,mv 8 1 136,mv 9 3 3,o1 10 (.convert 3 92 (t' 9)) 92,o1 11 (.call ⟨(.value (t' 8)),#[(t' 10)],#[92]⟩) 92,o1 12 (.indexAddr 126 (t' 2) (t' 7)) 0,o0 (.store 92 (t' 12) (t' 11)) 0])))
 (.ops false [o1 13 (.binOp .add 3 (t' 4) (.const (.int .i64 (1))) 3) 3,mv 4 13 3])))))))
 (.seq
 (.ops false [o1 14 (.load 126 (t' 2)) 126,o0 (.store 126 (t' 0) (t' 14)) 0])
 (.ret))))))⟩
theorem fa91_eq:fnA qcfg.P (qcfg.rxf 91) 91=some fa91:=by kernel_rfl
def T91_0 (x4 m1_0:Int) (m1_1 m1_2:Int) (m1_3 m1_4:Int) (m1_5 m1_6:Int) (m1_7 m1_8:Int) (m1_9 m1_10:Int) (m1_11 m1_12:Int) (m1_13 m1_14 m1_15:Int):S:=⟨[V.ptr 0 0 0,V.fn 100 [],V.ptr 1 0 0,V.junk,V.int .i64 x4]++(JU 10),[O.box 126 (V.agg [V.int .u32 0,V.int .u32 0,V.int .u32 0,V.int .u32 0,V.int .u32 0,V.int .u32 0,V.int .u32 0,V.int .u32 0,V.int .u32 0,V.int .u32 0,V.int .u32 0,V.int .u32 0,V.int .u32 0,V.int .u32 0,V.int .u32 0,V.int .u32 0]) false,O.box 126 (V.agg [V.int .u32 m1_0,V.int .u32 m1_1,V.int .u32 m1_2,V.int .u32 m1_3,V.int .u32 m1_4,V.int .u32 m1_5,V.int .u32 m1_6,V.int .u32 m1_7,V.int .u32 m1_8,V.int .u32 m1_9,V.int .u32 m1_10,V.int .u32 m1_11,V.int .u32 m1_12,V.int .u32 m1_13,V.int .u32 m1_14,V.int .u32 m1_15]) false]⟩
noncomputable def e91 :R :=
 some (.head 0 (T91_0 0 0 0 0 0 0 0 0 0 0 0 0 0 0 0 0 0))
theorem e91_eq :enterK qk false fa91 [] []=e91 :=by kernel_rfl
theorem e91_run  {o:Out} {v:V} (h:e91 =some o) (hg:Go qk false 0 fa91 o (.done v)):pcW qcfg 91 []=some v:=pcW_go qik rfl fa91_eq ((e91_eq ).trans h) hg
noncomputable def s91_0_0 (m1_0 m1_1:Int) (m1_2 m1_3:Int) (m1_4 m1_5:Int) (m1_6 m1_7:Int) (m1_8 m1_9:Int) (m1_10 m1_11:Int) (m1_12 m1_13:Int) (m1_14 m1_15:Int):R :=
 pcK qcfg 100 [V.int .u32 0] fun r =>
 kI .u32 r fun r100 =>
 some (.head 0 (T91_0 1 r100 m1_1 m1_2 m1_3 m1_4 m1_5 m1_6 m1_7 m1_8 m1_9 m1_10 m1_11 m1_12 m1_13 m1_14 m1_15))
theorem s91_0_0_eq (m1_0 m1_1:Int) (m1_2 m1_3:Int) (m1_4 m1_5:Int) (m1_6 m1_7:Int) (m1_8 m1_9:Int) (m1_10 m1_11:Int) (m1_12 m1_13:Int) (m1_14 m1_15:Int):goK qk false 0 fa91 0 (T91_0 0 m1_0 m1_1 m1_2 m1_3 m1_4 m1_5 m1_6 m1_7 m1_8 m1_9 m1_10 m1_11 m1_12 m1_13 m1_14 m1_15)=s91_0_0 m1_0 m1_1 m1_2 m1_3 m1_4 m1_5 m1_6 m1_7 m1_8 m1_9 m1_10 m1_11 m1_12 m1_13 m1_14 m1_15:=by kernel_rfl
theorem s91_0_0_run (m1_0 m1_1:Int) (m1_2 m1_3:Int) (m1_4 m1_5:Int) (m1_6 m1_7:Int) (m1_8 m1_9:Int) (m1_10 m1_11:Int) (m1_12 m1_13:Int) (m1_14 m1_15:Int) {o o':Out} (h:s91_0_0 m1_0 m1_1 m1_2 m1_3 m1_4 m1_5 m1_6 m1_7 m1_8 m1_9 m1_10 m1_11 m1_12 m1_13 m1_14 m1_15=some o) (hg:Go qk false 0 fa91 o o'):Go qk false 0 fa91 (.head 0 (T91_0 0 m1_0 m1_1 m1_2 m1_3 m1_4 m1_5 m1_6 m1_7 m1_8 m1_9 m1_10 m1_11 m1_12 m1_13 m1_14 m1_15)) o':=.step ((s91_0_0_eq ..).trans h) hg
noncomputable def s91_0_1 (m1_0 m1_1:Int) (m1_2 m1_3:Int) (m1_4 m1_5:Int) (m1_6 m1_7:Int) (m1_8 m1_9:Int) (m1_10 m1_11:Int) (m1_12 m1_13:Int) (m1_14 m1_15:Int):R :=
 pcK qcfg 100 [V.int .u32 1] fun r =>
 kI .u32 r fun r100 =>
 some (.head 0 (T91_0 2 m1_0 r100 m1_2 m1_3 m1_4 m1_5 m1_6 m1_7 m1_8 m1_9 m1_10 m1_11 m1_12 m1_13 m1_14 m1_15))
theorem s91_0_1_eq (m1_0 m1_1:Int) (m1_2 m1_3:Int) (m1_4 m1_5:Int) (m1_6 m1_7:Int) (m1_8 m1_9:Int) (m1_10 m1_11:Int) (m1_12 m1_13:Int) (m1_14 m1_15:Int):goK qk false 0 fa91 0 (T91_0 1 m1_0 m1_1 m1_2 m1_3 m1_4 m1_5 m1_6 m1_7 m1_8 m1_9 m1_10 m1_11 m1_12 m1_13 m1_14 m1_15)=s91_0_1 m1_0 m1_1 m1_2 m1_3 m1_4 m1_5 m1_6 m1_7 m1_8 m1_9 m1_10 m1_11 m1_12 m1_13 m1_14 m1_15:=by kernel_rfl
theorem s91_0_1_run (m1_0 m1_1:Int) (m1_2 m1_3:Int) (m1_4 m1_5:Int) (m1_6 m1_7:Int) (m1_8 m1_9:Int) (m1_10 m1_11:Int) (m1_12 m1_13:Int) (m1_14 m1_15:Int) {o o':Out} (h:s91_0_1 m1_0 m1_1 m1_2 m1_3 m1_4 m1_5 m1_6 m1_7 m1_8 m1_9 m1_10 m1_11 m1_12 m1_13 m1_14 m1_15=some o) (hg:Go qk false 0 fa91 o o'):Go qk false 0 fa91 (.head 0 (T91_0 1 m1_0 m1_1 m1_2 m1_3 m1_4 m1_5 m1_6 m1_7 m1_8 m1_9 m1_10 m1_11 m1_12 m1_13 m1_14 m1_15)) o':=.step ((s91_0_1_eq ..).trans h) hg
noncomputable def s91_0_2 (m1_0 m1_1:Int) (m1_2 m1_3:Int) (m1_4 m1_5:Int) (m1_6 m1_7:Int) (m1_8 m1_9:Int) (m1_10 m1_11:Int) (m1_12 m1_13:Int) (m1_14 m1_15:Int):R :=
 pcK qcfg 100 [V.int .u32 2] fun r =>
 kI .u32 r fun r100 =>
 some (.head 0 (T91_0 3 m1_0 m1_1 r100 m1_3 m1_4 m1_5 m1_6 m1_7 m1_8 m1_9 m1_10 m1_11 m1_12 m1_13 m1_14 m1_15))
theorem s91_0_2_eq (m1_0 m1_1:Int) (m1_2 m1_3:Int) (m1_4 m1_5:Int) (m1_6 m1_7:Int) (m1_8 m1_9:Int) (m1_10 m1_11:Int) (m1_12 m1_13:Int) (m1_14 m1_15:Int):goK qk false 0 fa91 0 (T91_0 2 m1_0 m1_1 m1_2 m1_3 m1_4 m1_5 m1_6 m1_7 m1_8 m1_9 m1_10 m1_11 m1_12 m1_13 m1_14 m1_15)=s91_0_2 m1_0 m1_1 m1_2 m1_3 m1_4 m1_5 m1_6 m1_7 m1_8 m1_9 m1_10 m1_11 m1_12 m1_13 m1_14 m1_15:=by kernel_rfl
theorem s91_0_2_run (m1_0 m1_1:Int) (m1_2 m1_3:Int) (m1_4 m1_5:Int) (m1_6 m1_7:Int) (m1_8 m1_9:Int) (m1_10 m1_11:Int) (m1_12 m1_13:Int) (m1_14 m1_15:Int) {o o':Out} (h:s91_0_2 m1_0 m1_1 m1_2 m1_3 m1_4 m1_5 m1_6 m1_7 m1_8 m1_9 m1_10 m1_11 m1_12 m1_13 m1_14 m1_15=some o) (hg:Go qk false 0 fa91 o o'):Go qk false 0 fa91 (.head 0 (T91_0 2 m1_0 m1_1 m1_2 m1_3 m1_4 m1_5 m1_6 m1_7 m1_8 m1_9 m1_10 m1_11 m1_12 m1_13 m1_14 m1_15)) o':=.step ((s91_0_2_eq ..).trans h) hg
noncomputable def s91_0_3 (m1_0 m1_1:Int) (m1_2 m1_3:Int) (m1_4 m1_5:Int) (m1_6 m1_7:Int) (m1_8 m1_9:Int) (m1_10 m1_11:Int) (m1_12 m1_13:Int) (m1_14 m1_15:Int):R :=
 pcK qcfg 100 [V.int .u32 3] fun r =>
 kI .u32 r fun r100 =>
 some (.head 0 (T91_0 4 m1_0 m1_1 m1_2 r100 m1_4 m1_5 m1_6 m1_7 m1_8 m1_9 m1_10 m1_11 m1_12 m1_13 m1_14 m1_15))
theorem s91_0_3_eq (m1_0 m1_1:Int) (m1_2 m1_3:Int) (m1_4 m1_5:Int) (m1_6 m1_7:Int) (m1_8 m1_9:Int) (m1_10 m1_11:Int) (m1_12 m1_13:Int) (m1_14 m1_15:Int):goK qk false 0 fa91 0 (T91_0 3 m1_0 m1_1 m1_2 m1_3 m1_4 m1_5 m1_6 m1_7 m1_8 m1_9 m1_10 m1_11 m1_12 m1_13 m1_14 m1_15)=s91_0_3 m1_0 m1_1 m1_2 m1_3 m1_4 m1_5 m1_6 m1_7 m1_8 m1_9 m1_10 m1_11 m1_12 m1_13 m1_14 m1_15:=by kernel_rfl
theorem s91_0_3_run (m1_0 m1_1:Int) (m1_2 m1_3:Int) (m1_4 m1_5:Int) (m1_6 m1_7:Int) (m1_8 m1_9:Int) (m1_10 m1_11:Int) (m1_12 m1_13:Int) (m1_14 m1_15:Int) {o o':Out} (h:s91_0_3 m1_0 m1_1 m1_2 m1_3 m1_4 m1_5 m1_6 m1_7 m1_8 m1_9 m1_10 m1_11 m1_12 m1_13 m1_14 m1_15=some o) (hg:Go qk false 0 fa91 o o'):Go qk false 0 fa91 (.head 0 (T91_0 3 m1_0 m1_1 m1_2 m1_3 m1_4 m1_5 m1_6 m1_7 m1_8 m1_9 m1_10 m1_11 m1_12 m1_13 m1_14 m1_15)) o':=.step ((s91_0_3_eq ..).trans h) hg
noncomputable def s91_0_4 (m1_0 m1_1:Int) (m1_2 m1_3:Int) (m1_4 m1_5:Int) (m1_6 m1_7:Int) (m1_8 m1_9:Int) (m1_10 m1_11:Int) (m1_12 m1_13:Int) (m1_14 m1_15:Int):R :=
 pcK qcfg 100 [V.int .u32 4] fun r =>
 kI .u32 r fun r100 =>
 some (.head 0 (T91_0 5 m1_0 m1_1 m1_2 m1_3 r100 m1_5 m1_6 m1_7 m1_8 m1_9 m1_10 m1_11 m1_12 m1_13 m1_14 m1_15))
theorem s91_0_4_eq (m1_0 m1_1:Int) (m1_2 m1_3:Int) (m1_4 m1_5:Int) (m1_6 m1_7:Int) (m1_8 m1_9:Int) (m1_10 m1_11:Int) (m1_12 m1_13:Int) (m1_14 m1_15:Int):goK qk false 0 fa91 0 (T91_0 4 m1_0 m1_1 m1_2 m1_3 m1_4 m1_5 m1_6 m1_7 m1_8 m1_9 m1_10 m1_11 m1_12 m1_13 m1_14 m1_15)=s91_0_4 m1_0 m1_1 m1_2 m1_3 m1_4 m1_5 m1_6 m1_7 m1_8 m1_9 m1_10 m1_11 m1_12 m1_13 m1_14 m1_15:=by kernel_rfl
theorem s91_0_4_run (m1_0 m1_1:Int) (m1_2 m1_3:Int) (m1_4 m1_5:Int) (m1_6 m1_7:Int) (m1_8 m1_9:Int) (m1_10 m1_11:Int) (m1_12 m1_13:Int) (m1_14 m1_15:Int) {o o':Out} (h:s91_0_4 m1_0 m1_1 m1_2 m1_3 m1_4 m1_5 m1_6 m1_7 m1_8 m1_9 m1_10 m1_11 m1_12 m1_13 m1_14 m1_15=some o) (hg:Go qk false 0 fa91 o o'):Go qk false 0 fa91 (.head 0 (T91_0 4 m1_0 m1_1 m1_2 m1_3 m1_4 m1_5 m1_6 m1_7 m1_8 m1_9 m1_10 m1_11 m1_12 m1_13 m1_14 m1_15)) o':=.step ((s91_0_4_eq ..).trans h) hg
noncomputable def s91_0_5 (m1_0 m1_1:Int) (m1_2 m1_3:Int) (m1_4 m1_5:Int) (m1_6 m1_7:Int) (m1_8 m1_9:Int) (m1_10 m1_11:Int) (m1_12 m1_13:Int) (m1_14 m1_15:Int):R :=
 pcK qcfg 100 [V.int .u32 5] fun r =>
 kI .u32 r fun r100 =>
 some (.head 0 (T91_0 6 m1_0 m1_1 m1_2 m1_3 m1_4 r100 m1_6 m1_7 m1_8 m1_9 m1_10 m1_11 m1_12 m1_13 m1_14 m1_15))
theorem s91_0_5_eq (m1_0 m1_1:Int) (m1_2 m1_3:Int) (m1_4 m1_5:Int) (m1_6 m1_7:Int) (m1_8 m1_9:Int) (m1_10 m1_11:Int) (m1_12 m1_13:Int) (m1_14 m1_15:Int):goK qk false 0 fa91 0 (T91_0 5 m1_0 m1_1 m1_2 m1_3 m1_4 m1_5 m1_6 m1_7 m1_8 m1_9 m1_10 m1_11 m1_12 m1_13 m1_14 m1_15)=s91_0_5 m1_0 m1_1 m1_2 m1_3 m1_4 m1_5 m1_6 m1_7 m1_8 m1_9 m1_10 m1_11 m1_12 m1_13 m1_14 m1_15:=by kernel_rfl
theorem s91_0_5_run (m1_0 m1_1:Int) (m1_2 m1_3:Int) (m1_4 m1_5:Int) (m1_6 m1_7:Int) (m1_8 m1_9:Int) (m1_10 m1_11:Int) (m1_12 m1_13:Int) (m1_14 m1_15:Int) {o o':Out} (h:s91_0_5 m1_0 m1_1 m1_2 m1_3 m1_4 m1_5 m1_6 m1_7 m1_8 m1_9 m1_10 m1_11 m1_12 m1_13 m1_14 m1_15=some o) (hg:Go qk false 0 fa91 o o'):Go qk false 0 fa91 (.head 0 (T91_0 5 m1_0 m1_1 m1_2 m1_3 m1_4 m1_5 m1_6 m1_7 m1_8 m1_9 m1_10 m1_11 m1_12 m1_13 m1_14 m1_15)) o':=.step ((s91_0_5_eq ..).trans h) hg
noncomputable def s91_0_6 (m1_0 m1_1:Int) (m1_2 m1_3:Int) (m1_4 m1_5:Int) (m1_6 m1_7:Int) (m1_8 m1_9:Int) (m1_10 m1_11:Int) (m1_12 m1_13:Int) (m1_14 m1_15:Int):R :=
 pcK qcfg 100 [V.int .u32 6] fun r =>
 kI .u32 r fun r100 =>
 some (.head 0 (T91_0 7 m1_0 m1_1 m1_2 m1_3 m1_4 m1_5 r100 m1_7 m1_8 m1_9 m1_10 m1_11 m1_12 m1_13 m1_14 m1_15))
theorem s91_0_6_eq (m1_0 m1_1:Int) (m1_2 m1_3:Int) (m1_4 m1_5:Int) (m1_6 m1_7:Int) (m1_8 m1_9:Int) (m1_10 m1_11:Int) (m1_12 m1_13:Int) (m1_14 m1_15:Int):goK qk false 0 fa91 0 (T91_0 6 m1_0 m1_1 m1_2 m1_3 m1_4 m1_5 m1_6 m1_7 m1_8 m1_9 m1_10 m1_11 m1_12 m1_13 m1_14 m1_15)=s91_0_6 m1_0 m1_1 m1_2 m1_3 m1_4 m1_5 m1_6 m1_7 m1_8 m1_9 m1_10 m1_11 m1_12 m1_13 m1_14 m1_15:=by kernel_rfl
theorem s91_0_6_run (m1_0 m1_1:Int) (m1_2 m1_3:Int) (m1_4 m1_5:Int) (m1_6 m1_7:Int) (m1_8 m1_9:Int) (m1_10 m1_11:Int) (m1_12 m1_13:Int) (m1_14 m1_15:Int) {o o':Out} (h:s91_0_6 m1_0 m1_1 m1_2 m1_3 m1_4 m1_5 m1_6 m1_7 m1_8 m1_9 m1_10 m1_11 m1_12 m1_13 m1_14 m1_15=some o) (hg:Go qk false 0 fa91 o o'):Go qk false 0 fa91 (.head 0 (T91_0 6 m1_0 m1_1 m1_2 m1_3 m1_4 m1_5 m1_6 m1_7 m1_8 m1_9 m1_10 m1_11 m1_12 m1_13 m1_14 m1_15)) o':=.step ((s91_0_6_eq ..).trans h) hg
noncomputable def s91_0_7 (m1_0 m1_1:Int) (m1_2 m1_3:Int) (m1_4 m1_5:Int) (m1_6 m1_7:Int) (m1_8 m1_9:Int) (m1_10 m1_11:Int) (m1_12 m1_13:Int) (m1_14 m1_15:Int):R :=
 pcK qcfg 100 [V.int .u32 7] fun r =>
 kI .u32 r fun r100 =>
 some (.head 0 (T91_0 8 m1_0 m1_1 m1_2 m1_3 m1_4 m1_5 m1_6 r100 m1_8 m1_9 m1_10 m1_11 m1_12 m1_13 m1_14 m1_15))
theorem s91_0_7_eq (m1_0 m1_1:Int) (m1_2 m1_3:Int) (m1_4 m1_5:Int) (m1_6 m1_7:Int) (m1_8 m1_9:Int) (m1_10 m1_11:Int) (m1_12 m1_13:Int) (m1_14 m1_15:Int):goK qk false 0 fa91 0 (T91_0 7 m1_0 m1_1 m1_2 m1_3 m1_4 m1_5 m1_6 m1_7 m1_8 m1_9 m1_10 m1_11 m1_12 m1_13 m1_14 m1_15)=s91_0_7 m1_0 m1_1 m1_2 m1_3 m1_4 m1_5 m1_6 m1_7 m1_8 m1_9 m1_10 m1_11 m1_12 m1_13 m1_14 m1_15:=by kernel_rfl
theorem s91_0_7_run (m1_0 m1_1:Int) (m1_2 m1_3:Int) (m1_4 m1_5:Int) (m1_6 m1_7:Int) (m1_8 m1_9:Int) (m1_10 m1_11:Int) (m1_12 m1_13:Int) (m1_14 m1_15:Int) {o o':Out} (h:s91_0_7 m1_0 m1_1 m1_2 m1_3 m1_4 m1_5 m1_6 m1_7 m1_8 m1_9 m1_10 m1_11 m1_12 m1_13 m1_14 m1_15=some o) (hg:Go qk false 0 fa91 o o'):Go qk false 0 fa91 (.head 0 (T91_0 7 m1_0 m1_1 m1_2 m1_3 m1_4 m1_5 m1_6 m1_7 m1_8 m1_9 m1_10 m1_11 m1_12 m1_13 m1_14 m1_15)) o':=.step ((s91_0_7_eq ..).trans h) hg
noncomputable def s91_0_8 (m1_0 m1_1:Int) (m1_2 m1_3:Int) (m1_4 m1_5:Int) (m1_6 m1_7:Int) (m1_8 m1_9:Int) (m1_10 m1_11:Int) (m1_12 m1_13:Int) (m1_14 m1_15:Int):R :=
 pcK qcfg 100 [V.int .u32 8] fun r =>
 kI .u32 r fun r100 =>
 some (.head 0 (T91_0 9 m1_0 m1_1 m1_2 m1_3 m1_4 m1_5 m1_6 m1_7 r100 m1_9 m1_10 m1_11 m1_12 m1_13 m1_14 m1_15))
theorem s91_0_8_eq (m1_0 m1_1:Int) (m1_2 m1_3:Int) (m1_4 m1_5:Int) (m1_6 m1_7:Int) (m1_8 m1_9:Int) (m1_10 m1_11:Int) (m1_12 m1_13:Int) (m1_14 m1_15:Int):goK qk false 0 fa91 0 (T91_0 8 m1_0 m1_1 m1_2 m1_3 m1_4 m1_5 m1_6 m1_7 m1_8 m1_9 m1_10 m1_11 m1_12 m1_13 m1_14 m1_15)=s91_0_8 m1_0 m1_1 m1_2 m1_3 m1_4 m1_5 m1_6 m1_7 m1_8 m1_9 m1_10 m1_11 m1_12 m1_13 m1_14 m1_15:=by kernel_rfl
theorem s91_0_8_run (m1_0 m1_1:Int) (m1_2 m1_3:Int) (m1_4 m1_5:Int) (m1_6 m1_7:Int) (m1_8 m1_9:Int) (m1_10 m1_11:Int) (m1_12 m1_13:Int) (m1_14 m1_15:Int) {o o':Out} (h:s91_0_8 m1_0 m1_1 m1_2 m1_3 m1_4 m1_5 m1_6 m1_7 m1_8 m1_9 m1_10 m1_11 m1_12 m1_13 m1_14 m1_15=some o) (hg:Go qk false 0 fa91 o o'):Go qk false 0 fa91 (.head 0 (T91_0 8 m1_0 m1_1 m1_2 m1_3 m1_4 m1_5 m1_6 m1_7 m1_8 m1_9 m1_10 m1_11 m1_12 m1_13 m1_14 m1_15)) o':=.step ((s91_0_8_eq ..).trans h) hg
noncomputable def s91_0_9 (m1_0 m1_1:Int) (m1_2 m1_3:Int) (m1_4 m1_5:Int) (m1_6 m1_7:Int) (m1_8 m1_9:Int) (m1_10 m1_11:Int) (m1_12 m1_13:Int) (m1_14 m1_15:Int):R :=
 pcK qcfg 100 [V.int .u32 9] fun r =>
 kI .u32 r fun r100 =>
 some (.head 0 (T91_0 10 m1_0 m1_1 m1_2 m1_3 m1_4 m1_5 m1_6 m1_7 m1_8 r100 m1_10 m1_11 m1_12 m1_13 m1_14 m1_15))
theorem s91_0_9_eq (m1_0 m1_1:Int) (m1_2 m1_3:Int) (m1_4 m1_5:Int) (m1_6 m1_7:Int) (m1_8 m1_9:Int) (m1_10 m1_11:Int) (m1_12 m1_13:Int) (m1_14 m1_15:Int):goK qk false 0 fa91 0 (T91_0 9 m1_0 m1_1 m1_2 m1_3 m1_4 m1_5 m1_6 m1_7 m1_8 m1_9 m1_10 m1_11 m1_12 m1_13 m1_14 m1_15)=s91_0_9 m1_0 m1_1 m1_2 m1_3 m1_4 m1_5 m1_6 m1_7 m1_8 m1_9 m1_10 m1_11 m1_12 m1_13 m1_14 m1_15:=by kernel_rfl
theorem s91_0_9_run (m1_0 m1_1:Int) (m1_2 m1_3:Int) (m1_4 m1_5:Int) (m1_6 m1_7:Int) (m1_8 m1_9:Int) (m1_10 m1_11:Int) (m1_12 m1_13:Int) (m1_14 m1_15:Int) {o o':Out} (h:s91_0_9 m1_0 m1_1 m1_2 m1_3 m1_4 m1_5 m1_6 m1_7 m1_8 m1_9 m1_10 m1_11 m1_12 m1_13 m1_14 m1_15=some o) (hg:Go qk false 0 fa91 o o'):Go qk false 0 fa91 (.head 0 (T91_0 9 m1_0 m1_1 m1_2 m1_3 m1_4 m1_5 m1_6 m1_7 m1_8 m1_9 m1_10 m1_11 m1_12 m1_13 m1_14 m1_15)) o':=.step ((s91_0_9_eq ..).trans h) hg
noncomputable def s91_0_10 (m1_0 m1_1:Int) (m1_2 m1_3:Int) (m1_4 m1_5:Int) (m1_6 m1_7:Int) (m1_8 m1_9:Int) (m1_10 m1_11:Int) (m1_12 m1_13:Int) (m1_14 m1_15:Int):R :=
 pcK qcfg 100 [V.int .u32 10] fun r =>
 kI .u32 r fun r100 =>
 some (.head 0 (T91_0 11 m1_0 m1_1 m1_2 m1_3 m1_4 m1_5 m1_6 m1_7 m1_8 m1_9 r100 m1_11 m1_12 m1_13 m1_14 m1_15))
theorem s91_0_10_eq (m1_0 m1_1:Int) (m1_2 m1_3:Int) (m1_4 m1_5:Int) (m1_6 m1_7:Int) (m1_8 m1_9:Int) (m1_10 m1_11:Int) (m1_12 m1_13:Int) (m1_14 m1_15:Int):goK qk false 0 fa91 0 (T91_0 10 m1_0 m1_1 m1_2 m1_3 m1_4 m1_5 m1_6 m1_7 m1_8 m1_9 m1_10 m1_11 m1_12 m1_13 m1_14 m1_15)=s91_0_10 m1_0 m1_1 m1_2 m1_3 m1_4 m1_5 m1_6 m1_7 m1_8 m1_9 m1_10 m1_11 m1_12 m1_13 m1_14 m1_15:=by kernel_rfl
theorem s91_0_10_run (m1_0 m1_1:Int) (m1_2 m1_3:Int) (m1_4 m1_5:Int) (m1_6 m1_7:Int) (m1_8 m1_9:Int) (m1_10 m1_11:Int) (m1_12 m1_13:Int) (m1_14 m1_15:Int) {o o':Out} (h:s91_0_10 m1_0 m1_1 m1_2 m1_3 m1_4 m1_5 m1_6 m1_7 m1_8 m1_9 m1_10 m1_11 m1_12 m1_13 m1_14 m1_15=some o) (hg:Go qk false 0 fa91 o o'):Go qk false 0 fa91 (.head 0 (T91_0 10 m1_0 m1_1 m1_2 m1_3 m1_4 m1_5 m1_6 m1_7 m1_8 m1_9 m1_10 m1_11 m1_12 m1_13 m1_14 m1_15)) o':=.step ((s91_0_10_eq ..).trans h) hg
noncomputable def s91_0_11 (m1_0 m1_1:Int) (m1_2 m1_3:Int) (m1_4 m1_5:Int) (m1_6 m1_7:Int) (m1_8 m1_9:Int) (m1_10 m1_11:Int) (m1_12 m1_13:Int) (m1_14 m1_15:Int):R :=
 pcK qcfg 100 [V.int .u32 11] fun r =>
 kI .u32 r fun r100 =>
 some (.head 0 (T91_0 12 m1_0 m1_1 m1_2 m1_3 m1_4 m1_5 m1_6 m1_7 m1_8 m1_9 m1_10 r100 m1_12 m1_13 m1_14 m1_15))
theorem s91_0_11_eq (m1_0 m1_1:Int) (m1_2 m1_3:Int) (m1_4 m1_5:Int) (m1_6 m1_7:Int) (m1_8 m1_9:Int) (m1_10 m1_11:Int) (m1_12 m1_13:Int) (m1_14 m1_15:Int):goK qk false 0 fa91 0 (T91_0 11 m1_0 m1_1 m1_2 m1_3 m1_4 m1_5 m1_6 m1_7 m1_8 m1_9 m1_10 m1_11 m1_12 m1_13 m1_14 m1_15)=s91_0_11 m1_0 m1_1 m1_2 m1_3 m1_4 m1_5 m1_6 m1_7 m1_8 m1_9 m1_10 m1_11 m1_12 m1_13 m1_14 m1_15:=by kernel_rfl
theorem s91_0_11_run (m1_0 m1_1:Int) (m1_2 m1_3:Int) (m1_4 m1_5:Int) (m1_6 m1_7:Int) (m1_8 m1_9:Int) (m1_10 m1_11:Int) (m1_12 m1_13:Int) (m1_14 m1_15:Int) {o o':Out} (h:s91_0_11 m1_0 m1_1 m1_2 m1_3 m1_4 m1_5 m1_6 m1_7 m1_8 m1_9 m1_10 m1_11 m1_12 m1_13 m1_14 m1_15=some o) (hg:Go qk false 0 fa91 o o'):Go qk false 0 fa91 (.head 0 (T91_0 11 m1_0 m1_1 m1_2 m1_3 m1_4 m1_5 m1_6 m1_7 m1_8 m1_9 m1_10 m1_11 m1_12 m1_13 m1_14 m1_15)) o':=.step ((s91_0_11_eq ..).trans h) hg
noncomputable def s91_0_12 (m1_0 m1_1:Int) (m1_2 m1_3:Int) (m1_4 m1_5:Int) (m1_6 m1_7:Int) (m1_8 m1_9:Int) (m1_10 m1_11:Int) (m1_12 m1_13:Int) (m1_14 m1_15:Int):R :=
 pcK qcfg 100 [V.int .u32 12] fun r =>
 kI .u32 r fun r100 =>
 some (.head 0 (T91_0 13 m1_0 m1_1 m1_2 m1_3 m1_4 m1_5 m1_6 m1_7 m1_8 m1_9 m1_10 m1_11 r100 m1_13 m1_14 m1_15))
theorem s91_0_12_eq (m1_0 m1_1:Int) (m1_2 m1_3:Int) (m1_4 m1_5:Int) (m1_6 m1_7:Int) (m1_8 m1_9:Int) (m1_10 m1_11:Int) (m1_12 m1_13:Int) (m1_14 m1_15:Int):goK qk false 0 fa91 0 (T91_0 12 m1_0 m1_1 m1_2 m1_3 m1_4 m1_5 m1_6 m1_7 m1_8 m1_9 m1_10 m1_11 m1_12 m1_13 m1_14 m1_15)=s91_0_12 m1_0 m1_1 m1_2 m1_3 m1_4 m1_5 m1_6 m1_7 m1_8 m1_9 m1_10 m1_11 m1_12 m1_13 m1_14 m1_15:=by kernel_rfl
theorem s91_0_12_run (m1_0 m1_1:Int) (m1_2 m1_3:Int) (m1_4 m1_5:Int) (m1_6 m1_7:Int) (m1_8 m1_9:Int) (m1_10 m1_11:Int) (m1_12 m1_13:Int) (m1_14 m1_15:Int) {o o':Out} (h:s91_0_12 m1_0 m1_1 m1_2 m1_3 m1_4 m1_5 m1_6 m1_7 m1_8 m1_9 m1_10 m1_11 m1_12 m1_13 m1_14 m1_15=some o) (hg:Go qk false 0 fa91 o o'):Go qk false 0 fa91 (.head 0 (T91_0 12 m1_0 m1_1 m1_2 m1_3 m1_4 m1_5 m1_6 m1_7 m1_8 m1_9 m1_10 m1_11 m1_12 m1_13 m1_14 m1_15)) o':=.step ((s91_0_12_eq ..).trans h) hg
noncomputable def s91_0_13 (m1_0 m1_1:Int) (m1_2 m1_3:Int) (m1_4 m1_5:Int) (m1_6 m1_7:Int) (m1_8 m1_9:Int) (m1_10 m1_11:Int) (m1_12 m1_13:Int) (m1_14 m1_15:Int):R :=
 pcK qcfg 100 [V.int .u32 13] fun r =>
 kI .u32 r fun r100 =>
 some (.head 0 (T91_0 14 m1_0 m1_1 m1_2 m1_3 m1_4 m1_5 m1_6 m1_7 m1_8 m1_9 m1_10 m1_11 m1_12 r100 m1_14 m1_15))
theorem s91_0_13_eq (m1_0 m1_1:Int) (m1_2 m1_3:Int) (m1_4 m1_5:Int) (m1_6 m1_7:Int) (m1_8 m1_9:Int) (m1_10 m1_11:Int) (m1_12 m1_13:Int) (m1_14 m1_15:Int):goK qk false 0 fa91 0 (T91_0 13 m1_0 m1_1 m1_2 m1_3 m1_4 m1_5 m1_6 m1_7 m1_8 m1_9 m1_10 m1_11 m1_12 m1_13 m1_14 m1_15)=s91_0_13 m1_0 m1_1 m1_2 m1_3 m1_4 m1_5 m1_6 m1_7 m1_8 m1_9 m1_10 m1_11 m1_12 m1_13 m1_14 m1_15:=by kernel_rfl
theorem s91_0_13_run (m1_0 m1_1:Int) (m1_2 m1_3:Int) (m1_4 m1_5:Int) (m1_6 m1_7:Int) (m1_8 m1_9:Int) (m1_10 m1_11:Int) (m1_12 m1_13:Int) (m1_14 m1_15:Int) {o o':Out} (h:s91_0_13 m1_0 m1_1 m1_2 m1_3 m1_4 m1_5 m1_6 m1_7 m1_8 m1_9 m1_10 m1_11 m1_12 m1_13 m1_14 m1_15=some o) (hg:Go qk false 0 fa91 o o'):Go qk false 0 fa91 (.head 0 (T91_0 13 m1_0 m1_1 m1_2 m1_3 m1_4 m1_5 m1_6 m1_7 m1_8 m1_9 m1_10 m1_11 m1_12 m1_13 m1_14 m1_15)) o':=.step ((s91_0_13_eq ..).trans h) hg
noncomputable def s91_0_14 (m1_0 m1_1:Int) (m1_2 m1_3:Int) (m1_4 m1_5:Int) (m1_6 m1_7:Int) (m1_8 m1_9:Int) (m1_10 m1_11:Int) (m1_12 m1_13:Int) (m1_14 m1_15:Int):R :=
 pcK qcfg 100 [V.int .u32 14] fun r =>
 kI .u32 r fun r100 =>
 some (.head 0 (T91_0 15 m1_0 m1_1 m1_2 m1_3 m1_4 m1_5 m1_6 m1_7 m1_8 m1_9 m1_10 m1_11 m1_12 m1_13 r100 m1_15))
theorem s91_0_14_eq (m1_0 m1_1:Int) (m1_2 m1_3:Int) (m1_4 m1_5:Int) (m1_6 m1_7:Int) (m1_8 m1_9:Int) (m1_10 m1_11:Int) (m1_12 m1_13:Int) (m1_14 m1_15:Int):goK qk false 0 fa91 0 (T91_0 14 m1_0 m1_1 m1_2 m1_3 m1_4 m1_5 m1_6 m1_7 m1_8 m1_9 m1_10 m1_11 m1_12 m1_13 m1_14 m1_15)=s91_0_14 m1_0 m1_1 m1_2 m1_3 m1_4 m1_5 m1_6 m1_7 m1_8 m1_9 m1_10 m1_11 m1_12 m1_13 m1_14 m1_15:=by kernel_rfl
theorem s91_0_14_run (m1_0 m1_1:Int) (m1_2 m1_3:Int) (m1_4 m1_5:Int) (m1_6 m1_7:Int) (m1_8 m1_9:Int) (m1_10 m1_11:Int) (m1_12 m1_13:Int) (m1_14 m1_15:Int) {o o':Out} (h:s91_0_14 m1_0 m1_1 m1_2 m1_3 m1_4 m1_5 m1_6 m1_7 m1_8 m1_9 m1_10 m1_11 m1_12 m1_13 m1_14 m1_15=some o) (hg:Go qk false 0 fa91 o o'):Go qk false 0 fa91 (.head 0 (T91_0 14 m1_0 m1_1 m1_2 m1_3 m1_4 m1_5 m1_6 m1_7 m1_8 m1_9 m1_10 m1_11 m1_12 m1_13 m1_14 m1_15)) o':=.step ((s91_0_14_eq ..).trans h) hg
noncomputable def s91_0_15 (m1_0 m1_1:Int) (m1_2 m1_3:Int) (m1_4 m1_5:Int) (m1_6 m1_7:Int) (m1_8 m1_9:Int) (m1_10 m1_11:Int) (m1_12 m1_13:Int) (m1_14 m1_15:Int):R :=
 pcK qcfg 100 [V.int .u32 15] fun r =>
 kI .u32 r fun r100 =>
 some (.head 0 (T91_0 16 m1_0 m1_1 m1_2 m1_3 m1_4 m1_5 m1_6 m1_7 m1_8 m1_9 m1_10 m1_11 m1_12 m1_13 m1_14 r100))
theorem s91_0_15_eq (m1_0 m1_1:Int) (m1_2 m1_3:Int) (m1_4 m1_5:Int) (m1_6 m1_7:Int) (m1_8 m1_9:Int) (m1_10 m1_11:Int) (m1_12 m1_13:Int) (m1_14 m1_15:Int):goK qk false 0 fa91 0 (T91_0 15 m1_0 m1_1 m1_2 m1_3 m1_4 m1_5 m1_6 m1_7 m1_8 m1_9 m1_10 m1_11 m1_12 m1_13 m1_14 m1_15)=s91_0_15 m1_0 m1_1 m1_2 m1_3 m1_4 m1_5 m1_6 m1_7 m1_8 m1_9 m1_10 m1_11 m1_12 m1_13 m1_14 m1_15:=by kernel_rfl
theorem s91_0_15_run (m1_0 m1_1:Int) (m1_2 m1_3:Int) (m1_4 m1_5:Int) (m1_6 m1_7:Int) (m1_8 m1_9:Int) (m1_10 m1_11:Int) (m1_12 m1_13:Int) (m1_14 m1_15:Int) {o o':Out} (h:s91_0_15 m1_0 m1_1 m1_2 m1_3 m1_4 m1_5 m1_6 m1_7 m1_8 m1_9 m1_10 m1_11 m1_12 m1_13 m1_14 m1_15=some o) (hg:Go qk false 0 fa91 o o'):Go qk false 0 fa91 (.head 0 (T91_0 15 m1_0 m1_1 m1_2 m1_3 m1_4 m1_5 m1_6 m1_7 m1_8 m1_9 m1_10 m1_11 m1_12 m1_13 m1_14 m1_15)) o':=.step ((s91_0_15_eq ..).trans h) hg
noncomputable def s91_0_16 (m1_0 m1_1:Int) (m1_2 m1_3:Int) (m1_4 m1_5:Int) (m1_6 m1_7:Int) (m1_8 m1_9:Int) (m1_10 m1_11:Int) (m1_12 m1_13:Int) (m1_14 m1_15:Int):R :=
 some (.done (V.agg [V.int .u32 m1_0,V.int .u32 m1_1,V.int .u32 m1_2,V.int .u32 m1_3,V.int .u32 m1_4,V.int .u32 m1_5,V.int .u32 m1_6,V.int .u32 m1_7,V.int .u32 m1_8,V.int .u32 m1_9,V.int .u32 m1_10,V.int .u32 m1_11,V.int .u32 m1_12,V.int .u32 m1_13,V.int .u32 m1_14,V.int .u32 m1_15]))
theorem s91_0_16_eq (m1_0 m1_1:Int) (m1_2 m1_3:Int) (m1_4 m1_5:Int) (m1_6 m1_7:Int) (m1_8 m1_9:Int) (m1_10 m1_11:Int) (m1_12 m1_13:Int) (m1_14 m1_15:Int):goK qk false 0 fa91 0 (T91_0 16 m1_0 m1_1 m1_2 m1_3 m1_4 m1_5 m1_6 m1_7 m1_8 m1_9 m1_10 m1_11 m1_12 m1_13 m1_14 m1_15)=s91_0_16 m1_0 m1_1 m1_2 m1_3 m1_4 m1_5 m1_6 m1_7 m1_8 m1_9 m1_10 m1_11 m1_12 m1_13 m1_14 m1_15:=by kernel_rfl
theorem s91_0_16_run (m1_0 m1_1:Int) (m1_2 m1_3:Int) (m1_4 m1_5:Int) (m1_6 m1_7:Int) (m1_8 m1_9:Int) (m1_10 m1_11:Int) (m1_12 m1_13:Int) (m1_14 m1_15:Int) {o o':Out} (h:s91_0_16 m1_0 m1_1 m1_2 m1_3 m1_4 m1_5 m1_6 m1_7 m1_8 m1_9 m1_10 m1_11 m1_12 m1_13 m1_14 m1_15=some o) (hg:Go qk false 0 fa91 o o'):Go qk false 0 fa91 (.head 0 (T91_0 16 m1_0 m1_1 m1_2 m1_3 m1_4 m1_5 m1_6 m1_7 m1_8 m1_9 m1_10 m1_11 m1_12 m1_13 m1_14 m1_15)) o':=.step ((s91_0_16_eq ..).trans h) hg
end Go.Proofs.YtknapnnpmfhogaaGreat
