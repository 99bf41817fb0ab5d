/-
  Texts that the last one stands on.
-/
import Derived.Test.YtpkeiaeaonmacaaGreatY4
namespace Go.Proofs.YtpkeiaeaonmacaaGreat
open Go Go.Lite
set_option maxRecDepth 100000
set_option linter.unusedVariables false
def d54 (v:V) (k:Int->Int->List UInt8->R):R:=kA v fun cs=>unc cs fun c cs=>kI .i64 c fun x0=>unc cs fun c cs=>kI .i64 c fun x1=>unc cs fun c cs=>kS c fun x2=>unn cs<|(k x0 x1 x2)
@[simp] theorem d54_mk (x0:Int) (x1:Int) (x2:List UInt8) (k:Int->Int->List UInt8->R):d54 (.agg [V.int .i64 x0,V.int .i64 x1,V.str x2]) k=k x0 x1 x2:=rfl
@[congr] theorem d54_wc {v v':V} {k:Int->Int->List UInt8->R} (h:v=v'):d54 v k=d54 v' k:=by rw [h]
def d66 (v:V) (k:Nat->List V->R):R:=kA v fun cs=>unc cs fun c cs=>kM 63 c fun x0=>unc cs fun c cs=>kL c fun x1=>unn cs<|(k x0 x1)
@[simp] theorem d66_mk (x0:Nat) (x1:List V) (k:Nat->List V->R):d66 (.agg [V.hm 63 x0,V.sl x1]) k=k x0 x1:=rfl
@[congr] theorem d66_wc {v v':V} {k:Nat->List V->R} (h:v=v'):d66 v k=d66 v' k:=by rw [h]
def d67 (v:V) (k:Int->Int->R):R:=kT v fun vs=>unc vs fun c vs=>kI .i64 c fun x0=>unc vs fun c vs=>kI .i64 c fun x1=>unn vs (k x0 x1)
@[simp] theorem d67_mk (x0:Int) (x1:Int) (k:Int->Int->R):d67 (.tup [V.int .i64 x0,V.int .i64 x1]) k=k x0 x1:=rfl
@[congr] theorem d67_wc {v v':V} {k:Int->Int->R} (h:v=v'):d67 v k=d67 v' k:=by rw [h]
def d70 (v:V) (k:Int->Int->R):R:=kA v fun cs=>unc cs fun c cs=>kI .i64 c fun x0=>unc cs fun c cs=>kI .i64 c fun x1=>unn cs<|(k x0 x1)
@[simp] theorem d70_mk (x0:Int) (x1:Int) (k:Int->Int->R):d70 (.agg [V.int .i64 x0,V.int .i64 x1]) k=k x0 x1:=rfl
@[congr] theorem d70_wc {v v':V} {k:Int->Int->R} (h:v=v'):d70 v k=d70 v' k:=by rw [h]
def d55 (v:V) (k:Int->Int->List UInt8->Bool->R):R:=kT v fun vs=>unc vs fun c vs=>kA c fun cs=>unc cs fun c cs=>kI .i64 c fun x0=>unc cs fun c cs=>kI .i64 c fun x1=>unc cs fun c cs=>kS c fun x2=>unn cs<|unc vs fun c vs=>kB c fun x3=>unn vs (k x0 x1 x2 x3)
@[simp] theorem d55_mk (x0:Int) (x1:Int) (x2:List UInt8) (x3:Bool) (k:Int->Int->List UInt8->Bool->R):d55 (.tup [V.agg [V.int .i64 x0,V.int .i64 x1,V.str x2],V.bool x3]) k=k x0 x1 x2 x3:=rfl
@[congr] theorem d55_wc {v v':V} {k:Int->Int->List UInt8->Bool->R} (h:v=v'):d55 v k=d55 v' k:=by rw [h]
def mk8 (L:Int × (List V) × (List (List (V × V))) × (List (V × V)) × (List (V × V))):V × List O:=(V.int .i64 L.1,(tm L.2.1 L.2.2.1 L.2.2.2.1 L.2.2.2.2))
theorem mk8_inj:∀L L',mk8 L=mk8 L'->L=L':=by
 rintro ⟨a0,a1,a2,a3,a4⟩ ⟨b0,b1,b2,b3,b4⟩ h
 cases h;rfl
def mk17 (L:(List UInt8) × Int × Bool × (List V) × (List (List (V × V))) × (List (V × V)) × (List (V × V))):V × List O:=(V.tup [V.agg [V.str L.1,V.int .i64 L.2.1],V.bool L.2.2.1],(tm L.2.2.2.1 L.2.2.2.2.1 L.2.2.2.2.2.1 L.2.2.2.2.2.2))
theorem mk17_inj:∀L L',mk17 L=mk17 L'->L=L':=by
 rintro ⟨a0,a1,a2,a3,a4,a5,a6⟩ ⟨b0,b1,b2,b3,b4,b5,b6⟩ h
 cases h;rfl
def mk10 (L:Int × (List V) × (List (List (V × V))) × (List (V × V)) × (List (V × V)) × (List V)):V × List O:=(V.tup [V.own 5,V.int .i64 L.1],[O.arena 66 L.2.1,O.marena 63 L.2.2.1,O.box 38 (V.agg [V.mp 3,V.mp 4]) false,O.map L.2.2.2.1,O.map L.2.2.2.2.1,O.row 3 L.2.2.2.2.2 0])
theorem mk10_inj:∀L L',mk10 L=mk10 L'->L=L':=by
 rintro ⟨a0,a1,a2,a3,a4,a5⟩ ⟨b0,b1,b2,b3,b4,b5⟩ h
 cases h;rfl
def mk13 (L:(List V) × (List (List (V × V))) × (List (V × V)) × (List (V × V)) × (List V)):V × List O:=(V.own 5,[O.arena 66 L.1,O.marena 63 L.2.1,O.box 38 (V.agg [V.mp 3,V.mp 4]) false,O.map L.2.2.1,O.map L.2.2.2.1,O.row 3 L.2.2.2.2 0])
theorem mk13_inj:∀L L',mk13 L=mk13 L'->L=L':=by
 rintro ⟨a0,a1,a2,a3,a4⟩ ⟨b0,b1,b2,b3,b4⟩ h
 cases h;rfl
def mk19 (L:Int × (List V) × (List (List (V × V))) × (List (V × V)) × (List (V × V))):V × List O:=(V.int .i64 L.1,(tm L.2.1 L.2.2.1 L.2.2.2.1 L.2.2.2.2))
theorem mk19_inj:∀L L',mk19 L=mk19 L'->L=L':=by
 rintro ⟨a0,a1,a2,a3,a4⟩ ⟨b0,b1,b2,b3,b4⟩ h
 cases h;rfl
def mk23 (L:(List V) × (List (List (V × V))) × (List (V × V)) × (List (V × V)) × (List V)):V × List O:=(V.own 5,[O.arena 66 L.1,O.marena 63 L.2.1,O.box 38 (V.agg [V.mp 3,V.mp 4]) false,O.map L.2.2.1,O.map L.2.2.2.1,O.row 3 L.2.2.2.2 0])
theorem mk23_inj:∀L L',mk23 L=mk23 L'->L=L':=by
 rintro ⟨a0,a1,a2,a3,a4⟩ ⟨b0,b1,b2,b3,b4⟩ h
 cases h;rfl
def mk25 (L:(List V) × (List (List (V × V))) × (List (V × V)) × (List (V × V)) × (List V)):V × List O:=(V.own 5,[O.arena 66 L.1,O.marena 63 L.2.1,O.box 38 (V.agg [V.mp 3,V.mp 4]) false,O.map L.2.2.1,O.map L.2.2.2.1,O.row 3 L.2.2.2.2 0])
theorem mk25_inj:∀L L',mk25 L=mk25 L'->L=L':=by
 rintro ⟨a0,a1,a2,a3,a4⟩ ⟨b0,b1,b2,b3,b4⟩ h
 cases h;rfl
def mk15 (L:(List V) × (List (List (V × V))) × (List (V × V)) × (List (V × V)) × (List V)):V × List O:=(V.own 5,[O.arena 66 L.1,O.marena 63 L.2.1,O.box 38 (V.agg [V.mp 3,V.mp 4]) false,O.map L.2.2.1,O.map L.2.2.2.1,O.row 50 L.2.2.2.2 0])
theorem mk15_inj:∀L L',mk15 L=mk15 L'->L=L':=by
 rintro ⟨a0,a1,a2,a3,a4⟩ ⟨b0,b1,b2,b3,b4⟩ h
 cases h;rfl
def mk52 (L:(List V)):V × List O:=(V.own 1,[O.dead,O.row 3 L 0])
theorem mk52_inj:∀L L',mk52 L=mk52 L'->L=L':=by
 rintro a0 b0 h
 cases h;rfl
def mk5 (L:Bool × (List V) × (List (List (V × V))) × (List (V × V)) × (List (V × V)) × (List V) × (List V)):V × List O:=(V.bool L.1,[O.arena 66 L.2.1,O.marena 63 L.2.2.1,O.box 38 (V.agg [V.mp 4,V.mp 5]) false,O.box 28 (V.agg [V.tail 8 0,V.tail 9 0]) false,O.map L.2.2.2.1,O.map L.2.2.2.2.1,O.dead,O.dead,O.row 54 L.2.2.2.2.2.1 0,O.row 54 L.2.2.2.2.2.2 0])
theorem mk5_inj:∀L L',mk5 L=mk5 L'->L=L':=by
 rintro ⟨a0,a1,a2,a3,a4,a5,a6⟩ ⟨b0,b1,b2,b3,b4,b5,b6⟩ h
 cases h;rfl
def mk6 (L:Bool × (List V) × (List (List (V × V))) × (List (V × V)) × (List (V × V)) × (List V) × (List V)):V × List O:=(V.bool L.1,[O.arena 66 L.2.1,O.marena 63 L.2.2.1,O.box 38 (V.agg [V.mp 4,V.mp 5]) false,O.box 28 (V.agg [V.tail 8 0,V.tail 9 0]) false,O.map L.2.2.2.1,O.map L.2.2.2.2.1,O.dead,O.dead,O.row 54 L.2.2.2.2.2.1 0,O.row 54 L.2.2.2.2.2.2 0])
theorem mk6_inj:∀L L',mk6 L=mk6 L'->L=L':=by
 rintro ⟨a0,a1,a2,a3,a4,a5,a6⟩ ⟨b0,b1,b2,b3,b4,b5,b6⟩ h
 cases h;rfl
def mk27 (L:Nat × (List V) × (List (List (V × V))) × (List (V × V)) × (List (V × V))):V × List O:=(V.hp 66 L.1 0,(tm L.2.1 L.2.2.1 L.2.2.2.1 L.2.2.2.2))
theorem mk27_inj:∀L L',mk27 L=mk27 L'->L=L':=by
 rintro ⟨a0,a1,a2,a3,a4⟩ ⟨b0,b1,b2,b3,b4⟩ h
 cases h;rfl
def mk30 (L:Int × (List V) × (List (List (V × V))) × (List (V × V)) × (List (V × V))):V × List O:=(V.int .i64 L.1,(tm L.2.1 L.2.2.1 L.2.2.2.1 L.2.2.2.2))
theorem mk30_inj:∀L L',mk30 L=mk30 L'->L=L':=by
 rintro ⟨a0,a1,a2,a3,a4⟩ ⟨b0,b1,b2,b3,b4⟩ h
 cases h;rfl
def mk37 (L:(List V) × (List (List (V × V))) × (List (V × V)) × (List (V × V)) × (List V)):V × List O:=(V.own 5,[O.arena 66 L.1,O.marena 63 L.2.1,O.box 38 (V.agg [V.mp 3,V.mp 4]) false,O.map L.2.2.1,O.map L.2.2.2.1,O.row 3 L.2.2.2.2 0])
theorem mk37_inj:∀L L',mk37 L=mk37 L'->L=L':=by
 rintro ⟨a0,a1,a2,a3,a4⟩ ⟨b0,b1,b2,b3,b4⟩ h
 cases h;rfl
def mk42 (L:Nat × (List V) × (List (List (V × V))) × (List V) × Int):V × List O:=(V.win 2 0 L.1,[O.arena 66 L.2.1,O.marena 63 L.2.2.1,O.row 70 L.2.2.2.1 0,O.box 3 (V.int .i64 L.2.2.2.2) false])
theorem mk42_inj:∀L L',mk42 L=mk42 L'->L=L':=by
 rintro ⟨a0,a1,a2,a3,a4⟩ ⟨b0,b1,b2,b3,b4⟩ h
 cases h;rfl
def mk9 (L:Int × (List V) × (List (List (V × V))) × (List V) × (List V)):V × List O:=(V.int .i64 L.1,[O.arena 66 L.2.1,O.marena 63 L.2.2.1,O.box 28 (V.agg [V.tail 5 0,V.tail 6 0]) false,O.dead,O.dead,O.row 54 L.2.2.2.1 0,O.row 54 L.2.2.2.2 0])
theorem mk9_inj:∀L L',mk9 L=mk9 L'->L=L':=by
 rintro ⟨a0,a1,a2,a3,a4⟩ ⟨b0,b1,b2,b3,b4⟩ h
 cases h;rfl
def mk11 (L:Int × (List V) × (List (List (V × V))) × (List V) × (List V) × (List V)):V × List O:=(V.tup [V.own 5,V.int .i64 L.1],[O.arena 66 L.2.1,O.marena 63 L.2.2.1,O.box 28 (V.agg [V.tail 6 0,V.tail 7 0]) false,O.dead,O.dead,O.row 3 L.2.2.2.1 0,O.row 54 L.2.2.2.2.1 0,O.row 54 L.2.2.2.2.2 0])
theorem mk11_inj:∀L L',mk11 L=mk11 L'->L=L':=by
 rintro ⟨a0,a1,a2,a3,a4,a5⟩ ⟨b0,b1,b2,b3,b4,b5⟩ h
 cases h;rfl
def mk14 (L:(List V) × (List (List (V × V))) × (List V) × (List V) × (List V)):V × List O:=(V.own 5,[O.arena 66 L.1,O.marena 63 L.2.1,O.box 28 (V.agg [V.tail 6 0,V.tail 7 0]) false,O.dead,O.dead,O.row 3 L.2.2.1 0,O.row 54 L.2.2.2.1 0,O.row 54 L.2.2.2.2 0])
theorem mk14_inj:∀L L',mk14 L=mk14 L'->L=L':=by
 rintro ⟨a0,a1,a2,a3,a4⟩ ⟨b0,b1,b2,b3,b4⟩ h
 cases h;rfl
def mk58 (L:Int × (List V) × (List (List (V × V)))):V × List O:=(V.int .i64 L.1,[O.arena 66 L.2.1,O.marena 63 L.2.2])
theorem mk58_inj:∀L L',mk58 L=mk58 L'->L=L':=by
 rintro ⟨a0,a1,a2⟩ ⟨b0,b1,b2⟩ h
 cases h;rfl
def mk59 (L:Bool × (List V) × (List (List (V × V))) × (List (V × V)) × (List (V × V))):V × List O:=(V.bool L.1,(tm L.2.1 L.2.2.1 L.2.2.2.1 L.2.2.2.2))
theorem mk59_inj:∀L L',mk59 L=mk59 L'->L=L':=by
 rintro ⟨a0,a1,a2,a3,a4⟩ ⟨b0,b1,b2,b3,b4⟩ h
 cases h;rfl
def mk63 (L:(List V) × (List (List (V × V))) × (List (V × V)) × (List (V × V))):V × List O:=(V.tup [],(tm L.1 L.2.1 L.2.2.1 L.2.2.2))
theorem mk63_inj:∀L L',mk63 L=mk63 L'->L=L':=by
 rintro ⟨a0,a1,a2,a3⟩ ⟨b0,b1,b2,b3⟩ h
 cases h;rfl
def mk35 (L:(List V) × (List (List (V × V))) × (List V) × (List V)):V × List O:=(V.tup [],[O.arena 66 L.1,O.marena 63 L.2.1,O.box 28 (V.agg [V.tail 5 0,V.tail 6 0]) false,O.dead,O.dead,O.row 54 L.2.2.1 0,O.row 54 L.2.2.2 0])
theorem mk35_inj:∀L L',mk35 L=mk35 L'->L=L':=by
 rintro ⟨a0,a1,a2,a3⟩ ⟨b0,b1,b2,b3⟩ h
 cases h;rfl
def mk36 (L:Int × (List V) × (List (List (V × V))) × (List V) × (List V)):V × List O:=(V.int .i64 L.1,[O.arena 66 L.2.1,O.marena 63 L.2.2.1,O.box 28 (V.agg [V.tail 5 0,V.tail 6 0]) false,O.dead,O.dead,O.row 54 L.2.2.2.1 0,O.row 54 L.2.2.2.2 0])
theorem mk36_inj:∀L L',mk36 L=mk36 L'->L=L':=by
 rintro ⟨a0,a1,a2,a3,a4⟩ ⟨b0,b1,b2,b3,b4⟩ h
 cases h;rfl
def mk39 (L:(List V) × (List (List (V × V))) × (List V) × (List V) × (List V)):V × List O:=(V.own 5,[O.arena 66 L.1,O.marena 63 L.2.1,O.box 28 (V.agg [V.tail 6 0,V.tail 7 0]) false,O.dead,O.dead,O.row 3 L.2.2.1 0,O.row 54 L.2.2.2.1 0,O.row 54 L.2.2.2.2 0])
theorem mk39_inj:∀L L',mk39 L=mk39 L'->L=L':=by
 rintro ⟨a0,a1,a2,a3,a4⟩ ⟨b0,b1,b2,b3,b4⟩ h
 cases h;rfl
def mk77 (L:(List V) × (List (List (V × V))) × (List (V × V)) × (List (V × V)) × (List (V × V))):V × List O:=(V.tup [],[O.arena 66 L.1,O.marena 63 L.2.1,O.box 23 (V.ptr 5 0 0) false,O.box 88 (V.mp 6) false,O.box 108 (V.fn 77 [V.ptr 2 0 0,V.ptr 3 0 0,V.ptr 4 0 0]) false,O.box 38 (V.agg [V.mp 7,V.mp 8]) false,O.map L.2.2.1,O.map L.2.2.2.1,O.map L.2.2.2.2])
theorem mk77_inj:∀L L',mk77 L=mk77 L'->L=L':=by
 rintro ⟨a0,a1,a2,a3,a4⟩ ⟨b0,b1,b2,b3,b4⟩ h
 cases h;rfl
noncomputable def kcBck (cm:CM) (f:FuncId) (args:List V) (mem:List O) (k:V->List O->R):R:=cond (f==8) (icM cfgB cm mk8 f args mem fun L=>k (mk8 L).1 (mk8 L).2) (cond (f==17) (icM cfgB cm mk17 f args mem fun L=>k (mk17 L).1 (mk17 L).2) (cond (f==10) (icM cfgB cm mk10 f args mem fun L=>k (mk10 L).1 (mk10 L).2) (cond (f==13) (icM cfgB cm mk13 f args mem fun L=>k (mk13 L).1 (mk13 L).2) (cond (f==19) (icM cfgB cm mk19 f args mem fun L=>k (mk19 L).1 (mk19 L).2) (cond (f==23) (icM cfgB cm mk23 f args mem fun L=>k (mk23 L).1 (mk23 L).2) (cond (f==25) (icM cfgB cm mk25 f args mem fun L=>k (mk25 L).1 (mk25 L).2) (cond (f==15) (icM cfgB cm mk15 f args mem fun L=>k (mk15 L).1 (mk15 L).2) (cond (f==52) (icM cfgB cm mk52 f args mem fun L=>k (mk52 L).1 (mk52 L).2) (cond (f==5) (icM cfgB cm mk5 f args mem fun L=>k (mk5 L).1 (mk5 L).2) (cond (f==6) (icM cfgB cm mk6 f args mem fun L=>k (mk6 L).1 (mk6 L).2) (cond (f==27) (icM cfgB cm mk27 f args mem fun L=>k (mk27 L).1 (mk27 L).2) (cond (f==30) (icM cfgB cm mk30 f args mem fun L=>k (mk30 L).1 (mk30 L).2) (cond (f==37) (icM cfgB cm mk37 f args mem fun L=>k (mk37 L).1 (mk37 L).2) (cond (f==42) (icM cfgB cm mk42 f args mem fun L=>k (mk42 L).1 (mk42 L).2) (cond (f==9) (icM cfgB cm mk9 f args mem fun L=>k (mk9 L).1 (mk9 L).2) (cond (f==11) (icM cfgB cm mk11 f args mem fun L=>k (mk11 L).1 (mk11 L).2) (cond (f==14) (icM cfgB cm mk14 f args mem fun L=>k (mk14 L).1 (mk14 L).2) (cond (f==58) (icM cfgB cm mk58 f args mem fun L=>k (mk58 L).1 (mk58 L).2) (cond (f==59) (icM cfgB cm mk59 f args mem fun L=>k (mk59 L).1 (mk59 L).2) (cond (f==63) (icM cfgB cm mk63 f args mem fun L=>k (mk63 L).1 (mk63 L).2) (cond (f==35) (icM cfgB cm mk35 f args mem fun L=>k (mk35 L).1 (mk35 L).2) (cond (f==36) (icM cfgB cm mk36 f args mem fun L=>k (mk36 L).1 (mk36 L).2) (cond (f==39) (icM cfgB cm mk39 f args mem fun L=>k (mk39 L).1 (mk39 L).2) (cond (f==77) (icM cfgB cm mk77 f args mem fun L=>k (mk77 L).1 (mk77 L).2) (none)))))))))))))))))))))))))
noncomputable def kcBC:KC:={ kcB0 with ck:=kcBck }
theorem ikBC:IKOK kcBC:=⟨ikB0.ik,fun cm f av mem k r h=>by
 change kcBck cm f av mem k=some r at h
 unfold kcBck at h
 rcases cond_some h with ⟨_,h⟩ | ⟨_,h⟩
 ·obtain ⟨L,h1,h2⟩:=icM_some h;exact ⟨_,_,h1,h2⟩
 rcases cond_some h with ⟨_,h⟩ | ⟨_,h⟩
 ·obtain ⟨L,h1,h2⟩:=icM_some h;exact ⟨_,_,h1,h2⟩
 rcases cond_some h with ⟨_,h⟩ | ⟨_,h⟩
 ·obtain ⟨L,h1,h2⟩:=icM_some h;exact ⟨_,_,h1,h2⟩
 rcases cond_some h with ⟨_,h⟩ | ⟨_,h⟩
 ·obtain ⟨L,h1,h2⟩:=icM_some h;exact ⟨_,_,h1,h2⟩
 rcases cond_some h with ⟨_,h⟩ | ⟨_,h⟩
 ·obtain ⟨L,h1,h2⟩:=icM_some h;exact ⟨_,_,h1,h2⟩
 rcases cond_some h with ⟨_,h⟩ | ⟨_,h⟩
 ·obtain ⟨L,h1,h2⟩:=icM_some h;exact ⟨_,_,h1,h2⟩
 rcases cond_some h with ⟨_,h⟩ | ⟨_,h⟩
 ·obtain ⟨L,h1,h2⟩:=icM_some h;exact ⟨_,_,h1,h2⟩
 rcases cond_some h with ⟨_,h⟩ | ⟨_,h⟩
 ·obtain ⟨L,h1,h2⟩:=icM_some h;exact ⟨_,_,h1,h2⟩
 rcases cond_some h with ⟨_,h⟩ | ⟨_,h⟩
 ·obtain ⟨L,h1,h2⟩:=icM_some h;exact ⟨_,_,h1,h2⟩
 rcases cond_some h with ⟨_,h⟩ | ⟨_,h⟩
 ·obtain ⟨L,h1,h2⟩:=icM_some h;exact ⟨_,_,h1,h2⟩
 rcases cond_some h with ⟨_,h⟩ | ⟨_,h⟩
 ·obtain ⟨L,h1,h2⟩:=icM_some h;exact ⟨_,_,h1,h2⟩
 rcases cond_some h with ⟨_,h⟩ | ⟨_,h⟩
 ·obtain ⟨L,h1,h2⟩:=icM_some h;exact ⟨_,_,h1,h2⟩
 rcases cond_some h with ⟨_,h⟩ | ⟨_,h⟩
 ·obtain ⟨L,h1,h2⟩:=icM_some h;exact ⟨_,_,h1,h2⟩
 rcases cond_some h with ⟨_,h⟩ | ⟨_,h⟩
 ·obtain ⟨L,h1,h2⟩:=icM_some h;exact ⟨_,_,h1,h2⟩
 rcases cond_some h with ⟨_,h⟩ | ⟨_,h⟩
 ·obtain ⟨L,h1,h2⟩:=icM_some h;exact ⟨_,_,h1,h2⟩
 rcases cond_some h with ⟨_,h⟩ | ⟨_,h⟩
 ·obtain ⟨L,h1,h2⟩:=icM_some h;exact ⟨_,_,h1,h2⟩
 rcases cond_some h with ⟨_,h⟩ | ⟨_,h⟩
 ·obtain ⟨L,h1,h2⟩:=icM_some h;exact ⟨_,_,h1,h2⟩
 rcases cond_some h with ⟨_,h⟩ | ⟨_,h⟩
 ·obtain ⟨L,h1,h2⟩:=icM_some h;exact ⟨_,_,h1,h2⟩
 rcases cond_some h with ⟨_,h⟩ | ⟨_,h⟩
 ·obtain ⟨L,h1,h2⟩:=icM_some h;exact ⟨_,_,h1,h2⟩
 rcases cond_some h with ⟨_,h⟩ | ⟨_,h⟩
 ·obtain ⟨L,h1,h2⟩:=icM_some h;exact ⟨_,_,h1,h2⟩
 rcases cond_some h with ⟨_,h⟩ | ⟨_,h⟩
 ·obtain ⟨L,h1,h2⟩:=icM_some h;exact ⟨_,_,h1,h2⟩
 rcases cond_some h with ⟨_,h⟩ | ⟨_,h⟩
 ·obtain ⟨L,h1,h2⟩:=icM_some h;exact ⟨_,_,h1,h2⟩
 rcases cond_some h with ⟨_,h⟩ | ⟨_,h⟩
 ·obtain ⟨L,h1,h2⟩:=icM_some h;exact ⟨_,_,h1,h2⟩
 rcases cond_some h with ⟨_,h⟩ | ⟨_,h⟩
 ·obtain ⟨L,h1,h2⟩:=icM_some h;exact ⟨_,_,h1,h2⟩
 rcases cond_some h with ⟨_,h⟩ | ⟨_,h⟩
 ·obtain ⟨L,h1,h2⟩:=icM_some h;exact ⟨_,_,h1,h2⟩
 cases h⟩
noncomputable def fa54:FA:=⟨1,4,[.tmp 2],[92],
 (.seq
 (.ops false [o1 1 (.box 63 (t' 0)) 0,o1 2 (.assign (.const (.nilFunc))) 92])
 (.seq
 (.ops false [o1 3 (.makeFunc (.func 74) #[] #[(t' 1)]) 91,asg 2 3 92])
 (.ret)))⟩
theorem fa54_eq:fnA cfgB.P (cfgB.rxf 54) 54=some fa54:=by kernel_rfl
noncomputable def fa41:FA:=⟨1,4,[.tmp 2],[82],
 (.seq
 (.ops false [o1 1 (.box 35 (t' 0)) 0,o1 2 (.assign (.const (.nilFunc))) 82])
 (.seq
 (.ops false [o1 3 (.makeFunc (.func 66) #[] #[(t' 1)]) 81,asg 2 3 82])
 (.ret)))⟩
theorem fa41_eq:fnA cfgB.P (cfgB.rxf 41) 41=some fa41:=by kernel_rfl
noncomputable def fa4:FA:=⟨0,5,[.tmp 0],[23],
 (.seq
 (.ops false [o1 0 (.assign (.const (.pointer none))) 23])
 (.seq
 (.ops false [o1 1 (.makeMap 35 none) 35,o1 2 (.makeMap 36 none) 36,o1 3 (.build 38 #[(0,(t' 1)),(1,(t' 2))]) 38,o1 4 (.box 38 (t' 3)) 23,asg 0 4 23])
 (.ret)))⟩
theorem fa4_eq:fnA cfgB.P (cfgB.rxf 4) 4=some fa4:=by kernel_rfl
noncomputable def kcB:KC:=kcBC.inl [(54,fa54),(41,fa41),(4,fa4)]
theorem ikB:IKOK kcB:=inl_ok ikBC (by
 intro x hx
 simp only [List.mem_cons,List.not_mem_nil,or_false] at hx
 rcases hx with rfl | rfl | rfl
 ·exact ⟨rfl,fa54_eq,rfl⟩
 ·exact ⟨rfl,fa41_eq,rfl⟩
 ·exact ⟨rfl,fa4_eq,rfl⟩)
noncomputable def fa12:FA:=(fnA cfgB.P (cfgB.rxf 12) 12).getD faN
theorem fa12_eq:fnA cfgB.P (cfgB.rxf 12) 12=some fa12:=fa_of (by kernel_rfl)
def T12_0 (x0 x1:List V) (x5:Int):S:=⟨[V.sl x0,V.sl x1,V.junk,V.junk,V.bool false,V.int .i64 x5]++(JU 20),[]⟩
noncomputable def e12 (a0 a1:List V):R :=
 cond ((a0.length:Int) != (a1.length:Int))
 (some (.done (V.bool false)))
 (some (.head 0 (T12_0 a0 a1 0)))
theorem e12_eq (a0 a1:List V):enterK kcB false fa12 [V.sl a0,V.sl a1] []=e12 a0 a1:=by kernel_rfl
theorem e12_run (a0 a1:List V) {o:Out} {v:V} (h:e12 a0 a1=some o) (hg:Go kcB false 0 fa12 o (.done v)):pcW cfgB 12 [V.sl a0,V.sl a1]=some v:=pcW_go ikB rfl fa12_eq ((e12_eq ..).trans h) hg
noncomputable def s12_0 (x0 x1:List V) (x5:Int):R :=
 cond (decide (x5 < (x0.length:Int)))
 (gd (decide (0<=x5)) <|
  idxK x0 x5.toNat fun v =>
  kI .i64 v fun n =>
  gd (decide (0<=x5)) <|
  idxK x1 x5.toNat fun v_1 =>
  kI .i64 v_1 fun n_1 =>
  cond (n != n_1)
 (some (.done (V.bool false)))
 (some (.head 0 (T12_0 x0 x1 (W .i64 (x5+1))))))
 (some (.done (V.bool true)))
theorem s12_0_run (x0 x1:List V) (x5:Int) {o o':Out} (h:s12_0 x0 x1 x5=some o) (hg:Go kcB false 0 fa12 o o'):Go kcB false 0 fa12 (.head 0 (T12_0 x0 x1 x5)) o':=.step (Eq.trans (by kernel_rfl) h) hg
noncomputable def fa7:FA:=(fnA cfgB.P (cfgB.rxf 7) 7).getD faN
theorem fa7_eq:fnA cfgB.P (cfgB.rxf 7) 7=some fa7:=fa_of (by kernel_rfl)
noncomputable def e7 :R :=
 icM cfgB ⟨true,false⟩ mk8 8 [V.ptr 2 0 0,V.int .i64 1,V.str [97],V.int .i64 4] (tm [] [] [] []) fun L =>
 icM cfgB ⟨true,false⟩ mk8 8 [V.ptr 2 0 0,V.int .i64 2,V.str [97],V.int .i64 3] (tm L.2.1 L.2.2.1 L.2.2.2.1 L.2.2.2.2) fun L_1 =>
 icM cfgB ⟨true,false⟩ mk8 8 [V.ptr 2 0 0,V.int .i64 2,V.str [98],V.int .i64 3] (tm L_1.2.1 L_1.2.2.1 L_1.2.2.2.1 L_1.2.2.2.2) fun L_2 =>
 icM cfgB ⟨true,false⟩ mk17 17 [V.ptr 2 0 0,V.int .i64 2] (tm L_2.2.1 L_2.2.2.1 L_2.2.2.2.1 L_2.2.2.2.2) fun L_3 =>
 icM cfgB ⟨true,false⟩ mk8 8 [V.ptr 2 0 0,V.int .i64 3,V.str [98],V.int .i64 4] (tm L_3.2.2.2.1 L_3.2.2.2.2.1 L_3.2.2.2.2.2.1 L_3.2.2.2.2.2.2) fun L_4 =>
 icM cfgB ⟨true,false⟩ mk8 8 [V.ptr 2 0 0,V.int .i64 1,V.str [98],V.int .i64 3] (tm L_4.2.1 L_4.2.2.1 L_4.2.2.2.1 L_4.2.2.2.2) fun L_5 =>
 opt (behindX L_5.2.1 L_5.2.2.1 L_5.2.2.2.1 L_5.2.2.2.2 1) fun l =>
 icM cfgB ⟨true,false⟩ mk8 8 [V.ptr 2 0 0,V.int .i64 3,V.str [97],V.int .i64 3] (tm L_5.2.1 L_5.2.2.1 L_5.2.2.2.1 L_5.2.2.2.2) fun L_6 =>
 icM cfgB ⟨true,false⟩ mk10 10 [V.ptr 2 0 0,V.int .i64 3,V.str [98]] (tm L_6.2.1 L_6.2.2.1 L_6.2.2.2.1 L_6.2.2.2.2) fun L_7 =>
 icM cfgB ⟨true,false⟩ mk10 10 [V.ptr 2 0 0,V.int .i64 3,V.str [98]] (tm L_7.2.1 L_7.2.2.1 L_7.2.2.2.1 L_7.2.2.2.2.1) fun L_8 =>
 icM cfgB ⟨true,false⟩ mk13 13 [V.ptr 2 0 0,V.int .i64 1] (tm L_8.2.1 L_8.2.2.1 L_8.2.2.2.1 L_8.2.2.2.2.1) fun L_9 =>
 icM cfgB ⟨true,false⟩ mk8 8 [V.ptr 2 0 0,V.int .i64 2,V.str [97],V.int .i64 4] (tm L_9.1 L_9.2.1 L_9.2.2.1 L_9.2.2.2.1) fun L_10 =>
 icM cfgB ⟨true,false⟩ mk8 8 [V.ptr 2 0 0,V.int .i64 (-1),V.str [97],V.int .i64 3] (tm L_10.2.1 L_10.2.2.1 L_10.2.2.2.1 L_10.2.2.2.2) fun L_11 =>
 icM cfgB ⟨true,false⟩ mk8 8 [V.ptr 2 0 0,V.int .i64 4,V.str [97],V.int .i64 0] (tm L_11.2.1 L_11.2.2.1 L_11.2.2.2.1 L_11.2.2.2.2) fun L_12 =>
 cond (L.1==(0:Int))
 (cond (L_1.1==(10:Int))
 (cond (L_2.1==(9:Int))
 (cond ((L_3.1==([97]:List UInt8)) && ((L_3.2.1==(3:Int)) && true))
 (cond L_3.2.2.1
 (cond (L_4.1==(0:Int))
 (cond (L_5.1==(10:Int))
 (pcK cfgB 12 [V.sl (l.map iV),V.sl [V.int .i64 3]] fun r =>
  kB r fun r12 =>
  cond r12
 (cond (L_6.1==(11:Int))
 (pcK cfgB 12 [V.sl L_7.2.2.2.2.2,V.sl [V.int .i64 1]] fun r_1 =>
  kB r_1 fun r12_1 =>
  cond r12_1
 (cond (L_7.1==(0:Int))
 (cond (L_8.1==(7:Int))
 (pcK cfgB 12 [V.sl L_9.2.2.2.2,V.sl [V.int .i64 2]] fun r_2 =>
  kB r_2 fun r12_2 =>
  cond r12_2
 (cond (L_10.1==(0:Int))
 (cond (L_11.1==(1:Int))
 (cond (L_12.1==(1:Int))
 (icM cfgB ⟨true,false⟩ mk19 19 [V.ptr 2 0 0,V.int .i64 2,V.str [97]] (tm L_12.2.1 L_12.2.2.1 L_12.2.2.2.1 L_12.2.2.2.2) fun L_13 =>
  cond (L_13.1==(4:Int))
 (icM cfgB ⟨true,false⟩ mk23 23 [V.ptr 2 0 0,V.str [97]] (tm L_13.2.1 L_13.2.2.1 L_13.2.2.2.1 L_13.2.2.2.2) fun L_14 =>
  pcK cfgB 12 [V.sl L_14.2.2.2.2,V.sl [V.int .i64 2]] fun r_3 =>
  kB r_3 fun r12_3 =>
  cond r12_3
 (icM cfgB ⟨true,false⟩ mk25 25 [V.ptr 2 0 0,V.str [97]] (tm L_14.1 L_14.2.1 L_14.2.2.1 L_14.2.2.2.1) fun L_15 =>
  cond ((L_15.2.2.2.2.length:Int)==(0:Int))
 (icM cfgB ⟨true,false⟩ mk15 15 [V.ptr 2 0 0,V.int .i64 1] (tm L_15.1 L_15.2.1 L_15.2.2.1 L_15.2.2.2.1) fun L_16 =>
  cond ((L_16.2.2.2.2.length:Int)==(0:Int))
 (icM cfgB ⟨true,false⟩ mk15 15 [V.ptr 2 0 0,V.int .i64 2] (tm L_16.1 L_16.2.1 L_16.2.2.1 L_16.2.2.2.1) fun L_17 =>
  some (.doneM (V.bool ((L_17.2.2.2.2.length:Int)==(1:Int))) [O.arena 66 L_17.1,O.marena 63 L_17.2.1,O.map L_17.2.2.1,O.map L_17.2.2.2.1,O.box 38 (V.agg [V.mp 2,V.mp 3]) false,O.box 50 (V.agg [V.str L_3.1,V.int .i64 L_3.2.1]) false,O.row 3 (l.map iV) 0,O.row 3 L_7.2.2.2.2.2 0,O.row 3 L_8.2.2.2.2.2 0,O.row 3 L_9.2.2.2.2 0,O.row 3 [V.int .i64 3] 0,O.row 3 [V.int .i64 1] 0,O.row 3 [V.int .i64 2] 0,O.row 3 L_14.2.2.2.2 0,O.row 3 [V.int .i64 2] 0,O.row 3 L_15.2.2.2.2 0,O.row 50 L_16.2.2.2.2 0,O.row 50 L_17.2.2.2.2 0]))
 (some (.doneM (V.bool false) [O.arena 66 L_16.1,O.marena 63 L_16.2.1,O.map L_16.2.2.1,O.map L_16.2.2.2.1,O.box 38 (V.agg [V.mp 2,V.mp 3]) false,O.box 50 (V.agg [V.str L_3.1,V.int .i64 L_3.2.1]) false,O.row 3 (l.map iV) 0,O.row 3 L_7.2.2.2.2.2 0,O.row 3 L_8.2.2.2.2.2 0,O.row 3 L_9.2.2.2.2 0,O.row 3 [V.int .i64 3] 0,O.row 3 [V.int .i64 1] 0,O.row 3 [V.int .i64 2] 0,O.row 3 L_14.2.2.2.2 0,O.row 3 [V.int .i64 2] 0,O.row 3 L_15.2.2.2.2 0,O.row 50 L_16.2.2.2.2 0])))
 (some (.doneM (V.bool false) [O.arena 66 L_15.1,O.marena 63 L_15.2.1,O.map L_15.2.2.1,O.map L_15.2.2.2.1,O.box 38 (V.agg [V.mp 2,V.mp 3]) false,O.box 50 (V.agg [V.str L_3.1,V.int .i64 L_3.2.1]) false,O.row 3 (l.map iV) 0,O.row 3 L_7.2.2.2.2.2 0,O.row 3 L_8.2.2.2.2.2 0,O.row 3 L_9.2.2.2.2 0,O.row 3 [V.int .i64 3] 0,O.row 3 [V.int .i64 1] 0,O.row 3 [V.int .i64 2] 0,O.row 3 L_14.2.2.2.2 0,O.row 3 [V.int .i64 2] 0,O.row 3 L_15.2.2.2.2 0])))
 (some (.doneM (V.bool false) [O.arena 66 L_14.1,O.marena 63 L_14.2.1,O.map L_14.2.2.1,O.map L_14.2.2.2.1,O.box 38 (V.agg [V.mp 2,V.mp 3]) false,O.box 50 (V.agg [V.str L_3.1,V.int .i64 L_3.2.1]) false,O.row 3 (l.map iV) 0,O.row 3 L_7.2.2.2.2.2 0,O.row 3 L_8.2.2.2.2.2 0,O.row 3 L_9.2.2.2.2 0,O.row 3 [V.int .i64 3] 0,O.row 3 [V.int .i64 1] 0,O.row 3 [V.int .i64 2] 0,O.row 3 L_14.2.2.2.2 0,O.row 3 [V.int .i64 2] 0])))
 (some (.doneM (V.bool false) [O.arena 66 L_13.2.1,O.marena 63 L_13.2.2.1,O.map L_13.2.2.2.1,O.map L_13.2.2.2.2,O.box 38 (V.agg [V.mp 2,V.mp 3]) false,O.box 50 (V.agg [V.str L_3.1,V.int .i64 L_3.2.1]) false,O.row 3 (l.map iV) 0,O.row 3 L_7.2.2.2.2.2 0,O.row 3 L_8.2.2.2.2.2 0,O.row 3 L_9.2.2.2.2 0,O.row 3 [V.int .i64 3] 0,O.row 3 [V.int .i64 1] 0,O.row 3 [V.int .i64 2] 0])))
 (some (.doneM (V.bool false) [O.arena 66 L_12.2.1,O.marena 63 L_12.2.2.1,O.map L_12.2.2.2.1,O.map L_12.2.2.2.2,O.box 38 (V.agg [V.mp 2,V.mp 3]) false,O.box 50 (V.agg [V.str L_3.1,V.int .i64 L_3.2.1]) false,O.row 3 (l.map iV) 0,O.row 3 L_7.2.2.2.2.2 0,O.row 3 L_8.2.2.2.2.2 0,O.row 3 L_9.2.2.2.2 0,O.row 3 [V.int .i64 3] 0,O.row 3 [V.int .i64 1] 0,O.row 3 [V.int .i64 2] 0])))
 (some (.doneM (V.bool false) [O.arena 66 L_12.2.1,O.marena 63 L_12.2.2.1,O.map L_12.2.2.2.1,O.map L_12.2.2.2.2,O.box 38 (V.agg [V.mp 2,V.mp 3]) false,O.box 50 (V.agg [V.str L_3.1,V.int .i64 L_3.2.1]) false,O.row 3 (l.map iV) 0,O.row 3 L_7.2.2.2.2.2 0,O.row 3 L_8.2.2.2.2.2 0,O.row 3 L_9.2.2.2.2 0,O.row 3 [V.int .i64 3] 0,O.row 3 [V.int .i64 1] 0,O.row 3 [V.int .i64 2] 0])))
 (some (.doneM (V.bool false) [O.arena 66 L_12.2.1,O.marena 63 L_12.2.2.1,O.map L_12.2.2.2.1,O.map L_12.2.2.2.2,O.box 38 (V.agg [V.mp 2,V.mp 3]) false,O.box 50 (V.agg [V.str L_3.1,V.int .i64 L_3.2.1]) false,O.row 3 (l.map iV) 0,O.row 3 L_7.2.2.2.2.2 0,O.row 3 L_8.2.2.2.2.2 0,O.row 3 L_9.2.2.2.2 0,O.row 3 [V.int .i64 3] 0,O.row 3 [V.int .i64 1] 0,O.row 3 [V.int .i64 2] 0])))
 (some (.doneM (V.bool false) [O.arena 66 L_12.2.1,O.marena 63 L_12.2.2.1,O.map L_12.2.2.2.1,O.map L_12.2.2.2.2,O.box 38 (V.agg [V.mp 2,V.mp 3]) false,O.box 50 (V.agg [V.str L_3.1,V.int .i64 L_3.2.1]) false,O.row 3 (l.map iV) 0,O.row 3 L_7.2.2.2.2.2 0,O.row 3 L_8.2.2.2.2.2 0,O.row 3 L_9.2.2.2.2 0,O.row 3 [V.int .i64 3] 0,O.row 3 [V.int .i64 1] 0,O.row 3 [V.int .i64 2] 0])))
 (some (.doneM (V.bool false) [O.arena 66 L_12.2.1,O.marena 63 L_12.2.2.1,O.map L_12.2.2.2.1,O.map L_12.2.2.2.2,O.box 38 (V.agg [V.mp 2,V.mp 3]) false,O.box 50 (V.agg [V.str L_3.1,V.int .i64 L_3.2.1]) false,O.row 3 (l.map iV) 0,O.row 3 L_7.2.2.2.2.2 0,O.row 3 L_8.2.2.2.2.2 0,O.row 3 L_9.2.2.2.2 0,O.row 3 [V.int .i64 3] 0,O.row 3 [V.int .i64 1] 0])))
 (some (.doneM (V.bool false) [O.arena 66 L_12.2.1,O.marena 63 L_12.2.2.1,O.map L_12.2.2.2.1,O.map L_12.2.2.2.2,O.box 38 (V.agg [V.mp 2,V.mp 3]) false,O.box 50 (V.agg [V.str L_3.1,V.int .i64 L_3.2.1]) false,O.row 3 (l.map iV) 0,O.row 3 L_7.2.2.2.2.2 0,O.row 3 L_8.2.2.2.2.2 0,O.row 3 L_9.2.2.2.2 0,O.row 3 [V.int .i64 3] 0,O.row 3 [V.int .i64 1] 0])))
 (some (.doneM (V.bool false) [O.arena 66 L_12.2.1,O.marena 63 L_12.2.2.1,O.map L_12.2.2.2.1,O.map L_12.2.2.2.2,O.box 38 (V.agg [V.mp 2,V.mp 3]) false,O.box 50 (V.agg [V.str L_3.1,V.int .i64 L_3.2.1]) false,O.row 3 (l.map iV) 0,O.row 3 L_7.2.2.2.2.2 0,O.row 3 L_8.2.2.2.2.2 0,O.row 3 L_9.2.2.2.2 0,O.row 3 [V.int .i64 3] 0,O.row 3 [V.int .i64 1] 0])))
 (some (.doneM (V.bool false) [O.arena 66 L_12.2.1,O.marena 63 L_12.2.2.1,O.map L_12.2.2.2.1,O.map L_12.2.2.2.2,O.box 38 (V.agg [V.mp 2,V.mp 3]) false,O.box 50 (V.agg [V.str L_3.1,V.int .i64 L_3.2.1]) false,O.row 3 (l.map iV) 0,O.row 3 L_7.2.2.2.2.2 0,O.row 3 L_8.2.2.2.2.2 0,O.row 3 L_9.2.2.2.2 0,O.row 3 [V.int .i64 3] 0])))
 (some (.doneM (V.bool false) [O.arena 66 L_12.2.1,O.marena 63 L_12.2.2.1,O.map L_12.2.2.2.1,O.map L_12.2.2.2.2,O.box 38 (V.agg [V.mp 2,V.mp 3]) false,O.box 50 (V.agg [V.str L_3.1,V.int .i64 L_3.2.1]) false,O.row 3 (l.map iV) 0,O.row 3 L_7.2.2.2.2.2 0,O.row 3 L_8.2.2.2.2.2 0,O.row 3 L_9.2.2.2.2 0,O.row 3 [V.int .i64 3] 0])))
 (some (.doneM (V.bool false) [O.arena 66 L_12.2.1,O.marena 63 L_12.2.2.1,O.map L_12.2.2.2.1,O.map L_12.2.2.2.2,O.box 38 (V.agg [V.mp 2,V.mp 3]) false,O.box 50 (V.agg [V.str L_3.1,V.int .i64 L_3.2.1]) false,O.row 3 (l.map iV) 0,O.row 3 L_7.2.2.2.2.2 0,O.row 3 L_8.2.2.2.2.2 0,O.row 3 L_9.2.2.2.2 0])))
 (some (.doneM (V.bool false) [O.arena 66 L_12.2.1,O.marena 63 L_12.2.2.1,O.map L_12.2.2.2.1,O.map L_12.2.2.2.2,O.box 38 (V.agg [V.mp 2,V.mp 3]) false,O.box 50 (V.agg [V.str L_3.1,V.int .i64 L_3.2.1]) false,O.row 3 (l.map iV) 0,O.row 3 L_7.2.2.2.2.2 0,O.row 3 L_8.2.2.2.2.2 0,O.row 3 L_9.2.2.2.2 0])))
 (some (.doneM (V.bool false) [O.arena 66 L_12.2.1,O.marena 63 L_12.2.2.1,O.map L_12.2.2.2.1,O.map L_12.2.2.2.2,O.box 38 (V.agg [V.mp 2,V.mp 3]) false,O.box 50 (V.agg [V.str L_3.1,V.int .i64 L_3.2.1]) false,O.row 3 (l.map iV) 0,O.row 3 L_7.2.2.2.2.2 0,O.row 3 L_8.2.2.2.2.2 0,O.row 3 L_9.2.2.2.2 0])))
 (some (.doneM (V.bool false) [O.arena 66 L_12.2.1,O.marena 63 L_12.2.2.1,O.map L_12.2.2.2.1,O.map L_12.2.2.2.2,O.box 38 (V.agg [V.mp 2,V.mp 3]) false,O.box 50 (V.agg [V.str L_3.1,V.int .i64 L_3.2.1]) false,O.row 3 (l.map iV) 0,O.row 3 L_7.2.2.2.2.2 0,O.row 3 L_8.2.2.2.2.2 0,O.row 3 L_9.2.2.2.2 0])))
 (some (.doneM (V.bool false) [O.arena 66 L_12.2.1,O.marena 63 L_12.2.2.1,O.map L_12.2.2.2.1,O.map L_12.2.2.2.2,O.box 38 (V.agg [V.mp 2,V.mp 3]) false,O.box 50 (V.agg [V.str L_3.1,V.int .i64 L_3.2.1]) false,O.row 3 (l.map iV) 0,O.row 3 L_7.2.2.2.2.2 0,O.row 3 L_8.2.2.2.2.2 0,O.row 3 L_9.2.2.2.2 0])))
 (some (.doneM (V.bool false) [O.arena 66 L_12.2.1,O.marena 63 L_12.2.2.1,O.map L_12.2.2.2.1,O.map L_12.2.2.2.2,O.box 38 (V.agg [V.mp 2,V.mp 3]) false,O.box 50 (V.agg [V.str L_3.1,V.int .i64 L_3.2.1]) false,O.row 3 (l.map iV) 0,O.row 3 L_7.2.2.2.2.2 0,O.row 3 L_8.2.2.2.2.2 0,O.row 3 L_9.2.2.2.2 0])))
 (some (.doneM (V.bool false) [O.arena 66 L_12.2.1,O.marena 63 L_12.2.2.1,O.map L_12.2.2.2.1,O.map L_12.2.2.2.2,O.box 38 (V.agg [V.mp 2,V.mp 3]) false,O.box 50 (V.agg [V.str L_3.1,V.int .i64 L_3.2.1]) false,O.row 3 (l.map iV) 0,O.row 3 L_7.2.2.2.2.2 0,O.row 3 L_8.2.2.2.2.2 0,O.row 3 L_9.2.2.2.2 0]))
theorem e7_eq :enterK kcB true fa7 [] [O.arena 66 [],O.marena 63 []]=e7 :=by kernel_rfl
noncomputable def fa67:FA:=(fnA cfgB.P (cfgB.rxf 67) 67).getD faN
theorem fa67_eq:fnA cfgB.P (cfgB.rxf 67) 67=some fa67:=fa_of (by kernel_rfl)
def T67_0 (x0 x1:List UInt8) (x5:Int):S:=⟨[V.str x0,V.str x1,V.junk,V.junk,V.bool false,V.int .i64 x5]++(JU 31),[]⟩
noncomputable def e67 (a0 a1:List UInt8):R :=
 some (.head 0 (T67_0 a0 a1 0))
theorem e67_eq (a0 a1:List UInt8):enterK kcB false fa67 [V.str a0,V.str a1] []=e67 a0 a1:=by kernel_rfl
theorem e67_run (a0 a1:List UInt8) {o:Out} {v:V} (h:e67 a0 a1=some o) (hg:Go kcB false 0 fa67 o (.done v)):pcW cfgB 67 [V.str a0,V.str a1]=some v:=pcW_go ikB rfl fa67_eq ((e67_eq ..).trans h) hg
noncomputable def s67_0 (x0 x1:List UInt8) (x5:Int):R :=
 cond (decide (x5 < (x0.length:Int)))
 (cond (decide (x5 < (x1.length:Int)))
 (gd (decide (0<=x5)) <|
  idxK x0 x5.toNat fun c =>
  gd (decide (0<=x5)) <|
  idxK x1 x5.toNat fun c_1 =>
  cond ((c.toNat:Int) != (c_1.toNat:Int))
 (gd (decide (0<=x5)) <|
  idxK x0 x5.toNat fun c_2 =>
  gd (decide (0<=x5)) <|
  idxK x1 x5.toNat fun c_3 =>
  some (.done (V.bool (decide ((c_2.toNat:Int) < (c_3.toNat:Int))))))
 (some (.head 0 (T67_0 x0 x1 (W .i64 (x5+1))))))
 (some (.done (V.bool (decide ((x0.length:Int) < (x1.length:Int)))))))
 (some (.done (V.bool (decide ((x0.length:Int) < (x1.length:Int))))))
theorem s67_0_run (x0 x1:List UInt8) (x5:Int) {o o':Out} (h:s67_0 x0 x1 x5=some o) (hg:Go kcB false 0 fa67 o o'):Go kcB false 0 fa67 (.head 0 (T67_0 x0 x1 x5)) o':=.step (Eq.trans (by kernel_rfl) h) hg
noncomputable def fa60:FA:=(fnA cfgB.P (cfgB.rxf 60) 60).getD faN
theorem fa60_eq:fnA cfgB.P (cfgB.rxf 60) 60=some fa60:=fa_of (by kernel_rfl)
noncomputable def e60 (a0 a1 a2:Int):R :=
 pcK cfgB 61 [V.int .i64 a0,V.int .i64 a1] fun r =>
 kB r fun r61 =>
 cond r61
 (pcK cfgB 61 [V.int .i64 a0,V.int .i64 a2] fun r_1 =>
  kB r_1 fun r61_1 =>
  some (.done (V.bool r61_1)))
 (some (.done (V.bool false)))
theorem e60_eq (a0 a1 a2:Int):enterK kcB false fa60 [V.int .i64 a0,V.int .i64 a1,V.int .i64 a2] []=e60 a0 a1 a2:=by kernel_rfl
theorem e60_run (a0 a1 a2:Int) {o:Out} {v:V} (h:e60 a0 a1 a2=some o) (hg:Go kcB false 0 fa60 o (.done v)):pcW cfgB 60 [V.int .i64 a0,V.int .i64 a1,V.int .i64 a2]=some v:=pcW_go ikB rfl fa60_eq ((e60_eq ..).trans h) hg
theorem e60_done (a0 a1 a2:Int) {v:V} (h:e60 a0 a1 a2=some (.done v)):pcW cfgB 60 [V.int .i64 a0,V.int .i64 a1,V.int .i64 a2]=some v:=e60_run a0 a1 a2 h (.refl _)
noncomputable def fa32:FA:=(fnA cfgB.P (cfgB.rxf 32) 32).getD faN
theorem fa32_eq:fnA cfgB.P (cfgB.rxf 32) 32=some fa32:=fa_of (by kernel_rfl)
def T32_0 (x0 x1 x6:Int):S:=⟨[V.int .i64 x0,V.int .i64 x1,V.junk,V.junk,V.int .i64 0,V.int .i64 0,V.int .i64 x6]++(JU 29),[]⟩
def T32_1 (x0 x1 x6:Int) (x7:Bool) (x8:Int):S:=⟨[V.int .i64 x0,V.int .i64 x1,V.junk,V.junk,V.int .i64 0,V.int .i64 0,V.int .i64 x6,V.bool x7,V.int .i64 x8]++(JU 27),[]⟩
noncomputable def e32 (a0 a1:Int):R :=
 some (.head 0 (T32_0 a0 a1 0))
theorem e32_eq (a0 a1:Int):enterK kcB false fa32 [V.int .i64 a0,V.int .i64 a1] []=e32 a0 a1:=by kernel_rfl
theorem e32_run (a0 a1:Int) {o:Out} {v:V} (h:e32 a0 a1=some o) (hg:Go kcB false 0 fa32 o (.done v)):pcW cfgB 32 [V.int .i64 a0,V.int .i64 a1]=some v:=pcW_go ikB rfl fa32_eq ((e32_eq ..).trans h) hg
noncomputable def s32_0 (x0 x1 x6:Int):R :=
 cond (decide (x6 < 7))
 (pcK cfgB 60 [V.int .i64 x6,V.int .i64 x0,V.int .i64 x1] fun r =>
  kB r fun r60 =>
  some (.head 1 (T32_1 x0 x1 x6 r60 0)))
 (some (.done (V.tup [V.int .i64 0,V.int .i64 1])))
theorem s32_0_run (x0 x1 x6:Int) {o o':Out} (h:s32_0 x0 x1 x6=some o) (hg:Go kcB false 0 fa32 o o'):Go kcB false 0 fa32 (.head 0 (T32_0 x0 x1 x6)) o':=.step (Eq.trans (by kernel_rfl) h) hg
noncomputable def s32_1 (x0 x1 x6:Int) (x7:Bool) (x8:Int):R :=
 cond (decide (x8 < 7))
 (cond x7
 (pcK cfgB 60 [V.int .i64 x8,V.int .i64 x0,V.int .i64 x1] fun r =>
  kB r fun r60 =>
  cond (!r60)
 (some (.head 1 (T32_1 x0 x1 x6 true (W .i64 (x8+1)))))
 (pcK cfgB 61 [V.int .i64 x8,V.int .i64 x6] fun r_1 =>
  kB r_1 fun r61 =>
  some (.head 1 (T32_1 x0 x1 x6 r61 (W .i64 (x8+1))))))
 (some (.head 1 (T32_1 x0 x1 x6 false (W .i64 (x8+1))))))
 (cond x7
 (some (.done (V.tup [V.int .i64 x6,V.int .i64 0])))
 (some (.head 0 (T32_0 x0 x1 (W .i64 (x6+1))))))
theorem s32_1_run (x0 x1 x6:Int) (x7:Bool) (x8:Int) {o o':Out} (h:s32_1 x0 x1 x6 x7 x8=some o) (hg:Go kcB false 0 fa32 o o'):Go kcB false 0 fa32 (.head 1 (T32_1 x0 x1 x6 x7 x8)) o':=.step (Eq.trans (by kernel_rfl) h) hg
noncomputable def fa31:FA:=(fnA cfgB.P (cfgB.rxf 31) 31).getD faN
theorem fa31_eq:fnA cfgB.P (cfgB.rxf 31) 31=some fa31:=fa_of (by kernel_rfl)
def T31_0 (x0 x0_1:List V) (x1 x5:Int):S:=⟨[V.ref (V.agg [V.sl x0,V.sl x0_1]) 0,V.int .i64 x1,V.junk,V.junk,V.int .i64 0,V.int .i64 x5]++(JU 20),[]⟩
noncomputable def e31 (hh qq:List V) (ow:Int):R :=
 some (.head 0 (T31_0 hh qq ow 0))
theorem e31_eq (hh qq:List V) (ow:Int):enterK kcB false fa31 [V.ref (V.agg [V.sl hh,V.sl qq]) 0,V.int .i64 ow] []=e31 hh qq ow:=by kernel_rfl
theorem e31_run (hh qq:List V) (ow:Int) {o:Out} {v:V} (h:e31 hh qq ow=some o) (hg:Go kcB false 0 fa31 o (.done v)):pcW cfgB 31 [V.ref (V.agg [V.sl hh,V.sl qq]) 0,V.int .i64 ow]=some v:=pcW_go ikB rfl fa31_eq ((e31_eq ..).trans h) hg
noncomputable def s31_0 (x0 x0_1:List V) (x1 x5:Int):R :=
 cond (decide (x5 < (x0_1.length:Int)))
 (gd (decide (0<=x5)) <|
  idxK x0_1 x5.toNat fun v =>
  d54 v fun owner mode name =>
  cond (owner==x1)
 (some (.done (V.int .i64 x5)))
 (some (.head 0 (T31_0 x0 x0_1 x1 (W .i64 (x5+1))))))
 (some (.done (V.int .i64 (-1))))
theorem s31_0_run (x0 x0_1:List V) (x1 x5:Int) {o o':Out} (h:s31_0 x0 x0_1 x1 x5=some o) (hg:Go kcB false 0 fa31 o o'):Go kcB false 0 fa31 (.head 0 (T31_0 x0 x0_1 x1 x5)) o':=.step (Eq.trans (by kernel_rfl) h) hg
noncomputable def fa34:FA:=(fnA cfgB.P (cfgB.rxf 34) 34).getD faN
theorem fa34_eq:fnA cfgB.P (cfgB.rxf 34) 34=some fa34:=fa_of (by kernel_rfl)
def T34_0 (x0 x0_1:List V) (x1:List UInt8) (x5:Int):S:=⟨[V.ref (V.agg [V.sl x0,V.sl x0_1]) 0,V.str x1,V.junk,V.junk,V.int .i64 0,V.int .i64 x5]++(JU 20),[]⟩
noncomputable def e34 (hh qq:List V) (nm:List UInt8):R :=
 some (.head 0 (T34_0 hh qq nm 0))
theorem e34_eq (hh qq:List V) (nm:List UInt8):enterK kcB false fa34 [V.ref (V.agg [V.sl hh,V.sl qq]) 0,V.str nm] []=e34 hh qq nm:=by kernel_rfl
theorem e34_run (hh qq:List V) (nm:List UInt8) {o:Out} {v:V} (h:e34 hh qq nm=some o) (hg:Go kcB false 0 fa34 o (.done v)):pcW cfgB 34 [V.ref (V.agg [V.sl hh,V.sl qq]) 0,V.str nm]=some v:=pcW_go ikB rfl fa34_eq ((e34_eq ..).trans h) hg
noncomputable def s34_0 (x0 x0_1:List V) (x1:List UInt8) (x5:Int):R :=
 cond (decide (x5 < (x0_1.length:Int)))
 (gd (decide (0<=x5)) <|
  idxK x0_1 x5.toNat fun v =>
  d54 v fun owner mode name =>
  cond (name==x1)
 (some (.done (V.int .i64 x5)))
 (some (.head 0 (T34_0 x0 x0_1 x1 (W .i64 (x5+1))))))
 (some (.done (V.int .i64 (-1))))
theorem s34_0_run (x0 x0_1:List V) (x1:List UInt8) (x5:Int) {o o':Out} (h:s34_0 x0 x0_1 x1 x5=some o) (hg:Go kcB false 0 fa34 o o'):Go kcB false 0 fa34 (.head 0 (T34_0 x0 x0_1 x1 x5)) o':=.step (Eq.trans (by kernel_rfl) h) hg
noncomputable def fa33:FA:=(fnA cfgB.P (cfgB.rxf 33) 33).getD faN
theorem fa33_eq:fnA cfgB.P (cfgB.rxf 33) 33=some fa33:=fa_of (by kernel_rfl)
def T33_0 (x0 x0_1:List V) (x5 m0_0 m0_1:Int) (m0_2:List UInt8):S:=⟨[V.ref (V.agg [V.sl x0,V.sl x0_1]) 0,V.junk,V.junk,V.ptr 0 0 0,V.bool false,V.int .i64 x5]++(JU 37),[O.box 54 (V.agg [V.int .i64 m0_0,V.int .i64 m0_1,V.str m0_2]) false]⟩
noncomputable def e33 (hh qq:List V) (ox mx:Int) (nx:List UInt8):R :=
 some (.head 0 (T33_0 hh qq 0 ox mx nx))
theorem e33_eq (hh qq:List V) (ox mx:Int) (nx:List UInt8):enterK kcB false fa33 [V.ref (V.agg [V.sl hh,V.sl qq]) 0,V.agg [V.int .i64 ox,V.int .i64 mx,V.str nx]] []=e33 hh qq ox mx nx:=by kernel_rfl
theorem e33_run (hh qq:List V) (ox mx:Int) (nx:List UInt8) {o:Out} {v:V} (h:e33 hh qq ox mx nx=some o) (hg:Go kcB false 0 fa33 o (.done v)):pcW cfgB 33 [V.ref (V.agg [V.sl hh,V.sl qq]) 0,V.agg [V.int .i64 ox,V.int .i64 mx,V.str nx]]=some v:=pcW_go ikB rfl fa33_eq ((e33_eq ..).trans h) hg
noncomputable def s33_0 (x0 x0_1:List V) (x5 m0_0 m0_1:Int) (m0_2:List UInt8):R :=
 cond (decide (x5 < (x0.length:Int)))
 (gd (decide (0<=x5)) <|
  idxK x0 x5.toNat fun v =>
  d54 v fun owner mode name =>
  cond (name==m0_2)
 (cond (owner != m0_0)
 (pcK cfgB 53 [V.int .i64 mode,V.int .i64 m0_1] fun r =>
  kB r fun r53 =>
  cond (!r53)
 (some (.done (V.bool false)))
 (some (.head 0 (T33_0 x0 x0_1 (W .i64 (x5+1)) m0_0 m0_1 m0_2))))
 (some (.head 0 (T33_0 x0 x0_1 (W .i64 (x5+1)) m0_0 m0_1 m0_2))))
 (some (.head 0 (T33_0 x0 x0_1 (W .i64 (x5+1)) m0_0 m0_1 m0_2))))
 (some (.done (V.bool true)))
theorem s33_0_run (x0 x0_1:List V) (x5 m0_0 m0_1:Int) (m0_2:List UInt8) {o o':Out} (h:s33_0 x0 x0_1 x5 m0_0 m0_1 m0_2=some o) (hg:Go kcB false 0 fa33 o o'):Go kcB false 0 fa33 (.head 0 (T33_0 x0 x0_1 x5 m0_0 m0_1 m0_2)) o':=.step (Eq.trans (by kernel_rfl) h) hg
noncomputable def fa20:FA:=(fnA cfgB.P (cfgB.rxf 20) 20).getD faN
theorem fa20_eq:fnA cfgB.P (cfgB.rxf 20) 20=some fa20:=fa_of (by kernel_rfl)
def T20_0 (x0 x0_1:List V) (x1:Int) (x2:List UInt8) (x7:Int):S:=⟨[V.ref (V.agg [V.sl x0,V.sl x0_1]) 0,V.int .i64 x1,V.str x2,V.junk,V.junk,V.junk,V.int .i64 0,V.int .i64 x7]++(JU 39),[]⟩
noncomputable def e20 (hh qq:List V) (ow:Int) (nm:List UInt8):R :=
 some (.head 0 (T20_0 hh qq ow nm 0))
theorem e20_eq (hh qq:List V) (ow:Int) (nm:List UInt8):enterK kcB false fa20 [V.ref (V.agg [V.sl hh,V.sl qq]) 0,V.int .i64 ow,V.str nm] []=e20 hh qq ow nm:=by kernel_rfl
theorem e20_run (hh qq:List V) (ow:Int) (nm:List UInt8) {o:Out} {v:V} (h:e20 hh qq ow nm=some o) (hg:Go kcB false 0 fa20 o (.done v)):pcW cfgB 20 [V.ref (V.agg [V.sl hh,V.sl qq]) 0,V.int .i64 ow,V.str nm]=some v:=pcW_go ikB rfl fa20_eq ((e20_eq ..).trans h) hg
noncomputable def s20_0 (x0 x0_1:List V) (x1:Int) (x2:List UInt8) (x7:Int):R :=
 cond (decide (x7 < (x0.length:Int)))
 (gd (decide (0<=x7)) <|
  idxK x0 x7.toNat fun v =>
  d54 v fun owner mode name =>
  cond (owner==x1)
 (gd (decide (0<=x7)) <|
  idxK x0 x7.toNat fun v_1 =>
  d54 v_1 fun owner_1 mode_1 name_1 =>
  cond (name_1==x2)
 (gd (decide (0<=x7)) <|
  idxK x0 x7.toNat fun v_2 =>
  d54 v_2 fun owner_2 mode_2 name_2 =>
  some (.done (V.int .i64 mode_2)))
 (some (.head 0 (T20_0 x0 x0_1 x1 x2 (W .i64 (x7+1))))))
 (some (.head 0 (T20_0 x0 x0_1 x1 x2 (W .i64 (x7+1))))))
 (some (.done (V.int .i64 0)))
theorem s20_0_run (x0 x0_1:List V) (x1:Int) (x2:List UInt8) (x7:Int) {o o':Out} (h:s20_0 x0 x0_1 x1 x2 x7=some o) (hg:Go kcB false 0 fa20 o o'):Go kcB false 0 fa20 (.head 0 (T20_0 x0 x0_1 x1 x2 x7)) o':=.step (Eq.trans (by kernel_rfl) h) hg
noncomputable def fa22:FA:=(fnA cfgB.P (cfgB.rxf 22) 22).getD faN
theorem fa22_eq:fnA cfgB.P (cfgB.rxf 22) 22=some fa22:=fa_of (by kernel_rfl)
def T22_0 (x0 x0_1:List V) (x1 x6 x8:Int) (m1:List V) (m2_0 m2_1:Int) (m2_2:List UInt8):S:=⟨[V.ref (V.agg [V.sl x0,V.sl x0_1]) 0,V.int .i64 x1,V.junk,V.junk,V.own 0,V.own 1,V.int .i64 x6,V.ptr 2 0 0,V.int .i64 x8]++(JU 82),[O.row 3 [] 0,O.row 3 m1 0,O.box 54 (V.agg [V.int .i64 m2_0,V.int .i64 m2_1,V.str m2_2]) false]⟩
def T22_1 (x0 x0_1:List V) (x1 x9:Int) (m1:List V) (m2_0 m2_1:Int) (m2_2:List UInt8):S:=⟨[V.ref (V.agg [V.sl x0,V.sl x0_1]) 0,V.int .i64 x1,V.junk,V.junk,V.own 0,V.own 1,V.junk,V.ptr 2 0 0,V.junk,V.int .i64 x9]++(JU 81),[O.row 3 [] 0,O.row 3 m1 0,O.box 54 (V.agg [V.int .i64 m2_0,V.int .i64 m2_1,V.str m2_2]) false]⟩
noncomputable def e22 (hh qq:List V) (ow:Int):R :=
 pcK cfgB 31 [V.ref (V.agg [V.sl hh,V.sl qq]) 0,V.int .i64 ow] fun r =>
 kI .i64 r fun r31 =>
 cond (decide (r31 < 0))
 (some (.done (V.fr 3 [])))
 (gd (decide (0<=r31)) <|
  idxK qq r31.toNat fun v =>
  d54 v fun owner mode name =>
  some (.head 0 (T22_0 hh qq ow r31 0 [] owner mode name)))
theorem e22_eq (hh qq:List V) (ow:Int):enterK kcB false fa22 [V.ref (V.agg [V.sl hh,V.sl qq]) 0,V.int .i64 ow] []=e22 hh qq ow:=by kernel_rfl
theorem e22_run (hh qq:List V) (ow:Int) {o:Out} {v:V} (h:e22 hh qq ow=some o) (hg:Go kcB false 0 fa22 o (.done v)):pcW cfgB 22 [V.ref (V.agg [V.sl hh,V.sl qq]) 0,V.int .i64 ow]=some v:=pcW_go ikB rfl fa22_eq ((e22_eq ..).trans h) hg
noncomputable def s22_0 (x0 x0_1:List V) (x1 x6 x8:Int) (m1:List V) (m2_0 m2_1:Int) (m2_2:List UInt8):R :=
 cond (decide (x8 < x6))
 (gd (decide (0<=x8)) <|
  idxK x0_1 x8.toNat fun v =>
  d54 v fun owner mode name =>
  cond (name==m2_2)
 (gd (decide (0<=x8)) <|
  idxK x0_1 x8.toNat fun v_1 =>
  d54 v_1 fun owner_1 mode_1 name_1 =>
  icM cfgB ⟨false,false⟩ mk52 52 [V.own 0,V.int .i64 owner_1] [O.row 3 m1 0] fun L =>
  some (.head 0 (T22_0 x0 x0_1 x1 x6 (W .i64 (x8+1)) L m2_0 m2_1 m2_2)))
 (some (.head 0 (T22_0 x0 x0_1 x1 x6 (W .i64 (x8+1)) m1 m2_0 m2_1 m2_2))))
 (some (.head 1 (T22_1 x0 x0_1 x1 0 m1 m2_0 m2_1 m2_2)))
theorem s22_0_run (x0 x0_1:List V) (x1 x6 x8:Int) (m1:List V) (m2_0 m2_1:Int) (m2_2:List UInt8) {o o':Out} (h:s22_0 x0 x0_1 x1 x6 x8 m1 m2_0 m2_1 m2_2=some o) (hg:Go kcB false 0 fa22 o o'):Go kcB false 0 fa22 (.head 0 (T22_0 x0 x0_1 x1 x6 x8 m1 m2_0 m2_1 m2_2)) o':=.step (Eq.trans (by kernel_rfl) h) hg
noncomputable def s22_1 (x0 x0_1:List V) (x1 x9:Int) (m1:List V) (m2_0 m2_1:Int) (m2_2:List UInt8):R :=
 cond (decide (x9 < (x0.length:Int)))
 (gd (decide (0<=x9)) <|
  idxK x0 x9.toNat fun v =>
  d54 v fun owner mode name =>
  cond (name==m2_2)
 (cond (owner != x1)
 (pcK cfgB 53 [V.int .i64 mode,V.int .i64 m2_1] fun r =>
  kB r fun r53 =>
  cond (!r53)
 (icM cfgB ⟨false,false⟩ mk52 52 [V.own 0,V.int .i64 owner] [O.row 3 m1 0] fun L =>
  some (.head 1 (T22_1 x0 x0_1 x1 (W .i64 (x9+1)) L m2_0 m2_1 m2_2)))
 (some (.head 1 (T22_1 x0 x0_1 x1 (W .i64 (x9+1)) m1 m2_0 m2_1 m2_2))))
 (some (.head 1 (T22_1 x0 x0_1 x1 (W .i64 (x9+1)) m1 m2_0 m2_1 m2_2))))
 (some (.head 1 (T22_1 x0 x0_1 x1 (W .i64 (x9+1)) m1 m2_0 m2_1 m2_2))))
 (gd ((m1:List V).all fun x=>x.cells.all V.flat1) <|
  some (.done (V.fr 3 m1)))
theorem s22_1_run (x0 x0_1:List V) (x1 x9:Int) (m1:List V) (m2_0 m2_1:Int) (m2_2:List UInt8) {o o':Out} (h:s22_1 x0 x0_1 x1 x9 m1 m2_0 m2_1 m2_2=some o) (hg:Go kcB false 0 fa22 o o'):Go kcB false 0 fa22 (.head 1 (T22_1 x0 x0_1 x1 x9 m1 m2_0 m2_1 m2_2)) o':=.step (Eq.trans (by kernel_rfl) h) hg
noncomputable def fa62:FA:=(fnA cfgB.P (cfgB.rxf 62) 62).getD faN
theorem fa62_eq:fnA cfgB.P (cfgB.rxf 62) 62=some fa62:=fa_of (by kernel_rfl)
def T62_0 (x0 x0_1:List V) (x1 x6:Int) (m0:List V):S:=⟨[V.ref (V.agg [V.sl x0,V.sl x0_1]) 0,V.int .i64 x1,V.junk,V.junk,V.bool false,V.own 0,V.int .i64 x6]++(JU 67),[O.row 3 m0 0]⟩
def T62_1 (x0 x0_1:List V) (x1 x6 x8:Int) (m0 m1:List V):S:=⟨[V.ref (V.agg [V.sl x0,V.sl x0_1]) 0,V.int .i64 x1,V.junk,V.junk,V.bool false,V.own 0,V.int .i64 x6,V.own 1,V.int .i64 x8]++(JU 65),[O.row 3 m0 0,O.row 3 m1 0]⟩
def T62_3 (x1 x12:Int) (m0:List V):S:=⟨[V.junk,V.int .i64 x1,V.junk,V.junk,V.bool false,V.own 0]++(JU 6)++[V.int .i64 x12]++(JU 61),[O.row 3 m0 0]⟩
def T62_2 (x0 x0_1:List V) (x1 x6:Int) (x8 x9:Int) (x10:Bool) (x11:Int) (m0 m1:List V):S:=⟨[V.ref (V.agg [V.sl x0,V.sl x0_1]) 0,V.int .i64 x1,V.junk,V.junk,V.bool false,V.own 0,V.int .i64 x6,V.own 1,V.int .i64 x8,V.int .i64 x9,V.bool x10,V.int .i64 x11]++(JU 62),[O.row 3 m0 0,O.row 3 m1 0]⟩
noncomputable def e62 (hh qq:List V) (ow:Int):R :=
 pcK cfgB 22 [V.ref (V.agg [V.sl hh,V.sl qq]) 0,V.int .i64 ow] fun r =>
 kF 3 r fun r22 =>
 some (.head 0 (T62_0 hh qq ow 0 r22))
theorem e62_eq (hh qq:List V) (ow:Int):enterK kcB false fa62 [V.ref (V.agg [V.sl hh,V.sl qq]) 0,V.int .i64 ow] []=e62 hh qq ow:=by kernel_rfl
theorem e62_run (hh qq:List V) (ow:Int) {o:Out} {v:V} (h:e62 hh qq ow=some o) (hg:Go kcB false 0 fa62 o (.done v)):pcW cfgB 62 [V.ref (V.agg [V.sl hh,V.sl qq]) 0,V.int .i64 ow]=some v:=pcW_go ikB rfl fa62_eq ((e62_eq ..).trans h) hg
noncomputable def s62_0 (x0 x0_1:List V) (x1 x6:Int) (m0:List V):R :=
 cond (decide (x6 < (m0.length:Int)))
 (gd (decide (0<=x6)) <|
  gd (decide (x6.toNat < m0.length)) <|
  idxK m0 x6.toNat fun v =>
  kI .i64 v fun n =>
  pcK cfgB 22 [V.ref (V.agg [V.sl x0,V.sl x0_1]) 0,V.int .i64 n] fun r =>
  kF 3 r fun r22 =>
  some (.head 1 (T62_1 x0 x0_1 x1 x6 0 m0 r22)))
 (some (.head 3 (T62_3 x1 0 m0)))
theorem s62_0_run (x0 x0_1:List V) (x1 x6:Int) (m0:List V) {o o':Out} (h:s62_0 x0 x0_1 x1 x6 m0=some o) (hg:Go kcB false 0 fa62 o o'):Go kcB false 0 fa62 (.head 0 (T62_0 x0 x0_1 x1 x6 m0)) o':=.step (Eq.trans (by kernel_rfl) h) hg
noncomputable def s62_1 (x0 x0_1:List V) (x1 x6 x8:Int) (m0 m1:List V):R :=
 cond (decide (x8 < (m1.length:Int)))
 (some (.head 2 (T62_2 x0 x0_1 x1 x6 x8 (m0.length:Int) false 0 m0 m1)))
 (some (.head 0 (T62_0 x0 x0_1 x1 (W .i64 (x6+1)) m0)))
theorem s62_1_run (x0 x0_1:List V) (x1 x6 x8:Int) (m0 m1:List V) {o o':Out} (h:s62_1 x0 x0_1 x1 x6 x8 m0 m1=some o) (hg:Go kcB false 0 fa62 o o'):Go kcB false 0 fa62 (.head 1 (T62_1 x0 x0_1 x1 x6 x8 m0 m1)) o':=.step (Eq.trans (by kernel_rfl) h) hg
noncomputable def s62_3 (x1 x12:Int) (m0:List V):R :=
 cond (decide (x12 < (m0.length:Int)))
 (gd (decide (0<=x12)) <|
  gd (decide (x12.toNat < m0.length)) <|
  idxK m0 x12.toNat fun v =>
  kI .i64 v fun n =>
  cond (n==x1)
 (some (.done (V.bool true)))
 (some (.head 3 (T62_3 x1 (W .i64 (x12+1)) m0))))
 (some (.done (V.bool false)))
theorem s62_3_run (x1 x12:Int) (m0:List V) {o o':Out} (h:s62_3 x1 x12 m0=some o) (hg:Go kcB false 0 fa62 o o'):Go kcB false 0 fa62 (.head 3 (T62_3 x1 x12 m0)) o':=.step (Eq.trans (by kernel_rfl) h) hg
noncomputable def s62_2 (x0 x0_1:List V) (x1 x6:Int) (x8 x9:Int) (x10:Bool) (x11:Int) (m0 m1:List V):R :=
 cond (decide (x11 < x9))
 (cond x10
 (some (.head 2 (T62_2 x0 x0_1 x1 x6 x8 x9 true (W .i64 (x11+1)) m0 m1)))
 (gd (decide (0<=x11)) <|
  gd (decide (x11.toNat < m0.length)) <|
  idxK m0 x11.toNat fun v =>
  kI .i64 v fun n =>
  gd (decide (0<=x8)) <|
  gd (decide (x8.toNat < m1.length)) <|
  idxK m1 x8.toNat fun v_1 =>
  kI .i64 v_1 fun n_1 =>
  some (.head 2 (T62_2 x0 x0_1 x1 x6 x8 x9 (n==n_1) (W .i64 (x11+1)) m0 m1))))
 (cond (!x10)
 (gd (decide (0<=x8)) <|
  gd (decide (x8.toNat < m1.length)) <|
  idxK m1 x8.toNat fun v_2 =>
  kI .i64 v_2 fun n_2 =>
  gd (decide (m0.length+([V.int .i64 n_2]:List V).length<=16777216)) <|
  some (.head 1 (T62_1 x0 x0_1 x1 x6 (W .i64 (x8+1)) (m0++[V.int .i64 n_2]) m1)))
 (some (.head 1 (T62_1 x0 x0_1 x1 x6 (W .i64 (x8+1)) m0 m1))))
theorem s62_2_run (x0 x0_1:List V) (x1 x6:Int) (x8 x9:Int) (x10:Bool) (x11:Int) (m0 m1:List V) {o o':Out} (h:s62_2 x0 x0_1 x1 x6 x8 x9 x10 x11 m0 m1=some o) (hg:Go kcB false 0 fa62 o o'):Go kcB false 0 fa62 (.head 2 (T62_2 x0 x0_1 x1 x6 x8 x9 x10 x11 m0 m1)) o':=.step (Eq.trans (by kernel_rfl) h) hg
noncomputable def fa45:FA:=(fnA cfgB.P (cfgB.rxf 45) 45).getD faN
theorem fa45_eq:fnA cfgB.P (cfgB.rxf 45) 45=some fa45:=fa_of (by kernel_rfl)
def T45_0 (x0:List V) (x4:Int) (m1:List V):S:=⟨[V.sl x0,V.junk,V.own 0,V.own 1,V.int .i64 x4]++(JU 63),[O.row 9 [] 0,O.row 9 m1 0]⟩
def T45_1 (x0:List V) (x4 x5:Int) (m1:List V):S:=⟨[V.sl x0,V.junk,V.own 0,V.own 1,V.int .i64 x4,V.int .i64 x5]++(JU 62),[O.row 9 [] 0,O.row 9 m1 0]⟩
noncomputable def e45 (a0:List V):R :=
 some (.head 0 (T45_0 a0 0 []))
theorem e45_eq (a0:List V):enterK kcB false fa45 [V.sl a0] []=e45 a0:=by kernel_rfl
theorem e45_run (a0:List V) {o:Out} {v:V} (h:e45 a0=some o) (hg:Go kcB false 0 fa45 o (.done v)):pcW cfgB 45 [V.sl a0]=some v:=pcW_go ikB rfl fa45_eq ((e45_eq ..).trans h) hg
noncomputable def s45_0 (x0:List V) (x4:Int) (m1:List V):R :=
 cond (decide (x4 < (x0.length:Int)))
 (some (.head 1 (T45_1 x0 x4 0 m1)))
 (gd ((m1:List V).all fun x=>x.cells.all V.flat1) <|
  some (.done (V.fr 9 m1)))
theorem s45_0_run (x0:List V) (x4:Int) (m1:List V) {o o':Out} (h:s45_0 x0 x4 m1=some o) (hg:Go kcB false 0 fa45 o o'):Go kcB false 0 fa45 (.head 0 (T45_0 x0 x4 m1)) o':=.step (Eq.trans (by kernel_rfl) h) hg
noncomputable def s45_1 (x0:List V) (x4 x5:Int) (m1:List V):R :=
 cond (decide (x5 < (m1.length:Int)))
 (gd (decide (0<=x5)) <|
  gd (decide (x5.toNat < m1.length)) <|
  idxK m1 x5.toNat fun v =>
  kS v fun s =>
  gd (decide (0<=x4)) <|
  idxK x0 x4.toNat fun v_1 =>
  d54 v_1 fun owner mode name =>
  pcK cfgB 67 [V.str s,V.str name] fun r =>
  kB r fun r67 =>
  cond r67
 (some (.head 1 (T45_1 x0 x4 (W .i64 (x5+1)) m1)))
 (cond (decide (x5 < (m1.length:Int)))
 (gd (decide (0<=x5)) <|
  gd (decide (x5.toNat < m1.length)) <|
  idxK m1 x5.toNat fun v_2 =>
  kS v_2 fun s_1 =>
  gd (decide (0<=x4)) <|
  idxK x0 x4.toNat fun v_3 =>
  d54 v_3 fun owner_1 mode_1 name_1 =>
  cond (s_1==name_1)
 (some (.head 0 (T45_0 x0 (W .i64 (x4+1)) m1)))
 (gd (wfl 1 m1) <|
  gd (decide (0<=x5)) <|
  gd (decide (x5.toNat<=m1.length)) <|
  gd (decide (0+(x5.toNat - 0)<=m1.length)) <|
  gd (wfl 1 (((m1).drop 0).take (x5.toNat - 0))) <|
  gd (decide (0+(((m1).drop 0).take (x5.toNat - 0)).length<=16777216)) <|
  gd (decide (0<=x4)) <|
  idxK x0 x4.toNat fun v_4 =>
  d54 v_4 fun owner_2 mode_2 name_2 =>
  gd (decide ((((m1).drop 0).take (x5.toNat - 0)).length+([V.str name_2]:List V).length<=16777216)) <|
  gd (wfl 1 m1) <|
  gd (decide (0<=x5)) <|
  gd (decide (x5.toNat<=m1.length)) <|
  gd (wfl 1 (m1.drop x5.toNat)) <|
  gd (decide (((((m1).drop 0).take (x5.toNat - 0))++[V.str name_2]).length+(m1.drop x5.toNat).length<=16777216)) <|
  some (.head 0 (T45_0 x0 (W .i64 (x4+1)) (((((m1).drop 0).take (x5.toNat - 0))++[V.str name_2])++(m1.drop x5.toNat))))))
 (gd (wfl 1 m1) <|
  gd (decide (0<=x5)) <|
  gd (decide (x5.toNat<=m1.length)) <|
  gd (decide (0+(x5.toNat - 0)<=m1.length)) <|
  gd (wfl 1 (((m1).drop 0).take (x5.toNat - 0))) <|
  gd (decide (0+(((m1).drop 0).take (x5.toNat - 0)).length<=16777216)) <|
  gd (decide (0<=x4)) <|
  idxK x0 x4.toNat fun v_5 =>
  d54 v_5 fun owner_3 mode_3 name_3 =>
  gd (decide ((((m1).drop 0).take (x5.toNat - 0)).length+([V.str name_3]:List V).length<=16777216)) <|
  gd (wfl 1 m1) <|
  gd (decide (0<=x5)) <|
  gd (decide (x5.toNat<=m1.length)) <|
  gd (wfl 1 (m1.drop x5.toNat)) <|
  gd (decide (((((m1).drop 0).take (x5.toNat - 0))++[V.str name_3]).length+(m1.drop x5.toNat).length<=16777216)) <|
  some (.head 0 (T45_0 x0 (W .i64 (x4+1)) (((((m1).drop 0).take (x5.toNat - 0))++[V.str name_3])++(m1.drop x5.toNat)))))))
 (cond (decide (x5 < (m1.length:Int)))
 (gd (decide (0<=x5)) <|
  gd (decide (x5.toNat < m1.length)) <|
  idxK m1 x5.toNat fun v_6 =>
  kS v_6 fun s_2 =>
  gd (decide (0<=x4)) <|
  idxK x0 x4.toNat fun v_7 =>
  d54 v_7 fun owner_4 mode_4 name_4 =>
  cond (s_2==name_4)
 (some (.head 0 (T45_0 x0 (W .i64 (x4+1)) m1)))
 (gd (wfl 1 m1) <|
  gd (decide (0<=x5)) <|
  gd (decide (x5.toNat<=m1.length)) <|
  gd (decide (0+(x5.toNat - 0)<=m1.length)) <|
  gd (wfl 1 (((m1).drop 0).take (x5.toNat - 0))) <|
  gd (decide (0+(((m1).drop 0).take (x5.toNat - 0)).length<=16777216)) <|
  gd (decide (0<=x4)) <|
  idxK x0 x4.toNat fun v_8 =>
  d54 v_8 fun owner_5 mode_5 name_5 =>
  gd (decide ((((m1).drop 0).take (x5.toNat - 0)).length+([V.str name_5]:List V).length<=16777216)) <|
  gd (wfl 1 m1) <|
  gd (decide (0<=x5)) <|
  gd (decide (x5.toNat<=m1.length)) <|
  gd (wfl 1 (m1.drop x5.toNat)) <|
  gd (decide (((((m1).drop 0).take (x5.toNat - 0))++[V.str name_5]).length+(m1.drop x5.toNat).length<=16777216)) <|
  some (.head 0 (T45_0 x0 (W .i64 (x4+1)) (((((m1).drop 0).take (x5.toNat - 0))++[V.str name_5])++(m1.drop x5.toNat))))))
 (gd (wfl 1 m1) <|
  gd (decide (0<=x5)) <|
  gd (decide (x5.toNat<=m1.length)) <|
  gd (decide (0+(x5.toNat - 0)<=m1.length)) <|
  gd (wfl 1 (((m1).drop 0).take (x5.toNat - 0))) <|
  gd (decide (0+(((m1).drop 0).take (x5.toNat - 0)).length<=16777216)) <|
  gd (decide (0<=x4)) <|
  idxK x0 x4.toNat fun v_9 =>
  d54 v_9 fun owner_6 mode_6 name_6 =>
  gd (decide ((((m1).drop 0).take (x5.toNat - 0)).length+([V.str name_6]:List V).length<=16777216)) <|
  gd (wfl 1 m1) <|
  gd (decide (0<=x5)) <|
  gd (decide (x5.toNat<=m1.length)) <|
  gd (wfl 1 (m1.drop x5.toNat)) <|
  gd (decide (((((m1).drop 0).take (x5.toNat - 0))++[V.str name_6]).length+(m1.drop x5.toNat).length<=16777216)) <|
  some (.head 0 (T45_0 x0 (W .i64 (x4+1)) (((((m1).drop 0).take (x5.toNat - 0))++[V.str name_6])++(m1.drop x5.toNat))))))
theorem s45_1_run (x0:List V) (x4 x5:Int) (m1:List V) {o o':Out} (h:s45_1 x0 x4 x5 m1=some o) (hg:Go kcB false 0 fa45 o o'):Go kcB false 0 fa45 (.head 1 (T45_1 x0 x4 x5 m1)) o':=.step (Eq.trans (by kernel_rfl) h) hg
noncomputable def fa38:FA:=(fnA cfgB.P (cfgB.rxf 38) 38).getD faN
theorem fa38_eq:fnA cfgB.P (cfgB.rxf 38) 38=some fa38:=fa_of (by kernel_rfl)
def T38_0 (x0:List V) (x1:Int) (x2:List UInt8) (x3:Bool) (x10:Int) (m1:List V):S:=⟨[V.sl x0,V.int .i64 x1,V.str x2,V.bool x3]++(JU 4)++[V.own 0,V.own 1,V.int .i64 x10]++(JU 35),[O.row 54 [] 0,O.row 54 m1 0]⟩
noncomputable def e38 (a0:List V) (a1:Int) (a2:List UInt8) (a3:Bool):R :=
 some (.head 0 (T38_0 a0 a1 a2 a3 0 []))
theorem e38_eq (a0:List V) (a1:Int) (a2:List UInt8) (a3:Bool):enterK kcB false fa38 [V.sl a0,V.int .i64 a1,V.str a2,V.bool a3] []=e38 a0 a1 a2 a3:=by kernel_rfl
theorem e38_run (a0:List V) (a1:Int) (a2:List UInt8) (a3:Bool) {o:Out} {v:V} (h:e38 a0 a1 a2 a3=some o) (hg:Go kcB false 0 fa38 o (.done v)):pcW cfgB 38 [V.sl a0,V.int .i64 a1,V.str a2,V.bool a3]=some v:=pcW_go ikB rfl fa38_eq ((e38_eq ..).trans h) hg
noncomputable def s38_0 (x0:List V) (x1:Int) (x2:List UInt8) (x3:Bool) (x10:Int) (m1:List V):R :=
 cond (decide (x10 < (x0.length:Int)))
 (gd (decide (0<=x10)) <|
  idxK x0 x10.toNat fun v =>
  d54 v fun owner mode name =>
  cond (owner != x1)
 (gd (decide (0<=x10)) <|
  idxK x0 x10.toNat fun v_1 =>
  d54 v_1 fun owner_1 mode_1 name_1 =>
  gd (decide (m1.length+([V.agg [V.int .i64 owner_1,V.int .i64 mode_1,V.str name_1]]:List V).length<=16777216)) <|
  some (.head 0 (T38_0 x0 x1 x2 x3 (W .i64 (x10+1)) (m1++[V.agg [V.int .i64 owner_1,V.int .i64 mode_1,V.str name_1]]))))
 (cond (!x3)
 (gd (decide (0<=x10)) <|
  idxK x0 x10.toNat fun v_2 =>
  d54 v_2 fun owner_2 mode_2 name_2 =>
  cond (!(name_2==x2))
 (gd (decide (0<=x10)) <|
  idxK x0 x10.toNat fun v_3 =>
  d54 v_3 fun owner_3 mode_3 name_3 =>
  gd (decide (m1.length+([V.agg [V.int .i64 owner_3,V.int .i64 mode_3,V.str name_3]]:List V).length<=16777216)) <|
  some (.head 0 (T38_0 x0 x1 x2 x3 (W .i64 (x10+1)) (m1++[V.agg [V.int .i64 owner_3,V.int .i64 mode_3,V.str name_3]]))))
 (some (.head 0 (T38_0 x0 x1 x2 x3 (W .i64 (x10+1)) m1))))
 (some (.head 0 (T38_0 x0 x1 x2 x3 (W .i64 (x10+1)) m1)))))
 (gd ((m1:List V).all fun x=>x.cells.all V.flat1) <|
  some (.done (V.fr 54 m1)))
theorem s38_0_run (x0:List V) (x1:Int) (x2:List UInt8) (x3:Bool) (x10:Int) (m1:List V) {o o':Out} (h:s38_0 x0 x1 x2 x3 x10 m1=some o) (hg:Go kcB false 0 fa38 o o'):Go kcB false 0 fa38 (.head 0 (T38_0 x0 x1 x2 x3 x10 m1)) o':=.step (Eq.trans (by kernel_rfl) h) hg
noncomputable def fa16:FA:=(fnA cfgB.P (cfgB.rxf 16) 16).getD faN
theorem fa16_eq:fnA cfgB.P (cfgB.rxf 16) 16=some fa16:=fa_of (by kernel_rfl)
def T16_0 (x0 x0_1:List V) (x1:Int) (x6:List V) (x7:Int) (m1:List V):S:=⟨[V.ref (V.agg [V.sl x0,V.sl x0_1]) 0,V.int .i64 x1,V.junk,V.junk,V.own 0,V.own 1,V.sl x6,V.int .i64 x7]++(JU 37),[O.row 54 [] 0,O.row 54 m1 0]⟩
noncomputable def e16 (hh qq:List V) (ow:Int):R :=
 pcK cfgB 45 [V.sl hh] fun r =>
 kF 9 r fun r45 =>
 some (.head 0 (T16_0 hh qq ow r45 0 []))
theorem e16_eq (hh qq:List V) (ow:Int):enterK kcB false fa16 [V.ref (V.agg [V.sl hh,V.sl qq]) 0,V.int .i64 ow] []=e16 hh qq ow:=by kernel_rfl
theorem e16_run (hh qq:List V) (ow:Int) {o:Out} {v:V} (h:e16 hh qq ow=some o) (hg:Go kcB false 0 fa16 o (.done v)):pcW cfgB 16 [V.ref (V.agg [V.sl hh,V.sl qq]) 0,V.int .i64 ow]=some v:=pcW_go ikB rfl fa16_eq ((e16_eq ..).trans h) hg
noncomputable def s16_0 (x0 x0_1:List V) (x1:Int) (x6:List V) (x7:Int) (m1:List V):R :=
 cond (decide (x7 < (x6.length:Int)))
 (gd (decide (0<=x7)) <|
  idxK x6 x7.toNat fun v =>
  kS v fun s =>
  pcK cfgB 20 [V.ref (V.agg [V.sl x0,V.sl x0_1]) 0,V.int .i64 x1,V.str s] fun r =>
  kI .i64 r fun r20 =>
  cond (decide (r20 > 0))
 (gd (decide (0<=x7)) <|
  idxK x6 x7.toNat fun v_1 =>
  kS v_1 fun s_1 =>
  pcK cfgB 20 [V.ref (V.agg [V.sl x0,V.sl x0_1]) 0,V.int .i64 x1,V.str s_1] fun r_1 =>
  kI .i64 r_1 fun r20_1 =>
  gd (decide (0<=x7)) <|
  idxK x6 x7.toNat fun v_2 =>
  kS v_2 fun s_2 =>
  gd (decide (m1.length+([V.agg [V.int .i64 x1,V.int .i64 r20_1,V.str s_2]]:List V).length<=16777216)) <|
  some (.head 0 (T16_0 x0 x0_1 x1 x6 (W .i64 (x7+1)) (m1++[V.agg [V.int .i64 x1,V.int .i64 r20_1,V.str s_2]]))))
 (some (.head 0 (T16_0 x0 x0_1 x1 x6 (W .i64 (x7+1)) m1))))
 (gd ((m1:List V).all fun x=>x.cells.all V.flat1) <|
  some (.done (V.fr 54 m1)))
theorem s16_0_run (x0 x0_1:List V) (x1:Int) (x6:List V) (x7:Int) (m1:List V) {o o':Out} (h:s16_0 x0 x0_1 x1 x6 x7 m1=some o) (hg:Go kcB false 0 fa16 o o'):Go kcB false 0 fa16 (.head 0 (T16_0 x0 x0_1 x1 x6 x7 m1)) o':=.step (Eq.trans (by kernel_rfl) h) hg
noncomputable def fa24:FA:=(fnA cfgB.P (cfgB.rxf 24) 24).getD faN
theorem fa24_eq:fnA cfgB.P (cfgB.rxf 24) 24=some fa24:=fa_of (by kernel_rfl)
def T24_0 (x0 x0_1:List V) (x1:List UInt8) (x6:Int) (m1:List V):S:=⟨[V.ref (V.agg [V.sl x0,V.sl x0_1]) 0,V.str x1,V.junk,V.junk,V.own 0,V.own 1,V.int .i64 x6]++(JU 31),[O.row 3 [] 0,O.row 3 m1 0]⟩
noncomputable def e24 (hh qq:List V) (nm:List UInt8):R :=
 some (.head 0 (T24_0 hh qq nm 0 []))
theorem e24_eq (hh qq:List V) (nm:List UInt8):enterK kcB false fa24 [V.ref (V.agg [V.sl hh,V.sl qq]) 0,V.str nm] []=e24 hh qq nm:=by kernel_rfl
theorem e24_run (hh qq:List V) (nm:List UInt8) {o:Out} {v:V} (h:e24 hh qq nm=some o) (hg:Go kcB false 0 fa24 o (.done v)):pcW cfgB 24 [V.ref (V.agg [V.sl hh,V.sl qq]) 0,V.str nm]=some v:=pcW_go ikB rfl fa24_eq ((e24_eq ..).trans h) hg
noncomputable def s24_0 (x0 x0_1:List V) (x1:List UInt8) (x6:Int) (m1:List V):R :=
 cond (decide (x6 < (x0.length:Int)))
 (gd (decide (0<=x6)) <|
  idxK x0 x6.toNat fun v =>
  d54 v fun owner mode name =>
  cond (name==x1)
 (gd (decide (0<=x6)) <|
  idxK x0 x6.toNat fun v_1 =>
  d54 v_1 fun owner_1 mode_1 name_1 =>
  icM cfgB ⟨false,false⟩ mk52 52 [V.own 0,V.int .i64 owner_1] [O.row 3 m1 0] fun L =>
  some (.head 0 (T24_0 x0 x0_1 x1 (W .i64 (x6+1)) L)))
 (some (.head 0 (T24_0 x0 x0_1 x1 (W .i64 (x6+1)) m1))))
 (gd ((m1:List V).all fun x=>x.cells.all V.flat1) <|
  some (.done (V.fr 3 m1)))
theorem s24_0_run (x0 x0_1:List V) (x1:List UInt8) (x6:Int) (m1:List V) {o o':Out} (h:s24_0 x0 x0_1 x1 x6 m1=some o) (hg:Go kcB false 0 fa24 o o'):Go kcB false 0 fa24 (.head 0 (T24_0 x0 x0_1 x1 x6 m1)) o':=.step (Eq.trans (by kernel_rfl) h) hg
noncomputable def fa26:FA:=(fnA cfgB.P (cfgB.rxf 26) 26).getD faN
theorem fa26_eq:fnA cfgB.P (cfgB.rxf 26) 26=some fa26:=fa_of (by kernel_rfl)
def T26_0 (x0 x0_1:List V) (x1:List UInt8) (x6:Int) (m1:List V):S:=⟨[V.ref (V.agg [V.sl x0,V.sl x0_1]) 0,V.str x1,V.junk,V.junk,V.own 0,V.own 1,V.int .i64 x6]++(JU 32),[O.row 3 [] 0,O.row 3 m1 0]⟩
noncomputable def e26 (hh qq:List V) (nm:List UInt8):R :=
 some (.head 0 (T26_0 hh qq nm 0 []))
theorem e26_eq (hh qq:List V) (nm:List UInt8):enterK kcB false fa26 [V.ref (V.agg [V.sl hh,V.sl qq]) 0,V.str nm] []=e26 hh qq nm:=by kernel_rfl
theorem e26_run (hh qq:List V) (nm:List UInt8) {o:Out} {v:V} (h:e26 hh qq nm=some o) (hg:Go kcB false 0 fa26 o (.done v)):pcW cfgB 26 [V.ref (V.agg [V.sl hh,V.sl qq]) 0,V.str nm]=some v:=pcW_go ikB rfl fa26_eq ((e26_eq ..).trans h) hg
noncomputable def s26_0 (x0 x0_1:List V) (x1:List UInt8) (x6:Int) (m1:List V):R :=
 cond (decide (x6 < (x0_1.length:Int)))
 (gd (decide (0<=x6)) <|
  idxK x0_1 x6.toNat fun v =>
  d54 v fun owner mode name =>
  cond (name==x1)
 (gd (decide (0<=x6)) <|
  idxK x0_1 x6.toNat fun v_1 =>
  d54 v_1 fun owner_1 mode_1 name_1 =>
  gd (decide (m1.length+([V.int .i64 owner_1]:List V).length<=16777216)) <|
  some (.head 0 (T26_0 x0 x0_1 x1 (W .i64 (x6+1)) (m1++[V.int .i64 owner_1]))))
 (some (.head 0 (T26_0 x0 x0_1 x1 (W .i64 (x6+1)) m1))))
 (gd ((m1:List V).all fun x=>x.cells.all V.flat1) <|
  some (.done (V.fr 3 m1)))
theorem s26_0_run (x0 x0_1:List V) (x1:List UInt8) (x6:Int) (m1:List V) {o o':Out} (h:s26_0 x0 x0_1 x1 x6 m1=some o) (hg:Go kcB false 0 fa26 o o'):Go kcB false 0 fa26 (.head 0 (T26_0 x0 x0_1 x1 x6 m1)) o':=.step (Eq.trans (by kernel_rfl) h) hg
noncomputable def fa18:FA:=(fnA cfgB.P (cfgB.rxf 18) 18).getD faN
theorem fa18_eq:fnA cfgB.P (cfgB.rxf 18) 18=some fa18:=fa_of (by kernel_rfl)
noncomputable def e18 (hh qq:List V) (ow:Int):R :=
 pcK cfgB 31 [V.ref (V.agg [V.sl hh,V.sl qq]) 0,V.int .i64 ow] fun r =>
 kI .i64 r fun r31 =>
 cond (decide (r31 < 0))
 (some (.done (V.tup [V.agg [V.int .i64 0,V.int .i64 0,V.str []],V.bool false])))
 (gd (decide (0<=r31)) <|
  idxK qq r31.toNat fun v =>
  d54 v fun owner mode name =>
  some (.done (V.tup [V.agg [V.int .i64 owner,V.int .i64 mode,V.str name],V.bool true])))
theorem e18_eq (hh qq:List V) (ow:Int):enterK kcB false fa18 [V.ref (V.agg [V.sl hh,V.sl qq]) 0,V.int .i64 ow] []=e18 hh qq ow:=by kernel_rfl
theorem e18_run (hh qq:List V) (ow:Int) {o:Out} {v:V} (h:e18 hh qq ow=some o) (hg:Go kcB false 0 fa18 o (.done v)):pcW cfgB 18 [V.ref (V.agg [V.sl hh,V.sl qq]) 0,V.int .i64 ow]=some v:=pcW_go ikB rfl fa18_eq ((e18_eq ..).trans h) hg
theorem e18_done (hh qq:List V) (ow:Int) {v:V} (h:e18 hh qq ow=some (.done v)):pcW cfgB 18 [V.ref (V.agg [V.sl hh,V.sl qq]) 0,V.int .i64 ow]=some v:=e18_run hh qq ow h (.refl _)
noncomputable def fa3:FA:=(fnA cfgB.P (cfgB.rxf 3) 3).getD faN
theorem fa3_eq:fnA cfgB.P (cfgB.rxf 3) 3=some fa3:=fa_of (by kernel_rfl)
def T3_0 (x0:List V) (x5:Int) (m0:List V) (m1:List (List (V × V))) (m4 m5:List (V × V)) (m6 m7:List V):S:=⟨[V.sl x0,V.junk,V.bool false,V.ptr 2 0 0,V.ptr 3 0 0,V.int .i64 x5]++(JU 53),[O.arena 66 m0,O.marena 63 m1,O.box 38 (V.agg [V.mp 4,V.mp 5]) false,O.box 28 (V.agg [V.tail 6 0,V.tail 7 0]) false,O.map m4,O.map m5,O.row 54 m6 0,O.row 54 m7 0]⟩
def T3_1 (x0:List V) (x5 x7:Int) (m0:List V) (m1:List (List (V × V))) (m4 m5:List (V × V)) (m6 m7:List V):S:=⟨[V.sl x0,V.junk,V.bool false,V.ptr 2 0 0,V.ptr 3 0 0,V.int .i64 x5,V.junk,V.int .i64 x7]++(JU 51),[O.arena 66 m0,O.marena 63 m1,O.box 38 (V.agg [V.mp 4,V.mp 5]) false,O.box 28 (V.agg [V.tail 6 0,V.tail 7 0]) false,O.map m4,O.map m5,O.row 54 m6 0,O.row 54 m7 0]⟩
noncomputable def e3 (sc:List V):R :=
 some (.head 0 (T3_0 sc 0 [] [] [] [] [] []))
theorem e3_eq (sc:List V):enterK kcB true fa3 [V.sl sc] [O.arena 66 [],O.marena 63 []]=e3 sc:=by kernel_rfl
noncomputable def s3_0 (x0:List V) (x5:Int) (m0:List V) (m1:List (List (V × V))) (m4 m5:List (V × V)) (m6 m7:List V):R :=
 cond (decide (x5 < (x0.length:Int)))
 (cond (decide (x5 < 60))
 (gd (decide (0<=x5)) <|
  idxK x0 x5.toNat fun v =>
  d30 v fun kind0 owner name mode =>
  icM cfgB ⟨false,false⟩ mk5 5 [V.ptr 2 0 0,V.ptr 3 0 0,V.agg [V.int .i64 kind0,V.int .i64 owner,V.str name,V.int .i64 mode]] [O.arena 66 m0,O.marena 63 m1,O.box 38 (V.agg [V.mp 4,V.mp 5]) false,O.box 28 (V.agg [V.tail 6 0,V.tail 7 0]) false,O.map m4,O.map m5,O.row 54 m6 0,O.row 54 m7 0] fun L =>
  cond (!L.1)
 (some (.doneM (V.bool false) [O.arena 66 L.2.1,O.marena 63 L.2.2.1,O.box 38 (V.agg [V.mp 4,V.mp 5]) false,O.box 28 (V.agg [V.tail 6 0,V.tail 7 0]) false,O.map L.2.2.2.1,O.map L.2.2.2.2.1,O.row 54 L.2.2.2.2.2.1 0,O.row 54 L.2.2.2.2.2.2 0]))
 (gd (decide (0<=(if 20 < (name.length:Int) then 20 else (name.length:Int)))) <|
  gd (decide ((if 20 < (name.length:Int) then 20 else (name.length:Int)).toNat<=name.length)) <|
  icM cfgB ⟨false,false⟩ mk6 6 [V.ptr 2 0 0,V.ptr 3 0 0,V.int .i64 owner,V.str (name.take ((if 20 < (name.length:Int) then 20 else (name.length:Int)).toNat))] [O.arena 66 L.2.1,O.marena 63 L.2.2.1,O.box 38 (V.agg [V.mp 4,V.mp 5]) false,O.box 28 (V.agg [V.tail 6 0,V.tail 7 0]) false,O.map L.2.2.2.1,O.map L.2.2.2.2.1,O.row 54 L.2.2.2.2.2.1 0,O.row 54 L.2.2.2.2.2.2 0] fun L_1 =>
  cond (!L_1.1)
 (some (.doneM (V.bool false) [O.arena 66 L_1.2.1,O.marena 63 L_1.2.2.1,O.box 38 (V.agg [V.mp 4,V.mp 5]) false,O.box 28 (V.agg [V.tail 6 0,V.tail 7 0]) false,O.map L_1.2.2.2.1,O.map L_1.2.2.2.2.1,O.row 54 L_1.2.2.2.2.2.1 0,O.row 54 L_1.2.2.2.2.2.2 0]))
 (some (.head 1 (T3_1 x0 x5 0 L_1.2.1 L_1.2.2.1 L_1.2.2.2.1 L_1.2.2.2.2.1 L_1.2.2.2.2.2.1 L_1.2.2.2.2.2.2)))))
 (pcK cfgB 7 [] fun r =>
  kB r fun r7 =>
  some (.doneM (V.bool r7) [O.arena 66 m0,O.marena 63 m1,O.box 38 (V.agg [V.mp 4,V.mp 5]) false,O.box 28 (V.agg [V.tail 6 0,V.tail 7 0]) false,O.map m4,O.map m5,O.row 54 m6 0,O.row 54 m7 0])))
 (pcK cfgB 7 [] fun r_1 =>
  kB r_1 fun r7_1 =>
  some (.doneM (V.bool r7_1) [O.arena 66 m0,O.marena 63 m1,O.box 38 (V.agg [V.mp 4,V.mp 5]) false,O.box 28 (V.agg [V.tail 6 0,V.tail 7 0]) false,O.map m4,O.map m5,O.row 54 m6 0,O.row 54 m7 0]))
theorem s3_0_run (x0:List V) (x5:Int) (m0:List V) (m1:List (List (V × V))) (m4 m5:List (V × V)) (m6 m7:List V) {o o':Out} (h:s3_0 x0 x5 m0 m1 m4 m5 m6 m7=some o) (hg:Go kcB true 2 fa3 o o'):Go kcB true 2 fa3 (.head 0 (T3_0 x0 x5 m0 m1 m4 m5 m6 m7)) o':=.step (Eq.trans (by kernel_rfl) h) hg
noncomputable def s3_1 (x0:List V) (x5 x7:Int) (m0:List V) (m1:List (List (V × V))) (m4 m5:List (V × V)) (m6 m7:List V):R :=
 cond (decide (x7 < 5))
 (icM cfgB ⟨false,false⟩ mk6 6 [V.ptr 2 0 0,V.ptr 3 0 0,V.int .i64 x7,V.str [97]] [O.arena 66 m0,O.marena 63 m1,O.box 38 (V.agg [V.mp 4,V.mp 5]) false,O.box 28 (V.agg [V.tail 6 0,V.tail 7 0]) false,O.map m4,O.map m5,O.row 54 m6 0,O.row 54 m7 0] fun L =>
  cond (!L.1)
 (some (.doneM (V.bool false) [O.arena 66 L.2.1,O.marena 63 L.2.2.1,O.box 38 (V.agg [V.mp 4,V.mp 5]) false,O.box 28 (V.agg [V.tail 6 0,V.tail 7 0]) false,O.map L.2.2.2.1,O.map L.2.2.2.2.1,O.row 54 L.2.2.2.2.2.1 0,O.row 54 L.2.2.2.2.2.2 0]))
 (some (.head 1 (T3_1 x0 x5 (W .i64 (x7+1)) L.2.1 L.2.2.1 L.2.2.2.1 L.2.2.2.2.1 L.2.2.2.2.2.1 L.2.2.2.2.2.2))))
 (some (.head 0 (T3_0 x0 (W .i64 (x5+1)) m0 m1 m4 m5 m6 m7)))
theorem s3_1_run (x0:List V) (x5 x7:Int) (m0:List V) (m1:List (List (V × V))) (m4 m5:List (V × V)) (m6 m7:List V) {o o':Out} (h:s3_1 x0 x5 x7 m0 m1 m4 m5 m6 m7=some o) (hg:Go kcB true 2 fa3 o o'):Go kcB true 2 fa3 (.head 1 (T3_1 x0 x5 x7 m0 m1 m4 m5 m6 m7)) o':=.step (Eq.trans (by kernel_rfl) h) hg
noncomputable def fa8:FA:=(fnA cfgB.P (cfgB.rxf 8) 8).getD faN
theorem fa8_eq:fnA cfgB.P (cfgB.rxf 8) 8=some fa8:=fa_of (by kernel_rfl)
noncomputable def e8 (x1:Int) (x2:List UInt8) (x3:Int) (m0:List V) (m1:List (List (V × V))) (m3 m4:List (V × V)):R :=
 cond (decide (x1 < 0))
 (some (.doneM (V.int .i64 1) (tm m0 m1 m3 m4)))
 (cond (decide (x3<=0))
 (some (.doneM (V.int .i64 1) (tm m0 m1 m3 m4)))
 (cond (decide (x3 ≥ 7))
 (some (.doneM (V.int .i64 1) (tm m0 m1 m3 m4)))
 (mfK m4 (V.int .i64 x1)
 (icM cfgB ⟨true,false⟩ mk27 27 [V.ptr 2 0 0,V.str x2] (tm m0 m1 m3 m4) fun L =>
  idxK L.2.1 L.1 fun v =>
  d66 v fun held queue =>
  idxK L.2.2.1 held fun mm =>
  mfK mm (V.int .i64 x1)
 (pcK cfgB 28 [V.int .i64 0,V.int .i64 x3] fun r_2 =>
  d67 r_2 fun r28_0 r28_1 =>
  opt (canX L.2.1 L.2.2.1 L.1 x1 r28_0) fun b =>
  cond b
 (idxK L.2.1 L.1 fun v_1 =>
  d66 v_1 fun held_1 queue_1 =>
  cond ((queue_1.length:Int)==(0:Int))
 (idxK L.2.1 L.1 fun v_2 =>
  d66 v_2 fun held_2 queue_2 =>
  idxK L.2.2.1 held_2 fun mm_1 =>
  opt (mapPut mm_1 (V.int .i64 x1) (V.int .i64 r28_0)) fun es =>
  some (.doneM (V.int .i64 0) [O.arena 66 L.2.1,O.marena 63 ((L.2.2.1).set held_2 es),O.box 38 (V.agg [V.mp 3,V.mp 4]) false,O.map L.2.2.2.1,O.map L.2.2.2.2,O.box 70 (V.agg [V.int .i64 x1,V.int .i64 r28_0]) false]))
 (icM cfgB ⟨true,false⟩ mk30 30 [V.ptr 2 0 0,V.str x2,V.agg [V.int .i64 x1,V.int .i64 r28_0]] (tm L.2.1 L.2.2.1 L.2.2.2.1 L.2.2.2.2) fun L_1 =>
  some (.doneM (V.int .i64 L_1.1) [O.arena 66 L_1.2.1,O.marena 63 L_1.2.2.1,O.box 38 (V.agg [V.mp 3,V.mp 4]) false,O.map L_1.2.2.2.1,O.map L_1.2.2.2.2,O.box 70 (V.agg [V.int .i64 x1,V.int .i64 r28_0]) false])))
 (icM cfgB ⟨true,false⟩ mk30 30 [V.ptr 2 0 0,V.str x2,V.agg [V.int .i64 x1,V.int .i64 r28_0]] (tm L.2.1 L.2.2.1 L.2.2.2.1 L.2.2.2.2) fun L_2 =>
  some (.doneM (V.int .i64 L_2.1) [O.arena 66 L_2.2.1,O.marena 63 L_2.2.2.1,O.box 38 (V.agg [V.mp 3,V.mp 4]) false,O.map L_2.2.2.2.1,O.map L_2.2.2.2.2,O.box 70 (V.agg [V.int .i64 x1,V.int .i64 r28_0]) false]))) fun r_1 =>
  kI .i64 r_1 fun n =>
  pcK cfgB 28 [V.int .i64 n,V.int .i64 x3] fun r_3 =>
  d67 r_3 fun r28_0_1 r28_1_1 =>
  cond (r28_0_1==n)
 (some (.doneM (V.int .i64 0) [O.arena 66 L.2.1,O.marena 63 L.2.2.1,O.box 38 (V.agg [V.mp 3,V.mp 4]) false,O.map L.2.2.2.1,O.map L.2.2.2.2,O.box 70 (V.agg [V.int .i64 x1,V.int .i64 r28_0_1]) false]))
 (opt (canX L.2.1 L.2.2.1 L.1 x1 r28_0_1) fun b_1 =>
  cond b_1
 (idxK L.2.1 L.1 fun v_3 =>
  d66 v_3 fun held_3 queue_3 =>
  idxK L.2.2.1 held_3 fun mm_2 =>
  opt (mapPut mm_2 (V.int .i64 x1) (V.int .i64 r28_0_1)) fun es_1 =>
  some (.doneM (V.int .i64 0) [O.arena 66 L.2.1,O.marena 63 ((L.2.2.1).set held_3 es_1),O.box 38 (V.agg [V.mp 3,V.mp 4]) false,O.map L.2.2.2.1,O.map L.2.2.2.2,O.box 70 (V.agg [V.int .i64 x1,V.int .i64 r28_0_1]) false]))
 (icM cfgB ⟨true,false⟩ mk30 30 [V.ptr 2 0 0,V.str x2,V.agg [V.int .i64 x1,V.int .i64 r28_0_1]] (tm L.2.1 L.2.2.1 L.2.2.2.1 L.2.2.2.2) fun L_3 =>
  some (.doneM (V.int .i64 L_3.1) [O.arena 66 L_3.2.1,O.marena 63 L_3.2.2.1,O.box 38 (V.agg [V.mp 3,V.mp 4]) false,O.map L_3.2.2.2.1,O.map L_3.2.2.2.2,O.box 70 (V.agg [V.int .i64 x1,V.int .i64 r28_0_1]) false])))) fun r =>
  kS r fun s =>
  some (.doneM (V.int .i64 9) (tm m0 m1 m3 m4)))))
theorem e8_eq (x1:Int) (x2:List UInt8) (x3:Int) (m0:List V) (m1:List (List (V × V))) (m3 m4:List (V × V)):enterK kcB true fa8 [V.ptr 2 0 0,V.int .i64 x1,V.str x2,V.int .i64 x3] (tm m0 m1 m3 m4)=e8 x1 x2 x3 m0 m1 m3 m4:=by kernel_rfl
theorem e8_run (x1:Int) (x2:List UInt8) (x3:Int) (m0:List V) (m1:List (List (V × V))) (m3 m4:List (V × V)) {o:Out} {r:V × List O} (h:e8 x1 x2 x3 m0 m1 m3 m4=some o) (hg:GoN kcB 5 fa8 ⟨true,false⟩ (tm m0 m1 m3 m4) o r):icC cfgB ⟨true,false⟩ 8 [V.ptr 2 0 0,V.int .i64 x1,V.str x2,V.int .i64 x3] (tm m0 m1 m3 m4)=some r:=icC_go ikB rfl fa8_eq ((e8_eq ..).trans h) hg
noncomputable def fa17:FA:=(fnA cfgB.P (cfgB.rxf 17) 17).getD faN
theorem fa17_eq:fnA cfgB.P (cfgB.rxf 17) 17=some fa17:=fa_of (by kernel_rfl)
noncomputable def e17 (x1:Int) (m0:List V) (m1:List (List (V × V))) (m3 m4:List (V × V)):R :=
 mfK m4 (V.int .i64 x1)
 (some (.doneM (V.tup [V.agg [V.str [],V.int .i64 0],V.bool false]) [O.arena 66 m0,O.marena 63 m1,O.box 38 (V.agg [V.mp 3,V.mp 4]) false,O.map m3,O.map m4,O.box 3 (V.int .i64 x1) false,O.box 50 (V.agg [V.str [],V.int .i64 0]) false])) fun r =>
  kS r fun s =>
  mfK m3 (V.str s)
 (none) fun r_1 =>
  kP 66 r_1 fun p =>
  idxK m0 p fun v =>
  d66 v fun held queue =>
  pcK cfgB 46 [V.sl queue,V.fn 47 [V.ref (V.int .i64 x1) 0]] fun r_2 =>
  kI .i64 r_2 fun r46 =>
  gd (decide (0<=r46)) <|
  idxK queue r46.toNat fun v_1 =>
  d70 v_1 fun owner mode =>
  some (.doneM (V.tup [V.agg [V.str s,V.int .i64 mode],V.bool true]) [O.arena 66 m0,O.marena 63 m1,O.box 38 (V.agg [V.mp 3,V.mp 4]) false,O.map m3,O.map m4,O.box 3 (V.int .i64 x1) false,O.box 50 (V.agg [V.str s,V.int .i64 mode]) false])
theorem e17_eq (x1:Int) (m0:List V) (m1:List (List (V × V))) (m3 m4:List (V × V)):enterK kcB true fa17 [V.ptr 2 0 0,V.int .i64 x1] (tm m0 m1 m3 m4)=e17 x1 m0 m1 m3 m4:=by kernel_rfl
theorem e17_run (x1:Int) (m0:List V) (m1:List (List (V × V))) (m3 m4:List (V × V)) {o:Out} {r:V × List O} (h:e17 x1 m0 m1 m3 m4=some o) (hg:GoN kcB 5 fa17 ⟨true,false⟩ (tm m0 m1 m3 m4) o r):icC cfgB ⟨true,false⟩ 17 [V.ptr 2 0 0,V.int .i64 x1] (tm m0 m1 m3 m4)=some r:=icC_go ikB rfl fa17_eq ((e17_eq ..).trans h) hg
noncomputable def fa10:FA:=(fnA cfgB.P (cfgB.rxf 10) 10).getD faN
theorem fa10_eq:fnA cfgB.P (cfgB.rxf 10) 10=some fa10:=fa_of (by kernel_rfl)
noncomputable def e10 (x1:Int) (x2:List UInt8) (m0:List V) (m1:List (List (V × V))) (m3 m4:List (V × V)):R :=
 icM cfgB ⟨true,false⟩ mk19 19 [V.ptr 2 0 0,V.int .i64 x1,V.str x2] (tm m0 m1 m3 m4) fun L =>
 cond (L.1==(0:Int))
 (some (.doneM (V.tup [V.own 6,V.int .i64 7]) [O.arena 66 L.2.1,O.marena 63 L.2.2.1,O.box 38 (V.agg [V.mp 3,V.mp 4]) false,O.map L.2.2.2.1,O.map L.2.2.2.2,O.row 3 [] 0,O.row 3 [] 0]))
 (mfK L.2.2.2.2 (V.int .i64 x1)
 (icM cfgB ⟨true,false⟩ mk27 27 [V.ptr 2 0 0,V.str x2] (tm L.2.1 L.2.2.1 L.2.2.2.1 L.2.2.2.2) fun L_1 =>
  idxK L_1.2.1 L_1.1 fun v =>
  d66 v fun held queue =>
  idxK L_1.2.2.1 held fun mm =>
  opt (mapDel mm (V.int .i64 x1)) fun es =>
  icM cfgB ⟨true,false⟩ mk37 37 [V.ptr 2 0 0,V.str x2] (tm L_1.2.1 (((L_1.2.2.1).set held es)) L_1.2.2.2.1 L_1.2.2.2.2) fun L_2 =>
  some (.doneM (V.tup [V.own 6,V.int .i64 0]) [O.arena 66 L_2.1,O.marena 63 L_2.2.1,O.box 38 (V.agg [V.mp 3,V.mp 4]) false,O.map L_2.2.2.1,O.map L_2.2.2.2.1,O.row 3 [] 0,O.row 3 L_2.2.2.2.2 0])) fun r =>
  kS r fun s =>
  cond (s==x2)
 (some (.doneM (V.tup [V.own 6,V.int .i64 9]) [O.arena 66 L.2.1,O.marena 63 L.2.2.1,O.box 38 (V.agg [V.mp 3,V.mp 4]) false,O.map L.2.2.2.1,O.map L.2.2.2.2,O.row 3 [] 0,O.row 3 [] 0]))
 (icM cfgB ⟨true,false⟩ mk27 27 [V.ptr 2 0 0,V.str x2] (tm L.2.1 L.2.2.1 L.2.2.2.1 L.2.2.2.2) fun L_3 =>
  idxK L_3.2.1 L_3.1 fun v_1 =>
  d66 v_1 fun held_1 queue_1 =>
  idxK L_3.2.2.1 held_1 fun mm_1 =>
  opt (mapDel mm_1 (V.int .i64 x1)) fun es_1 =>
  icM cfgB ⟨true,false⟩ mk37 37 [V.ptr 2 0 0,V.str x2] (tm L_3.2.1 (((L_3.2.2.1).set held_1 es_1)) L_3.2.2.2.1 L_3.2.2.2.2) fun L_4 =>
  some (.doneM (V.tup [V.own 6,V.int .i64 0]) [O.arena 66 L_4.1,O.marena 63 L_4.2.1,O.box 38 (V.agg [V.mp 3,V.mp 4]) false,O.map L_4.2.2.1,O.map L_4.2.2.2.1,O.row 3 [] 0,O.row 3 L_4.2.2.2.2 0])))
theorem e10_eq (x1:Int) (x2:List UInt8) (m0:List V) (m1:List (List (V × V))) (m3 m4:List (V × V)):enterK kcB true fa10 [V.ptr 2 0 0,V.int .i64 x1,V.str x2] (tm m0 m1 m3 m4)=e10 x1 x2 m0 m1 m3 m4:=by kernel_rfl
theorem e10_run (x1:Int) (x2:List UInt8) (m0:List V) (m1:List (List (V × V))) (m3 m4:List (V × V)) {o:Out} {r:V × List O} (h:e10 x1 x2 m0 m1 m3 m4=some o) (hg:GoN kcB 5 fa10 ⟨true,false⟩ (tm m0 m1 m3 m4) o r):icC cfgB ⟨true,false⟩ 10 [V.ptr 2 0 0,V.int .i64 x1,V.str x2] (tm m0 m1 m3 m4)=some r:=icC_go ikB rfl fa10_eq ((e10_eq ..).trans h) hg
noncomputable def fa13:FA:=(fnA cfgB.P (cfgB.rxf 13) 13).getD faN
theorem fa13_eq:fnA cfgB.P (cfgB.rxf 13) 13=some fa13:=fa_of (by kernel_rfl)
def T13_0 (x19 x20:Int) (m0:List V) (m1:List (List (V × V))) (m3 m4:List (V × V)) (m5:Int) (m8:List V):S:=⟨[V.ptr 2 0 0,V.junk,V.junk,V.ptr 5 0 0,V.own 6,V.own 7]++(JU 12)++[V.own 8,V.int .i64 x19,V.int .i64 x20]++(JU 69),[O.arena 66 m0,O.marena 63 m1,O.box 38 (V.agg [V.mp 3,V.mp 4]) false,O.map m3,O.map m4,O.box 3 (V.int .i64 m5) false,O.row 3 [] 0,O.row 3 [] 0,O.row 9 m8 0]⟩
def T13_1 (x78 x79:Int) (m0:List V) (m1:List (List (V × V))) (m3 m4:List (V × V)) (m6 m7:List V):S:=⟨[V.ptr 2 0 0,V.junk,V.junk,V.junk,V.own 5,V.own 6]++(JU 71)++[V.own 7,V.int .i64 x78,V.int .i64 x79]++(JU 10),[O.arena 66 m0,O.marena 63 m1,O.box 38 (V.agg [V.mp 3,V.mp 4]) false,O.map m3,O.map m4,O.row 3 [] 0,O.row 3 m6 0,O.row 9 m7 0]⟩
noncomputable def e13 (x1:Int) (m0:List V) (m1:List (List (V × V))) (m3 m4:List (V × V)):R :=
 opt (keyStrs m3) fun ks =>
 gd (decide (ks.length<=4194304)) <|
 some (.head 0 (T13_0 (((srtS ks).map sV).length:Int) 0 m0 m1 m3 m4 x1 ((srtS ks).map sV)))
theorem e13_eq (x1:Int) (m0:List V) (m1:List (List (V × V))) (m3 m4:List (V × V)):enterK kcB true fa13 [V.ptr 2 0 0,V.int .i64 x1] (tm m0 m1 m3 m4)=e13 x1 m0 m1 m3 m4:=by kernel_rfl
theorem e13_run (x1:Int) (m0:List V) (m1:List (List (V × V))) (m3 m4:List (V × V)) {o:Out} {r:V × List O} (h:e13 x1 m0 m1 m3 m4=some o) (hg:GoN kcB 5 fa13 ⟨true,false⟩ (tm m0 m1 m3 m4) o r):icC cfgB ⟨true,false⟩ 13 [V.ptr 2 0 0,V.int .i64 x1] (tm m0 m1 m3 m4)=some r:=icC_go ikB rfl fa13_eq ((e13_eq ..).trans h) hg
noncomputable def s13_0 (x19 x20:Int) (m0:List V) (m1:List (List (V × V))) (m3 m4:List (V × V)) (m5:Int) (m8:List V):R :=
 cond (decide (x20 < x19))
 (gd (decide (0<=x20)) <|
  gd (decide (x20.toNat < m8.length)) <|
  idxK m8 x20.toNat fun v =>
  kS v fun s =>
  mfK m3 (V.str s)
 (none) fun r =>
  kP 66 r fun p =>
  idxK m0 p fun v_1 =>
  d66 v_1 fun held queue =>
  idxK m1 held fun mm =>
  mfK mm (V.int .i64 m5)
 (mfK m4 (V.int .i64 m5)
 (cond (!(([]:List UInt8)==s))
 (some (.head 0 (T13_0 x19 (W .i64 (x20+1)) m0 m1 m3 m4 m5 m8)))
 (idxK m0 p fun v_2 =>
  d66 v_2 fun held_1 queue_1 =>
  idxK m1 held_1 fun mm_1 =>
  opt (mapDel mm_1 (V.int .i64 m5)) fun es =>
  idxK m0 p fun v_3 =>
  d66 v_3 fun held_2 queue_2 =>
  pcK cfgB 43 [V.sl queue_2] fun r_3 =>
  kF 70 r_3 fun r43 =>
  icM cfgB ⟨true,true⟩ mk42 42 [V.own 2,V.fn 44 [V.ptr 3 0 0]] [O.arena 66 m0,O.marena 63 ((m1).set held_1 es),O.row 70 r43 0,O.box 3 (V.int .i64 m5) false] fun L =>
  gd (decide (0+L.1<=L.2.2.2.1.length)) <|
  idxK L.2.1 p fun v_4 =>
  d66 v_4 fun held_3 queue_3 =>
  some (.head 0 (T13_0 x19 (W .i64 (x20+1)) ((L.2.1).set p (V.agg [V.hm 63 held_3,V.sl (((L.2.2.2.1).drop 0).take L.1)])) L.2.2.1 m3 m4 L.2.2.2.2 m8)))) fun r_2 =>
  kS r_2 fun s_1 =>
  cond (!(s_1==s))
 (some (.head 0 (T13_0 x19 (W .i64 (x20+1)) m0 m1 m3 m4 m5 m8)))
 (idxK m0 p fun v_5 =>
  d66 v_5 fun held_4 queue_4 =>
  idxK m1 held_4 fun mm_2 =>
  opt (mapDel mm_2 (V.int .i64 m5)) fun es_1 =>
  idxK m0 p fun v_6 =>
  d66 v_6 fun held_5 queue_5 =>
  pcK cfgB 43 [V.sl queue_5] fun r_4 =>
  kF 70 r_4 fun r43_1 =>
  icM cfgB ⟨true,true⟩ mk42 42 [V.own 2,V.fn 44 [V.ptr 3 0 0]] [O.arena 66 m0,O.marena 63 ((m1).set held_4 es_1),O.row 70 r43_1 0,O.box 3 (V.int .i64 m5) false] fun L_1 =>
  gd (decide (0+L_1.1<=L_1.2.2.2.1.length)) <|
  idxK L_1.2.1 p fun v_7 =>
  d66 v_7 fun held_6 queue_6 =>
  some (.head 0 (T13_0 x19 (W .i64 (x20+1)) ((L_1.2.1).set p (V.agg [V.hm 63 held_6,V.sl (((L_1.2.2.2.1).drop 0).take L_1.1)])) L_1.2.2.1 m3 m4 L_1.2.2.2.2 m8)))) fun r_1 =>
  kI .i64 r_1 fun n =>
  idxK m0 p fun v_8 =>
  d66 v_8 fun held_7 queue_7 =>
  idxK m1 held_7 fun mm_3 =>
  opt (mapDel mm_3 (V.int .i64 m5)) fun es_2 =>
  idxK m0 p fun v_9 =>
  d66 v_9 fun held_8 queue_8 =>
  pcK cfgB 43 [V.sl queue_8] fun r_5 =>
  kF 70 r_5 fun r43_2 =>
  icM cfgB ⟨true,true⟩ mk42 42 [V.own 2,V.fn 44 [V.ptr 3 0 0]] [O.arena 66 m0,O.marena 63 ((m1).set held_7 es_2),O.row 70 r43_2 0,O.box 3 (V.int .i64 m5) false] fun L_2 =>
  gd (decide (0+L_2.1<=L_2.2.2.2.1.length)) <|
  idxK L_2.2.1 p fun v_10 =>
  d66 v_10 fun held_9 queue_9 =>
  some (.head 0 (T13_0 x19 (W .i64 (x20+1)) ((L_2.2.1).set p (V.agg [V.hm 63 held_9,V.sl (((L_2.2.2.2.1).drop 0).take L_2.1)])) L_2.2.2.1 m3 m4 L_2.2.2.2.2 m8)))
 (opt (mapDel m4 (V.int .i64 m5)) fun es_3 =>
  opt (keyStrs m3) fun ks =>
  gd (decide (ks.length<=4194304)) <|
  some (.head 1 (T13_1 (((srtS ks).map sV).length:Int) 0 m0 m1 m3 es_3 [] ((srtS ks).map sV))))
theorem s13_0_run (x19 x20:Int) (m0:List V) (m1:List (List (V × V))) (m3 m4:List (V × V)) (m5:Int) (m8:List V) {o o':Out} (h:s13_0 x19 x20 m0 m1 m3 m4 m5 m8=some o) (hg:Go kcB true 5 fa13 o o'):Go kcB true 5 fa13 (.head 0 (T13_0 x19 x20 m0 m1 m3 m4 m5 m8)) o':=.step (Eq.trans (by kernel_rfl) h) hg
noncomputable def s13_1 (x78 x79:Int) (m0:List V) (m1:List (List (V × V))) (m3 m4:List (V × V)) (m6 m7:List V):R :=
 cond (decide (x79 < x78))
 (gd (decide (0<=x79)) <|
  gd (decide (x79.toNat < m7.length)) <|
  idxK m7 x79.toNat fun v =>
  kS v fun s =>
  icM cfgB ⟨true,false⟩ mk37 37 [V.ptr 2 0 0,V.str s] (tm m0 m1 m3 m4) fun L =>
  gd (wfl 1 L.2.2.2.2) <|
  gd (decide (m6.length+L.2.2.2.2.length<=16777216)) <|
  some (.head 1 (T13_1 x78 (W .i64 (x79+1)) L.1 L.2.1 L.2.2.1 L.2.2.2.1 (m6++L.2.2.2.2) m7)))
 (some (.doneM (V.own 6) [O.arena 66 m0,O.marena 63 m1,O.box 38 (V.agg [V.mp 3,V.mp 4]) false,O.map m3,O.map m4,O.row 3 [] 0,O.row 3 m6 0,O.row 9 m7 0]))
theorem s13_1_run (x78 x79:Int) (m0:List V) (m1:List (List (V × V))) (m3 m4:List (V × V)) (m6 m7:List V) {o o':Out} (h:s13_1 x78 x79 m0 m1 m3 m4 m6 m7=some o) (hg:Go kcB true 5 fa13 o o'):Go kcB true 5 fa13 (.head 1 (T13_1 x78 x79 m0 m1 m3 m4 m6 m7)) o':=.step (Eq.trans (by kernel_rfl) h) hg
noncomputable def fa19:FA:=(fnA cfgB.P (cfgB.rxf 19) 19).getD faN
theorem fa19_eq:fnA cfgB.P (cfgB.rxf 19) 19=some fa19:=fa_of (by kernel_rfl)
noncomputable def e19 (x1:Int) (x2:List UInt8) (m0:List V) (m1:List (List (V × V))) (m3 m4:List (V × V)):R :=
 mfK m3 (V.str x2)
 (some (.doneM (V.int .i64 0) (tm m0 m1 m3 m4))) fun r =>
  kP 66 r fun p =>
  mfK m3 (V.str x2)
 (none) fun r_1 =>
  kP 66 r_1 fun p_1 =>
  idxK m0 p_1 fun v =>
  d66 v fun held queue =>
  idxK m1 held fun mm =>
  mfK mm (V.int .i64 x1)
 (some (.doneM (V.int .i64 0) (tm m0 m1 m3 m4))) fun r_2 =>
  kI .i64 r_2 fun n =>
  some (.doneM (V.int .i64 n) (tm m0 m1 m3 m4))
theorem e19_eq (x1:Int) (x2:List UInt8) (m0:List V) (m1:List (List (V × V))) (m3 m4:List (V × V)):enterK kcB true fa19 [V.ptr 2 0 0,V.int .i64 x1,V.str x2] (tm m0 m1 m3 m4)=e19 x1 x2 m0 m1 m3 m4:=by kernel_rfl
theorem e19_run (x1:Int) (x2:List UInt8) (m0:List V) (m1:List (List (V × V))) (m3 m4:List (V × V)) {o:Out} {r:V × List O} (h:e19 x1 x2 m0 m1 m3 m4=some o) (hg:GoN kcB 5 fa19 ⟨true,false⟩ (tm m0 m1 m3 m4) o r):icC cfgB ⟨true,false⟩ 19 [V.ptr 2 0 0,V.int .i64 x1,V.str x2] (tm m0 m1 m3 m4)=some r:=icC_go ikB rfl fa19_eq ((e19_eq ..).trans h) hg
noncomputable def fa23:FA:=(fnA cfgB.P (cfgB.rxf 23) 23).getD faN
theorem fa23_eq:fnA cfgB.P (cfgB.rxf 23) 23=some fa23:=fa_of (by kernel_rfl)
noncomputable def e23 (x1:List UInt8) (m0:List V) (m1:List (List (V × V))) (m3 m4:List (V × V)):R :=
 mfK m3 (V.str x1)
 (some (.doneM (V.own 6) [O.arena 66 m0,O.marena 63 m1,O.box 38 (V.agg [V.mp 3,V.mp 4]) false,O.map m3,O.map m4,O.row 3 [] 0,O.row 3 [] 0])) fun r =>
  kP 66 r fun p =>
  mfK m3 (V.str x1)
 (none) fun r_1 =>
  kP 66 r_1 fun p_1 =>
  idxK m0 p_1 fun v =>
  d66 v fun held queue =>
  idxK m1 held fun mm =>
  opt (keyInts mm) fun ks =>
  gd (decide (ks.length<=16777216)) <|
  some (.doneM (V.own 7) [O.arena 66 m0,O.marena 63 m1,O.box 38 (V.agg [V.mp 3,V.mp 4]) false,O.map m3,O.map m4,O.row 3 [] 0,O.box 63 (V.hm 63 held) false,O.row 3 ((srt ks).map iV) 0])
theorem e23_eq (x1:List UInt8) (m0:List V) (m1:List (List (V × V))) (m3 m4:List (V × V)):enterK kcB true fa23 [V.ptr 2 0 0,V.str x1] (tm m0 m1 m3 m4)=e23 x1 m0 m1 m3 m4:=by kernel_rfl
theorem e23_run (x1:List UInt8) (m0:List V) (m1:List (List (V × V))) (m3 m4:List (V × V)) {o:Out} {r:V × List O} (h:e23 x1 m0 m1 m3 m4=some o) (hg:GoN kcB 5 fa23 ⟨true,false⟩ (tm m0 m1 m3 m4) o r):icC cfgB ⟨true,false⟩ 23 [V.ptr 2 0 0,V.str x1] (tm m0 m1 m3 m4)=some r:=icC_go ikB rfl fa23_eq ((e23_eq ..).trans h) hg
noncomputable def fa25:FA:=(fnA cfgB.P (cfgB.rxf 25) 25).getD faN
theorem fa25_eq:fnA cfgB.P (cfgB.rxf 25) 25=some fa25:=fa_of (by kernel_rfl)
def T25_0 (x23:List V) (x24 x25:Int) (m0:List V) (m1:List (List (V × V))) (m3 m4:List (V × V)) (m6:List V):S:=⟨(JU 4)++[V.own 5,V.own 6]++(JU 17)++[V.sl x23,V.int .i64 x24,V.int .i64 x25]++(JU 10),[O.arena 66 m0,O.marena 63 m1,O.box 38 (V.agg [V.mp 3,V.mp 4]) false,O.map m3,O.map m4,O.row 3 [] 0,O.row 3 m6 0]⟩
noncomputable def e25 (x1:List UInt8) (m0:List V) (m1:List (List (V × V))) (m3 m4:List (V × V)):R :=
 mfK m3 (V.str x1)
 (some (.doneM (V.own 6) [O.arena 66 m0,O.marena 63 m1,O.box 38 (V.agg [V.mp 3,V.mp 4]) false,O.map m3,O.map m4,O.row 3 [] 0,O.row 3 [] 0])) fun r =>
  kP 66 r fun p =>
  mfK m3 (V.str x1)
 (none) fun r_1 =>
  kP 66 r_1 fun p_1 =>
  idxK m0 p_1 fun v =>
  d66 v fun held queue =>
  some (.head 0 (T25_0 queue (queue.length:Int) 0 m0 m1 m3 m4 []))
theorem e25_eq (x1:List UInt8) (m0:List V) (m1:List (List (V × V))) (m3 m4:List (V × V)):enterK kcB true fa25 [V.ptr 2 0 0,V.str x1] (tm m0 m1 m3 m4)=e25 x1 m0 m1 m3 m4:=by kernel_rfl
theorem e25_run (x1:List UInt8) (m0:List V) (m1:List (List (V × V))) (m3 m4:List (V × V)) {o:Out} {r:V × List O} (h:e25 x1 m0 m1 m3 m4=some o) (hg:GoN kcB 5 fa25 ⟨true,false⟩ (tm m0 m1 m3 m4) o r):icC cfgB ⟨true,false⟩ 25 [V.ptr 2 0 0,V.str x1] (tm m0 m1 m3 m4)=some r:=icC_go ikB rfl fa25_eq ((e25_eq ..).trans h) hg
noncomputable def s25_0 (x23:List V) (x24 x25:Int) (m0:List V) (m1:List (List (V × V))) (m3 m4:List (V × V)) (m6:List V):R :=
 cond (decide (x25 < x24))
 (gd (decide (0<=x25)) <|
  idxK x23 x25.toNat fun v =>
  d70 v fun owner mode =>
  gd (decide (m6.length+([V.int .i64 owner]:List V).length<=16777216)) <|
  some (.head 0 (T25_0 x23 x24 (W .i64 (x25+1)) m0 m1 m3 m4 (m6++[V.int .i64 owner]))))
 (some (.doneM (V.own 6) [O.arena 66 m0,O.marena 63 m1,O.box 38 (V.agg [V.mp 3,V.mp 4]) false,O.map m3,O.map m4,O.row 3 [] 0,O.row 3 m6 0]))
theorem s25_0_run (x23:List V) (x24 x25:Int) (m0:List V) (m1:List (List (V × V))) (m3 m4:List (V × V)) (m6:List V) {o o':Out} (h:s25_0 x23 x24 x25 m0 m1 m3 m4 m6=some o) (hg:Go kcB true 5 fa25 o o'):Go kcB true 5 fa25 (.head 0 (T25_0 x23 x24 x25 m0 m1 m3 m4 m6)) o':=.step (Eq.trans (by kernel_rfl) h) hg
noncomputable def fa15:FA:=(fnA cfgB.P (cfgB.rxf 15) 15).getD faN
theorem fa15_eq:fnA cfgB.P (cfgB.rxf 15) 15=some fa15:=fa_of (by kernel_rfl)
def T15_0 (x1 x16 x17:Int) (m0:List V) (m1:List (List (V × V))) (m3 m4:List (V × V)) (m6 m7:List V):S:=⟨[V.ptr 2 0 0,V.int .i64 x1,V.junk,V.junk,V.own 5,V.own 6]++(JU 9)++[V.own 7,V.int .i64 x16,V.int .i64 x17]++(JU 26),[O.arena 66 m0,O.marena 63 m1,O.box 38 (V.agg [V.mp 3,V.mp 4]) false,O.map m3,O.map m4,O.row 50 [] 0,O.row 50 m6 0,O.row 9 m7 0]⟩
noncomputable def e15 (x1:Int) (m0:List V) (m1:List (List (V × V))) (m3 m4:List (V × V)):R :=
 opt (keyStrs m3) fun ks =>
 gd (decide (ks.length<=4194304)) <|
 some (.head 0 (T15_0 x1 (((srtS ks).map sV).length:Int) 0 m0 m1 m3 m4 [] ((srtS ks).map sV)))
theorem e15_eq (x1:Int) (m0:List V) (m1:List (List (V × V))) (m3 m4:List (V × V)):enterK kcB true fa15 [V.ptr 2 0 0,V.int .i64 x1] (tm m0 m1 m3 m4)=e15 x1 m0 m1 m3 m4:=by kernel_rfl
theorem e15_run (x1:Int) (m0:List V) (m1:List (List (V × V))) (m3 m4:List (V × V)) {o:Out} {r:V × List O} (h:e15 x1 m0 m1 m3 m4=some o) (hg:GoN kcB 5 fa15 ⟨true,false⟩ (tm m0 m1 m3 m4) o r):icC cfgB ⟨true,false⟩ 15 [V.ptr 2 0 0,V.int .i64 x1] (tm m0 m1 m3 m4)=some r:=icC_go ikB rfl fa15_eq ((e15_eq ..).trans h) hg
noncomputable def s15_0 (x1 x16 x17:Int) (m0:List V) (m1:List (List (V × V))) (m3 m4:List (V × V)) (m6 m7:List V):R :=
 cond (decide (x17 < x16))
 (gd (decide (0<=x17)) <|
  gd (decide (x17.toNat < m7.length)) <|
  idxK m7 x17.toNat fun v =>
  kS v fun s =>
  mfK m3 (V.str s)
 (none) fun r =>
  kP 66 r fun p =>
  idxK m0 p fun v_1 =>
  d66 v_1 fun held queue =>
  idxK m1 held fun mm =>
  mfK mm (V.int .i64 x1)
 (some (.head 0 (T15_0 x1 x16 (W .i64 (x17+1)) m0 m1 m3 m4 m6 m7))) fun r_1 =>
  kI .i64 r_1 fun n =>
  gd (decide (m6.length+([V.agg [V.str s,V.int .i64 n]]:List V).length<=16777216)) <|
  some (.head 0 (T15_0 x1 x16 (W .i64 (x17+1)) m0 m1 m3 m4 (m6++[V.agg [V.str s,V.int .i64 n]]) m7)))
 (some (.doneM (V.own 6) [O.arena 66 m0,O.marena 63 m1,O.box 38 (V.agg [V.mp 3,V.mp 4]) false,O.map m3,O.map m4,O.row 50 [] 0,O.row 50 m6 0,O.row 9 m7 0]))
theorem s15_0_run (x1 x16 x17:Int) (m0:List V) (m1:List (List (V × V))) (m3 m4:List (V × V)) (m6 m7:List V) {o o':Out} (h:s15_0 x1 x16 x17 m0 m1 m3 m4 m6 m7=some o) (hg:Go kcB true 5 fa15 o o'):Go kcB true 5 fa15 (.head 0 (T15_0 x1 x16 x17 m0 m1 m3 m4 m6 m7)) o':=.step (Eq.trans (by kernel_rfl) h) hg
noncomputable def fa52:FA:=(fnA cfgB.P (cfgB.rxf 52) 52).getD faN
theorem fa52_eq:fnA cfgB.P (cfgB.rxf 52) 52=some fa52:=fa_of (by kernel_rfl)
def T52_0 (x1 x6:Int) (m0 m2:List V):S:=⟨[V.own 0,V.int .i64 x1,V.junk,V.junk,V.own 1,V.own 2,V.int .i64 x6]++(JU 45),[O.row 3 m0 0,O.row 3 [] 0,O.row 3 m2 0]⟩
noncomputable def e52 (x1:Int) (m0:List V):R :=
 some (.head 0 (T52_0 x1 0 m0 []))
theorem e52_eq (x1:Int) (m0:List V):enterK kcB true fa52 [V.own 0,V.int .i64 x1] [O.row 3 m0 0]=e52 x1 m0:=by kernel_rfl
theorem e52_run (x1:Int) (m0:List V) {o:Out} {r:V × List O} (h:e52 x1 m0=some o) (hg:GoN kcB 1 fa52 ⟨false,false⟩ [O.row 3 m0 0] o r):icC cfgB ⟨false,false⟩ 52 [V.own 0,V.int .i64 x1] [O.row 3 m0 0]=some r:=icC_go ikB rfl fa52_eq ((e52_eq ..).trans h) hg
noncomputable def s52_0 (x1 x6:Int) (m0 m2:List V):R :=
 cond (decide (x6 < (m0.length:Int)))
 (gd (decide (0<=x6)) <|
  gd (decide (x6.toNat < m0.length)) <|
  idxK m0 x6.toNat fun v =>
  kI .i64 v fun n =>
  cond (decide (n < x1))
 (gd (decide (0<=x6)) <|
  gd (decide (x6.toNat < m0.length)) <|
  idxK m0 x6.toNat fun v_1 =>
  kI .i64 v_1 fun n_1 =>
  gd (decide (m2.length+([V.int .i64 n_1]:List V).length<=16777216)) <|
  some (.head 0 (T52_0 x1 (W .i64 (x6+1)) m0 (m2++[V.int .i64 n_1]))))
 (cond (decide (x6 < (m0.length:Int)))
 (gd (decide (0<=x6)) <|
  gd (decide (x6.toNat < m0.length)) <|
  idxK m0 x6.toNat fun v_2 =>
  kI .i64 v_2 fun n_2 =>
  cond (n_2==x1)
 (some (.doneM (V.own 0) [O.row 3 m0 0,O.row 3 [] 0,O.row 3 m2 0]))
 (gd (decide (m2.length+([V.int .i64 x1]:List V).length<=16777216)) <|
  gd (wfl 1 m0) <|
  gd (decide (0<=x6)) <|
  gd (decide (x6.toNat<=m0.length)) <|
  gd (wfl 1 (m0.drop x6.toNat)) <|
  gd (decide ((m2++[V.int .i64 x1]).length+(m0.drop x6.toNat).length<=16777216)) <|
  some (.doneM (V.own 5) [O.row 3 m0 0,O.row 3 [] 0,O.dead,O.row 3 [V.int .i64 x1] 0,O.dead,O.row 3 ((m2++[V.int .i64 x1])++(m0.drop x6.toNat)) 0])))
 (gd (decide (m2.length+([V.int .i64 x1]:List V).length<=16777216)) <|
  gd (wfl 1 m0) <|
  gd (decide (0<=x6)) <|
  gd (decide (x6.toNat<=m0.length)) <|
  gd (wfl 1 (m0.drop x6.toNat)) <|
  gd (decide ((m2++[V.int .i64 x1]).length+(m0.drop x6.toNat).length<=16777216)) <|
  some (.doneM (V.own 5) [O.row 3 m0 0,O.row 3 [] 0,O.dead,O.row 3 [V.int .i64 x1] 0,O.dead,O.row 3 ((m2++[V.int .i64 x1])++(m0.drop x6.toNat)) 0]))))
 (cond (decide (x6 < (m0.length:Int)))
 (gd (decide (0<=x6)) <|
  gd (decide (x6.toNat < m0.length)) <|
  idxK m0 x6.toNat fun v_3 =>
  kI .i64 v_3 fun n_3 =>
  cond (n_3==x1)
 (some (.doneM (V.own 0) [O.row 3 m0 0,O.row 3 [] 0,O.row 3 m2 0]))
 (gd (decide (m2.length+([V.int .i64 x1]:List V).length<=16777216)) <|
  gd (wfl 1 m0) <|
  gd (decide (0<=x6)) <|
  gd (decide (x6.toNat<=m0.length)) <|
  gd (wfl 1 (m0.drop x6.toNat)) <|
  gd (decide ((m2++[V.int .i64 x1]).length+(m0.drop x6.toNat).length<=16777216)) <|
  some (.doneM (V.own 5) [O.row 3 m0 0,O.row 3 [] 0,O.dead,O.row 3 [V.int .i64 x1] 0,O.dead,O.row 3 ((m2++[V.int .i64 x1])++(m0.drop x6.toNat)) 0])))
 (gd (decide (m2.length+([V.int .i64 x1]:List V).length<=16777216)) <|
  gd (wfl 1 m0) <|
  gd (decide (0<=x6)) <|
  gd (decide (x6.toNat<=m0.length)) <|
  gd (wfl 1 (m0.drop x6.toNat)) <|
  gd (decide ((m2++[V.int .i64 x1]).length+(m0.drop x6.toNat).length<=16777216)) <|
  some (.doneM (V.own 5) [O.row 3 m0 0,O.row 3 [] 0,O.dead,O.row 3 [V.int .i64 x1] 0,O.dead,O.row 3 ((m2++[V.int .i64 x1])++(m0.drop x6.toNat)) 0])))
theorem s52_0_run (x1 x6:Int) (m0 m2:List V) {o o':Out} (h:s52_0 x1 x6 m0 m2=some o) (hg:Go kcB true 1 fa52 o o'):Go kcB true 1 fa52 (.head 0 (T52_0 x1 x6 m0 m2)) o':=.step (Eq.trans (by kernel_rfl) h) hg
noncomputable def fa5:FA:=(fnA cfgB.P (cfgB.rxf 5) 5).getD faN
theorem fa5_eq:fnA cfgB.P (cfgB.rxf 5) 5=some fa5:=fa_of (by kernel_rfl)
noncomputable def e5 (x2_0 x2_1:Int) (x2_2:List UInt8) (x2_3:Int) (m0:List V) (m1:List (List (V × V))) (m4 m5:List (V × V)) (m6 m7:List V):R :=
 gd (decide (0<=(if 20 < (x2_2.length:Int) then 20 else (x2_2.length:Int)))) <|
 gd (decide ((if 20 < (x2_2.length:Int) then 20 else (x2_2.length:Int)).toNat<=x2_2.length)) <|
 cond (x2_0==(0:Int))
 (icM cfgB ⟨true,false⟩ mk8 8 [V.ptr 2 0 0,V.int .i64 x2_1,V.str (x2_2.take ((if 20 < (x2_2.length:Int) then 20 else (x2_2.length:Int)).toNat)),V.int .i64 x2_3] (tm m0 m1 m4 m5) fun L =>
  icM cfgB ⟨false,false⟩ mk9 9 [V.ptr 2 0 0,V.int .i64 x2_1,V.str (x2_2.take ((if 20 < (x2_2.length:Int) then 20 else (x2_2.length:Int)).toNat)),V.int .i64 x2_3] [O.arena 66 L.2.1,O.marena 63 L.2.2.1,O.box 28 (V.agg [V.tail 3 0,V.tail 4 0]) false,O.row 54 m6 0,O.row 54 m7 0] fun L_1 =>
  some (.doneM (V.bool (L.1==L_1.1)) [O.arena 66 L_1.2.1,O.marena 63 L_1.2.2.1,O.box 38 (V.agg [V.mp 4,V.mp 5]) false,O.box 28 (V.agg [V.tail 9 0,V.tail 10 0]) false,O.map L.2.2.2.1,O.map L.2.2.2.2,O.dead,O.dead,O.box 30 (V.agg [V.int .i64 x2_0,V.int .i64 x2_1,V.str x2_2,V.int .i64 x2_3]) false,O.row 54 L_1.2.2.2.1 0,O.row 54 L_1.2.2.2.2 0]))
 (cond (x2_0==(1:Int))
 (icM cfgB ⟨true,false⟩ mk10 10 [V.ptr 2 0 0,V.int .i64 x2_1,V.str (x2_2.take ((if 20 < (x2_2.length:Int) then 20 else (x2_2.length:Int)).toNat))] (tm m0 m1 m4 m5) fun L_2 =>
  icM cfgB ⟨false,false⟩ mk11 11 [V.ptr 2 0 0,V.int .i64 x2_1,V.str (x2_2.take ((if 20 < (x2_2.length:Int) then 20 else (x2_2.length:Int)).toNat))] [O.arena 66 L_2.2.1,O.marena 63 L_2.2.2.1,O.box 28 (V.agg [V.tail 3 0,V.tail 4 0]) false,O.row 54 m6 0,O.row 54 m7 0] fun L_3 =>
  pcK cfgB 12 [V.sl L_2.2.2.2.2.2,V.sl L_3.2.2.2.1] fun r =>
  kB r fun r12 =>
  cond r12
 (some (.doneM (V.bool (L_2.1==L_3.1)) [O.arena 66 L_3.2.1,O.marena 63 L_3.2.2.1,O.box 38 (V.agg [V.mp 4,V.mp 5]) false,O.box 28 (V.agg [V.tail 11 0,V.tail 12 0]) false,O.map L_2.2.2.2.1,O.map L_2.2.2.2.2.1,O.dead,O.dead,O.box 30 (V.agg [V.int .i64 x2_0,V.int .i64 x2_1,V.str x2_2,V.int .i64 x2_3]) false,O.row 3 L_2.2.2.2.2.2 0,O.row 3 L_3.2.2.2.1 0,O.row 54 L_3.2.2.2.2.1 0,O.row 54 L_3.2.2.2.2.2 0]))
 (some (.doneM (V.bool false) [O.arena 66 L_3.2.1,O.marena 63 L_3.2.2.1,O.box 38 (V.agg [V.mp 4,V.mp 5]) false,O.box 28 (V.agg [V.tail 11 0,V.tail 12 0]) false,O.map L_2.2.2.2.1,O.map L_2.2.2.2.2.1,O.dead,O.dead,O.box 30 (V.agg [V.int .i64 x2_0,V.int .i64 x2_1,V.str x2_2,V.int .i64 x2_3]) false,O.row 3 L_2.2.2.2.2.2 0,O.row 3 L_3.2.2.2.1 0,O.row 54 L_3.2.2.2.2.1 0,O.row 54 L_3.2.2.2.2.2 0])))
 (icM cfgB ⟨true,false⟩ mk13 13 [V.ptr 2 0 0,V.int .i64 x2_1] (tm m0 m1 m4 m5) fun L_4 =>
  icM cfgB ⟨false,false⟩ mk14 14 [V.ptr 2 0 0,V.int .i64 x2_1] [O.arena 66 L_4.1,O.marena 63 L_4.2.1,O.box 28 (V.agg [V.tail 3 0,V.tail 4 0]) false,O.row 54 m6 0,O.row 54 m7 0] fun L_5 =>
  pcK cfgB 12 [V.sl L_4.2.2.2.2,V.sl L_5.2.2.1] fun r_1 =>
  kB r_1 fun r12_1 =>
  some (.doneM (V.bool r12_1) [O.arena 66 L_5.1,O.marena 63 L_5.2.1,O.box 38 (V.agg [V.mp 4,V.mp 5]) false,O.box 28 (V.agg [V.tail 11 0,V.tail 12 0]) false,O.map L_4.2.2.1,O.map L_4.2.2.2.1,O.dead,O.dead,O.box 30 (V.agg [V.int .i64 x2_0,V.int .i64 x2_1,V.str x2_2,V.int .i64 x2_3]) false,O.row 3 L_4.2.2.2.2 0,O.row 3 L_5.2.2.1 0,O.row 54 L_5.2.2.2.1 0,O.row 54 L_5.2.2.2.2 0])))
theorem e5_eq (x2_0 x2_1:Int) (x2_2:List UInt8) (x2_3:Int) (m0:List V) (m1:List (List (V × V))) (m4 m5:List (V × V)) (m6 m7:List V):enterK kcB true fa5 [V.ptr 2 0 0,V.ptr 3 0 0,V.agg [V.int .i64 x2_0,V.int .i64 x2_1,V.str x2_2,V.int .i64 x2_3]] [O.arena 66 m0,O.marena 63 m1,O.box 38 (V.agg [V.mp 4,V.mp 5]) false,O.box 28 (V.agg [V.tail 6 0,V.tail 7 0]) false,O.map m4,O.map m5,O.row 54 m6 0,O.row 54 m7 0]=e5 x2_0 x2_1 x2_2 x2_3 m0 m1 m4 m5 m6 m7:=by kernel_rfl
theorem e5_run (x2_0 x2_1:Int) (x2_2:List UInt8) (x2_3:Int) (m0:List V) (m1:List (List (V × V))) (m4 m5:List (V × V)) (m6 m7:List V) {o:Out} {r:V × List O} (h:e5 x2_0 x2_1 x2_2 x2_3 m0 m1 m4 m5 m6 m7=some o) (hg:GoN kcB 8 fa5 ⟨false,false⟩ [O.arena 66 m0,O.marena 63 m1,O.box 38 (V.agg [V.mp 4,V.mp 5]) false,O.box 28 (V.agg [V.tail 6 0,V.tail 7 0]) false,O.map m4,O.map m5,O.row 54 m6 0,O.row 54 m7 0] o r):icC cfgB ⟨false,false⟩ 5 [V.ptr 2 0 0,V.ptr 3 0 0,V.agg [V.int .i64 x2_0,V.int .i64 x2_1,V.str x2_2,V.int .i64 x2_3]] [O.arena 66 m0,O.marena 63 m1,O.box 38 (V.agg [V.mp 4,V.mp 5]) false,O.box 28 (V.agg [V.tail 6 0,V.tail 7 0]) false,O.map m4,O.map m5,O.row 54 m6 0,O.row 54 m7 0]=some r:=icC_go ikB rfl fa5_eq ((e5_eq ..).trans h) hg
noncomputable def fa6:FA:=(fnA cfgB.P (cfgB.rxf 6) 6).getD faN
theorem fa6_eq:fnA cfgB.P (cfgB.rxf 6) 6=some fa6:=fa_of (by kernel_rfl)
def T6_0 (x2:Int) (x3:List UInt8) (x10:List V) (x15:Int) (m0:List V) (m1:List (List (V × V))) (m4 m5:List (V × V)) (m6 m7 m8:List V):S:=⟨[V.ptr 2 0 0,V.ptr 3 0 0,V.int .i64 x2,V.str x3]++(JU 4)++[V.bool false,V.own 8,V.sl x10]++(JU 4)++[V.int .i64 x15]++(JU 108),[O.arena 66 m0,O.marena 63 m1,O.box 38 (V.agg [V.mp 4,V.mp 5]) false,O.box 28 (V.agg [V.tail 6 0,V.tail 7 0]) false,O.map m4,O.map m5,O.row 54 m6 0,O.row 54 m7 0,O.row 50 m8 0]⟩
noncomputable def e6 (x2:Int) (x3:List UInt8) (m0:List V) (m1:List (List (V × V))) (m4 m5:List (V × V)) (m6 m7:List V):R :=
 icM cfgB ⟨true,false⟩ mk15 15 [V.ptr 2 0 0,V.int .i64 x2] (tm m0 m1 m4 m5) fun L =>
 pcK cfgB 16 [V.ref (V.agg [V.sl m6,V.sl m7]) 0,V.int .i64 x2] fun r =>
 kF 54 r fun r16 =>
 icM cfgB ⟨true,false⟩ mk17 17 [V.ptr 2 0 0,V.int .i64 x2] (tm L.1 L.2.1 L.2.2.1 L.2.2.2.1) fun L_1 =>
 pcK cfgB 18 [V.ref (V.agg [V.sl m6,V.sl m7]) 0,V.int .i64 x2] fun r_1 =>
 d55 r_1 fun r18_0 r18_1 r18_2 r18_3 =>
 cond ((L.2.2.2.2.length:Int) != (r16.length:Int))
 (some (.doneM (V.bool false) [O.arena 66 L_1.2.2.2.1,O.marena 63 L_1.2.2.2.2.1,O.box 38 (V.agg [V.mp 4,V.mp 5]) false,O.box 28 (V.agg [V.tail 6 0,V.tail 7 0]) false,O.map L_1.2.2.2.2.2.1,O.map L_1.2.2.2.2.2.2,O.row 54 m6 0,O.row 54 m7 0,O.row 50 L.2.2.2.2 0,O.box 50 (V.agg [V.str L_1.1,V.int .i64 L_1.2.1]) false,O.box 54 (V.agg [V.int .i64 r18_0,V.int .i64 r18_1,V.str r18_2]) false]))
 (cond (!(L_1.2.2.1==r18_3))
 (some (.doneM (V.bool false) [O.arena 66 L_1.2.2.2.1,O.marena 63 L_1.2.2.2.2.1,O.box 38 (V.agg [V.mp 4,V.mp 5]) false,O.box 28 (V.agg [V.tail 6 0,V.tail 7 0]) false,O.map L_1.2.2.2.2.2.1,O.map L_1.2.2.2.2.2.2,O.row 54 m6 0,O.row 54 m7 0,O.row 50 L.2.2.2.2 0,O.box 50 (V.agg [V.str L_1.1,V.int .i64 L_1.2.1]) false,O.box 54 (V.agg [V.int .i64 r18_0,V.int .i64 r18_1,V.str r18_2]) false]))
 (cond (!(L_1.1==r18_2))
 (some (.doneM (V.bool false) [O.arena 66 L_1.2.2.2.1,O.marena 63 L_1.2.2.2.2.1,O.box 38 (V.agg [V.mp 4,V.mp 5]) false,O.box 28 (V.agg [V.tail 6 0,V.tail 7 0]) false,O.map L_1.2.2.2.2.2.1,O.map L_1.2.2.2.2.2.2,O.row 54 m6 0,O.row 54 m7 0,O.row 50 L.2.2.2.2 0,O.box 50 (V.agg [V.str L_1.1,V.int .i64 L_1.2.1]) false,O.box 54 (V.agg [V.int .i64 r18_0,V.int .i64 r18_1,V.str r18_2]) false]))
 (cond (L_1.2.1 != r18_1)
 (some (.doneM (V.bool false) [O.arena 66 L_1.2.2.2.1,O.marena 63 L_1.2.2.2.2.1,O.box 38 (V.agg [V.mp 4,V.mp 5]) false,O.box 28 (V.agg [V.tail 6 0,V.tail 7 0]) false,O.map L_1.2.2.2.2.2.1,O.map L_1.2.2.2.2.2.2,O.row 54 m6 0,O.row 54 m7 0,O.row 50 L.2.2.2.2 0,O.box 50 (V.agg [V.str L_1.1,V.int .i64 L_1.2.1]) false,O.box 54 (V.agg [V.int .i64 r18_0,V.int .i64 r18_1,V.str r18_2]) false]))
 (some (.head 0 (T6_0 x2 x3 r16 0 L_1.2.2.2.1 L_1.2.2.2.2.1 L_1.2.2.2.2.2.1 L_1.2.2.2.2.2.2 m6 m7 L.2.2.2.2))))))
theorem e6_eq (x2:Int) (x3:List UInt8) (m0:List V) (m1:List (List (V × V))) (m4 m5:List (V × V)) (m6 m7:List V):enterK kcB true fa6 [V.ptr 2 0 0,V.ptr 3 0 0,V.int .i64 x2,V.str x3] [O.arena 66 m0,O.marena 63 m1,O.box 38 (V.agg [V.mp 4,V.mp 5]) false,O.box 28 (V.agg [V.tail 6 0,V.tail 7 0]) false,O.map m4,O.map m5,O.row 54 m6 0,O.row 54 m7 0]=e6 x2 x3 m0 m1 m4 m5 m6 m7:=by kernel_rfl
theorem e6_run (x2:Int) (x3:List UInt8) (m0:List V) (m1:List (List (V × V))) (m4 m5:List (V × V)) (m6 m7:List V) {o:Out} {r:V × List O} (h:e6 x2 x3 m0 m1 m4 m5 m6 m7=some o) (hg:GoN kcB 8 fa6 ⟨false,false⟩ [O.arena 66 m0,O.marena 63 m1,O.box 38 (V.agg [V.mp 4,V.mp 5]) false,O.box 28 (V.agg [V.tail 6 0,V.tail 7 0]) false,O.map m4,O.map m5,O.row 54 m6 0,O.row 54 m7 0] o r):icC cfgB ⟨false,false⟩ 6 [V.ptr 2 0 0,V.ptr 3 0 0,V.int .i64 x2,V.str x3] [O.arena 66 m0,O.marena 63 m1,O.box 38 (V.agg [V.mp 4,V.mp 5]) false,O.box 28 (V.agg [V.tail 6 0,V.tail 7 0]) false,O.map m4,O.map m5,O.row 54 m6 0,O.row 54 m7 0]=some r:=icC_go ikB rfl fa6_eq ((e6_eq ..).trans h) hg
noncomputable def s6_0 (x2:Int) (x3:List UInt8) (x10:List V) (x15:Int) (m0:List V) (m1:List (List (V × V))) (m4 m5:List (V × V)) (m6 m7 m8:List V):R :=
 cond (decide (x15 < (m8.length:Int)))
 (gd (decide (0<=x15)) <|
  gd (decide (x15.toNat < m8.length)) <|
  idxK m8 x15.toNat fun v =>
  d50 v fun name mode =>
  gd (decide (0<=x15)) <|
  idxK x10 x15.toNat fun v_1 =>
  d54 v_1 fun owner mode_1 name_1 =>
  cond (!(name==name_1))
 (some (.doneM (V.bool false) [O.arena 66 m0,O.marena 63 m1,O.box 38 (V.agg [V.mp 4,V.mp 5]) false,O.box 28 (V.agg [V.tail 6 0,V.tail 7 0]) false,O.map m4,O.map m5,O.row 54 m6 0,O.row 54 m7 0,O.row 50 m8 0]))
 (gd (decide (0<=x15)) <|
  gd (decide (x15.toNat < m8.length)) <|
  idxK m8 x15.toNat fun v_2 =>
  d50 v_2 fun name_2 mode_2 =>
  gd (decide (0<=x15)) <|
  idxK x10 x15.toNat fun v_3 =>
  d54 v_3 fun owner_1 mode_3 name_3 =>
  cond (mode_2 != mode_3)
 (some (.doneM (V.bool false) [O.arena 66 m0,O.marena 63 m1,O.box 38 (V.agg [V.mp 4,V.mp 5]) false,O.box 28 (V.agg [V.tail 6 0,V.tail 7 0]) false,O.map m4,O.map m5,O.row 54 m6 0,O.row 54 m7 0,O.row 50 m8 0]))
 (some (.head 0 (T6_0 x2 x3 x10 (W .i64 (x15+1)) m0 m1 m4 m5 m6 m7 m8)))))
 (icM cfgB ⟨true,false⟩ mk19 19 [V.ptr 2 0 0,V.int .i64 x2,V.str x3] (tm m0 m1 m4 m5) fun L =>
  pcK cfgB 20 [V.ref (V.agg [V.sl m6,V.sl m7]) 0,V.int .i64 x2,V.str x3] fun r =>
  kI .i64 r fun r20 =>
  cond (L.1==r20)
 (opt (behindX L.2.1 L.2.2.1 L.2.2.2.1 L.2.2.2.2 x2) fun l =>
  pcK cfgB 22 [V.ref (V.agg [V.sl m6,V.sl m7]) 0,V.int .i64 x2] fun r_1 =>
  kF 3 r_1 fun r22 =>
  pcK cfgB 12 [V.sl (l.map iV),V.sl r22] fun r_2 =>
  kB r_2 fun r12 =>
  cond r12
 (icM cfgB ⟨true,false⟩ mk23 23 [V.ptr 2 0 0,V.str x3] (tm L.2.1 L.2.2.1 L.2.2.2.1 L.2.2.2.2) fun L_1 =>
  pcK cfgB 24 [V.ref (V.agg [V.sl m6,V.sl m7]) 0,V.str x3] fun r_3 =>
  kF 3 r_3 fun r24 =>
  pcK cfgB 12 [V.sl L_1.2.2.2.2,V.sl r24] fun r_4 =>
  kB r_4 fun r12_1 =>
  cond r12_1
 (icM cfgB ⟨true,false⟩ mk25 25 [V.ptr 2 0 0,V.str x3] (tm L_1.1 L_1.2.1 L_1.2.2.1 L_1.2.2.2.1) fun L_2 =>
  pcK cfgB 26 [V.ref (V.agg [V.sl m6,V.sl m7]) 0,V.str x3] fun r_5 =>
  kF 3 r_5 fun r26 =>
  pcK cfgB 12 [V.sl L_2.2.2.2.2,V.sl r26] fun r_6 =>
  kB r_6 fun r12_2 =>
  some (.doneM (V.bool r12_2) [O.arena 66 L_2.1,O.marena 63 L_2.2.1,O.box 38 (V.agg [V.mp 4,V.mp 5]) false,O.box 28 (V.agg [V.tail 6 0,V.tail 7 0]) false,O.map L_2.2.2.1,O.map L_2.2.2.2.1,O.row 54 m6 0,O.row 54 m7 0,O.row 50 m8 0,O.row 3 (l.map iV) 0,O.row 3 r22 0,O.row 3 L_1.2.2.2.2 0,O.row 3 L_2.2.2.2.2 0]))
 (some (.doneM (V.bool false) [O.arena 66 L_1.1,O.marena 63 L_1.2.1,O.box 38 (V.agg [V.mp 4,V.mp 5]) false,O.box 28 (V.agg [V.tail 6 0,V.tail 7 0]) false,O.map L_1.2.2.1,O.map L_1.2.2.2.1,O.row 54 m6 0,O.row 54 m7 0,O.row 50 m8 0,O.row 3 (l.map iV) 0,O.row 3 r22 0,O.row 3 L_1.2.2.2.2 0])))
 (some (.doneM (V.bool false) [O.arena 66 L.2.1,O.marena 63 L.2.2.1,O.box 38 (V.agg [V.mp 4,V.mp 5]) false,O.box 28 (V.agg [V.tail 6 0,V.tail 7 0]) false,O.map L.2.2.2.1,O.map L.2.2.2.2,O.row 54 m6 0,O.row 54 m7 0,O.row 50 m8 0,O.row 3 (l.map iV) 0,O.row 3 r22 0])))
 (some (.doneM (V.bool false) [O.arena 66 L.2.1,O.marena 63 L.2.2.1,O.box 38 (V.agg [V.mp 4,V.mp 5]) false,O.box 28 (V.agg [V.tail 6 0,V.tail 7 0]) false,O.map L.2.2.2.1,O.map L.2.2.2.2,O.row 54 m6 0,O.row 54 m7 0,O.row 50 m8 0])))
theorem s6_0_run (x2:Int) (x3:List UInt8) (x10:List V) (x15:Int) (m0:List V) (m1:List (List (V × V))) (m4 m5:List (V × V)) (m6 m7 m8:List V) {o o':Out} (h:s6_0 x2 x3 x10 x15 m0 m1 m4 m5 m6 m7 m8=some o) (hg:Go kcB true 8 fa6 o o'):Go kcB true 8 fa6 (.head 0 (T6_0 x2 x3 x10 x15 m0 m1 m4 m5 m6 m7 m8)) o':=.step (Eq.trans (by kernel_rfl) h) hg
noncomputable def fa27:FA:=(fnA cfgB.P (cfgB.rxf 27) 27).getD faN
theorem fa27_eq:fnA cfgB.P (cfgB.rxf 27) 27=some fa27:=fa_of (by kernel_rfl)
noncomputable def e27 (x1:List UInt8) (m0:List V) (m1:List (List (V × V))) (m3 m4:List (V × V)):R :=
 mfK m3 (V.str x1)
 (opt (mapPut m3 (V.str x1) (V.hp 66 m0.length 0)) fun es =>
  mfK es (V.str x1)
 (some (.doneM (V.nilP) (tm ((m0++[V.agg [V.hm 63 m1.length,V.sl []]])) ((m1++[[]])) es m4))) fun r_1 =>
  kP 66 r_1 fun p =>
  some (.doneM (V.hp 66 p 0) (tm ((m0++[V.agg [V.hm 63 m1.length,V.sl []]])) ((m1++[[]])) es m4))) fun r =>
  kP 66 r fun p_1 =>
  mfK m3 (V.str x1)
 (some (.doneM (V.nilP) (tm m0 m1 m3 m4))) fun r_2 =>
  kP 66 r_2 fun p_2 =>
  some (.doneM (V.hp 66 p_2 0) (tm m0 m1 m3 m4))
theorem e27_eq (x1:List UInt8) (m0:List V) (m1:List (List (V × V))) (m3 m4:List (V × V)):enterK kcB true fa27 [V.ptr 2 0 0,V.str x1] (tm m0 m1 m3 m4)=e27 x1 m0 m1 m3 m4:=by kernel_rfl
theorem e27_run (x1:List UInt8) (m0:List V) (m1:List (List (V × V))) (m3 m4:List (V × V)) {o:Out} {r:V × List O} (h:e27 x1 m0 m1 m3 m4=some o) (hg:GoN kcB 5 fa27 ⟨true,false⟩ (tm m0 m1 m3 m4) o r):icC cfgB ⟨true,false⟩ 27 [V.ptr 2 0 0,V.str x1] (tm m0 m1 m3 m4)=some r:=icC_go ikB rfl fa27_eq ((e27_eq ..).trans h) hg
noncomputable def fa30:FA:=(fnA cfgB.P (cfgB.rxf 30) 30).getD faN
theorem fa30_eq:fnA cfgB.P (cfgB.rxf 30) 30=some fa30:=fa_of (by kernel_rfl)
noncomputable def e30 (x1:List UInt8) (x2_0 x2_1:Int) (m0:List V) (m1:List (List (V × V))) (m3 m4:List (V × V)):R :=
 icM cfgB ⟨true,false⟩ mk27 27 [V.ptr 2 0 0,V.str x1] (tm m0 m1 m3 m4) fun L =>
 idxK L.2.1 L.1 fun v =>
 d66 v fun held queue =>
 pcK cfgB 43 [V.sl queue] fun r =>
 kF 70 r fun r43 =>
 icM cfgB ⟨true,false⟩ mk58 58 [V.hp 66 L.1 0,V.int .i64 x2_0] [O.arena 66 L.2.1,O.marena 63 L.2.2.1] fun L_1 =>
 gd (decide (0<=L_1.1/\L_1.1.toNat<=r43.length/\r43.length+([V.agg [V.int .i64 x2_0,V.int .i64 x2_1]]:List V).length<=16777216)) <|
 idxK L_1.2.1 L.1 fun v_1 =>
 d66 v_1 fun held_1 queue_1 =>
 opt (mapPut L.2.2.2.2 (V.int .i64 x2_0) (V.str x1)) fun es =>
 icM cfgB ⟨true,false⟩ mk59 59 [V.ptr 2 0 0,V.int .i64 x2_0] (tm (((L_1.2.1).set L.1 (V.agg [V.hm 63 held_1,V.sl (((r43.take L_1.1.toNat)++[V.agg [V.int .i64 x2_0,V.int .i64 x2_1]])++(r43.drop L_1.1.toNat))]))) L_1.2.2 L.2.2.2.1 es) fun L_2 =>
 cond (!L_2.1)
 (some (.doneM (V.int .i64 10) [O.arena 66 L_2.2.1,O.marena 63 L_2.2.2.1,O.box 38 (V.agg [V.mp 3,V.mp 4]) false,O.map L_2.2.2.2.1,O.map L_2.2.2.2.2,O.dead,O.row 70 (((r43.take L_1.1.toNat)++[V.agg [V.int .i64 x2_0,V.int .i64 x2_1]])++(r43.drop L_1.1.toNat)) ((((r43.take L_1.1.toNat)++[V.agg [V.int .i64 x2_0,V.int .i64 x2_1]])++(r43.drop L_1.1.toNat)).length)]))
 (idxK L_2.2.1 L.1 fun v_2 =>
  d66 v_2 fun held_2 queue_2 =>
  opt (mapDel L_2.2.2.2.2 (V.int .i64 x2_0)) fun es_1 =>
  some (.doneM (V.int .i64 11) [O.arena 66 ((L_2.2.1).set L.1 (V.agg [V.hm 63 held_2,V.sl queue])),O.marena 63 L_2.2.2.1,O.box 38 (V.agg [V.mp 3,V.mp 4]) false,O.map L_2.2.2.2.1,O.map es_1,O.dead,O.row 70 (((r43.take L_1.1.toNat)++[V.agg [V.int .i64 x2_0,V.int .i64 x2_1]])++(r43.drop L_1.1.toNat)) ((((r43.take L_1.1.toNat)++[V.agg [V.int .i64 x2_0,V.int .i64 x2_1]])++(r43.drop L_1.1.toNat)).length)]))
theorem e30_eq (x1:List UInt8) (x2_0 x2_1:Int) (m0:List V) (m1:List (List (V × V))) (m3 m4:List (V × V)):enterK kcB true fa30 [V.ptr 2 0 0,V.str x1,V.agg [V.int .i64 x2_0,V.int .i64 x2_1]] (tm m0 m1 m3 m4)=e30 x1 x2_0 x2_1 m0 m1 m3 m4:=by kernel_rfl
theorem e30_run (x1:List UInt8) (x2_0 x2_1:Int) (m0:List V) (m1:List (List (V × V))) (m3 m4:List (V × V)) {o:Out} {r:V × List O} (h:e30 x1 x2_0 x2_1 m0 m1 m3 m4=some o) (hg:GoN kcB 5 fa30 ⟨true,false⟩ (tm m0 m1 m3 m4) o r):icC cfgB ⟨true,false⟩ 30 [V.ptr 2 0 0,V.str x1,V.agg [V.int .i64 x2_0,V.int .i64 x2_1]] (tm m0 m1 m3 m4)=some r:=icC_go ikB rfl fa30_eq ((e30_eq ..).trans h) hg
noncomputable def fa37:FA:=(fnA cfgB.P (cfgB.rxf 37) 37).getD faN
theorem fa37_eq:fnA cfgB.P (cfgB.rxf 37) 37=some fa37:=fa_of (by kernel_rfl)
def T37_0 (x1:List UInt8) (x5:Nat) (m0:List V) (m1:List (List (V × V))) (m3 m4:List (V × V)) (m6:List V):S:=⟨[V.ptr 2 0 0,V.str x1,V.junk,V.junk,V.own 5,V.hp 66 x5 0,V.own 6]++(JU 57),[O.arena 66 m0,O.marena 63 m1,O.box 38 (V.agg [V.mp 3,V.mp 4]) false,O.map m3,O.map m4,O.row 3 [] 0,O.row 3 m6 0]⟩
noncomputable def e37 (x1:List UInt8) (m0:List V) (m1:List (List (V × V))) (m3 m4:List (V × V)):R :=
 icM cfgB ⟨true,false⟩ mk27 27 [V.ptr 2 0 0,V.str x1] (tm m0 m1 m3 m4) fun L =>
 some (.head 0 (T37_0 x1 L.1 L.2.1 L.2.2.1 L.2.2.2.1 L.2.2.2.2 []))
theorem e37_eq (x1:List UInt8) (m0:List V) (m1:List (List (V × V))) (m3 m4:List (V × V)):enterK kcB true fa37 [V.ptr 2 0 0,V.str x1] (tm m0 m1 m3 m4)=e37 x1 m0 m1 m3 m4:=by kernel_rfl
theorem e37_run (x1:List UInt8) (m0:List V) (m1:List (List (V × V))) (m3 m4:List (V × V)) {o:Out} {r:V × List O} (h:e37 x1 m0 m1 m3 m4=some o) (hg:GoN kcB 5 fa37 ⟨true,false⟩ (tm m0 m1 m3 m4) o r):icC cfgB ⟨true,false⟩ 37 [V.ptr 2 0 0,V.str x1] (tm m0 m1 m3 m4)=some r:=icC_go ikB rfl fa37_eq ((e37_eq ..).trans h) hg
noncomputable def s37_0 (x1:List UInt8) (x5:Nat) (m0:List V) (m1:List (List (V × V))) (m3 m4:List (V × V)) (m6:List V):R :=
 idxK m0 x5 fun v =>
 d66 v fun held queue =>
 cond (decide ((queue.length:Int) > 0))
 (idxK m0 x5 fun v_1 =>
  d66 v_1 fun held_1 queue_1 =>
  idxK queue_1 0 fun v_2 =>
  d70 v_2 fun owner mode =>
  opt (canX m0 m1 x5 owner mode) fun b =>
  cond b
 (idxK m0 x5 fun v_3 =>
  d66 v_3 fun held_2 queue_2 =>
  idxK queue_2 0 fun v_4 =>
  d70 v_4 fun owner_1 mode_1 =>
  idxK m0 x5 fun v_5 =>
  d66 v_5 fun held_3 queue_3 =>
  idxK m1 held_3 fun mm =>
  opt (mapPut mm (V.int .i64 owner_1) (V.int .i64 mode_1)) fun es =>
  idxK m0 x5 fun v_6 =>
  d66 v_6 fun held_4 queue_4 =>
  gd (wfl 2 queue_4) <|
  gd (decide (1<=queue_4.length)) <|
  idxK m0 x5 fun v_7 =>
  d66 v_7 fun held_5 queue_5 =>
  opt (mapDel m4 (V.int .i64 owner_1)) fun es_1 =>
  gd (decide (m6.length+([V.int .i64 owner_1]:List V).length<=16777216)) <|
  some (.head 0 (T37_0 x1 x5 ((m0).set x5 (V.agg [V.hm 63 held_5,V.sl ((queue_4.take queue_4.length).drop 1)])) ((m1).set held_3 es) m3 es_1 (m6++[V.int .i64 owner_1]))))
 (icM cfgB ⟨true,false⟩ mk63 63 [V.ptr 2 0 0,V.str x1] (tm m0 m1 m3 m4) fun L =>
  some (.doneM (V.own 6) [O.arena 66 L.1,O.marena 63 L.2.1,O.box 38 (V.agg [V.mp 3,V.mp 4]) false,O.map L.2.2.1,O.map L.2.2.2,O.row 3 [] 0,O.row 3 m6 0])))
 (icM cfgB ⟨true,false⟩ mk63 63 [V.ptr 2 0 0,V.str x1] (tm m0 m1 m3 m4) fun L_1 =>
  some (.doneM (V.own 6) [O.arena 66 L_1.1,O.marena 63 L_1.2.1,O.box 38 (V.agg [V.mp 3,V.mp 4]) false,O.map L_1.2.2.1,O.map L_1.2.2.2,O.row 3 [] 0,O.row 3 m6 0]))
theorem s37_0_run (x1:List UInt8) (x5:Nat) (m0:List V) (m1:List (List (V × V))) (m3 m4:List (V × V)) (m6:List V) {o o':Out} (h:s37_0 x1 x5 m0 m1 m3 m4 m6=some o) (hg:Go kcB true 5 fa37 o o'):Go kcB true 5 fa37 (.head 0 (T37_0 x1 x5 m0 m1 m3 m4 m6)) o':=.step (Eq.trans (by kernel_rfl) h) hg
noncomputable def fa42:FA:=(fnA cfgB.P (cfgB.rxf 42) 42).getD faN
theorem fa42_eq:fnA cfgB.P (cfgB.rxf 42) 42=some fa42:=fa_of (by kernel_rfl)
def T42_0 (x5 x6:Int) (m0:List V) (m1:List (List (V × V))) (m2:List V) (m3:Int):S:=⟨[V.own 2,V.fn 44 [V.ptr 3 0 0],V.junk,V.junk,V.own 4,V.int .i64 x5,V.int .i64 x6]++(JU 35),[O.arena 66 m0,O.marena 63 m1,O.row 70 m2 0,O.box 3 (V.int .i64 m3) false,O.row 70 [] 0]⟩
noncomputable def e42 (m0:List V) (m1:List (List (V × V))) (m2:List V) (m3:Int):R :=
 pcK cfgB 46 [V.sl m2,V.fn 44 [V.ref (V.int .i64 m3) 0]] fun r =>
 kI .i64 r fun r46 =>
 cond (r46==((-1):Int))
 (some (.doneM (V.own 2) [O.arena 66 m0,O.marena 63 m1,O.row 70 m2 0,O.box 3 (V.int .i64 m3) false,O.row 70 [] 0]))
 (some (.head 0 (T42_0 r46 (W .i64 (r46+1)) m0 m1 m2 m3)))
theorem e42_eq (m0:List V) (m1:List (List (V × V))) (m2:List V) (m3:Int):enterK kcB true fa42 [V.own 2,V.fn 44 [V.ptr 3 0 0]] [O.arena 66 m0,O.marena 63 m1,O.row 70 m2 0,O.box 3 (V.int .i64 m3) false]=e42 m0 m1 m2 m3:=by kernel_rfl
theorem e42_run (m0:List V) (m1:List (List (V × V))) (m2:List V) (m3:Int) {o:Out} {r:V × List O} (h:e42 m0 m1 m2 m3=some o) (hg:GoN kcB 4 fa42 ⟨true,true⟩ [O.arena 66 m0,O.marena 63 m1,O.row 70 m2 0,O.box 3 (V.int .i64 m3) false] o r):icC cfgB ⟨true,true⟩ 42 [V.own 2,V.fn 44 [V.ptr 3 0 0]] [O.arena 66 m0,O.marena 63 m1,O.row 70 m2 0,O.box 3 (V.int .i64 m3) false]=some r:=icC_go ikB rfl fa42_eq ((e42_eq ..).trans h) hg
noncomputable def s42_0 (x5 x6:Int) (m0:List V) (m1:List (List (V × V))) (m2:List V) (m3:Int):R :=
 cond (decide (x6 < (m2.length:Int)))
 (gd (decide (0<=x6)) <|
  gd (decide (x6.toNat < m2.length)) <|
  idxK m2 x6.toNat fun v =>
  d70 v fun owner mode =>
  pcK cfgB 44 [V.agg [V.int .i64 owner,V.int .i64 mode],V.ref (V.int .i64 m3) 0] fun r =>
  kB r fun r44 =>
  cond (!r44)
 (gd (decide (0<=x5)) <|
  gd (decide (x5.toNat < m2.length)) <|
  idxK m2 x5.toNat fun v_1 =>
  d70 v_1 fun owner_1 mode_1 =>
  some (.head 0 (T42_0 (W .i64 (x5+1)) (W .i64 (x6+1)) m0 m1 ((m2).set x5.toNat (V.agg [V.int .i64 owner,V.int .i64 mode])) m3)))
 (some (.head 0 (T42_0 x5 (W .i64 (x6+1)) m0 m1 m2 m3))))
 (gd (wfl 2 m2) <|
  gd (decide (0<=x5)) <|
  gd (decide (x5.toNat<=m2.length)) <|
  gd (decide (x5.toNat+(m2.length - x5.toNat)<=m2.length)) <|
  gd (wfl 2 (m2.take x5.toNat++List.replicate (m2.length - x5.toNat) (V.agg [V.int .i64 0,V.int .i64 0])++m2.drop (x5.toNat+(m2.length - x5.toNat)))) <|
  gd (decide (0<=x5)) <|
  gd (decide (x5.toNat<=(m2.take x5.toNat++List.replicate (m2.length - x5.toNat) (V.agg [V.int .i64 0,V.int .i64 0])++m2.drop (x5.toNat+(m2.length - x5.toNat))).length)) <|
  some (.doneM (V.win 2 0 (x5.toNat - 0)) [O.arena 66 m0,O.marena 63 m1,O.row 70 (m2.take x5.toNat++List.replicate (m2.length - x5.toNat) (V.agg [V.int .i64 0,V.int .i64 0])++m2.drop (x5.toNat+(m2.length - x5.toNat))) 0,O.box 3 (V.int .i64 m3) false,O.row 70 [] 0]))
theorem s42_0_run (x5 x6:Int) (m0:List V) (m1:List (List (V × V))) (m2:List V) (m3:Int) {o o':Out} (h:s42_0 x5 x6 m0 m1 m2 m3=some o) (hg:Go kcB true 4 fa42 o o'):Go kcB true 4 fa42 (.head 0 (T42_0 x5 x6 m0 m1 m2 m3)) o':=.step (Eq.trans (by kernel_rfl) h) hg
noncomputable def fa9:FA:=(fnA cfgB.P (cfgB.rxf 9) 9).getD faN
theorem fa9_eq:fnA cfgB.P (cfgB.rxf 9) 9=some fa9:=fa_of (by kernel_rfl)
noncomputable def e9 (x1:Int) (x2:List UInt8) (x3:Int) (m0:List V) (m1:List (List (V × V))) (m3 m4:List V):R :=
 cond (decide (x1 < 0))
 (some (.doneM (V.int .i64 1) [O.arena 66 m0,O.marena 63 m1,O.box 28 (V.agg [V.tail 3 0,V.tail 4 0]) false,O.row 54 m3 0,O.row 54 m4 0]))
 (cond (decide (x3 < 1))
 (some (.doneM (V.int .i64 1) [O.arena 66 m0,O.marena 63 m1,O.box 28 (V.agg [V.tail 3 0,V.tail 4 0]) false,O.row 54 m3 0,O.row 54 m4 0]))
 (cond (decide (x3 > 6))
 (some (.doneM (V.int .i64 1) [O.arena 66 m0,O.marena 63 m1,O.box 28 (V.agg [V.tail 3 0,V.tail 4 0]) false,O.row 54 m3 0,O.row 54 m4 0]))
 (pcK cfgB 31 [V.ref (V.agg [V.sl m3,V.sl m4]) 0,V.int .i64 x1] fun r =>
  kI .i64 r fun r31 =>
  cond (decide (r31 ≥ 0))
 (some (.doneM (V.int .i64 9) [O.arena 66 m0,O.marena 63 m1,O.box 28 (V.agg [V.tail 3 0,V.tail 4 0]) false,O.row 54 m3 0,O.row 54 m4 0]))
 (pcK cfgB 20 [V.ref (V.agg [V.sl m3,V.sl m4]) 0,V.int .i64 x1,V.str x2] fun r_1 =>
  kI .i64 r_1 fun r20 =>
  pcK cfgB 32 [V.int .i64 r20,V.int .i64 x3] fun r_2 =>
  d67 r_2 fun r32_0 r32_1 =>
  cond (decide (r20 > 0))
 (cond (r32_0==r20)
 (some (.doneM (V.int .i64 0) [O.arena 66 m0,O.marena 63 m1,O.box 28 (V.agg [V.tail 3 0,V.tail 4 0]) false,O.row 54 m3 0,O.row 54 m4 0,O.box 54 (V.agg [V.int .i64 x1,V.int .i64 r32_0,V.str x2]) false]))
 (pcK cfgB 33 [V.ref (V.agg [V.sl m3,V.sl m4]) 0,V.agg [V.int .i64 x1,V.int .i64 r32_0,V.str x2]] fun r_3 =>
  kB r_3 fun r33 =>
  cond r33
 (cond (decide (r20 > 0))
 (icM cfgB ⟨false,false⟩ mk35 35 [V.ptr 2 0 0,V.agg [V.int .i64 x1,V.int .i64 r32_0,V.str x2]] [O.arena 66 m0,O.marena 63 m1,O.box 28 (V.agg [V.tail 3 0,V.tail 4 0]) false,O.row 54 m3 0,O.row 54 m4 0] fun L =>
  some (.doneM (V.int .i64 0) [O.arena 66 L.1,O.marena 63 L.2.1,O.box 28 (V.agg [V.tail 6 0,V.tail 7 0]) false,O.dead,O.dead,O.box 54 (V.agg [V.int .i64 x1,V.int .i64 r32_0,V.str x2]) false,O.row 54 L.2.2.1 0,O.row 54 L.2.2.2 0]))
 (pcK cfgB 34 [V.ref (V.agg [V.sl m3,V.sl m4]) 0,V.str x2] fun r_4 =>
  kI .i64 r_4 fun r34 =>
  cond (decide (r34 < 0))
 (icM cfgB ⟨false,false⟩ mk35 35 [V.ptr 2 0 0,V.agg [V.int .i64 x1,V.int .i64 r32_0,V.str x2]] [O.arena 66 m0,O.marena 63 m1,O.box 28 (V.agg [V.tail 3 0,V.tail 4 0]) false,O.row 54 m3 0,O.row 54 m4 0] fun L_1 =>
  some (.doneM (V.int .i64 0) [O.arena 66 L_1.1,O.marena 63 L_1.2.1,O.box 28 (V.agg [V.tail 6 0,V.tail 7 0]) false,O.dead,O.dead,O.box 54 (V.agg [V.int .i64 x1,V.int .i64 r32_0,V.str x2]) false,O.row 54 L_1.2.2.1 0,O.row 54 L_1.2.2.2 0]))
 (icM cfgB ⟨false,false⟩ mk36 36 [V.ptr 2 0 0,V.agg [V.int .i64 x1,V.int .i64 r32_0,V.str x2],V.bool (decide (r20 > 0))] [O.arena 66 m0,O.marena 63 m1,O.box 28 (V.agg [V.tail 3 0,V.tail 4 0]) false,O.row 54 m3 0,O.row 54 m4 0] fun L_2 =>
  some (.doneM (V.int .i64 L_2.1) [O.arena 66 L_2.2.1,O.marena 63 L_2.2.2.1,O.box 28 (V.agg [V.tail 6 0,V.tail 7 0]) false,O.dead,O.dead,O.box 54 (V.agg [V.int .i64 x1,V.int .i64 r32_0,V.str x2]) false,O.row 54 L_2.2.2.2.1 0,O.row 54 L_2.2.2.2.2 0]))))
 (icM cfgB ⟨false,false⟩ mk36 36 [V.ptr 2 0 0,V.agg [V.int .i64 x1,V.int .i64 r32_0,V.str x2],V.bool (decide (r20 > 0))] [O.arena 66 m0,O.marena 63 m1,O.box 28 (V.agg [V.tail 3 0,V.tail 4 0]) false,O.row 54 m3 0,O.row 54 m4 0] fun L_3 =>
  some (.doneM (V.int .i64 L_3.1) [O.arena 66 L_3.2.1,O.marena 63 L_3.2.2.1,O.box 28 (V.agg [V.tail 6 0,V.tail 7 0]) false,O.dead,O.dead,O.box 54 (V.agg [V.int .i64 x1,V.int .i64 r32_0,V.str x2]) false,O.row 54 L_3.2.2.2.1 0,O.row 54 L_3.2.2.2.2 0]))))
 (pcK cfgB 33 [V.ref (V.agg [V.sl m3,V.sl m4]) 0,V.agg [V.int .i64 x1,V.int .i64 r32_0,V.str x2]] fun r_5 =>
  kB r_5 fun r33_1 =>
  cond r33_1
 (cond (decide (r20 > 0))
 (icM cfgB ⟨false,false⟩ mk35 35 [V.ptr 2 0 0,V.agg [V.int .i64 x1,V.int .i64 r32_0,V.str x2]] [O.arena 66 m0,O.marena 63 m1,O.box 28 (V.agg [V.tail 3 0,V.tail 4 0]) false,O.row 54 m3 0,O.row 54 m4 0] fun L_4 =>
  some (.doneM (V.int .i64 0) [O.arena 66 L_4.1,O.marena 63 L_4.2.1,O.box 28 (V.agg [V.tail 6 0,V.tail 7 0]) false,O.dead,O.dead,O.box 54 (V.agg [V.int .i64 x1,V.int .i64 r32_0,V.str x2]) false,O.row 54 L_4.2.2.1 0,O.row 54 L_4.2.2.2 0]))
 (pcK cfgB 34 [V.ref (V.agg [V.sl m3,V.sl m4]) 0,V.str x2] fun r_6 =>
  kI .i64 r_6 fun r34_1 =>
  cond (decide (r34_1 < 0))
 (icM cfgB ⟨false,false⟩ mk35 35 [V.ptr 2 0 0,V.agg [V.int .i64 x1,V.int .i64 r32_0,V.str x2]] [O.arena 66 m0,O.marena 63 m1,O.box 28 (V.agg [V.tail 3 0,V.tail 4 0]) false,O.row 54 m3 0,O.row 54 m4 0] fun L_5 =>
  some (.doneM (V.int .i64 0) [O.arena 66 L_5.1,O.marena 63 L_5.2.1,O.box 28 (V.agg [V.tail 6 0,V.tail 7 0]) false,O.dead,O.dead,O.box 54 (V.agg [V.int .i64 x1,V.int .i64 r32_0,V.str x2]) false,O.row 54 L_5.2.2.1 0,O.row 54 L_5.2.2.2 0]))
 (icM cfgB ⟨false,false⟩ mk36 36 [V.ptr 2 0 0,V.agg [V.int .i64 x1,V.int .i64 r32_0,V.str x2],V.bool (decide (r20 > 0))] [O.arena 66 m0,O.marena 63 m1,O.box 28 (V.agg [V.tail 3 0,V.tail 4 0]) false,O.row 54 m3 0,O.row 54 m4 0] fun L_6 =>
  some (.doneM (V.int .i64 L_6.1) [O.arena 66 L_6.2.1,O.marena 63 L_6.2.2.1,O.box 28 (V.agg [V.tail 6 0,V.tail 7 0]) false,O.dead,O.dead,O.box 54 (V.agg [V.int .i64 x1,V.int .i64 r32_0,V.str x2]) false,O.row 54 L_6.2.2.2.1 0,O.row 54 L_6.2.2.2.2 0]))))
 (icM cfgB ⟨false,false⟩ mk36 36 [V.ptr 2 0 0,V.agg [V.int .i64 x1,V.int .i64 r32_0,V.str x2],V.bool (decide (r20 > 0))] [O.arena 66 m0,O.marena 63 m1,O.box 28 (V.agg [V.tail 3 0,V.tail 4 0]) false,O.row 54 m3 0,O.row 54 m4 0] fun L_7 =>
  some (.doneM (V.int .i64 L_7.1) [O.arena 66 L_7.2.1,O.marena 63 L_7.2.2.1,O.box 28 (V.agg [V.tail 6 0,V.tail 7 0]) false,O.dead,O.dead,O.box 54 (V.agg [V.int .i64 x1,V.int .i64 r32_0,V.str x2]) false,O.row 54 L_7.2.2.2.1 0,O.row 54 L_7.2.2.2.2 0])))))))
theorem e9_eq (x1:Int) (x2:List UInt8) (x3:Int) (m0:List V) (m1:List (List (V × V))) (m3 m4:List V):enterK kcB true fa9 [V.ptr 2 0 0,V.int .i64 x1,V.str x2,V.int .i64 x3] [O.arena 66 m0,O.marena 63 m1,O.box 28 (V.agg [V.tail 3 0,V.tail 4 0]) false,O.row 54 m3 0,O.row 54 m4 0]=e9 x1 x2 x3 m0 m1 m3 m4:=by kernel_rfl
theorem e9_run (x1:Int) (x2:List UInt8) (x3:Int) (m0:List V) (m1:List (List (V × V))) (m3 m4:List V) {o:Out} {r:V × List O} (h:e9 x1 x2 x3 m0 m1 m3 m4=some o) (hg:GoN kcB 5 fa9 ⟨false,false⟩ [O.arena 66 m0,O.marena 63 m1,O.box 28 (V.agg [V.tail 3 0,V.tail 4 0]) false,O.row 54 m3 0,O.row 54 m4 0] o r):icC cfgB ⟨false,false⟩ 9 [V.ptr 2 0 0,V.int .i64 x1,V.str x2,V.int .i64 x3] [O.arena 66 m0,O.marena 63 m1,O.box 28 (V.agg [V.tail 3 0,V.tail 4 0]) false,O.row 54 m3 0,O.row 54 m4 0]=some r:=icC_go ikB rfl fa9_eq ((e9_eq ..).trans h) hg
noncomputable def fa11:FA:=(fnA cfgB.P (cfgB.rxf 11) 11).getD faN
theorem fa11_eq:fnA cfgB.P (cfgB.rxf 11) 11=some fa11:=fa_of (by kernel_rfl)
noncomputable def e11 (x1:Int) (x2:List UInt8) (m0:List V) (m1:List (List (V × V))) (m3 m4:List V):R :=
 pcK cfgB 20 [V.ref (V.agg [V.sl m3,V.sl m4]) 0,V.int .i64 x1,V.str x2] fun r =>
 kI .i64 r fun r20 =>
 cond (r20==(0:Int))
 (some (.doneM (V.tup [V.own 6,V.int .i64 7]) [O.arena 66 m0,O.marena 63 m1,O.box 28 (V.agg [V.tail 3 0,V.tail 4 0]) false,O.row 54 m3 0,O.row 54 m4 0,O.row 3 [] 0,O.row 3 [] 0]))
 (pcK cfgB 31 [V.ref (V.agg [V.sl m3,V.sl m4]) 0,V.int .i64 x1] fun r_1 =>
  kI .i64 r_1 fun r31 =>
  cond (decide (r31 ≥ 0))
 (gd (decide (0<=r31)) <|
  gd (decide (r31.toNat < m4.length)) <|
  idxK m4 (0+r31.toNat) fun v =>
  d54 v fun owner mode name =>
  cond (name==x2)
 (some (.doneM (V.tup [V.own 6,V.int .i64 9]) [O.arena 66 m0,O.marena 63 m1,O.box 28 (V.agg [V.tail 3 0,V.tail 4 0]) false,O.row 54 m3 0,O.row 54 m4 0,O.row 3 [] 0,O.row 3 [] 0]))
 (pcK cfgB 38 [V.sl m3,V.int .i64 x1,V.str x2,V.bool false] fun r_2 =>
  kF 54 r_2 fun r38 =>
  icM cfgB ⟨false,false⟩ mk39 39 [V.ptr 2 0 0,V.str x2] [O.arena 66 m0,O.marena 63 m1,O.box 28 (V.agg [V.tail 3 0,V.tail 4 0]) false,O.row 54 r38 0,O.row 54 m4 0] fun L =>
  some (.doneM (V.tup [V.own 7,V.int .i64 0]) [O.arena 66 L.1,O.marena 63 L.2.1,O.box 28 (V.agg [V.tail 8 0,V.tail 9 0]) false,O.row 54 m3 0,O.dead,O.row 3 [] 0,O.dead,O.row 3 L.2.2.1 0,O.row 54 L.2.2.2.1 0,O.row 54 L.2.2.2.2 0])))
 (pcK cfgB 38 [V.sl m3,V.int .i64 x1,V.str x2,V.bool false] fun r_3 =>
  kF 54 r_3 fun r38_1 =>
  icM cfgB ⟨false,false⟩ mk39 39 [V.ptr 2 0 0,V.str x2] [O.arena 66 m0,O.marena 63 m1,O.box 28 (V.agg [V.tail 3 0,V.tail 4 0]) false,O.row 54 r38_1 0,O.row 54 m4 0] fun L_1 =>
  some (.doneM (V.tup [V.own 7,V.int .i64 0]) [O.arena 66 L_1.1,O.marena 63 L_1.2.1,O.box 28 (V.agg [V.tail 8 0,V.tail 9 0]) false,O.row 54 m3 0,O.dead,O.row 3 [] 0,O.dead,O.row 3 L_1.2.2.1 0,O.row 54 L_1.2.2.2.1 0,O.row 54 L_1.2.2.2.2 0])))
theorem e11_eq (x1:Int) (x2:List UInt8) (m0:List V) (m1:List (List (V × V))) (m3 m4:List V):enterK kcB true fa11 [V.ptr 2 0 0,V.int .i64 x1,V.str x2] [O.arena 66 m0,O.marena 63 m1,O.box 28 (V.agg [V.tail 3 0,V.tail 4 0]) false,O.row 54 m3 0,O.row 54 m4 0]=e11 x1 x2 m0 m1 m3 m4:=by kernel_rfl
theorem e11_run (x1:Int) (x2:List UInt8) (m0:List V) (m1:List (List (V × V))) (m3 m4:List V) {o:Out} {r:V × List O} (h:e11 x1 x2 m0 m1 m3 m4=some o) (hg:GoN kcB 5 fa11 ⟨false,false⟩ [O.arena 66 m0,O.marena 63 m1,O.box 28 (V.agg [V.tail 3 0,V.tail 4 0]) false,O.row 54 m3 0,O.row 54 m4 0] o r):icC cfgB ⟨false,false⟩ 11 [V.ptr 2 0 0,V.int .i64 x1,V.str x2] [O.arena 66 m0,O.marena 63 m1,O.box 28 (V.agg [V.tail 3 0,V.tail 4 0]) false,O.row 54 m3 0,O.row 54 m4 0]=some r:=icC_go ikB rfl fa11_eq ((e11_eq ..).trans h) hg
noncomputable def fa14:FA:=(fnA cfgB.P (cfgB.rxf 14) 14).getD faN
theorem fa14_eq:fnA cfgB.P (cfgB.rxf 14) 14=some fa14:=fa_of (by kernel_rfl)
def T14_0 (x6:List V) (x8:Int) (m0:List V) (m1:List (List (V × V))) (m3 m4:List V) (m6 m7 m8:List V):S:=⟨[V.ptr 2 0 0,V.junk,V.junk,V.junk,V.own 5,V.junk,V.sl x6,V.own 6,V.int .i64 x8]++(JU 48),[O.arena 66 m0,O.marena 63 m1,O.box 28 (V.agg [V.tail 7 0,V.tail 8 0]) false,O.row 54 m3 0,O.row 54 m4 0,O.row 3 [] 0,O.row 3 m6 0,O.row 54 m7 0,O.row 54 m8 0]⟩
noncomputable def e14 (x1:Int) (m0:List V) (m1:List (List (V × V))) (m3 m4:List V):R :=
 gd (wfl 3 m3) <|
 gd (decide (0+m3.length<=16777216)) <|
 gd (wfl 3 m4) <|
 gd (decide (m3.length+m4.length<=16777216)) <|
 pcK cfgB 45 [V.sl (m3++m4)] fun r =>
 kF 9 r fun r45 =>
 pcK cfgB 38 [V.sl m3,V.int .i64 x1,V.str [],V.bool true] fun r_1 =>
 kF 54 r_1 fun r38 =>
 pcK cfgB 38 [V.sl m4,V.int .i64 x1,V.str [],V.bool true] fun r_2 =>
 kF 54 r_2 fun r38_1 =>
 some (.head 0 (T14_0 r45 0 m0 m1 m3 m4 [] r38 r38_1))
theorem e14_eq (x1:Int) (m0:List V) (m1:List (List (V × V))) (m3 m4:List V):enterK kcB true fa14 [V.ptr 2 0 0,V.int .i64 x1] [O.arena 66 m0,O.marena 63 m1,O.box 28 (V.agg [V.tail 3 0,V.tail 4 0]) false,O.row 54 m3 0,O.row 54 m4 0]=e14 x1 m0 m1 m3 m4:=by kernel_rfl
theorem e14_run (x1:Int) (m0:List V) (m1:List (List (V × V))) (m3 m4:List V) {o:Out} {r:V × List O} (h:e14 x1 m0 m1 m3 m4=some o) (hg:GoN kcB 5 fa14 ⟨false,false⟩ [O.arena 66 m0,O.marena 63 m1,O.box 28 (V.agg [V.tail 3 0,V.tail 4 0]) false,O.row 54 m3 0,O.row 54 m4 0] o r):icC cfgB ⟨false,false⟩ 14 [V.ptr 2 0 0,V.int .i64 x1] [O.arena 66 m0,O.marena 63 m1,O.box 28 (V.agg [V.tail 3 0,V.tail 4 0]) false,O.row 54 m3 0,O.row 54 m4 0]=some r:=icC_go ikB rfl fa14_eq ((e14_eq ..).trans h) hg
noncomputable def s14_0 (x6:List V) (x8:Int) (m0:List V) (m1:List (List (V × V))) (m3 m4:List V) (m6 m7 m8:List V):R :=
 cond (decide (x8 < (x6.length:Int)))
 (gd (decide (0<=x8)) <|
  idxK x6 x8.toNat fun v =>
  kS v fun s =>
  icM cfgB ⟨false,false⟩ mk39 39 [V.ptr 2 0 0,V.str s] [O.arena 66 m0,O.marena 63 m1,O.box 28 (V.agg [V.tail 3 0,V.tail 4 0]) false,O.row 54 m7 0,O.row 54 m8 0] fun L =>
  gd (wfl 1 L.2.2.1) <|
  gd (decide (m6.length+L.2.2.1.length<=16777216)) <|
  some (.head 0 (T14_0 x6 (W .i64 (x8+1)) L.1 L.2.1 m3 m4 (m6++L.2.2.1) L.2.2.2.1 L.2.2.2.2)))
 (some (.doneM (V.own 6) [O.arena 66 m0,O.marena 63 m1,O.box 28 (V.agg [V.tail 7 0,V.tail 8 0]) false,O.row 54 m3 0,O.row 54 m4 0,O.row 3 [] 0,O.row 3 m6 0,O.row 54 m7 0,O.row 54 m8 0]))
theorem s14_0_run (x6:List V) (x8:Int) (m0:List V) (m1:List (List (V × V))) (m3 m4:List V) (m6 m7 m8:List V) {o o':Out} (h:s14_0 x6 x8 m0 m1 m3 m4 m6 m7 m8=some o) (hg:Go kcB true 5 fa14 o o'):Go kcB true 5 fa14 (.head 0 (T14_0 x6 x8 m0 m1 m3 m4 m6 m7 m8)) o':=.step (Eq.trans (by kernel_rfl) h) hg
noncomputable def fa58:FA:=(fnA cfgB.P (cfgB.rxf 58) 58).getD faN
theorem fa58_eq:fnA cfgB.P (cfgB.rxf 58) 58=some fa58:=fa_of (by kernel_rfl)
def T58_0 (x0:Nat) (x7:Int) (m0:List V) (m1:List (List (V × V))):S:=⟨[V.hp 66 x0 0,V.junk,V.junk,V.junk,V.int .i64 0,V.junk,V.junk,V.int .i64 x7]++(JU 42),[O.arena 66 m0,O.marena 63 m1]⟩
noncomputable def e58 (x0:Nat) (x1:Int) (m0:List V) (m1:List (List (V × V))):R :=
 idxK m0 x0 fun v =>
 d66 v fun held queue =>
 idxK m1 held fun mm =>
 mfK mm (V.int .i64 x1)
 (idxK m0 x0 fun v_1 =>
  d66 v_1 fun held_1 queue_1 =>
  some (.doneM (V.int .i64 (queue_1.length:Int)) [O.arena 66 m0,O.marena 63 m1])) fun r =>
  kI .i64 r fun n =>
  some (.head 0 (T58_0 x0 0 m0 m1))
theorem e58_eq (x0:Nat) (x1:Int) (m0:List V) (m1:List (List (V × V))):enterK kcB true fa58 [V.hp 66 x0 0,V.int .i64 x1] [O.arena 66 m0,O.marena 63 m1]=e58 x0 x1 m0 m1:=by kernel_rfl
theorem e58_run (x0:Nat) (x1:Int) (m0:List V) (m1:List (List (V × V))) {o:Out} {r:V × List O} (h:e58 x0 x1 m0 m1=some o) (hg:GoN kcB 2 fa58 ⟨true,false⟩ [O.arena 66 m0,O.marena 63 m1] o r):icC cfgB ⟨true,false⟩ 58 [V.hp 66 x0 0,V.int .i64 x1] [O.arena 66 m0,O.marena 63 m1]=some r:=icC_go ikB rfl fa58_eq ((e58_eq ..).trans h) hg
noncomputable def s58_0 (x0:Nat) (x7:Int) (m0:List V) (m1:List (List (V × V))):R :=
 idxK m0 x0 fun v =>
 d66 v fun held queue =>
 cond (decide (x7 < (queue.length:Int)))
 (idxK m0 x0 fun v_1 =>
  d66 v_1 fun held_1 queue_1 =>
  idxK m0 x0 fun v_2 =>
  d66 v_2 fun held_2 queue_2 =>
  gd (decide (0<=x7)) <|
  idxK queue_2 x7.toNat fun v_3 =>
  d70 v_3 fun owner mode =>
  idxK m1 held_1 fun mm =>
  mfK mm (V.int .i64 owner)
 (some (.doneM (V.int .i64 x7) [O.arena 66 m0,O.marena 63 m1])) fun r =>
  kI .i64 r fun n =>
  cond (n != (0:Int))
 (some (.head 0 (T58_0 x0 (W .i64 (x7+1)) m0 m1)))
 (some (.doneM (V.int .i64 x7) [O.arena 66 m0,O.marena 63 m1])))
 (some (.doneM (V.int .i64 x7) [O.arena 66 m0,O.marena 63 m1]))
theorem s58_0_run (x0:Nat) (x7:Int) (m0:List V) (m1:List (List (V × V))) {o o':Out} (h:s58_0 x0 x7 m0 m1=some o) (hg:Go kcB true 2 fa58 o o'):Go kcB true 2 fa58 (.head 0 (T58_0 x0 x7 m0 m1)) o':=.step (Eq.trans (by kernel_rfl) h) hg
noncomputable def fa59:FA:=(fnA cfgB.P (cfgB.rxf 59) 59).getD faN
theorem fa59_eq:fnA cfgB.P (cfgB.rxf 59) 59=some fa59:=fa_of (by kernel_rfl)
noncomputable def e59 (x1:Int) (m0:List V) (m1:List (List (V × V))) (m3 m4:List (V × V)):R :=
 icM cfgB ⟨true,false⟩ mk77 77 [V.int .i64 x1,V.ptr 2 0 0,V.ptr 3 0 0,V.ptr 4 0 0] [O.arena 66 m0,O.marena 63 m1,O.box 23 (V.ptr 5 0 0) false,O.box 88 (V.mp 6) false,O.box 108 (V.fn 77 [V.ptr 2 0 0,V.ptr 3 0 0,V.ptr 4 0 0]) false,O.box 38 (V.agg [V.mp 7,V.mp 8]) false,O.map [],O.map m3,O.map m4] fun L =>
 mfK L.2.2.1 (V.int .i64 x1)
 (some (.doneM (V.bool false) [O.arena 66 L.1,O.marena 63 L.2.1,O.box 38 (V.agg [V.mp 3,V.mp 4]) false,O.map L.2.2.2.1,O.map L.2.2.2.2,O.box 23 (V.ptr 2 0 0) false,O.map L.2.2.1,O.box 88 (V.mp 6) false,O.box 108 (V.fn 77 [V.ptr 5 0 0,V.ptr 7 0 0,V.ptr 8 0 0]) false])) fun r =>
  kB r fun b =>
  some (.doneM (V.bool b) [O.arena 66 L.1,O.marena 63 L.2.1,O.box 38 (V.agg [V.mp 3,V.mp 4]) false,O.map L.2.2.2.1,O.map L.2.2.2.2,O.box 23 (V.ptr 2 0 0) false,O.map L.2.2.1,O.box 88 (V.mp 6) false,O.box 108 (V.fn 77 [V.ptr 5 0 0,V.ptr 7 0 0,V.ptr 8 0 0]) false])
theorem e59_eq (x1:Int) (m0:List V) (m1:List (List (V × V))) (m3 m4:List (V × V)):enterK kcB true fa59 [V.ptr 2 0 0,V.int .i64 x1] (tm m0 m1 m3 m4)=e59 x1 m0 m1 m3 m4:=by kernel_rfl
theorem e59_run (x1:Int) (m0:List V) (m1:List (List (V × V))) (m3 m4:List (V × V)) {o:Out} {r:V × List O} (h:e59 x1 m0 m1 m3 m4=some o) (hg:GoN kcB 5 fa59 ⟨true,false⟩ (tm m0 m1 m3 m4) o r):icC cfgB ⟨true,false⟩ 59 [V.ptr 2 0 0,V.int .i64 x1] (tm m0 m1 m3 m4)=some r:=icC_go ikB rfl fa59_eq ((e59_eq ..).trans h) hg
noncomputable def fa63:FA:=(fnA cfgB.P (cfgB.rxf 63) 63).getD faN
theorem fa63_eq:fnA cfgB.P (cfgB.rxf 63) 63=some fa63:=fa_of (by kernel_rfl)
noncomputable def e63 (x1:List UInt8) (m0:List V) (m1:List (List (V × V))) (m3 m4:List (V × V)):R :=
 mfK m3 (V.str x1)
 (some (.doneM (V.tup []) (tm m0 m1 m3 m4))) fun r =>
  kP 66 r fun p =>
  idxK m0 p fun v =>
  d66 v fun held queue =>
  idxK m1 held fun mm =>
  cond ((mm.length:Int)==(0:Int))
 (idxK m0 p fun v_1 =>
  d66 v_1 fun held_1 queue_1 =>
  cond ((queue_1.length:Int)==(0:Int))
 (opt (mapDel m3 (V.str x1)) fun es =>
  some (.doneM (V.tup []) (tm m0 m1 es m4)))
 (some (.doneM (V.tup []) (tm m0 m1 m3 m4))))
 (some (.doneM (V.tup []) (tm m0 m1 m3 m4)))
theorem e63_eq (x1:List UInt8) (m0:List V) (m1:List (List (V × V))) (m3 m4:List (V × V)):enterK kcB true fa63 [V.ptr 2 0 0,V.str x1] (tm m0 m1 m3 m4)=e63 x1 m0 m1 m3 m4:=by kernel_rfl
theorem e63_run (x1:List UInt8) (m0:List V) (m1:List (List (V × V))) (m3 m4:List (V × V)) {o:Out} {r:V × List O} (h:e63 x1 m0 m1 m3 m4=some o) (hg:GoN kcB 5 fa63 ⟨true,false⟩ (tm m0 m1 m3 m4) o r):icC cfgB ⟨true,false⟩ 63 [V.ptr 2 0 0,V.str x1] (tm m0 m1 m3 m4)=some r:=icC_go ikB rfl fa63_eq ((e63_eq ..).trans h) hg
noncomputable def fa35:FA:=(fnA cfgB.P (cfgB.rxf 35) 35).getD faN
theorem fa35_eq:fnA cfgB.P (cfgB.rxf 35) 35=some fa35:=fa_of (by kernel_rfl)
noncomputable def e35 (x1_0 x1_1:Int) (x1_2:List UInt8) (m0:List V) (m1:List (List (V × V))) (m3 m4:List V):R :=
 pcK cfgB 38 [V.sl m3,V.int .i64 x1_0,V.str x1_2,V.bool false] fun r =>
 kF 54 r fun r38 =>
 gd (decide (r38.length+([V.agg [V.int .i64 x1_0,V.int .i64 x1_1,V.str x1_2]]:List V).length<=16777216)) <|
 some (.doneM (V.tup []) [O.arena 66 m0,O.marena 63 m1,O.box 28 (V.agg [V.tail 7 0,V.tail 4 0]) false,O.row 54 m3 0,O.row 54 m4 0,O.box 54 (V.agg [V.int .i64 x1_0,V.int .i64 x1_1,V.str x1_2]) false,O.dead,O.row 54 (r38++[V.agg [V.int .i64 x1_0,V.int .i64 x1_1,V.str x1_2]]) 0])
theorem e35_eq (x1_0 x1_1:Int) (x1_2:List UInt8) (m0:List V) (m1:List (List (V × V))) (m3 m4:List V):enterK kcB true fa35 [V.ptr 2 0 0,V.agg [V.int .i64 x1_0,V.int .i64 x1_1,V.str x1_2]] [O.arena 66 m0,O.marena 63 m1,O.box 28 (V.agg [V.tail 3 0,V.tail 4 0]) false,O.row 54 m3 0,O.row 54 m4 0]=e35 x1_0 x1_1 x1_2 m0 m1 m3 m4:=by kernel_rfl
theorem e35_run (x1_0 x1_1:Int) (x1_2:List UInt8) (m0:List V) (m1:List (List (V × V))) (m3 m4:List V) {o:Out} {r:V × List O} (h:e35 x1_0 x1_1 x1_2 m0 m1 m3 m4=some o) (hg:GoN kcB 5 fa35 ⟨false,false⟩ [O.arena 66 m0,O.marena 63 m1,O.box 28 (V.agg [V.tail 3 0,V.tail 4 0]) false,O.row 54 m3 0,O.row 54 m4 0] o r):icC cfgB ⟨false,false⟩ 35 [V.ptr 2 0 0,V.agg [V.int .i64 x1_0,V.int .i64 x1_1,V.str x1_2]] [O.arena 66 m0,O.marena 63 m1,O.box 28 (V.agg [V.tail 3 0,V.tail 4 0]) false,O.row 54 m3 0,O.row 54 m4 0]=some r:=icC_go ikB rfl fa35_eq ((e35_eq ..).trans h) hg
noncomputable def fa36:FA:=(fnA cfgB.P (cfgB.rxf 36) 36).getD faN
theorem fa36_eq:fnA cfgB.P (cfgB.rxf 36) 36=some fa36:=fa_of (by kernel_rfl)
def T36_0 (x2:Bool) (x7 x8:Int) (m0:List V) (m1:List (List (V × V))) (m3 m4:List V) (m5_0 m5_1:Int) (m5_2:List UInt8):S:=⟨[V.ptr 2 0 0,V.junk,V.bool x2,V.junk,V.ptr 5 0 0,V.junk,V.int .i64 0,V.int .i64 x7,V.int .i64 x8]++(JU 73),[O.arena 66 m0,O.marena 63 m1,O.box 28 (V.agg [V.tail 3 0,V.tail 4 0]) false,O.row 54 m3 0,O.row 54 m4 0,O.box 54 (V.agg [V.int .i64 m5_0,V.int .i64 m5_1,V.str m5_2]) false]⟩
noncomputable def e36 (x1_0 x1_1:Int) (x1_2:List UInt8) (x2:Bool) (m0:List V) (m1:List (List (V × V))) (m3 m4:List V):R :=
 some (.head 0 (T36_0 x2 (m4.length:Int) (W .i64 ((m4.length:Int) - 1)) m0 m1 m3 m4 x1_0 x1_1 x1_2))
theorem e36_eq (x1_0 x1_1:Int) (x1_2:List UInt8) (x2:Bool) (m0:List V) (m1:List (List (V × V))) (m3 m4:List V):enterK kcB true fa36 [V.ptr 2 0 0,V.agg [V.int .i64 x1_0,V.int .i64 x1_1,V.str x1_2],V.bool x2] [O.arena 66 m0,O.marena 63 m1,O.box 28 (V.agg [V.tail 3 0,V.tail 4 0]) false,O.row 54 m3 0,O.row 54 m4 0]=e36 x1_0 x1_1 x1_2 x2 m0 m1 m3 m4:=by kernel_rfl
theorem e36_run (x1_0 x1_1:Int) (x1_2:List UInt8) (x2:Bool) (m0:List V) (m1:List (List (V × V))) (m3 m4:List V) {o:Out} {r:V × List O} (h:e36 x1_0 x1_1 x1_2 x2 m0 m1 m3 m4=some o) (hg:GoN kcB 5 fa36 ⟨false,false⟩ [O.arena 66 m0,O.marena 63 m1,O.box 28 (V.agg [V.tail 3 0,V.tail 4 0]) false,O.row 54 m3 0,O.row 54 m4 0] o r):icC cfgB ⟨false,false⟩ 36 [V.ptr 2 0 0,V.agg [V.int .i64 x1_0,V.int .i64 x1_1,V.str x1_2],V.bool x2] [O.arena 66 m0,O.marena 63 m1,O.box 28 (V.agg [V.tail 3 0,V.tail 4 0]) false,O.row 54 m3 0,O.row 54 m4 0]=some r:=icC_go ikB rfl fa36_eq ((e36_eq ..).trans h) hg
noncomputable def s36_0 (x2:Bool) (x7 x8:Int) (m0:List V) (m1:List (List (V × V))) (m3 m4:List V) (m5_0 m5_1:Int) (m5_2:List UInt8):R :=
 cond (decide (x8 ≥ 0))
 (gd (decide (0<=x8)) <|
  gd (decide (x8.toNat < m4.length)) <|
  idxK m4 (0+x8.toNat) fun v =>
  d54 v fun owner mode name =>
  cond x2
 (cond (name==m5_2)
 (pcK cfgB 20 [V.ref (V.agg [V.sl m3,V.sl m4]) 0,V.int .i64 owner,V.str name] fun r =>
  kI .i64 r fun r20 =>
  cond (r20==(0:Int))
 (some (.head 0 (T36_0 x2 x8 (W .i64 (x8 - 1)) m0 m1 m3 m4 m5_0 m5_1 m5_2)))
 (some (.head 0 (T36_0 x2 x7 (W .i64 (x8 - 1)) m0 m1 m3 m4 m5_0 m5_1 m5_2))))
 (some (.head 0 (T36_0 x2 x7 (W .i64 (x8 - 1)) m0 m1 m3 m4 m5_0 m5_1 m5_2))))
 (some (.head 0 (T36_0 x2 x7 (W .i64 (x8 - 1)) m0 m1 m3 m4 m5_0 m5_1 m5_2))))
 (gd (wfl 3 m4) <|
  gd (decide (0<=x7)) <|
  gd (decide (x7.toNat<=m4.length)) <|
  gd (decide ((0+0)+(x7.toNat - 0)<=m4.length)) <|
  gd (wfl 3 (((m4).drop (0+0)).take (x7.toNat - 0))) <|
  gd (decide (0+(((m4).drop (0+0)).take (x7.toNat - 0)).length<=16777216)) <|
  gd (decide ((((m4).drop (0+0)).take (x7.toNat - 0)).length+([V.agg [V.int .i64 m5_0,V.int .i64 m5_1,V.str m5_2]]:List V).length<=16777216)) <|
  gd (wfl 3 m4) <|
  gd (decide (0<=x7)) <|
  gd (decide (x7.toNat<=m4.length)) <|
  gd (wfl 3 (m4.drop (0+x7.toNat))) <|
  gd (decide (((((m4).drop (0+0)).take (x7.toNat - 0))++[V.agg [V.int .i64 m5_0,V.int .i64 m5_1,V.str m5_2]]).length+(m4.drop (0+x7.toNat)).length<=16777216)) <|
  pcK cfgB 62 [V.ref (V.agg [V.sl m3,V.sl (((((m4).drop (0+0)).take (x7.toNat - 0))++[V.agg [V.int .i64 m5_0,V.int .i64 m5_1,V.str m5_2]])++(m4.drop (0+x7.toNat)))]) 0,V.int .i64 m5_0] fun r_1 =>
  kB r_1 fun r62 =>
  cond r62
 (some (.doneM (V.int .i64 11) [O.arena 66 m0,O.marena 63 m1,O.box 28 (V.agg [V.tail 3 0,V.tail 4 0]) false,O.row 54 m3 0,O.row 54 m4 0,O.box 54 (V.agg [V.int .i64 m5_0,V.int .i64 m5_1,V.str m5_2]) false,O.dead,O.dead,O.row 54 [V.agg [V.int .i64 m5_0,V.int .i64 m5_1,V.str m5_2]] 0,O.dead,O.row 54 (((((m4).drop (0+0)).take (x7.toNat - 0))++[V.agg [V.int .i64 m5_0,V.int .i64 m5_1,V.str m5_2]])++(m4.drop (0+x7.toNat))) 0]))
 (some (.doneM (V.int .i64 10) [O.arena 66 m0,O.marena 63 m1,O.box 28 (V.agg [V.tail 3 0,V.tail 10 0]) false,O.row 54 m3 0,O.row 54 m4 0,O.box 54 (V.agg [V.int .i64 m5_0,V.int .i64 m5_1,V.str m5_2]) false,O.dead,O.dead,O.row 54 [V.agg [V.int .i64 m5_0,V.int .i64 m5_1,V.str m5_2]] 0,O.dead,O.row 54 (((((m4).drop (0+0)).take (x7.toNat - 0))++[V.agg [V.int .i64 m5_0,V.int .i64 m5_1,V.str m5_2]])++(m4.drop (0+x7.toNat))) 0])))
theorem s36_0_run (x2:Bool) (x7 x8:Int) (m0:List V) (m1:List (List (V × V))) (m3 m4:List V) (m5_0 m5_1:Int) (m5_2:List UInt8) {o o':Out} (h:s36_0 x2 x7 x8 m0 m1 m3 m4 m5_0 m5_1 m5_2=some o) (hg:Go kcB true 5 fa36 o o'):Go kcB true 5 fa36 (.head 0 (T36_0 x2 x7 x8 m0 m1 m3 m4 m5_0 m5_1 m5_2)) o':=.step (Eq.trans (by kernel_rfl) h) hg
noncomputable def fa39:FA:=(fnA cfgB.P (cfgB.rxf 39) 39).getD faN
theorem fa39_eq:fnA cfgB.P (cfgB.rxf 39) 39=some fa39:=fa_of (by kernel_rfl)
def T39_0 (x1:List UInt8) (m0:List V) (m1:List (List (V × V))) (m3 m4:List V):S:=⟨[V.ptr 2 0 0,V.str x1,V.junk,V.junk,V.own 5,V.own 6]++(JU 47),[O.arena 66 m0,O.marena 63 m1,O.box 28 (V.agg [V.tail 3 0,V.tail 4 0]) false,O.row 54 m3 0,O.row 54 m4 0,O.row 3 [] 0,O.row 3 [] 0]⟩
def T39_0b (x1:List UInt8) (m0:List V) (m1:List (List (V × V))) (m6 m7 m8:List V):S:=⟨[V.ptr 2 0 0,V.str x1,V.junk,V.junk,V.own 5,V.own 6]++(JU 47),[O.arena 66 m0,O.marena 63 m1,O.box 28 (V.agg [V.tail 7 0,V.tail 8 0]) false,O.dead,O.dead,O.row 3 [] 0,O.row 3 m6 0,O.row 54 m7 0,O.row 54 m8 0]⟩
noncomputable def e39 (x1:List UInt8) (m0:List V) (m1:List (List (V × V))) (m3 m4:List V):R :=
 some (.head 0 (T39_0 x1 m0 m1 m3 m4))
theorem e39_eq (x1:List UInt8) (m0:List V) (m1:List (List (V × V))) (m3 m4:List V):enterK kcB true fa39 [V.ptr 2 0 0,V.str x1] [O.arena 66 m0,O.marena 63 m1,O.box 28 (V.agg [V.tail 3 0,V.tail 4 0]) false,O.row 54 m3 0,O.row 54 m4 0]=e39 x1 m0 m1 m3 m4:=by kernel_rfl
theorem e39_run (x1:List UInt8) (m0:List V) (m1:List (List (V × V))) (m3 m4:List V) {o:Out} {r:V × List O} (h:e39 x1 m0 m1 m3 m4=some o) (hg:GoN kcB 5 fa39 ⟨false,false⟩ [O.arena 66 m0,O.marena 63 m1,O.box 28 (V.agg [V.tail 3 0,V.tail 4 0]) false,O.row 54 m3 0,O.row 54 m4 0] o r):icC cfgB ⟨false,false⟩ 39 [V.ptr 2 0 0,V.str x1] [O.arena 66 m0,O.marena 63 m1,O.box 28 (V.agg [V.tail 3 0,V.tail 4 0]) false,O.row 54 m3 0,O.row 54 m4 0]=some r:=icC_go ikB rfl fa39_eq ((e39_eq ..).trans h) hg
noncomputable def s39_0 (x1:List UInt8) (m0:List V) (m1:List (List (V × V))) (m3 m4:List V):R :=
 pcK cfgB 34 [V.ref (V.agg [V.sl m3,V.sl m4]) 0,V.str x1] fun r =>
 kI .i64 r fun r34 =>
 cond (decide (r34 ≥ 0))
 (pcK cfgB 34 [V.ref (V.agg [V.sl m3,V.sl m4]) 0,V.str x1] fun r_1 =>
  kI .i64 r_1 fun r34_1 =>
  gd (decide (0<=r34_1)) <|
  gd (decide (r34_1.toNat < m4.length)) <|
  idxK m4 (0+r34_1.toNat) fun v =>
  d54 v fun owner mode name =>
  pcK cfgB 33 [V.ref (V.agg [V.sl m3,V.sl m4]) 0,V.agg [V.int .i64 owner,V.int .i64 mode,V.str name]] fun r_2 =>
  kB r_2 fun r33 =>
  cond r33
 (pcK cfgB 34 [V.ref (V.agg [V.sl m3,V.sl m4]) 0,V.str x1] fun r_3 =>
  kI .i64 r_3 fun r34_2 =>
  gd (decide (0<=r34_2)) <|
  gd (decide (r34_2.toNat < m4.length)) <|
  idxK m4 (0+r34_2.toNat) fun v_1 =>
  d54 v_1 fun owner_1 mode_1 name_1 =>
  icM cfgB ⟨false,false⟩ mk35 35 [V.ptr 2 0 0,V.agg [V.int .i64 owner_1,V.int .i64 mode_1,V.str name_1]] [O.arena 66 m0,O.marena 63 m1,O.box 28 (V.agg [V.tail 3 0,V.tail 4 0]) false,O.row 54 m3 0,O.row 54 m4 0] fun L =>
  pcK cfgB 38 [V.sl L.2.2.2,V.int .i64 owner_1,V.str [],V.bool true] fun r_4 =>
  kF 54 r_4 fun r38 =>
  gd (decide (0+([V.int .i64 owner_1]:List V).length<=16777216)) <|
  some (.head 0 (T39_0b x1 L.1 L.2.1 [V.int .i64 owner_1] L.2.2.1 r38)))
 (some (.doneM (V.own 6) [O.arena 66 m0,O.marena 63 m1,O.box 28 (V.agg [V.tail 3 0,V.tail 4 0]) false,O.row 54 m3 0,O.row 54 m4 0,O.row 3 [] 0,O.row 3 [] 0])))
 (some (.doneM (V.own 6) [O.arena 66 m0,O.marena 63 m1,O.box 28 (V.agg [V.tail 3 0,V.tail 4 0]) false,O.row 54 m3 0,O.row 54 m4 0,O.row 3 [] 0,O.row 3 [] 0]))
theorem s39_0_run (x1:List UInt8) (m0:List V) (m1:List (List (V × V))) (m3 m4:List V) {o o':Out} (h:s39_0 x1 m0 m1 m3 m4=some o) (hg:Go kcB true 5 fa39 o o'):Go kcB true 5 fa39 (.head 0 (T39_0 x1 m0 m1 m3 m4)) o':=.step (Eq.trans (by kernel_rfl) h) hg
noncomputable def s39_0b (x1:List UInt8) (m0:List V) (m1:List (List (V × V))) (m6 m7 m8:List V):R :=
 pcK cfgB 34 [V.ref (V.agg [V.sl m7,V.sl m8]) 0,V.str x1] fun r =>
 kI .i64 r fun r34 =>
 cond (decide (r34 ≥ 0))
 (pcK cfgB 34 [V.ref (V.agg [V.sl m7,V.sl m8]) 0,V.str x1] fun r_1 =>
  kI .i64 r_1 fun r34_1 =>
  gd (decide (0<=r34_1)) <|
  gd (decide (r34_1.toNat < m8.length)) <|
  idxK m8 (0+r34_1.toNat) fun v =>
  d54 v fun owner mode name =>
  pcK cfgB 33 [V.ref (V.agg [V.sl m7,V.sl m8]) 0,V.agg [V.int .i64 owner,V.int .i64 mode,V.str name]] fun r_2 =>
  kB r_2 fun r33 =>
  cond r33
 (pcK cfgB 34 [V.ref (V.agg [V.sl m7,V.sl m8]) 0,V.str x1] fun r_3 =>
  kI .i64 r_3 fun r34_2 =>
  gd (decide (0<=r34_2)) <|
  gd (decide (r34_2.toNat < m8.length)) <|
  idxK m8 (0+r34_2.toNat) fun v_1 =>
  d54 v_1 fun owner_1 mode_1 name_1 =>
  icM cfgB ⟨false,false⟩ mk35 35 [V.ptr 2 0 0,V.agg [V.int .i64 owner_1,V.int .i64 mode_1,V.str name_1]] [O.arena 66 m0,O.marena 63 m1,O.box 28 (V.agg [V.tail 3 0,V.tail 4 0]) false,O.row 54 m7 0,O.row 54 m8 0] fun L =>
  pcK cfgB 38 [V.sl L.2.2.2,V.int .i64 owner_1,V.str [],V.bool true] fun r_4 =>
  kF 54 r_4 fun r38 =>
  gd (decide (m6.length+([V.int .i64 owner_1]:List V).length<=16777216)) <|
  some (.head 0 (T39_0b x1 L.1 L.2.1 (m6++[V.int .i64 owner_1]) L.2.2.1 r38)))
 (some (.doneM (V.own 6) [O.arena 66 m0,O.marena 63 m1,O.box 28 (V.agg [V.tail 7 0,V.tail 8 0]) false,O.dead,O.dead,O.row 3 [] 0,O.row 3 m6 0,O.row 54 m7 0,O.row 54 m8 0])))
 (some (.doneM (V.own 6) [O.arena 66 m0,O.marena 63 m1,O.box 28 (V.agg [V.tail 7 0,V.tail 8 0]) false,O.dead,O.dead,O.row 3 [] 0,O.row 3 m6 0,O.row 54 m7 0,O.row 54 m8 0]))
theorem s39_0b_run (x1:List UInt8) (m0:List V) (m1:List (List (V × V))) (m6 m7 m8:List V) {o o':Out} (h:s39_0b x1 m0 m1 m6 m7 m8=some o) (hg:Go kcB true 5 fa39 o o'):Go kcB true 5 fa39 (.head 0 (T39_0b x1 m0 m1 m6 m7 m8)) o':=.step (Eq.trans (by kernel_rfl) h) hg
noncomputable def fa77:FA:=(fnA cfgB.P (cfgB.rxf 77) 77).getD faN
theorem fa77_eq:fnA cfgB.P (cfgB.rxf 77) 77=some fa77:=fa_of (by kernel_rfl)
def T77_0 (x10 x11:Int) (m0:List V) (m1:List (List (V × V))) (m6 m7 m8:List (V × V)) (m9:List V):S:=⟨[V.junk,V.junk,V.ptr 3 0 0,V.ptr 4 0 0]++(JU 5)++[V.own 9,V.int .i64 x10,V.int .i64 x11]++(JU 13),[O.arena 66 m0,O.marena 63 m1,O.box 23 (V.ptr 5 0 0) false,O.box 88 (V.mp 6) false,O.box 108 (V.fn 77 [V.ptr 2 0 0,V.ptr 3 0 0,V.ptr 4 0 0]) false,O.box 38 (V.agg [V.mp 7,V.mp 8]) false,O.map m6,O.map m7,O.map m8,O.row 3 m9 0]⟩
noncomputable def e77 (x0:Int) (m0:List V) (m1:List (List (V × V))) (m6 m7 m8:List (V × V)):R :=
 opt (behindX m0 m1 m7 m8 x0) fun l =>
 some (.head 0 (T77_0 ((l.map iV).length:Int) 0 m0 m1 m6 m7 m8 (l.map iV)))
theorem e77_eq (x0:Int) (m0:List V) (m1:List (List (V × V))) (m6 m7 m8:List (V × V)):enterK kcB true fa77 [V.int .i64 x0,V.ptr 2 0 0,V.ptr 3 0 0,V.ptr 4 0 0] [O.arena 66 m0,O.marena 63 m1,O.box 23 (V.ptr 5 0 0) false,O.box 88 (V.mp 6) false,O.box 108 (V.fn 77 [V.ptr 2 0 0,V.ptr 3 0 0,V.ptr 4 0 0]) false,O.box 38 (V.agg [V.mp 7,V.mp 8]) false,O.map m6,O.map m7,O.map m8]=e77 x0 m0 m1 m6 m7 m8:=by kernel_rfl
theorem e77_run (x0:Int) (m0:List V) (m1:List (List (V × V))) (m6 m7 m8:List (V × V)) {o:Out} {r:V × List O} (h:e77 x0 m0 m1 m6 m7 m8=some o) (hg:GoN kcB 9 fa77 ⟨true,false⟩ [O.arena 66 m0,O.marena 63 m1,O.box 23 (V.ptr 5 0 0) false,O.box 88 (V.mp 6) false,O.box 108 (V.fn 77 [V.ptr 2 0 0,V.ptr 3 0 0,V.ptr 4 0 0]) false,O.box 38 (V.agg [V.mp 7,V.mp 8]) false,O.map m6,O.map m7,O.map m8] o r):icC cfgB ⟨true,false⟩ 77 [V.int .i64 x0,V.ptr 2 0 0,V.ptr 3 0 0,V.ptr 4 0 0] [O.arena 66 m0,O.marena 63 m1,O.box 23 (V.ptr 5 0 0) false,O.box 88 (V.mp 6) false,O.box 108 (V.fn 77 [V.ptr 2 0 0,V.ptr 3 0 0,V.ptr 4 0 0]) false,O.box 38 (V.agg [V.mp 7,V.mp 8]) false,O.map m6,O.map m7,O.map m8]=some r:=icC_go ikB rfl fa77_eq ((e77_eq ..).trans h) hg
noncomputable def s77_0 (x10 x11:Int) (m0:List V) (m1:List (List (V × V))) (m6 m7 m8:List (V × V)) (m9:List V):R :=
 cond (decide (x11 < x10))
 (gd (decide (0<=x11)) <|
  gd (decide (x11.toNat < m9.length)) <|
  idxK m9 x11.toNat fun v =>
  kI .i64 v fun n =>
  mfK m6 (V.int .i64 n)
 (opt (mapPut m6 (V.int .i64 n) (V.bool true)) fun es =>
  icM cfgB ⟨true,false⟩ mk77 77 [V.int .i64 n,V.ptr 2 0 0,V.ptr 3 0 0,V.ptr 4 0 0] [O.arena 66 m0,O.marena 63 m1,O.box 23 (V.ptr 5 0 0) false,O.box 88 (V.mp 6) false,O.box 108 (V.fn 77 [V.ptr 2 0 0,V.ptr 3 0 0,V.ptr 4 0 0]) false,O.box 38 (V.agg [V.mp 7,V.mp 8]) false,O.map es,O.map m7,O.map m8] fun L =>
  some (.head 0 (T77_0 x10 (W .i64 (x11+1)) L.1 L.2.1 L.2.2.1 L.2.2.2.1 L.2.2.2.2 m9))) fun r =>
  kB r fun b =>
  cond (!b)
 (opt (mapPut m6 (V.int .i64 n) (V.bool true)) fun es_1 =>
  icM cfgB ⟨true,false⟩ mk77 77 [V.int .i64 n,V.ptr 2 0 0,V.ptr 3 0 0,V.ptr 4 0 0] [O.arena 66 m0,O.marena 63 m1,O.box 23 (V.ptr 5 0 0) false,O.box 88 (V.mp 6) false,O.box 108 (V.fn 77 [V.ptr 2 0 0,V.ptr 3 0 0,V.ptr 4 0 0]) false,O.box 38 (V.agg [V.mp 7,V.mp 8]) false,O.map es_1,O.map m7,O.map m8] fun L_1 =>
  some (.head 0 (T77_0 x10 (W .i64 (x11+1)) L_1.1 L_1.2.1 L_1.2.2.1 L_1.2.2.2.1 L_1.2.2.2.2 m9)))
 (some (.head 0 (T77_0 x10 (W .i64 (x11+1)) m0 m1 m6 m7 m8 m9))))
 (some (.doneM (V.tup []) [O.arena 66 m0,O.marena 63 m1,O.box 23 (V.ptr 5 0 0) false,O.box 88 (V.mp 6) false,O.box 108 (V.fn 77 [V.ptr 2 0 0,V.ptr 3 0 0,V.ptr 4 0 0]) false,O.box 38 (V.agg [V.mp 7,V.mp 8]) false,O.map m6,O.map m7,O.map m8,O.row 3 m9 0]))
theorem s77_0_run (x10 x11:Int) (m0:List V) (m1:List (List (V × V))) (m6 m7 m8:List (V × V)) (m9:List V) {o o':Out} (h:s77_0 x10 x11 m0 m1 m6 m7 m8 m9=some o) (hg:Go kcB true 9 fa77 o o'):Go kcB true 9 fa77 (.head 0 (T77_0 x10 x11 m0 m1 m6 m7 m8 m9)) o':=.step (Eq.trans (by kernel_rfl) h) hg
noncomputable def fa47:FA:=⟨2,8,[.tmp 3],[4],
 (.seq
 (.ops false [o1 2 (.box 70 (t' 0)) 0,o1 3 (.assign (.const (.bool false))) 4])
 (.seq
 (.ops false [o1 4 (.fieldAddr 70 (t' 2) 0) 0,o1 5 (.load 3 (t' 4)) 3,o1 6 (.load 3 (t' 1)) 3,o1 7 (.binOp .eql 3 (t' 5) (t' 6) 3) 4,asg 3 7 4])
 (.ret)))⟩
theorem fa47_eq:fnA cfgB.P (cfgB.rxf 47) 47=some fa47:=by kernel_rfl
noncomputable def e47 (a0owner a0mode c0:Int):R :=
 some (.done (V.bool (a0owner==c0)))
theorem e47_eq (a0owner a0mode c0:Int):enterK kcB false fa47 [V.agg [V.int .i64 a0owner,V.int .i64 a0mode],V.ref (V.int .i64 c0) 0] []=e47 a0owner a0mode c0:=by kernel_rfl
theorem e47_run (a0owner a0mode c0:Int) {o:Out} {v:V} (h:e47 a0owner a0mode c0=some o) (hg:Go kcB false 0 fa47 o (.done v)):pcW cfgB 47 [V.agg [V.int .i64 a0owner,V.int .i64 a0mode],V.ref (V.int .i64 c0) 0]=some v:=pcW_go ikB rfl fa47_eq ((e47_eq ..).trans h) hg
theorem e47_done (a0owner a0mode c0:Int) {v:V} (h:e47 a0owner a0mode c0=some (.done v)):pcW cfgB 47 [V.agg [V.int .i64 a0owner,V.int .i64 a0mode],V.ref (V.int .i64 c0) 0]=some v:=e47_run a0owner a0mode c0 h (.refl _)
noncomputable def fa44:FA:=⟨2,8,[.tmp 3],[4],
 (.seq
 (.ops false [o1 2 (.box 70 (t' 0)) 0,o1 3 (.assign (.const (.bool false))) 4])
 (.seq
 (.ops false [o1 4 (.fieldAddr 70 (t' 2) 0) 0,o1 5 (.load 3 (t' 4)) 3,o1 6 (.load 3 (t' 1)) 3,o1 7 (.binOp .eql 3 (t' 5) (t' 6) 3) 4,asg 3 7 4])
 (.ret)))⟩
theorem fa44_eq:fnA cfgB.P (cfgB.rxf 44) 44=some fa44:=by kernel_rfl
noncomputable def e44 (a0owner a0mode c0:Int):R :=
 some (.done (V.bool (a0owner==c0)))
theorem e44_eq (a0owner a0mode c0:Int):enterK kcB false fa44 [V.agg [V.int .i64 a0owner,V.int .i64 a0mode],V.ref (V.int .i64 c0) 0] []=e44 a0owner a0mode c0:=by kernel_rfl
theorem e44_run (a0owner a0mode c0:Int) {o:Out} {v:V} (h:e44 a0owner a0mode c0=some o) (hg:Go kcB false 0 fa44 o (.done v)):pcW cfgB 44 [V.agg [V.int .i64 a0owner,V.int .i64 a0mode],V.ref (V.int .i64 c0) 0]=some v:=pcW_go ikB rfl fa44_eq ((e44_eq ..).trans h) hg
theorem e44_done (a0owner a0mode c0:Int) {v:V} (h:e44 a0owner a0mode c0=some (.done v)):pcW cfgB 44 [V.agg [V.int .i64 a0owner,V.int .i64 a0mode],V.ref (V.int .i64 c0) 0]=some v:=e44_run a0owner a0mode c0 h (.refl _)
noncomputable def fa46:FA:=⟨2,19,[.tmp 4],[3],
 (.seq
 (.ops false [o1 4 (.assign (.const (.int .i64 (0)))) 3])
 (.seq
 (.seq
 (.ops false [mv 6 0 64,o1 7 (.call ⟨(.builtin .len),#[(t' 6)],#[64]⟩) 3,o1 8 (.move (.const (.int .i64 (0)))) 3])
 (.block 0
 (.loop ([2,3,5,6]++List.range' 9 10)
 (.seq
 (.ops false [o1 9 (.binOp .lss 3 (t' 8) (t' 7) 3) 0])
 (.seq
 (.cond (t' 9)
 (.skip)
 (.exit 0))
 (.seq
 (.block 1
 (.seq
 (.ops false [mv 10 8 3,asg 5 10 3])
 (.seq
 (.ops false [mv 11 1 71,mv 12 0 64,mv 13 5 3,o1 14 (.indexAddr 64 (t' 12) (t' 13)) 0,o1 15 (.load 70 (t' 14)) 70,o1 16 (.call ⟨(.value (t' 11)),#[(t' 15)],#[70]⟩) 4])
 (.cond (t' 16)
 (.seq
 (.ops false [mv 17 5 3,asg 4 17 3])
 (.ret))
 (.skip)))))
 (.ops false [o1 18 (.binOp .add 3 (t' 8) (.const (.int .i64 (1))) 3) 3,mv 8 18 3])))))))
 (.seq
 (.ops false [o1 4 (.assign (.const (.int .i64 (-1)))) 3])
 (.ret))))⟩
theorem fa46_eq:fnA cfgB.P (cfgB.rxf 46) 46=some fa46:=by kernel_rfl
def T46a_0 (x0:List V) (x1 x7 x8:Int):S:=⟨[V.sl x0,V.fn 47 [V.ref (V.int .i64 x1) 0],V.junk,V.junk,V.int .i64 0,V.junk,V.junk,V.int .i64 x7,V.int .i64 x8]++(JU 10),[]⟩
noncomputable def e46a (a0:List V) (c0:Int):R :=
 some (.head 0 (T46a_0 a0 c0 (a0.length:Int) 0))
theorem e46a_eq (a0:List V) (c0:Int):enterK kcB false fa46 [V.sl a0,V.fn 47 [V.ref (V.int .i64 c0) 0]] []=e46a a0 c0:=by kernel_rfl
theorem e46a_run (a0:List V) (c0:Int) {o:Out} {v:V} (h:e46a a0 c0=some o) (hg:Go kcB false 0 fa46 o (.done v)):pcW cfgB 46 [V.sl a0,V.fn 47 [V.ref (V.int .i64 c0) 0]]=some v:=pcW_go ikB rfl fa46_eq ((e46a_eq ..).trans h) hg
noncomputable def s46a_0 (x0:List V) (x1 x7 x8:Int):R :=
 cond (decide (x8 < x7))
 (gd (decide (0<=x8)) <|
  idxK x0 x8.toNat fun v =>
  d70 v fun owner mode =>
  pcK cfgB 47 [V.agg [V.int .i64 owner,V.int .i64 mode],V.ref (V.int .i64 x1) 0] fun r =>
  kB r fun r47 =>
  cond r47
 (some (.done (V.int .i64 x8)))
 (some (.head 0 (T46a_0 x0 x1 x7 (W .i64 (x8+1))))))
 (some (.done (V.int .i64 (-1))))
theorem s46a_0_eq (x0:List V) (x1 x7 x8:Int):goK kcB false 0 fa46 0 (T46a_0 x0 x1 x7 x8)=s46a_0 x0 x1 x7 x8:=by kernel_rfl
theorem s46a_0_run (x0:List V) (x1 x7 x8:Int) {o o':Out} (h:s46a_0 x0 x1 x7 x8=some o) (hg:Go kcB false 0 fa46 o o'):Go kcB false 0 fa46 (.head 0 (T46a_0 x0 x1 x7 x8)) o':=.step ((s46a_0_eq ..).trans h) hg
def T46b_0 (x0:List V) (x1 x7 x8:Int):S:=⟨[V.sl x0,V.fn 44 [V.ref (V.int .i64 x1) 0],V.junk,V.junk,V.int .i64 0,V.junk,V.junk,V.int .i64 x7,V.int .i64 x8]++(JU 10),[]⟩
noncomputable def e46b (a0:List V) (c0:Int):R :=
 some (.head 0 (T46b_0 a0 c0 (a0.length:Int) 0))
theorem e46b_eq (a0:List V) (c0:Int):enterK kcB false fa46 [V.sl a0,V.fn 44 [V.ref (V.int .i64 c0) 0]] []=e46b a0 c0:=by kernel_rfl
theorem e46b_run (a0:List V) (c0:Int) {o:Out} {v:V} (h:e46b a0 c0=some o) (hg:Go kcB false 0 fa46 o (.done v)):pcW cfgB 46 [V.sl a0,V.fn 44 [V.ref (V.int .i64 c0) 0]]=some v:=pcW_go ikB rfl fa46_eq ((e46b_eq ..).trans h) hg
noncomputable def s46b_0 (x0:List V) (x1 x7 x8:Int):R :=
 cond (decide (x8 < x7))
 (gd (decide (0<=x8)) <|
  idxK x0 x8.toNat fun v =>
  d70 v fun owner mode =>
  pcK cfgB 44 [V.agg [V.int .i64 owner,V.int .i64 mode],V.ref (V.int .i64 x1) 0] fun r =>
  kB r fun r44 =>
  cond r44
 (some (.done (V.int .i64 x8)))
 (some (.head 0 (T46b_0 x0 x1 x7 (W .i64 (x8+1))))))
 (some (.done (V.int .i64 (-1))))
theorem s46b_0_eq (x0:List V) (x1 x7 x8:Int):goK kcB false 0 fa46 0 (T46b_0 x0 x1 x7 x8)=s46b_0 x0 x1 x7 x8:=by kernel_rfl
theorem s46b_0_run (x0:List V) (x1 x7 x8:Int) {o o':Out} (h:s46b_0 x0 x1 x7 x8=some o) (hg:Go kcB false 0 fa46 o o'):Go kcB false 0 fa46 (.head 0 (T46b_0 x0 x1 x7 x8)) o':=.step ((s46b_0_eq ..).trans h) hg
set_option linter.unusedSimpArgs false
set_option linter.unnecessarySimpa false
set_option maxRecDepth 10000
abbrev HQ:=List (Int × Int)
structure Lk where
 nm:Bs
 held:HQ
 q:HQ
abbrev WL:=List (Int × Bs)
def getA {α:Type} (l:List (Int × α)) (o:Int):Option α:=(l.find? fun p=>p.1==o).map (·.2)
def putA {α:Type}:List (Int × α)->Int->α->List (Int × α)
 | [],o,a=>[(o,a)]
 | p::l,o,a=>if o==p.1 then (p.1,a)::l else p::putA l o a
def delA {α:Type}:List (Int × α)->Int->List (Int × α)
 | [],_=>[]
 | p::l,o=>if o==p.1 then l else p::delA l o
def aE {α:Type} (g:α->V) (p:Int × α):V × V:=(.int .i64 p.1,g p.2)
theorem getA_cons {α:Type} (p:Int × α) (l:List (Int × α)) (o:Int):getA (p::l) o=if p.1=o then some p.2 else getA l o:=by
 unfold getA
 rw [List.find?_cons]
 by_cases h:p.1=o
 ·simp [h]
 ·rw [show (p.1==o)=false by simpa using h,if_neg h]
theorem mf_a {α:Type} (g:α->V) (o:Int):∀l:List (Int × α),mapFind (l.map (aE g)) (.int .i64 o)=some ((getA l o).map g)
 | []=>rfl
 | p::l=>by
  rw [getA_cons]
  show ((eq1 (.int .i64 o) (.int .i64 p.1)).bind fun b=>if b then some (some (g p.2)) else mapFind (l.map (aE g)) (.int .i64 o))=_
  rw [show eq1 (.int .i64 o) (.int .i64 p.1)=some (o==p.1) from rfl,Option.bind_some]
  by_cases h:p.1=o
  ·rw [if_pos (by simp [h]),if_pos h];rfl
  ·rw [if_neg (by simpa using fun e=>h e.symm),if_neg h];exact mf_a g o l
theorem put_a {α:Type} (g:α->V) (o:Int) (a:α):∀l:List (Int × α),mapPut (l.map (aE g)) (.int .i64 o) (g a)=some ((putA l o a).map (aE g))
 | []=>rfl
 | p::l=>by
  show ((eq1 (.int .i64 o) (.int .i64 p.1)).bind fun b=>if b then some ((V.int .i64 p.1,g a)::l.map (aE g)) else (mapPut (l.map (aE g)) (.int .i64 o) (g a)).map (aE g p::·))=_
  rw [show eq1 (.int .i64 o) (.int .i64 p.1)=some (o==p.1) from rfl,Option.bind_some]
  unfold putA
  by_cases h:(o==p.1)=true
  ·rw [if_pos h,if_pos h];rfl
  ·rw [if_neg h,if_neg h,put_a g o a l];rfl
theorem del_a {α:Type} (g:α->V) (o:Int):∀l:List (Int × α),mapDel (l.map (aE g)) (.int .i64 o)=some ((delA l o).map (aE g))
 | []=>rfl
 | p::l=>by
  show ((eq1 (.int .i64 o) (.int .i64 p.1)).bind fun b=>if b then some (l.map (aE g)) else (mapDel (l.map (aE g)) (.int .i64 o)).map (aE g p::·))=_
  rw [show eq1 (.int .i64 o) (.int .i64 p.1)=some (o==p.1) from rfl,Option.bind_some]
  unfold delA
  by_cases h:(o==p.1)=true
  ·rw [if_pos h,if_pos h]
  ·rw [if_neg h,if_neg h,del_a g o l];rfl
def elimK {α:Type} (x:Option α) (kn:R) (k:α->R):R:=match x with | none=>kn | some a=>k a
theorem elimK_n {α:Type} (kn:R) (k:α->R):elimK none kn k=kn:=rfl
theorem elimK_s {α:Type} (a:α) (kn:R) (k:α->R):elimK (some a) kn k=k a:=rfl
theorem mfK_a {α:Type} (g:α->V) (o:Int) (l:List (Int × α)) (kn:R) (k:V->R):mfK (l.map (aE g)) (.int .i64 o) kn k=elimK (getA l o) kn fun a=>k (g a):=by
 unfold mfK
 rw [mf_a]
 cases getA l o<;>rfl
abbrev hE:Int × Int->V × V:=aE (V.int .i64)
abbrev wE:Int × Bs->V × V:=aE V.str
def pV (p:Int × Int):V:=.agg [.int .i64 p.1,.int .i64 p.2]
theorem heldOf_h:∀l:HQ,heldOf (l.map hE)=some l
 | []=>rfl
 | p::l=>by
  have:=heldOf_h l
  unfold heldOf at this |-
  rw [List.map_cons]
  simp only [mapO,this]
  rfl
theorem waitsOf_q:∀l:HQ,waitsOf (l.map pV)=some l
 | []=>rfl
 | p::l=>by
  have:=waitsOf_q l
  unfold waitsOf at this |-
  rw [List.map_cons]
  simp only [mapO,this]
  rfl
def lkV (k:Nat) (e:Lk):V:=.agg [.hm 63 k,.sl (e.q.map pV)]
def ent (ix:Bs->Nat) (nm:Bs):V × V:=(.str nm,.hp 66 (ix nm) 0)
def nms (L:List Lk):List Bs:=L.map Lk.nm
structure Rep (els:List V) (ms:List (List (V × V))) (lk ws:List (V × V)) (ix:Bs->Nat) (L:List Lk) (W:WL):Prop where
 lk:lk=(nms L).map (ent ix)
 ws:ws=W.map wE
 hl:∀e∈L,els[ix e.nm]? = some (lkV (ix e.nm) e)
 hm:∀e∈L,ms[ix e.nm]? = some (e.held.map hE)
 len:els.length=ms.length
 inj:∀e∈L,∀f∈L,ix e.nm=ix f.nm->e.nm=f.nm
 nd:(nms L).Nodup
 nml:∀e∈L,Nm e.nm
def getL (L:List Lk) (nm:Bs):Option Lk:=L.find? fun e=>e.nm==nm
theorem getL_some {L:List Lk} {nm:Bs} {e:Lk} (h:getL L nm=some e):e∈L/\e.nm=nm:=⟨List.mem_of_find?_eq_some h,by simpa using List.find?_some h⟩
theorem getL_none {L:List Lk} {nm:Bs} (h:getL L nm=none):nm∉nms L:=by
 intro hp
 obtain ⟨x,hx,e⟩:=List.mem_map.1 hp
 exact List.find?_eq_none.1 h x hx (by simp [e])
theorem getL_of {L:List Lk} (hn:(nms L).Nodup) {e:Lk} (he:e∈L):getL L e.nm=some e:=by
 induction L with
 | nil=>cases he
 | cons y L ih =>
  unfold getL
  rw [List.find?_cons]
  by_cases h:y.nm=e.nm
  ·rw [show (y.nm==e.nm)=true by simp [h]]
   rcases List.mem_cons.1 he with rfl | hx
   ·rfl
   ·exact absurd (List.mem_map.2 ⟨e,hx,rfl⟩) (h ▸ (List.nodup_cons.1 hn).1)
  ·rw [show (y.nm==e.nm)=false by simpa using h]
   rcases List.mem_cons.1 he with rfl | hx
   ·exact absurd rfl h
   ·exact ih (List.nodup_cons.1 hn).2 hx
theorem eqs (a b:Bs):eq1 (.str a) (.str b)=some (a==b):=rfl
theorem mf_in {ix:Bs->Nat} {n:Bs}:∀{ks:List Bs},n∈ks->mapFind (ks.map (ent ix)) (.str n)=some (some (.hp 66 (ix n) 0))
 | [],h=>nomatch h
 | q::ks,h=>by
  show ((eq1 (.str n) (.str q)).bind fun b=>if b then some (some (V.hp 66 (ix q) 0)) else mapFind (ks.map (ent ix)) (.str n))=_
  rw [eqs,Option.bind_some]
  by_cases hpq:n=q
  ·subst hpq;rw [if_pos (by simp)]
  ·rw [if_neg (by simpa using hpq)];exact mf_in (by simpa [hpq] using h)
theorem mf_out {ix:Bs->Nat} {n:Bs}:∀{ks:List Bs},n∉ks->mapFind (ks.map (ent ix)) (.str n)=some none
 | [],h=>rfl
 | q::ks,h=>by
  show ((eq1 (.str n) (.str q)).bind fun b=>if b then some (some (V.hp 66 (ix q) 0)) else mapFind (ks.map (ent ix)) (.str n))=_
  have hpq:¬n=q:=by rintro rfl;exact h (by simp)
  rw [eqs,Option.bind_some,if_neg (by simpa using hpq)]
  exact mf_out fun hk=>h (by simp [hk])
theorem put_out {ix:Bs->Nat} {n:Bs} {v:V}:∀{ks:List Bs},n∉ks->mapPut (ks.map (ent ix)) (.str n) v=some (ks.map (ent ix)++[(.str n,v)])
 | [],h=>rfl
 | q::ks,h=>by
  show ((eq1 (.str n) (.str q)).bind fun b=>if b then some ((V.str q,v)::ks.map (ent ix)) else (mapPut (ks.map (ent ix)) (.str n) v).map (ent ix q::·))=_
  have hpq:¬n=q:=by rintro rfl;exact h (by simp)
  rw [eqs,Option.bind_some,if_neg (by simpa using hpq),put_out fun hk=>h (by simp [hk])]
  rfl
theorem del_in {ix:Bs->Nat} {n:Bs}:∀{ks:List Bs},mapDel (ks.map (ent ix)) (.str n)=some ((ks.erase n).map (ent ix))
 | []=>rfl
 | q::ks=>by
  show ((eq1 (.str n) (.str q)).bind fun b=>if b then some (ks.map (ent ix)) else (mapDel (ks.map (ent ix)) (.str n)).map (ent ix q::·))=_
  rw [eqs,Option.bind_some]
  by_cases hpq:n=q
  ·subst hpq;rw [if_pos (by simp)];simp
  ·rw [if_neg (by simpa using hpq),del_in,List.erase_cons_tail (by simpa using fun h=>hpq h.symm)];rfl
theorem dL (k:Nat) (e:Lk) (f:Nat->List V->R):d66 (lkV k e) f=f k (e.q.map pV):=rfl
theorem dP (p:Int × Int) (f:Int->Int->R):d70 (pV p) f=f p.1 p.2:=rfl
section
variable {els:List V} {ms:List (List (V × V))} {lk ws:List (V × V)} {ix:Bs->Nat} {L:List Lk} {W:WL} {nm:Bs} {e:Lk}
theorem Rep.mf (h:Rep els ms lk ws ix L W) (he:getL L nm=some e) (kn:R) (k:V->R):mfK lk (.str nm) kn k=k (.hp 66 (ix nm) 0):=by
 obtain ⟨h1,h2⟩:=getL_some he
 unfold mfK
 rw [h.lk,mf_in (show nm∈nms L from List.mem_map.2 ⟨e,h1,h2⟩)]
theorem Rep.mn (h:Rep els ms lk ws ix L W) (he:getL L nm=none) (kn:R) (k:V->R):mfK lk (.str nm) kn k=kn:=by
 unfold mfK
 rw [h.lk,mf_out (getL_none he)]
theorem Rep.ax (h:Rep els ms lk ws ix L W) (he:getL L nm=some e) (k:V->R):idxK els (ix nm) k=k (lkV (ix nm) e):=by
 obtain ⟨h1,h2⟩:=getL_some he
 exact idxK_of (h2 ▸ h.hl e h1)
theorem Rep.mx (h:Rep els ms lk ws ix L W) (he:getL L nm=some e) (k:List (V × V)->R):idxK ms (ix nm) k=k (e.held.map hE):=by
 obtain ⟨h1,h2⟩:=getL_some he
 exact idxK_of (h2 ▸ h.hm e h1)
theorem Rep.can (h:Rep els ms lk ws ix L W) (he:getL L nm=some e) (o m:Int):canX els ms (ix nm) o m=some (canB e.held o m):=by
 obtain ⟨h1,h2⟩:=getL_some he
 have a:=h.hl e h1
 have b:=h.hm e h1
 rw [h2] at a b
 unfold canX lockX
 rw [a]
 simp only [lkV,b,Option.map_some,Option.bind_some,heldOf_h]
theorem Rep.wf (h:Rep els ms lk ws ix L W) (o:Int) (kn:R) (k:V->R):mfK ws (.int .i64 o) kn k=elimK (getA W o) kn fun a=>k (.str a):=by
 rw [h.ws,mfK_a]
def updL (L:List Lk) (nm:Bs) (f:Lk->Lk):List Lk:=L.map fun e=>if e.nm=nm then f e else e
theorem nms_upd {f:Lk->Lk} (hf:∀e,(f e).nm=e.nm):nms (updL L nm f)=nms L:=by
 unfold nms updL
 rw [List.map_map]
 apply List.map_congr_left
 intro x _
 simp only [Function.comp]
 split
 ·exact hf x
 ·rfl
theorem Rep.upd (h:Rep els ms lk ws ix L W) (he:getL L nm=some e) (f:Lk->Lk) (hf:∀e,(f e).nm=e.nm):Rep (els.set (ix nm) (lkV (ix nm) (f e))) (ms.set (ix nm) ((f e).held.map hE)) lk ws ix (updL L nm f) W:=by
 obtain ⟨h1,h2⟩:=getL_some he
 have hmem:∀x∈updL L nm f,∃y∈L,y.nm=x.nm/\((y.nm=nm/\y=e/\x=f e)∨(y.nm≠nm/\x=y)):=by
  intro x hx
  obtain ⟨y,hy,rfl⟩:=List.mem_map.1 hx
  by_cases hn:y.nm=nm
  ·have:y=e:=by
    have:=getL_of h.nd hy
    rw [hn,he] at this
    exact (Option.some.inj this).symm
   rw [if_pos hn]
   exact ⟨y,hy,(hf y).symm,.inl ⟨hn,this,by rw [this]⟩⟩
  ·rw [if_neg hn]
   exact ⟨y,hy,rfl,.inr ⟨hn,rfl⟩⟩
 have hlt:ix nm < els.length:=by
  have:=h.hl e h1
  rw [h2] at this
  exact (List.getElem?_eq_some_iff.1 this).1
 refine ⟨by rw [nms_upd hf];exact h.lk,h.ws,?_,?_,by simp [h.len],?_,by rw [nms_upd hf];exact h.nd,fun x hx=>by obtain ⟨y,hy,e1,_⟩:=hmem x hx;exact e1 ▸ h.nml y hy⟩
 ·intro x hx
  obtain ⟨y,hy,e1,⟨e2,e3,e4⟩ | ⟨e2,e3⟩⟩:=hmem x hx
  ·rw [<-e1,e2,e4];simp [hlt]
  ·subst e3
   rw [List.getElem?_set_ne]
   ·exact h.hl _ hy
   ·intro e5
    rw [<-h2] at e5 e2
    exact e2 (h.inj _ h1 _ hy e5).symm
 ·intro x hx
  obtain ⟨y,hy,e1,⟨e2,e3,e4⟩ | ⟨e2,e3⟩⟩:=hmem x hx
  ·rw [<-e1,e2,e4];simp [<-h.len,hlt]
  ·subst e3
   rw [List.getElem?_set_ne]
   ·exact h.hm _ hy
   ·intro e5
    rw [<-h2] at e5 e2
    exact e2 (h.inj _ h1 _ hy e5).symm
 ·intro x hx y hy e1
  obtain ⟨x',hx',ex,_⟩:=hmem x hx
  obtain ⟨y',hy',ey,_⟩:=hmem y hy
  rw [<-ex,<-ey] at e1 |-
  exact h.inj _ hx' _ hy' e1
theorem set_self {α:Type} {l:List α} {k:Nat} {x:α} (h:l[k]? = some x):l.set k x=l:=by
 apply List.ext_getElem?
 intro i
 by_cases hi:k=i
 ·subst hi;rw [List.getElem?_set_self (List.getElem?_eq_some_iff.1 h).1,h]
 ·rw [List.getElem?_set_ne hi]
theorem Rep.setW (h:Rep els ms lk ws ix L W) (W':WL):Rep els ms lk (W'.map wE) ix L W':=⟨h.lk,rfl,h.hl,h.hm,h.len,h.inj,h.nd,h.nml⟩
def updI (ix:Bs->Nat) (p:Bs) (n:Nat):Bs->Nat:=fun q=>if q=p then n else ix q
def newL (nm:Bs):Lk:=⟨nm,[],[]⟩
theorem Rep.lt (h:Rep els ms lk ws ix L W) (he:e∈L):ix e.nm < els.length:=(List.getElem?_eq_some_iff.1 (h.hl e he)).1
theorem Rep.add (h:Rep els ms lk ws ix L W) (hn:getL L nm=none) (hnm:Nm nm):Rep (els++[lkV els.length (newL nm)]) (ms++[[]]) (lk++[(.str nm,.hp 66 els.length 0)]) ws (updI ix nm els.length) (L++[newL nm]) W:=by
 have hx:=getL_none hn
 have hne:∀y∈L,y.nm≠nm:=fun y hy e=>hx (List.mem_map.2 ⟨y,hy,e⟩)
 have hu:∀y∈L,updI ix nm els.length y.nm=ix y.nm:=fun y hy=>by unfold updI;rw [if_neg (hne y hy)]
 have hux:updI ix nm els.length nm=els.length:=by simp [updI]
 refine ⟨?_,h.ws,?_,?_,by simp [h.len],?_,?_,fun y hy=>by rcases List.mem_append.1 hy with hy | hy;exact h.nml y hy;simp only [List.mem_singleton] at hy;subst hy;exact hnm⟩
 ·rw [h.lk]
  simp only [nms,List.map_append,List.map_cons,List.map_nil]
  congr 1
  ·rw [List.map_map,List.map_map]
   apply List.map_congr_left
   intro y hy
   simp [ent,hu y hy]
  ·simp [ent,newL,hux]
 ·intro y hy
  rcases List.mem_append.1 hy with hy | hy
  ·rw [hu y hy,List.getElem?_append_left (h.lt hy)];exact h.hl y hy
  ·simp only [List.mem_singleton] at hy
   subst hy
   show (els++_)[updI ix nm els.length nm]? = some (lkV (updI ix nm els.length nm) (newL nm))
   rw [hux];simp
 ·intro y hy
  rcases List.mem_append.1 hy with hy | hy
  ·rw [hu y hy,List.getElem?_append_left (by rw [<-h.len];exact h.lt hy)];exact h.hm y hy
  ·simp only [List.mem_singleton] at hy
   subst hy
   show (ms++_)[updI ix nm els.length nm]? = some _
   rw [hux,h.len];simp [newL]
 ·intro y hy z hz e
  rcases List.mem_append.1 hy with hy1 | hy1<;>rcases List.mem_append.1 hz with hz1 | hz1
  ·rw [hu y hy1,hu z hz1] at e;exact h.inj _ hy1 _ hz1 e
  ·simp only [List.mem_singleton] at hz1
   rw [hu y hy1,hz1,show (newL nm).nm=nm from rfl,hux] at e
   exact absurd (h.lt hy1) (by omega)
  ·simp only [List.mem_singleton] at hy1
   rw [hu z hz1,hy1,show (newL nm).nm=nm from rfl,hux] at e
   exact absurd (h.lt hz1) (by omega)
  ·simp only [List.mem_singleton] at hy1 hz1
   rw [hy1,hz1]
 ·simp only [nms,List.map_append,List.map_cons,List.map_nil]
  rw [List.nodup_append]
  refine ⟨h.nd,by simp,?_⟩
  intro a ha b hb
  simp only [List.mem_singleton] at hb
  subst hb
  rintro rfl
  exact hx ha
def cutL (L:List Lk) (nm:Bs):List Lk:=L.filter fun e=>e.nm != nm
theorem nms_cut (L:List Lk) (nm:Bs):nms (cutL L nm)=(nms L).filter (· != nm):=by
 simp [nms,cutL,List.filter_map]
 rfl
theorem Rep.cut (h:Rep els ms lk ws ix L W) (nm:Bs):Rep els ms (((nms L).erase nm).map (ent ix)) ws ix (cutL L nm) W:=by
 refine ⟨?_,h.ws,fun x hx=>h.hl x (List.mem_filter.1 hx).1,fun x hx=>h.hm x (List.mem_filter.1 hx).1,h.len,fun x hx y hy=>h.inj x (List.mem_filter.1 hx).1 y (List.mem_filter.1 hy).1,?_,fun x hx=>h.nml x (List.mem_filter.1 hx).1⟩
 ·rw [nms_cut,<-h.nd.erase_eq_filter]
 ·rw [nms_cut];exact h.nd.filter _
def atL (L:List Lk) (nm:Bs):List Lk:=match getL L nm with | some _=>L | none=>L++[newL nm]
theorem getL_add (h:getL L nm=none):getL (L++[newL nm]) nm=some (newL nm):=by
 unfold getL at h |-
 rw [List.find?_append,h]
 simp [newL]
theorem atL_get (L:List Lk) (nm:Bs):∃e,getL (atL L nm) nm=some e/\(getL L nm=some e∨(getL L nm=none/\e=newL nm)):=by
 unfold atL
 cases h:getL L nm with
 | some e=>exact ⟨e,h,.inl rfl⟩
 | none=>exact ⟨_,getL_add h,.inr ⟨rfl,rfl⟩⟩
theorem Rep.nms (h:Rep els ms lk ws ix L W):∀x∈nms L,Nm x:=fun x hx=>by
 obtain ⟨e,he,rfl⟩:=List.mem_map.1 hx
 exact h.nml e he
theorem at_ok (h:Rep els ms lk ws ix L W) (nm:Bs) (hnm:Nm nm):∃els' ms' lk' ix',icC cfgB ⟨true,false⟩ 27 [.ptr 2 0 0,.str nm] (tm els ms lk ws)=some (mk27 (ix' nm,els',ms',lk',ws))/\Rep els' ms' lk' ws ix' (atL L nm) W:=by
 cases hn:getL L nm with
 | some e =>
  refine ⟨els,ms,lk,ix,?_,by unfold atL;rw [hn];exact h⟩
  refine e27_run _ _ _ _ _ (o:=.doneM ?v1 ?m1) ?h1 (.done ?n1)
  case h1 =>
   unfold e27
   rw [h.mf hn,kP_mk,h.mf hn,kP_mk]
  case n1=>kernel_rfl
 | none =>
  have h2:=h.add hn hnm
  have hg:=getL_add hn
  refine ⟨_,_,_,_,?_,by unfold atL;rw [hn];exact h2⟩
  refine e27_run _ _ _ _ _ (o:=.doneM ?v2 ?m2) ?h2 (.done ?n2)
  case h2 =>
   unfold e27
   rw [h.mn hn,h.lk,put_out (getL_none hn),opt_mk,<-h.lk,h2.mf hg,kP_mk,<-h.len]
  case n2=>kernel_rfl
def modeA (L:List Lk) (o:Int) (nm:Bs):Int:=((getL L nm).bind fun e=>getA e.held o).getD 0
theorem mode_ok (h:Rep els ms lk ws ix L W) (o:Int) (nm:Bs):icC cfgB ⟨true,false⟩ 19 [.ptr 2 0 0,.int .i64 o,.str nm] (tm els ms lk ws)=some (mk19 (modeA L o nm,els,ms,lk,ws)):=by
 unfold modeA
 refine e19_run _ _ _ _ _ _ (o:=.doneM (.int .i64 (modeA L o nm)) (tm els ms lk ws)) ?_ (.done (by kernel_rfl))
 unfold e19 modeA
 cases hn:getL L nm with
 | none=>rw [h.mn hn];rfl
 | some e =>
  rw [h.mf hn,kP_mk,h.mf hn,kP_mk,h.ax hn,dL,h.mx hn,mfK_a]
  simp only [Option.bind_some]
  cases getA e.held o<;>rfl
def tidyL (L:List Lk) (nm:Bs):List Lk:=match getL L nm with | some e=>if e.held=[]/\e.q=[] then cutL L nm else L | none=>L
theorem lenZ {α β:Type} (f:α->β) (l:List α):(((l.map f).length:Int)==0)=decide (l=[]):=by
 cases l with
 | nil=>rfl
 | cons a l=>simp;omega
theorem tidy_ok (h:Rep els ms lk ws ix L W) (nm:Bs):∃lk',icC cfgB ⟨true,false⟩ 63 [.ptr 2 0 0,.str nm] (tm els ms lk ws)=some (mk63 (els,ms,lk',ws))/\Rep els ms lk' ws ix (tidyL L nm) W:=by
 cases hn:getL L nm with
 | none =>
  refine ⟨lk,e63_run _ _ _ _ _ (o:=.doneM ?v1 ?m1) ?h1 (.done ?n1),by unfold tidyL;rw [hn];exact h⟩
  case h1=>unfold e63;rw [h.mn hn]
  case n1=>kernel_rfl
 | some e =>
  by_cases h1:e.held=[]
  ·by_cases h2:e.q=[]
   ·refine ⟨_,e63_run _ _ _ _ _ (o:=.doneM ?v2 ?m2) ?h2 (.done ?n2),by unfold tidyL;rw [hn];simp only [h1,h2,and_self,if_true];exact h.cut nm⟩
    case h2=>unfold e63;rw [h.mf hn,kP_mk,h.ax hn,dL,h.mx hn,lenZ,decide_eq_true h1,cond_true,h.ax hn,dL,lenZ,decide_eq_true h2,cond_true,h.lk,del_in,opt_mk]
    case n2=>kernel_rfl
   ·refine ⟨_,e63_run _ _ _ _ _ (o:=.doneM ?v3 ?m3) ?h3 (.done ?n3),by unfold tidyL;rw [hn];simp only [h2,and_false,if_false];exact h⟩
    case h3=>unfold e63;rw [h.mf hn,kP_mk,h.ax hn,dL,h.mx hn,lenZ,decide_eq_true h1,cond_true,h.ax hn,dL,lenZ,decide_eq_false h2,cond_false]
    case n3=>kernel_rfl
  ·refine ⟨_,e63_run _ _ _ _ _ (o:=.doneM ?v4 ?m4) ?h4 (.done ?n4),by unfold tidyL;rw [hn];simp only [h1,false_and,if_false];exact h⟩
   case h4=>unfold e63;rw [h.mf hn,kP_mk,h.ax hn,dL,h.mx hn,lenZ,decide_eq_false h1,cond_false]
   case n4=>kernel_rfl
end
theorem wi (k:Nat) (h:k < 1000000):W .i64 ((k:Int)+1)=((k+1:Nat):Int):=by rw [W_i64 (by omega)];omega
def idxF {α:Type} (q:α->Bool):Nat->List α->Int
 | _,[]=>-1
 | k,c::r=>if q c then (k:Int) else idxF q (k+1) r
theorem idxF_spec {α:Type} (q:α->Bool):∀(r:List α) (k:Nat),(idxF q k r = -1/\∀c∈r,q c=false)∨∃pre c post,r=pre++c::post/\(∀x∈pre,q x=false)/\q c=true/\idxF q k r=((k+pre.length:Nat):Int)
 | [],k=>.inl ⟨rfl,fun _ h=>nomatch h⟩
 | c::r,k=>by
  unfold idxF
  by_cases h:q c=true
  ·rw [if_pos h];exact .inr ⟨[],c,r,rfl,by simp,h,by simp⟩
  ·rw [if_neg h]
   rcases idxF_spec q r (k+1) with ⟨h1,h2⟩ | ⟨pre,d,post,h1,h2,h3,h4⟩
   ·exact .inl ⟨h1,by intro x hx;rcases List.mem_cons.1 hx with rfl | hx;simpa using h;exact h2 x hx⟩
   ·refine .inr ⟨c::pre,d,post,by rw [h1];rfl,?_,h3,by rw [h4];simp;omega⟩
    intro x hx;rcases List.mem_cons.1 hx with rfl | hx;simpa using h;exact h2 x hx
theorem wc_ok (p:Int × Int) (o:Int):pcW cfgB 47 [.agg [.int .i64 p.1,.int .i64 p.2],.ref (.int .i64 o) 0]=some (.bool (p.1==o)):=e47_done _ _ _ rfl
theorem dc_ok (p:Int × Int) (o:Int):pcW cfgB 44 [.agg [.int .i64 p.1,.int .i64 p.2],.ref (.int .i64 o) 0]=some (.bool (p.1==o)):=e44_done _ _ _ rfl
theorem idxa_loop (q:HQ) (o:Int) (hq:q.length<=100000):∀(r:HQ) (k:Nat),q.drop k=r->k<=q.length ->
  Go kcB false 0 fa46 (.head 0 (T46a_0 (q.map pV) o (q.length:Int) (k:Int))) (.done (.int .i64 (idxF (fun p=>p.1==o) k r)))
 | [],k,h,hk=>by
  have:q.length<=k:=List.drop_eq_nil_iff.1 h
  refine s46a_0_run _ _ _ _ ?_ (.refl _)
  unfold s46a_0
  rw [decide_eq_false (by omega)];rfl
 | c::r,k,h,hk=>by
  obtain ⟨h1,h2,h3⟩:=drop_cons h
  by_cases hc:(c.1==o)=true
  ·refine s46a_0_run _ _ _ _ ?_ (.refl _)
   unfold s46a_0 idxF
   rw [decide_eq_true (by omega),cond_true,gd_of (by simp),idxK_c h1,dP,pcK_of (wc_ok c o),kB_mk,hc,if_pos rfl];rfl
  ·refine s46a_0_run _ _ _ _ ?_ (by unfold idxF;rw [if_neg hc];exact idxa_loop q o hq r (k+1) h2 (by omega))
   unfold s46a_0
   rw [decide_eq_true (by omega),cond_true,gd_of (by simp),idxK_c h1,dP,pcK_of (wc_ok c o),kB_mk,show (c.1==o)=false by simpa using hc,wi k (by omega)];rfl
theorem idxa_ok (q:HQ) (o:Int) (hq:q.length<=100000):pcW cfgB 46 [.sl (q.map pV),.fn 47 [.ref (.int .i64 o) 0]]=some (.int .i64 (idxF (fun p=>p.1==o) 0 q)) :=
 e46a_run _ _ (by unfold e46a;rw [List.length_map];rfl) (idxa_loop q o hq q 0 rfl (by omega))
theorem idxb_loop (q:HQ) (o:Int) (hq:q.length<=100000):∀(r:HQ) (k:Nat),q.drop k=r->k<=q.length ->
  Go kcB false 0 fa46 (.head 0 (T46b_0 (q.map pV) o (q.length:Int) (k:Int))) (.done (.int .i64 (idxF (fun p=>p.1==o) k r)))
 | [],k,h,hk=>by
  have:q.length<=k:=List.drop_eq_nil_iff.1 h
  refine s46b_0_run _ _ _ _ ?_ (.refl _)
  unfold s46b_0
  rw [decide_eq_false (by omega)];rfl
 | c::r,k,h,hk=>by
  obtain ⟨h1,h2,h3⟩:=drop_cons h
  by_cases hc:(c.1==o)=true
  ·refine s46b_0_run _ _ _ _ ?_ (.refl _)
   unfold s46b_0 idxF
   rw [decide_eq_true (by omega),cond_true,gd_of (by simp),idxK_c h1,dP,pcK_of (dc_ok c o),kB_mk,hc,if_pos rfl];rfl
  ·refine s46b_0_run _ _ _ _ ?_ (by unfold idxF;rw [if_neg hc];exact idxb_loop q o hq r (k+1) h2 (by omega))
   unfold s46b_0
   rw [decide_eq_true (by omega),cond_true,gd_of (by simp),idxK_c h1,dP,pcK_of (dc_ok c o),kB_mk,show (c.1==o)=false by simpa using hc,wi k (by omega)];rfl
theorem idxb_ok (q:HQ) (o:Int) (hq:q.length<=100000):pcW cfgB 46 [.sl (q.map pV),.fn 44 [.ref (.int .i64 o) 0]]=some (.int .i64 (idxF (fun p=>p.1==o) 0 q)) :=
 e46b_run _ _ (by unfold e46b;rw [List.length_map];rfl) (idxb_loop q o hq q 0 rfl (by omega))
section
variable {els:List V} {ms:List (List (V × V))} {lk ws:List (V × V)} {ix:Bs->Nat} {L:List Lk} {W:WL} {nm:Bs} {e:Lk}
structure Sz (N:Nat) (L:List Lk):Prop where
 n:N<=4000
 len:L.length<=N
 hq:∀e∈L,e.held.length+e.q.length<=N
 rh:∀e∈L,∀p∈e.held,-9223372036854775808<=p.1/\p.1<=9223372036854775807
 rq:∀e∈L,∀p∈e.q,-9223372036854775808<=p.1/\p.1<=9223372036854775807
theorem Sz.held {N:Nat} (h:Sz N L):∀e∈L,e.held.length<=N:=fun e he=>by have:=h.hq e he;omega
theorem Sz.q {N:Nat} (h:Sz N L):∀e∈L,e.q.length<=N:=fun e he=>by have:=h.hq e he;omega
def waitA (L:List Lk) (W:WL) (o:Int):Option (Bs × Int):=(getA W o).bind fun n=>(getL L n).bind fun e=>(getA e.q o).map fun m=>(n,m)
def WOK (L:List Lk) (W:WL):Prop:=∀o n,getA W o=some n->∃e m,getL L n=some e/\getA e.q o=some m
theorem getA_split {α:Type} {l:List (Int × α)} {o:Int} {a:α} (h:getA l o=some a):∃pre post,l=pre++(o,a)::post/\∀x∈pre,(x.1==o)=false:=by
 induction l with
 | nil=>cases h
 | cons p l ih =>
  rw [getA_cons] at h
  by_cases hp:p.1=o
  ·rw [if_pos hp] at h;cases h
   exact ⟨[],l,by rw [<-hp];rfl,by simp⟩
  ·rw [if_neg hp] at h
   obtain ⟨pre,post,e1,e2⟩:=ih h
   exact ⟨p::pre,post,by rw [e1];rfl,fun x hx=>by
    rcases List.mem_cons.1 hx with rfl | hx
    ·simpa using hp
    ·exact e2 x hx⟩
theorem idxF_get {l:HQ} {o m:Int} (h:getA l o=some m):∃k:Nat,idxF (fun p=>p.1==o) 0 l=(k:Int)/\l[k]? = some (o,m):=by
 obtain ⟨pre,post,e1,e2⟩:=getA_split h
 rcases idxF_spec (fun p:Int × Int=>p.1==o) l 0 with ⟨_,h2⟩ | ⟨pre',c,post',h1,h2,h3,h4⟩
 ·have:=h2 (o,m) (by rw [e1];simp)
  simp at this
 ·have hpre:pre=pre':=by
   rw [e1] at h1
   clear h4 e1
   induction pre generalizing pre' with
   | nil =>
    cases pre' with
    | nil=>rfl
    | cons y pre' =>
     simp only [List.nil_append,List.cons_append,List.cons.injEq] at h1
     have:=h2 y (by simp)
     rw [<-h1.1] at this
     simp at this
   | cons x pre ih =>
    cases pre' with
    | nil =>
     simp only [List.nil_append,List.cons_append,List.cons.injEq] at h1
     have:=e2 x (by simp)
     rw [h1.1] at this
     rw [h3] at this;cases this
    | cons y pre' =>
     simp only [List.cons_append,List.cons.injEq] at h1
     rw [h1.1,ih (fun z hz=>e2 z (by simp [hz])) pre' h1.2 (fun z hz=>h2 z (by simp [hz]))]
  subst hpre
  refine ⟨pre.length,by rw [h4];simp,?_⟩
  rw [e1];simp
theorem waits_ok (h:Rep els ms lk ws ix L W) {n:Nat} (hs:Sz n L) (hw:WOK L W) (o:Int) :
  icC cfgB ⟨true,false⟩ 17 [.ptr 2 0 0,.int .i64 o] (tm els ms lk ws)=some (mk17 (((waitA L W o).getD ([],0)).1,((waitA L W o).getD ([],0)).2,(waitA L W o).isSome,els,ms,lk,ws)):=by
 cases hg:getA W o with
 | none =>
  have:waitA L W o=none:=by unfold waitA;rw [hg];rfl
  rw [this]
  refine e17_run _ _ _ _ _ (o:=.doneM ?v1 ?m1) ?h1 (.done ?n1)
  case h1=>unfold e17;rw [h.wf,hg,elimK_n]
  case n1=>kernel_rfl
 | some nm =>
  obtain ⟨e,m,he,hm⟩:=hw o nm hg
  have:waitA L W o=some (nm,m):=by unfold waitA;rw [hg,Option.bind_some,he,Option.bind_some,hm];rfl
  rw [this]
  obtain ⟨k,hk,hkm⟩:=idxF_get hm
  have hql:=hs.q e (getL_some he).1
  have:=hs.n
  refine e17_run _ _ _ _ _ (o:=.doneM ?v2 ?m2) ?h2 (.done ?n2)
  case h2 =>
   unfold e17
   rw [h.wf,hg,elimK_s,kS_mk,h.mf he,kP_mk,h.ax he,dL,pcK_of (idxa_ok e.q o (by omega)),kI_mk,hk,gd_of (by simp),idxK_c hkm,dP]
  case n2=>kernel_rfl
def leadN (held:HQ):HQ->Nat
 | []=>0
 | p::q=>if (getA held p.1).getD 0≠0 then leadN held q+1 else 0
def placeN (e:Lk) (o:Int):Nat:=match getA e.held o with | none=>e.q.length | some _=>leadN e.held e.q
theorem leadN_le (held:HQ):∀q,leadN held q<=q.length
 | []=>Nat.le_refl _
 | p::q=>by unfold leadN;have:=leadN_le held q;split<;>simp<;>omega
theorem placeN_le (e:Lk) (o:Int):placeN e o<=e.q.length:=by
 unfold placeN
 split
 ·exact Nat.le_refl _
 ·exact leadN_le _ _
theorem place_loop (h:Rep els ms lk ws ix L W) {n:Nat} (hs:Sz n L) (he:getL L nm=some e):∀(r:HQ) (k:Nat),e.q.drop k=r->k<=e.q.length ->
  Go kcB true 2 fa58 (.head 0 (T58_0 (ix nm) (k:Int) els ms)) (.doneM (.int .i64 ((k+leadN e.held r:Nat):Int)) [.arena 66 els,.marena 63 ms])
 | [],k,hd,hk=>by
  have:e.q.length<=k:=List.drop_eq_nil_iff.1 hd
  refine s58_0_run _ _ _ _ ?_ (.refl _)
  unfold s58_0
  rw [h.ax he,dL,decide_eq_false (by rw [List.length_map];omega)];rfl
 | c::r,k,hd,hk=>by
  obtain ⟨h1,h2,h3⟩:=drop_cons hd
  have:=hs.q e (getL_some he).1
  have:=hs.n
  have base:∀x:R,s58_0 (ix nm) (k:Int) els ms=elimK (getA e.held c.1) (some (.doneM (.int .i64 (k:Int)) [.arena 66 els,.marena 63 ms])) fun n=>cond (n != (0:Int)) (some (.head 0 (T58_0 (ix nm) ((k+1:Nat):Int) els ms))) (some (.doneM (.int .i64 (k:Int)) [.arena 66 els,.marena 63 ms])):=by
   intro _
   unfold s58_0
   rw [h.ax he,dL,decide_eq_true (by rw [List.length_map];omega),cond_true,h.ax he,dL,h.ax he,dL,gd_of (by simp),idxK_c h1,dP,h.mx he,mfK_a,wi k (by omega)]
   rfl
  cases hg:getA e.held c.1 with
  | none =>
   have hl:leadN e.held (c::r)=0:=by unfold leadN;rw [hg];simp
   rw [hl]
   exact s58_0_run _ _ _ _ (by rw [base none,hg];rfl) (.refl _)
  | some m =>
   by_cases hm:m=0
   ·have hl:leadN e.held (c::r)=0:=by unfold leadN;rw [hg];simp [hm]
    rw [hl]
    exact s58_0_run _ _ _ _ (by rw [base none,hg,elimK_s,ibne_f hm];rfl) (.refl _)
   ·have hl:k+leadN e.held (c::r)=k+1+leadN e.held r:=by conv=>lhs;unfold leadN;rw [hg];simp [hm]
                                                         omega
    rw [hl]
    exact s58_0_run _ _ _ _ (by rw [base none,hg,elimK_s,ibne_t hm];rfl) (place_loop h hs he r (k+1) h2 (by omega))
theorem place_ok (h:Rep els ms lk ws ix L W) {n:Nat} (hs:Sz n L) (he:getL L nm=some e) (o:Int) :
  icC cfgB ⟨true,false⟩ 58 [.hp 66 (ix nm) 0,.int .i64 o] [.arena 66 els,.marena 63 ms]=some (mk58 ((placeN e o:Int),els,ms)):=by
 cases hg:getA e.held o with
 | none =>
  have:placeN e o=e.q.length:=by unfold placeN;rw [hg]
  rw [this]
  refine e58_run _ _ _ _ (o:=.doneM ?v1 ?m1) ?h1 (.done ?n1)
  case h1=>unfold e58;rw [h.ax he,dL,h.mx he,mfK_a,hg,elimK_n,h.ax he,dL,List.length_map]
  case n1=>kernel_rfl
 | some m =>
  have:placeN e o=0+leadN e.held e.q:=by unfold placeN;rw [hg];simp
  rw [this]
  refine e58_run _ _ _ _ ?h2 ⟨_,_,place_loop h hs he e.q 0 rfl (by omega),by kernel_rfl⟩
  case h2=>unfold e58;rw [h.ax he,dL,h.mx he,mfK_a,hg,elimK_s,kI_mk];rfl
theorem keyInts_h:∀{l:HQ},(∀p∈l,-9223372036854775808<=p.1/\p.1<=9223372036854775807)->keyInts (l.map hE)=some (l.map (·.1))
 | [],_=>rfl
 | p::l,h=>by
  have ih:=keyInts_h (l:=l) fun x hx=>h x (by simp [hx])
  unfold keyInts at ih |-
  rw [List.map_cons]
  have hk:keyI (hE p).1=some p.1:=by
   show keyI (.int .i64 p.1)=some p.1
   exact if_pos (h p (by simp))
  simp only [mapO,hk,ih,Option.bind_some,Option.map_some]
  rfl
theorem keyStrs_l (ix:Bs->Nat):∀ks:List Bs,(∀x∈ks,Nm x)->keyStrs (ks.map (ent ix))=some ks
 | [],_=>rfl
 | p::l,hh=>by
  have ih:=keyStrs_l ix l fun x hx=>hh x (by simp [hx])
  unfold keyStrs at ih |-
  rw [List.map_cons]
  have hk:keyS (ent ix p).1=some p:=if_pos (hh p (by simp))
  simp only [mapO,hk,ih,Option.bind_some,Option.map_some]
def ints (l:List Int):List V:=l.map iV
def holdA (L:List Lk) (nm:Bs):List Int:=match getL L nm with | none=>[] | some e=>srt (e.held.map (·.1))
theorem holders_ok (h:Rep els ms lk ws ix L W) {n:Nat} (hs:Sz n L) (nm:Bs):icC cfgB ⟨true,false⟩ 23 [.ptr 2 0 0,.str nm] (tm els ms lk ws)=some (mk23 (els,ms,lk,ws,ints (holdA L nm))):=by
 unfold holdA
 cases he:getL L nm with
 | none =>
  refine e23_run _ _ _ _ _ (o:=.doneM ?v1 ?m1) ?h1 (.done ?n1)
  case h1=>unfold e23;rw [h.mn he]
  case n1=>kernel_rfl
 | some e =>
  have hm:=(getL_some he).1
  have:=hs.held e hm
  have:=hs.n
  refine e23_run _ _ _ _ _ (o:=.doneM ?v2 ?m2) ?h2 (.done ?n2)
  case h2=>unfold e23;rw [h.mf he,kP_mk,h.mf he,kP_mk,h.ax he,dL,h.mx he,keyInts_h (hs.rh e hm),opt_mk,gd_of (decide_eq_true (by rw [List.length_map];omega))]
  case n2=>kernel_rfl
def queueA (L:List Lk) (nm:Bs):List Int:=match getL L nm with | none=>[] | some e=>e.q.map (·.1)
theorem queue_loop (q:HQ) (hq:q.length<=60000):∀(r:HQ) (k:Nat),q.drop k=r->k<=q.length ->
  Go kcB true 5 fa25 (.head 0 (T25_0 (q.map pV) (q.length:Int) (k:Int) els ms lk ws (ints ((q.take k).map (·.1))))) (.doneM (.own 6) (tm els ms lk ws++[.row 3 [] 0,.row 3 (ints (q.map (·.1))) 0]))
 | [],k,h,hk=>by
  have hk':q.length<=k:=List.drop_eq_nil_iff.1 h
  refine s25_0_run _ _ _ _ _ _ _ _ ?_ (.refl _)
  unfold s25_0
  rw [decide_eq_false (by omega),cond_false,List.take_of_length_le hk'];rfl
 | c::r,k,h,hk=>by
  obtain ⟨h1,h2,h3⟩:=drop_cons h
  refine s25_0_run _ _ _ _ _ _ _ _ ?_ (queue_loop q hq r (k+1) h2 (by omega))
  unfold s25_0
  rw [decide_eq_true (by omega),cond_true,gd_of (by simp),idxK_c h1,dP,gd_of (decide_eq_true (by simp [ints];omega)),wi k (by omega)]
  have:ints ((q.take k).map (·.1))++[V.int .i64 c.1]=ints ((q.take (k+1)).map (·.1)):=by
   rw [List.take_add_one,h1];simp [ints,iV]
  rw [this]
theorem queue_ok (h:Rep els ms lk ws ix L W) {n:Nat} (hs:Sz n L) (nm:Bs):icC cfgB ⟨true,false⟩ 25 [.ptr 2 0 0,.str nm] (tm els ms lk ws)=some (mk25 (els,ms,lk,ws,ints (queueA L nm))):=by
 unfold queueA
 cases he:getL L nm with
 | none =>
  refine e25_run _ _ _ _ _ (o:=.doneM ?v1 ?m1) ?h1 (.done ?n1)
  case h1=>unfold e25;rw [h.mn he]
  case n1=>kernel_rfl
 | some e =>
  have:=hs.q e (getL_some he).1
  have:=hs.n
  refine e25_run _ _ _ _ _ ?h2 ⟨_,_,queue_loop (els:=els) (ms:=ms) (lk:=lk) (ws:=ws) e.q (by omega) e.q 0 rfl (by omega),by kernel_rfl⟩
  case h2=>unfold e25;rw [h.mf he,kP_mk,h.mf he,kP_mk,h.ax he,dL,List.length_map];rfl
def hoV (p:Bs × Int):V:=.agg [.str p.1,.int .i64 p.2]
def heldN (L:List Lk) (o:Int) (ks:List Bs):List (Bs × Int):=ks.filterMap fun n=>((getL L n).bind fun e=>getA e.held o).map fun m=>(n,m)
def heldA (L:List Lk) (o:Int):List (Bs × Int):=heldN L o (srtS (nms L))
theorem srtS_mem {l:List Bs} {x:Bs}:x∈srtS l↔x∈l:=(List.mergeSort_perm l _).mem_iff
theorem srtS_len (l:List Bs):(srtS l).length=l.length:=(List.mergeSort_perm l _).length_eq
theorem getL_mem {L:List Lk} {n:Bs} (h:n∈nms L):∃e,getL L n=some e:=by
 cases hg:getL L n with
 | some e=>exact ⟨e,rfl⟩
 | none=>exact absurd h (getL_none hg)
theorem heldN_len (L:List Lk) (o:Int) (ks:List Bs):(heldN L o ks).length<=ks.length:=List.length_filterMap_le _ _
theorem held_loop (h:Rep els ms lk ws ix L W) (o:Int) (ks:List Bs) (hks:ks.length<=60000) (hin:∀x∈ks,x∈nms L):∀(r:List Bs) (k:Nat),ks.drop k=r->k<=ks.length ->
  Go kcB true 5 fa15 (.head 0 (T15_0 o (ks.length:Int) (k:Int) els ms lk ws ((heldN L o (ks.take k)).map hoV) (ks.map sV))) (.doneM (.own 6) (tm els ms lk ws++[.row 50 [] 0,.row 50 ((heldN L o ks).map hoV) 0,.row 9 (ks.map sV) 0]))
 | [],k,hd,hk=>by
  have hk':ks.length<=k:=List.drop_eq_nil_iff.1 hd
  refine s15_0_run _ _ _ _ _ _ _ _ _ ?_ (.refl _)
  unfold s15_0
  rw [decide_eq_false (by omega),cond_false,List.take_of_length_le hk'];rfl
 | c::r,k,hd,hk=>by
  obtain ⟨h1,h2,h3⟩:=drop_cons hd
  obtain ⟨e,he⟩:=getL_mem (hin c (List.mem_of_getElem? h1))
  refine s15_0_run _ _ _ _ _ _ _ _ _ ?_ (held_loop h o ks hks hin r (k+1) h2 (by omega))
  have hlen:((heldN L o (ks.take k)).map hoV).length+([V.agg [V.str c,V.int .i64 0]]:List V).length<=16777216:=by
   have:=heldN_len L o (ks.take k)
   simp at this |-;omega
  unfold s15_0
  rw [decide_eq_true (by omega),cond_true,gd_of (by simp),gd_of (decide_eq_true (by simp;omega)),idxK_c h1]
  show (kS (.str c) _)=_
  rw [kS_mk,h.mf he,kP_mk,h.ax he,dL,h.mx he,mfK_a,wi k (by omega)]
  have hstep:heldN L o (ks.take (k+1))=heldN L o (ks.take k)++(match getA e.held o with | none=>[] | some m=>[(c,m)]):=by
   rw [List.take_add_one,h1]
   unfold heldN
   rw [List.filterMap_append]
   congr 1
   simp only [Option.toList_some,List.filterMap_cons,List.filterMap_nil,he,Option.bind_some]
   cases getA e.held o<;>rfl
  cases hg:getA e.held o with
  | none=>rw [elimK_n,hstep,hg,List.append_nil]
  | some m =>
   rw [elimK_s,kI_mk,gd_of (decide_eq_true (by simpa using hlen)),hstep,hg,List.map_append];rfl
theorem held_ok (h:Rep els ms lk ws ix L W) {n:Nat} (hs:Sz n L) (o:Int):icC cfgB ⟨true,false⟩ 15 [.ptr 2 0 0,.int .i64 o] (tm els ms lk ws)=some (mk15 (els,ms,lk,ws,(heldA L o).map hoV)):=by
 have hl:(nms L).length<=60000:=by have:=hs.len;have:=hs.n;simp [nms];omega
 refine e15_run _ _ _ _ _ ?h2 ⟨_,_,held_loop h o (srtS (nms L)) (by rw [srtS_len];exact hl) (fun x hx=>srtS_mem.1 hx) (srtS (nms L)) 0 rfl (by omega),by kernel_rfl⟩
 case h2 =>
  have hk:keyStrs lk=some (nms L):=by rw [h.lk];exact keyStrs_l ix _ h.nms
  unfold e15
  rw [hk,opt_mk,gd_of (decide_eq_true (by omega)),List.length_map];rfl
end
theorem wflp (l:HQ):wfl 2 (l.map pV)=true:=wfl_map fun _=>rfl
theorem set_take {α:Type} {row:List α} {i:Nat} {c:α} (h:i < row.length):(row.set i c).take (i+1)=row.take i++[c]:=by
 rw [List.take_add_one,List.take_set_of_le (by omega)]
 simp [h]
theorem wfl_zero2 (l:List V) (hl:wfl 2 l=true) (n i j:Nat):wfl 2 (l.take i++List.replicate n (V.agg [V.int .i64 0,V.int .i64 0])++l.drop j)=true:=by
 unfold wfl at *
 rw [List.all_eq_true] at *
 intro x hx
 rcases List.mem_append.1 hx with hx | hx
 ·rcases List.mem_append.1 hx with hx | hx
  ·exact hl x (List.mem_of_mem_take hx)
  ·rw [List.eq_of_mem_replicate hx];rfl
 ·exact hl x (List.mem_of_mem_drop hx)
def delRow (row:HQ) (i:Nat):List V:=(row.map pV).take i++List.replicate ((row.map pV).length - i) (V.agg [V.int .i64 0,V.int .i64 0])++(row.map pV).drop (i+((row.map pV).length - i))
theorem delRow_take {row:HQ} {i:Nat} (h:i<=row.length):(delRow row i).take i=(row.take i).map pV:=by
 unfold delRow
 rw [List.append_assoc,List.take_left' (by simp;omega),List.map_take]
theorem delRow_len {row:HQ} {i:Nat} (h:i<=row.length):(delRow row i).length=row.length:=by
 simp [delRow];omega
theorem del_loop (m0:List V) (m1:List (List (V × V))) (x:Int) (n:Nat) (hn:n<=60000):∀(r row:HQ) (i j:Nat),row.drop j=r->row.length=n->j<=n->i<=j ->
  ∃row':HQ,row'.length=n/\row'.take (i+(r.filter (·.1 != x)).length)=row.take i++r.filter (·.1 != x)/\i+(r.filter (·.1 != x)).length<=n /\
   Go kcB true 4 fa42 (.head 0 (T42_0 (i:Int) (j:Int) m0 m1 (row.map pV) x))
    (.doneM (.win 2 0 (i+(r.filter (·.1 != x)).length)) [.arena 66 m0,.marena 63 m1,.row 70 (delRow row' (i+(r.filter (·.1 != x)).length)) 0,.box 3 (.int .i64 x) false,.row 70 [] 0])
 | [],row,i,j,h,hr,hj,hi=>by
  have hjl:row.length<=j:=List.drop_eq_nil_iff.1 h
  refine ⟨row,hr,by simp,by simp;omega,?_⟩
  refine s42_0_run _ _ _ _ _ _ ?_ (.refl _)
  unfold s42_0
  rw [decide_eq_false (by rw [List.length_map];omega),cond_false,gd_of (wflp row),gd_of (by simp),toNat_cast,gd_of (by simp;omega),gd_of (by simp;omega),gd_of (wfl_zero2 _ (wflp row) _ _ _),gd_of (by simp),gd_of (by simp;omega)]
  rfl
 | c::r,row,i,j,h,hr,hj,hi=>by
  obtain ⟨h1,h2,h3⟩:=drop_cons h
  have hgi:∀k:Nat,k < n->gd (decide (((k:Nat):Int).toNat < (row.map pV).length))=fun q=>q:=fun k hk=>by funext q;exact gd_of (by simp;omega)
  obtain ⟨d,hd⟩:∃d,row[i]? = some d:=⟨_,List.getElem?_eq_getElem (by omega)⟩
  by_cases hq:c.1=x
  ·obtain ⟨row',e1,e2,e3,e4⟩:=del_loop m0 m1 x n hn r row i (j+1) h2 hr (by omega) (by omega)
   have hf:(c::r).filter (·.1 != x)=r.filter (·.1 != x):=List.filter_cons_of_neg (by simpa using hq)
   rw [hf]
   refine ⟨row',e1,e2,e3,?_⟩
   refine s42_0_run _ _ _ _ _ _ ?_ e4
   unfold s42_0
   rw [decide_eq_true (by rw [List.length_map];omega),cond_true,gd_of (by simp),hgi j (by omega),idxK_c h1,dP,pcK_of (dc_ok c x),kB_mk,show (c.1==x)=true by simpa using hq,wi j (by omega)];rfl
  ·have hs:(row.set i c).drop (j+1)=r:=by rw [List.drop_set_of_lt (by omega)];exact h2
   obtain ⟨row',e1,e2,e3,e4⟩:=del_loop m0 m1 x n hn r (row.set i c) (i+1) (j+1) hs (by simpa using hr) (by omega) (by omega)
   have hf:(c::r).filter (·.1 != x)=c::r.filter (·.1 != x):=List.filter_cons_of_pos (by simpa using hq)
   have hl:i+1+(r.filter (·.1 != x)).length=i+(c::r.filter (·.1 != x)).length:=by simp;omega
   rw [hl] at e2 e3 e4
   rw [hf]
   refine ⟨row',e1,by rw [e2,set_take (by omega),List.append_assoc];rfl,e3,?_⟩
   refine s42_0_run _ _ _ _ _ _ ?_ e4
   unfold s42_0
   rw [decide_eq_true (by rw [List.length_map];omega),cond_true,gd_of (by simp),hgi j (by omega),idxK_c h1,dP,pcK_of (dc_ok c x),kB_mk,show (c.1==x)=false by simpa using hq,Bool.not_false,cond_true,gd_of (by simp),hgi i (by omega),idxK_c hd,dP,wi j (by omega),wi i (by omega),toNat_cast,
    show (row.map pV).set i (V.agg [V.int .i64 c.1,V.int .i64 c.2])=(row.set i c).map pV by rw [List.map_set];rfl]
theorem filter_pre {pre post:HQ} {c:Int × Int} {x:Int} (h1:∀y∈pre,(y.1==x)=false) (h2:(c.1==x)=true):(pre++c::post).filter (·.1 != x)=pre++post.filter (·.1 != x):=by
 rw [List.filter_append,List.filter_cons_of_neg (by simpa using h2),List.filter_eq_self.2 fun y hy=>by have:=h1 y hy;simpa using this]
theorem del_ok' (m0:List V) (m1:List (List (V × V))) (a:HQ) (x:Int) (ha:a.length<=60000) :
  ∃(k:Nat) (row:List V),row.take k=(a.filter (·.1 != x)).map pV/\k<=row.length /\
   icC cfgB ⟨true,true⟩ 42 [.own 2,.fn 44 [.ptr 3 0 0]] [.arena 66 m0,.marena 63 m1,.row 70 (a.map pV) 0,.box 3 (.int .i64 x) false]=some (mk42 (k,m0,m1,row,x)):=by
 rcases idxF_spec (fun p:Int × Int=>p.1==x) a 0 with ⟨h1,h2⟩ | ⟨pre,c,post,h1,h2,h3,h4⟩
 ·refine ⟨(a.map pV).length,a.map pV,?_,by omega,?_⟩
  ·rw [List.take_of_length_le (by omega),List.filter_eq_self.2 fun y hy=>by have:=h2 y hy;simpa using this]
  ·refine e42_run _ _ _ _ (o:=.doneM ?v1 ?m1) ?h1 (.done ?n1)
   case h1=>unfold e42;rw [pcK_of (idxb_ok a x (by omega)),kI_mk,h1];rfl
   case n1 =>
    have:mk42 ((a.map pV).length - 0,m0,m1,a.map pV,x)=mk42 ((a.map pV).length,m0,m1,a.map pV,x):=rfl
    rw [<-this]
    show _=_
    kernel_rfl
 ·have hk:a.length=pre.length+1+post.length:=by rw [h1];simp;omega
  have hd:a.drop (pre.length+1)=post:=by rw [h1];simp [List.drop_append]
  obtain ⟨row',e1,e2,e3,e4⟩:=del_loop m0 m1 x a.length ha post a pre.length (pre.length+1) hd rfl (by omega) (by omega)
  refine ⟨pre.length+(post.filter (·.1 != x)).length,delRow row' (pre.length+(post.filter (·.1 != x)).length),?_,by rw [delRow_len (by omega)];omega,?_⟩
  ·rw [delRow_take (by omega),e2]
   congr 1
   rw [h1,filter_pre h2 h3]
   simp
  ·refine e42_run _ _ _ _ ?h2 ⟨_,_,e4,by kernel_rfl⟩
   case h2 =>
    unfold e42
    rw [pcK_of (idxb_ok a x (by omega)),kI_mk,h4,ibeq_f (by omega),cond_false]
    rw [show ((0+pre.length:Nat):Int)=((pre.length:Nat):Int) by simp,wi _ (by omega)]
section
variable {els:List V} {ms:List (List (V × V))} {lk ws:List (V × V)} {ix:Bs->Nat} {L:List Lk} {W:WL} {nm:Bs} {e:Lk}
def comeQ:HQ->HQ->HQ × HQ × List Int
 | [],hs=>(hs,[],[])
 | p::q,hs=>if canB hs p.1 p.2 then ((comeQ q (putA hs p.1 p.2)).1,(comeQ q (putA hs p.1 p.2)).2.1,p.1::(comeQ q (putA hs p.1 p.2)).2.2) else (hs,p::q,[])
def delAll (W:WL) (l:List Int):WL:=l.foldl delA W
def setL (L:List Lk) (nm:Bs) (hs q:HQ):List Lk:=updL L nm fun e=>{ e with held:=hs,q:=q }
def comeL (L:List Lk) (W:WL) (nm:Bs):List Lk × WL × List Int :=
 match getL (atL L nm) nm with
 | some e=>(tidyL (setL (atL L nm) nm (comeQ e.q e.held).1 (comeQ e.q e.held).2.1) nm,delAll W (comeQ e.q e.held).2.2,(comeQ e.q e.held).2.2)
 | none=>(L,W,[])
theorem getL_upd (f:Lk->Lk) (hf:∀e,(f e).nm=e.nm) (n:Bs):getL (updL L nm f) n=(getL L n).map fun e=>if e.nm=nm then f e else e:=by
 unfold getL updL
 rw [List.find?_map]
 have:((fun e:Lk=>e.nm==n) ∘ fun e=>if e.nm=nm then f e else e)=fun e:Lk=>e.nm==n:=by
  funext x
  simp only [Function.comp]
  split
  ·rw [hf]
  ·rfl
 rw [this]
theorem getL_set (he:getL L nm=some e) (hs q:HQ):getL (setL L nm hs q) nm=some { e with held:=hs,q:=q }:=by
 unfold setL
 rw [getL_upd (fun e=>{ e with held:=hs,q:=q }) (fun _=>rfl),he,Option.map_some,if_pos (getL_some he).2]
theorem set_set (hs q hs' q':HQ):setL (setL L nm hs q) nm hs' q'=setL L nm hs' q':=by
 unfold setL updL
 rw [List.map_map]
 apply List.map_congr_left
 intro x _
 simp only [Function.comp]
 by_cases h:x.nm=nm
 ·simp [h]
 ·simp [h]
theorem set_same (hn:(nms L).Nodup) (he:getL L nm=some e):setL L nm e.held e.q=L:=by
 unfold setL updL
 conv=>rhs;rw [<-List.map_id L]
 apply List.map_congr_left
 intro x hx
 split
 ·rename_i h
  have:=getL_of hn hx
  rw [h,he] at this
  cases this
  rfl
 ·rfl
theorem Rep.set (h:Rep els ms lk ws ix L W) (he:getL L nm=some e) (hs q:HQ):Rep (els.set (ix nm) (.agg [.hm 63 (ix nm),.sl (q.map pV)])) (ms.set (ix nm) (hs.map hE)) lk ws ix (setL L nm hs q) W :=
 h.upd he (fun e=>{ e with held:=hs,q:=q }) (fun _=>rfl)
theorem come_tail (h:Rep els ms lk ws ix L W) (he:getL L nm=some e) (out:List Int) {q:HQ} (hstop:e.q=q) (hc:q=[]∨∃p r,q=p::r/\canB e.held p.1 p.2=false) :
  ∃lk',Rep els ms lk' ws ix (tidyL L nm) W/\Go kcB true 5 fa37 (.head 0 (T37_0 nm (ix nm) els ms lk ws (ints out))) (.doneM (.own 6) (tm els ms lk' ws++[.row 3 [] 0,.row 3 (ints out) 0])):=by
 obtain ⟨lk',h1,h2⟩:=tidy_ok h nm
 refine ⟨lk',h2,s37_0_run _ _ _ _ _ _ _ ?_ (.refl _)⟩
 unfold s37_0
 rw [h.ax he,dL,hstop]
 rcases hc with rfl | ⟨p,r,rfl,hc⟩
 ·rw [decide_eq_false (by simp),cond_false,icM_of mk63_inj h1];rfl
 ·rw [decide_eq_true (by simp),cond_true,h.ax he,dL,hstop,idxK_map (show (p::r)[0]? = some p from rfl),dP,h.can he,opt_mk,hc,cond_false,icM_of mk63_inj h1];rfl
theorem come_loop:∀(q hs:HQ) (els:List V) (ms:List (List (V × V))) (L:List Lk) (W:WL) (ws:List (V × V)) (e:Lk) (out:List Int),Rep els ms lk ws ix L W->getL L nm=some e->e.q=q->e.held=hs->q.length+out.length<=120000 ->
  ∃els' ms' lk',Rep els' ms' lk' ((delAll W (comeQ q hs).2.2).map wE) ix (tidyL (setL L nm (comeQ q hs).1 (comeQ q hs).2.1) nm) (delAll W (comeQ q hs).2.2) /\
   Go kcB true 5 fa37 (.head 0 (T37_0 nm (ix nm) els ms lk ws (ints out))) (.doneM (.own 6) (tm els' ms' lk' ((delAll W (comeQ q hs).2.2).map wE)++[.row 3 [] 0,.row 3 (ints (out++(comeQ q hs).2.2)) 0]))
 | [],hs,els,ms,L,W,ws,e,out,h,he,hq,hh,hl=>by
  obtain ⟨lk',h1,h2⟩:=come_tail h he out hq (.inl rfl)
  have hw:=h.ws
  refine ⟨els,ms,lk',?_,?_⟩
  ·show Rep els ms lk' (W.map wE) ix (tidyL (setL L nm hs []) nm) W
   rw [<-hh,<-hq,set_same h.nd he,<-hw];exact h1
  ·show Go kcB true 5 fa37 _ (.doneM (.own 6) (tm els ms lk' (W.map wE)++[.row 3 [] 0,.row 3 (ints (out++[])) 0]))
   rw [List.append_nil,<-hw];exact h2
 | p::q,hs,els,ms,L,W,ws,e,out,h,he,hq,hh,hl=>by
  by_cases hc:canB hs p.1 p.2=true
  ·have h2:=(h.set he (putA hs p.1 p.2) q).setW (delA W p.1)
   have he2:=getL_set he (putA hs p.1 p.2) q
   obtain ⟨els',ms',lk',a1,a2⟩:=come_loop q (putA hs p.1 p.2) _ _ _ _ _ _ (out++[p.1]) h2 he2 rfl rfl (by simp at hl |-;omega)
   have e1:comeQ (p::q) hs=((comeQ q (putA hs p.1 p.2)).1,(comeQ q (putA hs p.1 p.2)).2.1,p.1::(comeQ q (putA hs p.1 p.2)).2.2):=by
    conv=>lhs;unfold comeQ
    rw [if_pos hc]
   rw [e1]
   rw [set_set] at a1
   refine ⟨els',ms',lk',a1,?_⟩
   rw [List.append_assoc] at a2
   refine s37_0_run _ _ _ _ _ _ _ ?_ a2
   unfold s37_0
   rw [h.ax he,dL,hq,decide_eq_true (by simp),cond_true,h.ax he,dL,hq,idxK_map (show (p::q)[0]? = some p from rfl),dP,h.can he,opt_mk,hh,hc,cond_true,h.ax he,dL,hq,idxK_map (show (p::q)[0]? = some p from rfl),dP,
    h.ax he,dL,h.mx he,hh,put_a,opt_mk,h.ax he,dL,hq,gd_of (wflp _),gd_of (decide_eq_true (by simp)),h.ax he,dL,h.ws,del_a,opt_mk,gd_of (decide_eq_true (by simp [ints];simp at hl;omega))]
   have e2:(((p::q).map pV).take ((p::q).map pV).length).drop 1=q.map pV:=by rw [List.take_length];rfl
   rw [e2]
   have e3:ints out++[V.int .i64 p.1]=ints (out++[p.1]):=by simp [ints,iV]
   rw [e3]
  ·have hc':canB hs p.1 p.2=false:=by simpa using hc
   have e1:comeQ (p::q) hs=(hs,p::q,[]):=by
    conv=>lhs;unfold comeQ
    rw [if_neg hc]
   rw [e1]
   obtain ⟨lk',h1,h2⟩:=come_tail h he out hq (.inr ⟨p,q,rfl,hh ▸ hc'⟩)
   have hw:=h.ws
   refine ⟨els,ms,lk',?_,?_⟩
   ·show Rep els ms lk' (W.map wE) ix (tidyL (setL L nm hs (p::q)) nm) W
    rw [<-hh,<-hq,set_same h.nd he,<-hw];exact h1
   ·show Go kcB true 5 fa37 _ (.doneM (.own 6) (tm els ms lk' (W.map wE)++[.row 3 [] 0,.row 3 (ints (out++[])) 0]))
    rw [List.append_nil,<-hw];exact h2
theorem come_ok (h:Rep els ms lk ws ix L W) {n:Nat} (hs:Sz n L) (nm:Bs) (hnm:Nm nm) :
  ∃els' ms' lk' ix',icC cfgB ⟨true,false⟩ 37 [.ptr 2 0 0,.str nm] (tm els ms lk ws)=some (mk37 (els',ms',lk',(comeL L W nm).2.1.map wE,ints (comeL L W nm).2.2))/\Rep els' ms' lk' ((comeL L W nm).2.1.map wE) ix' (comeL L W nm).1 (comeL L W nm).2.1:=by
 obtain ⟨els1,ms1,lk1,ix1,a1,a2⟩:=at_ok h nm hnm
 obtain ⟨e,he,hor⟩:=atL_get L nm
 have hq:e.q.length<=60000:=by
  rcases hor with h1 | ⟨_,rfl⟩
  ·have:=hs.q e (getL_some h1).1;have:=hs.n;omega
  ·simp [newL]
 obtain ⟨els',ms',lk',b1,b2⟩:=come_loop e.q e.held _ _ _ _ _ _ [] a2 he rfl rfl (by simp;omega)
 have hc:comeL L W nm=(tidyL (setL (atL L nm) nm (comeQ e.q e.held).1 (comeQ e.q e.held).2.1) nm,delAll W (comeQ e.q e.held).2.2,(comeQ e.q e.held).2.2):=by
  unfold comeL;rw [he]
 rw [hc]
 refine ⟨els',ms',lk',ix1,e37_run _ _ _ _ _ ?h2 ⟨_,_,b2,by kernel_rfl⟩,b1⟩
 case h2=>unfold e37;rw [icM_of mk27_inj a1];rfl
end
section
variable {els:List V} {ms:List (List (V × V))} {lk ws:List (V × V)} {ix:Bs->Nat} {L:List Lk} {W:WL} {nm:Bs} {e:Lk} {N:Nat}
theorem getA_mem {α:Type} {l:List (Int × α)} {o:Int} {a:α} (h:getA l o=some a):(o,a)∈l:=by
 obtain ⟨pre,post,e1,_⟩:=getA_split h
 rw [e1];simp
theorem putA_mem {α:Type} {l:List (Int × α)} {o:Int} {a:α} {p:Int × α} (h:p∈putA l o a):p∈l∨p=(o,a):=by
 induction l with
 | nil=>simp [putA] at h;exact .inr h
 | cons x l ih =>
  unfold putA at h
  split at h
  ·rename_i hx
   have hx:o=x.1:=by simpa using hx
   rcases List.mem_cons.1 h with rfl | h
   ·exact .inr (by rw [hx])
   ·exact .inl (by simp [h])
  ·rcases List.mem_cons.1 h with rfl | h
   ·exact .inl (by simp)
   ·rcases ih h with h | h
    ·exact .inl (by simp [h])
    ·exact .inr h
theorem putA_len {α:Type} (l:List (Int × α)) (o:Int) (a:α):(putA l o a).length<=l.length+1:=by
 induction l with
 | nil=>simp [putA]
 | cons x l ih=>unfold putA;split<;>simp<;>omega
theorem delA_sub {α:Type} (l:List (Int × α)) (o:Int):(delA l o).Sublist l:=by
 induction l with
 | nil=>exact .refl _
 | cons x l ih=>unfold delA;split<;>simp [ih]
theorem mem_upd {f:Lk->Lk} {x:Lk} (h:x∈updL L nm f):∃y∈L,(y.nm=nm/\x=f y)∨(y.nm≠nm/\x=y):=by
 obtain ⟨y,hy,rfl⟩:=List.mem_map.1 h
 by_cases hn:y.nm=nm
 ·rw [if_pos hn];exact ⟨y,hy,.inl ⟨hn,rfl⟩⟩
 ·rw [if_neg hn];exact ⟨y,hy,.inr ⟨hn,rfl⟩⟩
abbrev I64 (n:Int):Prop:=-9223372036854775808<=n/\n<=9223372036854775807
theorem Sz.set (h:Sz N L) {hs q:HQ} (hl:hs.length+q.length<=N) (h1:∀p∈hs,I64 p.1) (h2:∀p∈q,I64 p.1):Sz N (setL L nm hs q):=by
 refine ⟨h.n,by simp [setL,updL];exact h.len,?_,?_,?_⟩<;>intro x hx<;>obtain ⟨y,hy,⟨_,rfl⟩ | ⟨_,rfl⟩⟩:=mem_upd hx
 ·exact hl
 ·exact h.hq _ hy
 ·exact h1
 ·exact h.rh _ hy
 ·exact h2
 ·exact h.rq _ hy
theorem Sz.at (h:Sz N L):(∀e∈atL L nm,e.held.length+e.q.length<=N/\(∀p∈e.held,I64 p.1)/\∀p∈e.q,I64 p.1)/\(getL L nm=none->(atL L nm).length=L.length+1)/\((getL L nm).isSome->(atL L nm)=L):=by
 refine ⟨?_,?_,?_⟩
 ·intro e he
  unfold atL at he
  split at he
  ·exact ⟨h.hq e he,h.rh e he,h.rq e he⟩
  ·rcases List.mem_append.1 he with he | he
   ·exact ⟨h.hq e he,h.rh e he,h.rq e he⟩
   ·simp only [List.mem_singleton] at he
    subst he
    exact ⟨by simp [newL],by simp [newL],by simp [newL]⟩
 ·intro hn;unfold atL;rw [hn];simp
 ·intro hn;unfold atL
  cases hg:getL L nm with
  | none=>rw [hg] at hn;cases hn
  | some _=>rfl
theorem comeQ_sz:∀(q hs:HQ),(comeQ q hs).1.length+(comeQ q hs).2.1.length<=hs.length+q.length/\(comeQ q hs).2.2.length<=q.length /\
  ((∀p∈hs,I64 p.1)->(∀p∈q,I64 p.1)->(∀p∈(comeQ q hs).1,I64 p.1)/\∀p∈(comeQ q hs).2.1,I64 p.1)
 | [],hs=>⟨by simp [comeQ],by simp [comeQ],fun h _=>⟨h,by simp [comeQ]⟩⟩
 | p::q,hs=>by
  unfold comeQ
  split
  ·obtain ⟨h1,h2,h3⟩:=comeQ_sz q (putA hs p.1 p.2)
   have:=putA_len hs p.1 p.2
   refine ⟨by simp only [List.length_cons];omega,by simp only [List.length_cons];omega,fun a b=>h3 (fun x hx=>?_) fun x hx=>b x (by simp [hx])⟩
   rcases putA_mem hx with hx | rfl
   ·exact a x hx
   ·exact b p (by simp)
  ·exact ⟨Nat.le_refl _,by simp,fun a b=>⟨a,b⟩⟩
theorem Sz.cut (h:Sz N L):Sz N (cutL L nm) :=
 ⟨h.n,Nat.le_trans (List.length_filter_le _ _) h.len,fun e he=>h.hq e (List.mem_filter.1 he).1,fun e he=>h.rh e (List.mem_filter.1 he).1,fun e he=>h.rq e (List.mem_filter.1 he).1⟩
theorem Sz.tidy (h:Sz N L):Sz N (tidyL L nm):=by
 unfold tidyL
 split
 ·split
  ·exact h.cut
  ·exact h
 ·exact h
theorem cut_new (hn:getL L nm=none):cutL (L++[newL nm]) nm=L:=by
 unfold cutL
 rw [List.filter_append,List.filter_eq_self.2,List.filter_cons_of_neg (by simp [newL]),List.filter_nil,List.append_nil]
 intro x hx
 have:=getL_none hn
 have:x.nm≠nm:=fun e=>this (List.mem_map.2 ⟨x,hx,e⟩)
 simpa using this
theorem come_none (hn:getL L nm=none):comeL L W nm=(L,W,[]):=by
 have h1:atL L nm=L++[newL nm]:=by unfold atL;rw [hn]
 have h2:=getL_add hn
 unfold comeL
 rw [h1,h2]
 show (tidyL (setL (L++[newL nm]) nm [] []) nm,W,[])=_
 have h3:setL (L++[newL nm]) nm [] []=L++[newL nm]:=by
  unfold setL updL
  rw [List.map_append]
  congr 1
  ·conv=>rhs;rw [<-List.map_id L]
   apply List.map_congr_left
   intro x hx
   have:=getL_none hn
   have:x.nm≠nm:=fun e=>this (List.mem_map.2 ⟨x,hx,e⟩)
   rw [if_neg this];rfl
  ·simp [newL]
 rw [h3]
 unfold tidyL
 rw [h2]
 show ((if []=[]/\[]=[] then cutL (L++[newL nm]) nm else L++[newL nm]),W,[])=_
 rw [if_pos ⟨rfl,rfl⟩,cut_new hn]
theorem come_some (he:getL L nm=some e):comeL L W nm=(tidyL (setL L nm (comeQ e.q e.held).1 (comeQ e.q e.held).2.1) nm,delAll W (comeQ e.q e.held).2.2,(comeQ e.q e.held).2.2):=by
 have h1:atL L nm=L:=by unfold atL;rw [he]
 unfold comeL
 rw [h1,he]
theorem Sz.come (h:Sz N L):Sz N (comeL L W nm).1/\(comeL L W nm).2.2.length<=N:=by
 cases hn:getL L nm with
 | none=>rw [come_none hn];exact ⟨h,by simp⟩
 | some e =>
  rw [come_some hn]
  have hm:=(getL_some hn).1
  obtain ⟨h1,h2,h3⟩:=comeQ_sz e.q e.held
  obtain ⟨h4,h5⟩:=h3 (h.rh e hm) (h.rq e hm)
  have:=h.hq e hm
  exact ⟨(h.set (by omega) h4 h5).tidy,by dsimp only;omega⟩
def freeA (L:List Lk) (W:WL) (o:Int) (nm:Bs):Int × List Lk × WL × List Int :=
 if modeA L o nm=0 then (7,L,W,[]) else if getA W o=some nm then (9,L,W,[]) else
 match getL L nm with
 | some e=>(0,(comeL (setL L nm (delA e.held o) e.q) W nm).1,(comeL (setL L nm (delA e.held o) e.q) W nm).2.1,(comeL (setL L nm (delA e.held o) e.q) W nm).2.2)
 | none=>(7,L,W,[])
theorem modeA_some {o:Int} (h:modeA L o nm≠0):∃e,getL L nm=some e:=by
 unfold modeA at h
 cases hg:getL L nm with
 | some e=>exact ⟨e,rfl⟩
 | none=>rw [hg] at h;exact absurd rfl h
theorem Sz.del (h:Sz N L) (he:getL L nm=some e) (o:Int):Sz N (setL L nm (delA e.held o) e.q):=by
 have hm:=(getL_some he).1
 have hsub:=delA_sub e.held o
 have:=h.hq e hm
 have:=hsub.length_le
 exact h.set (by omega) (fun p hp=>h.rh e hm p (hsub.subset hp)) (h.rq e hm)
theorem upd_eta (h:Rep els ms lk ws ix L W) (he:getL L nm=some e):els.set (ix nm) (V.agg [.hm 63 (ix nm),.sl (e.q.map pV)])=els:=by
 obtain ⟨h1,h2⟩:=getL_some he
 have b:=h.hl e h1
 rw [h2] at b
 exact set_self b
theorem free_ok (h:Rep els ms lk ws ix L W) (hs:Sz N L) (o:Int) (nm:Bs) (hnm:Nm nm) :
  ∃els' ms' lk' ix',icC cfgB ⟨true,false⟩ 10 [.ptr 2 0 0,.int .i64 o,.str nm] (tm els ms lk ws)=some (mk10 ((freeA L W o nm).1,els',ms',lk',(freeA L W o nm).2.2.1.map wE,ints (freeA L W o nm).2.2.2)) /\
   Rep els' ms' lk' ((freeA L W o nm).2.2.1.map wE) ix' (freeA L W o nm).2.1 (freeA L W o nm).2.2.1:=by
 have hmo:=mode_ok h o nm
 have hwe:=h.ws
 by_cases h1:modeA L o nm=0
 ·have hf:freeA L W o nm=(7,L,W,[]):=by unfold freeA;rw [if_pos h1]
  rw [hf]
  refine ⟨els,ms,lk,ix,e10_run _ _ _ _ _ _ (o:=.doneM ?v1 ?m1) ?h1 (.done ?n1),hwe ▸ h⟩
  case h1=>unfold e10;rw [icM_of mk19_inj hmo];dsimp only;rw [ibeq_t h1,cond_true]
  case n1=>rw [hwe];kernel_rfl
 obtain ⟨e,he⟩:=modeA_some h1
 by_cases h2:getA W o=some nm
 ·have hf:freeA L W o nm=(9,L,W,[]):=by unfold freeA;rw [if_neg h1,if_pos h2]
  rw [hf]
  refine ⟨els,ms,lk,ix,e10_run _ _ _ _ _ _ (o:=.doneM ?v2 ?m2) ?h2 (.done ?n2),hwe ▸ h⟩
  case h2=>unfold e10;rw [icM_of mk19_inj hmo];dsimp only;rw [ibeq_f h1,cond_false,h.wf,h2,elimK_s,kS_mk,beq_self_eq_true,cond_true]
  case n2=>rw [hwe];kernel_rfl
 ·have hf:freeA L W o nm=(0,(comeL (setL L nm (delA e.held o) e.q) W nm).1,(comeL (setL L nm (delA e.held o) e.q) W nm).2.1,(comeL (setL L nm (delA e.held o) e.q) W nm).2.2):=by unfold freeA;rw [if_neg h1,if_neg h2,he]
  rw [hf]
  obtain ⟨els1,ms1,lk1,ix1,a1,a2⟩:=at_ok h nm hnm
  have hat:atL L nm=L:=by unfold atL;rw [he]
  rw [hat] at a2
  have b2:=a2.set he (delA e.held o) e.q
  rw [upd_eta a2 he] at b2
  obtain ⟨els',ms',lk',ix',c1,c2⟩:=come_ok b2 (hs.del he o) nm hnm
  refine ⟨els',ms',lk',ix',e10_run _ _ _ _ _ _ (o:=.doneM ?v3 ?m3) ?h3 (.done ?n3),c2⟩
  case h3 =>
   unfold e10
   rw [icM_of mk19_inj hmo];dsimp only;rw [ibeq_f h1,cond_false,h.wf]
   have tail:∀(kk:R),(icM cfgB ⟨true,false⟩ mk27 27 [V.ptr 2 0 0,V.str nm] (tm els ms lk ws) fun L_1 =>
     idxK L_1.2.1 L_1.1 fun v=>d66 v fun held queue=>idxK L_1.2.2.1 held fun mm=>opt (mapDel mm (V.int .i64 o)) fun es =>
     icM cfgB ⟨true,false⟩ mk37 37 [V.ptr 2 0 0,V.str nm] [O.arena 66 L_1.2.1,O.marena 63 ((L_1.2.2.1).set held es),O.box 38 (V.agg [V.mp 3,V.mp 4]) false,O.map L_1.2.2.2.1,O.map L_1.2.2.2.2] fun L_2 =>
     some (.doneM (V.tup [V.own 6,V.int .i64 0]) [O.arena 66 L_2.1,O.marena 63 L_2.2.1,O.box 38 (V.agg [V.mp 3,V.mp 4]) false,O.map L_2.2.2.1,O.map L_2.2.2.2.1,O.row 3 [] 0,O.row 3 L_2.2.2.2.2 0])) =
     some (.doneM (V.tup [V.own 6,V.int .i64 0]) (tm els' ms' lk' ((comeL (setL L nm (delA e.held o) e.q) W nm).2.1.map wE)++[O.row 3 [] 0,O.row 3 (ints (comeL (setL L nm (delA e.held o) e.q) W nm).2.2) 0])):=by
    intro _
    rw [icM_of mk27_inj a1]
    dsimp only
    rw [a2.ax he,dL,a2.mx he,del_a,opt_mk,icM_of mk37_inj c1]
    rfl
   cases hg:getA W o with
   | none=>rw [elimK_n];exact tail none
   | some n2 =>
    have hne:(n2==nm)=false:=by
     rw [hg] at h2
     simpa using fun e=>h2 (by rw [e])
    rw [elimK_s,kS_mk,hne,cond_false];exact tail none
  case n3=>kernel_rfl
end
section
variable {els:List V} {ms:List (List (V × V))} {lk ws:List (V × V)} {ix:Bs->Nat} {L:List Lk} {W:WL} {nm:Bs} {e:Lk} {N:Nat}
def dropE (o:Int) (e:Lk):Lk:={ e with held:=delA e.held o,q:=e.q.filter (·.1 != o) }
def dropK (S:List Bs) (o:Int) (L:List Lk):List Lk:=L.map fun e=>if e.nm∈S then dropE o e else e
def dropL (L:List Lk) (o:Int):List Lk:=L.map (dropE o)
def comeAll:List Bs->List Lk->WL->List Lk × WL × List Int
 | [],L,W=>(L,W,[])
 | n::ks,L,W=>((comeAll ks (comeL L W n).1 (comeL L W n).2.1).1,(comeAll ks (comeL L W n).1 (comeL L W n).2.1).2.1,(comeL L W n).2.2++(comeAll ks (comeL L W n).1 (comeL L W n).2.1).2.2)
def dropA (L:List Lk) (W:WL) (o:Int):List Lk × WL × List Int:=comeAll (srtS (nms L)) (dropL L o) (delA W o)
def WQ (L:List Lk) (W:WL):Prop:=∀e∈L,∀p∈e.q,getA W p.1=some e.nm
theorem nms_drop (o:Int):nms (dropL L o)=nms L:=by
 unfold nms dropL
 rw [List.map_map]
 rfl
theorem dropK_nil (o:Int):dropK [] o L=L:=by
 unfold dropK
 simp
theorem dropK_all {S:List Bs} (h:∀x∈nms L,x∈S) (o:Int):dropK S o L=dropL L o:=by
 unfold dropK dropL
 apply List.map_congr_left
 intro x hx
 rw [if_pos (h _ (List.mem_map.2 ⟨x,hx,rfl⟩))]
theorem dropK_get {S:List Bs} (hn:nm∉S) (o:Int):getL (dropK S o L) nm=getL L nm:=by
 unfold getL dropK
 rw [List.find?_map]
 have:((fun e:Lk=>e.nm==nm) ∘ fun e=>if e.nm∈S then dropE o e else e)=fun e:Lk=>e.nm==nm:=by
  funext x
  simp only [Function.comp]
  split<;>rfl
 rw [this]
 cases hf:L.find? fun e=>e.nm==nm with
 | none=>rfl
 | some e =>
  have:e.nm=nm:=by simpa using List.find?_some hf
  rw [Option.map_some,if_neg (this ▸ hn)]
theorem dropK_step {S:List Bs} (hn:nm∉S) (o:Int):dropK (S++[nm]) o L=updL (dropK S o L) nm (dropE o):=by
 unfold updL dropK
 rw [List.map_map]
 apply List.map_congr_left
 intro x _
 simp only [Function.comp]
 by_cases h1:x.nm=nm
 ·have h2:x.nm∉S:=h1 ▸ hn
  rw [if_pos (by simp [h1]),if_neg h2,if_pos h1]
 ·by_cases h2:x.nm∈S
  ·rw [if_pos (by simp [h2]),if_pos h2,if_neg (show (dropE o x).nm≠nm from h1)]
  ·rw [if_neg (by simp [h1,h2]),if_neg h2,if_neg h1]
theorem upd_id (hn:(nms L).Nodup) (he:getL L nm=some e) {f:Lk->Lk} (hf:f e=e):updL L nm f=L:=by
 unfold updL
 conv=>rhs;rw [<-List.map_id L]
 apply List.map_congr_left
 intro x hx
 split
 ·rename_i h
  have:=getL_of hn hx
  rw [h,he] at this
  cases this
  exact hf
 ·rfl
theorem delA_none {α:Type} {l:List (Int × α)} {o:Int} (h:getA l o=none):delA l o=l:=by
 induction l with
 | nil=>rfl
 | cons p l ih =>
  rw [getA_cons] at h
  split at h
  ·cases h
  ·rename_i hp
   unfold delA
   rw [if_neg (by simpa using fun e=>hp e.symm),ih h]
theorem dropE_id {o:Int} (h1:getA e.held o=none) (h2:∀p∈e.q,p.1≠o):dropE o e=e:=by
 unfold dropE
 rw [delA_none h1,List.filter_eq_self.2 fun p hp=>by simpa using h2 p hp]
theorem clone_w (q:HQ) (hq:q.length<=60000):pcW cfgB 43 [.sl (q.map pV)]=some (.fr 70 (q.map pV)):=by
 refine pcW_prim (cfg:=cfgB) (g:=cloneP 70 2) rfl ?_
 exact if_pos ⟨wflp q,flat_map fun _=>rfl,by simp;omega⟩
theorem kF_m (l:List V) (k:List V->R):kF 70 (.fr 70 l) k=k l:=rfl
theorem strV_get {ks:List Bs} {k:Nat} {c:Bs} (h:ks[k]? = some c) (q:V->R):idxK (ks.map sV) ((k:Int)).toNat q=q (.str c):=idxK_c h
theorem Rep.drop1 (h:Rep els ms lk ws ix L W) (he:getL L nm=some e) (o:Int):Rep (els.set (ix nm) (.agg [.hm 63 (ix nm),.sl ((e.q.filter (·.1 != o)).map pV)])) (ms.set (ix nm) ((delA e.held o).map hE)) lk ws ix (updL L nm (dropE o)) W :=
 h.upd he (dropE o) (fun _=>rfl)
theorem drop_step (h:Rep els ms lk ws ix L W) (hs:Sz N L) (hwq:WQ L W) (o:Int) {ks:List Bs} (hks:ks.length<=60000) {k:Nat} (hk:ks[k]? = some nm) (he:getL L nm=some e) :
  ∃els' ms',Rep els' ms' lk ws ix (updL L nm (dropE o)) W/\s13_0 (ks.length:Int) (k:Int) els ms lk ws o (ks.map sV)=some (.head 0 (T13_0 (ks.length:Int) ((k+1:Nat):Int) els' ms' lk ws o (ks.map sV))):=by
 have hkl:=(List.getElem?_eq_some_iff.1 hk).1
 have hm:=(getL_some he).1
 have hql:e.q.length<=60000:=by have:=hs.q e hm;have:=hs.n;omega
 have h2:=h.drop1 he o
 obtain ⟨kk,row,d1,d2,d3⟩:=del_ok' els (ms.set (ix nm) ((delA e.held o).map hE)) e.q o hql
 have hg:gd (decide (0+kk<=row.length))=fun q=>q:=by funext q;exact gd_of (decide_eq_true (by omega))
 have hrow:((row.drop 0).take kk)=(e.q.filter (·.1 != o)).map pV:=by rw [List.drop_zero];exact d1
 cases hgh:getA e.held o with
 | some m =>
  refine ⟨_,_,h2,?_⟩
  unfold s13_0
  rw [decide_eq_true (by omega),cond_true,gd_of (by simp),gd_of (decide_eq_true (by simp;omega)),strV_get hk,kS_mk,h.mf he,kP_mk,h.ax he,dL,h.mx he,mfK_a,hgh,elimK_s,kI_mk,
   h.ax he,dL,h.mx he,del_a,opt_mk,h.ax he,dL,pcK_of (clone_w e.q hql),kF_m,icM_of mk42_inj d3]
  dsimp only
  rw [hg,h.ax he,dL,hrow,wi k (by omega)]
 | none =>
  cases hgw:getA W o with
  | none =>
   by_cases hc:nm=[]
   ·refine ⟨_,_,h2,?_⟩
    unfold s13_0
    rw [decide_eq_true (by omega),cond_true,gd_of (by simp),gd_of (decide_eq_true (by simp;omega)),strV_get hk,kS_mk,h.mf he,kP_mk,h.ax he,dL,h.mx he,mfK_a,hgh,elimK_n,h.wf,hgw,elimK_n,
     show (([]:List UInt8)==nm)=true by simp [hc],Bool.not_true,cond_false,
     h.ax he,dL,h.mx he,del_a,opt_mk,h.ax he,dL,pcK_of (clone_w e.q hql),kF_m,icM_of mk42_inj d3]
    dsimp only
    rw [hg,h.ax he,dL,hrow,wi k (by omega)]
   ·have hid:dropE o e=e:=dropE_id hgh fun p hp e1=>by have:=hwq e hm p hp;rw [e1,hgw] at this;cases this
    refine ⟨els,ms,by rw [upd_id h.nd he hid];exact h,?_⟩
    unfold s13_0
    rw [decide_eq_true (by omega),cond_true,gd_of (by simp),gd_of (decide_eq_true (by simp;omega)),strV_get hk,kS_mk,h.mf he,kP_mk,h.ax he,dL,h.mx he,mfK_a,hgh,elimK_n,h.wf,hgw,elimK_n,
     show (([]:List UInt8)==nm)=false by simpa using hc,Bool.not_false,cond_true,wi k (by omega)]
  | some n2 =>
   by_cases hc:n2=nm
   ·refine ⟨_,_,h2,?_⟩
    unfold s13_0
    rw [decide_eq_true (by omega),cond_true,gd_of (by simp),gd_of (decide_eq_true (by simp;omega)),strV_get hk,kS_mk,h.mf he,kP_mk,h.ax he,dL,h.mx he,mfK_a,hgh,elimK_n,h.wf,hgw,elimK_s,kS_mk,
     show (n2==nm)=true by simp [hc],Bool.not_true,cond_false,
     h.ax he,dL,h.mx he,del_a,opt_mk,h.ax he,dL,pcK_of (clone_w e.q hql),kF_m,icM_of mk42_inj d3]
    dsimp only
    rw [hg,h.ax he,dL,hrow,wi k (by omega)]
   ·have hid:dropE o e=e:=dropE_id hgh fun p hp e1=>by
     have:=hwq e hm p hp
     rw [e1,hgw] at this
     exact hc ((Option.some.inj this).trans (getL_some he).2)
    refine ⟨els,ms,by rw [upd_id h.nd he hid];exact h,?_⟩
    unfold s13_0
    rw [decide_eq_true (by omega),cond_true,gd_of (by simp),gd_of (decide_eq_true (by simp;omega)),strV_get hk,kS_mk,h.mf he,kP_mk,h.ax he,dL,h.mx he,mfK_a,hgh,elimK_n,h.wf,hgw,elimK_s,kS_mk,
     show (n2==nm)=false by simpa using hc,Bool.not_false,cond_true,wi k (by omega)]
theorem dropK_sz (hs:Sz N L) (S:List Bs) (o:Int):Sz N (dropK S o L):=by
 have key:∀e∈dropK S o L,∃y∈L,(e=y∨e=dropE o y):=by
  intro e he
  obtain ⟨y,hy,rfl⟩:=List.mem_map.1 he
  refine ⟨y,hy,?_⟩
  split
  ·exact .inr rfl
  ·exact .inl rfl
 have sub:∀y:Lk,(dropE o y).held.Sublist y.held/\(dropE o y).q.Sublist y.q:=fun y=>⟨delA_sub _ _,List.filter_sublist⟩
 refine ⟨hs.n,by simp [dropK];exact hs.len,?_,?_,?_⟩<;>intro e he<;>obtain ⟨y,hy,rfl | rfl⟩:=key e he
 ·exact hs.hq _ hy
 ·have:=hs.hq y hy;have:=(sub y).1.length_le;have:=(sub y).2.length_le;omega
 ·exact hs.rh _ hy
 ·exact fun p hp=>hs.rh y hy p ((sub y).1.subset hp)
 ·exact hs.rq _ hy
 ·exact fun p hp=>hs.rq y hy p ((sub y).2.subset hp)
theorem dropK_wq (hw:WQ L W) (S:List Bs) (o:Int):WQ (dropK S o L) W:=by
 intro e he p hp
 obtain ⟨y,hy,rfl⟩:=List.mem_map.1 he
 by_cases h1:y.nm∈S
 ·rw [if_pos h1] at hp |-
  exact hw y hy p (List.mem_filter.1 hp).1
 ·rw [if_neg h1] at hp |-
  exact hw y hy p hp
theorem drop_loop0 (hs:Sz N L) (hwq:WQ L W) (hnd:(nms L).Nodup) (o:Int) {ks:List Bs} (hks:ks.length<=60000) (hkn:ks.Nodup) (hin:∀x∈ks,x∈nms L):∀(r:List Bs) (k:Nat) (els:List V) (ms:List (List (V × V))),ks.drop k=r->k<=ks.length->Rep els ms lk ws ix (dropK (ks.take k) o L) W ->
  ∃els' ms',Rep els' ms' lk ws ix (dropK ks o L) W/\∀o'',Go kcB true 5 fa13 (.head 0 (T13_0 (ks.length:Int) (ks.length:Int) els' ms' lk ws o (ks.map sV))) o''->Go kcB true 5 fa13 (.head 0 (T13_0 (ks.length:Int) (k:Int) els ms lk ws o (ks.map sV))) o''
 | [],k,els,ms,hd,hk,h=>by
  have hk':ks.length<=k:=List.drop_eq_nil_iff.1 hd
  have:k=ks.length:=by omega
  subst this
  rw [List.take_length] at h
  exact ⟨els,ms,h,fun _ h=>h⟩
 | c::r,k,els,ms,hd,hk,h=>by
  obtain ⟨h1,h2,h3⟩:=drop_cons hd
  have hc:c∉ks.take k:=by
   intro hm
   obtain ⟨i,hi⟩:=List.getElem?_of_mem hm
   rw [List.getElem?_take] at hi
   split at hi
   ·rename_i hik
    have hil:=(List.getElem?_eq_some_iff.1 hi).1
    have e1:=(List.getElem?_eq_some_iff.1 hi).2
    have e2:=(List.getElem?_eq_some_iff.1 h1).2
    exact (List.pairwise_iff_getElem.1 hkn i k hil h3 hik) (e1.trans e2.symm)
   ·cases hi
  obtain ⟨e,he⟩:=getL_mem (hin c (List.mem_of_getElem? h1))
  have he2:getL (dropK (ks.take k) o L) c=some e:=by rw [dropK_get hc];exact he
  obtain ⟨els',ms',a1,a2⟩:=drop_step h (dropK_sz hs _ o) (dropK_wq hwq _ o) o hks h1 he2
  rw [<-dropK_step hc,show ks.take k++[c]=ks.take (k+1) by rw [List.take_add_one,h1];rfl] at a1
  obtain ⟨els2,ms2,b1,b2⟩:=drop_loop0 hs hwq hnd o hks hkn hin r (k+1) els' ms' h2 (by omega) a1
  exact ⟨els2,ms2,b1,fun o'' hg=>s13_0_run _ _ _ _ _ _ _ _ a2 (b2 o'' hg)⟩
theorem wfl1 (l:List Int):wfl 1 (ints l)=true:=wfl_map fun _=>rfl
theorem drop_loop1 {ks:List Bs} (hks:ks.length<=4000) (hnm:∀x∈ks,Nm x):∀(r:List Bs) (k:Nat) (els:List V) (ms:List (List (V × V))) (lk ws:List (V × V)) (ix:Bs->Nat) (L:List Lk) (W:WL) (out:List Int),ks.drop k=r->k<=ks.length->Rep els ms lk ws ix L W->Sz N L->out.length<=k * 4000 ->
  ∃els' ms' lk' ix',Rep els' ms' lk' ((comeAll r L W).2.1.map wE) ix' (comeAll r L W).1 (comeAll r L W).2.1 /\
   Go kcB true 5 fa13 (.head 1 (T13_1 (ks.length:Int) (k:Int) els ms lk ws (ints out) (ks.map sV))) (.doneM (.own 6) (tm els' ms' lk' ((comeAll r L W).2.1.map wE)++[.row 3 [] 0,.row 3 (ints (out++(comeAll r L W).2.2)) 0,.row 9 (ks.map sV) 0]))
 | [],k,els,ms,lk,ws,ix,L,W,out,hd,hk,h,hs,ho=>by
  have hk':ks.length<=k:=List.drop_eq_nil_iff.1 hd
  have hw:=h.ws
  refine ⟨els,ms,lk,ix,by show Rep els ms lk (W.map wE) ix L W;exact hw ▸ h,?_⟩
  show Go kcB true 5 fa13 _ (.doneM (.own 6) (tm els ms lk (W.map wE)++[.row 3 [] 0,.row 3 (ints (out++[])) 0,.row 9 (ks.map sV) 0]))
  rw [List.append_nil,<-hw]
  refine s13_1_run _ _ _ _ _ _ _ _ ?_ (.refl _)
  unfold s13_1
  rw [decide_eq_false (by omega),cond_false];rfl
 | c::r,k,els,ms,lk,ws,ix,L,W,out,hd,hk,h,hs,ho=>by
  obtain ⟨h1,h2,h3⟩:=drop_cons hd
  obtain ⟨els1,ms1,lk1,ix1,a1,a2⟩:=come_ok h hs c (hnm c (List.mem_of_getElem? h1))
  obtain ⟨s1,s2⟩:=hs.come (W:=W) (nm:=c)
  have:=hs.n
  obtain ⟨els',ms',lk',ix',b1,b2⟩:=drop_loop1 hks hnm r (k+1) els1 ms1 lk1 _ ix1 (comeL L W c).1 (comeL L W c).2.1 (out++(comeL L W c).2.2) h2 (by omega) a2 s1 (by simp;omega)
  refine ⟨els',ms',lk',ix',b1,?_⟩
  rw [List.append_assoc] at b2
  refine s13_1_run _ _ _ _ _ _ _ _ ?_ b2
  unfold s13_1
  rw [decide_eq_true (by omega),cond_true,gd_of (by simp),gd_of (decide_eq_true (by simp;omega)),strV_get h1,kS_mk,icM_of mk37_inj a1]
  dsimp only
  rw [gd_of (wfl1 _),gd_of (decide_eq_true (by simp [ints];omega)),wi k (by omega),show ints out++ints (comeL L W c).2.2=ints (out++(comeL L W c).2.2) by simp [ints]]
theorem drop_ok (h:Rep els ms lk ws ix L W) (hs:Sz N L) (hwq:WQ L W) (o:Int) :
  ∃els' ms' lk' ix',icC cfgB ⟨true,false⟩ 13 [.ptr 2 0 0,.int .i64 o] (tm els ms lk ws)=some (mk13 (els',ms',lk',(dropA L W o).2.1.map wE,ints (dropA L W o).2.2)) /\
   Rep els' ms' lk' ((dropA L W o).2.1.map wE) ix' (dropA L W o).1 (dropA L W o).2.1:=by
 have hl:(srtS (nms L)).length<=4000:=by have:=hs.len;have:=hs.n;rw [srtS_len];simp [nms];omega
 have hk:keyStrs lk=some (nms L):=by rw [h.lk];exact keyStrs_l ix _ h.nms
 have hnd:(srtS (nms L)).Nodup:=(List.mergeSort_perm _ _).nodup_iff.2 h.nd
 obtain ⟨els1,ms1,a1,a2⟩:=drop_loop0 hs hwq h.nd o (ks:=srtS (nms L)) (by omega) hnd (fun x hx=>srtS_mem.1 hx) (srtS (nms L)) 0 els ms rfl (by omega) (by rw [List.take_zero,dropK_nil];exact h)
 rw [dropK_all (fun x hx=>srtS_mem.2 hx)] at a1
 have a3:=a1.setW (delA W o)
 have hs2:Sz N (dropL L o):=by have:=dropK_sz hs (nms L) o;rwa [dropK_all (fun x hx=>hx)] at this
 obtain ⟨els',ms',lk',ix',b1,b2⟩:=drop_loop1 (ks:=srtS (nms L)) hl (fun x hx=>h.nms x (srtS_mem.1 hx)) (srtS (nms L)) 0 els1 ms1 lk _ ix (dropL L o) (delA W o) [] rfl (by omega) a3 hs2 (by simp)
 refine ⟨els',ms',lk',ix',e13_run _ _ _ _ _ ?h2 ⟨_,_,a2 _ (s13_0_run _ _ _ _ _ _ _ _ ?h3 b2),by kernel_rfl⟩,b1⟩
 case h2 =>
  unfold e13
  rw [hk,opt_mk,gd_of (decide_eq_true (by rw [srtS_len] at hl;omega)),List.length_map];rfl
 case h3 =>
  unfold s13_0
  rw [decide_eq_false (by omega),cond_false,h.ws,del_a,opt_mk,hk,opt_mk,gd_of (decide_eq_true (by rw [srtS_len] at hl;omega)),List.length_map];rfl
end
theorem dups_len (l:List Int):l.eraseDups.length<=l.length:=by
 have:∀n (l:List Int),l.length<=n->l.eraseDups.length<=l.length:=by
  intro n
  induction n with
  | zero=>intro l h;have:l=[]:=List.eq_nil_of_length_eq_zero (by omega);subst this;exact Nat.le_refl _
  | succ n ih =>
   intro l h
   cases l with
   | nil=>exact Nat.le_refl _
   | cons a l =>
    rw [List.eraseDups_cons]
    have h1:=ih (l.filter fun b=>!b==a) (by have:=List.length_filter_le (fun b=>!b==a) l;simp at h;omega)
    have:=List.length_filter_le (fun b=>!b==a) l
    simp only [List.length_cons];omega
 exact this _ l (Nat.le_refl _)
theorem dups_nodup (l:List Int):l.eraseDups.Nodup:=by
 have:∀n (l:List Int),l.length<=n->l.eraseDups.Nodup:=by
  intro n
  induction n with
  | zero=>intro l h;have:l=[]:=List.eq_nil_of_length_eq_zero (by omega);subst this;exact List.nodup_nil
  | succ n ih =>
   intro l h
   cases l with
   | nil=>exact List.nodup_nil
   | cons a l =>
    rw [List.eraseDups_cons]
    refine List.nodup_cons.2 ⟨fun hm=>?_,ih _ (by have:=List.length_filter_le (fun b=>!b==a) l;simp at h;omega)⟩
    have:=(List.mem_filter.1 (List.mem_eraseDups.1 hm)).2
    simp at this
 exact this _ l (Nat.le_refl _)
theorem srt_mem {l:List Int} {x:Int}:x∈srt l↔x∈l:=(List.mergeSort_perm l _).mem_iff
theorem srt_len (l:List Int):(srt l).length=l.length:=(List.mergeSort_perm l _).length_eq
theorem srt_nodup {l:List Int} (h:l.Nodup):(srt l).Nodup:=(List.mergeSort_perm l _).nodup_iff.2 h
section
variable {els:List V} {ms:List (List (V × V))} {lk ws:List (V × V)} {ix:Bs->Nat} {L:List Lk} {W:WL} {nm:Bs} {e:Lk} {N:Nat}
def behA (L:List Lk) (W:WL) (o:Int):List Int :=
 match getA W o with
 | none=>[]
 | some n =>
  match getL L n with
  | none=>[]
  | some e =>
   match e.q.findIdx? fun p=>p.1==o with
   | some i=>behindL e.held e.q i o ((e.q[i]?).getD (0,0)).2
   | none=>[]
theorem behindL_len (hs qs:HQ) (i:Nat) (o m:Int):(behindL hs qs i o m).length<=hs.length+qs.length:=by
 unfold behindL
 rw [srt_len]
 refine Nat.le_trans (dups_len _) ?_
 have:=List.length_filter_le (fun p:Int × Int=>!(p.1==o) && !fitsB p.2 m) hs
 simp only [List.length_append,List.length_map,confl,List.length_take]
 omega
theorem behA_len (hs:Sz N L) (o:Int):(behA L W o).length<=4000:=by
 have:=hs.n
 unfold behA
 split
 ·simp
 ·split
  ·simp
  ·rename_i e he
   split
   ·have:=behindL_len e.held e.q ‹Nat› o ((e.q[‹Nat›]?).getD (0,0)).2
    have:=hs.hq e (getL_some he).1
    omega
   ·simp
theorem findIdx_of {l:HQ} {o m:Int} (h:getA l o=some m):∃i,(l.findIdx? fun p=>p.1==o)=some i:=by
 have:(l.findIdx? fun p=>p.1==o).isSome=true:=by
  rw [List.findIdx?_isSome,List.any_eq_true]
  exact ⟨(o,m),getA_mem h,by simp⟩
 cases hf:l.findIdx? fun p=>p.1==o with
 | some i=>exact ⟨i,rfl⟩
 | none=>rw [hf] at this;cases this
theorem rngs_of {l:HQ} (h:∀p∈l,-9223372036854775808<=p.1/\p.1<=9223372036854775807):rngs l=true:=by
 unfold rngs
 rw [List.all_eq_true]
 intro p hp
 simpa using h p hp
theorem beh_ok (h:Rep els ms lk ws ix L W) (hs:Sz N L) (hw:WOK L W) (o:Int):behindX els ms lk ws o=some (behA L W o):=by
 unfold behindX behA
 rw [h.ws,mf_a]
 cases hg:getA W o with
 | none=>rfl
 | some n =>
  obtain ⟨e,m,he,hm⟩:=hw o n hg
  obtain ⟨h1,h2⟩:=getL_some he
  obtain ⟨i,hi⟩:=findIdx_of hm
  have a:=h.hl e h1
  have b:=h.hm e h1
  rw [h2] at a b
  have:=hs.hq e h1
  have:=hs.n
  simp only [Option.map_some]
  rw [h.lk,mf_in (show n∈nms L from List.mem_map.2 ⟨e,h1,h2⟩)]
  simp only [lockX,a,lkV,b,Option.map_some,Option.bind_some,heldOf_h,waitsOf_q,he,hi]
  rw [if_pos ⟨by omega,by omega,rngs_of (hs.rh e h1),rngs_of (hs.rq e h1)⟩]
inductive Rch (B:Int->List Int):Int->Int->Prop
 | one {o x:Int}:x∈B o->Rch B o x
 | step {o x y:Int}:x∈B o->Rch B x y->Rch B o y
theorem Rch.trans {B:Int->List Int} {a b c:Int} (h:Rch B a b) (h':Rch B b c):Rch B a c:=by
 induction h with
 | one hx=>exact .step hx h'
 | step hx _ ih=>exact .step hx (ih h')
def seenM (S:List Int):List (V × V):=(S.map fun x=>(x,true)).map (aE V.bool)
theorem seen_get (S:List Int) (n:Int):getA (S.map fun x=>(x,true)) n=if n∈S then some true else none:=by
 induction S with
 | nil=>rfl
 | cons x S ih =>
  rw [List.map_cons,getA_cons,ih]
  by_cases h:x=n
  ·simp [h]
  ·have:¬n=x:=fun e=>h e.symm
   simp [h,this]
theorem seen_put {S:List Int} {n:Int} (h:n∉S):putA (S.map fun x=>(x,true)) n true=(S++[n]).map fun x=>(x,true):=by
 induction S with
 | nil=>rfl
 | cons x S ih =>
  have hx:¬n=x:=fun e=>h (by simp [e])
  rw [List.map_cons]
  unfold putA
  rw [if_neg (by simpa using hx),ih fun hm=>h (by simp [hm])]
  rfl
abbrev dm (els:List V) (ms:List (List (V × V))) (S:List Int) (lk ws:List (V × V)):List O :=
 [.arena 66 els,.marena 63 ms,.box 23 (.ptr 5 0 0) false,.box 88 (.mp 6) false,.box 108 (.fn 77 [.ptr 2 0 0,.ptr 3 0 0,.ptr 4 0 0]) false,.box 38 (.agg [.mp 7,.mp 8]) false,.map (seenM S),.map lk,.map ws]
def left (U S:List Int):Nat:=(U.filter fun x=>decide (x∉S)).length
theorem left_le {U S S':List Int} (h:∀x∈S,x∈S'):left U S'<=left U S:=by
 unfold left
 induction U with
 | nil=>exact Nat.le_refl _
 | cons u U ih =>
  by_cases h1:u∈S
  ·rw [List.filter_cons_of_neg (by simpa using h u h1),List.filter_cons_of_neg (by simpa using h1)];exact ih
  ·rw [List.filter_cons_of_pos (a:=u) (p:=fun x=>decide (x∉S)) (by simpa using h1)]
   by_cases h2:u∈S'
   ·rw [List.filter_cons_of_neg (by simpa using h2)];simp only [List.length_cons];omega
   ·rw [List.filter_cons_of_pos (by simpa using h2)];simp only [List.length_cons];omega
theorem left_lt {U S:List Int} {x:Int} (hx:x∈U) (hn:x∉S):left U (S++[x]) < left U S:=by
 unfold left
 induction U with
 | nil=>cases hx
 | cons u U ih =>
  by_cases h1:u=x
  ·subst h1
   rw [List.filter_cons_of_neg (by simp),List.filter_cons_of_pos (by simpa using hn)]
   have:left U (S++[u])<=left U S:=left_le fun y hy=>by simp [hy]
   unfold left at this
   simp only [List.length_cons];omega
  ·have hx':x∈U:=by rcases List.mem_cons.1 hx with e | h;exact absurd e.symm h1;exact h
   have:=ih hx'
   by_cases h2:u∈S
   ·rw [List.filter_cons_of_neg (by simp [h2]),List.filter_cons_of_neg (by simpa using h2)];exact this
   ·rw [List.filter_cons_of_pos (by simp [h2,h1]),List.filter_cons_of_pos (by simpa using h2)]
    simp only [List.length_cons];omega
structure Look (B:Int->List Int) (o:Int) (S S':List Int):Prop where
 sub:∀x∈S,x∈S'
 all:∀x∈B o,x∈S'
 new:∀x∈S',x∈S∨(Rch B o x/\∀y∈B x,y∈S')
theorem reach_ok (h:Rep els ms lk ws ix L W) (hs:Sz N L) (hw:WOK L W) {U:List Int} (hU:∀o,∀x∈behA L W o,x∈U):∀(n:Nat) (o:Int) (S:List Int),left U S < n ->
  ∃S',Look (behA L W) o S S'/\icC cfgB ⟨true,false⟩ 77 [.int .i64 o,.ptr 2 0 0,.ptr 3 0 0,.ptr 4 0 0] (dm els ms S lk ws)=some (mk77 (els,ms,seenM S',lk,ws)):=by
 intro n
 induction n with
 | zero=>intro o S hl;omega
 | succ n ih =>
  intro o S hl
  have hlen:=behA_len (W:=W) hs o
  have loop:∀(r:List Int) (k:Nat) (S:List Int),(behA L W o).drop k=r->k<=(behA L W o).length->left U S < n+1 ->
    ∃S',(∀x∈S,x∈S')/\(∀x∈r,x∈S')/\(∀x∈S',x∈S∨((∃z∈r,x=z∨Rch (behA L W) z x)/\∀y∈behA L W x,y∈S')) /\
     Go kcB true 9 fa77 (.head 0 (T77_0 ((behA L W o).length:Int) (k:Int) els ms (seenM S) lk ws (ints (behA L W o)))) (.doneM (.tup []) (dm els ms S' lk ws++[.row 3 (ints (behA L W o)) 0])):=by
   intro r
   induction r with
   | nil =>
    intro k S hd hk hl
    have hk':(behA L W o).length<=k:=List.drop_eq_nil_iff.1 hd
    refine ⟨S,fun _ h=>h,fun _ h=>absurd h List.not_mem_nil,fun _ h=>.inl h,s77_0_run _ _ _ _ _ _ _ _ ?_ (.refl _)⟩
    unfold s77_0
    rw [decide_eq_false (by omega),cond_false];rfl
   | cons c r ihr =>
    intro k S hd hk hl
    obtain ⟨h1,h2,h3⟩:=drop_cons hd
    have hcU:c∈U:=hU o c (List.mem_of_getElem? h1)
    have pre:∀q:V->R,idxK (ints (behA L W o)) ((k:Int)).toNat q=q (.int .i64 c):=fun q=>idxK_c h1
    have hlt:gd (decide (((k:Int)).toNat < (ints (behA L W o)).length))=fun q=>q:=by funext q;exact gd_of (decide_eq_true (by simp [ints];omega))
    by_cases hc:c∈S
    ·obtain ⟨S',a1,a2,a3,a4⟩:=ihr (k+1) S h2 (by omega) hl
     refine ⟨S',a1,fun x hx=>?_,fun x hx=>?_,s77_0_run _ _ _ _ _ _ _ _ ?_ a4⟩
     ·rcases List.mem_cons.1 hx with rfl | hx
      ·exact a1 _ hc
      ·exact a2 x hx
     ·rcases a3 x hx with h | ⟨⟨z,hz,hzx⟩,h⟩
      ·exact .inl h
      ·exact .inr ⟨⟨z,by simp [hz],hzx⟩,h⟩
     ·unfold s77_0
      rw [decide_eq_true (by omega),cond_true,gd_of (by simp),hlt,pre,kI_mk]
      rw [show seenM S=(S.map fun x=>(x,true)).map (aE V.bool) from rfl,mfK_a,seen_get,if_pos hc,elimK_s,kB_mk,Bool.not_true,cond_false,wi k (by omega)]
    ·have hlt2:=left_lt hcU hc
     obtain ⟨S2,b1,b2⟩:=ih c (S++[c]) (by omega)
     have hS2:∀x∈S,x∈S2:=fun x hx=>b1.sub x (by simp [hx])
     have hcS2:c∈S2:=b1.sub c (by simp)
     obtain ⟨S',a1,a2,a3,a4⟩:=ihr (k+1) S2 h2 (by omega) (by have:=left_le (U:=U) hS2;omega)
     refine ⟨S',fun x hx=>a1 x (hS2 x hx),fun x hx=>?_,fun x hx=>?_,s77_0_run _ _ _ _ _ _ _ _ ?_ a4⟩
     ·rcases List.mem_cons.1 hx with rfl | hx
      ·exact a1 _ hcS2
      ·exact a2 x hx
     ·rcases a3 x hx with h | ⟨⟨z,hz,hzx⟩,h⟩
      ·rcases b1.new x h with h' | ⟨h',h''⟩
       ·rcases List.mem_append.1 h' with h' | h'
        ·exact .inl h'
        ·simp only [List.mem_singleton] at h'
         subst h'
         exact .inr ⟨⟨x,by simp,.inl rfl⟩,fun y hy=>a1 y (b1.all y hy)⟩
       ·exact .inr ⟨⟨c,by simp,.inr h'⟩,fun y hy=>a1 y (h'' y hy)⟩
      ·exact .inr ⟨⟨z,by simp [hz],hzx⟩,h⟩
     ·unfold s77_0
      rw [decide_eq_true (by omega),cond_true,gd_of (by simp),hlt,pre,kI_mk]
      rw [show seenM S=(S.map fun x=>(x,true)).map (aE V.bool) from rfl,mfK_a,seen_get,if_neg hc,elimK_n,put_a V.bool c true,opt_mk,seen_put hc]
      rw [show ((S++[c]).map fun x=>(x,true)).map (aE V.bool)=seenM (S++[c]) from rfl,icM_of mk77_inj b2]
      dsimp only
      rw [wi k (by omega)]
  obtain ⟨S',a1,a2,a3,a4⟩:=loop (behA L W o) 0 S rfl (by omega) hl
  refine ⟨S',⟨a1,a2,fun x hx=>?_⟩,e77_run _ _ _ _ _ _ ?h2 ⟨_,_,a4,by kernel_rfl⟩⟩
  ·rcases a3 x hx with h | ⟨⟨z,hz,rfl | hzx⟩,h⟩
   ·exact .inl h
   ·exact .inr ⟨.one hz,h⟩
   ·exact .inr ⟨.step hz hzx,h⟩
  case h2 =>
   unfold e77
   rw [beh_ok h hs hw,opt_mk,List.length_map];rfl
open Classical in
noncomputable def deadB (L:List Lk) (W:WL) (o:Int):Bool:=decide (Rch (behA L W) o o)
def allO (L:List Lk):List Int:=L.flatMap fun e=>e.q.map (·.1)++e.held.map (·.1)
theorem behindL_mem {hs qs:HQ} {i:Nat} {o m x:Int}:x∈behindL hs qs i o m↔x∈(qs.take i).map (·.1)∨∃p∈hs,p.1=x/\p.1≠o/\fitsB p.2 m=false:=by
 unfold behindL confl
 rw [srt_mem,List.mem_eraseDups,List.mem_append]
 refine or_congr Iff.rfl ?_
 simp only [List.mem_map,List.mem_filter,Bool.and_eq_true,Bool.not_eq_true',beq_eq_false_iff_ne,ne_eq]
 constructor
 ·rintro ⟨p,⟨h1,h2,h3⟩,rfl⟩;exact ⟨p,h1,rfl,h2,h3⟩
 ·rintro ⟨p,h1,rfl,h2,h3⟩;exact ⟨p,⟨h1,h2,h3⟩,rfl⟩
theorem behA_all (o x:Int) (hx:x∈behA L W o):x∈allO L:=by
 unfold behA at hx
 split at hx
 ·cases hx
 ·split at hx
  ·cases hx
  ·rename_i e he
   split at hx
   ·unfold allO
    rw [List.mem_flatMap]
    refine ⟨e,(getL_some he).1,List.mem_append.2 ?_⟩
    rcases behindL_mem.1 hx with h | ⟨p,hp,rfl,_⟩
    ·obtain ⟨p,hp,rfl⟩:=List.mem_map.1 h
     exact .inl (List.mem_map.2 ⟨p,List.mem_of_mem_take hp,rfl⟩)
    ·exact .inr (List.mem_map.2 ⟨p,hp,rfl⟩)
   ·cases hx
theorem dead_ok (h:Rep els ms lk ws ix L W) (hs:Sz N L) (hw:WOK L W) (o:Int):icC cfgB ⟨true,false⟩ 59 [.ptr 2 0 0,.int .i64 o] (tm els ms lk ws)=some (mk59 (deadB L W o,els,ms,lk,ws)):=by
 obtain ⟨S,a1,a2⟩:=reach_ok h hs hw (U:=allO L) (fun o x=>behA_all o x) _ o [] (Nat.lt_succ_self _)
 have hcl:∀x,Rch (behA L W) o x->x∈S:=by
  have key:∀a x,Rch (behA L W) a x->(a=o∨a∈S)->x∈S:=by
   intro a x hr
   induction hr with
   | one hx =>
    rintro (rfl | ha)
    ·exact a1.all _ hx
    ·rcases a1.new _ ha with h | ⟨_,h⟩
     ·cases h
     ·exact h _ hx
   | step hx _ ih =>
    rintro (rfl | ha)
    ·exact ih (.inr (a1.all _ hx))
    ·rcases a1.new _ ha with h | ⟨_,h⟩
     ·cases h
     ·exact ih (.inr (h _ hx))
  exact fun x hr=>key o x hr (.inl rfl)
 have hiff:o∈S↔Rch (behA L W) o o:=⟨fun ho=>by
  rcases a1.new o ho with h | ⟨h,_⟩
  ·cases h
  ·exact h,hcl o⟩
 have hd:deadB L W o=decide (o∈S):=by
  unfold deadB
  by_cases hx:o∈S
  ·rw [decide_eq_true hx];exact @decide_eq_true _ (Classical.propDecidable _) (hiff.1 hx)
  ·rw [decide_eq_false hx];exact @decide_eq_false _ (Classical.propDecidable _) fun hh=>hx (hiff.2 hh)
 have a2:icC cfgB ⟨true,false⟩ 77 [.int .i64 o,.ptr 2 0 0,.ptr 3 0 0,.ptr 4 0 0] [.arena 66 els,.marena 63 ms,.box 23 (.ptr 5 0 0) false,.box 88 (.mp 6) false,.box 108 (.fn 77 [.ptr 2 0 0,.ptr 3 0 0,.ptr 4 0 0]) false,.box 38 (.agg [.mp 7,.mp 8]) false,.map [],.map lk,.map ws]=some (mk77 (els,ms,seenM S,lk,ws)):=a2
 by_cases hx:o∈S
 ·rw [hd,decide_eq_true hx]
  refine e59_run _ _ _ _ _ (o:=.doneM ?v1 ?m1) ?h1 (.done ?n1)
  case h1 =>
   unfold e59
   rw [icM_of mk77_inj a2]
   dsimp only
   rw [show seenM S=(S.map fun x=>(x,true)).map (aE V.bool) from rfl,mfK_a,seen_get,if_pos hx,elimK_s,kB_mk]
  case n1=>kernel_rfl
 ·rw [hd,decide_eq_false hx]
  refine e59_run _ _ _ _ _ (o:=.doneM ?v2 ?m2) ?h2 (.done ?n2)
  case h2 =>
   unfold e59
   rw [icM_of mk77_inj a2]
   dsimp only
   rw [show seenM S=(S.map fun x=>(x,true)).map (aE V.bool) from rfl,mfK_a,seen_get,if_neg hx,elimK_n]
  case n2=>kernel_rfl
end
section
variable {els:List V} {ms:List (List (V × V))} {lk ws:List (V × V)} {ix:Bs->Nat} {L:List Lk} {W:WL} {nm:Bs} {e:Lk} {N:Nat}
def insQ (e:Lk) (o m:Int):HQ:=e.q.take (placeN e o)++(o,m)::e.q.drop (placeN e o)
noncomputable def stayA (L:List Lk) (W:WL) (nm:Bs) (o m:Int):Int × List Lk × WL :=
 match getL (atL L nm) nm with
 | some e=>if deadB (setL (atL L nm) nm e.held (insQ e o m)) (putA W o nm) o then (11,atL L nm,W) else (10,setL (atL L nm) nm e.held (insQ e o m),putA W o nm)
 | none=>(11,L,W)
theorem del_put {α:Type} {l:List (Int × α)} {o:Int} (h:getA l o=none) (a:α):delA (putA l o a) o=l:=by
 induction l with
 | nil=>simp [putA,delA]
 | cons p l ih =>
  rw [getA_cons] at h
  split at h
  ·cases h
  ·rename_i hp
   have hne:¬(o==p.1)=true:=by simpa using fun e=>hp e.symm
   unfold putA
   rw [if_neg hne]
   unfold delA
   rw [if_neg hne,ih h]
theorem setQ_back (hn:(nms L).Nodup) (he:getL L nm=some e) (q:HQ):setL (setL L nm e.held q) nm e.held e.q=L:=by rw [set_set,set_same hn he]
theorem stay_ok (hnm:Nm nm) (h:Rep els ms lk ws ix L W) (hs:Sz N L) (o m:Int) (hg:getA W o=none) (hs2:∀e,getL (atL L nm) nm=some e->Sz N (setL (atL L nm) nm e.held (insQ e o m))/\WOK (setL (atL L nm) nm e.held (insQ e o m)) (putA W o nm)) (hsa:Sz N (atL L nm)) :
  ∃els' ms' lk' ix',icC cfgB ⟨true,false⟩ 30 [.ptr 2 0 0,.str nm,.agg [.int .i64 o,.int .i64 m]] (tm els ms lk ws)=some (mk30 ((stayA L W nm o m).1,els',ms',lk',(stayA L W nm o m).2.2.map wE)) /\
   Rep els' ms' lk' ((stayA L W nm o m).2.2.map wE) ix' (stayA L W nm o m).2.1 (stayA L W nm o m).2.2:=by
 obtain ⟨els1,ms1,lk1,ix1,a1,a2⟩:=at_ok h nm hnm
 obtain ⟨e,he,_⟩:=atL_get L nm
 obtain ⟨h2s,h2w⟩:=hs2 e he
 have hq:e.q.length<=4000:=by have:=hsa.q e (getL_some he).1;have:=hsa.n;omega
 have hpl:=placeN_le e o
 have b1:=place_ok a2 hsa he o
 have c2:=(a2.set he e.held (insQ e o m)).setW (putA W o nm)
 rw [set_self (show ms1[ix1 nm]? = some (e.held.map hE) by obtain ⟨h1,h2⟩:=getL_some he;exact h2 ▸ a2.hm e h1)] at c2
 have d1:=dead_ok c2 h2s h2w o
 have hins:((e.q.map pV).take (placeN e o)++[V.agg [V.int .i64 o,V.int .i64 m]])++(e.q.map pV).drop (placeN e o)=(insQ e o m).map pV:=by
  unfold insQ
  rw [List.map_append,List.map_cons,List.map_take,List.map_drop,List.append_assoc];rfl
 have he2:=getL_set he e.held (insQ e o m)
 have hst:stayA L W nm o m=if deadB (setL (atL L nm) nm e.held (insQ e o m)) (putA W o nm) o then (11,atL L nm,W) else (10,setL (atL L nm) nm e.held (insQ e o m),putA W o nm):=by unfold stayA;rw [he]
 have g1:gd (decide (0<=(placeN e o:Int)/\(placeN e o:Int).toNat<=(e.q.map pV).length/\(e.q.map pV).length+([V.agg [V.int .i64 o,V.int .i64 m]]:List V).length<=16777216))=fun q=>q:=by
  funext q;exact gd_of (decide_eq_true ⟨by omega,by simp;omega,by simp;omega⟩)
 have hk:=a2.ws
 rw [hst]
 cases hd:deadB (setL (atL L nm) nm e.held (insQ e o m)) (putA W o nm) o with
 | false =>
  rw [if_neg (by simp)]
  refine ⟨_,_,_,_,e30_run _ _ _ _ _ _ _ (o:=.doneM ?v1 ?m1) ?h1 (.done ?n1),c2⟩
  case h1 =>
   unfold e30
   rw [icM_of mk27_inj a1]
   dsimp only
   rw [a2.ax he,dL,pcK_of (clone_w e.q (by omega)),kF_m,icM_of mk58_inj b1]
   dsimp only
   rw [g1,a2.ax he,dL,hk,put_a V.str o nm,opt_mk,toNat_cast,hins,icM_of mk59_inj d1]
   dsimp only
   rw [hd,Bool.not_false,cond_true]
  case n1=>kernel_rfl
 | true =>
  rw [if_pos rfl]
  have f2:=(c2.set he2 e.held e.q).setW W
  rw [setQ_back a2.nd he,set_self (show ms1[ix1 nm]? = some (e.held.map hE) by obtain ⟨h1,h2⟩:=getL_some he;exact h2 ▸ a2.hm e h1)] at f2
  refine ⟨_,_,_,_,e30_run _ _ _ _ _ _ _ (o:=.doneM ?v2 ?m2) ?h2 (.done ?n2),f2⟩
  case h2 =>
   unfold e30
   rw [icM_of mk27_inj a1]
   dsimp only
   rw [a2.ax he,dL,pcK_of (clone_w e.q (by omega)),kF_m,icM_of mk58_inj b1]
   dsimp only
   rw [g1,a2.ax he,dL,hk,put_a V.str o nm,opt_mk,toNat_cast,hins,icM_of mk59_inj d1]
   dsimp only
   rw [hd,Bool.not_true,cond_false,c2.ax he2,dL,del_a,opt_mk,del_put hg]
  case n2=>kernel_rfl
noncomputable def askA (L:List Lk) (W:WL) (o:Int) (nm:Bs) (m:Int):Int × List Lk × WL :=
 if o < 0∨m<=0∨m ≥ 7 then (1,L,W) else if getA W o≠none then (9,L,W) else
 match getL (atL L nm) nm with
 | none=>(1,L,W)
 | some e =>
  if (getA e.held o).isSome/\joinB ((getA e.held o).getD 0) m=(getA e.held o).getD 0 then (0,atL L nm,W)
  else if canB e.held o (joinB ((getA e.held o).getD 0) m)=true/\((getA e.held o).isSome∨e.q=[]) then (0,setL (atL L nm) nm (putA e.held o (joinB ((getA e.held o).getD 0) m)) e.q,W)
  else stayA (atL L nm) W nm o (joinB ((getA e.held o).getD 0) m)
theorem atL_some (he:getL L nm=some e):atL L nm=L:=by unfold atL;rw [he]
theorem atL_at:atL (atL L nm) nm=atL L nm:=by
 obtain ⟨e,he,_⟩:=atL_get L nm
 exact atL_some he
theorem d79j (a b:Int) (k:Int->Int->R):d67 (.tup [.int .i64 a,.int .i64 b]) k=k a b:=rfl
theorem ask_ok (hnm:Nm nm) (h:Rep els ms lk ws ix L W) (hsa:Sz N (atL L nm)) (hs:Sz N L) (o m:Int)
  (hs2:getA W o=none->∀e w,getL (atL L nm) nm=some e->Sz N (setL (atL L nm) nm e.held (insQ e o w))/\WOK (setL (atL L nm) nm e.held (insQ e o w)) (putA W o nm)) :
  ∃els' ms' lk' ix',icC cfgB ⟨true,false⟩ 8 [.ptr 2 0 0,.int .i64 o,.str nm,.int .i64 m] (tm els ms lk ws)=some (mk8 ((askA L W o nm m).1,els',ms',lk',(askA L W o nm m).2.2.map wE)) /\
   Rep els' ms' lk' ((askA L W o nm m).2.2.map wE) ix' (askA L W o nm m).2.1 (askA L W o nm m).2.2:=by
 have hw:=h.ws
 by_cases h1:o < 0∨m<=0∨m ≥ 7
 ·have ha:askA L W o nm m=(1,L,W):=by unfold askA;rw [if_pos h1]
  rw [ha]
  refine ⟨els,ms,lk,ix,e8_run _ _ _ _ _ _ _ (o:=.doneM ?v1 ?m1) ?h1 (.done ?n1),hw ▸ h⟩
  case h1 =>
   unfold e8
   by_cases p1:o < 0
   ·rw [decide_eq_true p1,cond_true]
   ·rw [decide_eq_false p1,cond_false]
    by_cases p2:m<=0
    ·rw [decide_eq_true p2,cond_true]
    ·have p3:m ≥ 7:=by omega
     rw [decide_eq_false p2,cond_false,decide_eq_true p3,cond_true]
  case n1=>rw [hw];kernel_rfl
 have hm7:¬o < 0/\¬m<=0/\¬m ≥ 7:=by omega
 cases hg:getA W o with
 | some n2 =>
  have ha:askA L W o nm m=(9,L,W):=by unfold askA;rw [if_neg h1,if_pos (by rw [hg];simp)]
  rw [ha]
  refine ⟨els,ms,lk,ix,e8_run _ _ _ _ _ _ _ (o:=.doneM ?v2 ?m2) ?h2 (.done ?n2),hw ▸ h⟩
  case h2 =>
   unfold e8
   rw [decide_eq_false hm7.1,cond_false,decide_eq_false hm7.2.1,cond_false,decide_eq_false hm7.2.2,cond_false,h.wf,hg,elimK_s,kS_mk]
  case n2=>rw [hw];kernel_rfl
 | none =>
  obtain ⟨els1,ms1,lk1,ix1,a1,a2⟩:=at_ok h nm hnm
  obtain ⟨e,he,_⟩:=atL_get L nm
  have hst:=fun w=>stay_ok (nm:=nm) hnm a2 hsa o w hg (by rw [atL_at];exact fun e he=>hs2 hg e w he) (by rw [atL_at];exact hsa)
  cases hh:getA e.held o with
  | some had =>
   by_cases hj:joinB had m=had
   ·have ha:askA L W o nm m=(0,atL L nm,W):=by
     unfold askA;rw [if_neg h1,if_neg (by rw [hg];simp),he];dsimp only;rw [hh]
     exact if_pos ⟨rfl,hj⟩
    rw [ha]
    refine ⟨els1,ms1,lk1,ix1,e8_run _ _ _ _ _ _ _ (o:=.doneM ?v3 ?m3) ?h3 (.done ?n3),hw ▸ a2⟩
    case h3 =>
     unfold e8
     rw [decide_eq_false hm7.1,cond_false,decide_eq_false hm7.2.1,cond_false,decide_eq_false hm7.2.2,cond_false,h.wf,hg,elimK_n,icM_of mk27_inj a1]
     dsimp only
     rw [a2.ax he,dL,a2.mx he,mfK_a,hh,elimK_s,kI_mk,pcK_of (joinW had m),d79j,ibeq_t hj,cond_true]
    case n3=>rw [hw];kernel_rfl
   ·by_cases hc:canB e.held o (joinB had m)=true
    ·have ha:askA L W o nm m=(0,setL (atL L nm) nm (putA e.held o (joinB had m)) e.q,W):=by
      unfold askA;rw [if_neg h1,if_neg (by rw [hg];simp),he];dsimp only;rw [hh]
      exact (if_neg fun h=>hj h.2).trans (if_pos ⟨hc,.inl rfl⟩)
     rw [ha]
     have b2:=a2.set he (putA e.held o (joinB had m)) e.q
     rw [upd_eta a2 he] at b2
     refine ⟨_,_,_,_,e8_run _ _ _ _ _ _ _ (o:=.doneM ?v4 ?m4) ?h4 (.done ?n4),hw ▸ b2⟩
     case h4 =>
      unfold e8
      rw [decide_eq_false hm7.1,cond_false,decide_eq_false hm7.2.1,cond_false,decide_eq_false hm7.2.2,cond_false,h.wf,hg,elimK_n,icM_of mk27_inj a1]
      dsimp only
      rw [a2.ax he,dL,a2.mx he,mfK_a,hh,elimK_s,kI_mk,pcK_of (joinW had m),d79j,ibeq_f hj,cond_false,a2.can he,opt_mk,hc,cond_true,a2.ax he,dL,a2.mx he,put_a (V.int .i64) o (joinB had m),opt_mk]
     case n4=>rw [hw];kernel_rfl
    ·have hc':canB e.held o (joinB had m)=false:=by simpa using hc
     have ha:askA L W o nm m=stayA (atL L nm) W nm o (joinB had m):=by
      unfold askA;rw [if_neg h1,if_neg (by rw [hg];simp),he];dsimp only;rw [hh]
      exact (if_neg fun h=>hj h.2).trans (if_neg fun h=>hc h.1)
     rw [ha]
     obtain ⟨els',ms',lk',ix',c1,c2⟩:=hst (joinB had m)
     refine ⟨els',ms',lk',ix',e8_run _ _ _ _ _ _ _ (o:=.doneM ?v5 ?m5) ?h5 (.done ?n5),c2⟩
     case h5 =>
      unfold e8
      rw [decide_eq_false hm7.1,cond_false,decide_eq_false hm7.2.1,cond_false,decide_eq_false hm7.2.2,cond_false,h.wf,hg,elimK_n,icM_of mk27_inj a1]
      dsimp only
      rw [a2.ax he,dL,a2.mx he,mfK_a,hh,elimK_s,kI_mk,pcK_of (joinW had m),d79j,ibeq_f hj,cond_false,a2.can he,opt_mk,hc',cond_false,icM_of mk30_inj c1]
     case n5=>kernel_rfl
  | none =>
   by_cases hc:canB e.held o (joinB 0 m)=true
   ·by_cases hq:e.q=[]
    ·have ha:askA L W o nm m=(0,setL (atL L nm) nm (putA e.held o (joinB 0 m)) e.q,W):=by
      unfold askA;rw [if_neg h1,if_neg (by rw [hg];simp),he];dsimp only;rw [hh]
      exact (if_neg fun h=>by cases h.1).trans (if_pos ⟨hc,.inr hq⟩)
     rw [ha]
     have b2:=a2.set he (putA e.held o (joinB 0 m)) e.q
     rw [upd_eta a2 he] at b2
     refine ⟨_,_,_,_,e8_run _ _ _ _ _ _ _ (o:=.doneM ?v6 ?m6) ?h6 (.done ?n6),hw ▸ b2⟩
     case h6 =>
      unfold e8
      rw [decide_eq_false hm7.1,cond_false,decide_eq_false hm7.2.1,cond_false,decide_eq_false hm7.2.2,cond_false,h.wf,hg,elimK_n,icM_of mk27_inj a1]
      dsimp only
      rw [a2.ax he,dL,a2.mx he,mfK_a,hh,elimK_n,pcK_of (joinW 0 m),d79j,a2.can he,opt_mk,hc,cond_true,a2.ax he,dL,lenZ,decide_eq_true hq,cond_true,a2.ax he,dL,a2.mx he,put_a (V.int .i64) o (joinB 0 m),opt_mk]
     case n6=>rw [hw];kernel_rfl
    ·have ha:askA L W o nm m=stayA (atL L nm) W nm o (joinB 0 m):=by
      unfold askA;rw [if_neg h1,if_neg (by rw [hg];simp),he];dsimp only;rw [hh]
      exact (if_neg fun h=>by cases h.1).trans (if_neg fun h=>h.2.elim (fun h=>by cases h) hq)
     rw [ha]
     obtain ⟨els',ms',lk',ix',c1,c2⟩:=hst (joinB 0 m)
     refine ⟨els',ms',lk',ix',e8_run _ _ _ _ _ _ _ (o:=.doneM ?v7 ?m7) ?h7 (.done ?n7),c2⟩
     case h7 =>
      unfold e8
      rw [decide_eq_false hm7.1,cond_false,decide_eq_false hm7.2.1,cond_false,decide_eq_false hm7.2.2,cond_false,h.wf,hg,elimK_n,icM_of mk27_inj a1]
      dsimp only
      rw [a2.ax he,dL,a2.mx he,mfK_a,hh,elimK_n,pcK_of (joinW 0 m),d79j,a2.can he,opt_mk,hc,cond_true,a2.ax he,dL,lenZ,decide_eq_false hq,cond_false,icM_of mk30_inj c1]
     case n7=>kernel_rfl
   ·have hc':canB e.held o (joinB 0 m)=false:=by simpa using hc
    have ha:askA L W o nm m=stayA (atL L nm) W nm o (joinB 0 m):=by
     unfold askA;rw [if_neg h1,if_neg (by rw [hg];simp),he];dsimp only;rw [hh]
     exact (if_neg fun h=>by cases h.1).trans (if_neg fun h=>hc h.1)
    rw [ha]
    obtain ⟨els',ms',lk',ix',c1,c2⟩:=hst (joinB 0 m)
    refine ⟨els',ms',lk',ix',e8_run _ _ _ _ _ _ _ (o:=.doneM ?v8 ?m8) ?h8 (.done ?n8),c2⟩
    case h8 =>
     unfold e8
     rw [decide_eq_false hm7.1,cond_false,decide_eq_false hm7.2.1,cond_false,decide_eq_false hm7.2.2,cond_false,h.wf,hg,elimK_n,icM_of mk27_inj a1]
     dsimp only
     rw [a2.ax he,dL,a2.mx he,mfK_a,hh,elimK_n,pcK_of (joinW 0 m),d79j,a2.can he,opt_mk,hc',cond_false,icM_of mk30_inj c1]
    case n8=>kernel_rfl
end
end Go.Proofs.YtpkeiaeaonmacaaGreat
