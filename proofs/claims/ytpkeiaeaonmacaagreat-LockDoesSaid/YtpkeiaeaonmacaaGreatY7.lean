/-
  Texts that the last one stands on.
-/
import Derived.Test.YtpkeiaeaonmacaaGreatY6
import Derived.Shelf.SlIterI.Keys
import Derived.Shelf.SlIterI.Sorted
import Derived.Shelf.SlIter.Keys
import Derived.Shelf.SlIter.Sorted
import Derived.Shelf.SortM.Plain
import Derived.Shelf.SortM.SortNone
import Derived.KernelRfl
import Derived.Test.YtpkeiaeaonmacaaGreatProg
import Derived.Maps.Own
import Derived.Shelf.Spec.SlicesInsert
import Derived.Lib.SliceRun
namespace Go.Proofs.YtpkeiaeaonmacaaGreat.D
open Go Go.Lite
set_option maxRecDepth 100000
set_option linter.unusedVariables false
noncomputable def cBeh:Code:=(Tryz.f21.body).getD .skip
def d66 (v:V) (k:Nat->List V->R):R:=kA v fun cs=>unc cs fun c cs=>kM 63 c fun x0=>unc cs fun c cs=>kL c fun x1=>unn cs<|(k x0 x1)
@[simp] theorem d66_mk (x0:Nat) (x1:List V) (k:Nat->List V->R):d66 (.agg [V.hm 63 x0,V.sl x1]) k=k x0 x1:=rfl
@[congr] theorem d66_wc {v v':V} {k:Nat->List V->R} (h:v=v'):d66 v k=d66 v' k:=by rw [h]
def bS0 (x1:Int) (m0:List V) (m1:List (List (V × V))) (m3 m4:List (V × V)):S:=⟨[V.ptr 2 0 0,V.int .i64 x1]++(UT 82),[O.arena 66 m0,O.marena 63 m1,O.box 38 (V.agg [V.mp 3,V.mp 4]) false,O.map m3,O.map m4]⟩
def bSA (x1:Int) (m0:List V) (m1:List (List (V × V))) (m3:List (V × V)) (m4:List (V × V)) (m5:Int):S:=⟨[V.ptr 2 0 0,V.int .i64 x1,V.tup [],V.ptr 5 0 0,V.own 6]++(UT 79),[O.arena 66 m0,O.marena 63 m1,O.box 38 (V.agg [V.mp 3,V.mp 4]) false,O.map m3,O.map m4,O.box 3 (V.int .i64 m5) false,O.row 3 [] 0]⟩
def bSB (x1:Int) (x5:List UInt8) (x6:Bool) (x14_0:List UInt8) (x14_1:Bool) (x19:Int) (x20_0:List UInt8) (x20_1:Bool) (x21:List UInt8) (x22:Bool) (m0:List V) (m1:List (List (V × V))) (m3:List (V × V)) (m4:List (V × V)) (m5:Int):S:=⟨[V.ptr 2 0 0,V.int .i64 x1,V.tup [],V.ptr 5 0 0,V.own 6,V.str x5,V.bool x6]++(UT 7)++[V.tup [V.str x14_0,V.bool x14_1],V.ptr 2 0 0,V.ptr 2 0 0,V.ptr 2 0 1,V.mp 4,V.int .i64 x19,V.tup [V.str x20_0,V.bool x20_1],V.str x21,V.bool x22]++(UT 61),[O.arena 66 m0,O.marena 63 m1,O.box 38 (V.agg [V.mp 3,V.mp 4]) false,O.map m3,O.map m4,O.box 3 (V.int .i64 m5) false,O.row 3 [] 0]⟩
def bSR (x1:Int) (x5:List UInt8) (x6:Bool) (x14_0:List UInt8) (x14_1:Bool) (x19:Int) (x20_0:List UInt8) (x20_1:Bool) (x21:List UInt8) (x22:Bool) (x23:Bool) (m0:List V) (m1:List (List (V × V))) (m3:List (V × V)) (m4:List (V × V)) (m5:Int):S:=⟨[V.ptr 2 0 0,V.int .i64 x1,V.tup [],V.ptr 5 0 0,V.own 7,V.str x5,V.bool x6]++(UT 7)++[V.tup [V.str x14_0,V.bool x14_1],V.ptr 2 0 0,V.ptr 2 0 0,V.ptr 2 0 1,V.mp 4,V.int .i64 x19,V.tup [V.str x20_0,V.bool x20_1],V.str x21,V.bool x22,V.bool x23,V.bool true]++(UT 59),[O.arena 66 m0,O.marena 63 m1,O.box 38 (V.agg [V.mp 3,V.mp 4]) false,O.map m3,O.map m4,O.box 3 (V.int .i64 m5) false,O.row 3 [] 0,O.row 3 [] 0]⟩
def bSC (x1:Int) (x5:List UInt8) (x6:Bool) (x14_0:List UInt8) (x14_1:Bool) (x19:Int) (x20_0:List UInt8) (x20_1:Bool) (x21:List UInt8) (x22:Bool) (x23:Bool) (m0:List V) (m1:List (List (V × V))) (m3:List (V × V)) (m4:List (V × V)) (m5:Int):S:=⟨[V.ptr 2 0 0,V.int .i64 x1,V.tup [],V.ptr 5 0 0,V.own 6,V.str x5,V.bool x6]++(UT 7)++[V.tup [V.str x14_0,V.bool x14_1],V.ptr 2 0 0,V.ptr 2 0 0,V.ptr 2 0 1,V.mp 4,V.int .i64 x19,V.tup [V.str x20_0,V.bool x20_1],V.str x21,V.bool x22,V.bool x23,V.bool false]++(UT 59),[O.arena 66 m0,O.marena 63 m1,O.box 38 (V.agg [V.mp 3,V.mp 4]) false,O.map m3,O.map m4,O.box 3 (V.int .i64 m5) false,O.row 3 [] 0]⟩
def bSD (x1:Int) (x5:List UInt8) (x6:Bool) (x14_0:List UInt8) (x14_1:Bool) (x19:Int) (x20_0:List UInt8) (x20_1:Bool) (x21:List UInt8) (x22:Bool) (x23:Bool) (x29:List UInt8) (m0:List V) (m1:List (List (V × V))) (m3:List (V × V)) (m4:List (V × V)) (m5:Int):S:=⟨[V.ptr 2 0 0,V.int .i64 x1,V.tup [],V.ptr 5 0 0,V.own 6,V.str x5,V.bool x6,V.nilP,V.mp 7]++(UT 5)++[V.tup [V.str x14_0,V.bool x14_1],V.ptr 2 0 0,V.ptr 2 0 0,V.ptr 2 0 1,V.mp 4,V.int .i64 x19,V.tup [V.str x20_0,V.bool x20_1],V.str x21,V.bool x22,V.bool x23,V.bool false,V.ptr 2 0 0,V.ptr 2 0 0,V.ptr 2 0 0,V.mp 3,V.str x29,V.nilP,V.mp 7]++(UT 52),[O.arena 66 m0,O.marena 63 m1,O.box 38 (V.agg [V.mp 3,V.mp 4]) false,O.map m3,O.map m4,O.box 3 (V.int .i64 m5) false,O.row 3 [] 0,O.map []]⟩
def bSDb (x1:Int) (x5:List UInt8) (x6:Bool) (x7:Nat) (x14_0:List UInt8) (x14_1:Bool) (x19:Int) (x20_0:List UInt8) (x20_1:Bool) (x21:List UInt8) (x22:Bool) (x23:Bool) (x29:List UInt8) (x30:Nat) (m0:List V) (m1:List (List (V × V))) (m3:List (V × V)) (m4:List (V × V)) (m5:Int):S:=⟨[V.ptr 2 0 0,V.int .i64 x1,V.tup [],V.ptr 5 0 0,V.own 6,V.str x5,V.bool x6,V.hp 66 x7 0,V.mp 7]++(UT 5)++[V.tup [V.str x14_0,V.bool x14_1],V.ptr 2 0 0,V.ptr 2 0 0,V.ptr 2 0 1,V.mp 4,V.int .i64 x19,V.tup [V.str x20_0,V.bool x20_1],V.str x21,V.bool x22,V.bool x23,V.bool false,V.ptr 2 0 0,V.ptr 2 0 0,V.ptr 2 0 0,V.mp 3,V.str x29,V.hp 66 x30 0,V.mp 7]++(UT 52),[O.arena 66 m0,O.marena 63 m1,O.box 38 (V.agg [V.mp 3,V.mp 4]) false,O.map m3,O.map m4,O.box 3 (V.int .i64 m5) false,O.row 3 [] 0,O.map []]⟩
def bSE (x1:Int) (x5:List UInt8) (x6:Bool) (x7:Nat) (x9:Int) (x14_0:List UInt8) (x14_1:Bool) (x19:Int) (x20_0:List UInt8) (x20_1:Bool) (x21:List UInt8) (x22:Bool) (x23:Bool) (x29:List UInt8) (x30:Nat) (x32:Nat) (x33:Nat) (x34:Nat) (x35:List V) (x37:Int) (m0:List V) (m1:List (List (V × V))) (m3:List (V × V)) (m4:List (V × V)) (m5:Int):S:=⟨[V.ptr 2 0 0,V.int .i64 x1,V.tup [],V.ptr 5 0 0,V.own 6,V.str x5,V.bool x6,V.hp 66 x7 0,V.mp 7,V.int .i64 x9]++(UT 4)++[V.tup [V.str x14_0,V.bool x14_1],V.ptr 2 0 0,V.ptr 2 0 0,V.ptr 2 0 1,V.mp 4,V.int .i64 x19,V.tup [V.str x20_0,V.bool x20_1],V.str x21,V.bool x22,V.bool x23,V.bool false,V.ptr 2 0 0,V.ptr 2 0 0,V.ptr 2 0 0,V.mp 3,V.str x29,V.hp 66 x30 0,V.mp 7,V.hp 66 x32 0,V.hp 66 x33 0,V.hp 66 x34 1,V.sl x35,V.fn 48 [V.ptr 5 0 0],V.int .i64 x37]++(UT 46),[O.arena 66 m0,O.marena 63 m1,O.box 38 (V.agg [V.mp 3,V.mp 4]) false,O.map m3,O.map m4,O.box 3 (V.int .i64 m5) false,O.row 3 [] 0,O.map []]⟩
def bSp6u (x1:Int) (x5:List UInt8) (x6:Bool) (x7:Nat) (x9:Int) (x14_0:List UInt8) (x14_1:Bool) (x19:Int) (x20_0:List UInt8) (x20_1:Bool) (x21:List UInt8) (x22 x23:Bool) (x29:List UInt8) (x30:Nat) (x32:Nat) (x33:Nat) (x34:Nat) (x35:List V) (x37:Int) (x38:Nat) (x39:Nat) (x40:Nat) (x41:List V) (x42:Int) (x43:List V) (x44:Int) (m0:List V) (m1:List (List (V × V))) (m3 m4:List (V × V)) (m5:Int):S:=⟨[V.ptr 2 0 0,V.int .i64 x1,V.tup [],V.ptr 5 0 0,V.own 6,V.str x5,V.bool x6,V.hp 66 x7 0,V.mp 7,V.int .i64 x9]++(UT 4)++[V.tup [V.str x14_0,V.bool x14_1],V.ptr 2 0 0,V.ptr 2 0 0,V.ptr 2 0 1,V.mp 4,V.int .i64 x19,V.tup [V.str x20_0,V.bool x20_1],V.str x21,V.bool x22,V.bool x23,V.bool false,V.ptr 2 0 0,V.ptr 2 0 0,V.ptr 2 0 0,V.mp 3,V.str x29,V.hp 66 x30 0,V.mp 7,V.hp 66 x32 0,V.hp 66 x33 0,V.hp 66 x34 1,V.sl x35,V.fn 48 [V.ptr 5 0 0],V.int .i64 x37,V.hp 66 x38 0,V.hp 66 x39 0,V.hp 66 x40 1,V.sl x41,V.int .i64 x42,V.sl x43,V.int .i64 x44,V.int .i64 0]++(UT 38),[O.arena 66 m0,O.marena 63 m1,O.box 38 (V.agg [V.mp 3,V.mp 4]) false,O.map m3,O.map m4,O.box 3 (V.int .i64 m5) false,O.row 3 [] 0,O.map []]⟩
def bSF (x1:Int) (x7:Nat) (x9:Int) (x43:List V) (x44:Int) (x45:Int) (m0:List V) (m1:List (List (V × V))) (m3:List (V × V)) (m4:List (V × V)) (m5:Int) (m7:List (V × V)):S:=⟨[V.ptr 2 0 0,V.int .i64 x1,V.junk,V.ptr 5 0 0,V.own 6,V.junk,V.junk,V.hp 66 x7 0,V.mp 7,V.int .i64 x9]++(JU 33)++[V.sl x43,V.int .i64 x44,V.int .i64 x45]++(JU 38),[O.arena 66 m0,O.marena 63 m1,O.box 38 (V.agg [V.mp 3,V.mp 4]) false,O.map m3,O.map m4,O.box 3 (V.int .i64 m5) false,O.row 3 [] 0,O.map m7]⟩
def bSfru (x1:Int) (x7:Nat) (x9:Int) (x43:List V) (x44:Int) (x45:Int) (x47:Int) (x47_1:Int) (x48_0:Int) (x48_1:Int) (x51:Int) (x52:Int) (m0:List V) (m1:List (List (V × V))) (m3:List (V × V)) (m4:List (V × V)) (m5:Int) (m7:List (V × V)) (m8_0:Int) (m8_1:Int):S:=⟨[V.ptr 2 0 0,V.int .i64 x1,V.junk,V.ptr 5 0 0,V.own 6,V.junk,V.junk,V.hp 66 x7 0,V.mp 7,V.int .i64 x9,V.junk,V.ptr 8 0 0]++(JU 31)++[V.sl x43,V.int .i64 x44,V.int .i64 x45,V.bool true,V.ref (V.agg [V.int .i64 x47,V.int .i64 x47_1]) 0,V.agg [V.int .i64 x48_0,V.int .i64 x48_1],V.mp 7,V.ptr 8 0 0,V.int .i64 x51,V.int .i64 x52]++(JU 31),[O.arena 66 m0,O.marena 63 m1,O.box 38 (V.agg [V.mp 3,V.mp 4]) false,O.map m3,O.map m4,O.box 3 (V.int .i64 m5) false,O.row 3 [] 0,O.map m7,O.box 70 (V.agg [V.int .i64 m8_0,V.int .i64 m8_1]) false]⟩
def bSG (x1:Int) (x7:Nat) (x9:Int) (x43:List V) (x44:Int) (x45:Int) (m0:List V) (m1:List (List (V × V))) (m3:List (V × V)) (m4:List (V × V)) (m5:Int) (m7:List (V × V)):S:=⟨[V.ptr 2 0 0,V.int .i64 x1,V.junk,V.ptr 5 0 0,V.own 6,V.junk,V.junk,V.hp 66 x7 0,V.mp 7,V.int .i64 x9]++(JU 33)++[V.sl x43,V.int .i64 x44,V.int .i64 x45,V.bool false]++(JU 37),[O.arena 66 m0,O.marena 63 m1,O.box 38 (V.agg [V.mp 3,V.mp 4]) false,O.map m3,O.map m4,O.box 3 (V.int .i64 m5) false,O.row 3 [] 0,O.map m7]⟩
def bSH (x1:Int) (x7:Nat) (x9:Int) (m0:List V) (m1:List (List (V × V))) (m3:List (V × V)) (m4:List (V × V)) (m5:Int) (m7:List (V × V)):S:=⟨[V.ptr 2 0 0,V.int .i64 x1,V.junk,V.ptr 5 0 0,V.own 6,V.junk,V.junk,V.hp 66 x7 0,V.mp 7,V.int .i64 x9]++(JU 74),[O.arena 66 m0,O.marena 63 m1,O.box 38 (V.agg [V.mp 3,V.mp 4]) false,O.map m3,O.map m4,O.box 3 (V.int .i64 m5) false,O.row 3 [] 0,O.map m7]⟩
def bSI (x1:Int) (x7:Nat) (x9:Int) (x53:Nat) (x54:Nat) (x55:Nat) (x56:Nat) (m0:List V) (m1:List (List (V × V))) (m3:List (V × V)) (m4:List (V × V)) (m5:Int) (m7:List (V × V)):S:=⟨[V.ptr 2 0 0,V.int .i64 x1,V.junk,V.ptr 5 0 0,V.own 6,V.junk,V.junk,V.hp 66 x7 0,V.mp 7,V.int .i64 x9]++(JU 43)++[V.hp 66 x53 0,V.hp 66 x54 0,V.hp 66 x55 0,V.hm 63 x56]++(JU 27),[O.arena 66 m0,O.marena 63 m1,O.box 38 (V.agg [V.mp 3,V.mp 4]) false,O.map m3,O.map m4,O.box 3 (V.int .i64 m5) false,O.row 3 [] 0,O.map m7]⟩
def bSK (x1:Int) (x7:Nat) (x9:Int) (x53:Nat) (x54:Nat) (x55:Nat) (x56:Nat) (m0:List V) (m3:List (V × V)) (m4:List (V × V)) (m5:Int) (m7:List (V × V)):S:=⟨[V.ptr 2 0 0,V.int .i64 x1,V.junk,V.ptr 5 0 0,V.own 6,V.junk,V.junk,V.hp 66 x7 0,V.mp 7,V.int .i64 x9]++(JU 43)++[V.hp 66 x53 0,V.hp 66 x54 0,V.hp 66 x55 0,V.hm 63 x56]++(JU 27),[O.arena 66 m0,O.dead,O.box 38 (V.agg [V.mp 3,V.mp 4]) false,O.map m3,O.map m4,O.box 3 (V.int .i64 m5) false,O.row 3 [] 0,O.map m7]⟩
def bSM (x1:Int) (x7:Nat) (x9:Int) (x53:Nat) (x54:Nat) (x55:Nat) (x56:Nat) (x58_1:Int) (x58_2:Int) (x60_0:Int) (x60_1:Int) (m0:List V) (m3:List (V × V)) (m4:List (V × V)) (m5:Int) (m7:List (V × V)):S:=⟨[V.ptr 2 0 0,V.int .i64 x1,V.junk,V.ptr 5 0 0,V.own 6,V.junk,V.junk,V.hp 66 x7 0,V.mp 7,V.int .i64 x9]++(JU 43)++[V.hp 66 x53 0,V.hp 66 x54 0,V.hp 66 x55 0,V.hm 63 x56,V.junk,V.tup [V.bool true,V.int .i64 x58_1,V.int .i64 x58_2],V.bool true,V.tup [V.int .i64 x60_0,V.int .i64 x60_1]]++(JU 23),[O.arena 66 m0,O.dead,O.box 38 (V.agg [V.mp 3,V.mp 4]) false,O.map m3,O.map m4,O.box 3 (V.int .i64 m5) false,O.row 3 [] 0,O.map m7]⟩
def bSN (x1:Int) (x7:Nat) (x9:Int) (x12:Int) (x13:Int) (x53:Nat) (x54:Nat) (x55:Nat) (x56:Nat) (x58_1:Int) (x58_2:Int) (x60_0:Int) (x60_1:Int) (x61:Int) (x62:Int) (m0:List V) (m3:List (V × V)) (m4:List (V × V)) (m5:Int) (m7:List (V × V)):S:=⟨[V.ptr 2 0 0,V.int .i64 x1,V.junk,V.ptr 5 0 0,V.own 6,V.junk,V.junk,V.hp 66 x7 0,V.mp 7,V.int .i64 x9,V.junk,V.junk,V.int .i64 x12,V.int .i64 x13]++(JU 39)++[V.hp 66 x53 0,V.hp 66 x54 0,V.hp 66 x55 0,V.hm 63 x56,V.junk,V.tup [V.bool true,V.int .i64 x58_1,V.int .i64 x58_2],V.bool true,V.tup [V.int .i64 x60_0,V.int .i64 x60_1],V.int .i64 x61,V.int .i64 x62]++(JU 21),[O.arena 66 m0,O.dead,O.box 38 (V.agg [V.mp 3,V.mp 4]) false,O.map m3,O.map m4,O.box 3 (V.int .i64 m5) false,O.row 3 [] 0,O.map m7]⟩
def bSmBu (x1:Int) (x7:Nat) (x9:Int) (x12:Int) (x13:Int) (x53:Nat) (x54:Nat) (x55:Nat) (x56:Nat) (x58_1:Int) (x58_2:Int) (x60_0:Int) (x60_1:Int) (x61:Int) (x62:Int) (x63:Int) (x64:Int) (x65:Bool) (x67:Int) (x68:Nat) (x69:Nat) (x70:Nat) (x71:List V) (x72:Int) (x73:Int) (x73_1:Int) (x74:Int) (x74_1:Int) (x75:Int) (x76:Bool) (x77:Bool) (x80:Int) (m0:List V) (m3:List (V × V)) (m4:List (V × V)) (m5:Int) (m7:List (V × V)):S:=⟨[V.ptr 2 0 0,V.int .i64 x1,V.junk,V.ptr 5 0 0,V.own 6,V.junk,V.junk,V.hp 66 x7 0,V.mp 7,V.int .i64 x9,V.junk,V.junk,V.int .i64 x12,V.int .i64 x13]++(JU 39)++[V.hp 66 x53 0,V.hp 66 x54 0,V.hp 66 x55 0,V.hm 63 x56,V.junk,V.tup [V.bool true,V.int .i64 x58_1,V.int .i64 x58_2],V.bool true,V.tup [V.int .i64 x60_0,V.int .i64 x60_1],V.int .i64 x61,V.int .i64 x62,V.int .i64 x63,V.int .i64 x64,V.bool x65,V.bool true,V.int .i64 x67,V.hp 66 x68 0,V.hp 66 x69 0,V.hp 66 x70 1,V.sl x71,V.int .i64 x72,V.ref (V.agg [V.int .i64 x73,V.int .i64 x73_1]) 0,V.ref (V.agg [V.int .i64 x74,V.int .i64 x74_1]) 1,V.int .i64 x75,V.bool x76,V.bool x77,V.bool true,V.mp 7,V.int .i64 x80,V.junk,V.junk,V.junk],[O.arena 66 m0,O.dead,O.box 38 (V.agg [V.mp 3,V.mp 4]) false,O.map m3,O.map m4,O.box 3 (V.int .i64 m5) false,O.row 3 [] 0,O.map m7]⟩
def bSmBub (x1:Int) (x7:Nat) (x9:Int) (x12:Int) (x13:Int) (x53:Nat) (x54:Nat) (x55:Nat) (x56:Nat) (x58_1:Int) (x58_2:Int) (x60_0:Int) (x60_1:Int) (x61:Int) (x62:Int) (x63:Int) (x64:Int) (x65:Bool) (x67:Int) (x68:Nat) (x69:Nat) (x70:Nat) (x71:List V) (x72:Int) (x73:Int) (x73_1:Int) (x74:Int) (x74_1:Int) (x75:Int) (x76:Bool) (x77:Bool) (m0:List V) (m3:List (V × V)) (m4:List (V × V)) (m5:Int) (m7:List (V × V)):S:=⟨[V.ptr 2 0 0,V.int .i64 x1,V.junk,V.ptr 5 0 0,V.own 6,V.junk,V.junk,V.hp 66 x7 0,V.mp 7,V.int .i64 x9,V.junk,V.junk,V.int .i64 x12,V.int .i64 x13]++(JU 39)++[V.hp 66 x53 0,V.hp 66 x54 0,V.hp 66 x55 0,V.hm 63 x56,V.junk,V.tup [V.bool true,V.int .i64 x58_1,V.int .i64 x58_2],V.bool true,V.tup [V.int .i64 x60_0,V.int .i64 x60_1],V.int .i64 x61,V.int .i64 x62,V.int .i64 x63,V.int .i64 x64,V.bool x65,V.bool true,V.int .i64 x67,V.hp 66 x68 0,V.hp 66 x69 0,V.hp 66 x70 1,V.sl x71,V.int .i64 x72,V.ref (V.agg [V.int .i64 x73,V.int .i64 x73_1]) 0,V.ref (V.agg [V.int .i64 x74,V.int .i64 x74_1]) 1,V.int .i64 x75,V.bool x76,V.bool x77,V.bool false]++(JU 5),[O.arena 66 m0,O.dead,O.box 38 (V.agg [V.mp 3,V.mp 4]) false,O.map m3,O.map m4,O.box 3 (V.int .i64 m5) false,O.row 3 [] 0,O.map m7]⟩
def bSmBuc (x1:Int) (x7:Nat) (x9:Int) (x12:Int) (x13:Int) (x53:Nat) (x54:Nat) (x55:Nat) (x56:Nat) (x58_1:Int) (x58_2:Int) (x60_0:Int) (x60_1:Int) (x61:Int) (x62:Int) (x63:Int) (x64:Int) (x65:Bool) (m0:List V) (m3:List (V × V)) (m4:List (V × V)) (m5:Int) (m7:List (V × V)):S:=⟨[V.ptr 2 0 0,V.int .i64 x1,V.junk,V.ptr 5 0 0,V.own 6,V.junk,V.junk,V.hp 66 x7 0,V.mp 7,V.int .i64 x9,V.junk,V.junk,V.int .i64 x12,V.int .i64 x13]++(JU 39)++[V.hp 66 x53 0,V.hp 66 x54 0,V.hp 66 x55 0,V.hm 63 x56,V.junk,V.tup [V.bool true,V.int .i64 x58_1,V.int .i64 x58_2],V.bool true,V.tup [V.int .i64 x60_0,V.int .i64 x60_1],V.int .i64 x61,V.int .i64 x62,V.int .i64 x63,V.int .i64 x64,V.bool x65,V.bool false]++(UT 11)++[V.bool false]++(JU 5),[O.arena 66 m0,O.dead,O.box 38 (V.agg [V.mp 3,V.mp 4]) false,O.map m3,O.map m4,O.box 3 (V.int .i64 m5) false,O.row 3 [] 0,O.map m7]⟩
def bSL (x1:Int) (x7:Nat) (x9:Int) (x53:Nat) (x54:Nat) (x55:Nat) (x56:Nat) (m0:List V) (m1:List (List (V × V))) (m3:List (V × V)) (m4:List (V × V)) (m5:Int) (m7:List (V × V)):S:=⟨[V.ptr 2 0 0,V.int .i64 x1,V.junk,V.ptr 5 0 0,V.own 6,V.junk,V.junk,V.hp 66 x7 0,V.mp 7,V.int .i64 x9]++(JU 43)++[V.hp 66 x53 0,V.hp 66 x54 0,V.hp 66 x55 0,V.hm 63 x56,V.junk,V.tup [V.bool false],V.bool false]++(JU 24),[O.arena 66 m0,O.marena 63 m1,O.box 38 (V.agg [V.mp 3,V.mp 4]) false,O.map m3,O.map m4,O.box 3 (V.int .i64 m5) false,O.row 3 [] 0,O.map m7]⟩
def bSZ (x1:Int) (x7:Nat) (x9:Int) (x53:Nat) (x54:Nat) (x55:Nat) (x56:Nat) (m0:List V) (m1:List (List (V × V))) (m3:List (V × V)) (m4:List (V × V)) (m5:Int) (m7:List (V × V)) (m9:List V):S:=⟨[V.ptr 2 0 0,V.int .i64 x1,V.junk,V.ptr 5 0 0,V.own 9,V.junk,V.junk,V.hp 66 x7 0,V.mp 7,V.int .i64 x9]++(JU 43)++[V.hp 66 x53 0,V.hp 66 x54 0,V.hp 66 x55 0,V.hm 63 x56,V.junk,V.tup [V.bool false],V.bool false]++(JU 21)++[V.mp 7,V.fn 71 [V.ptr 8 0 0],V.own 9],[O.arena 66 m0,O.marena 63 m1,O.box 38 (V.agg [V.mp 3,V.mp 4]) false,O.map m3,O.map m4,O.box 3 (V.int .i64 m5) false,O.row 3 [] 0,O.map m7,O.box 88 (V.mp 7) false,O.row 3 m9 0]⟩
def bc_p0:C :=
 (.ops false [o1 3 (.box 3 (t' 1)) 0,o1 4 (.assign (.const (.slice none 0 0))) 41])
theorem bc_p0_eq:prep (fun _=>false) (cL (cBeh))=some (bare bc_p0):=by kernel_rfl
theorem bc_p0_nl:nl bc_p0=0:=by kernel_rfl
noncomputable def bp0 (x1:Int) (m0:List V) (m1:List (List (V × V))) (m3 m4:List (V × V)):R :=
 some (.head 0 (bSA x1 m0 m1 m3 m4 x1))
theorem bp0_eq (x1:Int) (m0:List V) (m1:List (List (V × V))) (m3 m4:List (V × V)):pieceK kcA 5 bc_p0 (bS0 x1 m0 m1 m3 m4)=bp0 x1 m0 m1 m3 m4:=by kernel_rfl
def bc_p1:C :=
 (.ops true [mv 15 0 23,o1 16 (.nilCheck (t' 15)) 0,o1 17 (.fieldAddr 38 (t' 16) 1) 0,o1 18 (.load 36 (t' 17)) 36,o1 19 (.load 3 (t' 3)) 3,o1 20 (.lookup 36 (t' 18) (t' 19) true) 59,mv 14 20 59,o1 21 (.extract (t' 14) 0) 9,o1 22 (.extract (t' 14) 1) 4,asg 5 21 9,asg 6 22 4])
theorem bc_p1_eq:prep (fun _=>false) (cL (cR (cBeh)))=some (bare bc_p1):=by kernel_rfl
theorem bc_p1_nl:nl bc_p1=0:=by kernel_rfl
noncomputable def bp1 (x1:Int) (m0:List V) (m1:List (List (V × V))) (m3 m4:List (V × V)) (m5:Int):R :=
 mfK m4 (V.int .i64 m5)
 (some (.head 0 (bSB x1 [] false [] false m5 [] false [] false m0 m1 m3 m4 m5))) fun r =>
  kS r fun s =>
  some (.head 0 (bSB x1 s true s true m5 s true s true m0 m1 m3 m4 m5))
theorem bp1_eq (x1:Int) (m0:List V) (m1:List (List (V × V))) (m3 m4:List (V × V)) (m5:Int):pieceK kcA 5 bc_p1 (bSA x1 m0 m1 m3 m4 m5)=bp1 x1 m0 m1 m3 m4 m5:=by kernel_rfl
def bc_p2:C :=
 (.seq
 (.ops false [mv 23 6 4,o1 24 (.unOp .not 4 (t' 23)) 4])
 (.cond (t' 24)
 (.seq
 (.ops false [o1 4 (.assign (.const (.slice none 0 0))) 41])
 (.ret))
 (.skip)))
theorem bc_p2_eq:prep (fun _=>false) (cL (cR (cR (cBeh))))=some (bare bc_p2):=by kernel_rfl
theorem bc_p2_nl:nl bc_p2=0:=by kernel_rfl
noncomputable def bp2 (x1:Int) (x5:List UInt8) (x6:Bool) (x14_0:List UInt8) (x14_1:Bool) (x19:Int) (x20_0:List UInt8) (x20_1:Bool) (x21:List UInt8) (x22:Bool) (m0:List V) (m1:List (List (V × V))) (m3 m4:List (V × V)) (m5:Int):R :=
 cond (!x6)
 (some (.head 1 (bSR x1 x5 x6 x14_0 x14_1 x19 x20_0 x20_1 x21 x22 x6 m0 m1 m3 m4 m5)))
 (some (.head 0 (bSC x1 x5 x6 x14_0 x14_1 x19 x20_0 x20_1 x21 x22 x6 m0 m1 m3 m4 m5)))
theorem bp2_eq (x1:Int) (x5:List UInt8) (x6:Bool) (x14_0:List UInt8) (x14_1:Bool) (x19:Int) (x20_0:List UInt8) (x20_1:Bool) (x21:List UInt8) (x22:Bool) (m0:List V) (m1:List (List (V × V))) (m3 m4:List (V × V)) (m5:Int):pieceK kcA 5 bc_p2 (bSB x1 x5 x6 x14_0 x14_1 x19 x20_0 x20_1 x21 x22 m0 m1 m3 m4 m5)=bp2 x1 x5 x6 x14_0 x14_1 x19 x20_0 x20_1 x21 x22 m0 m1 m3 m4 m5:=by kernel_rfl
def bc_p4:C :=
 (.ops false [mv 25 0 23,o1 26 (.nilCheck (t' 25)) 0,o1 27 (.fieldAddr 38 (t' 26) 0) 0,o1 28 (.load 35 (t' 27)) 35,mv 29 5 9,o1 30 (.lookup 35 (t' 28) (t' 29) false) 60,o1 31 (.makeMap 88 none) 88,asg 7 30 60,asg 8 31 88])
theorem bc_p4_eq:prep (fun _=>false) (cL (cR (cR (cR (cBeh)))))=some (bare bc_p4):=by kernel_rfl
theorem bc_p4_nl:nl bc_p4=0:=by kernel_rfl
noncomputable def bp4 (x1:Int) (x5:List UInt8) (x6:Bool) (x14_0:List UInt8) (x14_1:Bool) (x19:Int) (x20_0:List UInt8) (x20_1:Bool) (x21:List UInt8) (x22 x23:Bool) (m0:List V) (m1:List (List (V × V))) (m3 m4:List (V × V)) (m5:Int):R :=
 mfK m3 (V.str x5)
 (some (.head 0 (bSD x1 x5 x6 x14_0 x14_1 x19 x20_0 x20_1 x21 x22 x23 x5 m0 m1 m3 m4 m5))) fun r =>
  kP 66 r fun p =>
  some (.head 0 (bSDb x1 x5 x6 p x14_0 x14_1 x19 x20_0 x20_1 x21 x22 x23 x5 p m0 m1 m3 m4 m5))
theorem bp4_eq (x1:Int) (x5:List UInt8) (x6:Bool) (x14_0:List UInt8) (x14_1:Bool) (x19:Int) (x20_0:List UInt8) (x20_1:Bool) (x21:List UInt8) (x22 x23:Bool) (m0:List V) (m1:List (List (V × V))) (m3 m4:List (V × V)) (m5:Int):pieceK kcA 5 bc_p4 (bSC x1 x5 x6 x14_0 x14_1 x19 x20_0 x20_1 x21 x22 x23 m0 m1 m3 m4 m5)=bp4 x1 x5 x6 x14_0 x14_1 x19 x20_0 x20_1 x21 x22 x23 m0 m1 m3 m4 m5:=by kernel_rfl
def bc_p5:C :=
 (.ops false [mv 32 7 60,o1 33 (.nilCheck (t' 32)) 0,o1 34 (.fieldAddr 66 (t' 33) 1) 0,o1 35 (.load 64 (t' 34)) 64,o1 36 (.makeFunc (.func 48) #[] #[(t' 3)]) 71,o1 37 (.call ⟨(.value (.func 46)),#[(t' 35),(t' 36)],#[64,71]⟩) 3,asg 9 37 3])
theorem bc_p5_eq:prep (fun _=>false) (cL (cR (cR (cR (cR (cBeh))))))=some (bare bc_p5):=by kernel_rfl
theorem bc_p5_nl:nl bc_p5=0:=by kernel_rfl
noncomputable def bp5 (x1:Int) (x5:List UInt8) (x6:Bool) (x7:Nat) (x14_0:List UInt8) (x14_1:Bool) (x19:Int) (x20_0:List UInt8) (x20_1:Bool) (x21:List UInt8) (x22 x23:Bool) (x29:List UInt8) (x30:Nat) (m0:List V) (m1:List (List (V × V))) (m3 m4:List (V × V)) (m5:Int):R :=
 idxK m0 x7 fun v =>
 d66 v fun held queue =>
 pcK cfgA 46 [V.sl queue,V.fn 48 [V.ref (V.int .i64 m5) 0]] fun r =>
 kI .i64 r fun r46 =>
 some (.head 0 (bSE x1 x5 x6 x7 r46 x14_0 x14_1 x19 x20_0 x20_1 x21 x22 x23 x29 x30 x7 x7 x7 queue r46 m0 m1 m3 m4 m5))
theorem bp5_eq (x1:Int) (x5:List UInt8) (x6:Bool) (x7:Nat) (x14_0:List UInt8) (x14_1:Bool) (x19:Int) (x20_0:List UInt8) (x20_1:Bool) (x21:List UInt8) (x22 x23:Bool) (x29:List UInt8) (x30:Nat) (m0:List V) (m1:List (List (V × V))) (m3 m4:List (V × V)) (m5:Int):pieceK kcA 5 bc_p5 (bSDb x1 x5 x6 x7 x14_0 x14_1 x19 x20_0 x20_1 x21 x22 x23 x29 x30 m0 m1 m3 m4 m5)=bp5 x1 x5 x6 x7 x14_0 x14_1 x19 x20_0 x20_1 x21 x22 x23 x29 x30 m0 m1 m3 m4 m5:=by kernel_rfl
def bc_p6:C :=
 (.ops false [mv 38 7 60,o1 39 (.nilCheck (t' 38)) 0,o1 40 (.fieldAddr 66 (t' 39) 1) 0,o1 41 (.load 64 (t' 40)) 64,mv 42 9 3,o1 43 (.slice 64 (t' 41) none (some (t' 42)) none) 64,o1 44 (.call ⟨(.builtin .len),#[(t' 43)],#[64]⟩) 3,o1 45 (.move (.const (.int .i64 (0)))) 3])
theorem bc_p6_eq:prep (fun _=>false) (cL (cL (cR (cR (cR (cR (cR (cBeh))))))))=some (bare bc_p6):=by kernel_rfl
theorem bc_p6_nl:nl bc_p6=0:=by kernel_rfl
noncomputable def bp6 (x1:Int) (x5:List UInt8) (x6:Bool) (x7:Nat) (x9:Int) (x14_0:List UInt8) (x14_1:Bool) (x19:Int) (x20_0:List UInt8) (x20_1:Bool) (x21:List UInt8) (x22 x23:Bool) (x29:List UInt8) (x30:Nat) (x32:Nat) (x33:Nat) (x34:Nat) (x35:List V) (x37:Int) (m0:List V) (m1:List (List (V × V))) (m3 m4:List (V × V)) (m5:Int):R :=
 idxK m0 x7 fun v =>
 d66 v fun held queue =>
 gd (wfl 2 queue) <|
 gd (decide (0<=x9)) <|
 gd (decide (x9.toNat<=queue.length)) <|
 some (.head 0 (bSp6u x1 x5 x6 x7 x9 x14_0 x14_1 x19 x20_0 x20_1 x21 x22 x23 x29 x30 x32 x33 x34 x35 x37 x7 x7 x7 queue x9 (queue.take x9.toNat) ((queue.take x9.toNat).length:Int) m0 m1 m3 m4 m5))
theorem bp6_eq (x1:Int) (x5:List UInt8) (x6:Bool) (x7:Nat) (x9:Int) (x14_0:List UInt8) (x14_1:Bool) (x19:Int) (x20_0:List UInt8) (x20_1:Bool) (x21:List UInt8) (x22 x23:Bool) (x29:List UInt8) (x30:Nat) (x32:Nat) (x33:Nat) (x34:Nat) (x35:List V) (x37:Int) (m0:List V) (m1:List (List (V × V))) (m3 m4:List (V × V)) (m5:Int):pieceK kcA 5 bc_p6 (bSE x1 x5 x6 x7 x9 x14_0 x14_1 x19 x20_0 x20_1 x21 x22 x23 x29 x30 x32 x33 x34 x35 x37 m0 m1 m3 m4 m5)=bp6 x1 x5 x6 x7 x9 x14_0 x14_1 x19 x20_0 x20_1 x21 x22 x23 x29 x30 x32 x33 x34 x35 x37 m0 m1 m3 m4 m5:=by kernel_rfl
theorem bp6_cl (x1:Int) (x5:List UInt8) (x6:Bool) (x7:Nat) (x9:Int) (x14_0:List UInt8) (x14_1:Bool) (x19:Int) (x20_0:List UInt8) (x20_1:Bool) (x21:List UInt8) (x22 x23:Bool) (x29:List UInt8) (x30:Nat) (x32:Nat) (x33:Nat) (x34:Nat) (x35:List V) (x37:Int) (x38:Nat) (x39:Nat) (x40:Nat) (x41:List V) (x42:Int) (x43:List V) (x44:Int) (m0:List V) (m1:List (List (V × V))) (m3 m4:List (V × V)) (m5:Int):clean 5 [2,5,6,10,11,12,13,14,15,16,17,18,19,20,21,22,23,24,25,26,27,28,29,30,31,32,33,34,35,36,37,38,39,40,41,42,46,47,48,49,50,51,52,53,54,55,56,57,58,59,60,61,62,63,64,65,66,67,68,69,70,71,72,73,74,75,76,77,78,79,80,81,82,83] (bSp6u x1 x5 x6 x7 x9 x14_0 x14_1 x19 x20_0 x20_1 x21 x22 x23 x29 x30 x32 x33 x34 x35 x37 x38 x39 x40 x41 x42 x43 x44 m0 m1 m3 m4 m5)=(bSF x1 x7 x9 x43 x44 0 m0 m1 m3 m4 m5 []):=by kernel_rfl
def bc_fr:C :=
 (.seq
 (.ops false [o1 46 (.binOp .lss 3 (t' 45) (t' 44) 3) 0])
 (.seq
 (.cond (t' 46)
 (.skip)
 (.exit 0))
 (.seq
 (.block 1
 (.seq
 (.ops false [o1 47 (.indexAddr 64 (t' 43) (t' 45)) 0,o1 48 (.load 70 (t' 47)) 70,o1 11 (.alloc 70) 0,o0 (.store 70 (t' 11) (t' 48)) 0])
 (.ops false [mv 49 8 88,o1 50 (.fieldAddr 70 (t' 11) 0) 0,o1 51 (.load 3 (t' 50)) 3,o0 (.mapUpdate 88 (t' 49) (t' 51) (.const (.bool true))) 0])))
 (.ops false [o1 52 (.binOp .add 3 (t' 45) (.const (.int .i64 (1))) 3) 3,mv 45 52 3]))))
theorem bc_fr_eq:prep (fun _=>false) (cB (cB (cR (cL (cR (cR (cR (cR (cR (cBeh))))))))))=some (bare bc_fr):=by kernel_rfl
theorem bc_fr_nl:nl bc_fr=0:=by kernel_rfl
noncomputable def bfr (x1:Int) (x7:Nat) (x9:Int) (x43:List V) (x44:Int) (x45:Int) (m0:List V) (m1:List (List (V × V))) (m3:List (V × V)) (m4:List (V × V)) (m5:Int) (m7:List (V × V)):R :=
 cond (decide (x45 < x44))
 (gd (decide (0<=x45)) <|
  idxK x43 x45.toNat fun v =>
  d70 v fun owner mode =>
  opt (mapPut m7 (V.int .i64 owner) (V.bool true)) fun es =>
  some (.head 0 (bSfru x1 x7 x9 x43 x44 (W .i64 (x45+1)) owner mode owner mode owner (W .i64 (x45+1)) m0 m1 m3 m4 m5 es owner mode)))
 (some (.head 2 (bSG x1 x7 x9 x43 x44 x45 m0 m1 m3 m4 m5 m7)))
theorem bfr_eq (x1:Int) (x7:Nat) (x9:Int) (x43:List V) (x44:Int) (x45:Int) (m0:List V) (m1:List (List (V × V))) (m3:List (V × V)) (m4:List (V × V)) (m5:Int) (m7:List (V × V)):pieceK kcA 5 bc_fr (bSF x1 x7 x9 x43 x44 x45 m0 m1 m3 m4 m5 m7)=bfr x1 x7 x9 x43 x44 x45 m0 m1 m3 m4 m5 m7:=by kernel_rfl
theorem bfr_cl (x1:Int) (x7:Nat) (x9:Int) (x43:List V) (x44:Int) (x45:Int) (x47:Int) (x47_1:Int) (x48_0:Int) (x48_1:Int) (x51:Int) (x52:Int) (m0:List V) (m1:List (List (V × V))) (m3:List (V × V)) (m4:List (V × V)) (m5:Int) (m7:List (V × V)) (m8_0:Int) (m8_1:Int):clean 5 [2,5,6,10,11,12,13,14,15,16,17,18,19,20,21,22,23,24,25,26,27,28,29,30,31,32,33,34,35,36,37,38,39,40,41,42,46,47,48,49,50,51,52,53,54,55,56,57,58,59,60,61,62,63,64,65,66,67,68,69,70,71,72,73,74,75,76,77,78,79,80,81,82,83] (bSfru x1 x7 x9 x43 x44 x45 x47 x47_1 x48_0 x48_1 x51 x52 m0 m1 m3 m4 m5 m7 m8_0 m8_1)=(bSF x1 x7 x9 x43 x44 x45 m0 m1 m3 m4 m5 m7):=by kernel_rfl
theorem bgc_cl (x1:Int) (x7:Nat) (x9:Int) (x43:List V) (x44:Int) (x45:Int) (m0:List V) (m1:List (List (V × V))) (m3:List (V × V)) (m4:List (V × V)) (m5:Int) (m7:List (V × V)):clean 5 [2,5,6,10,11,12,13,14,15,16,17,18,19,20,21,22,23,24,25,26,27,28,29,30,31,32,33,34,35,36,37,38,39,40,41,42,43,44,45,46,47,48,49,50,51,52,53,54,55,56,57,58,59,60,61,62,63,64,65,66,67,68,69,70,71,72,73,74,75,76,77,78,79,80,81,82,83] (bSG x1 x7 x9 x43 x44 x45 m0 m1 m3 m4 m5 m7)=(bSH x1 x7 x9 m0 m1 m3 m4 m5 m7):=by kernel_rfl
def bc_mR:List OpA:=[mv 53 7 60,o1 54 (.nilCheck (t' 53)) 0,o1 55 (.fieldAddr 66 (t' 54) 0) 0,o1 56 (.load 63 (t' 55)) 63]
theorem bc_mR_eq:mapO (prepOp (regA (cL (cL (cR (cR (cR (cR (cR (cR (cBeh))))))))))) ((regA (cL (cL (cR (cR (cR (cR (cR (cR (cBeh)))))))))).toList.take 4)=some bc_mR:=by kernel_rfl
noncomputable def bmR (x1:Int) (x7:Nat) (x9:Int) (m0:List V) (m1:List (List (V × V))) (m3:List (V × V)) (m4:List (V × V)) (m5:Int) (m7:List (V × V)):R :=
 idxK m0 x7 fun v =>
 d66 v fun held queue =>
 some (.head 0 (bSI x1 x7 x9 x7 x7 x7 held m0 m1 m3 m4 m5 m7))
theorem bmR_eq (x1:Int) (x7:Nat) (x9:Int) (m0:List V) (m1:List (List (V × V))) (m3:List (V × V)) (m4:List (V × V)) (m5:Int) (m7:List (V × V)):opsP kcA bc_mR (bSH x1 x7 x9 m0 m1 m3 m4 m5 m7)=bmR x1 x7 x9 m0 m1 m3 m4 m5 m7:=by kernel_rfl
theorem bk_set (x1:Int) (x7:Nat) (x9:Int) (x53:Nat) (x54:Nat) (x55:Nat) (x56:Nat) (m0:List V) (m1:List (List (V × V))) (m3:List (V × V)) (m4:List (V × V)) (m5:Int) (m7:List (V × V)):(⟨(bSI x1 x7 x9 x53 x54 x55 x56 m0 m1 m3 m4 m5 m7).env.set 57 .junk,(bSI x1 x7 x9 x53 x54 x55 x56 m0 m1 m3 m4 m5 m7).mem.set 1 .dead⟩:S)=(bSK x1 x7 x9 x53 x54 x55 x56 m0 m3 m4 m5 m7):=by kernel_rfl
theorem bm_set (x1:Int) (x7:Nat) (x9:Int) (x53:Nat) (x54:Nat) (x55:Nat) (x56:Nat) (m0:List V) (m3:List (V × V)) (m4:List (V × V)) (m5:Int) (m7:List (V × V)) (a:Int) (b:Int):(⟨(((bSK x1 x7 x9 x53 x54 x55 x56 m0 m3 m4 m5 m7).env.set 58 (.tup [.bool true,.int .i64 a,.int .i64 b])).set 59 (.bool true)).set 60 (.tup [.int .i64 a,.int .i64 b]),(bSK x1 x7 x9 x53 x54 x55 x56 m0 m3 m4 m5 m7).mem⟩:S)=(bSM x1 x7 x9 x53 x54 x55 x56 a b a b m0 m3 m4 m5 m7):=by kernel_rfl
def bc_mE:List OpA:=[o1 61 (.extract (t' 60) 0) 3,o1 62 (.extract (t' 60) 1) 3,asg 12 61 3,asg 13 62 3]
theorem bc_mE_eq:mapO (prepOp (regA (cL (cB (cR (cR (cB (cB (cR (cL (cR (cR (cR (cR (cR (cR (cBeh))))))))))))))))) ((regA (cL (cB (cR (cR (cB (cB (cR (cL (cR (cR (cR (cR (cR (cR (cBeh)))))))))))))))).toList.drop 1)=some bc_mE:=by kernel_rfl
noncomputable def bmE (x1:Int) (x7:Nat) (x9:Int) (x53:Nat) (x54:Nat) (x55:Nat) (x56:Nat) (x58_1:Int) (x58_2:Int) (x60_0:Int) (x60_1:Int) (m0:List V) (m3:List (V × V)) (m4:List (V × V)) (m5:Int) (m7:List (V × V)):R :=
 some (.head 0 (bSN x1 x7 x9 x60_0 x60_1 x53 x54 x55 x56 x58_1 x58_2 x60_0 x60_1 x60_0 x60_1 m0 m3 m4 m5 m7))
theorem bmE_eq (x1:Int) (x7:Nat) (x9:Int) (x53:Nat) (x54:Nat) (x55:Nat) (x56:Nat) (x58_1:Int) (x58_2:Int) (x60_0:Int) (x60_1:Int) (m0:List V) (m3:List (V × V)) (m4:List (V × V)) (m5:Int) (m7:List (V × V)):opsP kcA bc_mE (bSM x1 x7 x9 x53 x54 x55 x56 x58_1 x58_2 x60_0 x60_1 m0 m3 m4 m5 m7)=bmE x1 x7 x9 x53 x54 x55 x56 x58_1 x58_2 x60_0 x60_1 m0 m3 m4 m5 m7:=by kernel_rfl
def bc_mB:C :=
 (.seq
 (.ops false [mv 63 12 3,o1 64 (.load 3 (t' 3)) 3,o1 65 (.binOp .neq 3 (t' 63) (t' 64) 3) 4,mv 66 65 4,o2 67 (.move (t' 13)) 3 66 true,o2 68 (.move (t' 7)) 60 66 true,o2 69 (.nilCheck (t' 68)) 0 66 true,o2 70 (.fieldAddr 66 (t' 69) 1) 0 66 true,o2 71 (.load 64 (t' 70)) 64 66 true,o2 72 (.move (t' 9)) 3 66 true,o2 73 (.indexAddr 64 (t' 71) (t' 72)) 0 66 true,o2 74 (.fieldAddr 70 (t' 73) 1) 0 66 true,o2 75 (.load 3 (t' 74)) 3 66 true,o2 76 (.call ⟨(.value (.func 49)),#[(t' 67),(t' 75)],#[3,3]⟩) 4 66 true,o2 77 (.unOp .not 4 (t' 76)) 4 66 true,o1 78 (.pick (t' 66) (t' 77) (.const (.bool false))) 4])
 (.cond (t' 78)
 (.ops false [mv 79 8 88,mv 80 12 3,o0 (.mapUpdate 88 (t' 79) (t' 80) (.const (.bool true))) 0])
 (.skip)))
theorem bc_mB_eq:prep (fun _=>false) (cR (cB (cR (cR (cB (cB (cR (cL (cR (cR (cR (cR (cR (cR (cBeh)))))))))))))))=some (bare bc_mB):=by kernel_rfl
theorem bc_mB_nl:nl bc_mB=0:=by kernel_rfl
noncomputable def bmB (x1:Int) (x7:Nat) (x9:Int) (x12:Int) (x13:Int) (x53:Nat) (x54:Nat) (x55:Nat) (x56:Nat) (x58_1:Int) (x58_2:Int) (x60_0:Int) (x60_1:Int) (x61:Int) (x62:Int) (m0:List V) (m3:List (V × V)) (m4:List (V × V)) (m5:Int) (m7:List (V × V)):R :=
 cond (x12 != m5)
 (idxK m0 x7 fun v =>
  d66 v fun held queue =>
  gd (decide (0<=x9)) <|
  idxK queue x9.toNat fun v_1 =>
  d70 v_1 fun owner mode =>
  pcK cfgA 49 [V.int .i64 x13,V.int .i64 mode] fun r =>
  kB r fun r49 =>
  cond (!r49)
 (opt (mapPut m7 (V.int .i64 x12) (V.bool true)) fun es =>
  some (.head 0 (bSmBu x1 x7 x9 x12 x13 x53 x54 x55 x56 x58_1 x58_2 x60_0 x60_1 x61 x62 x12 m5 (x12 != m5) x13 x7 x7 x7 queue x9 owner mode owner mode mode r49 (!r49) x12 m0 m3 m4 m5 es)))
 (some (.head 0 (bSmBub x1 x7 x9 x12 x13 x53 x54 x55 x56 x58_1 x58_2 x60_0 x60_1 x61 x62 x12 m5 (x12 != m5) x13 x7 x7 x7 queue x9 owner mode owner mode mode r49 (!r49) m0 m3 m4 m5 m7))))
 (some (.head 0 (bSmBuc x1 x7 x9 x12 x13 x53 x54 x55 x56 x58_1 x58_2 x60_0 x60_1 x61 x62 x12 m5 (x12 != m5) m0 m3 m4 m5 m7)))
theorem bmB_eq (x1:Int) (x7:Nat) (x9:Int) (x12:Int) (x13:Int) (x53:Nat) (x54:Nat) (x55:Nat) (x56:Nat) (x58_1:Int) (x58_2:Int) (x60_0:Int) (x60_1:Int) (x61:Int) (x62:Int) (m0:List V) (m3:List (V × V)) (m4:List (V × V)) (m5:Int) (m7:List (V × V)):pieceK kcA 5 bc_mB (bSN x1 x7 x9 x12 x13 x53 x54 x55 x56 x58_1 x58_2 x60_0 x60_1 x61 x62 m0 m3 m4 m5 m7)=bmB x1 x7 x9 x12 x13 x53 x54 x55 x56 x58_1 x58_2 x60_0 x60_1 x61 x62 m0 m3 m4 m5 m7:=by kernel_rfl
theorem bmB_cl (x1:Int) (x7:Nat) (x9:Int) (x12:Int) (x13:Int) (x53:Nat) (x54:Nat) (x55:Nat) (x56:Nat) (x58_1:Int) (x58_2:Int) (x60_0:Int) (x60_1:Int) (x61:Int) (x62:Int) (x63:Int) (x64:Int) (x65:Bool) (x67:Int) (x68:Nat) (x69:Nat) (x70:Nat) (x71:List V) (x72:Int) (x73:Int) (x73_1:Int) (x74:Int) (x74_1:Int) (x75:Int) (x76:Bool) (x77:Bool) (x80:Int) (m0:List V) (m3:List (V × V)) (m4:List (V × V)) (m5:Int) (m7:List (V × V)):clean 5 [12,13,58,59,60,61,62,63,64,65,66,67,68,69,70,71,72,73,74,75,76,77,78,79,80,81,82,83] (bSmBu x1 x7 x9 x12 x13 x53 x54 x55 x56 x58_1 x58_2 x60_0 x60_1 x61 x62 x63 x64 x65 x67 x68 x69 x70 x71 x72 x73 x73_1 x74 x74_1 x75 x76 x77 x80 m0 m3 m4 m5 m7)=(bSK x1 x7 x9 x53 x54 x55 x56 m0 m3 m4 m5 m7):=by kernel_rfl
theorem bmB_clb (x1:Int) (x7:Nat) (x9:Int) (x12:Int) (x13:Int) (x53:Nat) (x54:Nat) (x55:Nat) (x56:Nat) (x58_1:Int) (x58_2:Int) (x60_0:Int) (x60_1:Int) (x61:Int) (x62:Int) (x63:Int) (x64:Int) (x65:Bool) (x67:Int) (x68:Nat) (x69:Nat) (x70:Nat) (x71:List V) (x72:Int) (x73:Int) (x73_1:Int) (x74:Int) (x74_1:Int) (x75:Int) (x76:Bool) (x77:Bool) (m0:List V) (m3:List (V × V)) (m4:List (V × V)) (m5:Int) (m7:List (V × V)):clean 5 [12,13,58,59,60,61,62,63,64,65,66,67,68,69,70,71,72,73,74,75,76,77,78,79,80,81,82,83] (bSmBub x1 x7 x9 x12 x13 x53 x54 x55 x56 x58_1 x58_2 x60_0 x60_1 x61 x62 x63 x64 x65 x67 x68 x69 x70 x71 x72 x73 x73_1 x74 x74_1 x75 x76 x77 m0 m3 m4 m5 m7)=(bSK x1 x7 x9 x53 x54 x55 x56 m0 m3 m4 m5 m7):=by kernel_rfl
theorem bmB_clc (x1:Int) (x7:Nat) (x9:Int) (x12:Int) (x13:Int) (x53:Nat) (x54:Nat) (x55:Nat) (x56:Nat) (x58_1:Int) (x58_2:Int) (x60_0:Int) (x60_1:Int) (x61:Int) (x62:Int) (x63:Int) (x64:Int) (x65:Bool) (m0:List V) (m3:List (V × V)) (m4:List (V × V)) (m5:Int) (m7:List (V × V)):clean 5 [12,13,58,59,60,61,62,63,64,65,66,67,68,69,70,71,72,73,74,75,76,77,78,79,80,81,82,83] (bSmBuc x1 x7 x9 x12 x13 x53 x54 x55 x56 x58_1 x58_2 x60_0 x60_1 x61 x62 x63 x64 x65 m0 m3 m4 m5 m7)=(bSK x1 x7 x9 x53 x54 x55 x56 m0 m3 m4 m5 m7):=by kernel_rfl
theorem bu_set (x1:Int) (x7:Nat) (x9:Int) (x53:Nat) (x54:Nat) (x55:Nat) (x56:Nat) (m0:List V) (m3:List (V × V)) (m4:List (V × V)) (m5:Int) (m7:List (V × V)) (ms:List (List (V × V))):(⟨((bSK x1 x7 x9 x53 x54 x55 x56 m0 m3 m4 m5 m7).env.set 58 (.tup [.bool false])).set 59 (.bool false),(bSK x1 x7 x9 x53 x54 x55 x56 m0 m3 m4 m5 m7).mem.set 1 (.marena 63 ms)⟩:S)=(bSL x1 x7 x9 x53 x54 x55 x56 m0 ms m3 m4 m5 m7):=by kernel_rfl
def bc_tl:C :=
 (.seq
 (.ops false [mv 81 8 88,o1 82 (.call ⟨(.value (.func 51)),#[(t' 81)],#[88]⟩) 92,o1 83 (.call ⟨(.value (.func 50)),#[(t' 82)],#[92]⟩) 41,asg 4 83 41])
 (.ret))
theorem bc_tl_eq:prep (fun _=>false) (cR (cR (cR (cR (cR (cR (cR (cBeh))))))))=some (bare bc_tl):=by kernel_rfl
theorem bc_tl_nl:nl bc_tl=0:=by kernel_rfl
noncomputable def btl (x1:Int) (x7:Nat) (x9:Int) (x53:Nat) (x54:Nat) (x55:Nat) (x56:Nat) (m0:List V) (m1:List (List (V × V))) (m3:List (V × V)) (m4:List (V × V)) (m5:Int) (m7:List (V × V)):R :=
 opt (keyInts m7) fun ks =>
 gd (decide (ks.length<=16777216)) <|
 some (.head 1 (bSZ x1 x7 x9 x53 x54 x55 x56 m0 m1 m3 m4 m5 m7 ((srt ks).map iV)))
theorem btl_eq (x1:Int) (x7:Nat) (x9:Int) (x53:Nat) (x54:Nat) (x55:Nat) (x56:Nat) (m0:List V) (m1:List (List (V × V))) (m3:List (V × V)) (m4:List (V × V)) (m5:Int) (m7:List (V × V)):pieceK kcD 5 bc_tl (bSL x1 x7 x9 x53 x54 x55 x56 m0 m1 m3 m4 m5 m7)=btl x1 x7 x9 x53 x54 x55 x56 m0 m1 m3 m4 m5 m7:=by kernel_rfl
set_option linter.unusedSimpArgs false
set_option linter.unnecessarySimpa false
theorem waitE_some {v:V} {q:Int × Int} (h:waitE v=some q):v=pV q:=by
 unfold waitE at h
 split at h
 ·cases h;rfl
 ·cases h
theorem waitsOf_map:∀{l:List V} {qs:HQ},waitsOf l=some qs->l=qs.map pV
 | [],hs,h=>by cases h;rfl
 | p::es,hs,h=>by
  unfold waitsOf at h
  simp only [mapO,obi,omi] at h
  obtain ⟨y,hy,ys,hys,rfl⟩:=h
  rw [List.map_cons,waitE_some hy,<-waitsOf_map (show waitsOf es=some ys from hys)]
theorem idxF_find {α:Type} (q:α->Bool):∀(l:List α) (k i:Nat),l.findIdx? q=some i->idxF q k l=((k+i:Nat):Int)
 | [],k,i,h=>by cases h
 | c::l,k,i,h=>by
  rw [List.findIdx?_cons] at h
  unfold idxF
  by_cases hc:q c=true
  ·rw [if_pos hc] at h |-;cases h;simp
  ·rw [if_neg hc] at h |-
   obtain ⟨i',hi,rfl⟩:=omi.1 h
   rw [idxF_find q l (k+1) i' hi]
   omega
theorem dPD (p:Int × Int) (f:Int->Int->R):d70 (pV p) f=f p.1 p.2:=rfl
theorem forget_nil (s:S):(⟨forget s.env [],s.mem⟩:S)=s:=rfl
theorem dLD (h:Nat) (q:List V) (f:Nat->List V->R):d66 (.agg [.hm 63 h,.sl q]) f=f h q:=rfl
theorem bc_ok (p:Int × Int) (o:Int):pcW cfgA 48 [.agg [.int .i64 p.1,.int .i64 p.2],.ref (.int .i64 o) 0]=some (.bool (p.1==o)):=e48_done _ _ _ rfl
theorem idx_loop (q:HQ) (o:Int) (hq:q.length<=100000):∀(r:HQ) (k:Nat),q.drop k=r->k<=q.length ->
  Go kcD false 0 fa46 (.head 0 (T46_0 (q.map pV) o (q.length:Int) (k:Int))) (.done (.int .i64 (idxF (fun p=>p.1==o) k r)))
 | [],k,h,hk=>by
  have:q.length<=k:=List.drop_eq_nil_iff.1 h
  refine s46_0_run _ _ _ _ ?_ (.refl _)
  unfold s46_0
  rw [decide_eq_false (by omega)];rfl
 | c::r,k,h,hk=>by
  obtain ⟨h1,h2,h3⟩:=drop_cons h
  by_cases hc:(c.1==o)=true
  ·refine s46_0_run _ _ _ _ ?_ (.refl _)
   unfold s46_0 idxF
   rw [decide_eq_true (by omega),cond_true,gd_of (by simp),idxK_c h1,dPD,pcK_of (bc_ok c o),kB_mk,hc,if_pos rfl];rfl
  ·refine s46_0_run _ _ _ _ ?_ (by unfold idxF;rw [if_neg hc];exact idx_loop q o hq r (k+1) h2 (by omega))
   unfold s46_0
   rw [decide_eq_true (by omega),cond_true,gd_of (by simp),idxK_c h1,dPD,pcK_of (bc_ok c o),kB_mk,show (c.1==o)=false by simpa using hc,wi k (by omega)];rfl
theorem idx_ok (q:HQ) (o:Int) (hq:q.length<=100000):pcW cfgA 46 [.sl (q.map pV),.fn 48 [.ref (.int .i64 o) 0]]=some (.int .i64 (idxF (fun p=>p.1==o) 0 q)) :=
 e46_run _ _ (by unfold e46;rw [List.length_map];rfl) (idx_loop q o hq q 0 rfl (by omega))
def outV (S:List Int):List (V × V):=S.map fun a=>(.int .i64 a,.bool true)
def insS (S:List Int) (a:Int):List Int:=if a∈S then S else S++[a]
theorem put_out1 (a:Int):∀S:List Int,mapPut (outV S) (.int .i64 a) (.bool true)=some (outV (insS S a))
 | []=>rfl
 | x::S=>by
  show ((eq1 (.int .i64 a) (.int .i64 x)).bind fun b=>if b then some ((V.int .i64 x,V.bool true)::outV S) else (mapPut (outV S) (.int .i64 a) (.bool true)).map ((.int .i64 x,.bool true)::·))=_
  rw [show eq1 (.int .i64 a) (.int .i64 x)=some (a==x) from rfl,Option.bind_some]
  by_cases h:a=x
  ·subst h
   rw [if_pos (by simp)]
   unfold insS
   rw [if_pos (by simp)];rfl
  ·rw [if_neg (by simpa using h),put_out1 a S,Option.map_some]
   unfold insS
   by_cases hs:a∈S
   ·rw [if_pos hs,if_pos (by simp [hs])];rfl
   ·rw [if_neg hs,if_neg (by simp [hs,h])];rfl
theorem ins_nodup {S:List Int} (h:S.Nodup) (a:Int):(insS S a).Nodup:=by
 unfold insS
 split
 ·exact h
 ·rename_i hn
  rw [List.nodup_append]
  refine ⟨h,by simp,fun x hx y hy=>?_⟩
  simp only [List.mem_singleton] at hy
  rw [hy];rintro rfl;exact hn hx
theorem ins_mem {S:List Int} {a x:Int}:x∈insS S a↔x∈S∨x=a:=by
 unfold insS
 split
 ·rename_i h
  constructor
  ·exact .inl
  ·rintro (h1 | rfl);exact h1;exact h
 ·simp
theorem keys_out:∀{S:List Int},(∀x∈S,-9223372036854775808<=x/\x<=9223372036854775807)->keyInts (outV S)=some S
 | [],_=>rfl
 | a::S,h=>by
  have ih:=keys_out (S:=S) fun x hx=>h x (by simp [hx])
  unfold keyInts at ih |-
  have hk:keyI (.int .i64 a)=some a:=if_pos (h a (by simp))
  show (keyI (.int .i64 a)).bind (fun y=>(mapO (fun p:V × V=>keyI p.1) (outV S)).map fun ys=>y::ys)=_
  rw [hk,ih];rfl
theorem perm_of {S T:List Int} (hs:S.Nodup) (h:∀x,x∈S↔x∈T):S.Perm T.eraseDups:=by
 rw [List.perm_ext_iff_of_nodup hs (dups_nodup T)]
 intro x
 rw [h x,List.mem_eraseDups]
theorem srt_perm {a b:List Int} (h:a.Perm b):srt a=srt b:=by
 refine List.Perm.eq_of_pairwise (le:=fun x y=>x<=y) ?_ ?_ ?_ ((List.mergeSort_perm a _).trans (h.trans (List.mergeSort_perm b _).symm))
 ·intro x y _ _ h1 h2;omega
 ·have:=List.pairwise_mergeSort (le:=fun x y:Int=>decide (x<=y)) (by intro a b c h1 h2;simp at *;omega) (by intro a b;simp;omega) a
  exact this.imp fun h=>by simpa using h
 ·have:=List.pairwise_mergeSort (le:=fun x y:Int=>decide (x<=y)) (by intro a b c h1 h2;simp at *;omega) (by intro a b;simp;omega) b
  exact this.imp fun h=>by simpa using h
noncomputable abbrev aP0:Code:=cL (cBeh)
noncomputable abbrev aP1:Code:=cL (cR (cBeh))
noncomputable abbrev aP2:Code:=cL (cR (cR (cBeh)))
noncomputable abbrev aP4:Code:=cL (cR (cR (cR (cBeh))))
noncomputable abbrev aP5:Code:=cL (cR (cR (cR (cR (cBeh)))))
noncomputable abbrev aP6:Code:=cL (cL (cR (cR (cR (cR (cR (cBeh)))))))
noncomputable abbrev aFr:Code:=cB (cB (cR (cL (cR (cR (cR (cR (cR (cBeh)))))))))
noncomputable abbrev aMR:Code:=cL (cL (cR (cR (cR (cR (cR (cR (cBeh))))))))
noncomputable abbrev aMN:Code:=cL (cB (cB (cR (cL (cR (cR (cR (cR (cR (cR (cBeh)))))))))))
noncomputable abbrev aME:Code:=cL (cB (cR (cR (cB (cB (cR (cL (cR (cR (cR (cR (cR (cR (cBeh))))))))))))))
noncomputable abbrev aMB:Code:=cR (cB (cR (cR (cB (cB (cR (cL (cR (cR (cR (cR (cR (cR (cBeh))))))))))))))
noncomputable abbrev aTl:Code:=cR (cR (cR (cR (cR (cR (cR (cBeh)))))))
theorem cBeh_eq:cBeh = .seq aP0 (.seq aP1 (.seq aP2 (.seq aP4 (.seq aP5 (.seq (.seq aP6 (.block 0 (.loop aFr))) (.seq (.seq (.region 11 (regA aMR) false) (.block 2 (.loop (.seq (.region 12 (regA aMN) false) (.seq (.cond (.tmp 59) .skip (.exit 2)) (.block 3 (.seq (.region 13 (regA aME) false) aMB))))))) aTl)))))):=by kernel_rfl
abbrev bM (els:List V) (ms:List (List (V × V))) (lk ws:List (V × V)):List O:=[.arena 66 els,.marena 63 ms,.box 38 (.agg [.mp 3,.mp 4]) false,.map lk,.map ws]
abbrev fFR:List Nat:=[2,5,6,10,11,12,13,14,15,16,17,18,19,20,21,22,23,24,25,26,27,28,29,30,31,32,33,34,35,36,37,38,39,40,41,42,46,47,48,49,50,51,52,53,54,55,56,57,58,59,60,61,62,63,64,65,66,67,68,69,70,71,72,73,74,75,76,77,78,79,80,81,82,83]
abbrev fGR:List Nat:=[2,5,6,10,11,12,13,14,15,16,17,18,19,20,21,22,23,24,25,26,27,28,29,30,31,32,33,34,35,36,37,38,39,40,41,42,43,44,45,46,47,48,49,50,51,52,53,54,55,56,57,58,59,60,61,62,63,64,65,66,67,68,69,70,71,72,73,74,75,76,77,78,79,80,81,82,83]
abbrev fKR:List Nat:=[12,13,58,59,60,61,62,63,64,65,66,67,68,69,70,71,72,73,74,75,76,77,78,79,80,81,82,83]
section
variable {Z:Zs} {w:World} {j:J} {els:List V} {ms:List (List (V × V))} {lk ws:List (V × V)} {o:Int} {us:List Value}
theorem beh_none (hok:CfgOK cfgA) (hw:mapFind ws (.int .i64 o)=some none) (sr:SR cfgA.P Z w j (bM els ms lk ws)) (ha:VRs Z w j [.ptr 2 0 0,.int .i64 o] us) :
  Calls cfgA.P 21 us.toArray w fun e w1=>∃u,e = .returned u/\∃m1,m1=bM els ms lk ws++[.box 3 (.int .i64 o) false,.row 3 [] 0,.row 3 [] 0]/\PostOf cfgA.P Z w j (bM els ms lk ws) (.own 7) m1 u w1:=by
 refine run_safeQ (cfg:=cfgA) (vs:=[.own 7]) (fn:=Tryz.f21) (c:=cBeh) (ws:=wrs bc_p0++(wrs bc_p1++(wrs bc_p2++[]))) (fun m1=>m1=bM els ms lk ws++[.box 3 (.int .i64 o) false,.row 3 [] 0,.row 3 [] 0]) (by kernel_rfl) (by kernel_rfl) (by kernel_rfl) (of_decide_eq_true (by kernel_rfl)) sr ha ?_
 rw [cBeh_eq]
 refine Safe.seq (R1:=fun x s=>x = .norm/\s=bSA o els ms lk ws o) (Safe.piece hok ikA bc_p0_eq bc_p0_nl (bp0_eq o els ms lk ws) ⟨rfl,rfl⟩) (fun s1 hs1=>?_) (fun x s1 hx hh=>absurd hh.1 hx)
 obtain ⟨_,rfl⟩:=hs1
 have h1:pieceK kcA 5 bc_p1 (bSA o els ms lk ws o)=some (.head 0 (bSB o [] false [] false o [] false [] false els ms lk ws o)):=by
  rw [bp1_eq];unfold bp1;rw [mfK_none hw]
 refine Safe.seq (R1:=fun x s=>x = .norm/\s=_) (Safe.piece hok ikA bc_p1_eq bc_p1_nl h1 ⟨rfl,rfl⟩) (fun s1 hs1=>?_) (fun x s1 hx hh=>absurd hh.1 hx)
 obtain ⟨_,rfl⟩:=hs1
 have h2:pieceK kcA 5 bc_p2 (bSB o [] false [] false o [] false [] false els ms lk ws o)=some (.head 1 (bSR o [] false [] false o [] false [] false false els ms lk ws o)):=by
  rw [bp2_eq];rfl
 refine Safe.seq (R1:=fun x s=>x = .ret/\s=bSR o [] false [] false o [] false [] false false els ms lk ws o) (Safe.piece hok ikA bc_p2_eq bc_p2_nl h2 ⟨rfl,rfl⟩) (fun s1 hs1=>absurd hs1.1 (by simp)) (fun x s1 hx hh=>?_)
 obtain ⟨rfl,rfl⟩:=hh
 exact ⟨.inr rfl,by kernel_rfl,rfl⟩
noncomputable def mrWs:List Nat:=[57,58,59,60]++(bc_mR.filterMap (·.dst)++(bc_mE.filterMap (·.dst)++wrs bc_mB))
abbrev bZ (els:List V) (ms:List (List (V × V))) (lk ws:List (V × V)) (o:Int) (S:List Int):List O:=bM els ms lk ws++[.box 3 (.int .i64 o) false,.row 3 [] 0,.map (outV S),.box 88 (.mp 7) false,.row 3 ((srt S).map iV) 0]
theorem beh_some (hok:CfgOK cfgA) {nm:Bs} {k h i:Nat} {hs qs:HQ} {m:Int} (hw:mapFind ws (.int .i64 o)=some (some (.str nm))) (hl:mapFind lk (.str nm)=some (some (.hp 66 k 0)))
  (hk:els[k]? = some (.agg [.hm 63 h,.sl (qs.map pV)])) (hm:ms[h]? = some (hs.map hEn)) (hi:(qs.findIdx? fun p=>p.1==o)=some i) (hqi:qs[i]? = some (o,m)) (l1:hs.length<=65536) (l2:qs.length<=65536)
  (r1:∀p∈hs,-9223372036854775808<=p.1/\p.1<=9223372036854775807) (r2:∀p∈qs,-9223372036854775808<=p.1/\p.1<=9223372036854775807)
  (sr:SR cfgA.P Z w j (bM els ms lk ws)) (ha:VRs Z w j [.ptr 2 0 0,.int .i64 o] us) :
  Calls cfgA.P 21 us.toArray w fun e w1=>∃u,e = .returned u/\∃m1,(∃S,m1=bZ els ms lk ws o S/\srt S=behindL hs qs i o m)/\PostOf cfgA.P Z w j (bM els ms lk ws) (.own 9) m1 u w1:=by
 have hlt:i < qs.length:=(List.getElem?_eq_some_iff.1 hqi).1
 have hT:∀x,x∈(qs.take i).map (·.1)++confl hs o m->-9223372036854775808<=x/\x<=9223372036854775807:=by
  intro x hx
  rcases List.mem_append.1 hx with hx | hx
  ·obtain ⟨p,hp,rfl⟩:=List.mem_map.1 hx;exact r2 p (List.mem_of_mem_take hp)
  ·unfold confl at hx
   obtain ⟨p,hp,rfl⟩:=List.mem_map.1 hx;exact r1 p (List.mem_filter.1 hp).1
 refine run_safeQ (cfg:=cfgA) (vs:=[.own 9]) (fn:=Tryz.f21) (c:=cBeh) (ws:=wrs bc_p0++(wrs bc_p1++(wrs bc_p2++(wrs bc_p4++(wrs bc_p5++((wrs bc_p6++wrs bc_fr)++(mrWs++wrs bc_tl))))))) (fun m1=>∃S,m1=bZ els ms lk ws o S/\srt S=behindL hs qs i o m) (by kernel_rfl) (by kernel_rfl) (by kernel_rfl) (of_decide_eq_true (by kernel_rfl)) sr ha ?_
 rw [cBeh_eq]
 refine Safe.seq (R1:=fun x s=>x = .norm/\s=bSA o els ms lk ws o) (Safe.piece hok ikA bc_p0_eq bc_p0_nl (bp0_eq o els ms lk ws) ⟨rfl,rfl⟩) (fun s1 hs1=>?_) (fun x s1 hx hh=>absurd hh.1 hx)
 obtain ⟨_,rfl⟩:=hs1
 have h1:pieceK kcA 5 bc_p1 (bSA o els ms lk ws o)=some (.head 0 (bSB o nm true nm true o nm true nm true els ms lk ws o)):=by
  rw [bp1_eq];unfold bp1;rw [mfK_of hw,kS_mk]
 refine Safe.seq (R1:=fun x s=>x = .norm/\s=bSB o nm true nm true o nm true nm true els ms lk ws o) (Safe.piece hok ikA bc_p1_eq bc_p1_nl h1 ⟨rfl,rfl⟩) (fun s1 hs1=>?_) (fun x s1 hx hh=>absurd hh.1 hx)
 obtain ⟨_,rfl⟩:=hs1
 have h2:pieceK kcA 5 bc_p2 (bSB o nm true nm true o nm true nm true els ms lk ws o)=some (.head 0 (bSC o nm true nm true o nm true nm true true els ms lk ws o)):=by
  rw [bp2_eq];rfl
 refine Safe.seq (R1:=fun x s=>x = .norm/\s=bSC o nm true nm true o nm true nm true true els ms lk ws o) (Safe.piece hok ikA bc_p2_eq bc_p2_nl h2 ⟨rfl,rfl⟩) (fun s1 hs1=>?_) (fun x s1 hx hh=>absurd hh.1 hx)
 obtain ⟨_,rfl⟩:=hs1
 have h4:pieceK kcA 5 bc_p4 (bSC o nm true nm true o nm true nm true true els ms lk ws o)=some (.head 0 (bSDb o nm true k nm true o nm true nm true true nm k els ms lk ws o)):=by
  rw [bp4_eq];unfold bp4;rw [mfK_of hl,kP_mk]
 refine Safe.seq (R1:=fun x s=>x = .norm/\s=bSDb o nm true k nm true o nm true nm true true nm k els ms lk ws o) (Safe.piece hok ikA bc_p4_eq bc_p4_nl h4 ⟨rfl,rfl⟩) (fun s1 hs1=>?_) (fun x s1 hx hh=>absurd hh.1 hx)
 obtain ⟨_,rfl⟩:=hs1
 have hidx:idxF (fun p:Int × Int=>p.1==o) 0 qs=(i:Int):=by rw [idxF_find _ qs 0 i hi,Nat.zero_add]
 have h5:pieceK kcA 5 bc_p5 (bSDb o nm true k nm true o nm true nm true true nm k els ms lk ws o)=some (.head 0 (bSE o nm true k (i:Int) nm true o nm true nm true true nm k k k k (qs.map pV) (i:Int) els ms lk ws o)):=by
  rw [bp5_eq];unfold bp5
  rw [idxK_of hk]
  show pcK cfgA 46 [.sl (qs.map pV),.fn 48 [.ref (.int .i64 o) 0]] _=_
  rw [pcK_of (idx_ok qs o (by omega)),kI_mk,hidx]
 refine Safe.seq (R1:=fun x s=>x = .norm/\s=bSE o nm true k (i:Int) nm true o nm true nm true true nm k k k k (qs.map pV) (i:Int) els ms lk ws o) (Safe.piece hok ikA bc_p5_eq bc_p5_nl h5 ⟨rfl,rfl⟩) (fun s1 hs1=>?_) (fun x s1 hx hh=>absurd hh.1 hx)
 obtain ⟨_,rfl⟩:=hs1
 have htl:((qs.map pV).take ((i:Nat):Int).toNat)=(qs.take i).map pV:=by rw [toNat_cast,List.map_take]
 have htn:(((qs.take i).map pV).length:Int)=(i:Int):=by rw [List.length_map,List.length_take,Nat.min_eq_left (by omega)]
 refine Safe.seq (R1:=fun x s=>x = .norm/\∃S,S.Nodup/\(∀y,y∈S↔y∈(qs.take i).map (·.1))/\s=bSH o k (i:Int) els ms lk ws o (outV S)) ?_ (fun s1 hs1=>?_) (fun x s1 hx hh=>absurd hh.1 hx)
 ·-- those ahead
  have h6:pieceK kcA 5 bc_p6 (bSE o nm true k (i:Int) nm true o nm true nm true true nm k k k k (qs.map pV) (i:Int) els ms lk ws o) =
    some (.head 0 (bSp6u o nm true k (i:Int) nm true o nm true nm true true nm k k k k (qs.map pV) (i:Int) k k k (qs.map pV) (i:Int) ((qs.take i).map pV) (i:Int) els ms lk ws o)):=by
   rw [bp6_eq];unfold bp6
   rw [idxK_of hk]
   show gd (wfl 2 (qs.map pV)) _=_
   rw [gd_of (wflp qs),gd_of (by simp),gd_of (decide_eq_true (by rw [List.length_map,toNat_cast];omega)),htl,htn]
  refine Safe.seq (R1:=fun x s=>x = .norm/\s=bSF o k (i:Int) ((qs.take i).map pV) (i:Int) 0 els ms lk ws o []) (Safe.clean fFR (Safe.piece hok ikA bc_p6_eq bc_p6_nl h6 ⟨rfl,bp6_cl _ _ _ _ _ _ _ _ _ _ _ _ _ _ _ _ _ _ _ _ _ _ _ _ _ _ _ _ _ _ _ _⟩)) (fun s1 hs1=>?_) (fun x s1 hx hh=>absurd hh.1 hx)
  obtain ⟨_,rfl⟩:=hs1
  refine Safe.clean fGR (Safe.block (Safe.loop (k:=i) (fun d s=>∃(a:Nat) (S:List Int),d+a=i/\S.Nodup/\(∀y,y∈S↔y∈(qs.take a).map (·.1))/\s=bSF o k (i:Int) ((qs.take i).map pV) (i:Int) (a:Int) els ms lk ws o (outV S)) ⟨0,[],by omega,List.nodup_nil,by simp,rfl⟩ ?_))
  rintro d s ⟨a,S,hd,hn,hS,rfl⟩
  by_cases hai:a < i
  ·have hqa:qs[a]? = some qs[a]:=List.getElem?_eq_getElem (by omega)
   have hga:((qs.take i).map pV)[a]? = some (pV qs[a]):=by rw [List.getElem?_map,List.getElem?_take,if_pos hai,hqa];rfl
   have hb:pieceK kcA 5 bc_fr (bSF o k (i:Int) ((qs.take i).map pV) (i:Int) (a:Int) els ms lk ws o (outV S)) =
     some (.head 0 (bSfru o k (i:Int) ((qs.take i).map pV) (i:Int) ((a+1:Nat):Int) qs[a].1 qs[a].2 qs[a].1 qs[a].2 qs[a].1 ((a+1:Nat):Int) els ms lk ws o (outV (insS S qs[a].1)) qs[a].1 qs[a].2)):=by
    rw [bfr_eq];unfold bfr
    rw [decide_eq_true (by omega),cond_true,gd_of (by simp),toNat_cast,idxK_of hga,dPD,put_out1,opt_mk,wi a (by omega)]
   refine Safe.clean fFR (Safe.piece hok ikA bc_fr_eq bc_fr_nl hb ?_)
   refine ⟨d - 1,by omega,a+1,insS S qs[a].1,by omega,ins_nodup hn _,fun y=>?_,bfr_cl _ _ _ _ _ _ _ _ _ _ _ _ _ _ _ _ _ _ _ _⟩
   rw [ins_mem,hS,List.take_add_one,hqa,List.map_append,List.mem_append]
   simp
  ·have hae:a=i:=by omega
   subst hae
   have hb:pieceK kcA 5 bc_fr (bSF o k (a:Int) ((qs.take a).map pV) (a:Int) (a:Int) els ms lk ws o (outV S))=some (.head 2 (bSG o k (a:Int) ((qs.take a).map pV) (a:Int) (a:Int) els ms lk ws o (outV S))):=by
    rw [bfr_eq];unfold bfr
    rw [decide_eq_false (by omega),cond_false]
   exact Safe.piece hok ikA bc_fr_eq bc_fr_nl hb ⟨rfl,S,hn,hS,bgc_cl _ _ _ _ _ _ _ _ _ _ _ _⟩
 obtain ⟨_,S0,hn0,hS0,rfl⟩:=hs1
 refine Safe.seq (R1:=fun x s=>x = .norm/\∃S,S.Nodup/\(∀y,y∈S↔y∈(qs.take i).map (·.1)++confl hs o m)/\s=bSL o k (i:Int) k k k h els ms lk ws o (outV S)) ?_ (fun s1 hs1=>?_) (fun x s1 hx hh=>absurd hh.1 hx)
 rotate_left
 ·obtain ⟨_,S,hn,hS,rfl⟩:=hs1
  have hp:=perm_of hn hS
  have hlen:S.length<=16777216:=by
   rw [hp.length_eq]
   have:=dups_len ((qs.take i).map (·.1)++confl hs o m)
   have h3:(confl hs o m).length<=hs.length:=by unfold confl;rw [List.length_map];exact List.length_filter_le _ _
   rw [List.length_append,List.length_map,List.length_take] at this
   omega
  have hb:pieceK kcD 5 bc_tl (bSL o k (i:Int) k k k h els ms lk ws o (outV S))=some (.head 1 (bSZ o k (i:Int) k k k h els ms lk ws o (outV S) ((srt S).map iV))):=by
   rw [btl_eq];unfold btl
   rw [keys_out (fun x hx=>hT x ((hS x).1 hx)),opt_mk,gd_of (decide_eq_true hlen)]
  exact Safe.piece hok ikD bc_tl_eq bc_tl_nl hb ⟨.inr rfl,by kernel_rfl,S,rfl,srt_perm hp⟩
 ·have hR:opsP kcA bc_mR (bSH o k (i:Int) els ms lk ws o (outV S0))=some (.head 0 (bSI o k (i:Int) k k k h els ms lk ws o (outV S0))):=by
   rw [bmR_eq];unfold bmR
   rw [idxK_of hk];rfl
  refine Safe.mrange (call:=callW cfgA) (callW_ok hok).1 (callW_ok hok).2 (it:=57) (nx:=58) (more:=59) (pr:=60) (t:=63) (tk:=3) (te:=3) (xR:=.tmp 56) (oR:=opAt (regA aMR) 4) (oN:=opAt (regA aMN) 0) (oM:=opAt (regA aMN) 1) (oE:=opAt (regA aME) 0) (rest:=(regA aME).toList.drop 1) (pre:=(regA aMR).toList.take 4)
   (lR:=bc_mR) (lE:=bc_mE) (by kernel_rfl) (by kernel_rfl) (by kernel_rfl) (by kernel_rfl) (by kernel_rfl) (by kernel_rfl) (by kernel_rfl) (by kernel_rfl) (by kernel_rfl) (by kernel_rfl) (by kernel_rfl) (by kernel_rfl)
   (by kernel_rfl) (by kernel_rfl) (by kernel_rfl) (by kernel_rfl) (preps_of bc_mR_eq) (preps_of bc_mE_eq) (s1:=bSI o k (i:Int) k k k h els ms lk ws o (outV S0)) (ops_some ikA hR) (m:=.hm 63 h) (by kernel_rfl) (es:=hs.map hEn) ?_ (id:=1) (o:=.marena 63 ms) rfl rfl (by kernel_rfl) (by show 1 < 5;decide)
   (fun left s=>∃hl S,left=hl.map hEn/\S.Nodup/\(∀y,y∈S∨y∈confl hl o m↔y∈(qs.take i).map (·.1)++confl hs o m)/\s=bSK o k (i:Int) k k k h els lk ws o (outV S)) _ [] (wrs bc_mB) mrWs
   ?_ ?_ ?_ ?_ (by show 57 < 84;decide) ?_ ?_ (by decide)
  ·have:mapAt (bSI o k (i:Int) k k k h els ms lk ws o (outV S0)).mem (.hm 63 h)=ms[h]?:=by kernel_rfl
   rw [this];exact hm
  ·refine ⟨hs,S0,rfl,hn0,fun y=>?_,bk_set _ _ _ _ _ _ _ _ _ _ _ _ _⟩
   rw [List.mem_append,hS0]
  ·rintro left s ⟨hl,S,e,hn,hS,rfl⟩
   exact ⟨rfl,by show 58 < 84;decide,by show 59 < 84;decide⟩
  ·rintro a1 a2 a c s ⟨hl,S,e,hn,hS,rfl⟩
   obtain ⟨g1,g2,rfl,e1,e2⟩:=List.append_eq_map_iff.1 e
   obtain ⟨p,g3,rfl,e3,e4⟩:=List.map_eq_cons_iff.1 e2
   have e3:a = .int .i64 p.1/\c = .int .i64 p.2:=by
    have:=e3
    unfold hEn at this
    injection this with h1 h2
    exact ⟨h1.symm,h2.symm⟩
   obtain ⟨rfl,rfl⟩:=e3
   refine ⟨bSN o k (i:Int) p.1 p.2 k k k h p.1 p.2 p.1 p.2 p.1 p.2 els lk ws o (outV S),?_,?_⟩
   ·rw [bm_set]
    exact ops_some ikA (bmE_eq _ _ _ _ _ _ _ _ _ _ _ _ _ _ _ _)
   have hcc:∀y,y∈confl (g1++p::g3) o m↔y∈confl (g1++g3) o m∨(y=p.1/\p.1≠o/\fitsB p.2 m=false):=by
    intro y
    unfold confl
    simp only [List.mem_map,List.mem_filter,List.mem_append,List.mem_cons,Bool.and_eq_true,Bool.not_eq_true',beq_eq_false_iff_ne]
    constructor
    ·rintro ⟨q,⟨h1 | rfl | h1,h2,h3⟩,rfl⟩
     ·exact .inl ⟨q,⟨.inl h1,h2,h3⟩,rfl⟩
     ·exact .inr ⟨rfl,h2,h3⟩
     ·exact .inl ⟨q,⟨.inr h1,h2,h3⟩,rfl⟩
    ·rintro (⟨q,⟨h1 | h1,h2,h3⟩,rfl⟩ | ⟨rfl,h2,h3⟩)
     ·exact ⟨q,⟨.inl h1,h2,h3⟩,rfl⟩
     ·exact ⟨q,⟨.inr (.inr h1),h2,h3⟩,rfl⟩
     ·exact ⟨p,⟨.inr (.inl rfl),h2,h3⟩,rfl⟩
   have keep:¬(p.1≠o/\fitsB p.2 m=false)->∃hl S',a1++a2=hl.map hEn/\S'.Nodup/\(∀y,y∈S'∨y∈confl hl o m↔y∈(qs.take i).map (·.1)++confl hs o m)/\bSK o k (i:Int) k k k h els lk ws o (outV S)=bSK o k (i:Int) k k k h els lk ws o (outV S'):=fun hq=>by
    refine ⟨g1++g3,S,by rw [List.map_append,e1,e4],hn,fun y=>?_,rfl⟩
    rw [<-hS y,hcc y]
    constructor
    ·rintro (h | h);exact .inl h;exact .inr (.inl h)
    ·rintro (h | h | ⟨_,h⟩);exact .inl h;exact .inr h;exact absurd h hq
   have hB:=bmB_eq o k (i:Int) p.1 p.2 k k k h p.1 p.2 p.1 p.2 p.1 p.2 els lk ws o (outV S)
   unfold bmB at hB
   by_cases hpo:p.1=o
   ·rw [ibne_f hpo,cond_false] at hB
    refine Safe.clean fKR (Safe.piece hok ikA bc_mB_eq bc_mB_nl hB (Or.inl ⟨Or.inl rfl,?_⟩))
    rw [forget_nil,show (bM els ms lk ws).length=5 from rfl,bmB_clc]
    exact keep fun h=>h.1 hpo
   ·have hq:idxK (qs.map pV) ((i:Nat):Int).toNat=fun q=>q (pV (o,m)):=by
     funext q
     rw [toNat_cast]
     exact idxK_of (by rw [List.getElem?_map,hqi];rfl)
    rw [ibne_t hpo,cond_true,idxK_of hk,dLD,gd_of (by simp),hq] at hB
    dsimp only at hB
    rw [dPD,pcK_of (fits_ok p.2 m),kB_mk] at hB
    cases hf:fitsB p.2 m with
    | true =>
     rw [hf,Bool.not_true,cond_false] at hB
     refine Safe.clean fKR (Safe.piece hok ikA bc_mB_eq bc_mB_nl hB (Or.inl ⟨Or.inl rfl,?_⟩))
     rw [forget_nil,show (bM els ms lk ws).length=5 from rfl,bmB_clb]
     exact keep fun h=>by rw [hf] at h;cases h.2
    | false =>
     rw [hf,Bool.not_false,cond_true,put_out1,opt_mk] at hB
     refine Safe.clean fKR (Safe.piece hok ikA bc_mB_eq bc_mB_nl hB (Or.inl ⟨Or.inl rfl,?_⟩))
     rw [forget_nil,show (bM els ms lk ws).length=5 from rfl,bmB_cl]
     refine ⟨g1++g3,insS S p.1,by rw [List.map_append,e1,e4],ins_nodup hn _,fun y=>?_,rfl⟩
     rw [<-hS y,hcc y,ins_mem]
     constructor
     ·rintro ((h | rfl) | h)
      ·exact .inl h
      ·exact .inr (.inr ⟨rfl,hpo,hf⟩)
      ·exact .inr (.inl h)
     ·rintro (h | h | ⟨rfl,_⟩)
      ·exact .inl (.inl h)
      ·exact .inr h
      ·exact .inl (.inr rfl)
  ·rintro s ⟨hl,S,e,hn,hS,rfl⟩
   have:hl=[]:=by simpa using e.symm
   subst this
   exact ⟨rfl,S,hn,fun y=>by rw [<-hS y];simp [confl],bu_set _ _ _ _ _ _ _ _ _ _ _ _ _⟩
  ·exact ⟨by decide,by decide,by decide,by decide,of_decide_eq_true (by kernel_rfl),of_decide_eq_true (by kernel_rfl)⟩
  ·intro x hi
   unfold mrWs
   simp only [List.mem_append,List.mem_cons,List.not_mem_nil,or_false]
   rcases hi with h | h | h | h | h | h | h
   ·exact .inl (.inl h)
   ·exact .inl (.inr (.inl h))
   ·exact .inl (.inr (.inr (.inl h)))
   ·exact .inl (.inr (.inr (.inr h)))
   ·exact .inr (.inl h)
   ·exact .inr (.inr (.inl h))
   ·exact .inr (.inr (.inr h))
end
theorem rng_of {l:HQ} (h:rngs l=true):∀p∈l,-9223372036854775808<=p.1/\p.1<=9223372036854775807:=by
 intro p hp
 unfold rngs at h
 simpa using List.all_eq_true.1 h p hp
section
variable {els:List V} {ms:List (List (V × V))} {lk ws:List (V × V)} {rest:List O} {b l w:Nat} {o:Int}
abbrev gM (els:List V) (ms:List (List (V × V))) (rest:List O):List O:=.arena 66 els::.marena 63 ms::rest
structure At (els:List V) (ms:List (List (V × V))) (lk ws:List (V × V)) (rest:List O) (b l w:Nat):Prop where
 hb:(gM els ms rest)[b]? = some (.box 38 (.agg [.mp l,.mp w]) false)
 hl:(gM els ms rest)[l]? = some (.map lk)
 hw:(gM els ms rest)[w]? = some (.map ws)
 ne:l≠w
theorem two_le {x:Nat} {y:O} (h:(gM els ms rest)[x]? = some y) (h0:y≠.arena 66 els) (h1:y≠.marena 63 ms):2<=x:=by
 match x,h with
 | 0,h=>simp only [List.getElem?_cons_zero,Option.some.injEq] at h;exact absurd h.symm h0
 | 1,h=>simp only [List.getElem?_cons_succ,List.getElem?_cons_zero,Option.some.injEq] at h;exact absurd h.symm h1
 | x+2,_=>omega
theorem At.two (h:At els ms lk ws rest b l w):2<=b/\2<=l/\2<=w/\b≠l/\b≠w:=by
 refine ⟨two_le h.hb (by simp) (by simp),two_le h.hl (by simp) (by simp),two_le h.hw (by simp) (by simp),?_,?_⟩
 ·rintro rfl;have:=h.hb;rw [h.hl] at this;simp at this
 ·rintro rfl;have:=h.hb;rw [h.hw] at this;simp at this
theorem At.rho (h:At els ms lk ws rest b l w):rhoOf 2 [b,l,w] b=some 2/\rhoOf 2 [b,l,w] l=some 3/\rhoOf 2 [b,l,w] w=some 4:=by
 obtain ⟨h1,h2,h3,h4,h5⟩:=h.two
 have:=h.ne
 unfold rhoOf
 rw [if_neg (by omega),if_neg (by omega),if_neg (by omega)]
 refine ⟨by simp [idxO],?_,?_⟩
 ·simp [idxO,h4]
 ·simp [idxO,h5,h.ne]
theorem At.tidy (h:At els ms lk ws rest b l w):tidyWith 2 [b,l,w] ⟨[.ptr b 0 0,.int .i64 o],gM els ms rest⟩=⟨[.ptr 2 0 0,.int .i64 o],bM els ms lk ws⟩:=by
 obtain ⟨r1,r2,r3⟩:=h.rho
 unfold tidyWith
 simp only [List.map_cons,List.map_nil,h.hb,h.hl,h.hw,Option.getD_some]
 have e1:ren2 (rhoOf 2 [b,l,w]) (.ptr b 0 0) = .ptr 2 0 0:=by
  show (match rhoOf 2 [b,l,w] b with | some i=>V.ptr i 0 0 | none=>.junk)=_
  rw [r1]
 have e2:Lite.renD (rhoOf 2 [b,l,w]) (.box 38 (.agg [.mp l,.mp w]) false) = .box 38 (.agg [.mp 3,.mp 4]) false:=by
  have:ren2 (rhoOf 2 [b,l,w]) (.agg [.mp l,.mp w]) = .agg [.mp 3,.mp 4]:=by
   show V.agg [(match rhoOf 2 [b,l,w] l with | some i=>V.mp i | none=>.junk),(match rhoOf 2 [b,l,w] w with | some i=>V.mp i | none=>.junk)]=_
   rw [r2,r3]
  show (if (ren2 (rhoOf 2 [b,l,w]) (.agg [.mp l,.mp w])).cells.all V.one then O.box 38 (ren2 (rhoOf 2 [b,l,w]) (.agg [.mp l,.mp w])) false else .dead)=_
  rw [this];rfl
 rw [e1,e2]
 rfl
theorem At.back (h:At els ms lk ws rest b l w) {m1 tl:List O} {k:Nat} {R:List V} (hm:m1=bM els ms lk ws++tl) (hk5:5<=k) (hk:m1[k]? = some (.row 3 R 0)) (hn:canNew true 2 (bM els ms lk ws) m1 (.own k)=[k]) :
  canBackW true 2 [b,l,w] (bM els ms lk ws) (gM els ms rest) (.own k) m1=(.own (rest.length+2),gM els ms rest++[.row 3 R 0]):=by
 obtain ⟨h1,h2,h3,h4,h5⟩:=h.two
 have hne:=h.ne
 unfold canBackW
 rw [hn]
 dsimp only
 have g:∀i,i < 5->m1[i]? = (bM els ms lk ws)[i]?:=fun i hi=>by rw [hm,List.getElem?_append_left (by simpa using hi)]
 have s2:stayAt true (bM els ms lk ws) m1 2=true:=by unfold stayAt;rw [g 2 (by decide)];rfl
 have s3:stayAt true (bM els ms lk ws) m1 3=true:=by unfold stayAt;rw [g 3 (by decide)];rfl
 have s4:stayAt true (bM els ms lk ws) m1 4=true:=by unfold stayAt;rw [g 4 (by decide)];rfl
 have sk:stayAt true (bM els ms lk ws) m1 k=false:=by
  unfold stayAt liveAt
  rw [List.getElem?_eq_none (by simpa using hk5)];rfl
 have σk:canSig true 2 (gM els ms rest).length [b,l,w] [k] (bM els ms lk ws) m1 k=some (rest.length+2):=by
  unfold canSig
  rw [if_neg (by omega),sk]
  simp [idxO]
 have σ3:canSig true 2 (gM els ms rest).length [b,l,w] [k] (bM els ms lk ws) m1 3=some l:=by unfold canSig;rw [if_neg (by omega),s3];rfl
 have σ4:canSig true 2 (gM els ms rest).length [b,l,w] [k] (bM els ms lk ws) m1 4=some w:=by unfold canSig;rw [if_neg (by omega),s4];rfl
 generalize canSig true 2 (gM els ms rest).length [b,l,w] [k] (bM els ms lk ws) m1=σ at σk σ3 σ4
 have e1:ren3 σ (.own k) = .own (rest.length+2):=by
  show (match σ k with | some i=>V.own i | none=>.junk)=_
  rw [σk]
 rw [e1,List.map_cons,List.map_nil,hk,Option.getD_some]
 refine congrArg (Prod.mk _) ?_
 have e2:Lite.renD σ (.row 3 R 0) = .row 3 R 0:=rfl
 rw [e2,oldFrom_id]
 intro i x hx
 unfold canOld
 by_cases hi:i < 2
 ·rw [if_pos hi]
  unfold canFront
  rw [g i (by omega)]
  match i,hi,hx with
  | 0,_,hx=>simp only [List.getElem?_cons_zero,Option.some.injEq] at hx;subst hx;rfl
  | 1,_,hx=>simp only [List.getElem?_cons_succ,List.getElem?_cons_zero,Option.some.injEq] at hx;subst hx;rfl
 ·rw [if_neg hi]
  by_cases hb:i=b
  ·subst hb
   rw [h.hb] at hx
   cases hx
   have:idxO i [i,l,w]=some 0:=by simp [idxO]
   rw [this]
   dsimp only
   rw [s2,cond_true,g 2 (by decide)]
   have:ren2 σ (.agg [.mp 3,.mp 4]) = .agg [.mp l,.mp w]:=by
    show V.agg [(match σ 3 with | some i=>V.mp i | none=>.junk),(match σ 4 with | some i=>V.mp i | none=>.junk)]=_
    rw [σ3,σ4]
   show (if (ren2 σ (.agg [.mp 3,.mp 4])).cells.all V.one then O.box 38 (ren2 σ (.agg [.mp 3,.mp 4])) false else .dead)=_
   rw [this];rfl
  by_cases hl:i=l
  ·subst hl
   rw [h.hl] at hx
   cases hx
   have:idxO i [b,i,w]=some 1:=by simp [idxO,h4]
   rw [this]
   dsimp only
   rw [s3,cond_true,g 3 (by decide)]
   rfl
  by_cases hw:i=w
  ·subst hw
   rw [h.hw] at hx
   cases hx
   have:idxO i [b,l,i]=some 2:=by simp [idxO,h5,hne]
   rw [this]
   dsimp only
   rw [s4,cond_true,g 4 (by decide)]
   rfl
  ·have:idxO i [b,l,w]=none:=by simp [idxO,Ne.symm hb,Ne.symm hl,Ne.symm hw]
   rw [this]
end
theorem behind_ok (hok:CfgOK cfgA):ImpOK Tryz.prog fun f' av mem=>if f'=21 then behindP av mem else none:=by
 intro f av mem r mem' h hfn Z w j us sr ha
 dsimp only at h
 split at h
 rotate_left
 ·cases h
 rename_i e
 subst e
 unfold behindP at h
 split at h
 rotate_left
 ·cases h
 rename_i b o els ms rest
 split at h
 rotate_left
 ·cases h
 rename_i l wm hb
 split at h
 rotate_left
 ·cases h
 rename_i lk ws hlk hws
 split at h
 ·cases h
 rename_i hne
 have hA:At els ms lk ws rest b l wm:=⟨hb,hlk,hws,fun e=>hne (by rw [e];exact Nat.beq_refl wm)⟩
 obtain ⟨h1,h2,h3,h4,h5⟩:=hA.two
 simp only [omi] at h
 obtain ⟨x,hx,h⟩:=h
 cases h
 have fin:∀(Q:List O->Prop) (k:Nat),(∀m1,Q m1->(∃tl,m1=bM els ms lk ws++tl)/\5<=k/\m1[k]? = some (.row 3 (x.map iV) 0)/\canNew true 2 (bM els ms lk ws) m1 (.own k)=[k]) ->
   (∀jc,SR cfgA.P Z w jc (bM els ms lk ws)->VRs Z w jc [.ptr 2 0 0,.int .i64 o] us->Calls cfgA.P 21 us.toArray w fun e w1=>∃u,e = .returned u/\∃m1,Q m1/\PostOf cfgA.P Z w jc (bM els ms lk ws) (.own k) m1 u w1) ->
   Calls Tryz.prog 21 us.toArray w fun e w1=>∃u,e = .returned u/\PostOf Tryz.prog Z w j (gM els ms rest) (.own (rest.length+2)) (gM els ms rest++[.row 3 (x.map iV) 0]) u w1:=by
  intro Q k hQ hC
  have:=pickQ (n0:=2) (ids:=[b,l,wm]) (rd:=true) (v1:=.own k) (f:=21) Q (by simp) (by simp [hA.ne,h4,h5]) (by simp [h1,h2,h3]) sr ha fun jc sc hc=>by
   rw [hA.tidy] at sc hc |-
   exact hC jc sc hc
  refine this.mono ?_
  rintro e w1 ⟨u,rfl,m1,hq,hp⟩
  obtain ⟨⟨tl,hm⟩,k1,k2,k3⟩:=hQ m1 hq
  rw [hA.tidy] at hp
  dsimp only at hp
  rw [hA.back hm k1 k2 k3] at hp
  exact ⟨u,rfl,hp⟩
 unfold behindX at hx
 split at hx
 ·-- nobody waits
  rename_i hw
  cases hx
  refine fin (fun m1=>m1=bM els ms lk ws++[.box 3 (.int .i64 o) false,.row 3 [] 0,.row 3 [] 0]) 7 ?_ fun jc sc hc=>beh_none hok hw sc hc
  rintro m1 rfl
  exact ⟨⟨_,rfl⟩,by decide,rfl,by kernel_rfl⟩
 ·rename_i nm hw
  split at hx
  rotate_left
  ·cases hx
  rename_i k hl
  simp only [obi] at hx
  obtain ⟨r,hlx,hs,hhs,qs,hqs,hx⟩:=hx
  unfold lockX at hlx
  split at hlx
  rotate_left
  ·cases hlx
  rename_i hh q hk
  simp only [omi] at hlx
  obtain ⟨es,hms,rfl⟩:=hlx
  have e1:=heldOf_map hhs
  have e2:=waitsOf_map hqs
  dsimp only at e1 e2
  subst e1
  subst e2
  split at hx
  rotate_left
  ·cases hx
  rename_i i hi
  split at hx
  rotate_left
  ·cases hx
  rename_i hb2
  cases hx
  obtain ⟨hlt,g1,_⟩:=List.findIdx?_eq_some_iff_getElem.1 hi
  have g1:(qs[i]).1=o:=by simpa using g1
  have hqi:qs[i]? = some (o,((qs[i]?).getD (0,0)).2):=by rw [List.getElem?_eq_getElem hlt,Option.getD_some,<-g1]
  refine fin (fun m1=>∃S,m1=bZ els ms lk ws o S/\srt S=behindL hs qs i o ((qs[i]?).getD (0,0)).2) 9 ?_ fun jc sc hc=>beh_some hok hw hl hk hms hi hqi hb2.1 hb2.2.1 (rng_of hb2.2.2.1) (rng_of hb2.2.2.2) sc hc
  rintro m1 ⟨S,rfl,hS⟩
  refine ⟨⟨_,rfl⟩,by decide,?_,by kernel_rfl⟩
  rw [<-hS];rfl
 ·cases hx
end Go.Proofs.YtpkeiaeaonmacaaGreat.D
namespace Go.Proofs.YtpkeiaeaonmacaaGreat
open Go Go.Proofs
set_option maxRecDepth 100000
def keysIL_ren:Go.Shelf.Ren:=⟨fun | 7=>54 | 10=>74 | n=>n,fun | 23=>63 | 26=>3 | 3=>3 | 28=>92 | 0=>0 | 27=>91 | 33=>96 | 4=>4 | n=>n,fun | n=>n⟩
theorem keysIL:Go.Proofs.SlLaysZI.n7 Tryz.prog keysIL_ren where
 mixed:=by kernel_rfl
 f7:=⟨"maps.Keys[map[int]int,int,int]",by decide,Tryz.func54.trans (congrArg some (by kernel_rfl))⟩
 f10:=⟨"maps.Keys[map[int]int,int,int]$1",by decide,Tryz.func74.trans (congrArg some (by kernel_rfl))⟩
 t0:=Tryz.underlying0
 a0:=Tryz.isAgg0
 z0:=Tryz.sizeOf0
 v0:=Tryz.zeroValue0
 t4:=Tryz.underlying4
 a4:=Tryz.isAgg4
 z4:=Tryz.sizeOf4
 v4:=Tryz.zeroValue4
 t23:=Tryz.underlying63
 a23:=Tryz.isAgg63
 z23:=Tryz.sizeOf63
 v23:=Tryz.zeroValue63
 t26:=Tryz.underlying3
 a26:=Tryz.isAgg3
 z26:=Tryz.sizeOf3
 v26:=Tryz.zeroValue3
 t27:=Tryz.underlying91
 a27:=Tryz.isAgg91
 z27:=Tryz.sizeOf91
 v27:=Tryz.zeroValue91
 t28:=Tryz.underlying92
 a28:=Tryz.isAgg92
 z28:=Tryz.sizeOf92
 v28:=Tryz.zeroValue92
 t33:=Tryz.underlying96
 a33:=Tryz.isAgg96
 z33:=Tryz.sizeOf96
 v33:=Tryz.zeroValue96
def keysBL_ren:Go.Shelf.Ren:=⟨fun | 7=>51 | 10=>71 | n=>n,fun | 23=>88 | 26=>3 | 3=>4 | 28=>92 | 0=>0 | 27=>91 | 33=>96 | 4=>4 | n=>n,fun | n=>n⟩
theorem keysBL:Go.Proofs.SlLaysZI.n7 Tryz.prog keysBL_ren where
 mixed:=by kernel_rfl
 f7:=⟨"maps.Keys[map[int]bool,int,bool]",by decide,Tryz.func51.trans (congrArg some (by kernel_rfl))⟩
 f10:=⟨"maps.Keys[map[int]bool,int,bool]$1",by decide,Tryz.func71.trans (congrArg some (by kernel_rfl))⟩
 t0:=Tryz.underlying0
 a0:=Tryz.isAgg0
 z0:=Tryz.sizeOf0
 v0:=Tryz.zeroValue0
 t4:=Tryz.underlying4
 a4:=Tryz.isAgg4
 z4:=Tryz.sizeOf4
 v4:=Tryz.zeroValue4
 t23:=Tryz.underlying88
 a23:=Tryz.isAgg88
 z23:=Tryz.sizeOf88
 v23:=Tryz.zeroValue88
 t26:=Tryz.underlying3
 a26:=Tryz.isAgg3
 z26:=Tryz.sizeOf3
 v26:=Tryz.zeroValue3
 t27:=Tryz.underlying91
 a27:=Tryz.isAgg91
 z27:=Tryz.sizeOf91
 v27:=Tryz.zeroValue91
 t28:=Tryz.underlying92
 a28:=Tryz.isAgg92
 z28:=Tryz.sizeOf92
 v28:=Tryz.zeroValue92
 t33:=Tryz.underlying96
 a33:=Tryz.isAgg96
 z33:=Tryz.sizeOf96
 v33:=Tryz.zeroValue96
def sortedIL_ren:Go.Shelf.Ren:=⟨fun | 6=>50 | 8=>69 | 9=>70 | 11=>81 | 13=>80 | 12=>82 | 23=>94 | 24=>95 | 14=>96 | 15=>97 | 16=>98 | 17=>99 | 18=>100 | 19=>101 | 20=>102 | 21=>103 | 22=>104 | 25=>112 | 26=>107 | 27=>108 | 28=>113 | 29=>114 | 30=>115 | 31=>117 | n=>n,fun | 26=>3 | 28=>92 | 24=>41 | 0=>0 | 3=>3 | 37=>112 | 48=>124 | 50=>126 | 4=>4 | 40=>118 | 39=>117 | 45=>62 | 5=>5 | 9=>9 | 51=>133 | 55=>137 | 57=>141 | 58=>142 | 33=>96 | n=>n,fun | n=>n⟩
theorem sortedIL:Go.Proofs.SlLaysZI.n6 Tryz.prog sortedIL_ren where
 mixed:=by kernel_rfl
 f6:=⟨"slices.Sorted[int]",by decide,Tryz.func50.trans (congrArg some (by kernel_rfl))⟩
 f8:=⟨"slices.Collect[int]",by decide,Tryz.func69.trans (congrArg some (by kernel_rfl))⟩
 f11:=⟨"slices.AppendSeq[[]int,int]",by decide,Tryz.func81.trans (congrArg some (by kernel_rfl))⟩
 t0:=Tryz.underlying0
 a0:=Tryz.isAgg0
 z0:=Tryz.sizeOf0
 v0:=Tryz.zeroValue0
 t24:=Tryz.underlying41
 a24:=Tryz.isAgg41
 z24:=Tryz.sizeOf41
 v24:=Tryz.zeroValue41
 t26:=Tryz.underlying3
 a26:=Tryz.isAgg3
 z26:=Tryz.sizeOf3
 v26:=Tryz.zeroValue3
 t28:=Tryz.underlying92
 a28:=Tryz.isAgg92
 z28:=Tryz.sizeOf92
 v28:=Tryz.zeroValue92
 i26:=by kernel_rfl
def sortIL_ren:Go.Shelf.Ren:=⟨fun | 5=>70 | 8=>80 | 7=>82 | 19=>94 | 20=>95 | 10=>96 | 11=>97 | 12=>98 | 13=>99 | 14=>100 | 15=>101 | 16=>102 | 17=>103 | 18=>104 | 30=>112 | 31=>107 | 32=>108 | 33=>113 | 34=>114 | 35=>115 | 40=>117 | n=>n,fun | 23=>41 | 25=>3 | 3=>3 | 32=>112 | 22=>41 | 0=>0 | 44=>124 | 46=>126 | 4=>4 | 36=>118 | 35=>117 | 41=>62 | 5=>5 | 9=>9 | 53=>133 | 57=>137 | 63=>141 | 64=>142 | n=>n,fun | n=>n⟩
theorem sortIL:Go.Proofs.SlLaysM.n5 Tryz.prog sortIL_ren where
 mixed:=by kernel_rfl
 f5:=⟨"slices.Sort[[]int,int]",by decide,Tryz.func70.trans (congrArg some (by kernel_rfl))⟩
 f7:=⟨"slices.pdqsortOrdered[int]",by decide,Tryz.func82.trans (congrArg some (by kernel_rfl))⟩
 f8:=Tryz.func80.trans (congrArg some (by kernel_rfl))
 f10:=⟨"slices.insertionSortOrdered[int]",by decide,Tryz.func96.trans (congrArg some (by kernel_rfl))⟩
 f11:=⟨"slices.heapSortOrdered[int]",by decide,Tryz.func97.trans (congrArg some (by kernel_rfl))⟩
 f12:=⟨"slices.breakPatternsOrdered[int]",by decide,Tryz.func98.trans (congrArg some (by kernel_rfl))⟩
 f13:=⟨"slices.choosePivotOrdered[int]",by decide,Tryz.func99.trans (congrArg some (by kernel_rfl))⟩
 f14:=⟨"slices.reverseRangeOrdered[int]",by decide,Tryz.func100.trans (congrArg some (by kernel_rfl))⟩
 f15:=⟨"slices.partialInsertionSortOrdered[int]",by decide,Tryz.func101.trans (congrArg some (by kernel_rfl))⟩
 f16:=⟨"cmp.Less[int]",by decide,Tryz.func102.trans (congrArg some (by kernel_rfl))⟩
 f17:=⟨"slices.partitionEqualOrdered[int]",by decide,Tryz.func103.trans (congrArg some (by kernel_rfl))⟩
 f18:=⟨"slices.partitionOrdered[int]",by decide,Tryz.func104.trans (congrArg some (by kernel_rfl))⟩
 f19:=Tryz.func94.trans (congrArg some (by kernel_rfl))
 f20:=Tryz.func95.trans (congrArg some (by kernel_rfl))
 f30:=⟨"slices.siftDownOrdered[int]",by decide,Tryz.func112.trans (congrArg some (by kernel_rfl))⟩
 f31:=Tryz.func107.trans (congrArg some (by kernel_rfl))
 f32:=Tryz.func108.trans (congrArg some (by kernel_rfl))
 f33:=⟨"slices.medianAdjacentOrdered[int]",by decide,Tryz.func113.trans (congrArg some (by kernel_rfl))⟩
 f34:=⟨"slices.medianOrdered[int]",by decide,Tryz.func114.trans (congrArg some (by kernel_rfl))⟩
 f35:=⟨"cmp.isNaN[int]",by decide,Tryz.func115.trans (congrArg some (by kernel_rfl))⟩
 f40:=⟨"slices.order2Ordered[int]",by decide,Tryz.func117.trans (congrArg some (by kernel_rfl))⟩
 t0:=Tryz.underlying0
 a0:=Tryz.isAgg0
 z0:=Tryz.sizeOf0
 v0:=Tryz.zeroValue0
 t3:=Tryz.underlying3
 a3:=Tryz.isAgg3
 z3:=Tryz.sizeOf3
 v3:=Tryz.zeroValue3
 t4:=Tryz.underlying4
 a4:=Tryz.isAgg4
 z4:=Tryz.sizeOf4
 v4:=Tryz.zeroValue4
 t5:=Tryz.underlying5
 a5:=Tryz.isAgg5
 z5:=Tryz.sizeOf5
 v5:=Tryz.zeroValue5
 t9:=Tryz.underlying9
 a9:=Tryz.isAgg9
 z9:=Tryz.sizeOf9
 v9:=Tryz.zeroValue9
 t22:=Tryz.underlying41
 a22:=Tryz.isAgg41
 z22:=Tryz.sizeOf41
 v22:=Tryz.zeroValue41
 t23:=Tryz.underlying41
 a23:=Tryz.isAgg41
 z23:=Tryz.sizeOf41
 v23:=Tryz.zeroValue41
 t25:=Tryz.underlying3
 a25:=Tryz.isAgg3
 z25:=Tryz.sizeOf3
 v25:=Tryz.zeroValue3
 t32:=Tryz.underlying112
 a32:=Tryz.isAgg112
 z32:=Tryz.sizeOf112
 v32:=Tryz.zeroValue112
 t35:=Tryz.underlying117
 a35:=Tryz.isAgg117
 z35:=Tryz.sizeOf117
 v35:=Tryz.zeroValue117
 t36:=Tryz.underlying118
 a36:=Tryz.isAgg118
 z36:=Tryz.sizeOf118
 v36:=Tryz.zeroValue118
 t41:=Tryz.underlying62
 a41:=Tryz.isAgg62
 z41:=Tryz.sizeOf62
 v41:=Tryz.zeroValue62
 t44:=Tryz.underlying124
 a44:=Tryz.isAgg124
 z44:=Tryz.sizeOf124
 v44:=Tryz.zeroValue124
 t46:=Tryz.underlying126
 a46:=Tryz.isAgg126
 z46:=Tryz.sizeOf126
 v46:=Tryz.zeroValue126
 t53:=Tryz.underlying133
 a53:=Tryz.isAgg133
 z53:=Tryz.sizeOf133
 v53:=Tryz.zeroValue133
 t57:=Tryz.underlying137
 a57:=Tryz.isAgg137
 z57:=Tryz.sizeOf137
 v57:=Tryz.zeroValue137
 t63:=Tryz.underlying141
 a63:=Tryz.isAgg141
 z63:=Tryz.sizeOf141
 v63:=Tryz.zeroValue141
 t64:=Tryz.underlying142
 a64:=Tryz.isAgg142
 z64:=Tryz.sizeOf142
 v64:=Tryz.zeroValue142
def keysSL_ren:Go.Shelf.Ren:=⟨fun | 7=>41 | 10=>66 | n=>n,fun | 23=>35 | 26=>9 | 3=>60 | 28=>82 | 0=>0 | 27=>81 | 33=>101 | 4=>4 | n=>n,fun | n=>n⟩
theorem keysSL:Go.Proofs.SlLaysZ.n7 Tryz.prog keysSL_ren where
 mixed:=by kernel_rfl
 f7:=⟨"maps.Keys[map[string]*budwood/lock.lock,string,*budwood/lock.lock]",by decide,Tryz.func41.trans (congrArg some (by kernel_rfl))⟩
 f10:=⟨"maps.Keys[map[string]*budwood/lock.lock,string,*budwood/lock.lock]$1",by decide,Tryz.func66.trans (congrArg some (by kernel_rfl))⟩
 t0:=Tryz.underlying0
 a0:=Tryz.isAgg0
 z0:=Tryz.sizeOf0
 v0:=Tryz.zeroValue0
 t4:=Tryz.underlying4
 a4:=Tryz.isAgg4
 z4:=Tryz.sizeOf4
 v4:=Tryz.zeroValue4
 t23:=Tryz.underlying35
 a23:=Tryz.isAgg35
 z23:=Tryz.sizeOf35
 v23:=Tryz.zeroValue35
 t26:=Tryz.underlying9
 a26:=Tryz.isAgg9
 z26:=Tryz.sizeOf9
 v26:=Tryz.zeroValue9
 t27:=Tryz.underlying81
 a27:=Tryz.isAgg81
 z27:=Tryz.sizeOf81
 v27:=Tryz.zeroValue81
 t28:=Tryz.underlying82
 a28:=Tryz.isAgg82
 z28:=Tryz.sizeOf82
 v28:=Tryz.zeroValue82
 t33:=Tryz.underlying101
 a33:=Tryz.isAgg101
 z33:=Tryz.sizeOf101
 v33:=Tryz.zeroValue101
def sortedSL_ren:Go.Shelf.Ren:=⟨fun | 6=>40 | 8=>64 | 9=>65 | 11=>78 | 13=>80 | 12=>79 | 23=>94 | 24=>95 | 14=>85 | 15=>86 | 16=>87 | 17=>88 | 18=>89 | 19=>90 | 20=>91 | 21=>92 | 22=>93 | 25=>106 | 26=>107 | 27=>108 | 28=>109 | 29=>110 | 30=>111 | 31=>116 | n=>n,fun | 26=>9 | 28=>82 | 24=>79 | 0=>0 | 3=>3 | 37=>112 | 48=>124 | 50=>126 | 4=>4 | 40=>118 | 39=>117 | 45=>62 | 5=>5 | 9=>9 | 51=>133 | 55=>137 | 57=>141 | 58=>142 | 33=>101 | n=>n,fun | n=>n⟩
theorem sortedSL:Go.Proofs.SlLaysZ.n6 Tryz.prog sortedSL_ren where
 mixed:=by kernel_rfl
 f6:=⟨"slices.Sorted[string]",by decide,Tryz.func40.trans (congrArg some (by kernel_rfl))⟩
 f8:=⟨"slices.Collect[string]",by decide,Tryz.func64.trans (congrArg some (by kernel_rfl))⟩
 f11:=⟨"slices.AppendSeq[[]string,string]",by decide,Tryz.func78.trans (congrArg some (by kernel_rfl))⟩
 t0:=Tryz.underlying0
 a0:=Tryz.isAgg0
 z0:=Tryz.sizeOf0
 v0:=Tryz.zeroValue0
 t24:=Tryz.underlying79
 a24:=Tryz.isAgg79
 z24:=Tryz.sizeOf79
 v24:=Tryz.zeroValue79
 t26:=Tryz.underlying9
 a26:=Tryz.isAgg9
 z26:=Tryz.sizeOf9
 v26:=Tryz.zeroValue9
 t28:=Tryz.underlying82
 a28:=Tryz.isAgg82
 z28:=Tryz.sizeOf82
 v28:=Tryz.zeroValue82
 i26:=by kernel_rfl
def sortSL_ren:Go.Shelf.Ren:=⟨fun | 6=>65 | 8=>80 | 9=>79 | 19=>94 | 20=>95 | 21=>85 | 22=>86 | 23=>87 | 24=>88 | 25=>89 | 26=>90 | 27=>91 | 28=>92 | 29=>93 | 36=>106 | 31=>107 | 32=>108 | 37=>109 | 38=>110 | 39=>111 | 41=>116 | n=>n,fun | 27=>79 | 29=>9 | 3=>3 | 32=>112 | 26=>79 | 0=>0 | 44=>124 | 46=>126 | 4=>4 | 36=>118 | 35=>117 | 41=>62 | 5=>5 | 9=>9 | 53=>133 | 57=>137 | 63=>141 | 64=>142 | n=>n,fun | n=>n⟩
theorem sortSL:Go.Proofs.SlLaysM.n6 Tryz.prog sortSL_ren where
 mixed:=by kernel_rfl
 f6:=⟨"slices.Sort[[]string,string]",by decide,Tryz.func65.trans (congrArg some (by kernel_rfl))⟩
 f8:=Tryz.func80.trans (congrArg some (by kernel_rfl))
 f9:=⟨"slices.pdqsortOrdered[string]",by decide,Tryz.func79.trans (congrArg some (by kernel_rfl))⟩
 f19:=Tryz.func94.trans (congrArg some (by kernel_rfl))
 f20:=Tryz.func95.trans (congrArg some (by kernel_rfl))
 f21:=⟨"slices.insertionSortOrdered[string]",by decide,Tryz.func85.trans (congrArg some (by kernel_rfl))⟩
 f22:=⟨"slices.heapSortOrdered[string]",by decide,Tryz.func86.trans (congrArg some (by kernel_rfl))⟩
 f23:=⟨"slices.breakPatternsOrdered[string]",by decide,Tryz.func87.trans (congrArg some (by kernel_rfl))⟩
 f24:=⟨"slices.choosePivotOrdered[string]",by decide,Tryz.func88.trans (congrArg some (by kernel_rfl))⟩
 f25:=⟨"slices.reverseRangeOrdered[string]",by decide,Tryz.func89.trans (congrArg some (by kernel_rfl))⟩
 f26:=⟨"slices.partialInsertionSortOrdered[string]",by decide,Tryz.func90.trans (congrArg some (by kernel_rfl))⟩
 f27:=⟨"cmp.Less[string]",by decide,Tryz.func91.trans (congrArg some (by kernel_rfl))⟩
 f28:=⟨"slices.partitionEqualOrdered[string]",by decide,Tryz.func92.trans (congrArg some (by kernel_rfl))⟩
 f29:=⟨"slices.partitionOrdered[string]",by decide,Tryz.func93.trans (congrArg some (by kernel_rfl))⟩
 f31:=Tryz.func107.trans (congrArg some (by kernel_rfl))
 f32:=Tryz.func108.trans (congrArg some (by kernel_rfl))
 f36:=⟨"slices.siftDownOrdered[string]",by decide,Tryz.func106.trans (congrArg some (by kernel_rfl))⟩
 f37:=⟨"slices.medianAdjacentOrdered[string]",by decide,Tryz.func109.trans (congrArg some (by kernel_rfl))⟩
 f38:=⟨"slices.medianOrdered[string]",by decide,Tryz.func110.trans (congrArg some (by kernel_rfl))⟩
 f39:=⟨"cmp.isNaN[string]",by decide,Tryz.func111.trans (congrArg some (by kernel_rfl))⟩
 f41:=⟨"slices.order2Ordered[string]",by decide,Tryz.func116.trans (congrArg some (by kernel_rfl))⟩
 t0:=Tryz.underlying0
 a0:=Tryz.isAgg0
 z0:=Tryz.sizeOf0
 v0:=Tryz.zeroValue0
 t3:=Tryz.underlying3
 a3:=Tryz.isAgg3
 z3:=Tryz.sizeOf3
 v3:=Tryz.zeroValue3
 t4:=Tryz.underlying4
 a4:=Tryz.isAgg4
 z4:=Tryz.sizeOf4
 v4:=Tryz.zeroValue4
 t5:=Tryz.underlying5
 a5:=Tryz.isAgg5
 z5:=Tryz.sizeOf5
 v5:=Tryz.zeroValue5
 t9:=Tryz.underlying9
 a9:=Tryz.isAgg9
 z9:=Tryz.sizeOf9
 v9:=Tryz.zeroValue9
 t26:=Tryz.underlying79
 a26:=Tryz.isAgg79
 z26:=Tryz.sizeOf79
 v26:=Tryz.zeroValue79
 t27:=Tryz.underlying79
 a27:=Tryz.isAgg79
 z27:=Tryz.sizeOf79
 v27:=Tryz.zeroValue79
 t29:=Tryz.underlying9
 a29:=Tryz.isAgg9
 z29:=Tryz.sizeOf9
 v29:=Tryz.zeroValue9
 t32:=Tryz.underlying112
 a32:=Tryz.isAgg112
 z32:=Tryz.sizeOf112
 v32:=Tryz.zeroValue112
 t35:=Tryz.underlying117
 a35:=Tryz.isAgg117
 z35:=Tryz.sizeOf117
 v35:=Tryz.zeroValue117
 t36:=Tryz.underlying118
 a36:=Tryz.isAgg118
 z36:=Tryz.sizeOf118
 v36:=Tryz.zeroValue118
 t41:=Tryz.underlying62
 a41:=Tryz.isAgg62
 z41:=Tryz.sizeOf62
 v41:=Tryz.zeroValue62
 t44:=Tryz.underlying124
 a44:=Tryz.isAgg124
 z44:=Tryz.sizeOf124
 v44:=Tryz.zeroValue124
 t46:=Tryz.underlying126
 a46:=Tryz.isAgg126
 z46:=Tryz.sizeOf126
 v46:=Tryz.zeroValue126
 t53:=Tryz.underlying133
 a53:=Tryz.isAgg133
 z53:=Tryz.sizeOf133
 v53:=Tryz.zeroValue133
 t57:=Tryz.underlying137
 a57:=Tryz.isAgg137
 z57:=Tryz.sizeOf137
 v57:=Tryz.zeroValue137
 t63:=Tryz.underlying141
 a63:=Tryz.isAgg141
 z63:=Tryz.sizeOf141
 v63:=Tryz.zeroValue141
 t64:=Tryz.underlying142
 a64:=Tryz.isAgg142
 z64:=Tryz.sizeOf142
 v64:=Tryz.zeroValue142
theorem sortsIL (m:Nat):AnyZI.SortsIn Tryz.prog sortedIL_ren Fence.wide m :=
 ⟨fun blk off cap ss W hH hblk hsz=>callsIn_wide.2 (AnyM.slices_Sort_int sortIL blk off cap ss W hH hblk hsz),
  fun p cap W=>callsIn_wide.2 (AnyM.slices_Sort_int_none sortIL p cap W)⟩
theorem sortsSL (m:Nat):AnyZ.SortsIn Tryz.prog sortedSL_ren Fence.wide m :=
 ⟨fun blk off cap ss W hH hblk hsz=>callsIn_wide.2 (AnyM.slices_Sort_string sortSL blk off cap ss W hH hblk hsz),
  fun p cap W=>callsIn_wide.2 (AnyM.slices_Sort_string_none sortSL p cap W)⟩
open Go Go.Lite Go.WideElems Go.Maps
theorem mapO_get {α β:Type} {f:α->Option β}:∀{l:List α} {r:List β},mapO f l=some r->r.length=l.length/\∀(i:Nat) (x:α),l[i]? = some x->∃y,r[i]? = some y/\f x=some y
 | [],r,h=>by cases h;exact ⟨rfl,fun i x hx=>by simp at hx⟩
 | a::l,r,h=>by
  simp only [mapO,obi,omi] at h
  obtain ⟨y,hy,ys,hys,rfl⟩:=h
  obtain ⟨h1,h2⟩:=mapO_get hys
  refine ⟨by simp [h1],fun i x hx=>?_⟩
  cases i with
  | zero=>simp at hx;subst hx;exact ⟨y,rfl,hy⟩
  | succ i=>simpa using h2 i x (by simpa using hx)
abbrev RU:Value->Option (DataW Unit × List MemPlace):=fun _=>some (.nil,[])
theorem keyI_some {v:V} {n:Int} (h:keyI v=some n):v = .int .i64 n/\-9223372036854775808<=n/\n<=9223372036854775807:=by
 unfold keyI at h
 split at h
 ·split at h
  ·rename_i hr;cases h;exact ⟨rfl,hr⟩
  ·cases h
 ·cases h
theorem u3:Tryz.prog.underlying 3=some (.int .i64):=by kernel_rfl
theorem ce3:Tryz.prog.cellsOf 3=1:=by kernel_rfl
theorem rd_key {x:MapEntry} {n:Int} (hk:x.key = .int .i64 n) (h1:-9223372036854775808<=n) (h2:n<=9223372036854775807):rd Tryz.prog 3 RU x=some (.int .i64 n,.nil):=by
 have hwf:(Lit.int .i64 n).wf=true:=by
  simp only [Lit.wf,Bool.and_eq_true,decide_eq_true_eq]
  exact ⟨by simpa [IntKind.min,IntKind.signed,IntKind.bits] using h1,by simpa [IntKind.max,IntKind.signed,IntKind.bits] using h2⟩
 have:keyOf Tryz.prog 3 (.int .i64 n)=some (.int .i64 n):=by
  unfold keyOf
  rw [u3]
  dsimp only
  unfold mapKey
  rw [u3]
  dsimp only
  rw [if_pos ⟨rfl,hwf⟩]
 unfold rd
 rw [hk,this]
 rfl
theorem keyS_some {v:V} {n:Bs} (h:keyS v=some n):v = .str n/\n.length<=1099511627776:=by
 unfold keyS at h
 split at h
 ·split at h
  ·rename_i hr;cases h;exact ⟨rfl,hr⟩
  ·cases h
 ·cases h
theorem vr_str {Z:Zs} {w:World} {j:J} {v:V} {u:Value} {n:Bs} (h:VR Z w j v u) (hv:v = .str n):u=encStr n:=by
 cases h<;>cases hv
 rfl
theorem u9:Tryz.prog.underlying 9=some .string:=by kernel_rfl
theorem ce9:Tryz.prog.cellsOf 9=1:=by kernel_rfl
theorem rd_keyS {x:MapEntry} {n:Bs} (hk:x.key=encStr n) (hn:n.length<=1099511627776):rd Tryz.prog 9 RU x=some (.string n,.nil):=by
 have:keyOf Tryz.prog 9 (encStr n)=some (.string n):=by
  unfold keyOf
  rw [u9]
  dsimp only
  unfold Go.mapKey
  rw [u9]
  dsimp only
  rw [if_pos]
  show n.toArray.size<=maxLen
  simp only [List.size_toArray,maxLen]
  omega
 unfold rd
 rw [hk,this]
 rfl
set_option maxHeartbeats 4000000 in
set_option maxRecDepth 100000 in
theorem sortedK_gen {fk:FuncId} (hgive:∀(w:World) (g rr sz:Nat) (D0:DataW Unit),g < w.heap.size->w.cell? ⟨g,0,none⟩=some (.map (some rr))->w.ownsMap Tryz.prog 3 RU rr sz D0->SeqGives Fence.wide 2 Tryz.prog fk #[.pointer (some ⟨g,0,none⟩)] encZ (fun ss=>ss.Perm (intKeys D0)) (Maps.size D0) w)
  (hent:∀args w,(callFunc fk args).run Tryz.prog w = .ok (.enter fk args) w):ImpOK Tryz.prog fun f' av mem=>if f'=50 then sortedKP [fk] av mem else none:=by
 intro f av mem r mem' h hok Z w j us sr ha
 dsimp only at h
 split at h
 rotate_left
 ·cases h
 rename_i e
 subst e
 unfold sortedKP at h
 split at h
 rotate_left
 ·cases h
 rename_i ff b
 split at h
 rotate_left
 ·cases h
 rename_i t m fz hb
 split at h
 rotate_left
 ·cases h
 rename_i e
 have e:ff=fk:=by simpa using e
 subst e
 simp only [obi] at h
 obtain ⟨es,hes,ks,hks,h⟩:=h
 split at h
 rotate_left
 ·cases h
 rename_i hlen
 cases h
 obtain ⟨hl,hv⟩:=ha
 match us,hl,hv with
 | [u1],hl,hv =>
 have v1:=hv 0 _ u1 rfl rfl
 cases v1 with
 | fn hcl hcv =>
 rename_i uc
 match uc,hcl,hcv with
 | [c1],hcl,hcv =>
 have vc:=hcv 0 _ c1 rfl rfl
 obtain ⟨g,us0,q1,q2,q3,q4,q5,_⟩:=sr.obj b _ hb
 cases vc with
 | ptr hj hs =>
 rw [q1] at hj
 cases hj
 simp only [Han.start,Option.some.injEq,Prod.mk.injEq] at hs
 obtain ⟨rfl,rfl⟩:=hs
 have hmc:m.cells=[m]:=by
  cases m<;>first | rfl | (simp [mapAt] at hes;done)
 rw [hmc] at q5
 obtain ⟨_,um,hum,hvm⟩:=q5 0 m rfl
 obtain ⟨rr,rfl,es',clock,h2,h3,h4,hz,hst⟩:=mapAt_sound sr hes hvm
 obtain ⟨k1,k2⟩:=mapO_get hks
 have hkey:∀(i:Nat) (x:MapEntry),es'[i]? = some x->∃n,ks[i]? = some n/\x.key = .int .i64 n/\-9223372036854775808<=n/\n<=9223372036854775807:=by
  intro i x hx
  have hi:i < es.length:=by have:=(Array.getElem?_eq_some_iff.1 hx).1;omega
  obtain ⟨n,e1,e2⟩:=k2 i _ (List.getElem?_eq_getElem hi)
  obtain ⟨e3,e4,e5⟩:=keyI_some e2
  obtain ⟨x',p1,_,_,p4,_⟩:=h4 i es[i].1 es[i].2 (List.getElem?_eq_getElem hi)
  rw [hx] at p1;cases p1
  rw [e3] at p4
  generalize x.key=kk at p4
  cases p4
  exact ⟨n,e1,rfl,e4,e5⟩
 have hrd:∀(i:Nat) (x:MapEntry),es'.toList[i]? = some x->∃n,ks[i]? = some n/\rg Tryz.prog 3 RU x=(.int .i64 n,.nil):=by
  intro i x hx
  obtain ⟨n,e1,e2,e3,e4⟩:=hkey i x (by simpa using hx)
  refine ⟨n,e1,?_⟩
  unfold rg
  rw [rd_key e2 e3 e4];rfl
 have hsz:es'.size=ks.length:=by omega
 have hown:w.ownsMap Tryz.prog 3 RU rr es'.size (.map ((es'.toList.map (rg Tryz.prog 3 RU)).foldr DataW.insert [])):=by
  refine ⟨es',clock,h2,⟨by simp only [maxLen];omega,hst,fun x hx=>?_⟩,Nat.le_refl _,rfl⟩
  obtain ⟨i,hi⟩:=List.getElem?_of_mem hx
  obtain ⟨n,_,e2,e3,e4⟩:=hkey i x (by simpa using hi)
  exact ⟨_,rd_key e2 e3 e4⟩
 have hints:(intKeys (DataW.map ((es'.toList.map (rg Tryz.prog 3 RU)).foldr DataW.insert []))).Perm ks:=by
  unfold intKeys
  dsimp only
  refine ((WideShapes.sorted_perm _).map _).trans (List.Perm.of_eq ?_)
  apply List.ext_getElem?
  intro i
  rw [List.map_map,List.getElem?_map]
  cases hx:es'.toList[i]? with
  | none =>
   rw [List.getElem?_eq_none_iff] at hx
   simp only [Array.length_toList] at hx
   rw [Option.map_none,List.getElem?_eq_none (by omega)]
  | some x =>
   obtain ⟨n,e1,e2⟩:=hrd i x hx
   rw [Option.map_some,e1]
   simp only [Function.comp,e2]
   rfl
 have hlt:g < w.heap.size:=(Array.getElem?_eq_some_iff.1 q2).1
 have hmsz:Maps.size (DataW.map ((es'.toList.map (rg Tryz.prog 3 RU)).foldr DataW.insert []))=ks.length:=by
  rw [Maps.size_eq,(WideShapes.sorted_perm _).length_eq,List.length_map,Array.length_toList,hsz]
 have hseq:SeqGives Fence.wide 2 Tryz.prog ff #[.pointer (some ⟨g,0,none⟩)] encZ (fun ss=>ss.Perm (intKeys (DataW.map ((es'.toList.map (rg Tryz.prog 3 RU)).foldr DataW.insert [])))) (Maps.size (DataW.map ((es'.toList.map (rg Tryz.prog 3 RU)).foldr DataW.insert []))) w :=
  hgive w g rr es'.size _ hlt (by simpa using hum) hown
 have cS:=AnyZI.sorted_in sortedIL Fence.wide 5 trivial trivial trivial trivial rfl (by omega) (sortsIL _) (enters_of Tryz.func70 (by kernel_rfl) rfl) ff #[.pointer (some ⟨g,0,none⟩)] trivial hent _ _ (by rw [hmsz];simp only [maxLen];omega) (by rw [hmsz];omega) w hseq
 have cS2:=(callsIn_wide (n:=5)).1 cS
 have ev:(⟨g,0+(0 * (Tryz.prog.cellsOf t)+0),none⟩:Addr)=⟨g,0,none⟩:=by simp
 have eu:#[Value.func (.func ff) #[] [Value.pointer (some ⟨g,0+(0 * (Tryz.prog.cellsOf t)+0),none⟩)].toArray]=#[Value.func (.func ff) #[] #[.pointer (some ⟨g,0,none⟩)]]:=by rw [ev]
 show Calls Tryz.prog 50 #[Value.func (.func ff) #[] [Value.pointer (some ⟨g,0+(0 * (Tryz.prog.cellsOf t)+0),none⟩)].toArray] w _
 rw [eu]
 refine Calls.mono cS2 ?_
 rintro e w' ⟨v,ss,rfl,hS,hrow,hnil,hbel⟩
 refine ⟨v,rfl,?_⟩
 have hss:ss.Perm ks:=hS.trans hints
 have hsort:(ss.mergeSort fun x y=>decide (x<=y))=srt ks:=mergeSort_of_perm_i hss
 have hsl:ss.length=(srt ks).length:=by rw [hss.length_eq];exact (List.mergeSort_perm ks _).length_eq.symm
 rw [hsort] at hrow
 have hks0:ks.length=(srt ks).length:=(List.mergeSort_perm ks _).length_eq.symm
 have hz':ZExt Z w Z w':=.of fun g o ho=>⟨ho,same_block (hbel.block g (sr.zin g o ho)) o⟩
 have s1:SR Tryz.prog Z w' j mem:=sr.world hz' (fun g hg=>⟨hbel.block g (Owned.lt sr hg),fun _=>Iff.rfl⟩) (fun g o ho=>Nat.lt_of_lt_of_le (sr.zin g o ho) hbel.size)
 have stp0:∀(h:Han),(∀g,h.blk=some g->w.heap.size<=g)->SR Tryz.prog Z w' (upd j mem.length h) (mem++[.row 3 ((srt ks).map iV) 0]) ->
   Stp Z w j mem Z w' (upd j mem.length h) (mem++[.row 3 ((srt ks).map iV) 0]):=fun h hh s2 =>
  ⟨hbel.os,hbel.tape,hbel.output,hbel.size,fun g hg _=>⟨hbel.block g hg,fun _=>Iff.rfl⟩,fun g hg ho=>by
   rcases Owned.add ho rfl with ho | ho
   ·exact ho
   ·have:=hh g ho;omega,hz',fun t hn=>⟨hn.add rfl,rfl⟩⟩
 rcases hrow.2 with ⟨rfl,hn0⟩ | ⟨gb,cap,cur,rfl,hgb,hcur,hncap,hcap,hcs,htake⟩
 ·have hnk:srt ks=[]:=List.length_eq_zero_iff.1 (by omega)
  have s2:=s1.add (h:=⟨.slice none 0 0,1⟩) (o:=.row 3 ((srt ks).map iV) 0) (by simp [Han.blk]) ⟨_,upd_same _ _ _,by
   refine ⟨ce3.symm,Nat.one_pos,Nat.zero_le _,?_,.inl ⟨rfl,by rw [hnk];rfl⟩⟩
   rw [hnk];simp⟩
  exact ⟨Z,_,.own (upd_same _ _ _) (by simp),s2,stp0 _ (by simp [Han.blk]) s2,sr.ext _⟩
 ·have hcell:∀k x,(srt ks)[k]? = some x->w'.cell? ⟨gb,0+k * 1+0,none⟩=some (.int .i64 x):=by
   intro k x hx
   have hkl:k < (srt ks).length:=(List.getElem?_eq_some_iff.1 hx).1
   have:cur.toList[k]? = some (.int .i64 x):=by
    have h1:(cur.toList.take (ss.length * 1))[k]? = some (.int .i64 x):=by rw [htake];simp [hx,encZ]
    rwa [List.getElem?_take_of_lt (by omega)] at h1
   simp only [World.cell?,hcur]
   simpa using this
  have s2:=s1.add (h:=⟨.slice (some ⟨gb,0,none⟩) ss.length cap,1⟩) (o:=.row 3 ((srt ks).map iV) 0) (fun g hg ho=>by
    have:gb=g:=by simpa [Han.blk] using hg
    have:=Owned.lt sr ho
    omega) ⟨_,upd_same _ _ _,by
   refine ⟨ce3.symm,Nat.one_pos,Nat.zero_le _,?_,.inr ⟨gb,0,cap,cur,?_,?_,hcap,hcur,by simp;omega,?_,?_,?_⟩⟩
   ·intro x hx
    obtain ⟨y,_,rfl⟩:=List.mem_map.1 hx;rfl
   ·rw [List.length_map,hsl]
   ·rw [List.length_map];omega
   ·intro k x hx i y hy
    rw [List.getElem?_map,omi] at hx
    obtain ⟨n,hn,rfl⟩:=hx
    match i,hy with
    | 0,hy =>
     cases hy
     exact ⟨rfl,_,hcell k n hn,.int⟩
    | i+1,hy=>simp [iV,V.cells] at hy
   ·intro o ho
    have:=sr.zin gb o ho
    omega
   ·intro o ho;simp at ho⟩
  exact ⟨Z,_,.own (upd_same _ _ _) (by simp),s2,stp0 _ (by simp [Han.blk];exact hgb) s2,sr.ext _⟩
set_option maxHeartbeats 4000000 in
set_option maxRecDepth 100000 in
theorem sortedS_gen {fk:FuncId} (hgive:∀(w:World) (g rr sz:Nat) (D0:DataW Unit),g < w.heap.size->w.cell? ⟨g,0,none⟩=some (.map (some rr))->w.ownsMap Tryz.prog 9 RU rr sz D0->SeqGives Fence.wide 2 Tryz.prog fk #[.pointer (some ⟨g,0,none⟩)] encStr (fun ss=>ss.Perm (strKeys D0)) (Maps.size D0) w)
  (hent:∀args w,(callFunc fk args).run Tryz.prog w = .ok (.enter fk args) w):ImpOK Tryz.prog fun f' av mem=>if f'=40 then sortedSP fk av mem else none:=by
 intro f av mem r mem' h hok Z w j us sr ha
 dsimp only at h
 split at h
 rotate_left
 ·cases h
 rename_i e
 subst e
 unfold sortedSP at h
 split at h
 rotate_left
 ·cases h
 rename_i ff b
 split at h
 rotate_left
 ·cases h
 rename_i t m fz hb
 split at h
 rotate_left
 ·cases h
 rename_i e
 subst e
 simp only [obi] at h
 obtain ⟨es,hes,ks,hks,h⟩:=h
 split at h
 rotate_left
 ·cases h
 rename_i hlen
 cases h
 obtain ⟨hl,hv⟩:=ha
 match us,hl,hv with
 | [u1],hl,hv =>
 have v1:=hv 0 _ u1 rfl rfl
 cases v1 with
 | fn hcl hcv =>
 rename_i uc
 match uc,hcl,hcv with
 | [c1],hcl,hcv =>
 have vc:=hcv 0 _ c1 rfl rfl
 obtain ⟨g,us0,q1,q2,q3,q4,q5,_⟩:=sr.obj b _ hb
 cases vc with
 | ptr hj hs =>
 rw [q1] at hj
 cases hj
 simp only [Han.start,Option.some.injEq,Prod.mk.injEq] at hs
 obtain ⟨rfl,rfl⟩:=hs
 have hmc:m.cells=[m]:=by
  cases m<;>first | rfl | (simp [mapAt] at hes;done)
 rw [hmc] at q5
 obtain ⟨_,um,hum,hvm⟩:=q5 0 m rfl
 obtain ⟨rr,rfl,es',clock,h2,h3,h4,hz,hst⟩:=mapAt_sound sr hes hvm
 obtain ⟨k1,k2⟩:=mapO_get hks
 have hkey:∀(i:Nat) (x:MapEntry),es'[i]? = some x->∃n,ks[i]? = some n/\x.key=encStr n/\n.length<=1099511627776:=by
  intro i x hx
  have hi:i < es.length:=by have:=(Array.getElem?_eq_some_iff.1 hx).1;omega
  obtain ⟨n,e1,e2⟩:=k2 i _ (List.getElem?_eq_getElem hi)
  obtain ⟨e3,e4⟩:=keyS_some e2
  obtain ⟨x',p1,_,_,p4,_⟩:=h4 i es[i].1 es[i].2 (List.getElem?_eq_getElem hi)
  rw [hx] at p1;cases p1
  exact ⟨n,e1,vr_str p4 e3,e4⟩
 have hrd:∀(i:Nat) (x:MapEntry),es'.toList[i]? = some x->∃n,ks[i]? = some n/\rg Tryz.prog 9 RU x=(.string n,.nil):=by
  intro i x hx
  obtain ⟨n,e1,e2,e3⟩:=hkey i x (by simpa using hx)
  refine ⟨n,e1,?_⟩
  unfold rg
  rw [rd_keyS e2 e3];rfl
 have hsz:es'.size=ks.length:=by omega
 have hown:w.ownsMap Tryz.prog 9 RU rr es'.size (.map ((es'.toList.map (rg Tryz.prog 9 RU)).foldr DataW.insert [])):=by
  refine ⟨es',clock,h2,⟨by simp only [maxLen];omega,hst,fun x hx=>?_⟩,Nat.le_refl _,rfl⟩
  obtain ⟨i,hi⟩:=List.getElem?_of_mem hx
  obtain ⟨n,_,e2,e3⟩:=hkey i x (by simpa using hi)
  exact ⟨_,rd_keyS e2 e3⟩
 have hints:(strKeys (DataW.map ((es'.toList.map (rg Tryz.prog 9 RU)).foldr DataW.insert []))).Perm ks:=by
  unfold strKeys
  dsimp only
  refine ((WideShapes.sorted_perm _).map _).trans (List.Perm.of_eq ?_)
  apply List.ext_getElem?
  intro i
  rw [List.map_map,List.getElem?_map]
  cases hx:es'.toList[i]? with
  | none =>
   rw [List.getElem?_eq_none_iff] at hx
   simp only [Array.length_toList] at hx
   rw [Option.map_none,List.getElem?_eq_none (by omega)]
  | some x =>
   obtain ⟨n,e1,e2⟩:=hrd i x hx
   rw [Option.map_some,e1]
   simp only [Function.comp,e2]
   rfl
 have hlt:g < w.heap.size:=(Array.getElem?_eq_some_iff.1 q2).1
 have hmsz:Maps.size (DataW.map ((es'.toList.map (rg Tryz.prog 9 RU)).foldr DataW.insert []))=ks.length:=by
  rw [Maps.size_eq,(WideShapes.sorted_perm _).length_eq,List.length_map,Array.length_toList,hsz]
 have hseq:SeqGives Fence.wide 2 Tryz.prog ff #[.pointer (some ⟨g,0,none⟩)] encStr (fun ss=>ss.Perm (strKeys (DataW.map ((es'.toList.map (rg Tryz.prog 9 RU)).foldr DataW.insert [])))) (Maps.size (DataW.map ((es'.toList.map (rg Tryz.prog 9 RU)).foldr DataW.insert []))) w :=
  hgive w g rr es'.size _ hlt (by simpa using hum) hown
 have cS:=AnyZ.sorted_in sortedSL Fence.wide 5 trivial trivial trivial trivial rfl (by omega) (sortsSL _) (enters_of Tryz.func65 (by kernel_rfl) rfl) ff #[.pointer (some ⟨g,0,none⟩)] trivial hent _ _ (by rw [hmsz];simp only [maxLen];omega) (by rw [hmsz];omega) w hseq
 have cS2:=(callsIn_wide (n:=5)).1 cS
 have ev:(⟨g,0+(0 * (Tryz.prog.cellsOf t)+0),none⟩:Addr)=⟨g,0,none⟩:=by simp
 have eu:#[Value.func (.func ff) #[] [Value.pointer (some ⟨g,0+(0 * (Tryz.prog.cellsOf t)+0),none⟩)].toArray]=#[Value.func (.func ff) #[] #[.pointer (some ⟨g,0,none⟩)]]:=by rw [ev]
 show Calls Tryz.prog 40 #[Value.func (.func ff) #[] [Value.pointer (some ⟨g,0+(0 * (Tryz.prog.cellsOf t)+0),none⟩)].toArray] w _
 rw [eu]
 refine Calls.mono cS2 ?_
 rintro e w' ⟨v,ss,rfl,hS,hrow,hnil,hbel⟩
 refine ⟨v,rfl,?_⟩
 have hss:ss.Perm ks:=hS.trans hints
 have hsort:(ss.mergeSort fun x y=>decide (x<=y))=srtS ks:=mergeSort_of_perm hss
 have hsl:ss.length=(srtS ks).length:=by rw [hss.length_eq];exact (List.mergeSort_perm ks _).length_eq.symm
 rw [hsort] at hrow
 have hks0:ks.length=(srtS ks).length:=(List.mergeSort_perm ks _).length_eq.symm
 have hz':ZExt Z w Z w':=.of fun g o ho=>⟨ho,same_block (hbel.block g (sr.zin g o ho)) o⟩
 have s1:SR Tryz.prog Z w' j mem:=sr.world hz' (fun g hg=>⟨hbel.block g (Owned.lt sr hg),fun _=>Iff.rfl⟩) (fun g o ho=>Nat.lt_of_lt_of_le (sr.zin g o ho) hbel.size)
 have stp0:∀(h:Han),(∀g,h.blk=some g->w.heap.size<=g)->SR Tryz.prog Z w' (upd j mem.length h) (mem++[.row 9 ((srtS ks).map sV) 0]) ->
   Stp Z w j mem Z w' (upd j mem.length h) (mem++[.row 9 ((srtS ks).map sV) 0]):=fun h hh s2 =>
  ⟨hbel.os,hbel.tape,hbel.output,hbel.size,fun g hg _=>⟨hbel.block g hg,fun _=>Iff.rfl⟩,fun g hg ho=>by
   rcases Owned.add ho rfl with ho | ho
   ·exact ho
   ·have:=hh g ho;omega,hz',fun t hn=>⟨hn.add rfl,rfl⟩⟩
 rcases hrow.2 with ⟨rfl,hn0⟩ | ⟨gb,cap,cur,rfl,hgb,hcur,hncap,hcap,hcs,htake⟩
 ·have hnk:srtS ks=[]:=List.length_eq_zero_iff.1 (by omega)
  have s2:=s1.add (h:=⟨.slice none 0 0,1⟩) (o:=.row 9 ((srtS ks).map sV) 0) (by simp [Han.blk]) ⟨_,upd_same _ _ _,by
   refine ⟨ce9.symm,Nat.one_pos,Nat.zero_le _,?_,.inl ⟨rfl,by rw [hnk];rfl⟩⟩
   rw [hnk];simp⟩
  exact ⟨Z,_,.own (upd_same _ _ _) (by simp),s2,stp0 _ (by simp [Han.blk]) s2,sr.ext _⟩
 ·have hcell:∀k x,(srtS ks)[k]? = some x->w'.cell? ⟨gb,0+k * 1+0,none⟩=some (encStr x):=by
   intro k x hx
   have hkl:k < (srtS ks).length:=(List.getElem?_eq_some_iff.1 hx).1
   have:cur.toList[k]? = some (encStr x):=by
    have h1:(cur.toList.take (ss.length * 1))[k]? = some (encStr x):=by rw [htake];simp [hx,encStr]
    rwa [List.getElem?_take_of_lt (by omega)] at h1
   simp only [World.cell?,hcur]
   simpa using this
  have s2:=s1.add (h:=⟨.slice (some ⟨gb,0,none⟩) ss.length cap,1⟩) (o:=.row 9 ((srtS ks).map sV) 0) (fun g hg ho=>by
    have:gb=g:=by simpa [Han.blk] using hg
    have:=Owned.lt sr ho
    omega) ⟨_,upd_same _ _ _,by
   refine ⟨ce9.symm,Nat.one_pos,Nat.zero_le _,?_,.inr ⟨gb,0,cap,cur,?_,?_,hcap,hcur,by simp;omega,?_,?_,?_⟩⟩
   ·intro x hx
    obtain ⟨y,_,rfl⟩:=List.mem_map.1 hx;rfl
   ·rw [List.length_map,hsl]
   ·rw [List.length_map];omega
   ·intro k x hx i y hy
    rw [List.getElem?_map,omi] at hx
    obtain ⟨n,hn,rfl⟩:=hx
    match i,hy with
    | 0,hy =>
     cases hy
     exact ⟨rfl,_,hcell k n hn,.str (s:=⟨n.toArray⟩)⟩
    | i+1,hy=>simp [sV,V.cells] at hy
   ·intro o ho
    have:=sr.zin gb o ho
    omega
   ·intro o ho;simp at ho⟩
  exact ⟨Z,_,.own (upd_same _ _ _) (by simp),s2,stp0 _ (by simp [Han.blk];exact hgb) s2,sr.ext _⟩
theorem sortedK_ok:ImpOK Tryz.prog fun f' av mem=>if f'=50 then sortedKP [74,71] av mem else none:=by
 have k1:=sortedK_gen (fk:=74) (fun w g rr sz D0 h1 h2 h3=>AnyZI.keys_gives (ρ:=keysIL_ren) { keysIL with } Fence.wide _ trivial rfl (by omega) g rr sz _ w h1 h2 h3) (enters_of Tryz.func74 (by kernel_rfl) rfl)
 have k2:=sortedK_gen (fk:=71) (fun w g rr sz D0 h1 h2 h3=>AnyZI.keys_gives (ρ:=keysBL_ren) { keysBL with } Fence.wide _ trivial rfl (by omega) g rr sz _ w h1 h2 h3) (enters_of Tryz.func71 (by kernel_rfl) rfl)
 intro f av mem r mem' h hok Z w j us sr ha
 have h0:=h
 dsimp only at h
 split at h
 rotate_left
 ·cases h
 rename_i e
 subst e
 have key:∀fk,(fk=74∨fk=71)->sortedKP [fk] av mem=some (r,mem')->Calls Tryz.prog 50 us.toArray w fun e w1=>∃u,e = .returned u/\PostOf Tryz.prog Z w j mem r mem' u w1:=by
  rintro fk (rfl | rfl) hh
  ·exact k1 _ av mem r mem' (by dsimp only;rw [if_pos rfl];exact hh) hok Z w j us sr ha
  ·exact k2 _ av mem r mem' (by dsimp only;rw [if_pos rfl];exact hh) hok Z w j us sr ha
 unfold sortedKP at h
 split at h
 rotate_left
 ·cases h
 rename_i ff b
 split at h
 rotate_left
 ·cases h
 rename_i t m fz hb
 split at h
 rotate_left
 ·cases h
 rename_i hc
 have hc:ff=74∨ff=71:=by simpa using hc
 refine key ff hc ?_
 unfold sortedKP
 simp only [hb]
 rw [if_pos (by simp)]
 exact h
theorem sortedS_ok:ImpOK Tryz.prog fun f' av mem=>if f'=40 then sortedSP 66 av mem else none :=
 sortedS_gen (fun w g rr sz D0 h1 h2 h3=>AnyZ.keys_gives (ρ:=keysSL_ren) { keysSL with } Fence.wide _ trivial rfl (by omega) g rr sz _ w h1 h2 h3) (enters_of Tryz.func66 (by kernel_rfl) rfl)
open Go Go.Lite
theorem argC0 {P:Program} {w:World} {tx e:TypeId} {A:Option Addr} {c sz:Nat} (ht:P.underlying tx=some (.slice e)):ArgC P w tx (.slice A 0 c) sz 0 []:=by
 refine ⟨.inr ⟨e,ht⟩,fun w2=>rfl,by simp,fun n w2 hn _=>?_,by simp⟩
 have:n=0:=by omega
 subst this
 cases A<;>simp [Builtin.firstCells,loadCells,loadCellsFrom]
set_option maxHeartbeats 4000000 in
set_option maxRecDepth 100000 in
theorem insW:InsW Tryz.prog 57 75 64 70 3 .i64:=by
 have hce:Tryz.prog.cellsOf 70=2:=by kernel_rfl
 have mixed:Tryz.prog.follows .mixedOrders=true:=by kernel_rfl
 have t22:Tryz.prog.underlying 64=some (.slice 70):=by kernel_rfl
 refine ⟨t22,by kernel_rfl,by kernel_rfl,?_,?_,?_,?_⟩
 ·intro w g g2 o m c2 lb cb us us2 hne hg hg2 hus
  rw [run_callFunc_extern (P:=Tryz.prog) (f:=75) (fn:=Tryz.f75) (by kernel_rfl) (by kernel_rfl) (by kernel_rfl) (by kernel_rfl) (e:=Extern.SlicesOverlaps.overlaps #[64,64] #[4]) (by kernel_rfl),
   Lib.run_overlaps_apart w 64 4 70 t22 2 (fun w=>by kernel_rfl) ⟨g2,0,none⟩ ⟨g,o,none⟩ m c2 lb cb hne 70 70 us2.size us.size (by simp [World.shape?,hg2]) (by simp [World.shape?,hg]) (by omega) (by simp [World.frozen?,hg2]) (by simp [World.frozen?,hg2])]
  rfl
 ·intro g n c i g2 m c2 w w2 w3 k1 k2 hi hm hroom hc63 hov hcp1 hcp2
  rw [hce] at hcp1 hcp2
  have hz1:¬((m:Int)=0):=by omega
  have hz2:¬((i:Int)=(n:Int)):=by omega
  have hw1:IntKind.i64.wrap ((i:Int)+(m:Int))=(i:Int)+(m:Int):=by rw [IntKind.wrap_i64];omega
  have hw2:IntKind.i64.wrap ((n:Int)+(m:Int))=(n:Int)+(m:Int):=by rw [IntKind.wrap_i64];omega
  have hb1:(0:Int)<=(i:Int)+(m:Int):=by omega
  have hin:i<=n:=by omega
  have htn:((i:Int)+(m:Int)).toNat=i+m:=by omega
  have hb2:¬(c=i+m):=by omega
  have hb3:(i:Int)<=(n:Int)+(m:Int):=by omega
  have hb4:¬(c=i):=by omega
  go_enter Tryz.func57,Tryz.ntmps57
  go_wp2_with (simp only [hov])
  go_region_law_o (refine step_copy_runI rfl _ _ 64 64 rfl _ _ (by simp [Act.eval,Act.put]) (by simp [Act.eval,Act.put]) (hcp1 _ _ _) ?_)
  go_wp2_with (at_builtin;refine wpList_copy_runI _ rfl _ _ 64 64 rfl _ _ rfl rfl (hcp2 _ _) ?_)
  go_ret
  exact ⟨rfl,rfl⟩
 ·intro A A2 n c m c2 w w1 r hm hnc hc63 hA0 hA1 hr
  have hz1:¬((m:Int)=0):=by omega
  cases A with
  | none =>
   obtain ⟨rfl,rfl⟩:=hA0 rfl
   go_enter Tryz.func57,Tryz.ntmps57
   go_wp2_with (at_builtin;refine Lib.wpList_append_run _ rfl _ _ _ _ rfl _ _ rfl rfl _ _ (hr _) ?_)
   all_goals (go_ret;exact ⟨rfl,rfl⟩)
  | some a =>
   obtain ⟨g,rfl⟩:=hA1 a rfl
   go_enter Tryz.func57,Tryz.ntmps57
   go_wp2_with (at_builtin;refine Lib.wpList_append_run _ rfl _ _ _ _ rfl _ _ rfl rfl _ _ (hr _) ?_)
   all_goals (go_ret;exact ⟨rfl,rfl⟩)
 ·intro g n c i g2 m c2 N G w w1 w2 w3 k1 k2 hi hm hnc hgr hlen hGn hG63 hap hcp1 hcp2
  rw [hce] at hcp1 hcp2
  have hz1:¬((m:Int)=0):=by omega
  have hz2:¬((i:Int)=(n:Int)):=by omega
  have hz3:(c:Int) < (n:Int)+(m:Int):=by omega
  have hw1:IntKind.i64.wrap ((i:Int)+(m:Int))=(i:Int)+(m:Int):=by rw [IntKind.wrap_i64];omega
  have hw2:IntKind.i64.wrap ((n:Int)+(m:Int))=(n:Int)+(m:Int):=by rw [IntKind.wrap_i64];omega
  have hw3:IntKind.i64.wrap ((n:Int)+(m:Int) - (i:Int))=(n:Int)+(m:Int) - (i:Int):=by rw [IntKind.wrap_i64];omega
  have hb1:(0:Int)<=(i:Int)+(m:Int):=by omega
  have hin:i<=n:=by omega
  have htn:((i:Int)+(m:Int)).toNat=i+m:=by omega
  have hGi:¬(G=i):=by omega
  have hGim:¬(G=i+m):=by omega
  have hci:¬(c=i):=by omega
  have hb3:(i:Int)<=(n:Int):=by omega
  go_enter Tryz.func57,Tryz.ntmps57
  go_wp2_with (first
   |(at_builtin;refine Lib.wpList_append_run _ rfl _ _ _ _ rfl _ _ rfl rfl _ _ (hap _) ?_)
   |(at_builtin;refine wpList_copy_runI _ rfl _ _ 64 64 rfl _ _ rfl rfl (hcp1 _ _) ?_))
  go_region_law_o (refine step_copy_runI rfl _ _ 64 64 rfl (.slice (some ⟨N,(i+m) * 2,none⟩) (n+m - (i+m)) (G - (i+m))) (.slice (some ⟨g,i * 2,none⟩) (n - i) (c - i)) (by simp [Act.eval,Act.put]) (by simp [Act.eval,Act.put]) (hcp2 3 (G - (i+m)) (c - i)) ?_)
  go_wp2
  go_ret
  exact ⟨rfl,rfl⟩
set_option maxHeartbeats 4000000 in
set_option maxRecDepth 100000 in
theorem cloneW:CloneW Tryz.prog 43 64 70:=by
 have hce:Tryz.prog.cellsOf 70=2:=by kernel_rfl
 have mixed:Tryz.prog.follows .mixedOrders=true:=by kernel_rfl
 have t22:Tryz.prog.underlying 64=some (.slice 70):=by kernel_rfl
 have q22:∀(w:World) (a:Option Addr) (n c n' c':Nat),(binOp .eql 64 (.slice a n c) (.slice none n' c')).run Tryz.prog w = .ok (.bool a.isNone) w:=fun w a n c n' c'=>Lib.run_eql_slice_nil w _ _ a n c n' c' t22
 refine ⟨t22,by kernel_rfl,?_,?_,?_⟩
 ·intro n c w
  go_enter Tryz.func43,Tryz.ntmps43
  go_wp2
  go_ret
  exact ⟨rfl,rfl⟩
 ·intro g b n c w w2 r hr
  go_enter Tryz.func43,Tryz.ntmps43
  go_wp2_with (at_builtin;refine Lib.wpList_append_run _ rfl _ _ _ _ rfl _ _ rfl rfl _ _ (hr _) ?_)
  go_ret
  exact ⟨rfl,rfl⟩
 ·intro a c w
  obtain ⟨ab,ao,asp⟩:=a
  have hr:∀(ty:TypeId) (w:World),(Builtin.append_ #[64,64] ty #[.slice (some ⟨w.heap.size,0,none⟩) 0 0,.slice (some ⟨ab,ao,asp⟩) 0 c]).run Tryz.prog (w.alloc (.cells #[] 70)) = .ok (.slice (some ⟨w.heap.size,0,none⟩) 0 0) (w.alloc (.cells #[] 70)):=fun ty w=>run_append_no t22 (by rw [hce];decide) (argC0 t22) (Nat.le_refl _)
  go_enter Tryz.func43,Tryz.ntmps43
  go_wp2_with (at_builtin;refine Lib.wpList_append_run _ rfl _ _ _ _ rfl _ _ rfl rfl _ _ (hr _ _) ?_)
  go_ret
  exact ⟨rfl,rfl⟩
theorem ce2:Tryz.prog.cellsOf 70=2:=by kernel_rfl
theorem lipA_ok:∀f g,lipA f=some g->ImpOK Tryz.prog fun f' av mem=>if f'=f then g av mem else none:=by
 intro f g h
 unfold lipA at h
 split at h
 ·rename_i e
  subst e
  cases h
  have:=ins_ok insW
  rw [ce2] at this
  exact this
 ·split at h
  ·rename_i e
   subst e
   cases h
   exact sortedK_ok
  ·split at h
   ·rename_i e
    subst e
    cases h
    exact sortedS_ok
   ·cases h
theorem clone_pp:PureOK Tryz.prog fun f' av=>if f'=43 then cloneP 70 2 av else none:=by
 have:=clone_ok cloneW
 rw [ce2] at this
 exact this
theorem hokA:CfgOK cfgA:=by
 refine ⟨by kernel_rfl,?_,lipA_ok,fun _ _ _ _ _ h=>nomatch h⟩
 intro f g h
 have h:lppA f=some g:=h
 unfold lppA at h
 split at h
 ·rename_i e
  subst e
  cases h
  exact clone_pp
 ·cases h
theorem walked {f:FuncId} {g:List V->Option V} (h:∀av v,g av=some v->pcW cfgA f av=some v):PureOK Tryz.prog fun f' av=>if f'=f then g av else none:=by
 intro f' av r hr
 dsimp only at hr
 split at hr
 ·rename_i e
  subst e
  obtain ⟨n,hn⟩:=pcW_ex (h av r hr)
  exact (callN_sound hokA n).1 f' av r hn
 ·cases hr
theorem two_some {g:Int->Int->V} {av:List V} {v:V} (h:two g av=some v):∃a b,av=[.int .i64 a,.int .i64 b]/\v=g a b:=by
 unfold two at h
 split at h
 ·cases h;exact ⟨_,_,rfl,rfl⟩
 ·cases h
theorem hokB:CfgOK cfgB:=by
 refine ⟨by kernel_rfl,?_,?_,fun _ _ _ _ _ h=>nomatch h⟩
 ·intro f g h
  have h:lppB f=some g:=h
  unfold lppB at h
  split at h
  ·rename_i e;subst e;cases h;exact clone_pp
  split at h
  ·rename_i e;subst e;cases h
   exact walked fun av v hv=>by obtain ⟨a,b,rfl,rfl⟩:=two_some hv;exact fits_ok a b
  split at h
  ·rename_i e;subst e;cases h
   exact walked fun av v hv=>by obtain ⟨a,b,rfl,rfl⟩:=two_some hv;exact covers_ok a b
  split at h
  ·rename_i e;subst e;cases h
   exact walked fun av v hv=>by obtain ⟨a,b,rfl,rfl⟩:=two_some hv;exact join_ok a b
  split at h
  ·rename_i e;subst e;cases h
   exact walked fun av v hv=>by obtain ⟨a,b,rfl,rfl⟩:=two_some hv;exact rfits_ok a b
  split at h
  ·rename_i e;subst e;cases h
   exact walked fun av v hv=>by obtain ⟨a,b,rfl,rfl⟩:=two_some hv;exact rcovers_ok a b
  ·cases h
 ·intro f g h
  have h:lipB f=some g:=h
  unfold lipB at h
  split at h
  ·rename_i e;subst e;cases h
   exact can_ok hokA
  split at h
  ·rename_i e;subst e;cases h
   exact D.behind_ok hokA
  ·exact lipA_ok f g h
end Go.Proofs.YtpkeiaeaonmacaaGreat
