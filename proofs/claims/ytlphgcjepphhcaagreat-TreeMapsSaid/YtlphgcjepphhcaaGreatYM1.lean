/-
  TreeMaps: whatever is put into a tree, deleted, got and scanned, on however small a shelf, the law returns true and leaves its arguments as they were. No condition.
-/
import Derived.Test.YtlphgcjepphhcaaGreatY7
import Derived.Test.YtlphgcjepphhcaaGreatRows
import Derived.WalkKit
import Derived.ProofKit
import Derived.OpenShut
import Derived.KernelRfl
import Derived.Handed
import Derived.JoinedOf
import Derived.JoinedCond
open List renaming replicate->bH,any_eq_true->zx,length_filter_lt_length_iff_exists->Ro,any_eq_false->mY,take_append_drop->iz,filter_append->m7,nil_append->dp,mem_cons->bO,pairwise_cons->fV,length_nil->dR,length_drop->eO,take_add_one->zF,mem_append->br,mem_singleton->eV,mem_of_getElem?->cH,eq_nil_of_length_eq_zero->m4,mem_map->ef,not_mem_nil->zE
open Nat renaming le_trans->j4
open Bool renaming not_true->bv,true_and->du
open Int renaming toNat_of_nonneg->I4,tdiv_eq_ediv_of_nonneg->Rh
namespace Go.Proofs.YtlphgcjepphhcaaGreat
open Go Go.Lite
set_option maxRecDepth 100000
set_option linter.unusedVariables false
def Rz (a:List V) (b c:Int) (d:List (V × V)) (e:List V): S:=⟨(JU 4)++[V.bool false,V.sl a,V.ptr 0 0 0,V.junk,V.nilP,V.int .i64 b,V.own 1,V.int .i64 0]++(JU 195),[O.box 140 (V.agg [V.ptr 2 0 0,V.mp 3]) false,O.row 41 [] 0,O.box 192 (V.agg [V.tail 4 0,V.int .i64 c]) true,O.map d,O.row 5 e 0]⟩
def xd (a:List V) (b c d:Int) (e:List (V × V)) (f:List V): S:=⟨(JU 4)++[V.bool false,V.sl a,V.ptr 0 0 0,V.junk,V.ptr 1 0 0,V.int .i64 0,V.own 2,V.int .i64 b]++(JU 195),[O.box 140 (V.agg [V.ptr 3 0 0,V.mp 4]) false,O.box 128 (V.agg [V.ptr 0 0 0,V.int .i64 c]) false,O.row 41 [] 0,O.box 192 (V.agg [V.tail 5 0,V.int .i64 d]) true,O.map e,O.row 5 f 0]⟩
def zR (a b:List V) (c:Int) (d e:Bool) (f g h:Int) (i j:List UInt8) (k l:Int) (m:List (V × V)) (n:List V): S:=⟨(JU 4)++[V.bool false,V.sl a,V.ptr 0 0 0,V.junk,V.ptr 1 0 0,V.int .i64 0,V.sl b,V.int .i64 c,V.ptr 2 0 0,V.bool d,V.bool e,V.int .i64 f]++(JU 191),[O.box 140 (V.agg [V.ptr 3 0 0,V.mp 4]) false,O.box 128 (V.agg [V.ptr 0 0 0,V.int .i64 g]) false,O.box 38 (V.agg [V.int .i64 h,V.str i,V.str j,V.int .i64 k]) false,O.box 192 (V.agg [V.tail 5 0,V.int .i64 l]) true,O.map m,O.row 5 n 0]⟩
def Jr (a:List V) (b:Int) (c d:Bool) (e f g:Int) (h i:List UInt8) (j k:Int) (l:List (V × V)) (m:List V): S:=⟨(JU 4)++[V.bool false,V.sl a,V.ptr 0 0 0,V.junk,V.ptr 1 0 0,V.int .i64 0,V.own 2,V.int .i64 b,V.ptr 3 0 0,V.bool c,V.bool d,V.int .i64 e]++(JU 191),[O.box 140 (V.agg [V.ptr 4 0 0,V.mp 5]) false,O.box 128 (V.agg [V.ptr 0 0 0,V.int .i64 f]) false,O.row 41 [] 0,O.box 38 (V.agg [V.int .i64 g,V.str h,V.str i,V.int .i64 j]) false,O.box 192 (V.agg [V.tail 6 0,V.int .i64 k]) true,O.map l,O.row 5 m 0]⟩
def il (a b:List V) (c d e:Int) (f:List (V × V)) (g:List V): S:=⟨(JU 4)++[V.bool false,V.sl a,V.ptr 0 0 0,V.junk,V.ptr 1 0 0,V.int .i64 0,V.sl b,V.int .i64 c]++(JU 195),(wm d e f g)⟩
def jF (a:List V) (b c d:Int) (e:List (V × V)) (f:List V): S:=⟨(JU 4)++[V.bool false,V.sl a,V.ptr 0 0 0,V.junk,V.ptr 1 0 0,V.int .i64 0,V.own 2,V.int .i64 b]++(JU 195),[O.box 140 (V.agg [V.ptr 3 0 0,V.mp 4]) false,O.box 128 (V.agg [V.ptr 0 0 0,V.int .i64 c]) false,O.row 41 [] 0,O.box 192 (V.agg [V.tail 5 0,V.int .i64 d]) true,O.map e,O.row 5 f 0]⟩
def Dz (a:List V) (b c d:Int) (e f:List UInt8) (g h:Int) (i:List (V × V)) (j:List V): S:=⟨(JU 4)++[V.bool false,V.sl a,V.ptr 0 0 0,V.junk,V.ptr 1 0 0,V.int .i64 0,V.own 2,V.int .i64 b,V.ptr 3 0 0]++(JU 6)++[V.int .i64 0,V.own 4]++(JU 186),[O.box 140 (V.agg [V.ptr 5 0 0,V.mp 6]) false,O.box 128 (V.agg [V.ptr 0 0 0,V.int .i64 c]) false,O.row 41 [] 0,O.box 38 (V.agg [V.int .i64 d,V.str e,V.str f,V.int .i64 g]) false,O.row 41 [] 0,O.box 192 (V.agg [V.tail 7 0,V.int .i64 h]) true,O.map i,O.row 5 j 0]⟩
def zQ (a b:List V) (c d e:Int) (f:List (V × V)) (g:List V): S:=⟨(JU 4)++[V.bool false,V.sl a,V.ptr 0 0 0,V.junk,V.ptr 1 0 0,V.int .i64 0,V.sl b,V.int .i64 c]++(JU 195),(wm d e f g)⟩
def DC (a:List V) (b:Int) (c:Nat) (d e:Int) (f g:List UInt8) (h i:Int) (j:List (V × V)) (k:List V): S:=⟨(JU 4)++[V.bool false,V.sl a,V.ptr 0 0 0,V.junk,V.ptr 1 0 0,V.int .i64 0,V.own 2,V.int .i64 b,V.ptr 3 0 0]++(JU 7)++[V.win 2 0 c]++(JU 186),[O.box 140 (V.agg [V.ptr 4 0 0,V.mp 5]) false,O.box 128 (V.agg [V.ptr 0 0 0,V.int .i64 d]) false,O.row 41 [] 0,O.box 38 (V.agg [V.int .i64 e,V.str f,V.str g,V.int .i64 h]) false,O.box 192 (V.agg [V.tail 6 0,V.int .i64 i]) true,O.map j,O.row 5 k 0]⟩
def DD (a:List V) (b c d:Int) (e f:List UInt8) (g h:Int) (i:List (V × V)) (j:List V): S:=⟨(JU 4)++[V.bool false,V.sl a,V.ptr 0 0 0,V.junk,V.ptr 1 0 0,V.int .i64 0,V.own 2,V.int .i64 b,V.ptr 3 0 0]++(JU 7)++[V.own 4]++(JU 186),[O.box 140 (V.agg [V.ptr 5 0 0,V.mp 6]) false,O.box 128 (V.agg [V.ptr 0 0 0,V.int .i64 c]) false,O.row 41 [] 0,O.box 38 (V.agg [V.int .i64 d,V.str e,V.str f,V.int .i64 g]) false,O.row 41 [] 0,O.box 192 (V.agg [V.tail 7 0,V.int .i64 h]) true,O.map i,O.row 5 j 0]⟩
def zS (a b:List V) (c d e f:Int) (g h:List UInt8) (i j:Int) (k:List (V × V)) (l:List V): S:=⟨(JU 4)++[V.bool false,V.sl a,V.ptr 0 0 0,V.junk,V.ptr 1 0 0,V.int .i64 0,V.sl b,V.int .i64 c,V.ptr 2 0 0]++(JU 6)++[V.int .i64 d,V.own 3]++(JU 186),[O.box 140 (V.agg [V.ptr 4 0 0,V.mp 5]) false,O.box 128 (V.agg [V.ptr 0 0 0,V.int .i64 e]) false,O.box 38 (V.agg [V.int .i64 f,V.str g,V.str h,V.int .i64 i]) false,O.row 41 [] 0,O.box 192 (V.agg [V.tail 6 0,V.int .i64 j]) true,O.map k,O.row 5 l 0]⟩
def DF (a b:List V) (c:Int) (d:List V) (e f:Int) (g h:List UInt8) (i j:Int) (k:List (V × V)) (l:List V): S:=⟨(JU 4)++[V.bool false,V.sl a,V.ptr 0 0 0,V.junk,V.ptr 1 0 0,V.int .i64 0,V.sl b,V.int .i64 c,V.ptr 2 0 0]++(JU 7)++[V.sl d]++(JU 186),[O.box 140 (V.agg [V.ptr 3 0 0,V.mp 4]) false,O.box 128 (V.agg [V.ptr 0 0 0,V.int .i64 e]) false,O.box 38 (V.agg [V.int .i64 f,V.str g,V.str h,V.int .i64 i]) false,O.box 192 (V.agg [V.tail 5 0,V.int .i64 j]) true,O.map k,O.row 5 l 0]⟩
def DG (a b:List V) (c d e:Int) (f g:List UInt8) (h i:Int) (j:List (V × V)) (k:List V): S:=⟨(JU 4)++[V.bool false,V.sl a,V.ptr 0 0 0,V.junk,V.ptr 1 0 0,V.int .i64 0,V.sl b,V.int .i64 c,V.ptr 2 0 0]++(JU 7)++[V.own 3]++(JU 186),[O.box 140 (V.agg [V.ptr 4 0 0,V.mp 5]) false,O.box 128 (V.agg [V.ptr 0 0 0,V.int .i64 d]) false,O.box 38 (V.agg [V.int .i64 e,V.str f,V.str g,V.int .i64 h]) false,O.row 41 [] 0,O.box 192 (V.agg [V.tail 6 0,V.int .i64 i]) true,O.map j,O.row 5 k 0]⟩
noncomputable def KF (b:Int) (e:List V): R :=
 aE aA 14 [V.sl e,V.int .i64 150] fun f =>
 kF 38 f fun d =>
 cond (decide (W .i64 (1+(W .i64 (((BitVec.ofInt (IntKind.bits .i64) b &&& BitVec.ofInt (IntKind.bits .i64) 63).toNat:Int)))) < 1))
 (some (.done (V.bool false)))
 (cond (decide (W .i64 (1+(W .i64 (((BitVec.ofInt (IntKind.bits .i64) b &&& BitVec.ofInt (IntKind.bits .i64) 63).toNat:Int)))) > 1024))
 (some (.done (V.bool false)))
 (gd (decide (0<=W .i64 (((W .i64 ((W .i64 ((W .i64 (1+(W .i64 (((BitVec.ofInt (IntKind.bits .i64) b &&& BitVec.ofInt (IntKind.bits .i64) 63).toNat:Int)))))+8)) - 1)).tdiv 8)))) <|
  gd (decide (W .i64 (((W .i64 ((W .i64 ((W .i64 (1+(W .i64 (((BitVec.ofInt (IntKind.bits .i64) b &&& BitVec.ofInt (IntKind.bits .i64) 63).toNat:Int)))))+8)) - 1)).tdiv 8))<=W .i64 (((W .i64 ((W .i64 ((W .i64 (1+(W .i64 (((BitVec.ofInt (IntKind.bits .i64) b &&& BitVec.ofInt (IntKind.bits .i64) 63).toNat:Int)))))+8)) - 1)).tdiv 8)))) <|
  gd (decide ((W .i64 (((W .i64 ((W .i64 ((W .i64 (1+(W .i64 (((BitVec.ofInt (IntKind.bits .i64) b &&& BitVec.ofInt (IntKind.bits .i64) 63).toNat:Int)))))+8)) - 1)).tdiv 8))).toNat<=16777216)) <|
  aT aA aF jO 84 [V.ptr 0 0 0] [O.box 140 (V.agg [V.ptr 1 0 0,V.mp 2]) false,O.box 192 (V.agg [V.tail 3 0,V.int .i64 (W .i64 (1+(W .i64 (((BitVec.ofInt (IntKind.bits .i64) b &&& BitVec.ofInt (IntKind.bits .i64) 63).toNat:Int)))))]) false,O.map [],O.row 5 (bH ((W .i64 (((W .i64 ((W .i64 ((W .i64 (1+(W .i64 (((BitVec.ofInt (IntKind.bits .i64) b &&& BitVec.ofInt (IntKind.bits .i64) 63).toNat:Int)))))+8)) - 1)).tdiv 8))).toNat) (V.int .u8 0)) 0] fun a =>
  cond (a.2.1 != (0:Int))
 (some (.head 0 (Rz d a.2.1 a.2.2.1 a.2.2.2.1 a.2.2.2.2)))
 (aT aA aF ej 78 [V.ptr 0 0 0,V.int .i64 a.1,V.ifc 120 (V.agg [V.sl [],V.str [],V.int .i64 0])] (tm a.1 a.2.2.1 a.2.2.2.1 a.2.2.2.2) fun c =>
  some (.head 0 (xd d 0 c.1 c.2.1 c.2.2.1 c.2.2.2)))))
theorem TI (a b): Ep 10 [V.int .i64 a,V.sl b] (KF a b):=ep (by kernel_rfl) (by kernel_rfl)
noncomputable def t6 (d:List V) (c f g:Int) (h:List (V × V)) (i:List V): R :=
 cond (decide (c < (d.length:Int)))
 (gd (decide (0<=c)) <|
  aS d c.toNat fun n =>
  k6 n fun e b j l =>
  aE aA 41 [V.sl [],V.str b] fun o =>
  kF 41 o fun m =>
  cond (e==(0:Int))
 (aT aA aF iG 32 [V.ptr 0 0 0,V.str b,V.str j] (tm f g h i) fun a =>
  cond (a.2.1==(0:Int))
 (aE aA 38 [V.sl [],V.agg [V.str b,V.str j]] fun p =>
  kF 41 p fun q =>
  some (.head 1 (zR d q c (decide ((m.length:Int) < 0)) a.1 a.2.1 a.2.2.1 e b j l a.2.2.2.1 a.2.2.2.2.1 a.2.2.2.2.2)))
 (some (.head 1 (Jr d c (decide ((m.length:Int) < 0)) a.1 a.2.1 a.2.2.1 e b j l a.2.2.2.1 a.2.2.2.2.1 a.2.2.2.2.2))))
 (cond (e==(1:Int))
 (aT aA aF iZ 33 [V.ptr 0 0 0,V.str b] (tm f g h i) fun k =>
  cond (!((k.1==(0:Int))==(decide ((m.length:Int) < 0))))
 (some (.done (V.bool false)))
 (aE aA 41 [V.sl [],V.str b] fun r =>
  kF 41 r fun s =>
  some (.head 4 (il d s c k.2.1 k.2.2.1 k.2.2.2.1 k.2.2.2.2))))
 (cond (e==(2:Int))
 (cf aA aF iI 39 [V.ptr 0 0 0,V.str b] (tm f g h i) fun t =>
  bu [O.box 140 (V.agg [V.ptr 3 0 0,V.mp 4]) false,O.box 128 (V.agg [V.ptr 0 0 0,V.int .i64 f]) false,O.row 41 [] 0,O.box 192 (V.agg [V.tail 5 0,V.int .i64 g]) true,O.map h,O.row 5 i 0,O.box 38 (V.agg [V.int .i64 e,V.str b,V.str j,V.int .i64 l]) false] <|
  cond (!((t.2==(0:Int))==(decide ((m.length:Int) < 0))))
 (some (.done (V.bool false)))
 (some (.head 4 (jF d c f g h i))))
 (some (.head 2 (Dz d c f e b j l g h i))))))
 (aE aA 45 [] fun u =>
  kB u fun v =>
  some (.done (V.bool v)))
theorem wj (a b c d e f): Rd false 0 10 0 (xd a b c d e f) (t6 a b c d e f):=rd (by kernel_rfl)
noncomputable def Hm (b c:List V) (d:Int) (l i:Bool) (a e u:Int) (j k:List UInt8) (v f:Int) (g:List (V × V)) (h:List V): R :=
 cond (a==(0:Int))
 (cond (i==l)
 (some (.done (V.bool false)))
 (aE aA 47 [V.str j] fun m =>
  kB m fun n =>
  cond (!n)
 (cond (!((a==(1:Int))==true))
 (some (.done (V.bool false)))
 (cond (a != (0:Int))
 (cond i
 (some (.done (V.bool false)))
 (some (.head 4 (il b c d e f g h))))
 (some (.head 4 (il b c d e f g h)))))
 (aE aA 48 [V.str k] fun o =>
  kB o fun p =>
  cond (!((a==(1:Int))==(!p)))
 (some (.done (V.bool false)))
 (cond (a != (0:Int))
 (cond i
 (some (.done (V.bool false)))
 (some (.head 4 (il b c d e f g h))))
 (some (.head 4 (il b c d e f g h)))))))
 (aE aA 47 [V.str j] fun q =>
  kB q fun r =>
  cond (!r)
 (cond (!((a==(1:Int))==true))
 (some (.done (V.bool false)))
 (cond (a != (0:Int))
 (cond i
 (some (.done (V.bool false)))
 (some (.head 4 (il b c d e f g h))))
 (some (.head 4 (il b c d e f g h)))))
 (aE aA 48 [V.str k] fun s =>
  kB s fun t =>
  cond (!((a==(1:Int))==(!t)))
 (some (.done (V.bool false)))
 (cond (a != (0:Int))
 (cond i
 (some (.done (V.bool false)))
 (some (.head 4 (il b c d e f g h))))
 (some (.head 4 (il b c d e f g h))))))
theorem O3 (a b c d e f g h i j k l m n): Rd false 0 10 1 (zR a b c d e f g h i j k l m n) (Hm a b c d e f g h i j k l m n):=rd (by kernel_rfl)
noncomputable def Hn (b:List V) (c:Int) (k h:Bool) (a d t:Int) (i j:List UInt8) (u e:Int) (f:List (V × V)) (g:List V): R :=
 cond (a==(0:Int))
 (cond (h==k)
 (some (.done (V.bool false)))
 (aE aA 47 [V.str i] fun l =>
  kB l fun m =>
  cond (!m)
 (cond (!((a==(1:Int))==true))
 (some (.done (V.bool false)))
 (cond (a != (0:Int))
 (cond h
 (some (.done (V.bool false)))
 (some (.head 4 (jF b c d e f g))))
 (some (.head 4 (jF b c d e f g)))))
 (aE aA 48 [V.str j] fun n =>
  kB n fun o =>
  cond (!((a==(1:Int))==(!o)))
 (some (.done (V.bool false)))
 (cond (a != (0:Int))
 (cond h
 (some (.done (V.bool false)))
 (some (.head 4 (jF b c d e f g))))
 (some (.head 4 (jF b c d e f g)))))))
 (aE aA 47 [V.str i] fun p =>
  kB p fun q =>
  cond (!q)
 (cond (!((a==(1:Int))==true))
 (some (.done (V.bool false)))
 (cond (a != (0:Int))
 (cond h
 (some (.done (V.bool false)))
 (some (.head 4 (jF b c d e f g))))
 (some (.head 4 (jF b c d e f g)))))
 (aE aA 48 [V.str j] fun r =>
  kB r fun s =>
  cond (!((a==(1:Int))==(!s)))
 (some (.done (V.bool false)))
 (cond (a != (0:Int))
 (cond h
 (some (.done (V.bool false)))
 (some (.head 4 (jF b c d e f g))))
 (some (.head 4 (jF b c d e f g))))))
theorem aaE (a b c d e f g h i j k l m): Rd false 0 10 1 (Jr a b c d e f g h i j k l m) (Hn a b c d e f g h i j k l m):=rd (by kernel_rfl)
noncomputable def O9 (f e:List V) (g d a:Int) (b:List (V × V)) (c:List V): R :=
 cf aA aF js 40 [V.ptr 0 0 0] (tm d a b c) fun h =>
 bu (wm d a b c) <|
 cond (h != (0:Int))
 (some (.done (V.bool false)))
 (cf aA aF jN 42 [V.ptr 0 0 0] (tm d a b c) fun i =>
  bu (wm d a b c) <|
  cf aA aF pk 50 [V.ptr 0 0 0] (sm a b c) fun j =>
  bu (wm d a b c) <|
  aE aA 49 [V.sl i,V.sl j] fun k =>
  kB k fun l =>
  cond (!l)
 (some (.done (V.bool false)))
 (cf aA aF iH 34 [V.ptr 0 0 0,V.str [],V.int .i64 1000] (tm d a b c) fun m =>
  bu (wm d a b c) <|
  aE aA 23 [V.sl m,V.sl e] fun n =>
  kB n fun o =>
  cond (!o)
 (some (.done (V.bool false)))
 (some (.head 0 (zQ f e (W .i64 (g+1)) d a b c)))))
theorem aaH (a b c d e f g): Rd false 0 10 4 (il a b c d e f g) (O9 a b c d e f g):=rd (by kernel_rfl)
noncomputable def Pb (e:List V) (f d a:Int) (b:List (V × V)) (c:List V): R :=
 cf aA aF js 40 [V.ptr 0 0 0] (tm d a b c) fun g =>
 bu [O.box 140 (V.agg [V.ptr 3 0 0,V.mp 4]) false,O.box 128 (V.agg [V.ptr 0 0 0,V.int .i64 d]) false,O.row 41 [] 0,O.box 192 (V.agg [V.tail 5 0,V.int .i64 a]) true,O.map b,O.row 5 c 0] <|
 cond (g != (0:Int))
 (some (.done (V.bool false)))
 (cf aA aF jN 42 [V.ptr 0 0 0] (tm d a b c) fun h =>
  bu [O.box 140 (V.agg [V.ptr 3 0 0,V.mp 4]) false,O.box 128 (V.agg [V.ptr 0 0 0,V.int .i64 d]) false,O.row 41 [] 0,O.box 192 (V.agg [V.tail 5 0,V.int .i64 a]) true,O.map b,O.row 5 c 0] <|
  cf aA aF pk 50 [V.ptr 0 0 0] (sm a b c) fun i =>
  bu [O.box 140 (V.agg [V.ptr 3 0 0,V.mp 4]) false,O.box 128 (V.agg [V.ptr 0 0 0,V.int .i64 d]) false,O.row 41 [] 0,O.box 192 (V.agg [V.tail 5 0,V.int .i64 a]) true,O.map b,O.row 5 c 0] <|
  aE aA 49 [V.sl h,V.sl i] fun j =>
  kB j fun k =>
  cond (!k)
 (some (.done (V.bool false)))
 (cf aA aF iH 34 [V.ptr 0 0 0,V.str [],V.int .i64 1000] (tm d a b c) fun l =>
  bu [O.box 140 (V.agg [V.ptr 3 0 0,V.mp 4]) false,O.box 128 (V.agg [V.ptr 0 0 0,V.int .i64 d]) false,O.row 41 [] 0,O.box 192 (V.agg [V.tail 5 0,V.int .i64 a]) true,O.map b,O.row 5 c 0] <|
  aE aA 23 [V.sl l,V.sl []] fun m =>
  kB m fun n =>
  cond (!n)
 (some (.done (V.bool false)))
 (some (.head 0 (xd e (W .i64 (f+1)) d a b c)))))
theorem aaI (a b c d e f): Rd false 0 10 4 (jF a b c d e f) (Pb a b c d e f):=rd (by kernel_rfl)
noncomputable def Ho (b:List V) (c d e:Int) (f g:List UInt8) (a h:Int) (i:List (V × V)) (j:List V): R :=
 cond (decide (a > 0))
 (gd (decide (0<=(if W .i64 (0+(if 1000 < a then 1000 else a)) < 0 then W .i64 (0+(if 1000 < a then 1000 else a)) else 0))) <|
  gd (decide ((if W .i64 (0+(if 1000 < a then 1000 else a)) < 0 then W .i64 (0+(if 1000 < a then 1000 else a)) else 0).toNat<=0)) <|
  some (.head 3 (DC b c (((if W .i64 (0+(if 1000 < a then 1000 else a)) < 0 then W .i64 (0+(if 1000 < a then 1000 else a)) else 0).toNat) - 0) d e f g a h i j)))
 (some (.head 3 (DD b c d e f g a h i j)))
theorem O4 (a b c d e f g h i j): Rd false 0 10 2 (Dz a b c d e f g h i j) (Ho a b c d e f g h i j):=rd (by kernel_rfl)
noncomputable def wo (e b:List V) (d g h:Int) (i:List (V × V)) (j:List V): R :=
 cond (decide (d < (e.length:Int)))
 (gd (decide (0<=d)) <|
  aS e d.toNat fun o =>
  k6 o fun f c k m =>
  aE aA 41 [V.sl b,V.str c] fun p =>
  kF 41 p fun n =>
  cond (f==(0:Int))
 (aT aA aF iG 32 [V.ptr 0 0 0,V.str c,V.str k] (tm g h i j) fun a =>
  cond (a.2.1==(0:Int))
 (aE aA 38 [V.sl b,V.agg [V.str c,V.str k]] fun q =>
  kF 41 q fun r =>
  some (.head 1 (zR e r d (decide ((n.length:Int) < (b.length:Int))) a.1 a.2.1 a.2.2.1 f c k m a.2.2.2.1 a.2.2.2.2.1 a.2.2.2.2.2)))
 (some (.head 1 (zR e b d (decide ((n.length:Int) < (b.length:Int))) a.1 a.2.1 a.2.2.1 f c k m a.2.2.2.1 a.2.2.2.2.1 a.2.2.2.2.2))))
 (cond (f==(1:Int))
 (aT aA aF iZ 33 [V.ptr 0 0 0,V.str c] (tm g h i j) fun l =>
  cond (!((l.1==(0:Int))==(decide ((n.length:Int) < (b.length:Int)))))
 (some (.done (V.bool false)))
 (aE aA 41 [V.sl b,V.str c] fun s =>
  kF 41 s fun t =>
  some (.head 4 (il e t d l.2.1 l.2.2.1 l.2.2.2.1 l.2.2.2.2))))
 (cond (f==(2:Int))
 (cf aA aF iI 39 [V.ptr 0 0 0,V.str c] (tm g h i j) fun u =>
  bu (wm g h i j++[O.box 38 (V.agg [V.int .i64 f,V.str c,V.str k,V.int .i64 m]) false]) <|
  cond (!((u.2==(0:Int))==(decide ((n.length:Int) < (b.length:Int)))))
 (some (.done (V.bool false)))
 (some (.head 4 (il e b d g h i j))))
 (some (.head 2 (zS e b d 0 g f c k m h i j))))))
 (aE aA 45 [] fun v =>
  kB v fun w =>
  some (.done (V.bool w)))
theorem yS (a b c d e f g): Rd false 0 10 0 (zQ a b c d e f g) (wo a b c d e f g):=rd (by kernel_rfl)
noncomputable def O5 (h:List V) (i:Int) (e:Nat) (a j:Int) (f k:List UInt8) (g b:Int) (c:List (V × V)) (d:List V): R :=
 cf aA aF iH 34 [V.ptr 0 0 0,V.str f,V.int .i64 g] (tm a b c d) fun l =>
 bu [O.box 140 (V.agg [V.ptr 4 0 0,V.mp 5]) false,O.box 128 (V.agg [V.ptr 0 0 0,V.int .i64 a]) false,O.row 41 [] 0,O.box 38 (V.agg [V.int .i64 j,V.str f,V.str k,V.int .i64 g]) false,O.box 192 (V.agg [V.tail 6 0,V.int .i64 b]) true,O.map c,O.row 5 d 0] <|
 gd (decide (0+e<=0)) <|
 aE aA 23 [V.sl l,V.sl ((([]).drop 0).take e)] fun m =>
 kB m fun n =>
 cond (!n)
 (some (.done (V.bool false)))
 (some (.head 4 (jF h i a b c d)))
theorem aaF (a b c d e f g h i j k): Rd false 0 10 3 (DC a b c d e f g h i j k) (O5 a b c d e f g h i j k):=rd (by kernel_rfl)
noncomputable def O6 (g:List V) (h a i:Int) (e j:List UInt8) (f b:Int) (c:List (V × V)) (d:List V): R :=
 cf aA aF iH 34 [V.ptr 0 0 0,V.str e,V.int .i64 f] (tm a b c d) fun k =>
 bu [O.box 140 (V.agg [V.ptr 5 0 0,V.mp 6]) false,O.box 128 (V.agg [V.ptr 0 0 0,V.int .i64 a]) false,O.row 41 [] 0,O.box 38 (V.agg [V.int .i64 i,V.str e,V.str j,V.int .i64 f]) false,O.row 41 [] 0,O.box 192 (V.agg [V.tail 7 0,V.int .i64 b]) true,O.map c,O.row 5 d 0] <|
 aE aA 23 [V.sl k,V.sl []] fun l =>
 kB l fun m =>
 cond (!m)
 (some (.done (V.bool false)))
 (some (.head 4 (jF g h a b c d)))
theorem aaG (a b c d e f g h i j): Rd false 0 10 3 (DD a b c d e f g h i j) (O6 a b c d e f g h i j):=rd (by kernel_rfl)
noncomputable def wq (e b:List V) (f c g h:Int) (d i:List UInt8) (a j:Int) (k:List (V × V)) (l:List V): R :=
 cond (decide (c < (b.length:Int)))
 (gd (decide (0<=c)) <|
  aS b c.toNat fun m =>
  dE m fun n q =>
  aE aA 35 [V.str n,V.str d] fun o =>
  kB o fun p =>
  cond p
 (some (.head 2 (zS e b f (W .i64 (c+1)) g h d i a j k l)))
 (cond (decide (a > 0))
 (gd (dm 2 b) <|
  gd (decide (0<=c)) <|
  gd (decide (0<=(if W .i64 (c+(if 1000 < a then 1000 else a)) < (b.length:Int) then W .i64 (c+(if 1000 < a then 1000 else a)) else (b.length:Int)))) <|
  gd (decide (c.toNat<=(if W .i64 (c+(if 1000 < a then 1000 else a)) < (b.length:Int) then W .i64 (c+(if 1000 < a then 1000 else a)) else (b.length:Int)).toNat)) <|
  gd (decide ((if W .i64 (c+(if 1000 < a then 1000 else a)) < (b.length:Int) then W .i64 (c+(if 1000 < a then 1000 else a)) else (b.length:Int)).toNat<=b.length)) <|
  some (.head 3 (DF e b f ((b.take ((if W .i64 (c+(if 1000 < a then 1000 else a)) < (b.length:Int) then W .i64 (c+(if 1000 < a then 1000 else a)) else (b.length:Int)).toNat)).drop c.toNat) g h d i a j k l)))
 (some (.head 3 (DG e b f g h d i a j k l)))))
 (cond (decide (a > 0))
 (gd (dm 2 b) <|
  gd (decide (0<=c)) <|
  gd (decide (0<=(if W .i64 (c+(if 1000 < a then 1000 else a)) < (b.length:Int) then W .i64 (c+(if 1000 < a then 1000 else a)) else (b.length:Int)))) <|
  gd (decide (c.toNat<=(if W .i64 (c+(if 1000 < a then 1000 else a)) < (b.length:Int) then W .i64 (c+(if 1000 < a then 1000 else a)) else (b.length:Int)).toNat)) <|
  gd (decide ((if W .i64 (c+(if 1000 < a then 1000 else a)) < (b.length:Int) then W .i64 (c+(if 1000 < a then 1000 else a)) else (b.length:Int)).toNat<=b.length)) <|
  some (.head 3 (DF e b f ((b.take ((if W .i64 (c+(if 1000 < a then 1000 else a)) < (b.length:Int) then W .i64 (c+(if 1000 < a then 1000 else a)) else (b.length:Int)).toNat)).drop c.toNat) g h d i a j k l)))
 (some (.head 3 (DG e b f g h d i a j k l))))
theorem yT (a b c d e f g h i j k l): Rd false 0 10 2 (zS a b c d e f g h i j k l) (wq a b c d e f g h i j k l):=rd (by kernel_rfl)
noncomputable def Hp (g h:List V) (i:Int) (j:List V) (a k:Int) (e l:List UInt8) (f b:Int) (c:List (V × V)) (d:List V): R :=
 cf aA aF iH 34 [V.ptr 0 0 0,V.str e,V.int .i64 f] (tm a b c d) fun m =>
 bu [O.box 140 (V.agg [V.ptr 3 0 0,V.mp 4]) false,O.box 128 (V.agg [V.ptr 0 0 0,V.int .i64 a]) false,O.box 38 (V.agg [V.int .i64 k,V.str e,V.str l,V.int .i64 f]) false,O.box 192 (V.agg [V.tail 5 0,V.int .i64 b]) true,O.map c,O.row 5 d 0] <|
 aE aA 23 [V.sl m,V.sl j] fun n =>
 kB n fun o =>
 cond (!o)
 (some (.done (V.bool false)))
 (some (.head 4 (il g h i a b c d)))
theorem O7 (a b c d e f g h i j k l): Rd false 0 10 3 (DF a b c d e f g h i j k l) (Hp a b c d e f g h i j k l):=rd (by kernel_rfl)
noncomputable def Hq (g h:List V) (i a j:Int) (e k:List UInt8) (f b:Int) (c:List (V × V)) (d:List V): R :=
 cf aA aF iH 34 [V.ptr 0 0 0,V.str e,V.int .i64 f] (tm a b c d) fun l =>
 bu [O.box 140 (V.agg [V.ptr 4 0 0,V.mp 5]) false,O.box 128 (V.agg [V.ptr 0 0 0,V.int .i64 a]) false,O.box 38 (V.agg [V.int .i64 j,V.str e,V.str k,V.int .i64 f]) false,O.row 41 [] 0,O.box 192 (V.agg [V.tail 6 0,V.int .i64 b]) true,O.map c,O.row 5 d 0] <|
 aE aA 23 [V.sl l,V.sl []] fun m =>
 kB m fun n =>
 cond (!n)
 (some (.done (V.bool false)))
 (some (.head 4 (il g h i a b c d)))
theorem O8 (a b c d e f g h i j k): Rd false 0 10 3 (DG a b c d e f g h i j k) (Hq a b c d e f g h i j k):=rd (by kernel_rfl)
set_option linter.unusedSimpArgs false
theorem QS (s:Bs):bo aA 48 [.str s]=some (.bool (dq s)):=by
 refine U3 _ ?_
 unfold E1 dq
 rw [decide_eq_decide.2 (show (s.length:Int)<=32↔s.length<=32 by omega)]
theorem Ya (x:Int):∃m:Nat,m<=63/\W .i64 (((BitVec.ofInt (IntKind.bits .i64) x &&& BitVec.ofInt (IntKind.bits .i64) 63).toNat:Nat):Int)=(m:Int):=by
 have h:(BitVec.ofInt (IntKind.bits .i64) x &&& BitVec.ofInt (IntKind.bits .i64) 63).toNat<=63:=by
  rw [BitVec.toNat_and]
  exact j4 Nat.and_le_right (by decide +kernel)
 exact ⟨_,h,aU (by omega)⟩
theorem QW {L:List Pr} (h:ij L) (hl:L.length<=1000) {k v:Bs} (hk:k.length<=1000):bo aA 38 [.sl (aN L),.agg [.str k,.str v]]=some (.fr 41 (aN (cd L k v))):=by
 rw [<-Q0 h]
 exact QZ L (by omega) k v hk
theorem YQ {L:List Pr} (h:ij L) (k:Bs):decide (((aN (d6 k L)).length:Int) < ((aN L).length:Int))=b9 (aW L) k:=by
 rw [cL,cL,oZ h]
 cases hh:L.any fun x=>x.1==k with
 | true =>
  obtain ⟨p,hp,he⟩:=zx.1 hh
  refine decide_eq_true ?_
  have:(d6 k L).length < L.length:=by
   unfold d6
   exact Ro.2 ⟨p,hp,by simp [he]⟩
  omega
 | false =>
  refine decide_eq_false ?_
  have:d6 k L=L:=lc (p:=fun x:Pr=>!(x.1==k)) fun x hx=>by
   have:=mY.1 hh x hx
   simpa using this
  rw [this];omega
theorem NN {L:List Pr} (h:ij L) {k:Bs} (hh:b9 (aW L) k=false):d6 k L=L:=by
 rw [oZ h] at hh
 exact lc (p:=fun x:Pr=>!(x.1==k)) fun x hx=>by
  have:=mY.1 hh x hx
  simpa using this
theorem Mt {L:List Pr} (h:ij L) (hL:∀x∈L,bq x.1=true) {k:Bs} (hk:bq k=false):b9 (aW L) k=false:=by
 rw [oZ h]
 refine mY.2 fun x hx he=>?_
 have e:x.1=k:=by simpa using he
 have:=hL x hx
 rw [e,hk] at this;cases this
theorem P1 {L:List Pr} (h:ij L) {f:Bs} {k:Nat} (h1:∀x∈L.take k,lt x.1 f=true) (h2:∀x q,L.drop k=x::q->lt x.1 f=false):L.filter (fun x=>!(lt x.1 f))=L.drop k:=by
 have e:L=L.take k++L.drop k:=(iz k L).symm
 have hf:L.filter (fun x=>!(lt x.1 f))=(L.take k).filter (fun x=>!(lt x.1 f))++(L.drop k).filter (fun x=>!(lt x.1 f)):=by
  rw [<-m7,<-e]
 rw [hf,nF (p:=fun x:Pr=>!(lt x.1 f)) (l:=L.take k) fun x hx=>by rw [h1 x hx];rfl,dp]
 refine lc (p:=fun x:Pr=>!(lt x.1 f)) fun x hx=>?_
 have hd:ij (L.drop k):=List.Pairwise.sublist (List.drop_sublist _ _) h
 cases hq:L.drop k with
 | nil=>rw [hq] at hx;cases hx
 | cons y q =>
  have hy:=h2 y q hq
  rw [hq] at hx hd
  rcases bO.1 hx with rfl | hx
  ·rw [hy];rfl
  ·have hyx:=(fV.1 hd).1 x hx
   cases hxf:lt x.1 f with
   | false=>rfl
   | true=>rw [lt_trans hyx hxf] at hy;cases hy
section
variable {n:Nat} {X:List V} {i:Nat} {r:Int} {es:Es} {ups:List IL} {b:LL} {o:db}
theorem QF (h:WF n r es ups b):bo aA 49 [.sl (aC (fo n (aM es))),.sl (aC (fo n (aM es)))]=some (.bool true):=by
 have htl:=pJ h.shf
 have hll:=qO h.shf
 have hn:=h.shf.le
 have i2:=F7 (fo n (aM es)) (fo n (aM es)) (by omega)
 rwa [beq_self_eq_true] at i2
theorem QG (h:WF n r es ups b) (hl:(aK b).length<=1000):bT aA aF 34 [.ptr 0 0 0,.str [],.int .i64 1000] (tM r n es)=some (iH (tM r n es) (aN (aK b))):=by
 have hs:=rC h.toWT [] 1000
 rwa [CI _ hl] at hs
theorem wM (h:WF n r es ups b) (hi:i<=200) (hl:(aK b).length<=1000) (hk:Go qk false 0 (fF 10) (.head 0 (zQ X (aN (aK b)) ((i+1:Nat):Int) r (n:Int) (aZ es) (aR n (aM es)))) o) :
  Go qk false 0 (fF 10) (.head 4 (il X (aN (aK b)) (i:Int) r (n:Int) (aZ es) (aR n (aM es)))) o:=by
 have w:W .i64 ((i:Int)+1)=((i+1:Nat):Int):=by rw [aU (by omega)];omega
 refine aaH _ _ _ _ _ _ _ ?_ hk
 unfold O9
 rw [bR qW (sK h),bz,de rfl,cond_false,bR qX (tQ h.toWT),bz,bR ND (Qu h.shf),bz,aH (QF h),bS,bv,cond_false,bR nS (QG h hl),bz,aH (yA _ (by omega)),bS,bv,cond_false,w]
theorem II (h:WF n r es ups b) (hi:i<=200) (hf:aK b=[]) (hk:Go qk false 0 (fF 10) (.head 0 (xd X ((i+1:Nat):Int) r (n:Int) (aZ es) (aR n (aM es)))) o) :
  Go qk false 0 (fF 10) (.head 4 (jF X (i:Int) r (n:Int) (aZ es) (aR n (aM es)))) o:=by
 have w:W .i64 ((i:Int)+1)=((i+1:Nat):Int):=by rw [aU (by omega)];omega
 have hs:=QG h (by rw [hf];simp)
 rw [hf] at hs
 have hp:bo aA 23 [.sl (aN []),.sl []]=some (.bool true):=yA [] (by simp)
 refine aaI _ _ _ _ _ _ ?_ hk
 unfold Pb
 rw [bR qW (sK h),bz,de rfl,cond_false,bR qX (tQ h.toWT),bz,bR ND (Qu h.shf),bz,aH (QF h),bS,bv,cond_false,bR nS hs,bz,aH hp,bS,bv,cond_false,w]
def Dx (k v:Bs) (old ok:Bool) (e:Int):Prop:=(e=0/\bq k=true/\dq v=true/\ok = !old)∨(ok=false/\((e=1/\(bq k && dq v)=false)∨(e=6/\bq k=true/\dq v=true)))
theorem QB {Y:List V} {k v:Bs} {old ok:Bool} {e kd m:Int} {bs:List V} {M:List (V × V)} {N:Int} (h:Dx k v old ok e):Hm X Y (i:Int) old ok e r kd k v m N M bs=some (.head 4 (il X Y (i:Int) r N M bs)):=by
 unfold Hm
 rw [aH (MP k),bS,aH (QS v),bS]
 rcases h with ⟨rfl,h1,h2,rfl⟩ | ⟨rfl,⟨rfl,h1⟩ | ⟨rfl,h1,h2⟩⟩
 ·rw [h1,h2];cases old<;>rfl
 ·cases hk:bq k with
  | false=>rfl
  | true=>rw [hk,du] at h1;rw [h1];rfl
 ·rw [h1,h2];rfl
theorem acl {k v:Bs} {old ok:Bool} {e kd m:Int} {bs:List V} {M:List (V × V)} {N:Int} (h:Dx k v old ok e):Hn X (i:Int) old ok e r kd k v m N M bs=some (.head 4 (jF X (i:Int) r N M bs)):=by
 unfold Hn
 rw [aH (MP k),bS,aH (QS v),bS]
 rcases h with ⟨rfl,h1,h2,rfl⟩ | ⟨rfl,⟨rfl,h1⟩ | ⟨rfl,h1,h2⟩⟩
 ·rw [h1,h2];cases old<;>rfl
 ·cases hk:bq k with
  | false=>rfl
  | true=>rw [hk,du] at h1;rw [h1];rfl
 ·rw [h1,h2];rfl
theorem Oz {k v:Bs} {ok:Bool} {e r':Int} {es':Es} {ups':List IL} {b':LL} (h:Dy n r es ups b k v ok e r' es' ups' b'):Dx k v (b9 (aW (aK b)) k) ok e/\((e=0/\aK b'=cd (aK b) k v)∨(e≠0/\aK b'=aK b)):=by
 rcases h with ⟨rfl,h1,h2,h3,h4,_⟩ | ⟨h1,_,_,_,rfl,⟨rfl,h2⟩ | ⟨rfl,h2,h3,_⟩⟩
 ·exact ⟨.inl ⟨rfl,h1,h2,h4⟩,.inl ⟨rfl,h3⟩⟩
 ·exact ⟨.inr ⟨h1,.inl ⟨rfl,h2⟩⟩,.inr ⟨by decide,rfl⟩⟩
 ·exact ⟨.inr ⟨h1,.inr ⟨rfl,h2,h3⟩⟩,.inr ⟨by decide,rfl⟩⟩
theorem Kx {k:Bs} {e r':Int} {es':Es} {ups':List IL} {b':LL} (h:WF n r es ups b) (hT:De n r es ups b k e r' es' ups' b'):(e==(0:Int))=b9 (aW (aK b)) k/\aK b'=d6 k (aK b):=by
 have hris:=jI h.ord h.okF
 have hkey:∀x∈aK b,bq x.1=true:=xT h.okF
 rcases hT with ⟨rfl,_,h1,h2⟩ | ⟨_,_,_,rfl,⟨rfl,h1⟩ | ⟨rfl,h1,h2⟩⟩
 ·exact ⟨by rw [h1];rfl,h2⟩
 ·have:=Mt hris hkey h1
  exact ⟨by rw [this];rfl,(NN hris this).symm⟩
 ·exact ⟨by rw [h2];rfl,(NN hris h2).symm⟩
theorem Mi (h:WF n r es ups b) (k:Bs):∃v e,bT aA aF 39 [.ptr 0 0 0,.str k] (tM r n es)=some (iI (tM r n es) (v,e))/\(e==(0:Int))=b9 (aW (aK b)) k:=by
 have hris:=jI h.ord h.okF
 have hkey:∀x∈aK b,bq x.1=true:=xT h.okF
 obtain ⟨v,e,g,⟨rfl,_,hm⟩ | ⟨_,⟨rfl,q⟩ | ⟨rfl,_,q⟩⟩⟩:=Be h.toWT k
 ·refine ⟨v,0,g,?_⟩
  rw [oZ hris]
  exact (zx.2 ⟨(k,v),hm,by simp⟩).symm
 ·exact ⟨v,1,g,by rw [Mt hris hkey q];rfl⟩
 ·refine ⟨v,7,g,?_⟩
  rw [oZ hris]
  exact (mY.2 fun x hx he=>q x hx (by simpa using he)).symm
theorem J9 {k c l:Nat} {N:Int} (hN:0 < N) (hc:c=min N.toNat 1000) (hk:k<=1000) (hl:l<=1000):(if W .i64 ((k:Int)+(if 1000 < N then 1000 else N)) < (l:Int) then W .i64 ((k:Int)+(if 1000 < N then 1000 else N)) else (l:Int))=((min l (k+c):Nat):Int):=by
 have e:(if 1000 < N then 1000 else N)=(c:Int):=by split<;>omega
 rw [e,aU (by omega)]
 split<;>omega
theorem QE (h:WF n r es ups b) (hl:(aK b).length<=1000) {kd m:Int} {f v:Bs} (hm:¬m > 0):Hq X (aN (aK b)) (i:Int) r kd f v m (n:Int) (aZ es) (aR n (aM es))=some (.head 4 (il X (aN (aK b)) (i:Int) r (n:Int) (aZ es) (aR n (aM es)))):=by
 have hs:=rC h.toWT f m
 rw [Ie f m _ _ (by simp;omega)] at hs
 have hp:bo aA 23 [.sl (aN []),.sl []]=some (.bool true):=yA [] (by simp)
 unfold Hq
 rw [bR nS hs,bz,aH hp,bS,bv,cond_false]
theorem QD (h:WF n r es ups b) (hl:(aK b).length<=1000) {kd m:Int} {f v:Bs} (hm:m > 0) {k:Nat} (hd:(aK b).filter (fun x=>!(lt x.1 f))=(aK b).drop k) :
  Hp X (aN (aK b)) (i:Int) (((aN (aK b)).take (min (aK b).length (k+min m.toNat 1000))).drop k) r kd f v m (n:Int) (aZ es) (aR n (aM es))=some (.head 4 (il X (aN (aK b)) (i:Int) r (n:Int) (aZ es) (aR n (aM es)))):=by
 have hs:=rC h.toWT f m
 have hsc:=CH f m.toNat (aK b) [] (by simp)
 rw [I4 (by omega),dp,dR,Nat.sub_zero,hd] at hsc
 rw [hsc] at hs
 have e:((aN (aK b)).take (min (aK b).length (k+min m.toNat 1000))).drop k=aN (((aK b).drop k).take m.toNat):=by
  unfold aN
  rw [<-List.map_take,<-List.map_drop]
  congr 1
  rw [List.drop_take]
  have e2:∀(l:List Pr) (a c:Nat),min l.length a=min l.length c->l.take a=l.take c:=fun l a c hac=>by
   rw [List.take_eq_take_iff];omega
  refine e2 _ _ _ ?_
  rw [eO]
  omega
 have hp:=yA (((aK b).drop k).take m.toNat) (by simp;omega)
 rw [e]
 unfold Hp
 rw [bR nS hs,bz,aH hp,bS,bv,cond_false]
theorem QC (h:WF n r es ups b) (hl:(aK b).length<=1000) {kd m:Int} {f v:Bs} (hf:f.length<=1000) (hk:Go qk false 0 (fF 10) (.head 4 (il X (aN (aK b)) (i:Int) r (n:Int) (aZ es) (aR n (aM es)))) o) :
  ∀(q:List Pr) (k:Nat),(aK b).drop k=q->k<=(aK b).length->(∀x∈(aK b).take k,lt x.1 f=true) ->
  Go qk false 0 (fF 10) (.head 2 (zS X (aN (aK b)) (i:Int) (k:Int) r kd f v m (n:Int) (aZ es) (aR n (aM es)))) o
 | [],k,hd,hkl,aD=>by
  have h1:=drop_nil hd
  have hd2:(aK b).filter (fun x=>!(lt x.1 f))=(aK b).drop k:=P1 (jI h.ord h.okF) aD fun x q e=>by rw [hd] at e;cases e
  by_cases hm:m > 0
  ·refine yT _ _ _ _ _ _ _ _ _ _ _ _ ?_ (O7 _ _ _ _ _ _ _ _ _ _ _ _ (QD (kd:=kd) (v:=v) h hl hm hd2) hk)
   unfold wq
   rw [cL,decide_eq_false (by omega),cond_false,decide_eq_true hm,cond_true,aB (ou _),aB (by simp),J9 hm rfl (by omega) hl,aB (by simp),aY,aY,aB (decide_eq_true (by omega)),aB (decide_eq_true (by omega))]
  ·refine yT _ _ _ _ _ _ _ _ _ _ _ _ ?_ (O8 _ _ _ _ _ _ _ _ _ _ _ (QE (kd:=kd) (v:=v) (f:=f) h hl hm) hk)
   unfold wq
   rw [cL,decide_eq_false (by omega),cond_false,decide_eq_false hm,cond_false]
 | x::q,k,hd,hkl,aD=>by
  obtain ⟨h1,h2,h3⟩:=er hd
  have w:W .i64 ((k:Int)+1)=((k+1:Nat):Int):=by rw [aU (by omega)];omega
  cases hx:lt x.1 f with
  | true =>
   refine yT _ _ _ _ _ _ _ _ _ _ _ _ ?_ (QC (kd:=kd) (m:=m) (v:=v) h hl hf hk q (k+1) h2 (by omega) ?_)
   ·unfold wq
    rw [cL,decide_eq_true (by omega),cond_true,aB (by simp),aY,eA h1,eo,aH (yp x.1 f (by omega)),bS,hx,cond_true,w]
   ·rw [zF,h1]
    intro y hy
    rcases br.1 hy with hy | hy
    ·exact aD y hy
    ·rw [eV.1 hy];exact hx
  | false =>
   have hd2:(aK b).filter (fun x=>!(lt x.1 f))=(aK b).drop k:=P1 (jI h.ord h.okF) aD fun y q' e=>by
    rw [hd] at e
    obtain ⟨rfl,_⟩:=List.cons.inj e
    exact hx
   by_cases hm:m > 0
   ·refine yT _ _ _ _ _ _ _ _ _ _ _ _ ?_ (O7 _ _ _ _ _ _ _ _ _ _ _ _ (QD (kd:=kd) (v:=v) h hl hm hd2) hk)
    unfold wq
    rw [cL,decide_eq_true (by omega),cond_true,aB (by simp),aY,eA h1,eo,aH (yp x.1 f (by omega)),bS,hx,cond_false,decide_eq_true hm,cond_true,aB (ou _),aB (by simp),J9 hm rfl (by omega) hl,aB (by simp),aY,aB (decide_eq_true (by omega)),aB (decide_eq_true (by omega))]
   ·refine yT _ _ _ _ _ _ _ _ _ _ _ _ ?_ (O8 _ _ _ _ _ _ _ _ _ _ _ (QE (kd:=kd) (v:=v) (f:=f) h hl hm) hk)
    unfold wq
    rw [cL,decide_eq_true (by omega),cond_true,aB (by simp),aY,eA h1,eo,aH (yp x.1 f (by omega)),bS,hx,cond_false,decide_eq_false hm,cond_false]
theorem acm (h:WF n r es ups b) (hf:aK b=[]) {kd m:Int} {f v:Bs} (hk:Go qk false 0 (fF 10) (.head 4 (jF X (i:Int) r (n:Int) (aZ es) (aR n (aM es)))) o) :
  Go qk false 0 (fF 10) (.head 2 (Dz X (i:Int) r kd f v m (n:Int) (aZ es) (aR n (aM es)))) o:=by
 have hs:=rC h.toWT f m
 rw [hf,show gJ f m [] []=[] from rfl] at hs
 have hp:bo aA 23 [.sl (aN []),.sl []]=some (.bool true):=yA [] (by simp)
 by_cases hm:m > 0
 ·have e:(if W .i64 (0+(if 1000 < m then 1000 else m)) < 0 then W .i64 (0+(if 1000 < m then 1000 else m)) else 0)=(0:Int):=by
   rw [if_neg]
   have:(0:Int)<=0+(if 1000 < m then 1000 else m)/\0+(if 1000 < m then 1000 else m)<=1000:=by split<;>omega
   rw [aU (by omega)];omega
  refine O4 _ _ _ _ _ _ _ _ _ _ (o:=.head 3 (DC X (i:Int) 0 r kd f v m (n:Int) (aZ es) (aR n (aM es)))) ?_ (aaF _ _ _ _ _ _ _ _ _ _ _ ?_ hk)
  ·unfold Ho
   rw [decide_eq_true hm,cond_true,e]
   rfl
  ·unfold O5
   have hp:bo aA 23 [.sl (aN []),.sl ((([]:List V).drop 0).take 0)]=some (.bool true):=hp
   rw [bR nS hs,bz,aB (by simp),aH hp,bS,bv,cond_false]
 ·refine O4 _ _ _ _ _ _ _ _ _ _ (o:=.head 3 (DD X (i:Int) r kd f v m (n:Int) (aZ es) (aR n (aM es)))) ?_ (aaG _ _ _ _ _ _ _ _ _ _ ?_ hk)
  ·unfold Ho
   rw [decide_eq_false hm,cond_false]
  ·unfold O6
   rw [bR nS hs,bz,aH hp,bS,bv,cond_false]
end
theorem wN {n:Nat} (S:List dk) (hS:S.length<=150) (hK:∀o∈S,o.2.1.length<=20):∀(q:List dk) (i:Nat),S.drop i=q->i<=S.length->∀(r:Int) (es:Es) (ups:List IL) (b:LL),WF n r es ups b->(aK b).length<=i ->
  Go qk false 0 (fF 10) (.head 0 (zQ (dy S) (aN (aK b)) (i:Int) r (n:Int) (aZ es) (aR n (aM es)))) (.done (.bool true))
 | [],i,hd,hi,r,es,ups,b,h,hb=>by
  have h1:=drop_nil hd
  refine yS _ _ _ _ _ _ _ ?_ (.refl _)
  unfold wo
  rw [iJ,decide_eq_false (by omega),cond_false,aH vv,bS]
 | o::q,i,hd,hi,r,es,ups,b,h,hb=>by
  obtain ⟨h1,h2,h3⟩:=er hd
  have hi1:(dy S)[i]? = some (dG o):=by simp [dy,h1]
  have hk20:=hK o (cH h1)
  have hris:=jI h.ord h.okF
  have hwo:=C5 (aK b) (by omega) o.2.1
  have hol:=YQ hris o.2.1
  by_cases k0:o.1=0
  ·obtain ⟨ok,e,r',es',ups',b',hW,hR,hT⟩:=tV h o.2.1 o.2.2.1
   have hlen:=GU hT
   obtain ⟨hp,hq⟩:=Oz hT
   have hwi:=QW (v:=o.2.2.1) hris (by omega) (k:=o.2.1) (by omega)
   have ih:=wM (X:=dy S) hW (by omega) (by omega) (wN S hS hK q (i+1) h2 (by omega) r' es' ups' b' hW (by omega))
   have h1':=O3 _ _ _ _ _ _ _ _ _ _ _ _ _ _ (QB (X:=dy S) (Y:=aN (aK b')) (i:=i) (r:=r') (kd:=o.1) (m:=o.2.2.2) (N:=(n:Int)) (M:=aZ es') (bs:=aR n (aM es')) hp) ih
   refine yS _ _ _ _ _ _ _ ?_ h1'
   unfold wo
   rw [iJ,decide_eq_true (by omega),cond_true,aB (by simp),aY,cQ hi1,dG,ir,aH hwo,dC,cN k0,cond_true,bW l6 (ma hR),hol]
   rcases hq with ⟨rfl,q2⟩ | ⟨q1,q2⟩
   ·rw [cN rfl,cond_true,aH hwi,dC,q2]
   ·rw [cZ q1,cond_false,q2]
  ·by_cases k1:o.1=1
   ·obtain ⟨e,r',es',ups',b',hW,hR,hT⟩:=vi h o.2.1
    have hlen:=El hT
    obtain ⟨hp,hq⟩:=Kx h hT
    have ih:=wM (X:=dy S) hW (by omega) (by omega) (wN S hS hK q (i+1) h2 (by omega) r' es' ups' b' hW (by omega))
    refine yS _ _ _ _ _ _ _ ?_ ih
    unfold wo
    rw [iJ,decide_eq_true (by omega),cond_true,aB (by simp),aY,cQ hi1,dG,ir,aH hwo,dC,cZ k0,cond_false,cN k1,cond_true,bW tG (sP hR),hol,hp,beq_self_eq_true,bv,cond_false,aH hwo,dC,hq]
   ·by_cases k2:o.1=2
    ·obtain ⟨v,e,hg,hp⟩:=Mi h o.2.1
     have ih:=wM (X:=dy S) h (by omega) (by omega) (wN S hS hK q (i+1) h2 (by omega) r es ups b h (by omega))
     refine yS _ _ _ _ _ _ _ ?_ ih
     unfold wo
     rw [iJ,decide_eq_true (by omega),cond_true,aB (by simp),aY,cQ hi1,dG,ir,aH hwo,dC,cZ k0,cond_false,cZ k1,cond_false,cN k2,cond_true,bR vP hg,bz,hol,hp,beq_self_eq_true,bv,cond_false]
    ·have ih:=wM (X:=dy S) h (by omega) (by omega) (wN S hS hK q (i+1) h2 (by omega) r es ups b h (by omega))
     have h2':=QC (kd:=o.1) (m:=o.2.2.2) (v:=o.2.2.1) h (by omega) (f:=o.2.1) (by omega) ih (aK b) 0 rfl (by omega) (fun x hx=>by simp at hx)
     refine yS _ _ _ _ _ _ _ ?_ h2'
     unfold wo
     rw [iJ,decide_eq_true (by omega),cond_true,aB (by simp),aY,cQ hi1,dG,ir,aH hwo,dC,cZ k0,cond_false,cZ k1,cond_false,cZ k2,cond_false]
     rfl
theorem CY {n:Nat} (S:List dk) (hS:S.length<=150) (hK:∀o∈S,o.2.1.length<=20):∀(q:List dk) (i:Nat),S.drop i=q->i<=S.length->∀(r:Int) (es:Es) (ups:List IL) (b:LL),WF n r es ups b->aK b=[] ->
  Go qk false 0 (fF 10) (.head 0 (xd (dy S) (i:Int) r (n:Int) (aZ es) (aR n (aM es)))) (.done (.bool true))
 | [],i,hd,hi,r,es,ups,b,h,hb=>by
  have h1:=drop_nil hd
  refine wj _ _ _ _ _ _ ?_ (.refl _)
  unfold t6
  rw [iJ,decide_eq_false (by omega),cond_false,aH vv,bS]
 | o::q,i,hd,hi,r,es,ups,b,h,hb=>by
  obtain ⟨h1,h2,h3⟩:=er hd
  have hi1:(dy S)[i]? = some (dG o):=by simp [dy,h1]
  have hk20:=hK o (cH h1)
  have hris:=jI h.ord h.okF
  have hwo:bo aA 41 [.sl [],.str o.2.1]=some (.fr 41 []):=C5 [] (by simp) o.2.1
  have hol:decide ((([]:List V).length:Int) < 0)=b9 (aW (aK b)) o.2.1:=by rw [hb];rfl
  by_cases k0:o.1=0
  ·obtain ⟨ok,e,r',es',ups',b',hW,hR,hT⟩:=tV h o.2.1 o.2.2.1
   have hlen:=GU hT
   rw [hb,dR] at hlen
   obtain ⟨hp,hq⟩:=Oz hT
   have hwi:bo aA 38 [.sl [],.agg [.str o.2.1,.str o.2.2.1]]=some (.fr 41 (aN (cd [] o.2.1 o.2.2.1))):=QW (v:=o.2.2.1) (L:=[]) List.Pairwise.nil (by simp) (k:=o.2.1) (by omega)
   rw [hb] at hq
   rcases hq with ⟨rfl,q2⟩ | ⟨q1,q2⟩
   ·have ih:=wM (X:=dy S) (i:=i) hW (by omega) (by omega) (wN S hS hK q (i+1) h2 (by omega) r' es' ups' b' hW (by omega))
    have h1':=O3 _ _ _ _ _ _ _ _ _ _ _ _ _ _ (QB (X:=dy S) (Y:=aN (aK b')) (i:=i) (r:=r') (kd:=o.1) (m:=o.2.2.2) (N:=(n:Int)) (M:=aZ es') (bs:=aR n (aM es')) hp) ih
    refine wj _ _ _ _ _ _ ?_ h1'
    unfold t6
    rw [iJ,decide_eq_true (by omega),cond_true,aB (by simp),aY,cQ hi1,dG,ir,aH hwo,dC,cN k0,cond_true,bW l6 (ma hR),hol,cN rfl,cond_true,aH hwi,dC,q2]
   ·have ih:=II (X:=dy S) (i:=i) hW (by omega) q2 (CY S hS hK q (i+1) h2 (by omega) r' es' ups' b' hW q2)
    have h1':=aaE _ _ _ _ _ _ _ _ _ _ _ _ _ (acl (X:=dy S) (i:=i) (r:=r') (kd:=o.1) (m:=o.2.2.2) (N:=(n:Int)) (M:=aZ es') (bs:=aR n (aM es')) hp) ih
    refine wj _ _ _ _ _ _ ?_ h1'
    unfold t6
    rw [iJ,decide_eq_true (by omega),cond_true,aB (by simp),aY,cQ hi1,dG,ir,aH hwo,dC,cN k0,cond_true,bW l6 (ma hR),hol,cZ q1,cond_false]
  ·by_cases k1:o.1=1
   ·obtain ⟨e,r',es',ups',b',hW,hR,hT⟩:=vi h o.2.1
    have hlen:=El hT
    rw [hb,dR] at hlen
    obtain ⟨hp,hq⟩:=Kx h hT
    have hz:aK b'=[]:=m4 (by omega)
    have ih:=wM (X:=dy S) (i:=i) hW (by omega) (by omega) (wN S hS hK q (i+1) h2 (by omega) r' es' ups' b' hW (by omega))
    rw [hz] at ih
    refine wj _ _ _ _ _ _ ?_ ih
    unfold t6
    rw [iJ,decide_eq_true (by omega),cond_true,aB (by simp),aY,cQ hi1,dG,ir,aH hwo,dC,cZ k0,cond_false,cN k1,cond_true,bW tG (sP hR),hol,hp,beq_self_eq_true,bv,cond_false,aH hwo,dC]
    rfl
   ·by_cases k2:o.1=2
    ·obtain ⟨v,e,hg,hp⟩:=Mi h o.2.1
     have ih:=II (X:=dy S) (i:=i) h (by omega) hb (CY S hS hK q (i+1) h2 (by omega) r es ups b h hb)
     refine wj _ _ _ _ _ _ ?_ ih
     unfold t6
     rw [iJ,decide_eq_true (by omega),cond_true,aB (by simp),aY,cQ hi1,dG,ir,aH hwo,dC,cZ k0,cond_false,cZ k1,cond_false,cN k2,cond_true,bR vP hg,bz,hol,hp,beq_self_eq_true,bv,cond_false]
    ·have ih:=II (X:=dy S) (i:=i) h (by omega) hb (CY S hS hK q (i+1) h2 (by omega) r es ups b h hb)
     refine wj _ _ _ _ _ _ ?_ (acm (kd:=o.1) (m:=o.2.2.2) (v:=o.2.2.1) (f:=o.2.1) h hb ih)
     unfold t6
     rw [iJ,decide_eq_true (by omega),cond_true,aB (by simp),aY,cQ hi1,dG,ir,aH hwo,dC,cZ k0,cond_false,cZ k1,cond_false,cZ k2,cond_false]
theorem Tb {N:Nat} {S:List dk}:∀o∈gE N S,o.2.1.length<=20:=by
 intro o ho
 unfold gE at ho
 obtain ⟨a,_,rfl⟩:=ef.1 ho
 simp [AJ]
 omega
theorem Yl (p:Int) (S:List dk) (hS:S.length<=maxLen):bo aA 10 [.int .i64 p,.sl (dy S)]=some (.bool true):=by
 have hcl:(gE 150 S).length<=150:=by simp [gE];omega
 obtain ⟨m,hm,hw⟩:=Ya p
 have hn:W .i64 (1+(m:Int))=((m+1:Nat):Int):=by rw [aU (by omega)];omega
 have hq:W .i64 ((W .i64 ((W .i64 (((m+1:Nat):Int)+8)) - 1)).tdiv 8)=(((m+1+7) / 8:Nat):Int):=by
  have e1:W .i64 (((m+1:Nat):Int)+8)=((m+9:Nat):Int):=by rw [aU (by omega)];omega
  have e2:W .i64 (((m+9:Nat):Int) - 1)=((m+8:Nat):Int):=by rw [aU (by omega)];omega
  have e3:(((m+8:Nat):Int)).tdiv 8=(((m+1+7) / 8:Nat):Int):=by rw [Rh (by omega)];omega
  rw [e1,e2,e3,aU (by omega)]
 have hT:=zg (n:=m+1) (by omega) (by omega)
 have hW:=zk (n:=m+1) (by omega) (by omega)
 have hc:bo aA 14 [.sl (dy S),.int .i64 150]=_:=Kn 150 (by omega) S hS
 refine TI _ _ ?_ (CY (n:=m+1) (gE 150 S) hcl Tb (gE 150 S) 0 rfl (by omega) 0 iu [] [(0,[],[])] (zj (zm (by omega) (by omega))) rfl)
 unfold KF
 rw [aH hc,dC]
 simp only [hw,hn,hq]
 rw [decide_eq_false (by omega),cond_false,decide_eq_false (by omega),cond_false,aB (by simp;omega),aB (by simp),aY,aB (by simp;omega)]
 show (aT aA _ _ _ _ (nM (m+1)) _)=_
 rw [bW pn hT,de rfl,cond_false]
 show (aT aA _ _ _ _ (tm 0 ((m+1:Nat):Int) (aZ [(0,[])]) (aR (m+1) (aM [(0,[])]))) _)=_
 rw [bW gI hW]
 rfl
end Go.Proofs.YtlphgcjepphhcaaGreat
namespace Go.Proofs.YtlphgcjepphhcaaGreat
open Go Go.Lite Go.ChangeShapes Go.WideShapes Go.ChangeAt Go.RowKit
set_option linter.unusedVariables false
set_option maxRecDepth 100000
theorem pI {n:Nat} {vs:List V} (h:cR Tryz.prog n 3 vs):∃m,vs=[.int .i64 m]/\(Lit.int .i64 m).wf=true:=by
 cases n with
 | zero=>cases h
 | succ n=>unfold cR at h;rw [Tryz.underlying3] at h;exact h
theorem Ak {n:Nat} {x:V} (h:dD Tryz.prog n 3 x):∃m,x = .int .i64 m/\(Lit.int .i64 m).wf=true:=by
 have h2:=h.leaf (by rw [Tryz.underlying3];rfl)
 obtain ⟨m,e,w⟩:=pI h.1
 exact ⟨m,by rw [h2] at e;simpa using e,w⟩
theorem lq {n:Nat} {vs:List V} (h:cR Tryz.prog n 9 vs):∃s,vs=[.str s]/\s.length<=maxLen:=by
 cases n with
 | zero=>cases h
 | succ n=>unfold cR at h;rw [Tryz.underlying9] at h;exact h
theorem Al {n:Nat} {x:V} (h:dD Tryz.prog n 9 x):∃m,x = .str m/\m.length<=maxLen:=by
 have h2:=h.leaf (by rw [Tryz.underlying9];rfl)
 obtain ⟨m,e,w⟩:=lq h.1
 exact ⟨m,by rw [h2] at e;simpa using e,w⟩
theorem IE {n:Nat} {vs:List V} (h:cR Tryz.prog n 38 vs):∃o:dk,vs=[.int .i64 o.1,.str o.2.1,.str o.2.2.1,.int .i64 o.2.2.2]:=by
 cases n with
 | zero=>cases h
 | succ n =>
  unfold cR at h
  rw [Tryz.underlying38] at h
  obtain ⟨hl,hf⟩:=h
  rw [show Tryz.prog.cellsOf 38=4 by kernel_rfl] at hl
  simp only [bO,forall_eq_or_imp,zE,false_implies,implies_true,and_true,show Tryz.prog.cellsOf 3=1 by kernel_rfl,show Tryz.prog.cellsOf 9=1 by kernel_rfl] at hf
  obtain ⟨h0,h1,h2,h3⟩:=hf
  obtain ⟨k,e0,_⟩:=pI h0
  obtain ⟨s,e1,_⟩:=lq h1
  obtain ⟨v,e2,_⟩:=lq h2
  obtain ⟨m,e3,_⟩:=pI h3
  match vs,hl,e0,e1,e2,e3 with
  | [b0,b1,b2,b3],_,e0,e1,e2,e3 =>
   simp at e0 e1 e2 e3
   exact ⟨(k,s,v,m),by rw [e0,e1,e2,e3]⟩
theorem DR {n:Nat} {x:V} (h:dD Tryz.prog n 38 x):∃cs,x = .agg cs/\cR Tryz.prog n 38 cs:=by
 obtain ⟨cs,rfl⟩:=h.agg (by rw [Tryz.underlying38];rfl)
 exact ⟨cs,rfl,h.1⟩
theorem DO {n:Nat} {x:V} (h:dD Tryz.prog n 38 x):∃o:dk,x=dG o/\(fun _:dk=>True) o:=by
 obtain ⟨cs,rfl,hC⟩:=DR h
 obtain ⟨o,rfl⟩:=IE hC
 exact ⟨o,rfl,trivial⟩
theorem yl:∀{l:List V},(∀x∈l,∃m:dk,x=(dG) m/\(fun _:dk=>True) m)->∃ms:List dk,l=ms.map (dG)/\∀m∈ms,(fun _:dk=>True) m
 | [],_=>⟨[],rfl,by simp⟩
 | x::l,h=>by
  obtain ⟨a,rfl,ha⟩:=h x (by simp)
  obtain ⟨ms,rfl,hb⟩:=yl (fun y hy=>h y (by simp [hy]):∀y∈l,_)
  refine ⟨a::ms,rfl,fun m hm=>?_⟩
  rcases bO.1 hm with rfl | hm
  ·exact ha
  ·exact hb m hm
theorem IF {n:Nat} {vs:List V} (h:cR Tryz.prog n 22 vs):∃ms:List dk,vs=[.sl (ms.map (dG))]/\ms.length<=maxLen/\∀m∈ms,(fun _:dk=>True) m:=by
 cases n with
 | zero=>cases h
 | succ n =>
  unfold cR at h
  rw [Tryz.underlying22] at h
  obtain ⟨l,rfl,hl,hx⟩:=h
  obtain ⟨ms,rfl,hm⟩:=yl fun x hm=>DO (n:=n) (hx x hm)
  exact ⟨ms,rfl,by simpa using hl,hm⟩
theorem DT {n:Nat} {x:V} (h:dD Tryz.prog n 22 x):∃ms:List dk,x = .sl (ms.map (dG))/\ms.length<=maxLen/\∀m∈ms,(fun _:dk=>True) m:=by
 have h2:=h.leaf (by rw [Tryz.underlying22];rfl)
 obtain ⟨m,e,w⟩:=IF h.1
 exact ⟨m,by rw [h2] at e;simpa using e,w⟩
theorem own:ownKnob Tryz.prog.godebug=none:=by kernel_rfl
theorem Ap {P:Program} {n:Nat} {t:TypeId} {xs:List V} (h:jz P n [t] xs):∃a,xs=[a]/\dD P n t a:=by
 match xs,h with
 | [a],h=>exact ⟨a,rfl,h.1⟩
theorem u4 {P:Program} {n:Nat} {t t':TypeId} {xs:List V} (h:jz P n [t,t'] xs):∃a b,xs=[a,b]/\dD P n t a/\dD P n t' b:=by
 match xs,h with
 | [a,b],h=>exact ⟨a,b,rfl,h.1,h.2.1⟩
theorem BF {α:Type} {l:List α} (h:l.length=1):∃a,l=[a]:=by
 match l,h with
 | [a],_=>exact ⟨a,rfl⟩
theorem vK {α:Type} {l:List α} (h:l.length=2):∃a b,l=[a,b]:=by
 match l,h with
 | [a,b],_=>exact ⟨a,b,rfl⟩
theorem acu (xs:List V) (h:jz aA.P 6 Tryz.f10.params.toList xs):bo aA 10 xs=some (.bool true):=by
 rw [Tryz.params10] at h
 obtain ⟨a,b,rfl,ha,hb⟩:=u4 h
 obtain ⟨p,rfl,_⟩:=Ak ha
 obtain ⟨S,rfl,hl,_⟩:=DT hb
 exact Yl p S hl
set_option maxRecDepth 100000 in
theorem acv (os:Os) (started:os.Started) (H:Type) (enc:TypeId × Value->H) :
  ReturnsInHanded {} Tryz.checked os 10 .any (Rows.treeMapsSpec.pre6 enc Tryz.prog Tryz.f10 Rows.treeMapsRow.domain false) (Rows.treeMapsSpec.post enc Tryz.prog Tryz.f10 false true false false):=by
 refine returnsInHanded_of_change (C:=Tryz.checked) own started (by kernel_rfl) Tryz.func10
  (ChangeSpec.witness6 (enc:=enc) (C:=Tryz.checked) false ⟨#[],#[.int .i64 0,.slice none 0 0],[]⟩ 8 (by kernel_rfl) (by kernel_rfl) (by kernel_rfl) (by kernel_rfl)) ?_
 intro W base args ds gs before hval hW _ _
 exact By aV 6 (by kernel_rfl) (by kernel_rfl) (s:=Rows.treeMapsSpec) rfl (by kernel_rfl) (tb:=4) (by kernel_rfl) Tryz.underlying4
  (fun H ds h=>by
   obtain ⟨a,b,rfl⟩:=vK (h.trans (by rw [Tryz.params10];rfl))
   rfl) acu W base args ds gs before hval hW
theorem treeMaps_holds:Rows.TreeMapsSaid :=
 OpenClaim.holds_of_wide 10 Tryz.f10 rfl rfl rfl rfl rfl rfl rfl ⟨rfl,rfl,rfl,rfl,rfl⟩ rfl rfl rfl rfl rfl (by kernel_rfl) Tryz.func10 (by kernel_rfl)
  (of_decide_eq_true (by kernel_rfl)) (by unfold Func.isWrapper;first | (rw [if_pos (by decide +kernel)];kernel_rfl) | (rw [if_neg (by decide +kernel)];exact ⟨rfl,rfl⟩))
  (fun os started H enc _=>acv os started H enc)
end Go.Proofs.YtlphgcjepphhcaaGreat
