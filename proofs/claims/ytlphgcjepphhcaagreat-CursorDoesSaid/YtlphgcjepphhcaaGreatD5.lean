/-
  Texts that the last one stands on.
-/
import Derived.Test.YtlphgcjepphhcaaGreatD4
noncomputable section
open Go.Lite.V renaming str->aE,int->aB,bool->bc,agg->aH,sl->aG,ptr->aK,tup->aT,tail->bC,ifc->ig,junk->bo,own->dG,flat1->jw
open Go.Lite.O renaming box->aJ,row->aM
open Bool renaming false->aD,true->aC
open Go renaming FuncId->bL
open Option renaming none->aF,some->aA,map_some->du
open List renaming mem_cons->dE,not_mem_nil->FN,replicate->dh,getElem?_eq_getElem->cj,take_add_one->FO,getElem?_drop->js,length_map->d9,map_append->gA,append_assoc->cO,map_cons->d8,map_nil->fX,cons_append->ew,nil_append->eA,getElem?_append_right->eO,drop_eq_nil_iff->Lj,length->oZ
open Int renaming natCast_nonneg->Lg
open Nat renaming sub_self->qC
namespace Go.Proofs.YtlphgcjepphhcaaGreat
open Go Go.Lite
set_option maxRecDepth 100000
set_option linter.unusedVariables false
def eD(c:V)(d:List UInt8->List UInt8->R): R:=kA c fun a=>bU a fun b a=>kS b fun e=>bU a fun b a=>kS b fun f=>eo a<|(d e f)
@[simp] theorem fN(x0:List UInt8)(x1:List UInt8)(k:List UInt8->List UInt8->R):eD (.agg [aE x0,aE x1]) k=k x0 x1:=rfl
@[congr] theorem ahx{v v':V}{k:List UInt8->List UInt8->R}(h:v=v'):eD v k=eD v' k:=by rw[h]
def i7(c:V)(d:List UInt8->Int->R): R:=kT c fun a=>bU a fun b a=>kS b fun e=>bU a fun b a=>kI .i64 b fun f=>eo a (d e f)
@[simp] theorem jA(x0:List UInt8)(x1:Int)(k:List UInt8->Int->R):i7 (.tup [aE x0,aB .i64 x1]) k=k x0 x1:=rfl
@[congr] theorem ahz{v v':V}{k:List UInt8->Int->R}(h:v=v'):i7 v k=i7 v' k:=by rw[h]
def gt(c:V)(d:List UInt8->Int->Int->R): R:=kT c fun a=>bU a fun b a=>kS b fun e=>bU a fun b a=>kI .i64 b fun f=>bU a fun b a=>kI .i64 b fun g=>eo a (d e f g)
@[simp] theorem d5(x0:List UInt8)(x1:Int)(x2:Int)(k:List UInt8->Int->Int->R):gt (.tup [aE x0,aB .i64 x1,aB .i64 x2]) k=k x0 x1 x2:=rfl
@[congr] theorem ahj{v v':V}{k:List UInt8->Int->Int->R}(h:v=v'):gt v k=gt v' k:=by rw[h]
def mE(c:V)(d:Int->Int->R): R:=kT c fun a=>bU a fun b a=>kI .u64 b fun e=>bU a fun b a=>kI .i64 b fun f=>eo a (d e f)
@[simp] theorem ki(x0:Int)(x1:Int)(k:Int->Int->R):mE (.tup [aB .u64 x0,aB .i64 x1]) k=k x0 x1:=rfl
@[congr] theorem ahv{v v':V}{k:Int->Int->R}(h:v=v'):mE v k=mE v' k:=by rw[h]
def lu(c:V)(d:Int->Bool->R): R:=kT c fun a=>bU a fun b a=>kI .i64 b fun e=>bU a fun b a=>kB b fun f=>eo a (d e f)
@[simp] theorem sN(x0:Int)(x1:Bool)(k:Int->Bool->R):lu (.tup [aB .i64 x0,bc x1]) k=k x0 x1:=rfl
@[congr] theorem ahl{v v':V}{k:Int->Bool->R}(h:v=v'):lu v k=lu v' k:=by rw[h]
def uP(c:V)(d:Int->Int->R): R:=kT c fun a=>bU a fun b a=>kI .i64 b fun e=>bU a fun b a=>kI .i64 b fun f=>eo a (d e f)
@[simp] theorem Ct(x0:Int)(x1:Int)(k:Int->Int->R):uP (.tup [aB .i64 x0,aB .i64 x1]) k=k x0 x1:=rfl
@[congr] theorem ahi{v v':V}{k:Int->Int->R}(h:v=v'):uP v k=uP v' k:=by rw[h]
def Cx(d:V)(e:List V->List UInt8->Int->Int->Bool->R): R:=kT d fun b=>bU b fun a b=>kA a fun c=>bU c fun a c=>kL a fun f=>bU c fun a c=>kS a fun g=>bU c fun a c=>kI .i64 a fun h=>eo c<|bU b fun a b=>kI .i64 a fun i=>bU b fun a b=>kB a fun j=>eo b (e f g h i j)
@[simp] theorem MC(x0:List V)(x1:List UInt8)(x2:Int)(x3:Int)(x4:Bool)(k:List V->List UInt8->Int->Int->Bool->R):Cx (.tup [aH [aG x0,aE x1,aB .i64 x2],aB .i64 x3,bc x4]) k=k x0 x1 x2 x3 x4:=rfl
@[congr] theorem ahu{v v':V}{k:List V->List UInt8->Int->Int->Bool->R}(h:v=v'):Cx v k=Cx v' k:=by rw[h]
def zM(c:V)(d:Int->List UInt8->List UInt8->Int->R): R:=kA c fun a=>bU a fun b a=>kI .i64 b fun e=>bU a fun b a=>kS b fun f=>bU a fun b a=>kS b fun g=>bU a fun b a=>kI .i64 b fun h=>eo a<|(d e f g h)
@[simp] theorem zN(x0:Int)(x1:List UInt8)(x2:List UInt8)(x3:Int)(k:Int->List UInt8->List UInt8->Int->R):zM (.agg [aB .i64 x0,aE x1,aE x2,aB .i64 x3]) k=k x0 x1 x2 x3:=rfl
@[congr] theorem ahw{v v':V}{k:Int->List UInt8->List UInt8->Int->R}(h:v=v'):zM v k=zM v' k:=by rw[h]
def uR(c:V)(d:List UInt8->Bool->R): R:=kT c fun a=>bU a fun b a=>kS b fun e=>bU a fun b a=>kB b fun f=>eo a (d e f)
@[simp] theorem Cy(x0:List UInt8)(x1:Bool)(k:List UInt8->Bool->R):uR (.tup [aE x0,bc x1]) k=k x0 x1:=rfl
@[congr] theorem ahy{v v':V}{k:List UInt8->Bool->R}(h:v=v'):uR v k=uR v' k:=by rw[h]
def qN(d:V)(e:List V->List UInt8->Int->Int->R): R:=kT d fun c=>bU c fun a c=>kA a fun b=>bU b fun a b=>kL a fun f=>bU b fun a b=>kS a fun g=>bU b fun a b=>kI .i64 a fun h=>eo b<|bU c fun a c=>kI .i64 a fun i=>eo c (e f g h i)
@[simp] theorem n8(x0:List V)(x1:List UInt8)(x2:Int)(x3:Int)(k:List V->List UInt8->Int->Int->R):qN (.tup [aH [aG x0,aE x1,aB .i64 x2],aB .i64 x3]) k=k x0 x1 x2 x3:=rfl
@[congr] theorem ahk{v v':V}{k:List V->List UInt8->Int->Int->R}(h:v=v'):qN v k=qN v' k:=by rw[h]
def nr(d:V)(e:List V->List UInt8->Int->Int->R): R:=kT d fun c=>bU c fun a c=>kA a fun b=>bU b fun a b=>kL a fun f=>bU b fun a b=>kS a fun g=>bU b fun a b=>kI .i64 a fun h=>eo b<|bU c fun a c=>kI .i64 a fun i=>eo c (e f g h i)
@[simp] theorem n9(x0:List V)(x1:List UInt8)(x2:Int)(x3:Int)(k:List V->List UInt8->Int->Int->R):nr (.tup [aH [aG x0,aE x1,aB .i64 x2],aB .i64 x3]) k=k x0 x1 x2 x3:=rfl
@[congr] theorem ahm{v v':V}{k:List V->List UInt8->Int->Int->R}(h:v=v'):nr v k=nr v' k:=by rw[h]
def Cu(d:V)(e:List V->List UInt8->Int->List V->List UInt8->Int->Int->R): R:=kT d fun c=>bU c fun a c=>kA a fun b=>bU b fun a b=>kL a fun f=>bU b fun a b=>kS a fun g=>bU b fun a b=>kI .i64 a fun h=>eo b<|bU c fun a c=>kA a fun b=>bU b fun a b=>kL a fun i=>bU b fun a b=>kS a fun j=>bU b fun a b=>kI .i64 a fun k=>eo b<|bU c fun a c=>kI .i64 a fun l=>eo c (e f g h i j k l)
@[simp] theorem Wb(x0:List V)(x1:List UInt8)(x2:Int)(x3:List V)(x4:List UInt8)(x5:Int)(x6:Int)(k:List V->List UInt8->Int->List V->List UInt8->Int->Int->R):Cu (.tup [aH [aG x0,aE x1,aB .i64 x2],aH [aG x3,aE x4,aB .i64 x5],aB .i64 x6]) k=k x0 x1 x2 x3 x4 x5 x6:=rfl
@[congr] theorem ahn{v v':V}{k:List V->List UInt8->Int->List V->List UInt8->Int->Int->R}(h:v=v'):Cu v k=Cu v' k:=by rw[h]
def Cv(d:V)(e:List V->List UInt8->Int->List V->List UInt8->Int->Int->R): R:=kT d fun c=>bU c fun a c=>kA a fun b=>bU b fun a b=>kL a fun f=>bU b fun a b=>kS a fun g=>bU b fun a b=>kI .i64 a fun h=>eo b<|bU c fun a c=>kA a fun b=>bU b fun a b=>kL a fun i=>bU b fun a b=>kS a fun j=>bU b fun a b=>kI .i64 a fun k=>eo b<|bU c fun a c=>kI .i64 a fun l=>eo c (e f g h i j k l)
@[simp] theorem MB(x0:List V)(x1:List UInt8)(x2:Int)(x3:List V)(x4:List UInt8)(x5:Int)(x6:Int)(k:List V->List UInt8->Int->List V->List UInt8->Int->Int->R):Cv (.tup [aH [aG x0,aE x1,aB .i64 x2],aH [aG x3,aE x4,aB .i64 x5],aB .i64 x6]) k=k x0 x1 x2 x3 x4 x5 x6:=rfl
@[congr] theorem ahp{v v':V}{k:List V->List UInt8->Int->List V->List UInt8->Int->Int->R}(h:v=v'):Cv v k=Cv v' k:=by rw[h]
def sP(d:V)(e:List V->List V->List UInt8->Int->Int->R): R:=kT d fun c=>bU c fun a c=>kA a fun b=>bU b fun a b=>kL a fun f=>bU b fun a b=>kL a fun g=>bU b fun a b=>kS a fun h=>bU b fun a b=>kI .i64 a fun i=>eo b<|bU c fun a c=>kI .i64 a fun j=>eo c (e f g h i j)
@[simp] theorem uQ(x0:List V)(x1:List V)(x2:List UInt8)(x3:Int)(x4:Int)(k:List V->List V->List UInt8->Int->Int->R):sP (.tup [aH [aG x0,aG x1,aE x2,aB .i64 x3],aB .i64 x4]) k=k x0 x1 x2 x3 x4:=rfl
@[congr] theorem ahr{v v':V}{k:List V->List V->List UInt8->Int->Int->R}(h:v=v'):sP v k=sP v' k:=by rw[h]
def zK(d:V)(e:List V->List V->List UInt8->Int->List V->List V->List UInt8->Int->List UInt8->Int->R): R:=kT d fun c=>bU c fun a c=>kA a fun b=>bU b fun a b=>kL a fun f=>bU b fun a b=>kL a fun g=>bU b fun a b=>kS a fun h=>bU b fun a b=>kI .i64 a fun i=>eo b<|bU c fun a c=>kA a fun b=>bU b fun a b=>kL a fun j=>bU b fun a b=>kL a fun k=>bU b fun a b=>kS a fun l=>bU b fun a b=>kI .i64 a fun m=>eo b<|bU c fun a c=>kS a fun n=>bU c fun a c=>kI .i64 a fun o=>eo c (e f g h i j k l m n o)
@[simp] theorem Wc(x0:List V)(x1:List V)(x2:List UInt8)(x3:Int)(x4:List V)(x5:List V)(x6:List UInt8)(x7:Int)(x8:List UInt8)(x9:Int)(k:List V->List V->List UInt8->Int->List V->List V->List UInt8->Int->List UInt8->Int->R):zK (.tup [aH [aG x0,aG x1,aE x2,aB .i64 x3],aH [aG x4,aG x5,aE x6,aB .i64 x7],aE x8,aB .i64 x9]) k=k x0 x1 x2 x3 x4 x5 x6 x7 x8 x9:=rfl
@[congr] theorem ahs{v v':V}{k:List V->List V->List UInt8->Int->List V->List V->List UInt8->Int->List UInt8->Int->R}(h:v=v'):zK v k=zK v' k:=by rw[h]
def nu(c:V)(d:Int->List V->List V->List UInt8->Int->Int->R): R:=kA c fun a=>bU a fun b a=>kI .i64 b fun e=>bU a fun b a=>kL b fun f=>bU a fun b a=>kL b fun g=>bU a fun b a=>kS b fun h=>bU a fun b a=>kI .i64 b fun i=>bU a fun b a=>kI .i64 b fun j=>eo a<|(d e f g h i j)
@[simp] theorem oa(x0:Int)(x1:List V)(x2:List V)(x3:List UInt8)(x4:Int)(x5:Int)(k:Int->List V->List V->List UInt8->Int->Int->R):nu (.agg [aB .i64 x0,aG x1,aG x2,aE x3,aB .i64 x4,aB .i64 x5]) k=k x0 x1 x2 x3 x4 x5:=rfl
@[congr] theorem aho{v v':V}{k:Int->List V->List V->List UInt8->Int->Int->R}(h:v=v'):nu v k=nu v' k:=by rw[h]
def sO(d:V)(e:List V->List V->List UInt8->Int->Int->R): R:=kT d fun c=>bU c fun a c=>kA a fun b=>bU b fun a b=>kL a fun f=>bU b fun a b=>kL a fun g=>bU b fun a b=>kS a fun h=>bU b fun a b=>kI .i64 a fun i=>eo b<|bU c fun a c=>kI .i64 a fun j=>eo c (e f g h i j)
@[simp] theorem w6(x0:List V)(x1:List V)(x2:List UInt8)(x3:Int)(x4:Int)(k:List V->List V->List UInt8->Int->Int->R):sO (.tup [aH [aG x0,aG x1,aE x2,aB .i64 x3],aB .i64 x4]) k=k x0 x1 x2 x3 x4:=rfl
@[congr] theorem ahq{v v':V}{k:List V->List V->List UInt8->Int->Int->R}(h:v=v'):sO v k=sO v' k:=by rw[h]
def Cw(d:V)(e:List V->List V->List UInt8->Int->List V->List V->List UInt8->Int->List UInt8->Int->R): R:=kT d fun c=>bU c fun a c=>kA a fun b=>bU b fun a b=>kL a fun f=>bU b fun a b=>kL a fun g=>bU b fun a b=>kS a fun h=>bU b fun a b=>kI .i64 a fun i=>eo b<|bU c fun a c=>kA a fun b=>bU b fun a b=>kL a fun j=>bU b fun a b=>kL a fun k=>bU b fun a b=>kS a fun l=>bU b fun a b=>kI .i64 a fun m=>eo b<|bU c fun a c=>kS a fun n=>bU c fun a c=>kI .i64 a fun o=>eo c (e f g h i j k l m n o)
@[simp] theorem Wd(x0:List V)(x1:List V)(x2:List UInt8)(x3:Int)(x4:List V)(x5:List V)(x6:List UInt8)(x7:Int)(x8:List UInt8)(x9:Int)(k:List V->List V->List UInt8->Int->List V->List V->List UInt8->Int->List UInt8->Int->R):Cw (.tup [aH [aG x0,aG x1,aE x2,aB .i64 x3],aH [aG x4,aG x5,aE x6,aB .i64 x7],aE x8,aB .i64 x9]) k=k x0 x1 x2 x3 x4 x5 x6 x7 x8 x9:=rfl
@[congr] theorem aht{v v':V}{k:List V->List V->List UInt8->Int->List V->List V->List UInt8->Int->List UInt8->Int->R}(h:v=v'):Cw v k=Cw v' k:=by rw[h]
def Ap(L:Unit):V × List O:=(V.nilP,[])
def qZ(L:Int × Int × (List (V × V)) × (List V)):V × List O:=(aK 0 0 0,(tm L.1 L.2.1 L.2.2.1 L.2.2.2))
theorem acs:∀L L',qZ L=qZ L'->L=L':=by
 rintro⟨a0,a1,a2,a3⟩ ⟨b0,b1,b2,b3⟩ h;cases h;rfl
theorem acu:∀L L',Ap L≠qZ L':=fun _ _ h=>nomatch h
def tI(L:Int × Int × (List V) × (List V)):V × List O:=(aT [aB .i64 L.1,aB .i64 L.2.1],(rs L.2.2.1 L.2.2.2))
theorem DF:∀L L',tI L=tI L'->L=L':=by
 rintro⟨a0,a1,a2,a3⟩ ⟨b0,b1,b2,b3⟩ h;cases h;rfl
def jF(L:Int × (List V) × (List V)):V × List O:=(aB .i64 L.1,(rs L.2.1 L.2.2))
theorem lF:∀L L',jF L=jF L'->L=L':=by
 rintro⟨a0,a1,a2⟩ ⟨b0,b1,b2⟩ h;cases h;rfl
def Au(L:Int × Int × Int × (List (V × V)) × (List V) × (List V) × (List V)):V × List O:=(aT [],[aJ 128 (aH [aK 2 0 0,aB .i64 L.1]) aD,aJ 91 (aH [aK 3 0 0,aB .i64 L.2.1]) aD,aJ 140 (aH [aK 4 0 0,V.mp 5]) aD,aJ 102 (aH [aK 6 0 0,bC 7 0]) aD,aJ 192 (aH [bC 8 0,aB .i64 L.2.2.1]) aC,O.map L.2.2.2.1,aJ 159 (aH [bC 9 0]) aD,aM 9 L.2.2.2.2.1 0,aM 5 L.2.2.2.2.2.1 0,aM 4 L.2.2.2.2.2.2 0])
theorem Dz:∀L L',Au L=Au L'->L=L':=by
 rintro⟨a0,a1,a2,a3,a4,a5,a6⟩ ⟨b0,b1,b2,b3,b4,b5,b6⟩ h;cases h;rfl
def vx(L:(List UInt8) × (List UInt8) × Bool × (List UInt8) × (List UInt8) × (List UInt8) × Int × Int × (List (V × V)) × (List V)):V × List O:=(aT [aH [aE L.1,aE L.2.1],bc L.2.2.1],(cm L.2.2.2.1 L.2.2.2.2.1 L.2.2.2.2.2.1 L.2.2.2.2.2.2.1 L.2.2.2.2.2.2.2.1 L.2.2.2.2.2.2.2.2.1 L.2.2.2.2.2.2.2.2.2))
theorem DC:∀L L',vx L=vx L'->L=L':=by
 rintro⟨a0,a1,a2,a3,a4,a5,a6,a7,a8,a9⟩ ⟨b0,b1,b2,b3,b4,b5,b6,b7,b8,b9⟩ h;cases h;rfl
def vy(L:(List UInt8) × (List UInt8) × Bool × (List UInt8) × (List UInt8) × (List UInt8) × Bool × Int × (List V) × (List V)):V × List O:=(aT [aH [aE L.1,aE L.2.1],bc L.2.2.1],[aJ 55 (aH [aE L.2.2.2.1,aE L.2.2.2.2.1,aE L.2.2.2.2.2.1,bc L.2.2.2.2.2.2.1]) aD,aJ 91 (aH [aK 2 0 0,aB .i64 L.2.2.2.2.2.2.2.1]) aD,aJ 102 (aH [aK 3 0 0,bC 4 0]) aD,aJ 159 (aH [bC 5 0]) aD,aM 9 L.2.2.2.2.2.2.2.2.1 0,aM 4 L.2.2.2.2.2.2.2.2.2 0])
theorem DD:∀L L',vy L=vy L'->L=L':=by
 rintro⟨a0,a1,a2,a3,a4,a5,a6,a7,a8,a9⟩ ⟨b0,b1,b2,b3,b4,b5,b6,b7,b8,b9⟩ h;cases h;rfl
def xO(L:(List V) × (List UInt8) × (List UInt8) × (List UInt8) × Int × Int × (List (V × V)) × (List V)):V × List O:=(aG L.1,(cm L.2.1 L.2.2.1 L.2.2.2.1 L.2.2.2.2.1 L.2.2.2.2.2.1 L.2.2.2.2.2.2.1 L.2.2.2.2.2.2.2))
theorem acz:∀L L',xO L=xO L'->L=L':=by
 rintro⟨a0,a1,a2,a3,a4,a5,a6,a7⟩ ⟨b0,b1,b2,b3,b4,b5,b6,b7⟩ h;cases h;rfl
def vz(L:(List V) × (List UInt8) × (List UInt8) × (List UInt8) × Bool × Int × (List V) × (List V)):V × List O:=(aG L.1,[aJ 55 (aH [aE L.2.1,aE L.2.2.1,aE L.2.2.2.1,bc L.2.2.2.2.1]) aD,aJ 91 (aH [aK 2 0 0,aB .i64 L.2.2.2.2.2.1]) aD,aJ 102 (aH [aK 3 0 0,bC 4 0]) aD,aJ 159 (aH [bC 5 0]) aD,aM 9 L.2.2.2.2.2.2.1 0,aM 4 L.2.2.2.2.2.2.2 0])
theorem acA:∀L L',vz L=vz L'->L=L':=by
 rintro⟨a0,a1,a2,a3,a4,a5,a6,a7⟩ ⟨b0,b1,b2,b3,b4,b5,b6,b7⟩ h;cases h;rfl
def pO(M:List O)(L:(List UInt8)):V × List O:=(aE L,M)
theorem ID(M:List O):∀L L',pO M L=pO M L'->L=L':=by
 rintro a0 b0 h;simpa[pO]using h
def vA(M:List O)(L:(List UInt8)):V × List O:=(aE L,M)
theorem acB(M:List O):∀L L',vA M L=vA M L'->L=L':=by
 rintro a0 b0 h;simpa[vA]using h
def xP(L:Int):V × List O:=(aT [V.nilP,aB .i64 L],[])
def rc(L:Int × (List UInt8) × (List UInt8) × (List UInt8)):V × List O:=(aT [aK 0 0 0,aB .i64 L.1],[aJ 111 (aH [aE L.2.1,aE L.2.2.1,aE L.2.2.2]) aD])
theorem acC:∀L L',rc L=rc L'->L=L':=by
 rintro⟨a0,a1,a2,a3⟩ ⟨b0,b1,b2,b3⟩ h;cases h;rfl
theorem acD:∀L L',xP L≠rc L':=fun _ _ h=>nomatch h
def Ax(L:Int × Int × (List V)):V × List O:=(aT [aB .i64 L.1,aB .i64 L.2.1],(rb L.2.2))
theorem acV:∀L L',Ax L=Ax L'->L=L':=by
 rintro⟨a0,a1,a2⟩ ⟨b0,b1,b2⟩ h;cases h;rfl
def vu(M:List O)(L:Int):V × List O:=(aB .i64 L,M)
theorem Qh(M:List O):∀L L',vu M L=vu M L'->L=L':=by
 rintro a0 b0 h;simpa[vu]using h
def vB(L:Bool × Int × Int × Int × (List (V × V)) × (List V)):V × List O:=(aT [bc L.1,aB .i64 L.2.1],(tm L.2.2.1 L.2.2.2.1 L.2.2.2.2.1 L.2.2.2.2.2))
theorem acE:∀L L',vB L=vB L'->L=L':=by
 rintro⟨a0,a1,a2,a3,a4,a5⟩ ⟨b0,b1,b2,b3,b4,b5⟩ h;cases h;rfl
def Aw(L:Bool × Int × Int × (List V) × (List V)):V × List O:=(aT [bc L.1,aB .i64 L.2.1],(rm L.2.2.1 L.2.2.2.1 L.2.2.2.2))
theorem acJ:∀L L',Aw L=Aw L'->L=L':=by
 rintro⟨a0,a1,a2,a3,a4⟩ ⟨b0,b1,b2,b3,b4⟩ h;cases h;rfl
def tH(L:Int × Int × Int × (List (V × V)) × (List V)):V × List O:=(aB .i64 L.1,(tm L.2.1 L.2.2.1 L.2.2.2.1 L.2.2.2.2))
theorem acF:∀L L',tH L=tH L'->L=L':=by
 rintro⟨a0,a1,a2,a3,a4⟩ ⟨b0,b1,b2,b3,b4⟩ h;cases h;rfl
def xU(L:Int × Int × (List V) × (List V)):V × List O:=(aB .i64 L.1,(rm L.2.1 L.2.2.1 L.2.2.2))
theorem acK:∀L L',xU L=xU L'->L=L':=by
 rintro⟨a0,a1,a2,a3⟩ ⟨b0,b1,b2,b3⟩ h;cases h;rfl
def xQ(M:List O)(L:(List V)):V × List O:=(aG L,M)
theorem acG(M:List O):∀L L',xQ M L=xQ M L'->L=L':=by
 rintro a0 b0 h;simpa[xQ]using h
def xV(M:List O)(L:(List V)):V × List O:=(aG L,M)
theorem acL(M:List O):∀L L',xV M L=xV M L'->L=L':=by
 rintro a0 b0 h;simpa[xV]using h
def Al(L:(List V) × Int × Int × (List UInt8) × (List UInt8) × (List UInt8) × Int × (List (V × V)) × (List V)):V × List O:=(aG L.1,(mm L.2.1 L.2.2.1 L.2.2.2.1 L.2.2.2.2.1 L.2.2.2.2.2.1 L.2.2.2.2.2.2.1 L.2.2.2.2.2.2.2.1 L.2.2.2.2.2.2.2.2))
theorem acl:∀L L',Al L=Al L'->L=L':=by
 rintro⟨a0,a1,a2,a3,a4,a5,a6,a7,a8⟩ ⟨b0,b1,b2,b3,b4,b5,b6,b7,b8⟩ h;cases h;rfl
def Ao(L:Int × (List V)):V × List O:=(aB .i64 L.1,(rb L.2))
theorem acp:∀L L',Ao L=Ao L'->L=L':=by
 rintro⟨a0,a1⟩ ⟨b0,b1⟩ h;cases h;rfl
def xM(M:List O)(L:Bool):V × List O:=(bc L,M)
theorem acr(M:List O):∀L L',xM M L=xM M L'->L=L':=by
 rintro a0 b0 h;simpa[xM]using h
def vD(M:List O)(L:(List V) × (List V) × (List UInt8) × Int × Int):V × List O:=(aT [aG L.1,aH [aG L.2.1,aE L.2.2.1,aB .i64 L.2.2.2.1],aB .i64 L.2.2.2.2],M)
theorem vE(M:List O):∀L L',vD M L=vD M L'->L=L':=by
 rintro⟨a0,a1,a2,a3,a4⟩ ⟨b0,b1,b2,b3,b4⟩ h;simp[vD]at h;simp[h]
def iu(L:Int × Int × (List (V × V)) × (List V)):V × List O:=(aT [],(tm L.1 L.2.1 L.2.2.1 L.2.2.2))
theorem k6:∀L L',iu L=iu L'->L=L':=by
 rintro⟨a0,a1,a2,a3⟩ ⟨b0,b1,b2,b3⟩ h;cases h;rfl
def xR(M:List O)(L:Int):V × List O:=(aB .i64 L,M)
theorem Qo(M:List O):∀L L',xR M L=xR M L'->L=L':=by
 rintro a0 b0 h;simpa[xR]using h
def vF(L:Int × Int × (List (V × V)) × (List V)):V × List O:=(aT [],(tm L.1 L.2.1 L.2.2.1 L.2.2.2))
theorem acM:∀L L',vF L=vF L'->L=L':=by
 rintro⟨a0,a1,a2,a3⟩ ⟨b0,b1,b2,b3⟩ h;cases h;rfl
def vv(M:List O)(L:(List V)):V × List O:=(aG L,M)
theorem vw(M:List O):∀L L',vv M L=vv M L'->L=L':=by
 rintro a0 b0 h;simpa[vv]using h
def oG(M:List O)(L:(List V) × (List UInt8) × Int × Bool):V × List O:=(aT [aH [aG L.1,aE L.2.1,aB .i64 L.2.2.1],bc L.2.2.2],M)
theorem nL(M:List O):∀L L',oG M L=oG M L'->L=L':=by
 rintro⟨a0,a1,a2,a3⟩ ⟨b0,b1,b2,b3⟩ h;simp[oG]at h;simp[h]
def xG(M:List O)(L:Int):V × List O:=(aB .i64 L,M)
theorem Qi(M:List O):∀L L',xG M L=xG M L'->L=L':=by
 rintro a0 b0 h;simpa[xG]using h
def xH(L:Int × (List V) × (List V)):V × List O:=(aT [],(rm L.1 L.2.1 L.2.2))
theorem Qj:∀L L',xH L=xH L'->L=L':=by
 rintro⟨a0,a1,a2⟩ ⟨b0,b1,b2⟩ h;cases h;rfl
def xW(L:Int × Int × (List (V × V)) × (List V)):V × List O:=(aT [],(tm L.1 L.2.1 L.2.2.1 L.2.2.2))
theorem acN:∀L L',xW L=xW L'->L=L':=by
 rintro⟨a0,a1,a2,a3⟩ ⟨b0,b1,b2,b3⟩ h;cases h;rfl
def Ak(L:Int × (List V) × (List V)):V × List O:=(aT [],(rm L.1 L.2.1 L.2.2))
theorem ack:∀L L',Ak L=Ak L'->L=L':=by
 rintro⟨a0,a1,a2⟩ ⟨b0,b1,b2⟩ h;cases h;rfl
def xS(M:List O)(L:(List V)):V × List O:=(aG L,M)
theorem acH(M:List O):∀L L',xS M L=xS M L'->L=L':=by
 rintro a0 b0 h;simpa[xS]using h
def jh(M:List O)(L:(List V) × (List UInt8) × Int):V × List O:=(ig 120 (aH [aG L.1,aE L.2.1,aB .i64 L.2.2]),M)
theorem acO(M:List O):∀L L',jh M L=jh M L'->L=L':=by
 rintro⟨a0,a1,a2⟩ ⟨b0,b1,b2⟩ h;simp[jh]at h;simp[h]
def ji(M:List O)(L:(List V) × (List V) × (List UInt8) × Int):V × List O:=(ig 150 (aH [aG L.1,aG L.2.1,aE L.2.2.1,aB .i64 L.2.2.2]),M)
theorem acP(M:List O):∀L L',ji M L=ji M L'->L=L':=by
 rintro⟨a0,a1,a2,a3⟩ ⟨b0,b1,b2,b3⟩ h;simp[ji]at h;simp[h]
theorem acQ(M:List O):∀L L',jh M L≠ji M L':=by
 intro L L' h;simp[jh,ji]at h
def l8(M:List O)(L:Unit):V × List O:=(V.nilI,M)
def xT(M:List O)(L:(List V)):V × List O:=(aG L,M)
theorem acI(M:List O):∀L L',xT M L=xT M L'->L=L':=by
 rintro a0 b0 h;simpa[xT]using h
def xI(L:Int × Int × (List (V × V)) × (List V)):V × List O:=(aB .i64 L.1,(sm L.2.1 L.2.2.1 L.2.2.2))
theorem Qk:∀L L',xI L=xI L'->L=L':=by
 rintro⟨a0,a1,a2,a3⟩ ⟨b0,b1,b2,b3⟩ h;cases h;rfl
def xY(M:List O)(L:Int):V × List O:=(aB .i64 L,M)
theorem acS(M:List O):∀L L',xY M L=xY M L'->L=L':=by
 rintro a0 b0 h;simpa[xY]using h
def vG(L:Int × Int × Int × (List (V × V)) × (List V)):V × List O:=(aT [aB .i64 L.1,aB .i64 L.2.1],(sm L.2.2.1 L.2.2.2.1 L.2.2.2.2))
theorem DG:∀L L',vG L=vG L'->L=L':=by
 rintro⟨a0,a1,a2,a3,a4⟩ ⟨b0,b1,b2,b3,b4⟩ h;cases h;rfl
def tF(L:Int × Int × (List (V × V)) × (List V)):V × List O:=(aT [],(tm L.1 L.2.1 L.2.2.1 L.2.2.2))
theorem Ql:∀L L',tF L=tF L'->L=L':=by
 rintro⟨a0,a1,a2,a3⟩ ⟨b0,b1,b2,b3⟩ h;cases h;rfl
def jY(M:List O)(L:(List V) × (List V) × (List UInt8) × Int × Bool):V × List O:=(aT [aH [aG L.1,aG L.2.1,aE L.2.2.1,aB .i64 L.2.2.2.1],bc L.2.2.2.2],M)
theorem l9(M:List O):∀L L',jY M L=jY M L'->L=L':=by
 rintro⟨a0,a1,a2,a3,a4⟩ ⟨b0,b1,b2,b3,b4⟩ h;simp[jY]at h;simp[h]
def vH(M:List O)(L:(List UInt8) × Int):V × List O:=(aT [aE L.1,aB .i64 L.2],M)
theorem DI(M:List O):∀L L',vH M L=vH M L'->L=L':=by
 rintro⟨a0,a1⟩ ⟨b0,b1⟩ h;simp[vH]at h;simp[h]
def ya(M:List O)(L:(List V)):V × List O:=(aG L,M)
theorem acU(M:List O):∀L L',ya M L=ya M L'->L=L':=by
 rintro a0 b0 h;simpa[ya]using h
def xJ(M:List O)(L:(List V)):V × List O:=(aG L,M)
theorem acm(M:List O):∀L L',xJ M L=xJ M L'->L=L':=by
 rintro a0 b0 h;simpa[xJ]using h
def xK(L:Int × Int × (List (V × V)) × (List V)):V × List O:=(aB .i64 L.1,(sm L.2.1 L.2.2.1 L.2.2.2))
theorem Qm:∀L L',xK L=xK L'->L=L':=by
 rintro⟨a0,a1,a2,a3⟩ ⟨b0,b1,b2,b3⟩ h;cases h;rfl
def Am(L:Int × Int × (List (V × V)) × (List V)):V × List O:=(aT [],(tm L.1 L.2.1 L.2.2.1 L.2.2.2))
theorem acn:∀L L',Am L=Am L'->L=L':=by
 rintro⟨a0,a1,a2,a3⟩ ⟨b0,b1,b2,b3⟩ h;cases h;rfl
def re(M:List O)(L:(List V)):V × List O:=(aG L,M)
theorem Qp(M:List O):∀L L',re M L=re M L'->L=L':=by
 rintro a0 b0 h;simpa[re]using h
def tG(L:Int × (List V) × (List V)):V × List O:=(aT [],(rm L.1 L.2.1 L.2.2))
theorem IC:∀L L',tG L=tG L'->L=L':=by
 rintro⟨a0,a1,a2⟩ ⟨b0,b1,b2⟩ h;cases h;rfl
def xN(L:Int × (List V) × (List V)):V × List O:=(aB .i64 L.1,(rs L.2.1 L.2.2))
theorem Qn:∀L L',xN L=xN L'->L=L':=by
 rintro⟨a0,a1,a2⟩ ⟨b0,b1,b2⟩ h;cases h;rfl
def xX(M:List O)(L:(List V)):V × List O:=(aG L,M)
theorem acR(M:List O):∀L L',xX M L=xX M L'->L=L':=by
 rintro a0 b0 h;simpa[xX]using h
def vC(M:List O)(L:(List UInt8) × Int):V × List O:=(aT [aE L.1,aB .i64 L.2],M)
theorem IE(M:List O):∀L L',vC M L=vC M L'->L=L':=by
 rintro⟨a0,a1⟩ ⟨b0,b1⟩ h;simp[vC]at h;simp[h]
def xZ(M:List O)(L:(List V)):V × List O:=(aG L,M)
theorem acT(M:List O):∀L L',xZ M L=xZ M L'->L=L':=by
 rintro a0 b0 h;simpa[xZ]using h
def An(L:Int × Int × Int × (List V)):V × List O:=(aT [aB .i64 L.1,aB .i64 L.2.1],(bm L.2.2.1 L.2.2.2))
theorem aco:∀L L',An L=An L'->L=L':=by
 rintro⟨a0,a1,a2,a3⟩ ⟨b0,b1,b2,b3⟩ h;cases h;rfl
def Aq(L:(List V)):V × List O:=(aT [],[aM 3 L 0])
theorem acv:∀L L',Aq L=Aq L'->L=L':=by
 rintro a0 b0 h;cases h;rfl
def Ar(L:Int × Int × (List V)):V × List O:=(aB .i64 L.1,(bm L.2.1 L.2.2))
theorem acw:∀L L',Ar L=Ar L'->L=L':=by
 rintro⟨a0,a1,a2⟩ ⟨b0,b1,b2⟩ h;cases h;rfl
def Av(L:Int × (List V)):V × List O:=(aB .i64 L.1,(rb L.2))
theorem acy:∀L L',Av L=Av L'->L=L':=by
 rintro⟨a0,a1⟩ ⟨b0,b1⟩ h;cases h;rfl
def qY(M:List O)(L:Bool):V × List O:=(bc L,M)
theorem xL(M:List O):∀L L',qY M L=qY M L'->L=L':=by
 rintro a0 b0 h;simpa[qY]using h
def As(L:Int × Int × (List V)):V × List O:=(aB .i64 L.1,(bm L.2.1 L.2.2))
theorem acx:∀L L',As L=As L'->L=L':=by
 rintro⟨a0,a1,a2⟩ ⟨b0,b1,b2⟩ h;cases h;rfl
def jJ {α:Type} (c:CM) (f:bL) (a:List V) (m:List O) (k:V->List O->R) (n:Nat) (g:α->V × List O) (r:R):R:=cond (f==n) (bH aI c g f a m fun L=>k (g L).1 (g L).2) r
def Jj (cm:CM) (f:bL) (args:List V) (mem:List O) (k:V->List O->R):R:=cond (f==15) (nC aI cm Ap qZ f args mem (fun L=>k (Ap L).1 (Ap L).2) (fun L=>k (qZ L).1 (qZ L).2)) (jJ cm f args mem k 60 tI (jJ cm f args mem k 61 jF (jJ cm f args mem k 20 Au (jJ cm f args mem k 21 vx (jJ cm f args mem k 22 vy (jJ cm f args mem k 24 xO (jJ cm f args mem k 25 vz (jJ cm f args mem k 26 (pO mem) (jJ cm f args mem k 27 (vA mem) (cond (f==28) (nC aI cm xP rc f args mem (fun L=>k (xP L).1 (xP L).2) (fun L=>k (rc L).1 (rc L).2)) (jJ cm f args mem k 99 Ax (jJ cm f args mem k 100 (vu mem) (jJ cm f args mem k 32 vB (jJ cm f args mem k 65 Aw (jJ cm f args mem k 33 tH (jJ cm f args mem k 66 xU (jJ cm f args mem k 34 (xQ mem) (jJ cm f args mem k 67 (xV mem) (jJ cm f args mem k 112 Al (jJ cm f args mem k 142 Ao (jJ cm f args mem k 143 (xM mem) (jJ cm f args mem k 75 (vD mem) (jJ cm f args mem k 78 iu (jJ cm f args mem k 44 (xR mem) (jJ cm f args mem k 79 vF (jJ cm f args mem k 103 (vv mem) (jJ cm f args mem k 104 (oG mem) (jJ cm f args mem k 107 (xG mem) (jJ cm f args mem k 109 xH (jJ cm f args mem k 81 xW (jJ cm f args mem k 111 Ak (jJ cm f args mem k 46 (xS mem) (cond (f==82) (jW aI cm (jh mem) (ji mem) (l8 mem) f args mem (fun L=>k ((jh mem) L).1 ((jh mem) L).2) (fun L=>k ((ji mem) L).1 ((ji mem) L).2) (fun L=>k ((l8 mem) L).1 ((l8 mem) L).2)) (jJ cm f args mem k 55 (xT mem) (jJ cm f args mem k 119 xI (jJ cm f args mem k 89 (xY mem) (jJ cm f args mem k 84 vG (jJ cm f args mem k 123 tF (jJ cm f args mem k 95 (jY mem) (jJ cm f args mem k 94 (vH mem) (jJ cm f args mem k 93 (ya mem) (jJ cm f args mem k 124 (xJ mem) (jJ cm f args mem k 127 xK (jJ cm f args mem k 128 Am (jJ cm f args mem k 56 (re mem) (jJ cm f args mem k 151 tG (jJ cm f args mem k 153 xN (jJ cm f args mem k 87 (xX mem) (jJ cm f args mem k 58 (vC mem) (jJ cm f args mem k 90 (xZ mem) (jJ cm f args mem k 131 An (jJ cm f args mem k 169 Aq (jJ cm f args mem k 174 Ar (jJ cm f args mem k 202 Av (jJ cm f args mem k 137 (qY mem) (jJ cm f args mem k 180 As (aF)))))))))))))))))))))))))))))))))))))))))))))))))))))))))
def Rn:KC:={ Rl with ck:=Jj }
theorem adV:iJ Rn:=⟨adW.ik,fun cm f av mem k r h=>by
 change Jj cm f av mem k=aA r at h;unfold Jj at h;simp only[jJ]at h
 repeat
  rcases dl h with⟨_,h⟩|⟨_,h⟩
  ·first|(obtain⟨L,h1,h2⟩:=De h;exact⟨_,_,h1,h2⟩)|(rcases Pb h with⟨L,h1,h2⟩|⟨L,h1,h2⟩<;>exact⟨_,_,h1,h2⟩)|(rcases aaU h with⟨L,h1,h2⟩|⟨L,h1,h2⟩|⟨L,h1,h2⟩<;>exact⟨_,_,h1,h2⟩)
 cases h⟩
def fF (f:Nat):FA:=(il aI.P (aI.rxf f) f).getD Oh
def O6:KC:=Rn.inl [(52,fF 52),(133,fF 133),(98,fF 98),(179,fF 179),(136,fF 136),(83,fF 83),(51,fF 51),(164,fF 164),(177,fF 177),(178,fF 178),(68,fF 68),(18,fF 18),(59,fF 59),(141,fF 141),(19,fF 19)]
theorem aaM:iJ O6:=Pl adV (by
 intro x hx;simp only[dE,FN,or_false]at hx;rcases hx with rfl|rfl|rfl|rfl|rfl|rfl|rfl|rfl|rfl|rfl|rfl|rfl|rfl|rfl|rfl
 ·exact⟨rfl,iE (by kernel_rfl),rfl⟩
 ·exact⟨rfl,iE (by kernel_rfl),rfl⟩
 ·exact⟨rfl,iE (by kernel_rfl),rfl⟩
 ·exact⟨rfl,iE (by kernel_rfl),rfl⟩
 ·exact⟨rfl,iE (by kernel_rfl),rfl⟩
 ·exact⟨rfl,iE (by kernel_rfl),rfl⟩
 ·exact⟨rfl,iE (by kernel_rfl),rfl⟩
 ·exact⟨rfl,iE (by kernel_rfl),rfl⟩
 ·exact⟨rfl,iE (by kernel_rfl),rfl⟩
 ·exact⟨rfl,iE (by kernel_rfl),rfl⟩
 ·exact⟨rfl,iE (by kernel_rfl),rfl⟩
 ·exact⟨rfl,iE (by kernel_rfl),rfl⟩
 ·exact⟨rfl,iE (by kernel_rfl),rfl⟩
 ·exact⟨rfl,iE (by kernel_rfl),rfl⟩
 ·exact⟨rfl,iE (by kernel_rfl),rfl⟩)
def qk:KC:=O6.inl [(36,fF 36),(37,fF 37),(16,fF 16),(17,fF 17)]
theorem Jh:iJ qk:=Pl aaM (by
 intro x hx;simp only[dE,FN,or_false]at hx;rcases hx with rfl|rfl|rfl|rfl
 ·exact⟨rfl,iE (by kernel_rfl),rfl⟩
 ·exact⟨rfl,iE (by kernel_rfl),rfl⟩
 ·exact⟨rfl,iE (by kernel_rfl),rfl⟩
 ·exact⟨rfl,iE (by kernel_rfl),rfl⟩)
abbrev Rd(imp:Bool)(n0 f i:Nat)(t:S)(s:R):Prop:=∀{o o':dR},s=aA o->Go qk imp n0 (fF f) o o'->Go qk imp n0 (fF f) (.head i t) o'
theorem rd{imp:Bool}{n0 f i:Nat}{t:S}{s:R}(h:OZ qk imp n0 (fF f) i t=s:=by kernel_rfl):Rd imp n0 f i t s:=fun h1 hg=>.step (h.trans h1) hg
abbrev Ep(f:Nat)(as0:List V)(s:R):Prop:=∀{o:dR} {v:V},s=aA o->Go qk aD 0 (fF f) o (.done v)->bJ aI f as0=aA v
theorem ep{f:Nat}{as0:List V}{s:R}(hf:(il aI.P (aI.rxf f) f).isSome=true:=by kernel_rfl)(h:nw qk aD (fF f) as0 []=s:=by kernel_rfl)(hp:aI.pprim f=none:=by rfl):Ep f as0 s:=fun h1 hg=>pX Jh hp (iE hf) (h.trans h1) hg
abbrev Ed(f:Nat)(as0:List V)(s:R):Prop:=∀{v:V},s=aA (.done v)->bJ aI f as0=aA v
theorem ed{f:Nat}{as0:List V}{s:R}(h:Ep f as0 s):Ed f as0 s:=fun h1=>h h1 (.refl _)
abbrev Ei(f n0:Nat)(as0:List V)(mem:List O)(s:R):Prop:=∀{o:dR} {v:V} {m:List O},s=aA o->Go qk aC n0 (fF f) o (.doneM v m)->lY aI f as0 mem=aA (v,m)
theorem ei{f n0:Nat}{as0:List V}{mem:List O}{s:R}(hf:(il aI.P (aI.rxf f) f).isSome=true:=by kernel_rfl)(h:nw qk aC (fF f) as0 mem=s:=by kernel_rfl)(hp:aI.iprim f=none:=by rfl)(hn:mem.length=n0:=by rfl):Ei f n0 as0 mem s:=fun h1 hg=>Pe Jh hp (iE hf) (h.trans h1) (hn ▸ hg)
abbrev Ec(f n0:Nat)(cm:CM)(as0:List V)(mem:List O)(s:R):Prop:=∀{o:dR} {r:V × List O},s=aA o->ut qk n0 (fF f) cm mem o r->cA aI cm f as0 mem=aA r
theorem ec{f n0:Nat}{cm:CM}{as0:List V}{mem:List O}{s:R}(hf:(il aI.P (aI.rxf f) f).isSome=true:=by kernel_rfl)(h:nw qk aC (fF f) as0 mem=s:=by kernel_rfl)(hp:aI.iprim f=none:=by rfl)(hn:mem.length=n0:=by rfl):Ec f n0 cm as0 mem s:=fun h1 hg=>aaQ Jh hp (iE hf) (h.trans h1) (hn ▸ hg)
def GD (b:List UInt8) (a:Int): R :=
 cond (decide (a < 0))
 (aA (.done (aB .i64 1)))
 (cond (decide (a > (b.length:Int)))
 (aA (.done (aB .i64 1)))
 (aA (.done (aB .i64 0))))
theorem WU(a b): Ep 113 [aE a,aB .i64 b] (GD a b):=ep
theorem WS(a b): Ed 113 [aE a,aB .i64 b] (GD a b):=ed (WU a b)
def Hf (b:List UInt8) (c a:Int): R :=
 cond (decide (a < 1))
 (aA (.done (aB .i64 1)))
 (cond (decide (a > 8))
 (aA (.done (aB .i64 1)))
 (aL aI 113 [aE b,aB .i64 c] fun d =>
  kI .i64 d fun e =>
  cond (e != (0:Int))
 (aA (.done (aB .i64 1)))
 (cond (decide (W .i64 ((b.length:Int) - c) < a))
 (aA (.done (aB .i64 3)))
 (aA (.done (aB .i64 0))))))
theorem Yj(a b c): Ep 208 [aE a,aB .i64 b,aB .i64 c] (Hf a b c):=ep
theorem Yi(a b c): Ed 208 [aE a,aB .i64 b,aB .i64 c] (Hf a b c):=ed (Yj a b c)
def wN(a:List UInt8)(b c d e:Int): S:=⟨[aE a,aB .i64 b]++(JU 4)++[aB .u64 0,aB .i64 0,bo,aB .u64 c]++(JU 8)++[aB .i64 d,aB .i64 e]++(JU 15),[]⟩
def Hh (a:List UInt8) (b c:Int): R :=
 aL aI 208 [aE a,aB .i64 b,aB .i64 c] fun e =>
 kI .i64 e fun d =>
 cond (d != (0:Int))
 (aA (.done (aT [aB .u64 0,aB .i64 d])))
 (aA (.head 0 (wN a b 0 c 0)))
theorem Nv(a b c): Ep 214 [aE a,aB .i64 b,aB .i64 c] (Hh a b c):=ep
def Ki (c:List UInt8) (b d e a:Int): R :=
 cond (decide (a < e))
 (gd (decide (0<=W .i64 (b+a))) <|
  bl c ((W .i64 (b+a)).toNat) fun f =>
  gd (!decide (W .i64 (8 * a) < 0)) <|
  aA (.head 0 (wN c b (W .u64 (((BitVec.ofInt (IntKind.bits .u64) d |||BitVec.ofInt (IntKind.bits .u64) (W .u64 (W .u64 ((f.toNat:Int)) * 2 ^ (min (W .i64 (8 * a)).toNat (IntKind.bits .u64))))).toNat:Int))) e (W .i64 (a+1)))))
 (aA (.done (aT [aB .u64 d,aB .i64 0])))
theorem SZ(a b c d e): Rd aD 0 214 0 (wN a b c d e) (Ki a b c d e):=rd
def uG(a:List UInt8)(b c d e:Int)(f:List V): S:=⟨[aE a,aB .i64 b,bo,aB .u64 c]++(JU 4)++[aE [],aB .i64 0,bo,dG 0]++(JU 19)++[aB .i64 d,aB .i64 e]++(JU 15),[aM 5 f 0]⟩
def CL (b:List UInt8) (c a d:Int): R :=
 aL aI 208 [aE b,aB .i64 c,aB .i64 a] fun f =>
 kI .i64 f fun e =>
 cond (e != (0:Int))
 (aA (.done (aT [aE [],aB .i64 e])))
 (cond (decide (a < 8))
 (gd (!decide (W .i64 (8 * a) < 0)) <|
  cond (decide (d.fdiv (2 ^ (min (W .i64 (8 * a)).toNat (IntKind.bits .u64))) > 0))
 (aA (.done (aT [aE [],aB .i64 2])))
 (gd (decide (0<=a)) <|
  gd (decide (a<=a)) <|
  gd (decide (a.toNat<=16777216)) <|
  aA (.head 0 (uG b c d a 0 (dh a.toNat (aB .u8 0))))))
 (gd (decide (0<=a)) <|
  gd (decide (a<=a)) <|
  gd (decide (a.toNat<=16777216)) <|
  aA (.head 0 (uG b c d a 0 (dh a.toNat (aB .u8 0))))))
theorem GZ(a b c d): Ep 161 [aE a,aB .i64 b,aB .i64 c,aB .u64 d] (CL a b c d):=ep
def J8 (c:List UInt8) (d e f a:Int) (b:List V): R :=
 cond (decide (a < f))
 (gd (!decide (W .i64 (8 * a) < 0)) <|
  gd (decide (0<=a)) <|
  gd (decide (a.toNat < b.length)) <|
  bl b a.toNat fun g =>
  kI .u8 g fun j =>
  aA (.head 0 (uG c d e f (W .i64 (a+1)) ((b).set a.toNat (aB .u8 (W .u8 (e.fdiv (2 ^ (min (W .i64 (8 * a)).toNat (IntKind.bits .u64))))))))))
 (aL aI 209 [aE c,aB .i64 d,aG b] fun h =>
  kS h fun i =>
  aA (.done (aT [aE i,aB .i64 0])))
theorem SI(a b c d e f): Rd aD 0 161 0 (uG a b c d e f) (J8 a b c d e f):=rd
def Ht (b:List UInt8) (a:Int): R :=
 aL aI 113 [aE b,aB .i64 a] fun e =>
 kI .i64 e fun d =>
 cond (d != (0:Int))
 (aA (.done (aT [aE [],aB .i64 0,aB .i64 d])))
 (cond (a==(b.length:Int))
 (aA (.done (aT [aE [],aB .i64 0,aB .i64 3])))
 (gd (decide (0<=a)) <|
  bl b a.toNat fun f =>
  cond (decide (W .i64 ((W .i64 ((b.length:Int) - a)) - 1) < W .i64 ((f.toNat:Int))))
 (aA (.done (aT [aE [],aB .i64 0,aB .i64 3])))
 (gd (decide (0<=a)) <|
  bl b a.toNat fun c =>
  gd (decide (0<=W .i64 (a+1))) <|
  gd (decide (0<=W .i64 ((W .i64 (a+1))+(W .i64 ((c.toNat:Int)))))) <|
  gd (decide ((W .i64 (a+1)).toNat<=(W .i64 ((W .i64 (a+1))+(W .i64 ((c.toNat:Int))))).toNat)) <|
  gd (decide ((W .i64 ((W .i64 (a+1))+(W .i64 ((c.toNat:Int))))).toNat<=b.length)) <|
  aA (.done (aT [aE ((b.take ((W .i64 ((W .i64 (a+1))+(W .i64 ((c.toNat:Int))))).toNat)).drop ((W .i64 (a+1)).toNat)),aB .i64 (W .i64 ((W .i64 (a+1))+(W .i64 ((c.toNat:Int))))),aB .i64 0])))))
theorem Y0(a b): Ep 71 [aE a,aB .i64 b] (Ht a b):=ep
theorem YZ(a b): Ed 71 [aE a,aB .i64 b] (Ht a b):=ed (Y0 a b)
def G0 (c:List UInt8) (b:Int) (a:List UInt8): R :=
 aL aI 113 [aE c,aB .i64 b] fun e =>
 kI .i64 e fun d =>
 cond (d != (0:Int))
 (aA (.done (aT [aE [],aB .i64 0,aB .i64 d])))
 (cond (decide ((a.length:Int) > 255))
 (aA (.done (aT [aE [],aB .i64 0,aB .i64 2])))
 (cond (decide (W .i64 ((c.length:Int) - b) < W .i64 ((a.length:Int)+1)))
 (aA (.done (aT [aE [],aB .i64 0,aB .i64 3])))
 (gd (cw 1 (fA a)) <|
  gd (decide (([aB .u8 (W .u8 ((a.length:Int)))]:List V).length+(fA a).length<=16777216)) <|
  aL aI 209 [aE c,aB .i64 b,aG ([aB .u8 (W .u8 ((a.length:Int)))]++(fA a))] fun f =>
  kS f fun g =>
  aA (.done (aT [aE g,aB .i64 (W .i64 ((W .i64 (b+(a.length:Int)))+1)),aB .i64 0])))))
theorem XH(a b c): Ep 162 [aE a,aB .i64 b,aE c] (G0 a b c):=ep
theorem XG(a b c): Ed 162 [aE a,aB .i64 b,aE c] (G0 a b c):=ed (XH a b c)
def GY (a:List UInt8) (b:Int): R :=
 cond (decide (b < 0))
 (aA (.done (aT [aE [],aB .i64 1])))
 (cond (decide (b > 65536))
 (aA (.done (aT [aE [],aB .i64 1])))
 (cond (decide ((a.length:Int) > b))
 (aA (.done (aT [aE [],aB .i64 2])))
 (gd (decide (0<=W .i64 (b - (a.length:Int)))) <|
  gd (decide (W .i64 (b - (a.length:Int))<=W .i64 (b - (a.length:Int)))) <|
  gd (decide ((W .i64 (b - (a.length:Int))).toNat<=16777216)) <|
  cf (iv (dh ((W .i64 (b - (a.length:Int))).toNat) (aB .u8 0))) fun d =>
  gd (decide (a.length+(d.map fun c=>UInt8.ofNat c.toNat).length<=4611686018427387904)) <|
  aA (.done (aT [aE (a++(d.map fun c=>UInt8.ofNat c.toNat)),aB .i64 0])))))
theorem XF(a b): Ep 160 [aE a,aB .i64 b] (GY a b):=ep
theorem XE(a b): Ed 160 [aE a,aB .i64 b] (GY a b):=ed (XF a b)
def zt(a:List UInt8)(b:Int): S:=⟨[aE a,bo,aE [],aB .i64 b]++(JU 16),[]⟩
def XR (a:List UInt8): R :=
 aA (.head 0 (zt a (a.length:Int)))
theorem XS(a): Ep 176 [aE a] (XR a):=ep
def EH (b:List UInt8) (a:Int): R :=
 cond (decide (a > 0))
 (gd (decide (0<=W .i64 (a - 1))) <|
  bl b ((W .i64 (a - 1)).toNat) fun c =>
  cond ((c.toNat:Int)==(0:Int))
 (aA (.head 0 (zt b (W .i64 (a - 1)))))
 (gd (decide (0<=a)) <|
  gd (decide (a.toNat<=b.length)) <|
  aA (.done (aE (b.take a.toNat)))))
 (gd (decide (0<=a)) <|
  gd (decide (a.toNat<=b.length)) <|
  aA (.done (aE (b.take a.toNat))))
theorem Kd(a b): Rd aD 0 176 0 (zt a b) (EH a b):=rd
def Hu (b:List UInt8) (a:Int): R :=
 cond (decide (a < 0))
 (aA (.done (aT [aE [],aB .i64 0,aB .i64 1])))
 (cond (decide (a > (b.length:Int)))
 (aA (.done (aT [aE [],aB .i64 0,aB .i64 1])))
 (cond (a==(b.length:Int))
 (aA (.done (aT [aE [],aB .i64 0,aB .i64 3])))
 (gd (decide (0<=a)) <|
  bl b a.toNat fun c =>
  cond (decide (W .i64 ((W .i64 (a+1))+(W .i64 ((c.toNat:Int)))) > (b.length:Int)))
 (aA (.done (aT [aE [],aB .i64 0,aB .i64 3])))
 (gd (decide (0<=W .i64 (a+1))) <|
  gd (decide (0<=W .i64 ((W .i64 (a+1))+(W .i64 ((c.toNat:Int)))))) <|
  gd (decide ((W .i64 (a+1)).toNat<=(W .i64 ((W .i64 (a+1))+(W .i64 ((c.toNat:Int))))).toNat)) <|
  gd (decide ((W .i64 ((W .i64 (a+1))+(W .i64 ((c.toNat:Int))))).toNat<=b.length)) <|
  aA (.done (aT [aE ((b.take ((W .i64 ((W .i64 (a+1))+(W .i64 ((c.toNat:Int))))).toNat)).drop ((W .i64 (a+1)).toNat)),aB .i64 (W .i64 ((W .i64 (a+1))+(W .i64 ((c.toNat:Int))))),aB .i64 0]))))))
theorem Y2(a b): Ep 72 [aE a,aB .i64 b] (Hu a b):=ep
theorem Y1(a b): Ed 72 [aE a,aB .i64 b] (Hu a b):=ed (Y2 a b)
def Hv (a:List UInt8): R :=
 cond (!(a==[]))
 (aA (.done (bc (decide ((a.length:Int)<=16)))))
 (aA (.done (bc aD)))
theorem Y4(a): Ep 73 [aE a] (Hv a):=ep
theorem Y3(a): Ed 73 [aE a] (Hv a):=ed (Y4 a)
def Hw (a:List UInt8): R :=
 aA (.done (bc (decide ((a.length:Int)<=32))))
theorem Y6(a): Ep 74 [aE a] (Hw a):=ep
theorem Y5(a): Ed 74 [aE a] (Hw a):=ed (Y6 a)
def zx(a b:List UInt8)(c:Int): S:=⟨[aE a,aE b,bo,bo,bc aD,aB .i64 c]++(JU 31),[]⟩
def YB (a b:List UInt8): R :=
 aA (.head 0 (zx a b 0))
theorem YC(a b): Ep 35 [aE a,aE b] (YB a b):=ep
def yA (b c:List UInt8) (a:Int): R :=
 cond (decide (a < (b.length:Int)))
 (cond (decide (a < (c.length:Int)))
 (gd (decide (0<=a)) <|
  bl b a.toNat fun d =>
  gd (decide (0<=a)) <|
  bl c a.toNat fun e =>
  cond ((d.toNat:Int) != (e.toNat:Int))
 (gd (decide (0<=a)) <|
  bl b a.toNat fun f =>
  gd (decide (0<=a)) <|
  bl c a.toNat fun g =>
  aA (.done (bc (decide ((f.toNat:Int) < (g.toNat:Int))))))
 (aA (.head 0 (zx b c (W .i64 (a+1))))))
 (aA (.done (bc (decide ((b.length:Int) < (c.length:Int)))))))
 (aA (.done (bc (decide ((b.length:Int) < (c.length:Int))))))
theorem EP(a b c): Rd aD 0 35 0 (zx a b c) (yA a b c):=rd
def Hm (a:List UInt8): R :=
 cond (decide ((a.length:Int) ≥ 1))
 (aA (.done (bc (decide ((a.length:Int)<=16)))))
 (aA (.done (bc aD)))
theorem YH(a): Ep 47 [aE a] (Hm a):=ep
theorem YG(a): Ed 47 [aE a] (Hm a):=ed (YH a)
def Hn (a:List UInt8): R :=
 aA (.done (bc (decide ((a.length:Int)<=32))))
theorem YJ(a): Ep 48 [aE a] (Hn a):=ep
theorem YI(a): Ed 48 [aE a] (Hn a):=ed (YJ a)
def B4(a b:List V)(c:Int): S:=⟨[aG a,aG b,bo,bo,bc aD,aB .i64 c]++(JU 20),[]⟩
def Nz (a b:List V): R :=
 cond ((a.length:Int) != (b.length:Int))
 (aA (.done (bc aD)))
 (aA (.head 0 (B4 a b 0)))
theorem Yr(a b): Ep 23 [aG a,aG b] (Nz a b):=ep
def Kl (b c:List V) (a:Int): R :=
 cond (decide (a < (b.length:Int)))
 (gd (decide (0<=a)) <|
  bl b a.toNat fun d =>
  eD d fun e f =>
  gd (decide (0<=a)) <|
  bl c a.toNat fun g =>
  eD g fun h i =>
  cond (!((e==h) && ((f==i) && aC)))
 (aA (.done (bc aD)))
 (aA (.head 0 (B4 b c (W .i64 (a+1))))))
 (aA (.done (bc aC)))
theorem S1(a b c): Rd aD 0 23 0 (B4 a b c) (Kl a b c):=rd
def Hk (a:List UInt8): R :=
 aA (.done (bc (!(a==a))))
theorem Yn(a): Ep 223 [aE a] (Hk a):=ep
theorem Ym(a): Ed 223 [aE a] (Hk a):=ed (Yn a)
def He (a:List UInt8): R :=
 aA (.done (bc (!(a==a))))
theorem Yh(a): Ep 206 [aE a] (He a):=ep
theorem Yg(a): Ed 206 [aE a] (He a):=ed (Yh a)
def Hd (a b:List UInt8): R :=
 aL aI 223 [aE a] fun c =>
 kB c fun d =>
 cond d
 (aL aI 223 [aE b] fun e =>
  kB e fun f =>
  cond (!f)
 (aA (.done (bc aC)))
 (aA (.done (bc (Op.bytesLess a b)))))
 (aA (.done (bc (Op.bytesLess a b))))
theorem Yf(a b): Ep 205 [aE a,aE b] (Hd a b):=ep
theorem Ye(a b): Ed 205 [aE a,aE b] (Hd a b):=ed (Yf a b)
def su(a:List V)(b:List UInt8)(c d e:Int): S:=⟨[aG a,aE b,bo,bo,aB .i64 0,bc aD,aB .i64 c,aB .i64 d,aB .i64 e]++(JU 45),[]⟩
def Nh (a:List V) (b:List UInt8): R :=
 aA (.head 0 (su a b (a.length:Int) 0 (a.length:Int)))
theorem Xz(a b): Ep 155 [aG a,aE b] (Nh a b):=ep
def EF (c:List V) (d:List UInt8) (e a b:Int): R :=
 cond (decide (a < b))
 (gd (decide (0<=W .i64 ((W .u64 (W .i64 (a+b))).fdiv (2 ^ (min 1 (IntKind.bits .u64)))))) <|
  bl c ((W .i64 ((W .u64 (W .i64 (a+b))).fdiv (2 ^ (min 1 (IntKind.bits .u64))))).toNat) fun f =>
  kS f fun g =>
  aL aI 205 [aE g,aE d] fun h =>
  kB h fun i =>
  cond i
 (aA (.head 0 (su c d e (W .i64 ((W .i64 ((W .u64 (W .i64 (a+b))).fdiv (2 ^ (min 1 (IntKind.bits .u64)))))+1)) b)))
 (aA (.head 0 (su c d e a (W .i64 ((W .u64 (W .i64 (a+b))).fdiv (2 ^ (min 1 (IntKind.bits .u64)))))))))
 (cond (decide (a < e))
 (gd (decide (0<=a)) <|
  bl c a.toNat fun j =>
  kS j fun k =>
  cond (k==d)
 (aA (.done (aT [aB .i64 a,bc aC])))
 (gd (decide (0<=a)) <|
  bl c a.toNat fun l =>
  kS l fun m =>
  aL aI 206 [aE m] fun n =>
  kB n fun o =>
  cond o
 (aL aI 206 [aE d] fun p =>
  kB p fun q =>
  aA (.done (aT [aB .i64 a,bc q])))
 (aA (.done (aT [aB .i64 a,bc aD])))))
 (aA (.done (aT [aB .i64 a,bc aD]))))
theorem J5(a b c d e): Rd aD 0 155 0 (su a b c d e) (EF a b c d e):=rd
def sw(a:List V)(b:List UInt8)(c d e:Int): S:=⟨[aG a,aE b,V.fn 157 [],bo,bo,bo,aB .i64 0,bc aD,aB .i64 c,aB .i64 d,aB .i64 e]++(JU 38),[]⟩
def Ni (a:List V) (b:List UInt8): R :=
 aA (.head 0 (sw a b (a.length:Int) 0 (a.length:Int)))
theorem XA(a b): Ep 156 [aG a,aE b,V.fn 157 []] (Ni a b):=ep
def EG (c:List V) (d:List UInt8) (e a b:Int): R :=
 cond (decide (a < b))
 (gd (decide (0<=W .i64 ((W .u64 (W .i64 (a+b))).fdiv (2 ^ (min 1 (IntKind.bits .u64)))))) <|
  bl c ((W .i64 ((W .u64 (W .i64 (a+b))).fdiv (2 ^ (min 1 (IntKind.bits .u64))))).toNat) fun f =>
  eD f fun g h =>
  aL aI 157 [aH [aE g,aE h],aE d] fun i =>
  kI .i64 i fun j =>
  cond (decide (j < 0))
 (aA (.head 0 (sw c d e (W .i64 ((W .i64 ((W .u64 (W .i64 (a+b))).fdiv (2 ^ (min 1 (IntKind.bits .u64)))))+1)) b)))
 (aA (.head 0 (sw c d e a (W .i64 ((W .u64 (W .i64 (a+b))).fdiv (2 ^ (min 1 (IntKind.bits .u64)))))))))
 (cond (decide (a < e))
 (gd (decide (0<=a)) <|
  bl c a.toNat fun k =>
  eD k fun l m =>
  aL aI 157 [aH [aE l,aE m],aE d] fun n =>
  kI .i64 n fun o =>
  aA (.done (aT [aB .i64 a,bc (o==(0:Int))])))
 (aA (.done (aT [aB .i64 a,bc aD]))))
theorem J6(a b c d e): Rd aD 0 156 0 (sw a b c d e) (EG a b c d e):=rd
def GX (a e b:List UInt8): R :=
 aL aI 158 [aE a,aE b] fun c =>
 kI .i64 c fun d =>
 aA (.done (aB .i64 d))
theorem XC(a b c): Ep 157 [aH [aE a,aE b],aE c] (GX a b c):=ep
theorem XB(a b c): Ed 157 [aH [aE a,aE b],aE c] (GX a b c):=ed (XC a b c)
def Hb (a:Int): R :=
 cond (decide (a ≥ 0))
 (aA (.done (bc (decide (a < 1024)))))
 (aA (.done (bc aD)))
theorem Yb(a): Ep 203 [aB .i64 a] (Hb a):=ep
theorem Ya(a): Ed 203 [aB .i64 a] (Hb a):=ed (Yb a)
def wL(a:Int)(b:List V)(c d:Int): S:=⟨[bo,bo,aB .i64 0,aB .i64 a]++(JU 7)++[aG b,aB .i64 c,aB .i64 d]++(JU 10),[]⟩
def Nk (a c:List V) (b:List UInt8) (d:Int): R :=
 aA (.head 0 (wL (W .i64 (7+(b.length:Int))) a (a.length:Int) 0))
theorem XI(a b c d): Ep 163 [aH [aG a,aG b,aE c,aB .i64 d]] (Nk a b c d):=ep
def J9 (b:Int) (c:List V) (d a:Int): R :=
 cond (decide (a < d))
 (gd (decide (0<=a)) <|
  bl c a.toNat fun e =>
  kS e fun f =>
  aA (.head 0 (wL (W .i64 (b+(W .i64 (3+(f.length:Int))))) c d (W .i64 (a+1)))))
 (aA (.done (aB .i64 b)))
theorem SJ(a b c d): Rd aD 0 163 0 (wL a b c d) (J9 a b c d):=rd
def Hc (b c:List V) (a:List UInt8) (d:Int): R :=
 aL aI 163 [aH [aG b,aG c,aE a,aB .i64 d]] fun e =>
 kI .i64 e fun f =>
 aA (.done (bc (decide (W .i64 ((W .i64 (f - (a.length:Int)))+16)<=252))))
theorem Yd(a b c d): Ep 204 [aH [aG a,aG b,aE c,aB .i64 d]] (Hc a b c d):=ep
theorem Yc(a b c d): Ed 204 [aH [aG a,aG b,aE c,aB .i64 d]] (Hc a b c d):=ed (Yd a b c d)
def zq(a b c:List V)(d:List UInt8)(e:Int)(f:List UInt8): S:=⟨[bo,aK 0 0 0,aK 1 0 0,aK 2 0 0]++(JU 24)++[V.rest [9,3] a]++(JU 45),[aJ 150 (aH [aG b,aG c,aE d,aB .i64 e]) aD,aJ 4 (bc aD) aD,aJ 9 (aE f) aD]⟩
def CK (b a:List V) (c:List UInt8) (d:Int): R :=
 cond ((a.length:Int) != (W .i64 ((b.length:Int)+1)))
 (aA (.done (bc aD)))
 (bl a 0 fun e =>
  kI .i64 e fun f =>
  aL aI 203 [aB .i64 f] fun g =>
  kB g fun h =>
  cond (!h)
 (aA (.done (bc aD)))
 (gd (cw 1 a) <|
  gd (decide (1<=a.length)) <|
  cf (wV [V.ref (aG b) 0,V.ref (aG ((a.take a.length).drop 1)) 0]) fun i =>
  aA (.head 0 (zq (i.map aT) b a c d []))))
theorem GV(a b c d): Ep 154 [aH [aG a,aG b,aE c,aB .i64 d]] (CK a b c d):=ep
def EE (h e f:List V) (b:List UInt8) (a:Int) (g:List UInt8): R :=
 md h
 (cond (b==[])
 (cond (decide (a ≥ 0))
 (cond (decide (a<=1024))
 (aL aI 204 [aH [aG e,aG f,aE b,aB .i64 a]] fun i =>
  kB i fun j =>
  aA (.done (bc j)))
 (aA (.done (bc aD))))
 (aA (.done (bc aD))))
 (aL aI 73 [aE b] fun k =>
  kB k fun l =>
  cond l
 (cond (Op.bytesLess g b)
 (cond (decide (a ≥ 0))
 (cond (decide (a<=1024))
 (aL aI 204 [aH [aG e,aG f,aE b,aB .i64 a]] fun m =>
  kB m fun n =>
  aA (.done (bc n)))
 (aA (.done (bc aD))))
 (aA (.done (bc aD))))
 (aA (.done (bc aD))))
 (aA (.done (bc aD))))) fun o p =>
  kT o fun c=>bU c fun q c=>kS q fun d =>
  bU c fun r c=>kI .i64 r fun s =>
  eo c<|aL aI 73 [aE d] fun t =>
  kB t fun u =>
  cond (!u)
 (aA (.done (bc aD)))
 (cond (Op.bytesLess d g ||d==g)
 (aA (.done (bc aD)))
 (aL aI 203 [aB .i64 s] fun v =>
  kB v fun w =>
  cond (!w)
 (aA (.done (bc aD)))
 (aA (.head 0 (zq p e f b a d)))))
theorem AZ(a b c d e f): Rd aD 0 154 0 (zq a b c d e f) (EE a b c d e f):=rd
def zh(a:List V)(b:List UInt8)(c:Int): S:=⟨[bo,bo,aE [],aK 0 0 0,bo,aK 1 0 0]++(JU 57)++[V.rest [9,3] a]++(JU 21),[aJ 9 (aE b) aD,aJ 3 (aB .i64 c) aD]⟩
def GJ (b a:List V) (c:List UInt8) (d:Int): R :=
 aL aI 154 [aH [aG b,aG a,aE c,aB .i64 d]] fun f =>
 kB f fun g =>
 cond (!g)
 (aA (.done (aE [])))
 (aL aI 163 [aH [aG b,aG a,aE c,aB .i64 d]] fun h =>
  kI .i64 h fun i =>
  aL aI 160 [aE [UInt8.ofNat ((78:Int)).toNat],aB .i64 i] fun j =>
  i7 j fun k w =>
  aL aI 161 [aE k,aB .i64 1,aB .i64 1,aB .u64 (W .u64 ((b.length:Int)))] fun l =>
  i7 l fun m x =>
  aL aI 161 [aE m,aB .i64 2,aB .i64 2,aB .u64 (W .u64 (d))] fun n =>
  i7 n fun o y =>
  aL aI 162 [aE o,aB .i64 4,aE c] fun p =>
  gt p fun q e z =>
  bl a 0 fun r =>
  kI .i64 r fun s =>
  aL aI 161 [aE q,aB .i64 e,aB .i64 2,aB .u64 (W .u64 (s))] fun t =>
  i7 t fun u aa =>
  gd (cw 1 a) <|
  gd (decide (1<=a.length)) <|
  cf (wV [V.ref (aG b) 0,V.ref (aG ((a.take a.length).drop 1)) 0]) fun v =>
  aA (.head 0 (zh (v.map aT) u (W .i64 (e+2)))))
theorem MZ(a b c d): Ep 121 [aH [aG a,aG b,aE c,aB .i64 d]] (GJ a b c d):=ep
def JW (d:List V) (b:List UInt8) (e:Int): R :=
 md d
 (aA (.done (aE b))) fun f g =>
  kT f fun a=>bU a fun h a=>kS h fun i =>
  bU a fun j a=>kI .i64 j fun k =>
  eo a<|aL aI 162 [aE b,aB .i64 e,aE i] fun l =>
  gt l fun m c p =>
  aL aI 161 [aE m,aB .i64 c,aB .i64 2,aB .u64 (W .u64 (k))] fun n =>
  i7 n fun o q =>
  aA (.head 0 (zh g o (W .i64 (c+2))))
theorem Sz(a b c): Rd aD 0 121 0 (zh a b c) (JW a b c):=rd
def zk(a b:List UInt8)(c:Int)(d:Bool)(e:List UInt8)(f:Int)(g:List V): S:=⟨[aE a,bo,aK 0 0 0,aB .i64 0,aK 1 0 0,aK 2 0 0,aB .i64 0]++(JU 79),[aJ 150 (aH [bC 3 0,bC 4 0,aE [],aB .i64 0]) aD,aJ 245 (aH [aE b,aB .i64 c,bc d]) aD,aJ 150 (aH [V.nilS,bC 5 0,aE e,aB .i64 f]) aD,aM 9 [] 0,aM 3 [] 0,aM 3 g 0]⟩
def pd(a:List UInt8)(b:Int)(c:List UInt8)(d:Int)(e:Bool)(f:List UInt8)(g:Int)(h i:List V): S:=⟨[aE a,bo,aK 0 0 0,aB .i64 0,aK 1 0 0,aK 2 0 0,aB .i64 b]++(JU 79),[aJ 150 (aH [bC 3 0,bC 4 0,aE [],aB .i64 0]) aD,aJ 245 (aH [aE c,aB .i64 d,bc e]) aD,aJ 150 (aH [bC 5 0,bC 6 0,aE f,aB .i64 g]) aD,aM 9 [] 0,aM 3 [] 0,aM 9 h 0,aM 3 i 0]⟩
def qQ (a:List UInt8): R :=
 cond (decide ((a.length:Int)<=4))
 (aA (.done (aT [aH [aG [],aG [],aE [],aB .i64 0],aB .i64 4])))
 (cond (decide ((a.length:Int) > 252))
 (aA (.done (aT [aH [aG [],aG [],aE [],aB .i64 0],aB .i64 4])))
 (bl a 0 fun g =>
  cond ((g.toNat:Int) != (78:Int))
 (aA (.done (aT [aH [aG [],aG [],aE [],aB .i64 0],aB .i64 4])))
 (aL aI 214 [aE a,aB .i64 2,aB .i64 2] fun h =>
  mE h fun d i =>
  aL aI 71 [aE a,aB .i64 4] fun j =>
  gt j fun e b k =>
  cond (i==(0:Int))
 (aL aI 214 [aE a,aB .i64 (if 4 < b then b else 4),aB .i64 2] fun l =>
  mE l fun c m =>
  cond (k==(0:Int))
 (gd (decide (([aB .i64 (W .i64 (c))]:List V).length<=16777216)) <|
  aA (.head 0 (zk a a (W .i64 ((if 4 < b then b else 4)+2)) (m==(0:Int)) e (W .i64 (d)) [aB .i64 (W .i64 (c))])))
 (gd (decide (([aB .i64 (W .i64 (c))]:List V).length<=16777216)) <|
  aA (.head 0 (zk a a (W .i64 ((if 4 < b then b else 4)+2)) aD e (W .i64 (d)) [aB .i64 (W .i64 (c))]))))
 (aL aI 214 [aE a,aB .i64 (if 4 < b then b else 4),aB .i64 2] fun n =>
  mE n fun f o =>
  gd (decide (([aB .i64 (W .i64 (f))]:List V).length<=16777216)) <|
  aA (.head 0 (zk a a (W .i64 ((if 4 < b then b else 4)+2)) aD e (W .i64 (d)) [aB .i64 (W .i64 (f))]))))))
theorem w8(a): Ep 130 [aE a] (qQ a):=ep
def vZ (b g:List UInt8) (a:Int) (i:Bool) (e:List UInt8) (f:Int) (c:List V): R :=
 cond i
 (bl b 1 fun l =>
  cond (decide (0 < W .i64 ((l.toNat:Int))))
 (aL aI 71 [aE g,aB .i64 a] fun m =>
  gt m fun h d n =>
  cond i
 (gd (decide (([aE h]:List V).length<=16777216)) <|
  aL aI 214 [aE g,aB .i64 (if a < d then d else a),aB .i64 2] fun o =>
  mE o fun j p =>
  cond (n==(0:Int))
 (gd (decide (c.length+([aB .i64 (W .i64 (j))]:List V).length<=16777216)) <|
  aA (.head 0 (pd b 1 g (W .i64 ((if a < d then d else a)+2)) (p==(0:Int)) e f [aE h] (c++[aB .i64 (W .i64 (j))]))))
 (gd (decide (c.length+([aB .i64 (W .i64 (j))]:List V).length<=16777216)) <|
  aA (.head 0 (pd b 1 g (W .i64 ((if a < d then d else a)+2)) aD e f [aE h] (c++[aB .i64 (W .i64 (j))])))))
 (gd (decide (([aE h]:List V).length<=16777216)) <|
  aL aI 214 [aE g,aB .i64 (if a < d then d else a),aB .i64 2] fun q =>
  mE q fun k z =>
  gd (decide (c.length+([aB .i64 (W .i64 (k))]:List V).length<=16777216)) <|
  aA (.head 0 (pd b 1 g (W .i64 ((if a < d then d else a)+2)) aD e f [aE h] (c++[aB .i64 (W .i64 (k))])))))
 (cond (!i)
 (aA (.done (aT [aH [aG [],aG [],aE [],aB .i64 0],aB .i64 4])))
 (aL aI 154 [aH [aG [],aG c,aE e,aB .i64 f]] fun r =>
  kB r fun s =>
  cond (!s)
 (aA (.done (aT [aH [aG [],aG [],aE [],aB .i64 0],aB .i64 4])))
 (gd (decide (0<=a)) <|
  gd (decide (a.toNat<=b.length)) <|
  aL aI 176 [aE ((b.take b.length).drop a.toNat)] fun t =>
  kS t fun u =>
  cond (!(u==[]))
 (aA (.done (aT [aH [aG [],aG [],aE [],aB .i64 0],aB .i64 4])))
 (aA (.done (aT [aH [aG [],aG c,aE e,aB .i64 f],aB .i64 0])))))))
 (cond (!i)
 (aA (.done (aT [aH [aG [],aG [],aE [],aB .i64 0],aB .i64 4])))
 (aL aI 154 [aH [aG [],aG c,aE e,aB .i64 f]] fun v =>
  kB v fun w =>
  cond (!w)
 (aA (.done (aT [aH [aG [],aG [],aE [],aB .i64 0],aB .i64 4])))
 (gd (decide (0<=a)) <|
  gd (decide (a.toNat<=b.length)) <|
  aL aI 176 [aE ((b.take b.length).drop a.toNat)] fun x =>
  kS x fun y =>
  cond (!(y==[]))
 (aA (.done (aT [aH [aG [],aG [],aE [],aB .i64 0],aB .i64 4])))
 (aA (.done (aT [aH [aG [],aG c,aE e,aB .i64 f],aB .i64 0]))))))
theorem yw(a b c d e f g): Rd aD 0 130 0 (zk a b c d e f g) (vZ a b c d e f g):=rd
def tW (b:List UInt8) (j:Int) (h:List UInt8) (a:Int) (k:Bool) (f:List UInt8) (g:Int) (e c:List V): R :=
 cond k
 (bl b 1 fun n =>
  cond (decide (j < W .i64 ((n.toNat:Int))))
 (aL aI 71 [aE h,aB .i64 a] fun o =>
  gt o fun i d p =>
  cond k
 (gd (decide (e.length+([aE i]:List V).length<=16777216)) <|
  aL aI 214 [aE h,aB .i64 (if a < d then d else a),aB .i64 2] fun q =>
  mE q fun l r =>
  cond (p==(0:Int))
 (gd (decide (c.length+([aB .i64 (W .i64 (l))]:List V).length<=16777216)) <|
  aA (.head 0 (pd b (W .i64 (j+1)) h (W .i64 ((if a < d then d else a)+2)) (r==(0:Int)) f g (e++[aE i]) (c++[aB .i64 (W .i64 (l))]))))
 (gd (decide (c.length+([aB .i64 (W .i64 (l))]:List V).length<=16777216)) <|
  aA (.head 0 (pd b (W .i64 (j+1)) h (W .i64 ((if a < d then d else a)+2)) aD f g (e++[aE i]) (c++[aB .i64 (W .i64 (l))])))))
 (gd (decide (e.length+([aE i]:List V).length<=16777216)) <|
  aL aI 214 [aE h,aB .i64 (if a < d then d else a),aB .i64 2] fun s =>
  mE s fun m ab =>
  gd (decide (c.length+([aB .i64 (W .i64 (m))]:List V).length<=16777216)) <|
  aA (.head 0 (pd b (W .i64 (j+1)) h (W .i64 ((if a < d then d else a)+2)) aD f g (e++[aE i]) (c++[aB .i64 (W .i64 (m))])))))
 (cond (!k)
 (aA (.done (aT [aH [aG [],aG [],aE [],aB .i64 0],aB .i64 4])))
 (aL aI 154 [aH [aG e,aG c,aE f,aB .i64 g]] fun t =>
  kB t fun u =>
  cond (!u)
 (aA (.done (aT [aH [aG [],aG [],aE [],aB .i64 0],aB .i64 4])))
 (gd (decide (0<=a)) <|
  gd (decide (a.toNat<=b.length)) <|
  aL aI 176 [aE ((b.take b.length).drop a.toNat)] fun v =>
  kS v fun w =>
  cond (!(w==[]))
 (aA (.done (aT [aH [aG [],aG [],aE [],aB .i64 0],aB .i64 4])))
 (aA (.done (aT [aH [aG e,aG c,aE f,aB .i64 g],aB .i64 0])))))))
 (cond (!k)
 (aA (.done (aT [aH [aG [],aG [],aE [],aB .i64 0],aB .i64 4])))
 (aL aI 154 [aH [aG e,aG c,aE f,aB .i64 g]] fun x =>
  kB x fun y =>
  cond (!y)
 (aA (.done (aT [aH [aG [],aG [],aE [],aB .i64 0],aB .i64 4])))
 (gd (decide (0<=a)) <|
  gd (decide (a.toNat<=b.length)) <|
  aL aI 176 [aE ((b.take b.length).drop a.toNat)] fun z =>
  kS z fun aa =>
  cond (!(aa==[]))
 (aA (.done (aT [aH [aG [],aG [],aE [],aB .i64 0],aB .i64 4])))
 (aA (.done (aT [aH [aG e,aG c,aE f,aB .i64 g],aB .i64 0]))))))
theorem tX(a b c d e f g h i): Rd aD 0 130 0 (pd a b c d e f g h i) (tW a b c d e f g h i):=rd
def GF (b f:List V) (c:List UInt8) (g:Int) (a:List UInt8): R :=
 aL aI 154 [aH [aG b,aG f,aE c,aB .i64 g]] fun h =>
 kB h fun i =>
 cond (!i)
 (aA (.done (aT [aB .i64 0,aB .i64 1])))
 (aL aI 73 [aE a] fun j =>
  kB j fun k =>
  cond (!k)
 (aA (.done (aT [aB .i64 0,aB .i64 1])))
 (cond (!(c==[]))
 (cond (!Op.bytesLess a c)
 (aA (.done (aT [aB .i64 0,aB .i64 1])))
 (aL aI 155 [aG b,aE a] fun l =>
  lu l fun d m =>
  cond m
 (aA (.done (aT [aB .i64 (W .i64 (d+1)),aB .i64 0])))
 (aA (.done (aT [aB .i64 d,aB .i64 0])))))
 (aL aI 155 [aG b,aE a] fun n =>
  lu n fun e o =>
  cond o
 (aA (.done (aT [aB .i64 (W .i64 (e+1)),aB .i64 0])))
 (aA (.done (aT [aB .i64 e,aB .i64 0]))))))
theorem WW(a b c d e): Ep 114 [aH [aG a,aG b,aE c,aB .i64 d],aE e] (GF a b c d e):=ep
theorem WV(a b c d e): Ed 114 [aH [aG a,aG b,aE c,aB .i64 d],aE e] (GF a b c d e):=ed (WW a b c d e)
def G2 (j k:List V) (h:List UInt8) (i:Int) (b:List UInt8) (c:Int): R :=
 aL aI 114 [aH [aG j,aG k,aE h,aB .i64 i],aE b] fun l =>
 uP l fun a m =>
 cond (m != (0:Int))
 (aA (.done (aT [aH [aG [],aG [],aE [],aB .i64 0],aB .i64 1])))
 (aL aI 203 [aB .i64 c] fun n =>
  kB n fun o =>
  cond (!o)
 (aA (.done (aT [aH [aG [],aG [],aE [],aB .i64 0],aB .i64 1])))
 (cond (decide (a > 0))
 (gd (decide (0<=W .i64 (a - 1))) <|
  bl j ((W .i64 (a - 1)).toNat) fun p =>
  kS p fun q =>
  cond (q==b)
 (aA (.done (aT [aH [aG [],aG [],aE [],aB .i64 0],aB .i64 8])))
 (aL aI 171 [aG j] fun r =>
  kF 9 r fun d =>
  gd (decide (0<=a/\a.toNat<=d.length/\d.length+([aE b]:List V).length<=16777216)) <|
  aL aI 173 [aG k] fun s =>
  kF 3 s fun e =>
  gd (decide (0<=W .i64 (a+1)/\(W .i64 (a+1)).toNat<=e.length/\e.length+([aB .i64 c]:List V).length<=16777216)) <|
  aL aI 204 [aH [aG (((d.take a.toNat)++[aE b])++(d.drop a.toNat)),aG (((e.take ((W .i64 (a+1)).toNat))++[aB .i64 c])++(e.drop ((W .i64 (a+1)).toNat))),aE h,aB .i64 i]] fun t =>
  kB t fun u =>
  cond (!u)
 (aA (.done (aT [aH [aG [],aG [],aE [],aB .i64 0],aB .i64 6])))
 (aA (.done (aT [aH [aG (((d.take a.toNat)++[aE b])++(d.drop a.toNat)),aG (((e.take ((W .i64 (a+1)).toNat))++[aB .i64 c])++(e.drop ((W .i64 (a+1)).toNat))),aE h,aB .i64 i],aB .i64 0])))))
 (aL aI 171 [aG j] fun v =>
  kF 9 v fun f =>
  gd (decide (0<=a/\a.toNat<=f.length/\f.length+([aE b]:List V).length<=16777216)) <|
  aL aI 173 [aG k] fun w =>
  kF 3 w fun g =>
  gd (decide (0<=W .i64 (a+1)/\(W .i64 (a+1)).toNat<=g.length/\g.length+([aB .i64 c]:List V).length<=16777216)) <|
  aL aI 204 [aH [aG (((f.take a.toNat)++[aE b])++(f.drop a.toNat)),aG (((g.take ((W .i64 (a+1)).toNat))++[aB .i64 c])++(g.drop ((W .i64 (a+1)).toNat))),aE h,aB .i64 i]] fun x =>
  kB x fun y =>
  cond (!y)
 (aA (.done (aT [aH [aG [],aG [],aE [],aB .i64 0],aB .i64 6])))
 (aA (.done (aT [aH [aG (((f.take a.toNat)++[aE b])++(f.drop a.toNat)),aG (((g.take ((W .i64 (a+1)).toNat))++[aB .i64 c])++(g.drop ((W .i64 (a+1)).toNat))),aE h,aB .i64 i],aB .i64 0]))))))
theorem XM(a b c d e f): Ep 167 [aH [aG a,aG b,aE c,aB .i64 d],aE e,aB .i64 f] (G2 a b c d e f):=ep
theorem XL(a b c d e f): Ed 167 [aH [aG a,aG b,aE c,aB .i64 d],aE e,aB .i64 f] (G2 a b c d e f):=ed (XM a b c d e f)
def GL (e b:List V) (f:List UInt8) (g a:Int): R :=
 aL aI 154 [aH [aG e,aG b,aE f,aB .i64 g]] fun h =>
 kB h fun i =>
 cond (!i)
 (aA (.done (aT [aH [aG [],aG [],aE [],aB .i64 0],aB .i64 1])))
 (cond (decide (a < 0))
 (aA (.done (aT [aH [aG [],aG [],aE [],aB .i64 0],aB .i64 1])))
 (cond (decide (a ≥ (b.length:Int)))
 (aA (.done (aT [aH [aG [],aG [],aE [],aB .i64 0],aB .i64 1])))
 (cond ((b.length:Int)==(1:Int))
 (aA (.done (aT [aH [aG [],aG [],aE [],aB .i64 0],aB .i64 1])))
 (aL aI 171 [aG e] fun j =>
  kF 9 j fun c =>
  gd (decide (0<=(if 0 < W .i64 (a - 1) then W .i64 (a - 1) else 0)/\(if 0 < W .i64 (a - 1) then W .i64 (a - 1) else 0)<=W .i64 ((if 0 < W .i64 (a - 1) then W .i64 (a - 1) else 0)+1)/\(W .i64 ((if 0 < W .i64 (a - 1) then W .i64 (a - 1) else 0)+1)).toNat<=c.length/\c.length<=16777216)) <|
  aL aI 173 [aG b] fun k =>
  kF 3 k fun d =>
  gd (decide (0<=a/\a<=W .i64 (a+1)/\(W .i64 (a+1)).toNat<=d.length/\d.length<=16777216)) <|
  aA (.done (aT [aH [aG ((c.take ((if 0 < W .i64 (a - 1) then W .i64 (a - 1) else 0).toNat))++(c.drop ((W .i64 ((if 0 < W .i64 (a - 1) then W .i64 (a - 1) else 0)+1)).toNat))),aG ((d.take a.toNat)++(d.drop ((W .i64 (a+1)).toNat))),aE f,aB .i64 g],aB .i64 0]))))))
theorem Xc(a b c d e): Ep 126 [aH [aG a,aG b,aE c,aB .i64 d],aB .i64 e] (GL a b c d e):=ep
theorem Xb(a b c d e): Ed 126 [aH [aG a,aG b,aE c,aB .i64 d],aB .i64 e] (GL a b c d e):=ed (Xc a b c d e)
def G3 (a b:List V) (c:List UInt8) (d e:Int): R :=
 aL aI 154 [aH [aG a,aG b,aE c,aB .i64 d]] fun g =>
 kB g fun h =>
 cond (!h)
 (aA (.done (aT [aH [aG [],aG [],aE [],aB .i64 0],aH [aG [],aG [],aE [],aB .i64 0],aE [],aB .i64 1])))
 (cond (decide ((b.length:Int) < 3))
 (aA (.done (aT [aH [aG [],aG [],aE [],aB .i64 0],aH [aG [],aG [],aE [],aB .i64 0],aE [],aB .i64 1])))
 (aL aI 203 [aB .i64 e] fun i =>
  kB i fun j =>
  cond (!j)
 (aA (.done (aT [aH [aG [],aG [],aE [],aB .i64 0],aH [aG [],aG [],aE [],aB .i64 0],aE [],aB .i64 1])))
 (gd (decide (0<=W .i64 (((a.length:Int).tdiv 2)))) <|
  bl a ((W .i64 (((a.length:Int).tdiv 2))).toNat) fun k =>
  kS k fun f =>
  gd (cw 1 a) <|
  gd (decide (0<=W .i64 (((a.length:Int).tdiv 2)))) <|
  gd (decide ((W .i64 (((a.length:Int).tdiv 2))).toNat<=a.length)) <|
  aL aI 171 [aG (a.take ((W .i64 (((a.length:Int).tdiv 2))).toNat))] fun l =>
  kF 9 l fun m =>
  gd (cw 1 b) <|
  gd (decide (0<=W .i64 ((W .i64 (((a.length:Int).tdiv 2)))+1))) <|
  gd (decide ((W .i64 ((W .i64 (((a.length:Int).tdiv 2)))+1)).toNat<=b.length)) <|
  aL aI 173 [aG (b.take ((W .i64 ((W .i64 (((a.length:Int).tdiv 2)))+1)).toNat))] fun n =>
  kF 3 n fun o =>
  gd (cw 1 a) <|
  gd (decide (0<=W .i64 ((W .i64 (((a.length:Int).tdiv 2)))+1))) <|
  gd (decide ((W .i64 ((W .i64 (((a.length:Int).tdiv 2)))+1)).toNat<=a.length)) <|
  aL aI 171 [aG ((a.take a.length).drop ((W .i64 ((W .i64 (((a.length:Int).tdiv 2)))+1)).toNat))] fun p =>
  kF 9 p fun q =>
  gd (cw 1 b) <|
  gd (decide (0<=W .i64 ((W .i64 (((a.length:Int).tdiv 2)))+1))) <|
  gd (decide ((W .i64 ((W .i64 (((a.length:Int).tdiv 2)))+1)).toNat<=b.length)) <|
  aL aI 173 [aG ((b.take b.length).drop ((W .i64 ((W .i64 (((a.length:Int).tdiv 2)))+1)).toNat))] fun r =>
  kF 3 r fun s =>
  aA (.done (aT [aH [aG m,aG o,aE f,aB .i64 (W .i64 (e+1))],aH [aG q,aG s,aE c,aB .i64 d],aE f,aB .i64 0])))))
theorem XO(a b c d e): Ep 168 [aH [aG a,aG b,aE c,aB .i64 d],aB .i64 e] (G3 a b c d e):=ep
theorem XN(a b c d e): Ed 168 [aH [aG a,aG b,aE c,aB .i64 d],aB .i64 e] (G3 a b c d e):=ed (XO a b c d e)
def G1 (a b:List UInt8): R :=
 aA (.done (aB .i64 (W .i64 ((W .i64 (2+(a.length:Int)))+(b.length:Int)))))
theorem XK(a b): Ep 165 [aH [aE a,aE b]] (G1 a b):=ep
theorem XJ(a b): Ed 165 [aH [aE a,aE b]] (G1 a b):=ed (XK a b)
def wK(a:Int)(b:List V)(c d:Int): S:=⟨[bo,bo,aB .i64 0,aB .i64 a]++(JU 7)++[aG b,aB .i64 c,aB .i64 d]++(JU 9),[]⟩
def Nj (a:List V) (b:List UInt8) (c:Int): R :=
 aA (.head 0 (wK (W .i64 (5+(b.length:Int))) a (a.length:Int) 0))
theorem XD(a b c): Ep 159 [aH [aG a,aE b,aB .i64 c]] (Nj a b c):=ep
def J7 (b:Int) (c:List V) (d a:Int): R :=
 cond (decide (a < d))
 (gd (decide (0<=a)) <|
  bl c a.toNat fun e =>
  eD e fun f g =>
  aL aI 165 [aH [aE f,aE g]] fun h =>
  kI .i64 h fun i =>
  aA (.head 0 (wK (W .i64 (b+i)) c d (W .i64 (a+1)))))
 (aA (.done (aB .i64 b)))
theorem SH(a b c d): Rd aD 0 159 0 (wK a b c d) (J7 a b c d):=rd
def GI (b:List V) (a:List UInt8) (c:Int): R :=
 aL aI 159 [aH [aG b,aE a,aB .i64 c]] fun d =>
 kI .i64 d fun e =>
 aA (.done (bc (decide (W .i64 ((W .i64 (e - (a.length:Int)))+16)<=252))))
theorem W6(a b c): Ep 118 [aH [aG a,aE b,aB .i64 c]] (GI a b c):=ep
theorem W5(a b c): Ed 118 [aH [aG a,aE b,aB .i64 c]] (GI a b c):=ed (W6 a b c)
def zf(a:List UInt8)(b:List V)(c d:Int)(e:List V)(f:List UInt8)(g:Int): S:=⟨[bo,aK 0 0 0,bc aD,aE a]++(JU 4)++[aG b,aB .i64 c,aB .i64 d]++(JU 51),[aJ 120 (aH [aG e,aE f,aB .i64 g]) aD]⟩
def MW (a:List V) (b:List UInt8) (c:Int): R :=
 aA (.head 0 (zf [] a (a.length:Int) 0 a b c))
theorem WX(a b c): Ep 115 [aH [aG a,aE b,aB .i64 c]] (MW a b c):=ep
def Ev (e:List UInt8) (g:List V) (h c:Int) (f:List V) (b:List UInt8) (a:Int): R :=
 cond (decide (c < h))
 (gd (decide (0<=c)) <|
  bl g c.toNat fun i =>
  eD i fun d j =>
  aL aI 73 [aE d] fun k =>
  kB k fun l =>
  cond (!l)
 (aA (.done (bc aD)))
 (aL aI 74 [aE j] fun m =>
  kB m fun n =>
  cond (!n)
 (aA (.done (bc aD)))
 (cond (Op.bytesLess d e ||d==e)
 (aA (.done (bc aD)))
 (aA (.head 0 (zf d g h (W .i64 (c+1)) f b a))))))
 (cond (b==[])
 (cond (decide (a ≥ 0))
 (cond (decide (a<=1024))
 (aL aI 118 [aH [aG f,aE b,aB .i64 a]] fun o =>
  kB o fun p =>
  aA (.done (bc p)))
 (aA (.done (bc aD))))
 (aA (.done (bc aD))))
 (aL aI 73 [aE b] fun q =>
  kB q fun r =>
  cond r
 (cond (Op.bytesLess e b)
 (cond (decide (a ≥ 0))
 (cond (decide (a<=1024))
 (aL aI 118 [aH [aG f,aE b,aB .i64 a]] fun s =>
  kB s fun t =>
  aA (.done (bc t)))
 (aA (.done (bc aD))))
 (aA (.done (bc aD))))
 (aA (.done (bc aD))))
 (aA (.done (bc aD)))))
theorem AV(a b c d e f g): Rd aD 0 115 0 (zf a b c d e f g) (Ev a b c d e f g):=rd
def zg(a:List UInt8)(b:Int)(c:List V)(d e:Int): S:=⟨[bo,bo,aE [],aE a,bo,aB .i64 b]++(JU 40)++[aG c,aB .i64 d,aB .i64 e]++(JU 23),[]⟩
def MY (a:List V) (b:List UInt8) (c:Int): R :=
 aL aI 115 [aH [aG a,aE b,aB .i64 c]] fun d =>
 kB d fun e =>
 cond (!e)
 (aA (.done (aE [])))
 (aL aI 159 [aH [aG a,aE b,aB .i64 c]] fun f =>
  kI .i64 f fun g =>
  aL aI 160 [aE [UInt8.ofNat ((76:Int)).toNat],aB .i64 g] fun h =>
  i7 h fun i q =>
  aL aI 161 [aE i,aB .i64 1,aB .i64 1,aB .u64 (W .u64 ((a.length:Int)))] fun j =>
  i7 j fun k r =>
  aL aI 161 [aE k,aB .i64 2,aB .i64 2,aB .u64 (W .u64 (c))] fun l =>
  i7 l fun m s =>
  aL aI 162 [aE m,aB .i64 4,aE b] fun n =>
  gt n fun o p t =>
  aA (.head 0 (zg o p a (a.length:Int) 0)))
theorem W8(a b c): Ep 120 [aH [aG a,aE b,aB .i64 c]] (MY a b c):=ep
def JV (b:List UInt8) (e:Int) (c:List V) (d a:Int): R :=
 cond (decide (a < d))
 (gd (decide (0<=a)) <|
  bl c a.toNat fun f =>
  eD f fun g h =>
  aL aI 162 [aE b,aB .i64 e,aE g] fun i =>
  gt i fun j k o =>
  aL aI 162 [aE j,aB .i64 k,aE h] fun l =>
  gt l fun m n p =>
  aA (.head 0 (zg m n c d (W .i64 (a+1)))))
 (aA (.done (aE b)))
theorem Sy(a b c d e): Rd aD 0 120 0 (zg a b c d e) (JV a b c d e):=rd
def FV(a:List UInt8)(b c:Int)(d:List UInt8)(e:Int): S:=⟨[aE a,bo,aK 0 0 0,aB .i64 0,bc aD,aB .u64 b]++(JU 4)++[aB .i64 c,bo,aK 1 0 0,bc aC]++(JU 75),[aJ 120 (aH [bC 2 0,aE [],aB .i64 0]) aD,aJ 120 (aH [V.nilS,aE d,aB .i64 e]) aD,aM 41 [] 0]⟩
def LC(a:List UInt8)(b c d:Int)(e:List UInt8)(f:Int): S:=⟨[aE a,bo,aK 0 0 0,aB .i64 0,bc aD,aB .u64 b]++(JU 4)++[aB .i64 c,bo,aK 1 0 0,bc aC]++(JU 42)++[aB .u64 d,aB .u64 0]++(JU 31),[aJ 120 (aH [bC 2 0,aE [],aB .i64 0]) aD,aJ 120 (aH [V.nilS,aE e,aB .i64 f]) aD,aM 41 [] 0]⟩
def qG(a:List UInt8)(b c d e:Int)(f:List UInt8)(g:Int)(h i:List UInt8): S:=⟨[aE a,bo,aK 0 0 0,aB .i64 0,bc aD,aB .u64 b]++(JU 4)++[aB .i64 c,bo,aK 1 0 0,bc aC,aK 2 0 0]++(JU 41)++[aB .u64 d,aB .u64 0,bo,bo,bo,aH [aK 2 0 0,aK 2 0 1],aB .i64 e]++(JU 26),[aJ 120 (aH [bC 3 0,aE [],aB .i64 0]) aD,aJ 120 (aH [V.nilS,aE f,aB .i64 g]) aD,aJ 41 (aH [aE h,aE i]) aD,aM 41 [] 0]⟩
def B0(a:List UInt8)(b c d e:Int)(f:List UInt8)(g:Int)(h:List V): S:=⟨[aE a,bo,aK 0 0 0,aB .i64 0,bc aD,aB .u64 b]++(JU 4)++[aB .i64 c,bo,aK 1 0 0,bc aC]++(JU 42)++[aB .u64 d,aB .u64 e]++(JU 31),[aJ 120 (aH [bC 2 0,aE [],aB .i64 0]) aD,aJ 120 (aH [bC 3 0,aE f,aB .i64 g]) aD,aM 41 [] 0,aM 41 h 0]⟩
def qH(a:List UInt8)(b c d e f:Int)(g:List UInt8)(h:Int)(i j:List UInt8)(k:List V): S:=⟨[aE a,bo,aK 0 0 0,aB .i64 0,bc aD,aB .u64 b]++(JU 4)++[aB .i64 c,bo,aK 1 0 0,bc aC,aK 2 0 0]++(JU 41)++[aB .u64 d,aB .u64 e,bo,bo,bo,aH [aK 2 0 0,aK 2 0 1],aB .i64 f]++(JU 26),[aJ 120 (aH [bC 3 0,aE [],aB .i64 0]) aD,aJ 120 (aH [bC 4 0,aE g,aB .i64 h]) aD,aJ 41 (aH [aE i,aE j]) aD,aM 41 [] 0,aM 41 k 0]⟩
def G4 (a:List UInt8): R :=
 aL aI 214 [aE a,aB .i64 1,aB .i64 1] fun b =>
 mE b fun c d =>
 aL aI 214 [aE a,aB .i64 2,aB .i64 2] fun e =>
 mE e fun f g =>
 aL aI 71 [aE a,aB .i64 4] fun h =>
 gt h fun i j k =>
 cond (d != (0:Int))
 (aA (.done (aT [aH [aG [],aE [],aB .i64 0],aB .i64 0,bc aD])))
 (cond (g != (0:Int))
 (aA (.done (aT [aH [aG [],aE [],aB .i64 0],aB .i64 0,bc aD])))
 (cond (k != (0:Int))
 (aA (.done (aT [aH [aG [],aE [],aB .i64 0],aB .i64 0,bc aD])))
 (bl a 0 fun l =>
  cond ((l.toNat:Int) != (76:Int))
 (aA (.done (aT [aH [aG [],aE [],aB .i64 0],aB .i64 0,bc aD])))
 (aA (.head 0 (FV a c j i (W .i64 (f))))))))
theorem No(a): Ep 175 [aE a] (G4 a):=ep
def afq (b:List UInt8) (a c:Int) (d:List UInt8) (e:Int): R :=
 aA (.head 1 (LC b a c a d e))
theorem afr(a b c d e): Rd aD 0 175 0 (FV a b c d e) (afq a b c d e):=rd
def Kb (e:List UInt8) (f a b:Int) (c:List UInt8) (d:Int): R :=
 cond (decide (0 < b))
 (aA (.head 2 (qG e f a b 0 c d [] [])))
 (aA (.done (aT [aH [aG [],aE c,aB .i64 d],aB .i64 a,bc aC])))
theorem SL(a b c d e f): Rd aD 0 175 1 (LC a b c d e f) (Kb a b c d e f):=rd
def SO (a:List UInt8) (e b f:Int) (c:List UInt8) (d:Int) (l g:List UInt8): R :=
 aL aI 71 [aE a,aB .i64 b] fun h =>
 gt h fun i j k =>
 cond (k != (0:Int))
 (aA (.done (aT [aH [aG [],aE c,aB .i64 d],aB .i64 b,bc aD])))
 (aA (.head 2 (qG a e j f 1 c d i g)))
theorem afs(a b c d e f g h): Rd aD 0 175 2 (qG a b c d 0 e f g h) (SO a b c d e f g h):=rd
def SP (a:List UInt8) (e b f:Int) (c:List UInt8) (d:Int) (g l:List UInt8): R :=
 aL aI 71 [aE a,aB .i64 b] fun h =>
 gt h fun i j k =>
 cond (k != (0:Int))
 (aA (.done (aT [aH [aG [],aE c,aB .i64 d],aB .i64 b,bc aD])))
 (aA (.head 2 (qG a e j f 2 c d g i)))
theorem aft(a b c d e f g h): Rd aD 0 175 2 (qG a b c d 1 e f g h) (SP a b c d e f g h):=rd
def SQ (c:List UInt8) (d e f:Int) (g:List UInt8) (h:Int) (a b:List UInt8): R :=
 gd (decide (([aH [aE a,aE b]]:List V).length<=16777216)) <|
 aA (.head 1 (B0 c d e f (W .u64 (0+1)) g h [aH [aE a,aE b]]))
theorem afu(a b c d e f g h): Rd aD 0 175 2 (qG a b c d 2 e f g h) (SQ a b c d e f g h):=rd
def Kc (g:List UInt8) (h a b c:Int) (d:List UInt8) (e:Int) (f:List V): R :=
 cond (decide (c < b))
 (aA (.head 2 (qH g h a b c 0 d e [] [] f)))
 (aA (.done (aT [aH [aG f,aE d,aB .i64 e],aB .i64 a,bc aC])))
theorem SN(a b c d e f g h): Rd aD 0 175 1 (B0 a b c d e f g h) (Kc a b c d e f g h):=rd
def SS (a:List UInt8) (f b g h:Int) (c:List UInt8) (d:Int) (n i:List UInt8) (e:List V): R :=
 aL aI 71 [aE a,aB .i64 b] fun j =>
 gt j fun k l m =>
 cond (m != (0:Int))
 (aA (.done (aT [aH [aG e,aE c,aB .i64 d],aB .i64 b,bc aD])))
 (aA (.head 2 (qH a f l g h 1 c d k i e)))
theorem afv(a b c d e f g h i j): Rd aD 0 175 2 (qH a b c d e 0 f g h i j) (SS a b c d e f g h i j):=rd
def SU (a:List UInt8) (f b g h:Int) (c:List UInt8) (d:Int) (i n:List UInt8) (e:List V): R :=
 aL aI 71 [aE a,aB .i64 b] fun j =>
 gt j fun k l m =>
 cond (m != (0:Int))
 (aA (.done (aT [aH [aG e,aE c,aB .i64 d],aB .i64 b,bc aD])))
 (aA (.head 2 (qH a f l g h 2 c d i k e)))
theorem afw(a b c d e f g h i j): Rd aD 0 175 2 (qH a b c d e 1 f g h i j) (SU a b c d e f g h i j):=rd
def SV (d:List UInt8) (e f g h:Int) (i:List UInt8) (j:Int) (a b:List UInt8) (c:List V): R :=
 gd (decide (c.length+([aH [aE a,aE b]]:List V).length<=16777216)) <|
 aA (.head 1 (B0 d e f g (W .u64 (h+1)) i j (c++[aH [aE a,aE b]])))
theorem afx(a b c d e f g h i j): Rd aD 0 175 2 (qH a b c d e 2 f g h i j) (SV a b c d e f g h i j):=rd
def CI (a:List UInt8): R :=
 cond (decide ((a.length:Int) > 252))
 (aA (.done (aT [aH [aG [],aE [],aB .i64 0],aB .i64 4])))
 (aL aI 175 [aE a] fun f =>
  Cx f fun c d e b g =>
  cond (!g)
 (aA (.done (aT [aH [aG [],aE [],aB .i64 0],aB .i64 4])))
 (aL aI 115 [aH [aG c,aE d,aB .i64 e]] fun h =>
  kB h fun i =>
  cond (!i)
 (aA (.done (aT [aH [aG [],aE [],aB .i64 0],aB .i64 4])))
 (gd (decide (0<=b)) <|
  gd (decide (b.toNat<=a.length)) <|
  aL aI 176 [aE ((a.take a.length).drop b.toNat)] fun j =>
  kS j fun k =>
  cond (!(k==[]))
 (aA (.done (aT [aH [aG [],aE [],aB .i64 0],aB .i64 4])))
 (aA (.done (aT [aH [aG c,aE d,aB .i64 e],aB .i64 0]))))))
theorem Xg(a): Ep 129 [aE a] (CI a):=ep
theorem M6(a): Ed 129 [aE a] (CI a):=ed (Xg a)
def GG (a:List V) (f:List UInt8) (g:Int) (b:List UInt8): R :=
 aL aI 156 [aG a,aE b,V.fn 157 []] fun c =>
 lu c fun d e =>
 aA (.done (aT [aB .i64 d,bc e]))
theorem WZ(a b c d): Ep 116 [aH [aG a,aE b,aB .i64 c],aE d] (GG a b c d):=ep
theorem WY(a b c d): Ed 116 [aH [aG a,aE b,aB .i64 c],aE d] (GG a b c d):=ed (WZ a b c d)
def GH (b:List V) (a d:Int) (c:List V): R :=
 gd (decide (0<=a)) <|
 gd (decide (a<=W .i64 ((b.length:Int)+(c.length:Int)))) <|
 gd (decide ((W .i64 ((b.length:Int)+(c.length:Int))).toNat<=16777216)) <|
 gd (cw 2 b) <|
 gd (decide (0<=a)) <|
 gd (decide (a.toNat<=b.length)) <|
 gd (cw 2 (b.take a.toNat)) <|
 gd (decide (0+((dh a.toNat (aH [aE [],aE []])).length)<=(dh a.toNat (aH [aE [],aE []])).length)) <|
 gd (cw 2 c) <|
 gd (decide (((dh a.toNat (aH [aE [],aE []])).take 0++(b.take a.toNat).take (min (b.take a.toNat).length ((dh a.toNat (aH [aE [],aE []])).length))++(dh a.toNat (aH [aE [],aE []])).drop (0+min (b.take a.toNat).length ((dh a.toNat (aH [aE [],aE []])).length))).length+c.length<=16777216)) <|
 gd (cw 2 b) <|
 gd (decide (0<=d)) <|
 gd (decide (d.toNat<=b.length)) <|
 gd (cw 2 ((b.take b.length).drop d.toNat)) <|
 gd (decide ((((dh a.toNat (aH [aE [],aE []])).take 0++(b.take a.toNat).take (min (b.take a.toNat).length ((dh a.toNat (aH [aE [],aE []])).length))++(dh a.toNat (aH [aE [],aE []])).drop (0+min (b.take a.toNat).length ((dh a.toNat (aH [aE [],aE []])).length)))++c).length+((b.take b.length).drop d.toNat).length<=16777216)) <|
 gd (((((dh a.toNat (aH [aE [],aE []])).take 0++(b.take a.toNat).take (min (b.take a.toNat).length ((dh a.toNat (aH [aE [],aE []])).length))++(dh a.toNat (aH [aE [],aE []])).drop (0+min (b.take a.toNat).length ((dh a.toNat (aH [aE [],aE []])).length)))++c)++((b.take b.length).drop d.toNat):List V).all fun e=>e.cells.all jw) <|
 aA (.done (V.fr 41 ((((dh a.toNat (aH [aE [],aE []])).take 0++(b.take a.toNat).take (min (b.take a.toNat).length ((dh a.toNat (aH [aE [],aE []])).length))++(dh a.toNat (aH [aE [],aE []])).drop (0+min (b.take a.toNat).length ((dh a.toNat (aH [aE [],aE []])).length)))++c)++((b.take b.length).drop d.toNat))))
theorem W4(a b c d): Ep 117 [aG a,aB .i64 b,aB .i64 c,aG d] (GH a b c d):=ep
theorem W0(a b c d): Ed 117 [aG a,aB .i64 b,aB .i64 c,aG d] (GH a b c d):=ed (W4 a b c d)
def Hy (a:List V) (b:List UInt8) (c:Int) (e:List UInt8): R :=
 aL aI 115 [aH [aG a,aE b,aB .i64 c]] fun f =>
 kB f fun g =>
 cond (!g)
 (aA (.done (aT [aE [],aB .i64 1])))
 (aL aI 116 [aH [aG a,aE b,aB .i64 c],aE e] fun h =>
  lu h fun d i =>
  cond (!i)
 (aA (.done (aT [aE [],aB .i64 7])))
 (gd (decide (0<=d)) <|
  bl a d.toNat fun j =>
  eD j fun l k =>
  aA (.done (aT [aE k,aB .i64 0]))))
theorem Za(a b c d): Ep 76 [aH [aG a,aE b,aB .i64 c],aE d] (Hy a b c d):=ep
theorem Y9(a b c d): Ed 76 [aH [aG a,aE b,aB .i64 c],aE d] (Hy a b c d):=ed (Za a b c d)
def Hz (d:List V) (a:List UInt8) (b:Int) (c e:List UInt8): R :=
 aL aI 115 [aH [aG d,aE a,aB .i64 b]] fun l =>
 kB l fun m =>
 cond (!m)
 (aA (.done (aT [aH [aG [],aE [],aB .i64 0],aB .i64 1])))
 (aL aI 73 [aE c] fun n =>
  kB n fun o =>
  cond (!o)
 (aA (.done (aT [aH [aG [],aE [],aB .i64 0],aB .i64 1])))
 (aL aI 74 [aE e] fun p =>
  kB p fun q =>
  cond (!q)
 (aA (.done (aT [aH [aG [],aE [],aB .i64 0],aB .i64 1])))
 (cond (!(a==[]))
 (cond (!Op.bytesLess c a)
 (aA (.done (aT [aH [aG [],aE [],aB .i64 0],aB .i64 1])))
 (aL aI 116 [aH [aG d,aE a,aB .i64 b],aE c] fun r =>
  lu r fun f s =>
  cond s
 (aL aI 117 [aG d,aB .i64 f,aB .i64 (W .i64 (f+1)),aG [aH [aE c,aE e]]] fun t =>
  kF 41 t fun h =>
  aL aI 118 [aH [aG h,aE a,aB .i64 b]] fun u =>
  kB u fun v =>
  cond (!v)
 (aA (.done (aT [aH [aG [],aE [],aB .i64 0],aB .i64 6])))
 (aA (.done (aT [aH [aG h,aE a,aB .i64 b],aB .i64 0]))))
 (aL aI 117 [aG d,aB .i64 f,aB .i64 f,aG [aH [aE c,aE e]]] fun w =>
  kF 41 w fun i =>
  aL aI 118 [aH [aG i,aE a,aB .i64 b]] fun x =>
  kB x fun y =>
  cond (!y)
 (aA (.done (aT [aH [aG [],aE [],aB .i64 0],aB .i64 6])))
 (aA (.done (aT [aH [aG i,aE a,aB .i64 b],aB .i64 0]))))))
 (aL aI 116 [aH [aG d,aE a,aB .i64 b],aE c] fun z =>
  lu z fun g aa =>
  cond aa
 (aL aI 117 [aG d,aB .i64 g,aB .i64 (W .i64 (g+1)),aG [aH [aE c,aE e]]] fun ab =>
  kF 41 ab fun j =>
  aL aI 118 [aH [aG j,aE a,aB .i64 b]] fun ac =>
  kB ac fun ad =>
  cond (!ad)
 (aA (.done (aT [aH [aG [],aE [],aB .i64 0],aB .i64 6])))
 (aA (.done (aT [aH [aG j,aE a,aB .i64 b],aB .i64 0]))))
 (aL aI 117 [aG d,aB .i64 g,aB .i64 g,aG [aH [aE c,aE e]]] fun ae =>
  kF 41 ae fun k =>
  aL aI 118 [aH [aG k,aE a,aB .i64 b]] fun af =>
  kB af fun ag =>
  cond (!ag)
 (aA (.done (aT [aH [aG [],aE [],aB .i64 0],aB .i64 6])))
 (aA (.done (aT [aH [aG k,aE a,aB .i64 b],aB .i64 0]))))))))
theorem Zc(a b c d e): Ep 77 [aH [aG a,aE b,aB .i64 c],aE d,aE e] (Hz a b c d e):=ep
theorem Zb(a b c d e): Ed 77 [aH [aG a,aE b,aB .i64 c],aE d,aE e] (Hz a b c d e):=ed (Zc a b c d e)
def HA (a:List V) (b:List UInt8) (c:Int) (e:List UInt8): R :=
 aL aI 115 [aH [aG a,aE b,aB .i64 c]] fun f =>
 kB f fun g =>
 cond (!g)
 (aA (.done (aT [aH [aG [],aE [],aB .i64 0],aB .i64 1])))
 (aL aI 116 [aH [aG a,aE b,aB .i64 c],aE e] fun h =>
  lu h fun d i =>
  cond (!i)
 (aA (.done (aT [aH [aG [],aE [],aB .i64 0],aB .i64 7])))
 (aL aI 117 [aG a,aB .i64 d,aB .i64 (W .i64 (d+1)),aG []] fun j =>
  kF 41 j fun k =>
  aA (.done (aT [aH [aG k,aE b,aB .i64 c],aB .i64 0]))))
theorem Zh(a b c d): Ep 80 [aH [aG a,aE b,aB .i64 c],aE d] (HA a b c d):=ep
theorem Zg(a b c d): Ed 80 [aH [aG a,aE b,aB .i64 c],aE d] (HA a b c d):=ed (Zh a b c d)
def so(a b c d:Int)(e:List V)(f:List UInt8)(g:Int): S:=⟨[bo,aB .i64 a,aK 0 0 0,bo,aK 1 0 0,aK 2 0 0,aB .i64 0,aB .i64 b,aB .i64 c,aB .i64 d]++(JU 82),[aJ 120 (aH [aG e,aE f,aB .i64 g]) aD,aJ 120 (aH [bC 3 0,aE [],aB .i64 0]) aD,aJ 120 (aH [bC 4 0,aE [],aB .i64 0]) aD,aM 41 [] 0,aM 41 [] 0]⟩
def M0 (a:List V) (b:List UInt8) (c d:Int): R :=
 aL aI 115 [aH [aG a,aE b,aB .i64 c]] fun e =>
 kB e fun f =>
 cond (!f)
 (aA (.done (aT [aH [aG [],aE [],aB .i64 0],aH [aG [],aE [],aB .i64 0],aB .i64 1])))
 (cond (decide ((a.length:Int) < 2))
 (aA (.done (aT [aH [aG [],aE [],aB .i64 0],aH [aG [],aE [],aB .i64 0],aB .i64 1])))
 (cond (decide (d < 0))
 (aA (.done (aT [aH [aG [],aE [],aB .i64 0],aH [aG [],aE [],aB .i64 0],aB .i64 1])))
 (cond (decide (d ≥ 1024))
 (aA (.done (aT [aH [aG [],aE [],aB .i64 0],aH [aG [],aE [],aB .i64 0],aB .i64 1])))
 (aL aI 159 [aH [aG a,aE b,aB .i64 c]] fun g =>
  kI .i64 g fun h =>
  aA (.head 0 (so d (W .i64 ((W .i64 ((W .i64 (h - 4)) - 1)) - (b.length:Int))) 0 0 a b c))))))
theorem W9(a b c d): Ep 122 [aH [aG a,aE b,aB .i64 c],aB .i64 d] (M0 a b c d):=ep
def AW (c f a g:Int) (b:List V) (d:List UInt8) (e:Int): R :=
 cond (decide (a < W .i64 ((b.length:Int) - 1)))
 (cond (a==(0:Int))
 (gd (decide (0<=a)) <|
  bl b a.toNat fun h =>
  eD h fun i j =>
  aL aI 165 [aH [aE i,aE j]] fun k =>
  kI .i64 k fun l =>
  aA (.head 0 (so c f (W .i64 (a+1)) (W .i64 (g+l)) b d e)))
 (cond (decide (W .i64 (2 * g) < f))
 (gd (decide (0<=a)) <|
  bl b a.toNat fun m =>
  eD m fun n o =>
  aL aI 165 [aH [aE n,aE o]] fun p =>
  kI .i64 p fun q =>
  aA (.head 0 (so c f (W .i64 (a+1)) (W .i64 (g+q)) b d e)))
 (aL aI 117 [aG b,aB .i64 a,aB .i64 (b.length:Int),aG []] fun r =>
  kF 41 r fun s =>
  gd (decide (0<=a)) <|
  bl b a.toNat fun t =>
  eD t fun u ad =>
  aL aI 117 [aG b,aB .i64 0,aB .i64 a,aG []] fun v =>
  kF 41 v fun w =>
  aA (.done (aT [aH [aG s,aE u,aB .i64 (W .i64 (c+1))],aH [aG w,aE d,aB .i64 e],aB .i64 0])))))
 (aL aI 117 [aG b,aB .i64 a,aB .i64 (b.length:Int),aG []] fun x =>
  kF 41 x fun y =>
  gd (decide (0<=a)) <|
  bl b a.toNat fun z =>
  eD z fun aa ae =>
  aL aI 117 [aG b,aB .i64 0,aB .i64 a,aG []] fun ab =>
  kF 41 ab fun ac =>
  aA (.done (aT [aH [aG y,aE aa,aB .i64 (W .i64 (c+1))],aH [aG ac,aE d,aB .i64 e],aB .i64 0])))
theorem Ew(a b c d e f g): Rd aD 0 122 0 (so a b c d e f g) (AW a b c d e f g):=rd
def G5 (a:Int): R :=
 gd (decide (0<=a.tmod 8)) <|
 gd (decide ((a.tmod 8).toNat < 8)) <|
 bl [aB .u8 1,aB .u8 2,aB .u8 4,aB .u8 8,aB .u8 16,aB .u8 32,aB .u8 64,aB .u8 128] ((a.tmod 8).toNat) fun b =>
 kI .u8 b fun c =>
 aA (.done (aB .u8 c))
theorem XV(a): Ep 193 [aB .i64 a] (G5 a):=ep
theorem XU(a): Ed 193 [aB .i64 a] (G5 a):=ed (XV a)
def Hp (a:List UInt8): R :=
 gd (decide (0<=(if 16 < (a.length:Int) then 16 else (a.length:Int)))) <|
 gd (decide ((if 16 < (a.length:Int) then 16 else (a.length:Int)).toNat<=a.length)) <|
 aA (.done (aE (a.take ((if 16 < (a.length:Int) then 16 else (a.length:Int)).toNat))))
theorem YR(a): Ep 63 [aE a] (Hp a):=ep
theorem YQ(a): Ed 63 [aE a] (Hp a):=ed (YR a)
def Hr (a:List UInt8): R :=
 gd (decide (([UInt8.ofNat (W .u8 ((a.length:Int))).toNat]:List UInt8).length+a.length<=4611686018427387904)) <|
 aA (.done (aE ([UInt8.ofNat (W .u8 ((a.length:Int))).toNat]++a)))
theorem YW(a): Ep 69 [aE a] (Hr a):=ep
theorem YV(a): Ed 69 [aE a] (Hr a):=ed (YW a)
def Hl (c:List UInt8) (a b:Int): R :=
 cond (decide (b < 1))
 (aA (.done (aB .i64 1)))
 (cond (decide (b > 8))
 (aA (.done (aB .i64 1)))
 (cond (decide (a < 0))
 (aA (.done (aB .i64 1)))
 (cond (decide (a > (c.length:Int)))
 (aA (.done (aB .i64 1)))
 (cond (decide (W .i64 (a+b) > (c.length:Int)))
 (aA (.done (aB .i64 3)))
 (aA (.done (aB .i64 0)))))))
theorem Yq(a b c): Ep 230 [aE a,aB .i64 b,aB .i64 c] (Hl a b c):=ep
theorem Yp(a b c): Ed 230 [aE a,aB .i64 b,aB .i64 c] (Hl a b c):=ed (Yq a b c)
def wP(a:List UInt8)(b c d:Int): S:=⟨[aE a,aB .i64 b]++(JU 4)++[aB .u64 0,aB .i64 0,bo,aB .u64 c,aB .i64 d]++(JU 23),[]⟩
def Hj (a:List UInt8) (b c:Int): R :=
 aL aI 230 [aE a,aB .i64 b,aB .i64 c] fun e =>
 kI .i64 e fun d =>
 cond (d != (0:Int))
 (aA (.done (aT [aB .u64 0,aB .i64 d])))
 (aA (.head 0 (wP a b 0 (W .i64 (c - 1)))))
theorem Nx(a b c): Ep 221 [aE a,aB .i64 b,aB .i64 c] (Hj a b c):=ep
def Kj (c:List UInt8) (b d a:Int): R :=
 cond (decide (a ≥ 0))
 (gd (decide (0<=W .i64 (b+a))) <|
  bl c ((W .i64 (b+a)).toNat) fun e =>
  aA (.head 0 (wP c b (W .u64 ((W .u64 (256 * d))+(W .u64 ((e.toNat:Int))))) (W .i64 (a - 1)))))
 (aA (.done (aT [aB .u64 d,aB .i64 0])))
theorem S0(a b c d): Rd aD 0 221 0 (wP a b c d) (Kj a b c d):=rd
def CO (a b:Int): R :=
 cond (b==(0:Int))
 (aA (.done (aE [])))
 (aL aI 222 [aB .u64 (W .u64 ((a.tdiv 256))),aB .i64 (W .i64 (b - 1))] fun d =>
  kS d fun c =>
  gd (decide (([UInt8.ofNat (W .u8 (a.tmod 256)).toNat]:List UInt8).length+c.length<=4611686018427387904)) <|
  aA (.done (aE ([UInt8.ofNat (W .u8 (a.tmod 256)).toNat]++c))))
theorem Yl(a b): Ep 222 [aB .u64 a,aB .i64 b] (CO a b):=ep
theorem Ny(a b): Ed 222 [aB .u64 a,aB .i64 b] (CO a b):=ed (Yl a b)
def G7 (a:List UInt8) (b:Int): R :=
 cond (decide (b < 0))
 (aA (.done (aT [aE [],aB .i64 1])))
 (cond (decide (b > 65536))
 (aA (.done (aT [aE [],aB .i64 1])))
 (cond (decide ((a.length:Int) > b))
 (aA (.done (aT [aE [],aB .i64 2])))
 (aL aI 222 [aB .u64 0,aB .i64 (W .i64 (b - (a.length:Int)))] fun d =>
  kS d fun c =>
  gd (decide (a.length+c.length<=4611686018427387904)) <|
  aA (.done (aT [aE (a++c),aB .i64 0])))))
theorem XZ(a b): Ep 195 [aE a,aB .i64 b] (G7 a b):=ep
theorem XY(a b): Ed 195 [aE a,aB .i64 b] (G7 a b):=ed (XZ a b)
def B3(a b:Int)(c:List V)(d:List UInt8)(e:Int): S:=⟨[bo,aK 0 0 0,aB .i64 0,aB .i64 a,aB .i64 b]++(JU 30),[aJ 108 (aH [aG c,aE d,aB .i64 e]) aD]⟩
def Nr (b:List V) (a:List UInt8) (c:Int): R :=
 aA (.head 0 (B3 (W .i64 (5+(a.length:Int))) 0 b a c))
theorem X1(a b c): Ep 197 [aH [aG a,aE b,aB .i64 c]] (Nr a b c):=ep
def Kg (c a:Int) (b:List V) (d:List UInt8) (e:Int): R :=
 cond (decide (a < (b.length:Int)))
 (gd (decide (0<=a)) <|
  bl b a.toNat fun f =>
  eD f fun g j =>
  gd (decide (0<=a)) <|
  bl b a.toNat fun h =>
  eD h fun k i =>
  aA (.head 0 (B3 (W .i64 ((W .i64 ((W .i64 (c+2))+(g.length:Int)))+(i.length:Int))) (W .i64 (a+1)) b d e)))
 (aA (.done (aB .i64 c)))
theorem SX(a b c d e): Rd aD 0 197 0 (B3 a b c d e) (Kg a b c d e):=rd
def GM (a:List V): R :=
 aL aI 197 [aH [aG a,aE [],aB .i64 0]] fun b =>
 kI .i64 b fun c =>
 aA (.done (aB .i64 (W .i64 (c - 5))))
theorem Xn(a): Ep 144 [aG a] (GM a):=ep
theorem Xm(a): Ed 144 [aG a] (GM a):=ed (Xn a)
def qE(a:Int)(b:List V)(c:List UInt8)(d:Int): S:=⟨[bo,aK 0 0 0,bc aD,aB .i64 a]++(JU 81),[aJ 108 (aH [aG b,aE c,aB .i64 d]) aD]⟩
def WC (a:List V) (b:List UInt8) (c:Int): R :=
 aA (.head 0 (qE 0 a b c))
theorem WE(a b c): Ep 101 [aH [aG a,aE b,aB .i64 c]] (WC a b c):=ep
def yv (a:Int) (b:List V) (c:List UInt8) (d:Int): R :=
 cond (decide (a < (b.length:Int)))
 (gd (decide (0<=a)) <|
  bl b a.toNat fun e =>
  eD e fun f ac =>
  aL aI 47 [aE f] fun g =>
  kB g fun h =>
  cond (!h)
 (aA (.done (bc aD)))
 (gd (decide (0<=a)) <|
  bl b a.toNat fun i =>
  eD i fun ad j =>
  aL aI 48 [aE j] fun k =>
  kB k fun l =>
  cond (!l)
 (aA (.done (bc aD)))
 (cond (decide (a > 0))
 (gd (decide (0<=W .i64 (a - 1))) <|
  bl b ((W .i64 (a - 1)).toNat) fun m =>
  eD m fun n ae =>
  gd (decide (0<=a)) <|
  bl b a.toNat fun o =>
  eD o fun p af =>
  aL aI 35 [aE n,aE p] fun q =>
  kB q fun r =>
  cond (!r)
 (aA (.done (bc aD)))
 (cond (!(c==[]))
 (gd (decide (0<=a)) <|
  bl b a.toNat fun s =>
  eD s fun t ag =>
  aL aI 35 [aE t,aE c] fun u =>
  kB u fun v =>
  cond (!v)
 (aA (.done (bc aD)))
 (aA (.head 0 (qE (W .i64 (a+1)) b c d))))
 (aA (.head 0 (qE (W .i64 (a+1)) b c d)))))
 (cond (!(c==[]))
 (gd (decide (0<=a)) <|
  bl b a.toNat fun w =>
  eD w fun x ah =>
  aL aI 35 [aE x,aE c] fun y =>
  kB y fun z =>
  cond (!z)
 (aA (.done (bc aD)))
 (aA (.head 0 (qE (W .i64 (a+1)) b c d))))
 (aA (.head 0 (qE (W .i64 (a+1)) b c d)))))))
 (cond (decide ((c.length:Int)<=16))
 (cond (decide (d ≥ 0))
 (cond (decide (d<=1024))
 (aL aI 144 [aG b] fun aa =>
  kI .i64 aa fun ab =>
  aA (.done (bc (decide (ab<=231)))))
 (aA (.done (bc aD))))
 (aA (.done (bc aD))))
 (aA (.done (bc aD))))
theorem vY(a b c d): Rd aD 0 101 0 (qE a b c d) (yv a b c d):=rd
def Gy (a:List UInt8): R :=
 gd (decide (([UInt8.ofNat (W .u8 ((a.length:Int))).toNat]:List UInt8).length+a.length<=4611686018427387904)) <|
 aA (.done (aE ([UInt8.ofNat (W .u8 ((a.length:Int))).toNat]++a)))
theorem WH(a): Ep 102 [aE a] (Gy a):=ep
theorem WG(a): Ed 102 [aE a] (Gy a):=ed (WH a)
def B6(a:List UInt8)(b:Int)(c:List V)(d:List UInt8)(e:Int): S:=⟨[bo,aK 0 0 0,aE [],aE a,aB .i64 b]++(JU 47),[aJ 108 (aH [aG c,aE d,aB .i64 e]) aD]⟩
def Ho (b:List V) (c:List UInt8) (a:Int): R :=
 aL aI 101 [aH [aG b,aE c,aB .i64 a]] fun e =>
 kB e fun f =>
 cond (!f)
 (aA (.done (aE [])))
 (gd (decide (([76]:List UInt8).length+([UInt8.ofNat (W .u8 ((b.length:Int))).toNat,UInt8.ofNat (W .u8 (a.tmod 256)).toNat,UInt8.ofNat (W .u8 (W .i64 ((a.tdiv 256)))).toNat]:List UInt8).length<=4611686018427387904)) <|
  aL aI 102 [aE c] fun g =>
  kS g fun d =>
  gd (decide (([76]++[UInt8.ofNat (W .u8 ((b.length:Int))).toNat,UInt8.ofNat (W .u8 (a.tmod 256)).toNat,UInt8.ofNat (W .u8 (W .i64 ((a.tdiv 256)))).toNat]:List UInt8).length+d.length<=4611686018427387904)) <|
  aA (.head 0 (B6 (([76]++[UInt8.ofNat (W .u8 ((b.length:Int))).toNat,UInt8.ofNat (W .u8 (a.tmod 256)).toNat,UInt8.ofNat (W .u8 (W .i64 ((a.tdiv 256)))).toNat])++d) 0 b c a)))
theorem NL(a b c): Ep 62 [aH [aG a,aE b,aB .i64 c]] (Ho a b c):=ep
def Ko (c:List UInt8) (a:Int) (b:List V) (f:List UInt8) (g:Int): R :=
 cond (decide (a < (b.length:Int)))
 (gd (decide (0<=a)) <|
  bl b a.toNat fun h =>
  eD h fun i n =>
  aL aI 102 [aE i] fun j =>
  kS j fun d =>
  gd (decide (0<=a)) <|
  bl b a.toNat fun k =>
  eD k fun o l =>
  aL aI 102 [aE l] fun m =>
  kS m fun e =>
  gd (decide (d.length+e.length<=4611686018427387904)) <|
  gd (decide (c.length+(d++e).length<=4611686018427387904)) <|
  aA (.head 0 (B6 (c++(d++e)) (W .i64 (a+1)) b f g)))
 (aA (.done (aE c)))
theorem Ta(a b c d e): Rd aD 0 62 0 (B6 a b c d e) (Ko a b c d e):=rd
def BX(a:List UInt8)(b c:Int)(d:List UInt8)(e:Int): S:=⟨[aE a,bo,aK 0 0 0,aB .i64 0,aK 1 0 0,bo,aB .i64 b,aB .i64 c,aB .i64 0]++(JU 98),[aJ 108 (aH [bC 2 0,aE [],aB .i64 0]) aD,aJ 108 (aH [V.nilS,aE d,aB .i64 e]) aD,aM 41 [] 0]⟩
def wJ(a:List UInt8)(b c d:Int)(e:List UInt8)(f:Int)(g:List V): S:=⟨[aE a,bo,aK 0 0 0,aB .i64 0,aK 1 0 0,bo,aB .i64 b,aB .i64 c,aB .i64 d]++(JU 98),[aJ 108 (aH [bC 2 0,aE [],aB .i64 0]) aD,aJ 108 (aH [bC 3 0,aE e,aB .i64 f]) aD,aM 41 [] 0,aM 41 g 0]⟩
def zm(a:List UInt8)(b:Int)(c:List UInt8)(d:Int): S:=⟨[aE a,bo,aK 0 0 0,aB .i64 0,aK 1 0 0,bo,bo,aB .i64 b]++(JU 99),[aJ 108 (aH [bC 2 0,aE [],aB .i64 0]) aD,aJ 108 (aH [V.nilS,aE c,aB .i64 d]) aD,aM 41 [] 0]⟩
def zn(a:List UInt8)(b:Int)(c:List UInt8)(d:Int)(e:List V): S:=⟨[aE a,bo,aK 0 0 0,aB .i64 0,aK 1 0 0,bo,bo,aB .i64 b]++(JU 99),[aJ 108 (aH [bC 2 0,aE [],aB .i64 0]) aD,aJ 108 (aH [bC 3 0,aE c,aB .i64 d]) aD,aM 41 [] 0,aM 41 e 0]⟩
def CJ (a:List UInt8): R :=
 cond (decide ((a.length:Int) < 5))
 (aA (.done (aT [aH [aG [],aE [],aB .i64 0],aB .i64 4])))
 (cond (decide ((a.length:Int) > 252))
 (aA (.done (aT [aH [aG [],aE [],aB .i64 0],aB .i64 4])))
 (bl a 2 fun b =>
  bl a 3 fun c =>
  aL aI 72 [aE a,aB .i64 4] fun d =>
  gt d fun e f g =>
  aA (.head 0 (BX a f g e (W .i64 ((W .i64 ((b.toNat:Int)))+(W .i64 (256 * (W .i64 ((c.toNat:Int)))))))))))
theorem Nb(a): Ep 146 [aE a] (CJ a):=ep
def rG (a:List UInt8) (g b:Int) (c:List UInt8) (d:Int): R :=
 bl a 1 fun h =>
 cond (decide (0 < W .i64 ((h.toNat:Int))))
 (cond (b==(0:Int))
 (aL aI 72 [aE a,aB .i64 g] fun i =>
  gt i fun e j k =>
  cond (k != (0:Int))
 (aA (.done (aT [aH [aG [],aE [],aB .i64 0],aB .i64 4])))
 (aL aI 72 [aE a,aB .i64 j] fun l =>
  gt l fun f m n =>
  gd (decide (([aH [aE e,aE f]]:List V).length<=16777216)) <|
  aA (.head 0 (wJ a m n 1 c d [aH [aE e,aE f]]))))
 (aA (.head 1 (zm a b c d))))
 (aA (.head 1 (zm a b c d)))
theorem yx(a b c d e): Rd aD 0 146 0 (BX a b c d e) (rG a b c d e):=rd
def tY (a:List UInt8) (i c f:Int) (d:List UInt8) (e:Int) (b:List V): R :=
 bl a 1 fun j =>
 cond (decide (f < W .i64 ((j.toNat:Int))))
 (cond (c==(0:Int))
 (aL aI 72 [aE a,aB .i64 i] fun k =>
  gt k fun g l m =>
  cond (m != (0:Int))
 (aA (.done (aT [aH [aG [],aE [],aB .i64 0],aB .i64 4])))
 (aL aI 72 [aE a,aB .i64 l] fun n =>
  gt n fun h o p =>
  gd (decide (b.length+([aH [aE g,aE h]]:List V).length<=16777216)) <|
  aA (.head 0 (wJ a o p (W .i64 (f+1)) d e (b++[aH [aE g,aE h]])))))
 (aA (.head 1 (zn a c d e b))))
 (aA (.head 1 (zn a c d e b)))
theorem yy(a b c d e f g): Rd aD 0 146 0 (wJ a b c d e f g) (tY a b c d e f g):=rd
def EB (c:List UInt8) (d:Int) (a:List UInt8) (b:Int): R :=
 aL aI 62 [aH [aG [],aE a,aB .i64 b]] fun e =>
 kS e fun f =>
 aL aI 195 [aE f,aB .i64 (c.length:Int)] fun g =>
 i7 g fun h i =>
 cond (d != (0:Int))
 (aA (.done (aT [aH [aG [],aE [],aB .i64 0],aB .i64 4])))
 (cond (i != (0:Int))
 (aA (.done (aT [aH [aG [],aE [],aB .i64 0],aB .i64 4])))
 (cond (!(h==c))
 (aA (.done (aT [aH [aG [],aE [],aB .i64 0],aB .i64 4])))
 (aL aI 101 [aH [aG [],aE a,aB .i64 b]] fun j =>
  kB j fun k =>
  cond (!k)
 (aA (.done (aT [aH [aG [],aE [],aB .i64 0],aB .i64 4])))
 (aA (.done (aT [aH [aG [],aE a,aB .i64 b],aB .i64 0]))))))
theorem SD(a b c d): Rd aD 0 146 1 (zm a b c d) (EB a b c d):=rd
def EC (d:List UInt8) (e:Int) (a:List UInt8) (b:Int) (c:List V): R :=
 aL aI 62 [aH [aG c,aE a,aB .i64 b]] fun f =>
 kS f fun g =>
 aL aI 195 [aE g,aB .i64 (d.length:Int)] fun h =>
 i7 h fun i j =>
 cond (e != (0:Int))
 (aA (.done (aT [aH [aG [],aE [],aB .i64 0],aB .i64 4])))
 (cond (j != (0:Int))
 (aA (.done (aT [aH [aG [],aE [],aB .i64 0],aB .i64 4])))
 (cond (!(i==d))
 (aA (.done (aT [aH [aG [],aE [],aB .i64 0],aB .i64 4])))
 (aL aI 101 [aH [aG c,aE a,aB .i64 b]] fun k =>
  kB k fun l =>
  cond (!l)
 (aA (.done (aT [aH [aG [],aE [],aB .i64 0],aB .i64 4])))
 (aA (.done (aT [aH [aG c,aE a,aB .i64 b],aB .i64 0]))))))
theorem SE(a b c d e): Rd aD 0 146 1 (zn a b c d e) (EC a b c d e):=rd
def BY(a:List UInt8)(b:Int)(c:List V)(d:List UInt8)(e:Int): S:=⟨[bo,aE a,aK 0 0 0,bo,aB .i64 0,bc aD,aB .i64 b]++(JU 33),[aJ 108 (aH [aG c,aE d,aB .i64 e]) aD]⟩
def Xo (a:List V) (b:List UInt8) (c:Int) (d:List UInt8): R :=
 aA (.head 0 (BY d 0 a b c))
theorem Xp(a b c d): Ep 147 [aH [aG a,aE b,aB .i64 c],aE d] (Xo a b c d):=ep
def ED (c:List UInt8) (a:Int) (b:List V) (d:List UInt8) (e:Int): R :=
 cond (decide (a < (b.length:Int)))
 (gd (decide (0<=a)) <|
  bl b a.toNat fun f =>
  eD f fun g n =>
  aL aI 35 [aE g,aE c] fun h =>
  kB h fun i =>
  cond i
 (aA (.head 0 (BY c (W .i64 (a+1)) b d e)))
 (cond (decide (a < (b.length:Int)))
 (gd (decide (0<=a)) <|
  bl b a.toNat fun j =>
  eD j fun k o =>
  aA (.done (aT [aB .i64 a,bc (k==c)])))
 (aA (.done (aT [aB .i64 a,bc aD])))))
 (cond (decide (a < (b.length:Int)))
 (gd (decide (0<=a)) <|
  bl b a.toNat fun l =>
  eD l fun m p =>
  aA (.done (aT [aB .i64 a,bc (m==c)])))
 (aA (.done (aT [aB .i64 a,bc aD]))))
theorem J1(a b c d e): Rd aD 0 147 0 (BY a b c d e) (ED a b c d e):=rd
def GA (a:List V) (b:List UInt8) (c:Int) (e:List UInt8): R :=
 aL aI 101 [aH [aG a,aE b,aB .i64 c]] fun f =>
 kB f fun g =>
 cond (!g)
 (aA (.done (aT [aE [],aB .i64 1])))
 (aL aI 147 [aH [aG a,aE b,aB .i64 c],aE e] fun h =>
  lu h fun d i =>
  cond (!i)
 (aA (.done (aT [aE [],aB .i64 7])))
 (gd (decide (0<=d)) <|
  bl a d.toNat fun j =>
  eD j fun l k =>
  aA (.done (aT [aE k,aB .i64 0]))))
theorem WK(a b c d): Ep 105 [aH [aG a,aE b,aB .i64 c],aE d] (GA a b c d):=ep
theorem WJ(a b c d): Ed 105 [aH [aG a,aE b,aB .i64 c],aE d] (GA a b c d):=ed (WK a b c d)
def BN(a b:List UInt8)(c:List V)(d:List UInt8)(e:Int): S:=⟨[bo,aE a,aE b,aK 0 0 0,bo,bo,aK 1 0 0,aB .i64 0]++(JU 68),[aJ 108 (aH [aG c,aE d,aB .i64 e]) aD,aJ 108 (aH [bC 2 0,aE [],aB .i64 0]) aD,aM 41 [] 0]⟩
def BO(a:Int)(b:List V)(c:List UInt8)(d:Int)(e:List V): S:=⟨[bo,bo,bo,aK 0 0 0,bo,bo,aK 1 0 0,aB .i64 0,aB .i64 a,bo,dG 2]++(JU 65),[aJ 108 (aH [aG b,aE c,aB .i64 d]) aD,aJ 108 (aH [bC 3 0,aE [],aB .i64 0]) aD,aM 41 e 0,aM 41 [] 0]⟩
def MQ (c:List V) (a:List UInt8) (d:Int) (b e:List UInt8): R :=
 aL aI 101 [aH [aG c,aE a,aB .i64 d]] fun f =>
 kB f fun g =>
 cond (!g)
 (aA (.done (aT [aH [aG [],aE [],aB .i64 0],aB .i64 1])))
 (aL aI 47 [aE b] fun h =>
  kB h fun i =>
  cond (!i)
 (aA (.done (aT [aH [aG [],aE [],aB .i64 0],aB .i64 1])))
 (aL aI 48 [aE e] fun j =>
  kB j fun k =>
  cond (!k)
 (aA (.done (aT [aH [aG [],aE [],aB .i64 0],aB .i64 1])))
 (cond (!(a==[]))
 (aL aI 35 [aE b,aE a] fun l =>
  kB l fun m =>
  cond (!m)
 (aA (.done (aT [aH [aG [],aE [],aB .i64 0],aB .i64 1])))
 (aA (.head 0 (BN b e c a d))))
 (aA (.head 0 (BN b e c a d))))))
theorem WL(a b c d e): Ep 106 [aH [aG a,aE b,aB .i64 c],aE d,aE e] (MQ a b c d e):=ep
def JI (c d:List UInt8) (a:List V) (e:List UInt8) (f:Int): R :=
 aL aI 147 [aH [aG a,aE e,aB .i64 f],aE c] fun g =>
 lu g fun b h =>
 gd (cw 2 a) <|
 gd (decide (0<=b)) <|
 gd (decide (b.toNat<=a.length)) <|
 gd (cw 2 (a.take b.toNat)) <|
 gd (decide (0+(a.take b.toNat).length<=16777216)) <|
 gd (decide ((a.take b.toNat).length+([aH [aE c,aE d]]:List V).length<=16777216)) <|
 cond h
 (aA (.head 1 (BO (W .i64 (b+1)) a e f ((a.take b.toNat)++[aH [aE c,aE d]]))))
 (aA (.head 1 (BO b a e f ((a.take b.toNat)++[aH [aE c,aE d]]))))
theorem afn(a b c d e): Rd aD 0 106 0 (BN a b c d e) (JI a b c d e):=rd
def JJ (b:Int) (a:List V) (d:List UInt8) (e:Int) (c:List V): R :=
 gd (cw 2 a) <|
 gd (decide (0<=b)) <|
 gd (decide (b.toNat<=a.length)) <|
 gd (cw 2 ((a.take a.length).drop b.toNat)) <|
 gd (decide (c.length+((a.take a.length).drop b.toNat).length<=16777216)) <|
 aL aI 144 [aG (c++((a.take a.length).drop b.toNat))] fun f =>
 kI .i64 f fun g =>
 cond (decide (g > 231))
 (aA (.done (aT [aH [aG [],aE [],aB .i64 0],aB .i64 6])))
 (aA (.done (aT [aH [aG (c++((a.take a.length).drop b.toNat)),aE d,aB .i64 e],aB .i64 0])))
theorem afo(a b c d e): Rd aD 0 106 1 (BO a b c d e) (JJ a b c d e):=rd
def GC (a:List V) (c:List UInt8) (d:Int) (e:List UInt8): R :=
 aL aI 101 [aH [aG a,aE c,aB .i64 d]] fun f =>
 kB f fun g =>
 cond (!g)
 (aA (.done (aT [aH [aG [],aE [],aB .i64 0],aB .i64 1])))
 (aL aI 147 [aH [aG a,aE c,aB .i64 d],aE e] fun h =>
  lu h fun b i =>
  cond (!i)
 (aA (.done (aT [aH [aG [],aE [],aB .i64 0],aB .i64 7])))
 (gd (cw 2 a) <|
  gd (decide (0<=b)) <|
  gd (decide (b.toNat<=a.length)) <|
  gd (cw 2 (a.take b.toNat)) <|
  gd (decide (0+(a.take b.toNat).length<=16777216)) <|
  gd (cw 2 a) <|
  gd (decide (0<=W .i64 (b+1))) <|
  gd (decide ((W .i64 (b+1)).toNat<=a.length)) <|
  gd (cw 2 ((a.take a.length).drop ((W .i64 (b+1)).toNat))) <|
  gd (decide ((a.take b.toNat).length+((a.take a.length).drop ((W .i64 (b+1)).toNat)).length<=16777216)) <|
  aA (.done (aT [aH [aG ((a.take b.toNat)++((a.take a.length).drop ((W .i64 (b+1)).toNat))),aE c,aB .i64 d],aB .i64 0]))))
theorem WP(a b c d): Ep 110 [aH [aG a,aE b,aB .i64 c],aE d] (GC a b c d):=ep
theorem WO(a b c d): Ed 110 [aH [aG a,aE b,aB .i64 c],aE d] (GC a b c d):=ed (WP a b c d)
def zc(a b:Int)(c:List V)(d:List UInt8)(e:Int): S:=⟨[bo,aB .i64 a,aK 0 0 0,bo,aK 1 0 0,aK 2 0 0,aB .i64 0,aB .i64 b]++(JU 67),[aJ 108 (aH [aG c,aE d,aB .i64 e]) aD,aJ 108 (aH [bC 3 0,aE [],aB .i64 0]) aD,aJ 108 (aH [bC 4 0,aE [],aB .i64 0]) aD,aM 41 [] 0,aM 41 [] 0]⟩
def zd(a b:Int)(c:List V)(d:List UInt8)(e:Int): S:=⟨[bo,aB .i64 a,aK 0 0 0,bo,aK 1 0 0,aK 2 0 0,aB .i64 0,aB .i64 b]++(JU 67),[aJ 108 (aH [aG c,aE d,aB .i64 e]) aD,aJ 108 (aH [bC 3 0,aE [],aB .i64 0]) aD,aJ 108 (aH [bC 4 0,aE [],aB .i64 0]) aD,aM 41 [] 0,aM 41 [] 0]⟩
def MS (a:List V) (c:List UInt8) (d b:Int): R :=
 aL aI 101 [aH [aG a,aE c,aB .i64 d]] fun e =>
 kB e fun f =>
 cond (!f)
 (aA (.done (aT [aH [aG [],aE [],aB .i64 0],aH [aG [],aE [],aB .i64 0],aB .i64 1])))
 (cond (decide ((a.length:Int) < 2))
 (aA (.done (aT [aH [aG [],aE [],aB .i64 0],aH [aG [],aE [],aB .i64 0],aB .i64 1])))
 (cond (decide (b < 0))
 (aA (.done (aT [aH [aG [],aE [],aB .i64 0],aH [aG [],aE [],aB .i64 0],aB .i64 1])))
 (cond (decide (b > 1023))
 (aA (.done (aT [aH [aG [],aE [],aB .i64 0],aH [aG [],aE [],aB .i64 0],aB .i64 1])))
 (aA (.head 0 (zc b 1 a c d))))))
theorem WN(a b c d): Ep 108 [aH [aG a,aE b,aB .i64 c],aB .i64 d] (MS a b c d):=ep
def AT (c b:Int) (a:List V) (d:List UInt8) (e:Int): R :=
 cond (decide (b < W .i64 ((a.length:Int) - 1)))
 (gd (cw 2 a) <|
  gd (decide (0<=b)) <|
  gd (decide (b.toNat<=a.length)) <|
  aL aI 144 [aG (a.take b.toNat)] fun f =>
  kI .i64 f fun g =>
  aL aI 144 [aG a] fun h =>
  kI .i64 h fun i =>
  cond (decide (W .i64 (2 * g) < i))
 (aA (.head 0 (zc c (W .i64 (b+1)) a d e)))
 (aA (.head 1 (zd c b a d e))))
 (aA (.head 1 (zd c b a d e)))
theorem JL(a b c d e): Rd aD 0 108 0 (zc a b c d e) (AT a b c d e):=rd
def JM (c b:Int) (a:List V) (d:List UInt8) (e:Int): R :=
 gd (cw 2 a) <|
 gd (decide (0<=b)) <|
 gd (decide (b.toNat<=a.length)) <|
 gd (cw 2 (a.take b.toNat)) <|
 gd (decide (0+(a.take b.toNat).length<=16777216)) <|
 gd (cw 2 a) <|
 gd (decide (0<=b)) <|
 gd (decide (b.toNat<=a.length)) <|
 gd (cw 2 ((a.take a.length).drop b.toNat)) <|
 gd (decide (0+((a.take a.length).drop b.toNat).length<=16777216)) <|
 bl ((a.take a.length).drop b.toNat) 0 fun f =>
 eD f fun g h =>
 aA (.done (aT [aH [aG (a.take b.toNat),aE g,aB .i64 (W .i64 (c+1))],aH [aG ((a.take a.length).drop b.toNat),aE d,aB .i64 e],aB .i64 0]))
theorem Ss(a b c d e): Rd aD 0 108 1 (zd a b c d e) (JM a b c d e):=rd
def wM(a b:Int)(c d:List V)(e:List UInt8)(f:Int): S:=⟨[bo,aK 0 0 0,aB .i64 0,aB .i64 a,aB .i64 b]++(JU 21),[aJ 152 (aH [aG c,aG d,aE e,aB .i64 f]) aD]⟩
def Ns (b c:List V) (a:List UInt8) (d:Int): R :=
 aA (.head 0 (wM (W .i64 (7+(a.length:Int))) 0 b c a d))
theorem X8(a b c d): Ep 201 [aH [aG a,aG b,aE c,aB .i64 d]] (Ns a b c d):=ep
def Kh (c a:Int) (b d:List V) (e:List UInt8) (f:Int): R :=
 cond (decide (a < (b.length:Int)))
 (gd (decide (0<=a)) <|
  bl b a.toNat fun g =>
  kS g fun h =>
  aA (.head 0 (wM (W .i64 ((W .i64 (c+3))+(h.length:Int))) (W .i64 (a+1)) b d e f)))
 (aA (.done (aB .i64 c)))
theorem SY(a b c d e f): Rd aD 0 201 0 (wM a b c d e f) (Kh a b c d e f):=rd
def Ha (a:Int): R :=
 cond (decide (a ≥ 0))
 (aA (.done (bc (decide (a<=1023)))))
 (aA (.done (bc aD)))
theorem X7(a): Ep 200 [aB .i64 a] (Ha a):=ep
theorem X6(a): Ed 200 [aB .i64 a] (Ha a):=ed (X7 a)
def zu(a:Int)(b c:List V)(d:List UInt8)(e:Int): S:=⟨[bo,aK 0 0 0,bc aD,aB .i64 a]++(JU 97),[aJ 152 (aH [aG b,aG c,aE d,aB .i64 e]) aD]⟩
def m7(a:Int)(b c:List V)(d:List UInt8)(e:Int): S:=⟨[bo,aK 0 0 0,bc aD,bo,aB .i64 a]++(JU 96),[aJ 152 (aH [aG b,aG c,aE d,aB .i64 e]) aD]⟩
def Nq (a b:List V) (c:List UInt8) (d:Int): R :=
 aA (.head 0 (zu 0 a b c d))
theorem X0(a b c d): Ep 196 [aH [aG a,aG b,aE c,aB .i64 d]] (Nq a b c d):=ep
def EI (a:Int) (c b:List V) (d:List UInt8) (e:Int): R :=
 cond (decide (a < (b.length:Int)))
 (gd (decide (0<=a)) <|
  bl b a.toNat fun f =>
  kI .i64 f fun g =>
  aL aI 200 [aB .i64 g] fun h =>
  kB h fun i =>
  cond (!i)
 (aA (.done (bc aD)))
 (aA (.head 0 (zu (W .i64 (a+1)) c b d e))))
 (aA (.head 1 (m7 0 c b d e)))
theorem Ke(a b c d e): Rd aD 0 196 0 (zu a b c d e) (EI a b c d e):=rd
def A3 (a:Int) (b e:List V) (c:List UInt8) (d:Int): R :=
 cond (decide (a < (b.length:Int)))
 (gd (decide (0<=a)) <|
  bl b a.toNat fun f =>
  kS f fun g =>
  aL aI 47 [aE g] fun h =>
  kB h fun i =>
  cond (!i)
 (aA (.done (bc aD)))
 (cond (decide (a > 0))
 (gd (decide (0<=W .i64 (a - 1))) <|
  bl b ((W .i64 (a - 1)).toNat) fun j =>
  kS j fun k =>
  gd (decide (0<=a)) <|
  bl b a.toNat fun l =>
  kS l fun m =>
  aL aI 35 [aE k,aE m] fun n =>
  kB n fun o =>
  cond (!o)
 (aA (.done (bc aD)))
 (cond (!(c==[]))
 (gd (decide (0<=a)) <|
  bl b a.toNat fun p =>
  kS p fun q =>
  aL aI 35 [aE q,aE c] fun r =>
  kB r fun s =>
  cond (!s)
 (aA (.done (bc aD)))
 (aA (.head 1 (m7 (W .i64 (a+1)) b e c d))))
 (aA (.head 1 (m7 (W .i64 (a+1)) b e c d)))))
 (cond (!(c==[]))
 (gd (decide (0<=a)) <|
  bl b a.toNat fun t =>
  kS t fun u =>
  aL aI 35 [aE u,aE c] fun v =>
  kB v fun w =>
  cond (!w)
 (aA (.done (bc aD)))
 (aA (.head 1 (m7 (W .i64 (a+1)) b e c d))))
 (aA (.head 1 (m7 (W .i64 (a+1)) b e c d))))))
 (cond ((e.length:Int)==(W .i64 ((b.length:Int)+1)))
 (cond (decide ((c.length:Int)<=16))
 (cond (decide (d ≥ 0))
 (cond (decide (d<=1024))
 (aL aI 201 [aH [aG b,aG e,aE c,aB .i64 d]] fun x =>
  kI .i64 x fun y =>
  aA (.done (bc (decide (W .i64 (y - (c.length:Int))<=236)))))
 (aA (.done (bc aD))))
 (aA (.done (bc aD))))
 (aA (.done (bc aD))))
 (aA (.done (bc aD))))
theorem Kf(a b c d e): Rd aD 0 196 1 (m7 a b c d e) (A3 a b c d e):=rd
def G8 (a:Int): R :=
 aA (.done (aE [UInt8.ofNat (W .u8 (a.tmod 256)).toNat,UInt8.ofNat (W .u8 (W .i64 ((a.tdiv 256)))).toNat]))
theorem X3(a): Ep 198 [aB .i64 a] (G8 a):=ep
theorem X2(a): Ed 198 [aB .i64 a] (G8 a):=ed (X3 a)
def G9 (a:List UInt8): R :=
 gd (decide (([UInt8.ofNat (W .u8 ((a.length:Int))).toNat]:List UInt8).length+a.length<=4611686018427387904)) <|
 aA (.done (aE ([UInt8.ofNat (W .u8 ((a.length:Int))).toNat]++a)))
theorem X5(a): Ep 199 [aE a] (G9 a):=ep
theorem X4(a): Ed 199 [aE a] (G9 a):=ed (X5 a)
def zp(a:List UInt8)(b:Int)(c d:List V)(e:List UInt8)(f:Int): S:=⟨[bo,aK 0 0 0,aE [],aE a,aB .i64 b]++(JU 48),[aJ 152 (aH [aG c,aG d,aE e,aB .i64 f]) aD]⟩
def GN (a c:List V) (d:List UInt8) (e:Int): R :=
 aL aI 196 [aH [aG a,aG c,aE d,aB .i64 e]] fun h =>
 kB h fun i =>
 cond (!i)
 (aA (.done (aE [])))
 (gd (decide (([78]:List UInt8).length+([UInt8.ofNat (W .u8 ((a.length:Int))).toNat]:List UInt8).length<=4611686018427387904)) <|
  aL aI 198 [aB .i64 e] fun j =>
  kS j fun b =>
  gd (decide (([78]++[UInt8.ofNat (W .u8 ((a.length:Int))).toNat]:List UInt8).length+b.length<=4611686018427387904)) <|
  aL aI 199 [aE d] fun k =>
  kS k fun f =>
  gd (decide ((([78]++[UInt8.ofNat (W .u8 ((a.length:Int))).toNat])++b).length+f.length<=4611686018427387904)) <|
  bl c 0 fun l =>
  kI .i64 l fun m =>
  aL aI 198 [aB .i64 m] fun n =>
  kS n fun g =>
  gd (decide (((([78]++[UInt8.ofNat (W .u8 ((a.length:Int))).toNat])++b)++f).length+g.length<=4611686018427387904)) <|
  aA (.head 0 (zp (((([78]++[UInt8.ofNat (W .u8 ((a.length:Int))).toNat])++b)++f)++g) 0 a c d e)))
theorem Nc(a b c d): Ep 148 [aH [aG a,aG b,aE c,aB .i64 d]] (GN a b c d):=ep
def J2 (b:List UInt8) (a:Int) (c f:List V) (g:List UInt8) (h:Int): R :=
 cond (decide (a < (c.length:Int)))
 (gd (decide (0<=a)) <|
  bl c a.toNat fun i =>
  kS i fun j =>
  aL aI 199 [aE j] fun k =>
  kS k fun d =>
  gd (decide (0<=W .i64 (a+1))) <|
  bl f ((W .i64 (a+1)).toNat) fun l =>
  kI .i64 l fun m =>
  aL aI 198 [aB .i64 m] fun n =>
  kS n fun e =>
  gd (decide (d.length+e.length<=4611686018427387904)) <|
  gd (decide (b.length+(d++e).length<=4611686018427387904)) <|
  aA (.head 0 (zp (b++(d++e)) (W .i64 (a+1)) c f g h)))
 (aA (.done (aE b)))
theorem SF(a b c d e f): Rd aD 0 148 0 (zp a b c d e f) (J2 a b c d e f):=rd
def G6 (a:List UInt8) (b:Int): R :=
 aL aI 221 [aE a,aB .i64 b,aB .i64 2] fun c =>
 mE c fun d e =>
 aA (.done (aB .i64 (W .i64 (d))))
theorem XX(a b): Ep 194 [aE a,aB .i64 b] (G6 a b):=ep
theorem XW(a b): Ed 194 [aE a,aB .i64 b] (G6 a b):=ed (XX a b)
def BW(a:List UInt8)(b c:Int)(d:List UInt8)(e:Int)(f:List V): S:=⟨[aE a,bo,aK 0 0 0,aB .i64 0,aK 1 0 0,bo,aB .i64 b,aB .i64 c,aB .i64 0]++(JU 96),[aJ 152 (aH [bC 2 0,bC 3 0,aE [],aB .i64 0]) aD,aJ 152 (aH [V.nilS,bC 4 0,aE d,aB .i64 e]) aD,aM 9 [] 0,aM 3 [] 0,aM 3 f 0]⟩
def qF(a:List UInt8)(b c d:Int)(e:List UInt8)(f:Int)(g h:List V): S:=⟨[aE a,bo,aK 0 0 0,aB .i64 0,aK 1 0 0,bo,aB .i64 b,aB .i64 c,aB .i64 d]++(JU 96),[aJ 152 (aH [bC 2 0,bC 3 0,aE [],aB .i64 0]) aD,aJ 152 (aH [bC 4 0,bC 5 0,aE e,aB .i64 f]) aD,aM 9 [] 0,aM 3 [] 0,aM 9 g 0,aM 3 h 0]⟩
def sR (a:List UInt8): R :=
 cond (decide ((a.length:Int) < 5))
 (aA (.done (aT [aH [aG [],aG [],aE [],aB .i64 0],aB .i64 4])))
 (cond (decide ((a.length:Int) > 252))
 (aA (.done (aT [aH [aG [],aG [],aE [],aB .i64 0],aB .i64 4])))
 (aL aI 194 [aE a,aB .i64 2] fun d =>
  kI .i64 d fun e =>
  aL aI 72 [aE a,aB .i64 4] fun f =>
  gt f fun g b h =>
  aL aI 194 [aE a,aB .i64 b] fun i =>
  kI .i64 i fun c =>
  gd (decide (([aB .i64 c]:List V).length<=16777216)) <|
  aA (.head 0 (BW a (W .i64 (b+2)) h g e [aB .i64 c]))))
theorem zQ(a): Ep 138 [aE a] (sR a):=ep
def oN (a:List UInt8) (i e:Int) (c:List UInt8) (d:Int) (b:List V): R :=
 bl a 1 fun j =>
 cond (decide (0 < W .i64 ((j.toNat:Int))))
 (cond (e==(0:Int))
 (aL aI 72 [aE a,aB .i64 i] fun k =>
  gt k fun f g l =>
  gd (decide (([aE f]:List V).length<=16777216)) <|
  aL aI 194 [aE a,aB .i64 g] fun m =>
  kI .i64 m fun h =>
  gd (decide (b.length+([aB .i64 h]:List V).length<=16777216)) <|
  aA (.head 0 (qF a (W .i64 (g+2)) l 1 c d [aE f] (b++[aB .i64 h]))))
 (aL aI 148 [aH [aG [],aG b,aE c,aB .i64 d]] fun n =>
  kS n fun o =>
  aL aI 195 [aE o,aB .i64 (a.length:Int)] fun p =>
  i7 p fun q r =>
  cond (e != (0:Int))
 (aA (.done (aT [aH [aG [],aG [],aE [],aB .i64 0],aB .i64 4])))
 (cond (r != (0:Int))
 (aA (.done (aT [aH [aG [],aG [],aE [],aB .i64 0],aB .i64 4])))
 (cond (!(q==a))
 (aA (.done (aT [aH [aG [],aG [],aE [],aB .i64 0],aB .i64 4])))
 (aL aI 196 [aH [aG [],aG b,aE c,aB .i64 d]] fun s =>
  kB s fun t =>
  cond (!t)
 (aA (.done (aT [aH [aG [],aG [],aE [],aB .i64 0],aB .i64 4])))
 (aA (.done (aT [aH [aG [],aG b,aE c,aB .i64 d],aB .i64 0]))))))))
 (aL aI 148 [aH [aG [],aG b,aE c,aB .i64 d]] fun u =>
  kS u fun v =>
  aL aI 195 [aE v,aB .i64 (a.length:Int)] fun w =>
  i7 w fun x y =>
  cond (e != (0:Int))
 (aA (.done (aT [aH [aG [],aG [],aE [],aB .i64 0],aB .i64 4])))
 (cond (y != (0:Int))
 (aA (.done (aT [aH [aG [],aG [],aE [],aB .i64 0],aB .i64 4])))
 (cond (!(x==a))
 (aA (.done (aT [aH [aG [],aG [],aE [],aB .i64 0],aB .i64 4])))
 (aL aI 196 [aH [aG [],aG b,aE c,aB .i64 d]] fun z =>
  kB z fun aa =>
  cond (!aa)
 (aA (.done (aT [aH [aG [],aG [],aE [],aB .i64 0],aB .i64 4])))
 (aA (.done (aT [aH [aG [],aG b,aE c,aB .i64 d],aB .i64 0])))))))
theorem v3(a b c d e f): Rd aD 0 138 0 (BW a b c d e f) (oN a b c d e f):=rd
def oO (a:List UInt8) (k f g:Int) (d:List UInt8) (e:Int) (b c:List V): R :=
 bl a 1 fun l =>
 cond (decide (g < W .i64 ((l.toNat:Int))))
 (cond (f==(0:Int))
 (aL aI 72 [aE a,aB .i64 k] fun m =>
  gt m fun h i n =>
  gd (decide (b.length+([aE h]:List V).length<=16777216)) <|
  aL aI 194 [aE a,aB .i64 i] fun o =>
  kI .i64 o fun j =>
  gd (decide (c.length+([aB .i64 j]:List V).length<=16777216)) <|
  aA (.head 0 (qF a (W .i64 (i+2)) n (W .i64 (g+1)) d e (b++[aE h]) (c++[aB .i64 j]))))
 (aL aI 148 [aH [aG b,aG c,aE d,aB .i64 e]] fun p =>
  kS p fun q =>
  aL aI 195 [aE q,aB .i64 (a.length:Int)] fun r =>
  i7 r fun s t =>
  cond (f != (0:Int))
 (aA (.done (aT [aH [aG [],aG [],aE [],aB .i64 0],aB .i64 4])))
 (cond (t != (0:Int))
 (aA (.done (aT [aH [aG [],aG [],aE [],aB .i64 0],aB .i64 4])))
 (cond (!(s==a))
 (aA (.done (aT [aH [aG [],aG [],aE [],aB .i64 0],aB .i64 4])))
 (aL aI 196 [aH [aG b,aG c,aE d,aB .i64 e]] fun u =>
  kB u fun v =>
  cond (!v)
 (aA (.done (aT [aH [aG [],aG [],aE [],aB .i64 0],aB .i64 4])))
 (aA (.done (aT [aH [aG b,aG c,aE d,aB .i64 e],aB .i64 0]))))))))
 (aL aI 148 [aH [aG b,aG c,aE d,aB .i64 e]] fun w =>
  kS w fun x =>
  aL aI 195 [aE x,aB .i64 (a.length:Int)] fun y =>
  i7 y fun z aa =>
  cond (f != (0:Int))
 (aA (.done (aT [aH [aG [],aG [],aE [],aB .i64 0],aB .i64 4])))
 (cond (aa != (0:Int))
 (aA (.done (aT [aH [aG [],aG [],aE [],aB .i64 0],aB .i64 4])))
 (cond (!(z==a))
 (aA (.done (aT [aH [aG [],aG [],aE [],aB .i64 0],aB .i64 4])))
 (aL aI 196 [aH [aG b,aG c,aE d,aB .i64 e]] fun ab =>
  kB ab fun ac =>
  cond (!ac)
 (aA (.done (aT [aH [aG [],aG [],aE [],aB .i64 0],aB .i64 4])))
 (aA (.done (aT [aH [aG b,aG c,aE d,aB .i64 e],aB .i64 0])))))))
theorem qf(a b c d e f g h): Rd aD 0 138 0 (qF a b c d e f g h) (oO a b c d e f g h):=rd
def wI(a:List UInt8)(b:Int)(c d:List V)(e:List UInt8)(f:Int): S:=⟨[bo,aE a,aK 0 0 0,bo,aB .i64 0,aB .i64 0,aB .i64 b]++(JU 38),[aJ 152 (aH [aG c,aG d,aE e,aB .i64 f]) aD]⟩
def w9 (c d:List V) (a:List UInt8) (e:Int) (b:List UInt8): R :=
 aL aI 196 [aH [aG c,aG d,aE a,aB .i64 e]] fun f =>
 kB f fun g =>
 cond (!g)
 (aA (.done (aT [aB .i64 0,aB .i64 1])))
 (aL aI 47 [aE b] fun h =>
  kB h fun i =>
  cond (!i)
 (aA (.done (aT [aB .i64 0,aB .i64 1])))
 (cond (!(a==[]))
 (aL aI 35 [aE b,aE a] fun j =>
  kB j fun k =>
  cond (!k)
 (aA (.done (aT [aB .i64 0,aB .i64 1])))
 (aA (.head 0 (wI b 0 c d a e))))
 (aA (.head 0 (wI b 0 c d a e)))))
theorem zR(a b c d e): Ep 145 [aH [aG a,aG b,aE c,aB .i64 d],aE e] (w9 a b c d e):=ep
def EA (c:List UInt8) (a:Int) (b d:List V) (e:List UInt8) (f:Int): R :=
 cond (decide (a < (b.length:Int)))
 (gd (decide (0<=a)) <|
  bl b a.toNat fun g =>
  kS g fun h =>
  aL aI 35 [aE c,aE h] fun i =>
  kB i fun j =>
  cond (!j)
 (aA (.head 0 (wI c (W .i64 (a+1)) b d e f)))
 (aA (.done (aT [aB .i64 a,aB .i64 0]))))
 (aA (.done (aT [aB .i64 a,aB .i64 0])))
theorem J0(a b c d e f): Rd aD 0 145 0 (wI a b c d e f) (EA a b c d e f):=rd
def GQ (b c:List V) (f:List UInt8) (g:Int) (d:List UInt8) (e:Int): R :=
 aL aI 145 [aH [aG b,aG c,aE f,aB .i64 g],aE d] fun h =>
 uP h fun a i =>
 cond (i != (0:Int))
 (aA (.done (aT [aH [aG [],aG [],aE [],aB .i64 0],aB .i64 1])))
 (aL aI 200 [aB .i64 e] fun j =>
  kB j fun k =>
  cond (!k)
 (aA (.done (aT [aH [aG [],aG [],aE [],aB .i64 0],aB .i64 1])))
 (cond (decide (a > 0))
 (gd (decide (0<=W .i64 (a - 1))) <|
  bl b ((W .i64 (a - 1)).toNat) fun l =>
  kS l fun m =>
  cond (m==d)
 (aA (.done (aT [aH [aG [],aG [],aE [],aB .i64 0],aB .i64 8])))
 (gd (cw 1 b) <|
  gd (decide (0<=a)) <|
  gd (decide (a.toNat<=b.length)) <|
  gd (cw 1 (b.take a.toNat)) <|
  gd (decide (0+(b.take a.toNat).length<=16777216)) <|
  gd (decide ((b.take a.toNat).length+([aE d]:List V).length<=16777216)) <|
  gd (cw 1 b) <|
  gd (decide (0<=a)) <|
  gd (decide (a.toNat<=b.length)) <|
  gd (cw 1 ((b.take b.length).drop a.toNat)) <|
  gd (decide (((b.take a.toNat)++[aE d]).length+((b.take b.length).drop a.toNat).length<=16777216)) <|
  gd (cw 1 c) <|
  gd (decide (0<=W .i64 (a+1))) <|
  gd (decide ((W .i64 (a+1)).toNat<=c.length)) <|
  gd (cw 1 (c.take ((W .i64 (a+1)).toNat))) <|
  gd (decide (0+(c.take ((W .i64 (a+1)).toNat)).length<=16777216)) <|
  gd (decide ((c.take ((W .i64 (a+1)).toNat)).length+([aB .i64 e]:List V).length<=16777216)) <|
  gd (cw 1 c) <|
  gd (decide (0<=W .i64 (a+1))) <|
  gd (decide ((W .i64 (a+1)).toNat<=c.length)) <|
  gd (cw 1 ((c.take c.length).drop ((W .i64 (a+1)).toNat))) <|
  gd (decide (((c.take ((W .i64 (a+1)).toNat))++[aB .i64 e]).length+((c.take c.length).drop ((W .i64 (a+1)).toNat)).length<=16777216)) <|
  aL aI 201 [aH [aG (((b.take a.toNat)++[aE d])++((b.take b.length).drop a.toNat)),aG (((c.take ((W .i64 (a+1)).toNat))++[aB .i64 e])++((c.take c.length).drop ((W .i64 (a+1)).toNat))),aE f,aB .i64 g]] fun n =>
  kI .i64 n fun o =>
  cond (decide (W .i64 (o - (f.length:Int)) > 236))
 (aA (.done (aT [aH [aG [],aG [],aE [],aB .i64 0],aB .i64 6])))
 (aA (.done (aT [aH [aG (((b.take a.toNat)++[aE d])++((b.take b.length).drop a.toNat)),aG (((c.take ((W .i64 (a+1)).toNat))++[aB .i64 e])++((c.take c.length).drop ((W .i64 (a+1)).toNat))),aE f,aB .i64 g],aB .i64 0])))))
 (gd (cw 1 b) <|
  gd (decide (0<=a)) <|
  gd (decide (a.toNat<=b.length)) <|
  gd (cw 1 (b.take a.toNat)) <|
  gd (decide (0+(b.take a.toNat).length<=16777216)) <|
  gd (decide ((b.take a.toNat).length+([aE d]:List V).length<=16777216)) <|
  gd (cw 1 b) <|
  gd (decide (0<=a)) <|
  gd (decide (a.toNat<=b.length)) <|
  gd (cw 1 ((b.take b.length).drop a.toNat)) <|
  gd (decide (((b.take a.toNat)++[aE d]).length+((b.take b.length).drop a.toNat).length<=16777216)) <|
  gd (cw 1 c) <|
  gd (decide (0<=W .i64 (a+1))) <|
  gd (decide ((W .i64 (a+1)).toNat<=c.length)) <|
  gd (cw 1 (c.take ((W .i64 (a+1)).toNat))) <|
  gd (decide (0+(c.take ((W .i64 (a+1)).toNat)).length<=16777216)) <|
  gd (decide ((c.take ((W .i64 (a+1)).toNat)).length+([aB .i64 e]:List V).length<=16777216)) <|
  gd (cw 1 c) <|
  gd (decide (0<=W .i64 (a+1))) <|
  gd (decide ((W .i64 (a+1)).toNat<=c.length)) <|
  gd (cw 1 ((c.take c.length).drop ((W .i64 (a+1)).toNat))) <|
  gd (decide (((c.take ((W .i64 (a+1)).toNat))++[aB .i64 e]).length+((c.take c.length).drop ((W .i64 (a+1)).toNat)).length<=16777216)) <|
  aL aI 201 [aH [aG (((b.take a.toNat)++[aE d])++((b.take b.length).drop a.toNat)),aG (((c.take ((W .i64 (a+1)).toNat))++[aB .i64 e])++((c.take c.length).drop ((W .i64 (a+1)).toNat))),aE f,aB .i64 g]] fun p =>
  kI .i64 p fun q =>
  cond (decide (W .i64 (q - (f.length:Int)) > 236))
 (aA (.done (aT [aH [aG [],aG [],aE [],aB .i64 0],aB .i64 6])))
 (aA (.done (aT [aH [aG (((b.take a.toNat)++[aE d])++((b.take b.length).drop a.toNat)),aG (((c.take ((W .i64 (a+1)).toNat))++[aB .i64 e])++((c.take c.length).drop ((W .i64 (a+1)).toNat))),aE f,aB .i64 g],aB .i64 0]))))))
theorem Xr(a b c d e f): Ep 149 [aH [aG a,aG b,aE c,aB .i64 d],aE e,aB .i64 f] (GQ a b c d e f):=ep
theorem Xq(a b c d e f): Ed 149 [aH [aG a,aG b,aE c,aB .i64 d],aE e,aB .i64 f] (GQ a b c d e f):=ed (Xr a b c d e f)
def GU (c b:List V) (d:List UInt8) (e a:Int): R :=
 aL aI 196 [aH [aG c,aG b,aE d,aB .i64 e]] fun f =>
 kB f fun g =>
 cond (!g)
 (aA (.done (aT [aH [aG [],aG [],aE [],aB .i64 0],aB .i64 1])))
 (cond (decide (a < 0))
 (aA (.done (aT [aH [aG [],aG [],aE [],aB .i64 0],aB .i64 1])))
 (cond (decide (a ≥ (b.length:Int)))
 (aA (.done (aT [aH [aG [],aG [],aE [],aB .i64 0],aB .i64 1])))
 (cond (decide ((b.length:Int) < 2))
 (aA (.done (aT [aH [aG [],aG [],aE [],aB .i64 0],aB .i64 1])))
 (cond (a==(0:Int))
 (gd (cw 1 c) <|
  gd (cw 1 (c.take 0)) <|
  gd (decide (0+(c.take 0).length<=16777216)) <|
  gd (cw 1 c) <|
  gd (decide (1<=c.length)) <|
  gd (cw 1 ((c.take c.length).drop 1)) <|
  gd (decide ((c.take 0).length+((c.take c.length).drop 1).length<=16777216)) <|
  gd (cw 1 b) <|
  gd (decide (0<=a)) <|
  gd (decide (a.toNat<=b.length)) <|
  gd (cw 1 (b.take a.toNat)) <|
  gd (decide (0+(b.take a.toNat).length<=16777216)) <|
  gd (cw 1 b) <|
  gd (decide (0<=W .i64 (a+1))) <|
  gd (decide ((W .i64 (a+1)).toNat<=b.length)) <|
  gd (cw 1 ((b.take b.length).drop ((W .i64 (a+1)).toNat))) <|
  gd (decide ((b.take a.toNat).length+((b.take b.length).drop ((W .i64 (a+1)).toNat)).length<=16777216)) <|
  aA (.done (aT [aH [aG ((c.take 0)++((c.take c.length).drop 1)),aG ((b.take a.toNat)++((b.take b.length).drop ((W .i64 (a+1)).toNat))),aE d,aB .i64 e],aB .i64 0])))
 (gd (cw 1 c) <|
  gd (decide (0<=W .i64 (a - 1))) <|
  gd (decide ((W .i64 (a - 1)).toNat<=c.length)) <|
  gd (cw 1 (c.take ((W .i64 (a - 1)).toNat))) <|
  gd (decide (0+(c.take ((W .i64 (a - 1)).toNat)).length<=16777216)) <|
  gd (cw 1 c) <|
  gd (decide (0<=W .i64 ((W .i64 (a - 1))+1))) <|
  gd (decide ((W .i64 ((W .i64 (a - 1))+1)).toNat<=c.length)) <|
  gd (cw 1 ((c.take c.length).drop ((W .i64 ((W .i64 (a - 1))+1)).toNat))) <|
  gd (decide ((c.take ((W .i64 (a - 1)).toNat)).length+((c.take c.length).drop ((W .i64 ((W .i64 (a - 1))+1)).toNat)).length<=16777216)) <|
  gd (cw 1 b) <|
  gd (decide (0<=a)) <|
  gd (decide (a.toNat<=b.length)) <|
  gd (cw 1 (b.take a.toNat)) <|
  gd (decide (0+(b.take a.toNat).length<=16777216)) <|
  gd (cw 1 b) <|
  gd (decide (0<=W .i64 (a+1))) <|
  gd (decide ((W .i64 (a+1)).toNat<=b.length)) <|
  gd (cw 1 ((b.take b.length).drop ((W .i64 (a+1)).toNat))) <|
  gd (decide ((b.take a.toNat).length+((b.take b.length).drop ((W .i64 (a+1)).toNat)).length<=16777216)) <|
  aA (.done (aT [aH [aG ((c.take ((W .i64 (a - 1)).toNat))++((c.take c.length).drop ((W .i64 ((W .i64 (a - 1))+1)).toNat))),aG ((b.take a.toNat)++((b.take b.length).drop ((W .i64 (a+1)).toNat))),aE d,aB .i64 e],aB .i64 0])))))))
theorem Xx(a b c d e): Ep 152 [aH [aG a,aG b,aE c,aB .i64 d],aB .i64 e] (GU a b c d e):=ep
theorem Xw(a b c d e): Ed 152 [aH [aG a,aG b,aE c,aB .i64 d],aB .i64 e] (GU a b c d e):=ed (Xx a b c d e)
def GR (a b:List V) (c:List UInt8) (d e:Int): R :=
 aL aI 196 [aH [aG a,aG b,aE c,aB .i64 d]] fun f =>
 kB f fun g =>
 cond (!g)
 (aA (.done (aT [aH [aG [],aG [],aE [],aB .i64 0],aH [aG [],aG [],aE [],aB .i64 0],aE [],aB .i64 1])))
 (cond (decide ((b.length:Int) < 3))
 (aA (.done (aT [aH [aG [],aG [],aE [],aB .i64 0],aH [aG [],aG [],aE [],aB .i64 0],aE [],aB .i64 1])))
 (aL aI 200 [aB .i64 e] fun h =>
  kB h fun i =>
  cond (!i)
 (aA (.done (aT [aH [aG [],aG [],aE [],aB .i64 0],aH [aG [],aG [],aE [],aB .i64 0],aE [],aB .i64 1])))
 (gd (cw 1 a) <|
  gd (decide (0<=W .i64 (((a.length:Int).tdiv 2)))) <|
  gd (decide ((W .i64 (((a.length:Int).tdiv 2))).toNat<=a.length)) <|
  gd (cw 1 (a.take ((W .i64 (((a.length:Int).tdiv 2))).toNat))) <|
  gd (decide (0+(a.take ((W .i64 (((a.length:Int).tdiv 2))).toNat)).length<=16777216)) <|
  gd (cw 1 b) <|
  gd (decide (0<=W .i64 ((W .i64 (((a.length:Int).tdiv 2)))+1))) <|
  gd (decide ((W .i64 ((W .i64 (((a.length:Int).tdiv 2)))+1)).toNat<=b.length)) <|
  gd (cw 1 (b.take ((W .i64 ((W .i64 (((a.length:Int).tdiv 2)))+1)).toNat))) <|
  gd (decide (0+(b.take ((W .i64 ((W .i64 (((a.length:Int).tdiv 2)))+1)).toNat)).length<=16777216)) <|
  gd (decide (0<=W .i64 (((a.length:Int).tdiv 2)))) <|
  bl a ((W .i64 (((a.length:Int).tdiv 2))).toNat) fun j =>
  kS j fun k =>
  gd (cw 1 a) <|
  gd (decide (0<=W .i64 ((W .i64 (((a.length:Int).tdiv 2)))+1))) <|
  gd (decide ((W .i64 ((W .i64 (((a.length:Int).tdiv 2)))+1)).toNat<=a.length)) <|
  gd (cw 1 ((a.take a.length).drop ((W .i64 ((W .i64 (((a.length:Int).tdiv 2)))+1)).toNat))) <|
  gd (decide (0+((a.take a.length).drop ((W .i64 ((W .i64 (((a.length:Int).tdiv 2)))+1)).toNat)).length<=16777216)) <|
  gd (cw 1 b) <|
  gd (decide (0<=W .i64 ((W .i64 (((a.length:Int).tdiv 2)))+1))) <|
  gd (decide ((W .i64 ((W .i64 (((a.length:Int).tdiv 2)))+1)).toNat<=b.length)) <|
  gd (cw 1 ((b.take b.length).drop ((W .i64 ((W .i64 (((a.length:Int).tdiv 2)))+1)).toNat))) <|
  gd (decide (0+((b.take b.length).drop ((W .i64 ((W .i64 (((a.length:Int).tdiv 2)))+1)).toNat)).length<=16777216)) <|
  gd (decide (0<=W .i64 (((a.length:Int).tdiv 2)))) <|
  bl a ((W .i64 (((a.length:Int).tdiv 2))).toNat) fun l =>
  kS l fun m =>
  aA (.done (aT [aH [aG (a.take ((W .i64 (((a.length:Int).tdiv 2))).toNat)),aG (b.take ((W .i64 ((W .i64 (((a.length:Int).tdiv 2)))+1)).toNat)),aE k,aB .i64 (W .i64 (e+1))],aH [aG ((a.take a.length).drop ((W .i64 ((W .i64 (((a.length:Int).tdiv 2)))+1)).toNat)),aG ((b.take b.length).drop ((W .i64 ((W .i64 (((a.length:Int).tdiv 2)))+1)).toNat)),aE c,aB .i64 d],aE m,aB .i64 0])))))
theorem Xu(a b c d e): Ep 150 [aH [aG a,aG b,aE c,aB .i64 d],aB .i64 e] (GR a b c d e):=ep
theorem Xt(a b c d e): Ed 150 [aH [aG a,aG b,aE c,aB .i64 d],aB .i64 e] (GR a b c d e):=ed (Xu a b c d e)
def Hq (a:List UInt8): R :=
 cond (decide ((a.length:Int) > 16))
 (gd (decide (16<=a.length)) <|
  aA (.done (aE (a.take 16))))
 (aA (.done (aE a)))
theorem YT(a): Ep 64 [aE a] (Hq a):=ep
theorem YS(a): Ed 64 [aE a] (Hq a):=ed (YT a)
def Hs (a:List UInt8): R :=
 gd (decide (([UInt8.ofNat (W .u8 ((a.length:Int))).toNat]:List UInt8).length+a.length<=4611686018427387904)) <|
 aA (.done (aE ([UInt8.ofNat (W .u8 ((a.length:Int))).toNat]++a)))
theorem YY(a): Ep 70 [aE a] (Hs a):=ep
theorem YX(a): Ed 70 [aE a] (Hs a):=ed (YY a)
def BZ(a:List V)(b c:Int)(d:List V): S:=⟨[aG a,aB .i64 b,bo,bo,dG 0,dG 1,aB .i64 c]++(JU 38),[aM 38 [] 0,aM 38 d 0]⟩
def Xj (a:List V) (b:Int): R :=
 aA (.head 0 (BZ a b 0 []))
theorem Xs(a b): Ep 14 [aG a,aB .i64 b] (Xj a b):=ep
def J3 (e:List V) (g d:Int) (c:List V): R :=
 cond (decide (d < (e.length:Int)))
 (cond (decide (d < g))
 (gd (decide (0<=d)) <|
  bl e d.toNat fun j =>
  zM j fun h a b i =>
  gd (decide (0<=(if 20 < (a.length:Int) then 20 else (a.length:Int)))) <|
  gd (decide ((if 20 < (a.length:Int) then 20 else (a.length:Int)).toNat<=a.length)) <|
  gd (decide (0<=(if 40 < (b.length:Int) then 40 else (b.length:Int)))) <|
  gd (decide ((if 40 < (b.length:Int) then 40 else (b.length:Int)).toNat<=b.length)) <|
  gd (decide (c.length+([aH [aB .i64 h,aE (a.take ((if 20 < (a.length:Int) then 20 else (a.length:Int)).toNat)),aE (b.take ((if 40 < (b.length:Int) then 40 else (b.length:Int)).toNat)),aB .i64 i]]:List V).length<=16777216)) <|
  aA (.head 0 (BZ e g (W .i64 (d+1)) (c++[aH [aB .i64 h,aE (a.take ((if 20 < (a.length:Int) then 20 else (a.length:Int)).toNat)),aE (b.take ((if 40 < (b.length:Int) then 40 else (b.length:Int)).toNat)),aB .i64 i]]))))
 (gd ((c:List V).all fun f=>f.cells.all jw) <|
  aA (.done (V.fr 38 c))))
 (gd ((c:List V).all fun f=>f.cells.all jw) <|
  aA (.done (V.fr 38 c)))
theorem SG(a b c d): Rd aD 0 14 0 (BZ a b c d) (J3 a b c d):=rd
def UH(a:List V)(b c:Int)(d e f g:List UInt8)(h:Int)(i:List (V × V))(j:List V): S:=⟨(JU 6)++[bc aD,aG a,aK 0 0 0,bo,bo,V.nilP,aB .i64 b,aK 1 0 0,aK 2 0 0,aB .i64 0]++(JU 149),[aJ 128 (aH [aK 3 0 0,aB .i64 c]) aD,aJ 111 (aH [aE d,aE e,aE []]) aD,aJ 55 (aH [aE f,aE g,aE [],bc aD]) aD,aJ 140 (aH [aK 4 0 0,V.mp 5]) aD,aJ 192 (aH [bC 6 0,aB .i64 h]) aC,O.map i,aM 5 j 0]⟩
def uI(a:List V)(b c d:Int)(e f g h i j:List UInt8)(k:Bool)(l:Int)(m:List (V × V))(n o p:List V): S:=⟨(JU 6)++[bc aD,aG a,aK 0 0 0,bo,bo,aK 1 0 0,aB .i64 0,aK 2 0 0,aK 3 0 0,aB .i64 b]++(JU 149),[aJ 128 (aH [aK 4 0 0,aB .i64 c]) aD,aJ 91 (aH [aK 5 0 0,aB .i64 d]) aD,aJ 111 (aH [aE e,aE f,aE g]) aD,aJ 55 (aH [aE h,aE i,aE j,bc k]) aD,aJ 140 (aH [aK 6 0 0,V.mp 7]) aD,aJ 102 (aH [aK 8 0 0,bC 9 0]) aD,aJ 192 (aH [bC 10 0,aB .i64 l]) aC,O.map m,aJ 159 (aH [bC 11 0]) aD,aM 9 n 0,aM 5 o 0,aM 4 p 0]⟩
def e3 (a b:List UInt8) (g:List V): R :=
 aL aI 14 [aG g,aB .i64 80] fun h =>
 kF 38 h fun e =>
 nC aI aX Ap qZ 15 [aB .i64 30] []
 (fun aa =>
  aA (.done (bc aD)))
 (fun c =>
  bH aI aX tI 60 [aK 0 0 0] (rs ((dh 30 (aE []))) ((dh 30 (bc aD)))) fun d =>
  cond (d.2.1 != (0:Int))
 (gd (decide (0<=(if 40 < (a.length:Int) then 40 else (a.length:Int)))) <|
  gd (decide ((if 40 < (a.length:Int) then 40 else (a.length:Int)).toNat<=a.length)) <|
  gd (decide (0<=(if 40 < (b.length:Int) then 40 else (b.length:Int)))) <|
  gd (decide ((if 40 < (b.length:Int) then 40 else (b.length:Int)).toNat<=b.length)) <|
  aL aI 63 [aE (a.take ((if 40 < (a.length:Int) then 40 else (a.length:Int)).toNat))] fun i =>
  kS i fun j =>
  aL aI 63 [aE (b.take ((if 40 < (b.length:Int) then 40 else (b.length:Int)).toNat))] fun k =>
  kS k fun l =>
  aL aI 64 [aE (a.take ((if 40 < (a.length:Int) then 40 else (a.length:Int)).toNat))] fun m =>
  kS m fun n =>
  aL aI 64 [aE (b.take ((if 40 < (b.length:Int) then 40 else (b.length:Int)).toNat))] fun o =>
  kS o fun p =>
  aA (.head 0 (UH e d.2.1 c.1 j l n p c.2.1 c.2.2.1 c.2.2.2)))
 (aL aI 62 [aH [aG [],aE [],aB .i64 0]] fun q =>
  kS q fun r =>
  bH aI aX jF 61 [aK 0 0 0,aB .i64 d.1,aE r] (rs d.2.2.1 d.2.2.2) fun f =>
  gd (decide (0<=(if 40 < (a.length:Int) then 40 else (a.length:Int)))) <|
  gd (decide ((if 40 < (a.length:Int) then 40 else (a.length:Int)).toNat<=a.length)) <|
  gd (decide (0<=(if 40 < (b.length:Int) then 40 else (b.length:Int)))) <|
  gd (decide ((if 40 < (b.length:Int) then 40 else (b.length:Int)).toNat<=b.length)) <|
  aL aI 63 [aE (a.take ((if 40 < (a.length:Int) then 40 else (a.length:Int)).toNat))] fun s =>
  kS s fun t =>
  aL aI 63 [aE (b.take ((if 40 < (b.length:Int) then 40 else (b.length:Int)).toNat))] fun u =>
  kS u fun v =>
  aL aI 64 [aE (a.take ((if 40 < (a.length:Int) then 40 else (a.length:Int)).toNat))] fun w =>
  kS w fun x =>
  aL aI 64 [aE (b.take ((if 40 < (b.length:Int) then 40 else (b.length:Int)).toNat))] fun y =>
  kS y fun z =>
  aA (.head 0 (uI e 0 c.1 d.1 t v [] x z [] aD c.2.1 c.2.2.1 f.2.1 c.2.2.2 f.2.2))))
theorem YD(a b c): Ep 3 [aE a,aE b,aG c] (e3 a b c):=ep
def v4 (o:List V) (j w x:Int) (p q r u v s:List UInt8) (t:Bool) (y:Int) (z:List (V × V)) (aa ab ac:List V): R :=
 cond (decide (j < (o.length:Int)))
 (gd (decide (0<=j)) <|
  bl o j.toNat fun ad =>
  zM ad fun i k l h =>
  bH aI aX Au 20 [aK 0 0 0,aK 1 0 0,aH [aB .i64 i,aE k,aE l,aB .i64 h]] [aJ 128 (aH [aK 2 0 0,aB .i64 w]) aD,aJ 91 (aH [aK 3 0 0,aB .i64 x]) aD,aJ 140 (aH [aK 4 0 0,V.mp 5]) aD,aJ 102 (aH [aK 6 0 0,bC 7 0]) aD,aJ 192 (aH [bC 8 0,aB .i64 y]) aC,O.map z,aJ 159 (aH [bC 9 0]) aD,aM 9 aa 0,aM 5 ab 0,aM 4 ac 0] fun g =>
  cond (i==(2:Int))
 (bH aI aX vx 21 [aK 0 0 0,aK 1 0 0] (cm p q r g.1 g.2.2.1 g.2.2.2.1 g.2.2.2.2.2.1) fun e =>
  bH aI aX vy 22 [aK 0 0 0,aK 1 0 0] [aJ 55 (aH [aE u,aE v,aE s,bc t]) aD,aJ 91 (aH [aK 2 0 0,aB .i64 g.2.1]) aD,aJ 102 (aH [aK 3 0 0,bC 4 0]) aD,aJ 159 (aH [bC 5 0]) aD,aM 9 g.2.2.2.2.1 0,aM 4 g.2.2.2.2.2.2 0] fun f =>
  cond (!((e.1==f.1) && ((e.2.1==f.2.1) && aC)))
 (aA (.done (bc aD)))
 (cond (!(e.2.2.1==f.2.2.1))
 (aA (.done (bc aD)))
 (cond (i==(3:Int))
 (bH aI aX xO 24 [aK 0 0 0,aK 1 0 0,aB .i64 (W .i64 (((BitVec.ofInt (IntKind.bits .i64) h &&& BitVec.ofInt (IntKind.bits .i64) 7).toNat:Int)))] (cm e.2.2.2.1 e.2.2.2.2.1 e.2.2.2.2.2.1 e.2.2.2.2.2.2.1 e.2.2.2.2.2.2.2.1 e.2.2.2.2.2.2.2.2.1 e.2.2.2.2.2.2.2.2.2) fun c =>
  bH aI aX vz 25 [aK 0 0 0,aK 1 0 0,aB .i64 (W .i64 (((BitVec.ofInt (IntKind.bits .i64) h &&& BitVec.ofInt (IntKind.bits .i64) 7).toNat:Int)))] [aJ 55 (aH [aE f.2.2.2.1,aE f.2.2.2.2.1,aE f.2.2.2.2.2.1,bc f.2.2.2.2.2.2.1]) aD,aJ 91 (aH [aK 2 0 0,aB .i64 f.2.2.2.2.2.2.2.1]) aD,aJ 102 (aH [aK 3 0 0,bC 4 0]) aD,aJ 159 (aH [bC 5 0]) aD,aM 9 f.2.2.2.2.2.2.2.2.1 0,aM 4 f.2.2.2.2.2.2.2.2.2 0] fun a =>
  aL aI 23 [aG c.1,aG a.1] fun ae =>
  kB ae fun af =>
  cond (!af)
 (aA (.done (bc aD)))
 (dJ aI aX pO 26 [aK 0 0 0] [aJ 111 (aH [aE c.2.1,aE c.2.2.1,aE c.2.2.2.1]) aD] fun ag =>
  cV [aJ 128 (aH [aK 4 0 0,aB .i64 c.2.2.2.2.1]) aD,aJ 91 (aH [aK 5 0 0,aB .i64 a.2.2.2.2.2.1]) aD,aJ 111 (aH [aE c.2.1,aE c.2.2.1,aE c.2.2.2.1]) aD,aJ 55 (aH [aE a.2.1,aE a.2.2.1,aE a.2.2.2.1,bc a.2.2.2.2.1]) aD,aJ 140 (aH [aK 6 0 0,V.mp 7]) aD,aJ 102 (aH [aK 8 0 0,bC 9 0]) aD,aJ 192 (aH [bC 10 0,aB .i64 c.2.2.2.2.2.1]) aC,O.map c.2.2.2.2.2.2.1,aJ 159 (aH [bC 11 0]) aD,aM 9 a.2.2.2.2.2.2.1 0,aM 5 c.2.2.2.2.2.2.2 0,aM 4 a.2.2.2.2.2.2.2 0,aJ 38 (aH [aB .i64 i,aE k,aE l,aB .i64 h]) aD,aJ 41 (aH [aE e.1,aE e.2.1]) aD,aJ 41 (aH [aE f.1,aE f.2.1]) aD] <|
  dJ aI aX vA 27 [aK 0 0 0] [aJ 55 (aH [aE a.2.1,aE a.2.2.1,aE a.2.2.2.1,bc a.2.2.2.2.1]) aD] fun ah =>
  cV [aJ 128 (aH [aK 4 0 0,aB .i64 c.2.2.2.2.1]) aD,aJ 91 (aH [aK 5 0 0,aB .i64 a.2.2.2.2.2.1]) aD,aJ 111 (aH [aE c.2.1,aE c.2.2.1,aE c.2.2.2.1]) aD,aJ 55 (aH [aE a.2.1,aE a.2.2.1,aE a.2.2.2.1,bc a.2.2.2.2.1]) aD,aJ 140 (aH [aK 6 0 0,V.mp 7]) aD,aJ 102 (aH [aK 8 0 0,bC 9 0]) aD,aJ 192 (aH [bC 10 0,aB .i64 c.2.2.2.2.2.1]) aC,O.map c.2.2.2.2.2.2.1,aJ 159 (aH [bC 11 0]) aD,aM 9 a.2.2.2.2.2.2.1 0,aM 5 c.2.2.2.2.2.2.2 0,aM 4 a.2.2.2.2.2.2.2 0,aJ 38 (aH [aB .i64 i,aE k,aE l,aB .i64 h]) aD,aJ 41 (aH [aE e.1,aE e.2.1]) aD,aJ 41 (aH [aE f.1,aE f.2.1]) aD] <|
  cond (!(ag==ah))
 (aA (.done (bc aD)))
 (dJ aI aX pO 26 [aK 0 0 0] [aJ 111 (aH [aE c.2.1,aE c.2.2.1,aE c.2.2.2.1]) aD] fun ai =>
  cV [aJ 128 (aH [aK 4 0 0,aB .i64 c.2.2.2.2.1]) aD,aJ 91 (aH [aK 5 0 0,aB .i64 a.2.2.2.2.2.1]) aD,aJ 111 (aH [aE c.2.1,aE c.2.2.1,aE c.2.2.2.1]) aD,aJ 55 (aH [aE a.2.1,aE a.2.2.1,aE a.2.2.2.1,bc a.2.2.2.2.1]) aD,aJ 140 (aH [aK 6 0 0,V.mp 7]) aD,aJ 102 (aH [aK 8 0 0,bC 9 0]) aD,aJ 192 (aH [bC 10 0,aB .i64 c.2.2.2.2.2.1]) aC,O.map c.2.2.2.2.2.2.1,aJ 159 (aH [bC 11 0]) aD,aM 9 a.2.2.2.2.2.2.1 0,aM 5 c.2.2.2.2.2.2.2 0,aM 4 a.2.2.2.2.2.2.2 0,aJ 38 (aH [aB .i64 i,aE k,aE l,aB .i64 h]) aD,aJ 41 (aH [aE e.1,aE e.2.1]) aD,aJ 41 (aH [aE f.1,aE f.2.1]) aD] <|
  nC aI aX xP rc 28 [aE ai] []
 (fun aj =>
  cond (aj != (0:Int))
 (aA (.done (bc aD)))
 (aA (.done (bc aD))))
 (fun m =>
  cond (m.1 != (0:Int))
 (aA (.done (bc aD)))
 (aL aI 29 [V.ref (aH [aE m.2.1,aE m.2.2.1,aE m.2.2.2]) 0] fun ak =>
  uR ak fun al am =>
  cond (!(al==a.2.2.2.1))
 (aA (.done (bc aD)))
 (cond (!(am==a.2.2.2.2.1))
 (aA (.done (bc aD)))
 (aA (.head 0 (uI o (W .i64 (j+1)) c.2.2.2.2.1 a.2.2.2.2.2.1 m.2.1 m.2.2.1 m.2.2.2 a.2.1 a.2.2.1 a.2.2.2.1 a.2.2.2.2.1 c.2.2.2.2.2.1 c.2.2.2.2.2.2.1 a.2.2.2.2.2.2.1 c.2.2.2.2.2.2.2 a.2.2.2.2.2.2.2)))))))))
 (aL aI 29 [V.ref (aH [aE e.2.2.2.1,aE e.2.2.2.2.1,aE e.2.2.2.2.2.1]) 0] fun an =>
  uR an fun ao ap =>
  cond (!(ao==f.2.2.2.2.2.1))
 (aA (.done (bc aD)))
 (cond (!(ap==f.2.2.2.2.2.2.1))
 (aA (.done (bc aD)))
 (aA (.head 0 (uI o (W .i64 (j+1)) e.2.2.2.2.2.2.1 f.2.2.2.2.2.2.2.1 e.2.2.2.1 e.2.2.2.2.1 e.2.2.2.2.2.1 f.2.2.2.1 f.2.2.2.2.1 f.2.2.2.2.2.1 f.2.2.2.2.2.2.1 e.2.2.2.2.2.2.2.1 e.2.2.2.2.2.2.2.2.1 f.2.2.2.2.2.2.2.2.1 e.2.2.2.2.2.2.2.2.2 f.2.2.2.2.2.2.2.2.2))))))))
 (cond (i==(3:Int))
 (bH aI aX xO 24 [aK 0 0 0,aK 1 0 0,aB .i64 (W .i64 (((BitVec.ofInt (IntKind.bits .i64) h &&& BitVec.ofInt (IntKind.bits .i64) 7).toNat:Int)))] (cm p q r g.1 g.2.2.1 g.2.2.2.1 g.2.2.2.2.2.1) fun d =>
  bH aI aX vz 25 [aK 0 0 0,aK 1 0 0,aB .i64 (W .i64 (((BitVec.ofInt (IntKind.bits .i64) h &&& BitVec.ofInt (IntKind.bits .i64) 7).toNat:Int)))] [aJ 55 (aH [aE u,aE v,aE s,bc t]) aD,aJ 91 (aH [aK 2 0 0,aB .i64 g.2.1]) aD,aJ 102 (aH [aK 3 0 0,bC 4 0]) aD,aJ 159 (aH [bC 5 0]) aD,aM 9 g.2.2.2.2.1 0,aM 4 g.2.2.2.2.2.2 0] fun b =>
  aL aI 23 [aG d.1,aG b.1] fun aq =>
  kB aq fun ar =>
  cond (!ar)
 (aA (.done (bc aD)))
 (dJ aI aX pO 26 [aK 0 0 0] [aJ 111 (aH [aE d.2.1,aE d.2.2.1,aE d.2.2.2.1]) aD] fun au =>
  cV [aJ 128 (aH [aK 4 0 0,aB .i64 d.2.2.2.2.1]) aD,aJ 91 (aH [aK 5 0 0,aB .i64 b.2.2.2.2.2.1]) aD,aJ 111 (aH [aE d.2.1,aE d.2.2.1,aE d.2.2.2.1]) aD,aJ 55 (aH [aE b.2.1,aE b.2.2.1,aE b.2.2.2.1,bc b.2.2.2.2.1]) aD,aJ 140 (aH [aK 6 0 0,V.mp 7]) aD,aJ 102 (aH [aK 8 0 0,bC 9 0]) aD,aJ 192 (aH [bC 10 0,aB .i64 d.2.2.2.2.2.1]) aC,O.map d.2.2.2.2.2.2.1,aJ 159 (aH [bC 11 0]) aD,aM 9 b.2.2.2.2.2.2.1 0,aM 5 d.2.2.2.2.2.2.2 0,aM 4 b.2.2.2.2.2.2.2 0,aJ 38 (aH [aB .i64 i,aE k,aE l,aB .i64 h]) aD] <|
  dJ aI aX vA 27 [aK 0 0 0] [aJ 55 (aH [aE b.2.1,aE b.2.2.1,aE b.2.2.2.1,bc b.2.2.2.2.1]) aD] fun av =>
  cV [aJ 128 (aH [aK 4 0 0,aB .i64 d.2.2.2.2.1]) aD,aJ 91 (aH [aK 5 0 0,aB .i64 b.2.2.2.2.2.1]) aD,aJ 111 (aH [aE d.2.1,aE d.2.2.1,aE d.2.2.2.1]) aD,aJ 55 (aH [aE b.2.1,aE b.2.2.1,aE b.2.2.2.1,bc b.2.2.2.2.1]) aD,aJ 140 (aH [aK 6 0 0,V.mp 7]) aD,aJ 102 (aH [aK 8 0 0,bC 9 0]) aD,aJ 192 (aH [bC 10 0,aB .i64 d.2.2.2.2.2.1]) aC,O.map d.2.2.2.2.2.2.1,aJ 159 (aH [bC 11 0]) aD,aM 9 b.2.2.2.2.2.2.1 0,aM 5 d.2.2.2.2.2.2.2 0,aM 4 b.2.2.2.2.2.2.2 0,aJ 38 (aH [aB .i64 i,aE k,aE l,aB .i64 h]) aD] <|
  cond (!(au==av))
 (aA (.done (bc aD)))
 (dJ aI aX pO 26 [aK 0 0 0] [aJ 111 (aH [aE d.2.1,aE d.2.2.1,aE d.2.2.2.1]) aD] fun aw =>
  cV [aJ 128 (aH [aK 4 0 0,aB .i64 d.2.2.2.2.1]) aD,aJ 91 (aH [aK 5 0 0,aB .i64 b.2.2.2.2.2.1]) aD,aJ 111 (aH [aE d.2.1,aE d.2.2.1,aE d.2.2.2.1]) aD,aJ 55 (aH [aE b.2.1,aE b.2.2.1,aE b.2.2.2.1,bc b.2.2.2.2.1]) aD,aJ 140 (aH [aK 6 0 0,V.mp 7]) aD,aJ 102 (aH [aK 8 0 0,bC 9 0]) aD,aJ 192 (aH [bC 10 0,aB .i64 d.2.2.2.2.2.1]) aC,O.map d.2.2.2.2.2.2.1,aJ 159 (aH [bC 11 0]) aD,aM 9 b.2.2.2.2.2.2.1 0,aM 5 d.2.2.2.2.2.2.2 0,aM 4 b.2.2.2.2.2.2.2 0,aJ 38 (aH [aB .i64 i,aE k,aE l,aB .i64 h]) aD] <|
  nC aI aX xP rc 28 [aE aw] []
 (fun ax =>
  cond (ax != (0:Int))
 (aA (.done (bc aD)))
 (aA (.done (bc aD))))
 (fun n =>
  cond (n.1 != (0:Int))
 (aA (.done (bc aD)))
 (aL aI 29 [V.ref (aH [aE n.2.1,aE n.2.2.1,aE n.2.2.2]) 0] fun ay =>
  uR ay fun az a0 =>
  cond (!(az==b.2.2.2.1))
 (aA (.done (bc aD)))
 (cond (!(a0==b.2.2.2.2.1))
 (aA (.done (bc aD)))
 (aA (.head 0 (uI o (W .i64 (j+1)) d.2.2.2.2.1 b.2.2.2.2.2.1 n.2.1 n.2.2.1 n.2.2.2 b.2.1 b.2.2.1 b.2.2.2.1 b.2.2.2.2.1 d.2.2.2.2.2.1 d.2.2.2.2.2.2.1 b.2.2.2.2.2.2.1 d.2.2.2.2.2.2.2 b.2.2.2.2.2.2.2)))))))))
 (aL aI 29 [V.ref (aH [aE p,aE q,aE r]) 0] fun a1 =>
  uR a1 fun a2 a3 =>
  cond (!(a2==s))
 (aA (.done (bc aD)))
 (cond (!(a3==t))
 (aA (.done (bc aD)))
 (aA (.head 0 (uI o (W .i64 (j+1)) g.1 g.2.1 p q r u v s t g.2.2.1 g.2.2.2.1 g.2.2.2.2.1 g.2.2.2.2.2.1 g.2.2.2.2.2.2)))))))
 (aL aI 30 [] fun a4 =>
  kB a4 fun a5 =>
  aA (.done (bc a5)))
theorem S8(a b c d e f g h i j k l m n o p): Rd aD 0 3 0 (uI a b c d e f g h i j k l m n o p) (v4 a b c d e f g h i j k l m n o p):=rd
def NJ (b c:List V): R :=
 bH aI aX Ax 99 [aK 0 0 0,aB .i64 0] (rb c) fun a =>
 cond (a.2.1==(0:Int))
 (gd (decide (0<=a.1)) <|
  gd (decide (a.1.toNat < b.length)) <|
  bl b (0+a.1.toNat) fun d =>
  kS d fun e =>
  aA (.doneM (aT [aB .i64 a.1,aB .i64 a.2.1]) (rs (((b).set (0+a.1.toNat) (aE []))) a.2.2)))
 (aA (.doneM (aT [aB .i64 a.1,aB .i64 a.2.1]) (rs b a.2.2)))
theorem YO(a b): Ec 60 4 aX [aK 0 0 0] (rs a b) (NJ a b):=ec
def NK (b:Int) (e:List UInt8) (a c:List V): R :=
 dJ aI aX vu 100 [aK 0 0 0,aB .i64 b] (rs a c) fun d =>
 cV (rs a c) <|
 cond (d==(0:Int))
 (cond (decide ((e.length:Int) > 252))
 (aA (.doneM (aB .i64 2) (rs a c)))
 (cond (d==(0:Int))
 (gd (decide (0<=b)) <|
  gd (decide (b.toNat < a.length)) <|
  bl a (0+b.toNat) fun f =>
  kS f fun h =>
  aA (.doneM (aB .i64 d) (rs (((a).set (0+b.toNat) (aE e))) c)))
 (aA (.doneM (aB .i64 d) (rs a c)))))
 (cond (d==(0:Int))
 (gd (decide (0<=b)) <|
  gd (decide (b.toNat < a.length)) <|
  bl a (0+b.toNat) fun g =>
  kS g fun i =>
  aA (.doneM (aB .i64 d) (rs (((a).set (0+b.toNat) (aE e))) c)))
 (aA (.doneM (aB .i64 d) (rs a c))))
theorem YP(a b c d): Ec 61 4 aX [aK 0 0 0,aB .i64 a,aE b] (rs c d) (NK a b c d):=ec
def CN (c:Int) (a d:List UInt8) (f i j k:Int) (l:List (V × V)) (m n o:List V): R :=
 cond (c==(0:Int))
 (bH aI aX vB 32 [aK 0 0 0,aE a,aE d] (tm i k l n) fun b =>
  bH aI aX Aw 65 [aK 0 0 0,aE a,aE d] (rm j m o) fun e =>
  cond (c==(1:Int))
 (bH aI aX tH 33 [aK 0 0 0,aE a] (tm b.2.2.1 b.2.2.2.1 b.2.2.2.2.1 b.2.2.2.2.2) fun g =>
  bH aI aX xU 66 [aK 0 0 0,aE a] (rm e.2.2.1 e.2.2.2.1 e.2.2.2.2) fun p =>
  aA (.doneM (aT []) [aJ 128 (aH [aK 2 0 0,aB .i64 g.2.1]) aD,aJ 91 (aH [aK 3 0 0,aB .i64 p.2.1]) aD,aJ 140 (aH [aK 4 0 0,V.mp 5]) aD,aJ 102 (aH [aK 6 0 0,bC 7 0]) aD,aJ 192 (aH [bC 8 0,aB .i64 g.2.2.1]) aC,O.map g.2.2.2.1,aJ 159 (aH [bC 9 0]) aD,aM 9 p.2.2.1 0,aM 5 g.2.2.2.2 0,aM 4 p.2.2.2 0,aJ 38 (aH [aB .i64 c,aE a,aE d,aB .i64 f]) aD]))
 (aA (.doneM (aT []) [aJ 128 (aH [aK 2 0 0,aB .i64 b.2.2.1]) aD,aJ 91 (aH [aK 3 0 0,aB .i64 e.2.2.1]) aD,aJ 140 (aH [aK 4 0 0,V.mp 5]) aD,aJ 102 (aH [aK 6 0 0,bC 7 0]) aD,aJ 192 (aH [bC 8 0,aB .i64 b.2.2.2.1]) aC,O.map b.2.2.2.2.1,aJ 159 (aH [bC 9 0]) aD,aM 9 e.2.2.2.1 0,aM 5 b.2.2.2.2.2 0,aM 4 e.2.2.2.2 0,aJ 38 (aH [aB .i64 c,aE a,aE d,aB .i64 f]) aD])))
 (cond (c==(1:Int))
 (bH aI aX tH 33 [aK 0 0 0,aE a] (tm i k l n) fun h =>
  bH aI aX xU 66 [aK 0 0 0,aE a] (rm j m o) fun q =>
  aA (.doneM (aT []) [aJ 128 (aH [aK 2 0 0,aB .i64 h.2.1]) aD,aJ 91 (aH [aK 3 0 0,aB .i64 q.2.1]) aD,aJ 140 (aH [aK 4 0 0,V.mp 5]) aD,aJ 102 (aH [aK 6 0 0,bC 7 0]) aD,aJ 192 (aH [bC 8 0,aB .i64 h.2.2.1]) aC,O.map h.2.2.2.1,aJ 159 (aH [bC 9 0]) aD,aM 9 q.2.2.1 0,aM 5 h.2.2.2.2 0,aM 4 q.2.2.2 0,aJ 38 (aH [aB .i64 c,aE a,aE d,aB .i64 f]) aD]))
 (aA (.doneM (aT []) [aJ 128 (aH [aK 2 0 0,aB .i64 i]) aD,aJ 91 (aH [aK 3 0 0,aB .i64 j]) aD,aJ 140 (aH [aK 4 0 0,V.mp 5]) aD,aJ 102 (aH [aK 6 0 0,bC 7 0]) aD,aJ 192 (aH [bC 8 0,aB .i64 k]) aC,O.map l,aJ 159 (aH [bC 9 0]) aD,aM 9 m 0,aM 5 n 0,aM 4 o 0,aJ 38 (aH [aB .i64 c,aE a,aE d,aB .i64 f]) aD])))
theorem Hg(a b c d e f g h i j k): Ec 20 10 aX [aK 0 0 0,aK 1 0 0,aH [aB .i64 a,aE b,aE c,aB .i64 d]] [aJ 128 (aH [aK 2 0 0,aB .i64 e]) aD,aJ 91 (aH [aK 3 0 0,aB .i64 f]) aD,aJ 140 (aH [aK 4 0 0,V.mp 5]) aD,aJ 102 (aH [aK 6 0 0,bC 7 0]) aD,aJ 192 (aH [bC 8 0,aB .i64 g]) aC,O.map h,aJ 159 (aH [bC 9 0]) aD,aM 9 i 0,aM 5 j 0,aM 4 k 0] (CN a b c d e f g h i j k):=ec
def wO(a:List V)(b c:Int)(d e f:List UInt8)(g h:Int)(i:List (V × V))(j:List V): S:=⟨[aK 0 0 0,bo,bo,bo,aK 6 0 0,bc aD]++(JU 12)++[aG a,aB .i64 b,aB .i64 c]++(JU 42),(cm d e f g h i j++[aJ 41 (aH [aE [],aE []]) aD])⟩
def Nu (a g b:List UInt8) (c d:Int) (e:List (V × V)) (f:List V): R :=
 dJ aI aX xQ 34 [aK 0 0 0,aE (if Op.bytesLess a b then b else a),aB .i64 2] (tm c d e f) fun h =>
 cV (cm a g b c d e f++[aJ 41 (aH [aE [],aE []]) aD]) <|
 aA (.head 0 (wO h (h.length:Int) 0 a g b c d e f))
theorem Yk(a b c d e f g): Ec 21 6 aX [aK 0 0 0,aK 1 0 0] (cm a b c d e f g) (Nu a b c d e f g):=ec
def EJ (k:List V) (l j:Int) (d b c:List UInt8) (e f:Int) (g:List (V × V)) (h:List V): R :=
 cond (decide (j < l))
 (gd (decide (0<=j)) <|
  bl k j.toNat fun m =>
  eD m fun a i =>
  cond (!(b==[]))
 (cond (!Op.bytesLess a b)
 (aA (.doneM (aT [aH [aE [],aE []],bc aD]) (cm d b c e f g h++[aJ 41 (aH [aE [],aE []]) aD])))
 (cond (c==[])
 (aA (.doneM (aT [aH [aE a,aE i],bc aC]) (cm d b a e f g h++[aJ 41 (aH [aE a,aE i]) aD])))
 (cond (!(Op.bytesLess a c ||a==c))
 (aA (.doneM (aT [aH [aE a,aE i],bc aC]) (cm d b a e f g h++[aJ 41 (aH [aE a,aE i]) aD])))
 (aA (.head 0 (wO k l (W .i64 (j+1)) d b c e f g h))))))
 (cond (c==[])
 (aA (.doneM (aT [aH [aE a,aE i],bc aC]) (cm d b a e f g h++[aJ 41 (aH [aE a,aE i]) aD])))
 (cond (!(Op.bytesLess a c ||a==c))
 (aA (.doneM (aT [aH [aE a,aE i],bc aC]) (cm d b a e f g h++[aJ 41 (aH [aE a,aE i]) aD])))
 (aA (.head 0 (wO k l (W .i64 (j+1)) d b c e f g h))))))
 (aA (.doneM (aT [aH [aE [],aE []],bc aD]) (cm d b c e f g h++[aJ 41 (aH [aE [],aE []]) aD])))
theorem EK(a b c d e f g h i j): Rd aC 6 21 0 (wO a b c d e f g h i j) (EJ a b c d e f g h i j):=rd
def sy(a:List V)(b:Int)(c d e:List UInt8)(f:Bool)(g:Int)(h i:List V): S:=⟨[aK 0 0 0,bo,bo,bo,aK 6 0 0,bc aD,aG a,aB .i64 b]++(JU 63),[aJ 55 (aH [aE c,aE d,aE e,bc f]) aD,aJ 91 (aH [aK 2 0 0,aB .i64 g]) aD,aJ 102 (aH [aK 3 0 0,bC 4 0]) aD,aJ 159 (aH [bC 5 0]) aD,aM 9 h 0,aM 4 i 0,aJ 41 (aH [aE [],aE []]) aD]⟩
def Nw (d e f:List UInt8) (g:Bool) (a:Int) (b c:List V): R :=
 dJ aI aX xV 67 [aK 0 0 0] (rm a b c) fun h =>
 cV [aJ 55 (aH [aE d,aE e,aE f,bc g]) aD,aJ 91 (aH [aK 2 0 0,aB .i64 a]) aD,aJ 102 (aH [aK 3 0 0,bC 4 0]) aD,aJ 159 (aH [bC 5 0]) aD,aM 9 b 0,aM 4 c 0,aJ 41 (aH [aE [],aE []]) aD] <|
 aA (.head 0 (sy h 0 d e f g a b c))
theorem Yo(a b c d e f g): Ec 22 6 aX [aK 0 0 0,aK 1 0 0] [aJ 55 (aH [aE a,aE b,aE c,bc d]) aD,aJ 91 (aH [aK 2 0 0,aB .i64 e]) aD,aJ 102 (aH [aK 3 0 0,bC 4 0]) aD,aJ 159 (aH [bC 5 0]) aD,aM 9 f 0,aM 4 g 0] (Nw a b c d e f g):=ec
def EM (c:List V) (a:Int) (d b i:List UInt8) (j:Bool) (e:Int) (f g:List V): R :=
 cond (decide (a < (c.length:Int)))
 (gd (decide (0<=a)) <|
  bl c a.toNat fun s =>
  eD s fun h af =>
  aL aI 35 [aE h,aE d] fun t =>
  kB t fun u =>
  cond u
 (aA (.head 0 (sy c (W .i64 (a+1)) d b i j e f g)))
 (cond (!(b==[]))
 (aL aI 35 [aE h,aE b] fun v =>
  kB v fun w =>
  cond (!w)
 (aA (.head 0 (sy c (W .i64 (a+1)) d b i j e f g)))
 (cond j
 (aL aI 35 [aE i,aE h] fun x =>
  kB x fun y =>
  cond (!y)
 (aA (.head 0 (sy c (W .i64 (a+1)) d b i j e f g)))
 (gd (decide (0<=a)) <|
  bl c a.toNat fun z =>
  eD z fun k l =>
  aA (.doneM (aT [aH [aE k,aE l],bc aC]) [aJ 55 (aH [aE d,aE b,aE h,bc aC]) aD,aJ 91 (aH [aK 2 0 0,aB .i64 e]) aD,aJ 102 (aH [aK 3 0 0,bC 4 0]) aD,aJ 159 (aH [bC 5 0]) aD,aM 9 f 0,aM 4 g 0,aJ 41 (aH [aE k,aE l]) aD])))
 (gd (decide (0<=a)) <|
  bl c a.toNat fun aa =>
  eD aa fun m n =>
  aA (.doneM (aT [aH [aE m,aE n],bc aC]) [aJ 55 (aH [aE d,aE b,aE h,bc aC]) aD,aJ 91 (aH [aK 2 0 0,aB .i64 e]) aD,aJ 102 (aH [aK 3 0 0,bC 4 0]) aD,aJ 159 (aH [bC 5 0]) aD,aM 9 f 0,aM 4 g 0,aJ 41 (aH [aE m,aE n]) aD]))))
 (cond j
 (aL aI 35 [aE i,aE h] fun ab =>
  kB ab fun ac =>
  cond (!ac)
 (aA (.head 0 (sy c (W .i64 (a+1)) d b i j e f g)))
 (gd (decide (0<=a)) <|
  bl c a.toNat fun ad =>
  eD ad fun o p =>
  aA (.doneM (aT [aH [aE o,aE p],bc aC]) [aJ 55 (aH [aE d,aE b,aE h,bc aC]) aD,aJ 91 (aH [aK 2 0 0,aB .i64 e]) aD,aJ 102 (aH [aK 3 0 0,bC 4 0]) aD,aJ 159 (aH [bC 5 0]) aD,aM 9 f 0,aM 4 g 0,aJ 41 (aH [aE o,aE p]) aD])))
 (gd (decide (0<=a)) <|
  bl c a.toNat fun ae =>
  eD ae fun q r =>
  aA (.doneM (aT [aH [aE q,aE r],bc aC]) [aJ 55 (aH [aE d,aE b,aE h,bc aC]) aD,aJ 91 (aH [aK 2 0 0,aB .i64 e]) aD,aJ 102 (aH [aK 3 0 0,bC 4 0]) aD,aJ 159 (aH [bC 5 0]) aD,aM 9 f 0,aM 4 g 0,aJ 41 (aH [aE q,aE r]) aD])))))
 (aA (.doneM (aT [aH [aE [],aE []],bc aD]) [aJ 55 (aH [aE d,aE b,aE i,bc j]) aD,aJ 91 (aH [aK 2 0 0,aB .i64 e]) aD,aJ 102 (aH [aK 3 0 0,bC 4 0]) aD,aJ 159 (aH [bC 5 0]) aD,aM 9 f 0,aM 4 g 0,aJ 41 (aH [aE [],aE []]) aD]))
theorem Kk(a b c d e f g h i): Rd aC 6 22 0 (sy a b c d e f g h i) (EM a b c d e f g h i):=rd
def NA (b:Int) (c d e:List UInt8) (f g:Int) (h:List (V × V)) (i:List V): R :=
 bH aI aX Al 112 [aK 0 0 0,aK 1 0 0,aK 2 0 0] (mm f b c d e g h i) fun a =>
 aA (.doneM (aG a.1) (cm a.2.2.2.1 a.2.2.2.2.1 a.2.2.2.2.2.1 a.2.1 a.2.2.2.2.2.2.1 a.2.2.2.2.2.2.2.1 a.2.2.2.2.2.2.2.2++[aM 41 [] 0,aJ 3 (aB .i64 a.2.2.1) aD,aJ 43 (V.fn 2069 [aK 0 0 0]) aD]))
theorem Ys(a b c d e f g h): Ec 24 6 aX [aK 0 0 0,aK 1 0 0,aB .i64 a] (cm b c d e f g h) (NA a b c d e f g h):=ec
def B5(a b:Int)(c d e:List UInt8)(f:Bool)(g:Int)(h i j:List V): S:=⟨[aK 0 0 0,aK 1 0 0,aB .i64 a,bo,bo,bo,dG 6,dG 7,aB .i64 b]++(JU 22),[aJ 55 (aH [aE c,aE d,aE e,bc f]) aD,aJ 91 (aH [aK 2 0 0,aB .i64 g]) aD,aJ 102 (aH [aK 3 0 0,bC 4 0]) aD,aJ 159 (aH [bC 5 0]) aD,aM 9 h 0,aM 4 i 0,aM 41 [] 0,aM 41 j 0]⟩
def NB (a:Int) (b c d:List UInt8) (e:Bool) (f:Int) (g h:List V): R :=
 aA (.head 0 (B5 a 0 b c d e f g h []))
theorem Yt(a b c d e f g h): Ec 25 6 aX [aK 0 0 0,aK 1 0 0,aB .i64 a] [aJ 55 (aH [aE b,aE c,aE d,bc e]) aD,aJ 91 (aH [aK 2 0 0,aB .i64 f]) aD,aJ 102 (aH [aK 3 0 0,bC 4 0]) aD,aJ 159 (aH [bC 5 0]) aD,aM 9 g 0,aM 4 h 0] (NB a b c d e f g h):=ec
def EN (c d:Int) (e f g:List UInt8) (h:Bool) (i:Int) (j k b:List V): R :=
 cond (decide (d < c))
 (bH aI aX vy 22 [aK 0 0 0,aK 1 0 0] [aJ 55 (aH [aE e,aE f,aE g,bc h]) aD,aJ 91 (aH [aK 2 0 0,aB .i64 i]) aD,aJ 102 (aH [aK 3 0 0,bC 4 0]) aD,aJ 159 (aH [bC 5 0]) aD,aM 9 j 0,aM 4 k 0] fun a =>
  cond (!a.2.2.1)
 (aA (.doneM (dG 6) [aJ 55 (aH [aE a.2.2.2.1,aE a.2.2.2.2.1,aE a.2.2.2.2.2.1,bc a.2.2.2.2.2.2.1]) aD,aJ 91 (aH [aK 2 0 0,aB .i64 a.2.2.2.2.2.2.2.1]) aD,aJ 102 (aH [aK 3 0 0,bC 4 0]) aD,aJ 159 (aH [bC 5 0]) aD,aM 9 a.2.2.2.2.2.2.2.2.1 0,aM 4 a.2.2.2.2.2.2.2.2.2 0,aM 41 b 0]))
 (gd (decide (b.length+([aH [aE a.1,aE a.2.1]]:List V).length<=16777216)) <|
  aA (.head 0 (B5 c (W .i64 (d+1)) a.2.2.2.1 a.2.2.2.2.1 a.2.2.2.2.2.1 a.2.2.2.2.2.2.1 a.2.2.2.2.2.2.2.1 a.2.2.2.2.2.2.2.2.1 a.2.2.2.2.2.2.2.2.2 (b++[aH [aE a.1,aE a.2.1]])))))
 (aA (.doneM (dG 7) [aJ 55 (aH [aE e,aE f,aE g,bc h]) aD,aJ 91 (aH [aK 2 0 0,aB .i64 i]) aD,aJ 102 (aH [aK 3 0 0,bC 4 0]) aD,aJ 159 (aH [bC 5 0]) aD,aM 9 j 0,aM 4 k 0,aM 41 [] 0,aM 41 b 0]))
theorem Km(a b c d e f g h i j): Rd aC 6 25 0 (B5 a b c d e f g h i j) (EN a b c d e f g h i j):=rd
def NC (b c a:List UInt8): R :=
 cond (!(a==[]))
 (aL aI 69 [aE b] fun j =>
  kS j fun d =>
  gd (decide (([1]:List UInt8).length+d.length<=4611686018427387904)) <|
  aL aI 69 [aE c] fun k =>
  kS k fun f =>
  gd (decide (([1]++d:List UInt8).length+f.length<=4611686018427387904)) <|
  aL aI 69 [aE a] fun l =>
  kS l fun h =>
  gd (decide ((([1]++d)++f).length+h.length<=4611686018427387904)) <|
  aA (.doneM (aE ((([1]++d)++f)++h)) [aJ 111 (aH [aE b,aE c,aE a]) aD]))
 (aL aI 69 [aE b] fun m =>
  kS m fun e =>
  gd (decide (([0]:List UInt8).length+e.length<=4611686018427387904)) <|
  aL aI 69 [aE c] fun n =>
  kS n fun g =>
  gd (decide (([0]++e:List UInt8).length+g.length<=4611686018427387904)) <|
  aL aI 69 [aE a] fun o =>
  kS o fun i =>
  gd (decide ((([0]++e)++g).length+i.length<=4611686018427387904)) <|
  aA (.doneM (aE ((([0]++e)++g)++i)) [aJ 111 (aH [aE b,aE c,aE a]) aD]))
theorem Yu(a b c): Ec 26 1 aX [aK 0 0 0] [aJ 111 (aH [aE a,aE b,aE c]) aD] (NC a b c):=ec
def ND (a b c:List UInt8) (f:Bool): R :=
 cond f
 (aL aI 70 [aE a] fun k =>
  kS k fun d =>
  gd (decide (([1]:List UInt8).length+d.length<=4611686018427387904)) <|
  aL aI 70 [aE b] fun l =>
  kS l fun g =>
  gd (decide (([1]++d:List UInt8).length+g.length<=4611686018427387904)) <|
  aL aI 70 [aE c] fun m =>
  kS m fun i =>
  gd (decide ((([1]++d)++g).length+i.length<=4611686018427387904)) <|
  aA (.doneM (aE ((([1]++d)++g)++i)) [aJ 55 (aH [aE a,aE b,aE c,bc f]) aD]))
 (aL aI 70 [aE a] fun n =>
  kS n fun e =>
  gd (decide (([0]:List UInt8).length+e.length<=4611686018427387904)) <|
  aL aI 70 [aE b] fun o =>
  kS o fun h =>
  gd (decide (([0]++e:List UInt8).length+h.length<=4611686018427387904)) <|
  aL aI 70 [aE c] fun p =>
  kS p fun j =>
  gd (decide ((([0]++e)++h).length+j.length<=4611686018427387904)) <|
  aA (.doneM (aE ((([0]++e)++h)++j)) [aJ 55 (aH [aE a,aE b,aE c,bc f]) aD]))
theorem Yv(a b c d): Ec 27 1 aX [aK 0 0 0] [aJ 55 (aH [aE a,aE b,aE c,bc d]) aD] (ND a b c d):=ec
def m8(a:List UInt8)(b c:Int)(d e f:List UInt8): S:=⟨[aE a,bo,V.nilP,aB .i64 0,aK 0 0 0,aB .i64 b]++(JU 16)++[aH [aK 0 0 0,aK 0 0 1,aK 0 0 2],aB .i64 c]++(JU 22),[aJ 111 (aH [aE d,aE e,aE f]) aD]⟩
def Yw (a:List UInt8): R :=
 aA (.head 0 (m8 a 1 0 [] [] []))
theorem Yx(a): Ec 28 0 aX [aE a] [] (Yw a):=ec
def S2 (a:List UInt8) (d:Int) (e b c:List UInt8): R :=
 aL aI 71 [aE a,aB .i64 d] fun f =>
 gt f fun g h i =>
 cond (i != (0:Int))
 (aA (.doneM (aT [V.nilP,aB .i64 4]) [aJ 111 (aH [aE e,aE b,aE c]) aD]))
 (aL aI 63 [aE g] fun j =>
  kS j fun k =>
  aA (.head 0 (m8 a h 1 k b c)))
theorem afy(a b c d e): Rd aC 0 28 0 (m8 a b 0 c d e) (S2 a b c d e):=rd
def S3 (a:List UInt8) (d:Int) (b e c:List UInt8): R :=
 aL aI 71 [aE a,aB .i64 d] fun f =>
 gt f fun g h i =>
 cond (i != (0:Int))
 (aA (.doneM (aT [V.nilP,aB .i64 4]) [aJ 111 (aH [aE b,aE e,aE c]) aD]))
 (aL aI 63 [aE g] fun j =>
  kS j fun k =>
  aA (.head 0 (m8 a h 2 b k c)))
theorem afz(a b c d e): Rd aC 0 28 0 (m8 a b 1 c d e) (S3 a b c d e):=rd
def S4 (a:List UInt8) (d:Int) (b c e:List UInt8): R :=
 aL aI 71 [aE a,aB .i64 d] fun f =>
 gt f fun g h i =>
 cond (i != (0:Int))
 (aA (.doneM (aT [V.nilP,aB .i64 4]) [aJ 111 (aH [aE b,aE c,aE e]) aD]))
 (aL aI 63 [aE g] fun j =>
  kS j fun k =>
  aA (.head 0 (m8 a h 3 b c k)))
theorem afA(a b c d e): Rd aC 0 28 0 (m8 a b 2 c d e) (S4 a b c d e):=rd
def S5 (d:List UInt8) (f:Int) (a b c:List UInt8): R :=
 dJ aI aX pO 26 [aK 0 0 0] [aJ 111 (aH [aE a,aE b,aE c]) aD] fun e =>
 cV [aJ 111 (aH [aE a,aE b,aE c]) aD] <|
 cond (!(e==d))
 (aA (.doneM (aT [V.nilP,aB .i64 4]) [aJ 111 (aH [aE a,aE b,aE c]) aD]))
 (aA (.doneM (aT [aK 0 0 0,aB .i64 0]) [aJ 111 (aH [aE a,aE b,aE c]) aD]))
theorem afB(a b c d e): Rd aC 0 28 0 (m8 a b 3 c d e) (S5 a b c d e):=rd
def zD(a b:Int)(c:List V): S:=⟨[aK 0 0 0,aB .i64 a,bo,bo,aB .i64 0,aB .i64 0,aB .i64 b]++(JU 44),(rb c)⟩
def UI(a b:Int)(c:List V): S:=⟨[aK 0 0 0,aB .i64 a,bo,bo,aB .i64 0,aB .i64 0,bo,aB .i64 b]++(JU 43),(rb c)⟩
def NW (a:Int) (b:List V): R :=
 cond (decide (a ≥ 0))
 (cond (!(decide (a < (b.length:Int))))
 (aA (.doneM (aT [aB .i64 0,aB .i64 1]) (rb b)))
 (aA (.head 0 (zD a a b))))
 (aA (.doneM (aT [aB .i64 0,aB .i64 1]) (rb b)))
theorem Zr(a b): Ec 99 2 aX [aK 0 0 0,aB .i64 a] (rb b) (NW a b):=ec
def Ky (c a:Int) (b:List V): R :=
 cond (decide (a < (b.length:Int)))
 (gd (decide (0<=a)) <|
  gd (decide (a.toNat < b.length)) <|
  bl b (0+a.toNat) fun e =>
  kB e fun f =>
  cond (!f)
 (bH aI aX Ao 142 [aK 0 0 0,aB .i64 a] (rb b) fun d =>
  aA (.doneM (aT [aB .i64 a,aB .i64 d.1]) (rb d.2)))
 (aA (.head 0 (zD c (W .i64 (a+1)) b))))
 (aA (.head 1 (UI c 0 b)))
theorem Tg(a b c): Rd aC 2 99 0 (zD a b c) (Ky a b c):=rd
def MN (c:Int) (a b:List V): R :=
 cond (decide (c < 0))
 (aA (.doneM (aB .i64 1) (rs a b)))
 (cond (decide (c ≥ (a.length:Int)))
 (aA (.doneM (aB .i64 1) (rs a b)))
 (dJ aI aX xM 143 [aK 0 0 0,aB .i64 c] (rb b) fun d =>
  cV (rs a b) <|
  cond (!d)
 (aA (.doneM (aB .i64 7) (rs a b)))
 (aA (.doneM (aB .i64 0) (rs a b)))))
theorem WB(a b c): Ec 100 4 aX [aK 0 0 0,aB .i64 a] (rs b c) (MN a b c):=ec
def xc (f l:List UInt8) (e b:Int) (c:List (V × V)) (d:List V): R :=
 aL aI 73 [aE f] fun n =>
 kB n fun o =>
 cond (!o)
 (aA (.doneM (aT [bc aD,aB .i64 1]) (tm e b c d)))
 (aL aI 74 [aE l] fun p =>
  kB p fun q =>
  cond (!q)
 (aA (.doneM (aT [bc aD,aB .i64 1]) (tm e b c d)))
 (dJ aI aX vD 75 [aK 0 0 0,aE f] (tm e b c d) fun a =>
  cV (tm e b c d) <|
  aL aI 76 [aH [aG a.2.1,aE a.2.2.1,aB .i64 a.2.2.2.1],aE f] fun r =>
  i7 r fun v m =>
  aL aI 77 [aH [aG a.2.1,aE a.2.2.1,aB .i64 a.2.2.2.1],aE f,aE l] fun s =>
  qN s fun g h i t =>
  cond (t==(0:Int))
 (bH aI aX iu 78 [aK 0 0 0,aB .i64 a.2.2.2.2,ig 120 (aH [aG g,aE h,aB .i64 i])] (tm e b c d) fun j =>
  aA (.doneM (aT [bc (m != (0:Int)),aB .i64 0]) (tm j.1 j.2.1 j.2.2.1 j.2.2.2++[aM 41 [] 0,aJ 120 (aH [aG a.2.1,aE a.2.2.1,aB .i64 a.2.2.2.1]) aD,aM 41 [] 0,aJ 120 (aH [aG g,aE h,aB .i64 i]) aD])))
 (dJ aI aX xR 44 [aK 0 0 0] (sm b c d) fun u =>
  cV (tm e b c d++[aM 41 [] 0,aJ 120 (aH [aG a.2.1,aE a.2.2.1,aB .i64 a.2.2.2.1]) aD,aM 41 [] 0,aJ 120 (aH [aG g,aE h,aB .i64 i]) aD]) <|
  cond (decide (u < W .i64 ((W .i64 ((a.1.length:Int)+1))+1)))
 (aA (.doneM (aT [bc aD,aB .i64 6]) (tm e b c d++[aM 41 [] 0,aJ 120 (aH [aG a.2.1,aE a.2.2.1,aB .i64 a.2.2.2.1]) aD,aM 41 [] 0,aJ 120 (aH [aG g,aE h,aB .i64 i]) aD])))
 (bH aI aX vF 79 [aK 0 0 0,aG a.1,aH [aG a.2.1,aE a.2.2.1,aB .i64 a.2.2.2.1],aB .i64 a.2.2.2.2,aH [aE f,aE l]] (tm e b c d) fun k =>
  aA (.doneM (aT [bc (m != (0:Int)),aB .i64 0]) (tm k.1 k.2.1 k.2.2.1 k.2.2.2++[aM 41 [] 0,aJ 120 (aH [aG a.2.1,aE a.2.2.1,aB .i64 a.2.2.2.1]) aD,aM 41 [] 0,aJ 120 (aH [aG g,aE h,aB .i64 i]) aD]))))))
theorem Yy(a b c d e f): Ec 32 5 aX [aK 0 0 0,aE a,aE b] (tm c d e f) (xc a b c d e f):=ec
def B7(a:List V)(b c d e:Int)(f g h:List V)(i:List UInt8)(j:Int)(k:List V)(l:List UInt8)(m:Int): S:=⟨[aK 0 0 0]++(JU 5)++[bc aD,aB .i64 0,aG a,aB .i64 b,bo,bo,bo,aB .i64 c,bo,bo,aB .i64 d,bo,aK 5 0 0,aK 6 0 0]++(JU 126),(rm e f g++[aJ 108 (aH [aG h,aE i,aB .i64 j]) aD,aJ 108 (aH [aG k,aE l,aB .i64 m]) aD])⟩
def zS (e h:List UInt8) (b:Int) (c d:List V): R :=
 aL aI 47 [aE e] fun u =>
 kB u fun v =>
 cond (!v)
 (aA (.doneM (aT [bc aD,aB .i64 1]) (rm b c d)))
 (aL aI 48 [aE h] fun w =>
  kB w fun x =>
  cond (!x)
 (aA (.doneM (aT [bc aD,aB .i64 1]) (rm b c d)))
 (dJ aI aX vv 103 [aK 0 0 0,aE e] (rm b c d) fun g =>
  cV (rm b c d) <|
  gd (decide (0<=W .i64 ((g.length:Int) - 1))) <|
  bl g ((W .i64 ((g.length:Int) - 1)).toNat) fun y =>
  kI .i64 y fun i =>
  dJ aI aX oG 104 [aK 0 0 0,aB .i64 i] (rm b c d) fun a =>
  cV (rm b c d) <|
  aL aI 105 [aH [aG a.1,aE a.2.1,aB .i64 a.2.2.1],aE e] fun z =>
  i7 z fun aq m =>
  aL aI 106 [aH [aG a.1,aE a.2.1,aB .i64 a.2.2.1],aE e,aE h] fun aa =>
  nr aa fun j k l ab =>
  cond (ab==(0:Int))
 (aL aI 62 [aH [aG j,aE k,aB .i64 l]] fun ac =>
  kS ac fun ad =>
  bH aI aX jF 61 [aK 0 0 0,aB .i64 i,aE ad] (rs c d) fun o =>
  aA (.doneM (aT [bc (m != (0:Int)),aB .i64 0]) (rm b o.2.1 o.2.2++[aM 41 [] 0,aJ 108 (aH [aG a.1,aE a.2.1,aB .i64 a.2.2.1]) aD,aM 41 [] 0,aJ 108 (aH [aG j,aE k,aB .i64 l]) aD])))
 (dJ aI aX xG 107 [aK 0 0 0] (rs c d) fun ae =>
  cV (rm b c d++[aM 41 [] 0,aJ 108 (aH [aG a.1,aE a.2.1,aB .i64 a.2.2.1]) aD,aM 41 [] 0,aJ 108 (aH [aG j,aE k,aB .i64 l]) aD]) <|
  cond (decide (ae < W .i64 ((g.length:Int)+1)))
 (aA (.doneM (aT [bc aD,aB .i64 6]) (rm b c d++[aM 41 [] 0,aJ 108 (aH [aG a.1,aE a.2.1,aB .i64 a.2.2.1]) aD,aM 41 [] 0,aJ 108 (aH [aG j,aE k,aB .i64 l]) aD])))
 (bH aI aX tI 60 [aK 0 0 0] (rs c d) fun f =>
  aL aI 108 [aH [aG a.1,aE a.2.1,aB .i64 a.2.2.1],aB .i64 f.1] fun af =>
  Cu af fun p n q r s t ar =>
  aL aI 35 [aE e,aE n] fun ag =>
  kB ag fun ah =>
  cond ah
 (aL aI 106 [aH [aG p,aE n,aB .i64 q],aE e,aE h] fun ai =>
  nr ai fun aj ak al au =>
  aA (.head 0 (B7 g i m f.1 b f.2.2.1 f.2.2.2 aj ak al r s t)))
 (aL aI 106 [aH [aG r,aE s,aB .i64 t],aE e,aE h] fun am =>
  nr am fun an ao ap av =>
  aA (.head 0 (B7 g i m f.1 b f.2.2.1 f.2.2.2 p n q an ao ap)))))))
theorem CP(a b c d e): Ec 65 5 aX [aK 0 0 0,aE a,aE b] (rm c d e) (zS a b c d e):=ec
def Kp (a:List V) (d m e n:Int) (o p f:List V) (b:List UInt8) (g:Int) (h:List V) (i:List UInt8) (j:Int): R :=
 aL aI 62 [aH [aG f,aE b,aB .i64 g]] fun q =>
 kS q fun r =>
 bH aI aX jF 61 [aK 0 0 0,aB .i64 d,aE r] (rs o p) fun k =>
 aL aI 62 [aH [aG h,aE i,aB .i64 j]] fun s =>
 kS s fun t =>
 bH aI aX jF 61 [aK 0 0 0,aB .i64 e,aE t] (rs k.2.1 k.2.2) fun l =>
 gd (cw 1 a) <|
 gd (decide (0<=W .i64 ((a.length:Int) - 1))) <|
 gd (decide ((W .i64 ((a.length:Int) - 1)).toNat<=a.length)) <|
 bH aI aX xH 109 [aK 0 0 0,aG (a.take ((W .i64 ((a.length:Int) - 1)).toNat)),aE b,aB .i64 d,aB .i64 e] (rm n l.2.1 l.2.2) fun c =>
 aA (.doneM (aT [bc (m != (0:Int)),aB .i64 0]) (rm c.1 c.2.1 c.2.2++[aJ 108 (aH [aG f,aE b,aB .i64 g]) aD,aJ 108 (aH [aG h,aE i,aB .i64 j]) aD]))
theorem afD(a b c d e f g h i j k l m): Rd aC 5 65 0 (B7 a b c d e f g h i j k l m) (Kp a b c d e f g h i j k l m):=rd
def uT (l:List UInt8) (b c:Int) (d:List (V × V)) (e:List V): R :=
 aL aI 73 [aE l] fun n =>
 kB n fun o =>
 cond (!o)
 (aA (.doneM (aB .i64 1) (tm b c d e)))
 (dJ aI aX vD 75 [aK 0 0 0,aE l] (tm b c d e) fun a =>
  cV (tm b c d e) <|
  aL aI 80 [aH [aG a.2.1,aE a.2.2.1,aB .i64 a.2.2.2.1],aE l] fun p =>
  qN p fun f g h m =>
  cond (m != (0:Int))
 (aA (.doneM (aB .i64 m) (tm b c d e++[aM 41 [] 0,aJ 120 (aH [aG a.2.1,aE a.2.2.1,aB .i64 a.2.2.2.1]) aD,aM 41 [] 0,aJ 120 (aH [aG f,aE g,aB .i64 h]) aD])))
 (cond (decide ((f.length:Int) > 0))
 (bH aI aX iu 78 [aK 0 0 0,aB .i64 a.2.2.2.2,ig 120 (aH [aG f,aE g,aB .i64 h])] (tm b c d e) fun i =>
  aA (.doneM (aB .i64 0) (tm i.1 i.2.1 i.2.2.1 i.2.2.2++[aM 41 [] 0,aJ 120 (aH [aG a.2.1,aE a.2.2.1,aB .i64 a.2.2.2.1]) aD,aM 41 [] 0,aJ 120 (aH [aG f,aE g,aB .i64 h]) aD])))
 (cond ((a.1.length:Int)==(0:Int))
 (bH aI aX iu 78 [aK 0 0 0,aB .i64 a.2.2.2.2,ig 120 (aH [aG f,aE g,aB .i64 h])] (tm b c d e) fun j =>
  aA (.doneM (aB .i64 0) (tm j.1 j.2.1 j.2.2.1 j.2.2.2++[aM 41 [] 0,aJ 120 (aH [aG a.2.1,aE a.2.2.1,aB .i64 a.2.2.2.1]) aD,aM 41 [] 0,aJ 120 (aH [aG f,aE g,aB .i64 h]) aD])))
 (bH aI aX xW 81 [aK 0 0 0,aG a.1,aB .i64 a.2.2.2.2] (tm b c d e) fun k =>
  aA (.doneM (aB .i64 0) (tm k.1 k.2.1 k.2.2.1 k.2.2.2++[aM 41 [] 0,aJ 120 (aH [aG a.2.1,aE a.2.2.1,aB .i64 a.2.2.2.1]) aD,aM 41 [] 0,aJ 120 (aH [aG f,aE g,aB .i64 h]) aD]))))))
theorem Yz(a b c d e): Ec 33 5 aX [aK 0 0 0,aE a] (tm b c d e) (uT a b c d e):=ec
def xd (i:List UInt8) (b:Int) (c d:List V): R :=
 aL aI 47 [aE i] fun o =>
 kB o fun p =>
 cond (!p)
 (aA (.doneM (aB .i64 1) (rm b c d)))
 (dJ aI aX vv 103 [aK 0 0 0,aE i] (rm b c d) fun h =>
  cV (rm b c d) <|
  gd (decide (0<=W .i64 ((h.length:Int) - 1))) <|
  bl h ((W .i64 ((h.length:Int) - 1)).toNat) fun q =>
  kI .i64 q fun j =>
  dJ aI aX oG 104 [aK 0 0 0,aB .i64 j] (rm b c d) fun a =>
  cV (rm b c d) <|
  aL aI 110 [aH [aG a.1,aE a.2.1,aB .i64 a.2.2.1],aE i] fun r =>
  nr r fun e f g l =>
  cond (l != (0:Int))
 (aA (.doneM (aB .i64 l) (rm b c d++[aM 41 [] 0,aJ 108 (aH [aG a.1,aE a.2.1,aB .i64 a.2.2.1]) aD,aM 41 [] 0,aJ 108 (aH [aG e,aE f,aB .i64 g]) aD])))
 (cond (decide ((e.length:Int) > 0))
 (aL aI 62 [aH [aG e,aE f,aB .i64 g]] fun s =>
  kS s fun t =>
  bH aI aX jF 61 [aK 0 0 0,aB .i64 j,aE t] (rs c d) fun m =>
  aA (.doneM (aB .i64 0) (rm b m.2.1 m.2.2++[aM 41 [] 0,aJ 108 (aH [aG a.1,aE a.2.1,aB .i64 a.2.2.1]) aD,aM 41 [] 0,aJ 108 (aH [aG e,aE f,aB .i64 g]) aD])))
 (cond ((h.length:Int)==(1:Int))
 (aL aI 62 [aH [aG e,aE f,aB .i64 g]] fun u =>
  kS u fun v =>
  bH aI aX jF 61 [aK 0 0 0,aB .i64 j,aE v] (rs c d) fun n =>
  aA (.doneM (aB .i64 0) (rm b n.2.1 n.2.2++[aM 41 [] 0,aJ 108 (aH [aG a.1,aE a.2.1,aB .i64 a.2.2.1]) aD,aM 41 [] 0,aJ 108 (aH [aG e,aE f,aB .i64 g]) aD])))
 (bH aI aX Ak 111 [aK 0 0 0,aG h] (rm b c d) fun k =>
  aA (.doneM (aB .i64 0) (rm k.1 k.2.1 k.2.2++[aM 41 [] 0,aJ 108 (aH [aG a.1,aE a.2.1,aB .i64 a.2.2.1]) aD,aM 41 [] 0,aJ 108 (aH [aG e,aE f,aB .i64 g]) aD]))))))
theorem zT(a b c d): Ec 66 5 aX [aK 0 0 0,aE a] (rm b c d) (xd a b c d):=ec
def zw(a:List UInt8)(b:Int)(c:List V)(d e f g:Int)(h:List (V × V))(i j:List V): S:=⟨[aK 0 0 0,aE a,aB .i64 b,bo,bo,bo,dG 5,dG 6]++(JU 7)++[aG c,aB .i64 d,aB .i64 e]++(JU 34),(tm f g h i++[aM 41 [] 0,aM 41 j 0])⟩
def uH(a:List UInt8)(b:Int)(c:List V)(d e:Int)(f:List V)(g h i j:Int)(k:List (V × V))(l m:List V): S:=⟨[aK 0 0 0,aE a,aB .i64 b,bo,bo,bo,dG 5,dG 6]++(JU 7)++[aG c,aB .i64 d,aB .i64 e]++(JU 11)++[aG f,aB .i64 g,aB .i64 h]++(JU 20),(tm i j k l++[aM 41 [] 0,aM 41 m 0])⟩
def LD(a:List UInt8)(b:Int)(c:List V)(d e f g:Int)(h:List (V × V))(i j:List V): S:=⟨[aK 0 0 0,aE a,aB .i64 b,bo,bo,bo,dG 5,dG 6]++(JU 7)++[aG c,aB .i64 d,aB .i64 e]++(JU 11)++[V.nilS,aB .i64 0,aB .i64 0]++(JU 20),(tm f g h i++[aM 41 [] 0,aM 41 j 0])⟩
def NE (f:List UInt8) (g a b:Int) (c:List (V × V)) (d:List V): R :=
 dJ aI aX xS 46 [aK 0 0 0] (tm a b c d) fun e =>
 cV (tm a b c d++[aM 41 [] 0,aM 41 [] 0]) <|
 aA (.head 0 (zw f g e (e.length:Int) 0 a b c d []))
theorem YA(a b c d e f): Ec 34 5 aX [aK 0 0 0,aE a,aB .i64 b] (tm c d e f) (NE a b c d e f):=ec
def Kn (i:List UInt8) (j:Int) (g:List V) (h f a b:Int) (c:List (V × V)) (d e:List V): R :=
 cond (decide (f < h))
 (gd (decide (0<=f)) <|
  bl g f.toNat fun l =>
  kI .i64 l fun m =>
  jW aI aX (jh (tm a b c d)) (ji (tm a b c d)) (l8 (tm a b c d)) 82 [aK 0 0 0,aB .i64 m] (tm a b c d)
 (fun k =>
  cV (tm a b c d++[aM 41 [] 0,aM 41 e 0]) <|
  aA (.head 1 (uH i j g h f k.1 (k.1.length:Int) 0 a b c d e)))
 (fun n =>
  cV (tm a b c d++[aM 41 [] 0,aM 41 e 0]) <|
  aA (.head 1 (LD i j g h f a b c d e)))
 (fun o =>
  cV (tm a b c d++[aM 41 [] 0,aM 41 e 0]) <|
  aA (.head 1 (LD i j g h f a b c d e))))
 (aA (.doneM (dG 6) (tm a b c d++[aM 41 [] 0,aM 41 e 0])))
theorem S6(a b c d e f g h i j): Rd aC 5 34 0 (zw a b c d e f g h i j) (Kn a b c d e f g h i j):=rd
def EO (c:List UInt8) (d:Int) (e:List V) (f g:Int) (h:List V) (i a j k:Int) (l:List (V × V)) (m b:List V): R :=
 cond (decide (a < i))
 (gd (decide (0<=a)) <|
  bl h a.toNat fun p =>
  eD p fun n o =>
  cond (!Op.bytesLess n c)
 (cond (decide ((b.length:Int) < d))
 (gd (decide (b.length+([aH [aE n,aE o]]:List V).length<=16777216)) <|
  aA (.head 1 (uH c d e f g h i (W .i64 (a+1)) j k l m (b++[aH [aE n,aE o]]))))
 (aA (.head 1 (uH c d e f g h i (W .i64 (a+1)) j k l m b))))
 (aA (.head 1 (uH c d e f g h i (W .i64 (a+1)) j k l m b))))
 (aA (.head 0 (zw c d e f (W .i64 (g+1)) j k l m b)))
theorem S7(a b c d e f g h i j k l m): Rd aC 5 34 1 (uH a b c d e f g h i j k l m) (EO a b c d e f g h i j k l m):=rd
def B8(a:List V)(b c:Int)(d e f:List V): S:=⟨[aK 0 0 0,bo,dG 5,dG 6,aG a,aB .i64 b]++(JU 25),(rm c d e++[aM 41 [] 0,aM 41 f 0])⟩
def NM (a:Int) (b c:List V): R :=
 dJ aI aX xT 55 [aK 0 0 0] (rm a b c) fun d =>
 cV (rm a b c++[aM 41 [] 0,aM 41 [] 0]) <|
 aA (.head 0 (B8 d 0 a b c []))
theorem YU(a b c): Ec 67 5 aX [aK 0 0 0] (rm a b c) (NM a b c):=ec
def Kq (f:List V) (a b:Int) (c d e:List V): R :=
 cond (decide (a < (f.length:Int)))
 (gd (decide (0<=a)) <|
  bl f a.toNat fun h =>
  kI .i64 h fun i =>
  dJ aI aX oG 104 [aK 0 0 0,aB .i64 i] (rm b c d) fun g =>
  cV (rm b c d++[aM 41 [] 0,aM 41 e 0]) <|
  gd (cw 2 g.1) <|
  gd (decide (e.length+g.1.length<=16777216)) <|
  aA (.head 0 (B8 f (W .i64 (a+1)) b c d (e++g.1))))
 (aA (.doneM (dG 6) (rm b c d++[aM 41 [] 0,aM 41 e 0])))
theorem Tb(a b c d e f): Rd aC 5 67 0 (B8 a b c d e f) (Kq a b c d e f):=rd
def BS(a b c d:Int)(e f g:List UInt8)(h:Int)(i:List (V × V))(j k:List V): S:=⟨[aK 0 0 0,bo,aK 2 0 0,bo,dG 8,dG 9,bo,bo,bo,aB .i64 a,aB .i64 b]++(JU 15),(mm c d e f g h i j++[aM 41 [] 0,aM 41 k 0])⟩
def MV (b a:Int) (c d e:List UInt8) (f:Int) (g:List (V × V)) (h:List V): R :=
 aA (.head 0 (BS (if 0 < a then a else 0) 0 b a c d e f g h []))
theorem WR(a b c d e f g h): Ec 112 8 aX [aK 0 0 0,aK 1 0 0,aK 2 0 0] (mm a b c d e f g h) (MV a b c d e f g h):=ec
def Eu (d e f c:Int) (g h i:List UInt8) (j:Int) (k:List (V × V)) (l b:List V): R :=
 cond (decide (e < d))
 (bH aI aX vx 21 [aK 0 0 0,aK 1 0 0] (cm g h i f j k l) fun a =>
  cond (!a.2.2.1)
 (aA (.doneM (dG 9) (mm a.2.2.2.2.2.2.1 c a.2.2.2.1 a.2.2.2.2.1 a.2.2.2.2.2.1 a.2.2.2.2.2.2.2.1 a.2.2.2.2.2.2.2.2.1 a.2.2.2.2.2.2.2.2.2++[aM 41 [] 0,aM 41 b 0])))
 (gd (decide (b.length+([aH [aE a.1,aE a.2.1]]:List V).length<=16777216)) <|
  aA (.head 0 (BS d (W .i64 (e+1)) a.2.2.2.2.2.2.1 c a.2.2.2.1 a.2.2.2.2.1 a.2.2.2.2.2.1 a.2.2.2.2.2.2.2.1 a.2.2.2.2.2.2.2.2.1 a.2.2.2.2.2.2.2.2.2 (b++[aH [aE a.1,aE a.2.1]])))))
 (aA (.doneM (dG 9) (mm f c g h i j k l++[aM 41 [] 0,aM 41 b 0])))
theorem JS(a b c d e f g h i j k): Rd aC 8 112 0 (BS a b c d e f g h i j k) (Eu a b c d e f g h i j k):=rd
def M9 (a:Int) (b:List V): R :=
 cond (decide (a ≥ 0))
 (cond (!(decide (a < (b.length:Int))))
 (aA (.doneM (aB .i64 1) (rb b)))
 (gd (decide (0<=a)) <|
  gd (decide (a.toNat < b.length)) <|
  bl b (0+a.toNat) fun c =>
  kB c fun d =>
  cond d
 (aA (.doneM (aB .i64 8) (rb b)))
 (gd (decide (0<=a)) <|
  gd (decide (a.toNat < b.length)) <|
  bl b (0+a.toNat) fun e =>
  kB e fun f =>
  aA (.doneM (aB .i64 0) (rb (((b).set (0+a.toNat) (bc aC))))))))
 (aA (.doneM (aB .i64 1) (rb b)))
theorem Xk(a b): Ec 142 2 aX [aK 0 0 0,aB .i64 a] (rb b) (M9 a b):=ec
def Na (b:Int) (a:List V): R :=
 cond (decide (b ≥ 0))
 (cond (decide (b < (a.length:Int)))
 (gd (decide (0<=b)) <|
  gd (decide (b.toNat < a.length)) <|
  bl a (0+b.toNat) fun c =>
  kB c fun d =>
  aA (.doneM (bc d) (rb a)))
 (aA (.doneM (bc aD) (rb a))))
 (aA (.doneM (bc aD) (rb a)))
theorem Xl(a b): Ec 143 2 aX [aK 0 0 0,aB .i64 a] (rb b) (Na a b):=ec
def B9(a:List UInt8)(b c d:Int)(e:List (V × V))(f g:List V): S:=⟨[aK 0 0 0,aE a,bo,bo,dG 5,aK 6 0 0,aB .i64 0,dG 7,aB .i64 b]++(JU 43),(tm c d e f++[aM 176 [] 0,aJ 120 (aH [bC 8 0,aE [],aB .i64 0]) aD,aM 176 g 0,aM 41 [] 0])⟩
def Y7 (b:List UInt8) (a c:Int) (d:List (V × V)) (e:List V): R :=
 aA (.head 0 (B9 b a a c d e []))
theorem Y8(a b c d e): Ec 75 5 aX [aK 0 0 0,aE a] (tm b c d e) (Y7 a b c d e):=ec
def Kr (j:List UInt8) (g b c:Int) (d:List (V × V)) (e f:List V): R :=
 jW aI aX (jh (tm b c d e)) (ji (tm b c d e)) (l8 (tm b c d e)) 82 [aK 0 0 0,aB .i64 g] (tm b c d e)
 (fun h =>
  cV (tm b c d e++[aM 176 [] 0,aJ 120 (aH [bC 8 0,aE [],aB .i64 0]) aD,aM 176 f 0,aM 41 [] 0]) <|
  aA (.doneM (aT [dG 5,aH [aG h.1,aE h.2.1,aB .i64 h.2.2],aB .i64 g]) (tm b c d e++[aM 176 f 0,aJ 120 (aH [aG h.1,aE h.2.1,aB .i64 h.2.2]) aD])))
 (fun a =>
  cV (tm b c d e++[aM 176 [] 0,aJ 120 (aH [bC 8 0,aE [],aB .i64 0]) aD,aM 176 f 0,aM 41 [] 0]) <|
  aL aI 114 [aH [aG a.1,aG a.2.1,aE a.2.2.1,aB .i64 a.2.2.2],aE j] fun k =>
  uP k fun i l =>
  cond (l != (0:Int))
 (aA (.doneM (aT [dG 5,aH [V.nilS,aE [],aB .i64 0],aB .i64 g]) (tm b c d e++[aM 176 f 0,aJ 120 (aH [V.nilS,aE [],aB .i64 0]) aD])))
 (gd (decide (f.length+([aH [aB .i64 g,aG a.1,aG a.2.1,aE a.2.2.1,aB .i64 a.2.2.2,aB .i64 i]]:List V).length<=16777216)) <|
  gd (decide (0<=i)) <|
  bl a.2.1 i.toNat fun m =>
  kI .i64 m fun n =>
  aA (.head 0 (B9 j n b c d e (f++[aH [aB .i64 g,aG a.1,aG a.2.1,aE a.2.2.1,aB .i64 a.2.2.2,aB .i64 i]])))))
 (fun o =>
  cV (tm b c d e++[aM 176 [] 0,aJ 120 (aH [bC 8 0,aE [],aB .i64 0]) aD,aM 176 f 0,aM 41 [] 0]) <|
  aA (.doneM (aT [dG 5,aH [V.nilS,aE [],aB .i64 0],aB .i64 g]) (tm b c d e++[aM 176 f 0,aJ 120 (aH [V.nilS,aE [],aB .i64 0]) aD])))
theorem Tc(a b c d e f g): Rd aC 5 75 0 (B9 a b c d e f g) (Kr a b c d e f g):=rd
def NN (e:Int) (b:List V) (c:List UInt8) (d f g:Int) (h:List (V × V)) (i:List V): R :=
 aL aI 120 [aH [aG b,aE c,aB .i64 d]] fun j =>
 kS j fun k =>
 bH aI aX xI 119 [aK 0 0 0,aB .i64 e,aE k] (sm g h i) fun a =>
 aA (.doneM (aT []) (tm f a.2.1 a.2.2.1 a.2.2.2++[aM 41 [] 0,aJ 120 (aH [aG b,aE c,aB .i64 d]) aD]))
theorem Zd(a b c d e f g h): Ec 78 5 aX [aK 0 0 0,aB .i64 a,ig 120 (aH [aG b,aE c,aB .i64 d])] (tm e f g h) (NN a b c d e f g h):=ec
def NF (a:Int) (c:List (V × V)) (b:List V): R :=
 dJ aI aX xY 89 [aK 0 0 0] (bm a b) fun d =>
 cV (sm a c b) <|
 aA (.doneM (aB .i64 d) (sm a c b))
theorem YE(a b c): Ec 44 4 aX [aK 0 0 0] (sm a b c) (NF a b c):=ec
def CQ (u l:List V) (m:List UInt8) (n d:Int) (b e:List UInt8) (v ab:Int) (ac:List (V × V)) (ad:List V): R :=
 bH aI aX vG 84 [aK 0 0 0] (sm ab ac ad) fun a =>
 aL aI 122 [aH [aG l,aE m,aB .i64 n],aB .i64 a.1] fun ae =>
 Cv ae fun o c p q r s ah =>
 cond (Op.bytesLess b c)
 (aL aI 77 [aH [aG o,aE c,aB .i64 p],aE b,aE e] fun af =>
  qN af fun w t x ai =>
  bH aI aX iu 78 [aK 0 0 0,aB .i64 d,ig 120 (aH [aG w,aE t,aB .i64 x])] (tm v a.2.2.1 a.2.2.2.1 a.2.2.2.2) fun f =>
  bH aI aX iu 78 [aK 0 0 0,aB .i64 a.1,ig 120 (aH [aG q,aE r,aB .i64 s])] (tm f.1 f.2.1 f.2.2.1 f.2.2.2) fun g =>
  bH aI aX tF 123 [aK 0 0 0,aG u,aE t,aB .i64 d,aB .i64 a.1] (tm g.1 g.2.1 g.2.2.1 g.2.2.2) fun h =>
  aA (.doneM (aT []) (tm h.1 h.2.1 h.2.2.1 h.2.2.2++[aJ 120 (aH [aG l,aE m,aB .i64 n]) aD,aJ 41 (aH [aE b,aE e]) aD,aM 41 [] 0,aJ 120 (aH [aG w,aE t,aB .i64 x]) aD,aM 41 [] 0,aJ 120 (aH [aG q,aE r,aB .i64 s]) aD])))
 (aL aI 77 [aH [aG q,aE r,aB .i64 s],aE b,aE e] fun ag =>
  qN ag fun y z aa aj =>
  bH aI aX iu 78 [aK 0 0 0,aB .i64 d,ig 120 (aH [aG o,aE c,aB .i64 p])] (tm v a.2.2.1 a.2.2.2.1 a.2.2.2.2) fun i =>
  bH aI aX iu 78 [aK 0 0 0,aB .i64 a.1,ig 120 (aH [aG y,aE z,aB .i64 aa])] (tm i.1 i.2.1 i.2.2.1 i.2.2.2) fun j =>
  bH aI aX tF 123 [aK 0 0 0,aG u,aE c,aB .i64 d,aB .i64 a.1] (tm j.1 j.2.1 j.2.2.1 j.2.2.2) fun k =>
  aA (.doneM (aT []) (tm k.1 k.2.1 k.2.2.1 k.2.2.2++[aJ 120 (aH [aG l,aE m,aB .i64 n]) aD,aJ 41 (aH [aE b,aE e]) aD,aM 41 [] 0,aJ 120 (aH [aG o,aE c,aB .i64 p]) aD,aM 41 [] 0,aJ 120 (aH [aG y,aE z,aB .i64 aa]) aD])))
theorem Zf(a b c d e f g h i j k): Ec 79 5 aX [aK 0 0 0,aG a,aH [aG b,aE c,aB .i64 d],aB .i64 e,aH [aE f,aE g]] (tm h i j k) (CQ a b c d e f g h i j k):=ec
def BM(a:List UInt8)(b:Bool)(c:Int)(d e f g h:List V)(i:List UInt8)(j:Int): S:=⟨[aK 0 0 0,aE a,bo,bo,dG 5,dG 6,aK 7 0 0,bc b]++(JU 49),(rm c d e++[aM 3 [] 0,aM 3 f 0,aJ 152 (aH [aG g,aG h,aE i,aB .i64 j]) aD])⟩
def MO (e:List UInt8) (a:Int) (c d:List V): R :=
 dJ aI aX jY 95 [aK 0 0 0,aB .i64 a] (rm a c d) fun b =>
 cV (rm a c d++[aM 3 [] 0,aM 3 [aB .i64 a] 0]) <|
 aA (.head 0 (BM e b.2.2.2.2 a c d [aB .i64 a] b.1 b.2.1 b.2.2.1 b.2.2.2.1))
theorem WI(a b c d): Ec 103 5 aX [aK 0 0 0,aE a] (rm b c d) (MO a b c d):=ec
def JH (l:List UInt8) (m:Bool) (b:Int) (c d e g a:List V) (h:List UInt8) (i:Int): R :=
 cond m
 (aL aI 145 [aH [aG g,aG a,aE h,aB .i64 i],aE l] fun n =>
  uP n fun j o =>
  cond (o != (0:Int))
 (aA (.doneM (dG 5) (rm b c d++[aM 3 e 0,aJ 152 (aH [aG g,aG a,aE h,aB .i64 i]) aD])))
 (gd (decide (0<=j)) <|
  bl a j.toNat fun p =>
  kI .i64 p fun k =>
  gd (decide (e.length+([aB .i64 k]:List V).length<=16777216)) <|
  gd (decide (0<=j)) <|
  bl a j.toNat fun q =>
  kI .i64 q fun r =>
  dJ aI aX jY 95 [aK 0 0 0,aB .i64 r] (rm b c d) fun f =>
  cV (rm b c d++[aM 3 [] 0,O.dead,aJ 152 (aH [aG g,aG a,aE h,aB .i64 i]) aD,aM 3 [aB .i64 k] 0,aM 3 (e++[aB .i64 k]) 0]) <|
  aA (.head 0 (BM l f.2.2.2.2 b c d (e++[aB .i64 k]) f.1 f.2.1 f.2.2.1 f.2.2.2.1))))
 (aA (.doneM (dG 6) (rm b c d++[aM 3 [] 0,aM 3 e 0,aJ 152 (aH [aG g,aG a,aE h,aB .i64 i]) aD])))
theorem Sr(a b c d e f g h i j): Rd aC 5 103 0 (BM a b c d e f g h i j) (JH a b c d e f g h i j):=rd
def Gz (h f:Int) (d e:List V): R :=
 dJ aI aX vH 94 [aK 0 0 0,aB .i64 h] (rs d e) fun g =>
 cV (rm f d e++[aM 41 [] 0,aJ 108 (aH [bC 5 0,aE [],aB .i64 0]) aD]) <|
 aL aI 146 [aE g.1] fun i =>
 nr i fun a b c j =>
 cond (g.2==(0:Int))
 (aA (.doneM (aT [aH [aG a,aE b,aB .i64 c],bc (j==(0:Int))]) (rm f d e++[aM 41 [] 0,aJ 108 (aH [aG a,aE b,aB .i64 c]) aD,aM 41 [] 0,aJ 108 (aH [aG a,aE b,aB .i64 c]) aD])))
 (aA (.doneM (aT [aH [aG a,aE b,aB .i64 c],bc aD]) (rm f d e++[aM 41 [] 0,aJ 108 (aH [aG a,aE b,aB .i64 c]) aD,aM 41 [] 0,aJ 108 (aH [aG a,aE b,aB .i64 c]) aD])))
theorem MP(a b c d): Ec 104 5 aX [aK 0 0 0,aB .i64 a] (rm b c d) (Gz a b c d):=ec
def MR (a b:List V): R :=
 dJ aI aX ya 93 [aK 0 0 0] (rb b) fun c =>
 cV (rs a b) <|
 aA (.doneM (aB .i64 (W .i64 ((a.length:Int) - (c.length:Int)))) (rs a b))
theorem WM(a b): Ec 107 4 aX [aK 0 0 0] (rs a b) (MR a b):=ec
def BP(a:List V)(b c:Int)(d:List UInt8)(e:Int)(f g h i:List V)(j:List UInt8)(k:Int)(l m:List V)(n:List UInt8)(o:Int): S:=⟨[aK 0 0 0,aG a]++(JU 10)++[aB .i64 b]++(JU 4)++[aB .i64 c,bo,aK 5 0 0,aK 6 0 0,aE d]++(JU 123),(rm e f g++[aJ 152 (aH [aG h,aG i,aE j,aB .i64 k]) aD,aJ 152 (aH [aG l,aG m,aE n,aB .i64 o]) aD])⟩
def CH (c:List V) (d:List UInt8) (z h e:Int) (f g:List V): R :=
 cond ((c.length:Int)==(0:Int))
 (bH aI aX tI 60 [aK 0 0 0] (rs f g) fun i =>
  aL aI 148 [aH [aG [aE d],aG [aB .i64 z,aB .i64 h],aE [],aB .i64 0]] fun aa =>
  kS aa fun ab =>
  bH aI aX jF 61 [aK 0 0 0,aB .i64 i.1,aE ab] (rs i.2.2.1 i.2.2.2) fun l =>
  aA (.doneM (aT []) (rm i.1 l.2.1 l.2.2)))
 (gd (decide (0<=W .i64 ((c.length:Int) - 1))) <|
  bl c ((W .i64 ((c.length:Int) - 1)).toNat) fun ac =>
  kI .i64 ac fun j =>
  dJ aI aX jY 95 [aK 0 0 0,aB .i64 j] (rm e f g) fun a =>
  cV (rm e f g) <|
  aL aI 149 [aH [aG a.1,aG a.2.1,aE a.2.2.1,aB .i64 a.2.2.2.1],aE d,aB .i64 h] fun ad =>
  sP ad fun m n o p ae =>
  cond (ae==(0:Int))
 (aL aI 148 [aH [aG m,aG n,aE o,aB .i64 p]] fun af =>
  kS af fun ag =>
  bH aI aX jF 61 [aK 0 0 0,aB .i64 j,aE ag] (rs f g) fun q =>
  aA (.doneM (aT []) (rm e q.2.1 q.2.2++[aM 9 [] 0,aM 3 [] 0,aJ 152 (aH [aG a.1,aG a.2.1,aE a.2.2.1,aB .i64 a.2.2.2.1]) aD,aM 9 [] 0,aM 3 [] 0,aJ 152 (aH [aG m,aG n,aE o,aB .i64 p]) aD])))
 (bH aI aX tI 60 [aK 0 0 0] (rs f g) fun b =>
  aL aI 150 [aH [aG a.1,aG a.2.1,aE a.2.2.1,aB .i64 a.2.2.2.1],aB .i64 b.1] fun ah =>
  zK ah fun r s t u v w x y k aw =>
  aL aI 35 [aE d,aE k] fun ai =>
  kB ai fun aj =>
  cond aj
 (aL aI 149 [aH [aG r,aG s,aE t,aB .i64 u],aE d,aB .i64 h] fun ak =>
  sP ak fun al am an ao ax =>
  aA (.head 0 (BP c j b.1 k e b.2.2.1 b.2.2.2 al am an ao v w x y)))
 (aL aI 149 [aH [aG v,aG w,aE x,aB .i64 y],aE d,aB .i64 h] fun ap =>
  sP ap fun aq ar au av ay =>
  aA (.head 0 (BP c j b.1 k e b.2.2.1 b.2.2.2 r s t u aq ar au av)))))
theorem GB(a b c d e f g): Ec 109 5 aX [aK 0 0 0,aG a,aE b,aB .i64 c,aB .i64 d] (rm e f g) (CH a b c d e f g):=ec
def JN (a:List V) (c d:Int) (o:List UInt8) (p:Int) (q r e f:List V) (g:List UInt8) (h:Int) (i j:List V) (k:List UInt8) (l:Int): R :=
 aL aI 148 [aH [aG e,aG f,aE g,aB .i64 h]] fun s =>
 kS s fun t =>
 bH aI aX jF 61 [aK 0 0 0,aB .i64 c,aE t] (rs q r) fun m =>
 aL aI 148 [aH [aG i,aG j,aE k,aB .i64 l]] fun u =>
 kS u fun v =>
 bH aI aX jF 61 [aK 0 0 0,aB .i64 d,aE v] (rs m.2.1 m.2.2) fun n =>
 gd (cw 1 a) <|
 gd (decide (0<=W .i64 ((a.length:Int) - 1))) <|
 gd (decide ((W .i64 ((a.length:Int) - 1)).toNat<=a.length)) <|
 bH aI aX xH 109 [aK 0 0 0,aG (a.take ((W .i64 ((a.length:Int) - 1)).toNat)),aE o,aB .i64 c,aB .i64 d] (rm p n.2.1 n.2.2) fun b =>
 aA (.doneM (aT []) (rm b.1 b.2.1 b.2.2++[aJ 152 (aH [aG e,aG f,aE g,aB .i64 h]) aD,aJ 152 (aH [aG i,aG j,aE k,aB .i64 l]) aD]))
theorem afp(a b c d e f g h i j k l m n o): Rd aC 5 109 0 (BP a b c d e f g h i j k l m n o) (JN a b c d e f g h i j k l m n o):=rd
def zz(a:List V)(b c d:Int)(e:List (V × V))(f g:List V): S:=⟨[aK 0 0 0,aG a]++(JU 4)++[dG 5,aB .i64 b]++(JU 91),(tm c d e f++[aM 3 g 0])⟩
def pf(a:List V)(b c d e:Int)(f:List (V × V))(g h:List V)(i:Int)(j k:List V)(l:List UInt8)(m n:Int): S:=⟨[aK 0 0 0]++(JU 5)++[dG 5,bo,aK 6 0 0]++(JU 37)++[aG a,aB .i64 b,aB .i64 c]++(JU 50),(tm d e f g++[aM 3 h 0,aJ 176 (aH [aB .i64 i,aG j,aG k,aE l,aB .i64 m,aB .i64 n]) aD])⟩
def wQ(a b c d:Int)(e:List (V × V))(f g:List V): S:=⟨[aK 0 0 0]++(JU 83)++[dG 5,aB .i64 a,aB .i64 b]++(JU 12),(tm c d e f++[aM 3 g 0])⟩
def NP (a:List V) (b c d:Int) (e:List (V × V)) (f:List V): R :=
 aA (.head 0 (zz a (W .i64 ((a.length:Int) - 1)) c d e f [aB .i64 b]))
theorem Zi(a b c d e f): Ec 81 5 aX [aK 0 0 0,aG a,aB .i64 b] (tm c d e f) (NP a b c d e f):=ec
def Ks (b:List V) (a d e:Int) (f:List (V × V)) (g c:List V): R :=
 gd (decide (0<=a)) <|
 bl b a.toNat fun p =>
 nu p fun t u q v w x =>
 cond ((q.length:Int)==(1:Int))
 (gd (decide (0<=a)) <|
  bl b a.toNat fun r =>
  nu r fun h y z aa ab ac =>
  gd (decide (c.length+([aB .i64 h]:List V).length<=16777216)) <|
  aA (.head 0 (zz b (W .i64 (a - 1)) d e f g (c++[aB .i64 h]))))
 (gd (decide (0<=a)) <|
  bl b a.toNat fun s =>
  nu s fun i j k l m n =>
  dJ aI aX xJ 124 [aK 0 0 0,aG b,aB .i64 (c.length:Int)] (tm d e f g) fun o =>
  cV (tm d e f g++[aM 3 c 0,aJ 176 (aH [aB .i64 i,aG j,aG k,aE l,aB .i64 m,aB .i64 n]) aD]) <|
  aA (.head 1 (pf o (o.length:Int) 0 d e f g c i j k l m n)))
theorem Td(a b c d e f g): Rd aC 5 81 0 (zz a b c d e f g) (Ks a b c d e f g):=rd
def ER (n:List V) (o l a b:Int) (c:List (V × V)) (d e:List V) (g:Int) (h i:List V) (j:List UInt8) (k f:Int): R :=
 cond (decide (l < o))
 (gd (decide (0<=l)) <|
  bl n l.toNat fun aa =>
  kI .i64 aa fun p =>
  jW aI aX (jh (tm a b c d)) (ji (tm a b c d)) (l8 (tm a b c d)) 82 [aK 0 0 0,aB .i64 p] (tm a b c d)
 (fun q =>
  cV (tm a b c d++[aM 3 e 0,aJ 176 (aH [aB .i64 g,aG h,aG i,aE j,aB .i64 k,aB .i64 f]) aD]) <|
  gd (decide (0<=l)) <|
  gd (decide (l.toNat < e.length)) <|
  bl e l.toNat fun ab =>
  kI .i64 ab fun ac =>
  jW aI aX (jh (tm a b c d)) (ji (tm a b c d)) (l8 (tm a b c d)) 82 [aK 0 0 0,aB .i64 ac] (tm a b c d)
 (fun w =>
  cV (tm a b c d++[aM 3 e 0,aJ 176 (aH [aB .i64 g,aG h,aG i,aE j,aB .i64 k,aB .i64 f]) aD]) <|
  bH aI aX iu 78 [aK 0 0 0,aB .i64 p,ig 120 (aH [aG q.1,aE (cond (decide (f > 0)) w.2.1 q.2.1),aB .i64 w.2.2])] (tm a b c d) fun r =>
  aA (.head 1 (pf n o (W .i64 (l+1)) r.1 r.2.1 r.2.2.1 r.2.2.2 e g h i j k f)))
 (fun x =>
  cV (tm a b c d++[aM 3 e 0,aJ 176 (aH [aB .i64 g,aG h,aG i,aE j,aB .i64 k,aB .i64 f]) aD]) <|
  bH aI aX iu 78 [aK 0 0 0,aB .i64 p,ig 120 (aH [aG q.1,aE (cond (decide (f > 0)) x.2.2.1 q.2.1),aB .i64 x.2.2.2])] (tm a b c d) fun s =>
  aA (.head 1 (pf n o (W .i64 (l+1)) s.1 s.2.1 s.2.2.1 s.2.2.2 e g h i j k f)))
 (fun am =>
  cV (tm a b c d++[aM 3 e 0,aJ 176 (aH [aB .i64 g,aG h,aG i,aE j,aB .i64 k,aB .i64 f]) aD]) <|
  aF))
 (fun m =>
  cV (tm a b c d++[aM 3 e 0,aJ 176 (aH [aB .i64 g,aG h,aG i,aE j,aB .i64 k,aB .i64 f]) aD]) <|
  gd (decide (0<=l)) <|
  gd (decide (l.toNat < e.length)) <|
  bl e l.toNat fun ad =>
  kI .i64 ad fun ae =>
  jW aI aX (jh (tm a b c d)) (ji (tm a b c d)) (l8 (tm a b c d)) 82 [aK 0 0 0,aB .i64 ae] (tm a b c d)
 (fun y =>
  cV (tm a b c d++[aM 3 e 0,aJ 176 (aH [aB .i64 g,aG h,aG i,aE j,aB .i64 k,aB .i64 f]) aD]) <|
  bH aI aX iu 78 [aK 0 0 0,aB .i64 p,ig 150 (aH [aG m.1,aG m.2.1,aE (cond (decide (f > 0)) y.2.1 m.2.2.1),aB .i64 y.2.2])] (tm a b c d) fun t =>
  aA (.head 1 (pf n o (W .i64 (l+1)) t.1 t.2.1 t.2.2.1 t.2.2.2 e g h i j k f)))
 (fun z =>
  cV (tm a b c d++[aM 3 e 0,aJ 176 (aH [aB .i64 g,aG h,aG i,aE j,aB .i64 k,aB .i64 f]) aD]) <|
  bH aI aX iu 78 [aK 0 0 0,aB .i64 p,ig 150 (aH [aG m.1,aG m.2.1,aE (cond (decide (f > 0)) z.2.2.1 m.2.2.1),aB .i64 z.2.2.2])] (tm a b c d) fun u =>
  aA (.head 1 (pf n o (W .i64 (l+1)) u.1 u.2.1 u.2.2.1 u.2.2.2 e g h i j k f)))
 (fun an =>
  cV (tm a b c d++[aM 3 e 0,aJ 176 (aH [aB .i64 g,aG h,aG i,aE j,aB .i64 k,aB .i64 f]) aD]) <|
  aF))
 (fun ao =>
  cV (tm a b c d++[aM 3 e 0,aJ 176 (aH [aB .i64 g,aG h,aG i,aE j,aB .i64 k,aB .i64 f]) aD]) <|
  gd (decide (0<=l)) <|
  gd (decide (l.toNat < e.length)) <|
  bl e l.toNat fun af =>
  kI .i64 af fun ag =>
  jW aI aX (jh (tm a b c d)) (ji (tm a b c d)) (l8 (tm a b c d)) 82 [aK 0 0 0,aB .i64 ag] (tm a b c d)
 (fun ap =>
  cV (tm a b c d++[aM 3 e 0,aJ 176 (aH [aB .i64 g,aG h,aG i,aE j,aB .i64 k,aB .i64 f]) aD]) <|
  aF)
 (fun aq =>
  cV (tm a b c d++[aM 3 e 0,aJ 176 (aH [aB .i64 g,aG h,aG i,aE j,aB .i64 k,aB .i64 f]) aD]) <|
  aF)
 (fun ar =>
  cV (tm a b c d++[aM 3 e 0,aJ 176 (aH [aB .i64 g,aG h,aG i,aE j,aB .i64 k,aB .i64 f]) aD]) <|
  aF)))
 (aL aI 126 [aH [aG h,aG i,aE j,aB .i64 k],aB .i64 f] fun ah =>
  sO ah fun ai aj ak al au =>
  bH aI aX iu 78 [aK 0 0 0,aB .i64 g,ig 150 (aH [aG ai,aG aj,aE ak,aB .i64 al])] (tm a b c d) fun v =>
  aA (.head 2 (wQ (e.length:Int) 0 v.1 v.2.1 v.2.2.1 v.2.2.2 e)))
theorem Kt(a b c d e f g h i j k l m n): Rd aC 5 81 1 (pf a b c d e f g h i j k l m n) (ER a b c d e f g h i j k l m n):=rd
def Ku (e a f g:Int) (h:List (V × V)) (i b:List V): R :=
 cond (decide (a < e))
 (gd (decide (0<=a)) <|
  gd (decide (a.toNat < b.length)) <|
  bl b a.toNat fun j =>
  kI .i64 j fun k =>
  bH aI aX xK 127 [aK 0 0 0,aB .i64 k] (sm g h i) fun d =>
  aA (.head 2 (wQ e (W .i64 (a+1)) f d.2.1 d.2.2.1 d.2.2.2 b)))
 (bH aI aX Am 128 [aK 0 0 0] (tm f g h i) fun c =>
  aA (.doneM (aT []) (tm c.1 c.2.1 c.2.2.1 c.2.2.2++[aM 3 b 0])))
theorem Te(a b c d e f g): Rd aC 5 81 2 (wQ a b c d e f g) (Ku a b c d e f g):=rd
def NO (f:Int) (b c:List V) (d:List UInt8) (e g h:Int) (i:List (V × V)) (j:List V): R :=
 aL aI 121 [aH [aG b,aG c,aE d,aB .i64 e]] fun k =>
 kS k fun l =>
 bH aI aX xI 119 [aK 0 0 0,aB .i64 f,aE l] (sm h i j) fun a =>
 aA (.doneM (aT []) (tm g a.2.1 a.2.2.1 a.2.2.2++[aM 9 [] 0,aM 3 [] 0,aJ 150 (aH [aG b,aG c,aE d,aB .i64 e]) aD]))
theorem Ze(a b c d e f g h i): Ec 78 5 aX [aK 0 0 0,aB .i64 a,ig 150 (aH [aG b,aG c,aE d,aB .i64 e])] (tm f g h i) (NO a b c d e f g h i):=ec
def ze(a:List V)(b c:Int)(d e f g:List V)(h:List UInt8)(i:Int): S:=⟨[aK 0 0 0,aG a,bo,bo,aB .i64 b,aK 5 0 0]++(JU 153),(rm c d e++[aJ 152 (aH [aG f,aG g,aE h,aB .i64 i]) aD])⟩
def BQ(a:List V)(b c d:Int)(e f g h:List V)(i:List UInt8)(j:Int): S:=⟨[aK 0 0 0,aG a,bo,bo,aB .i64 b,aK 5 0 0,bo,bo,bo,aB .i64 c]++(JU 149),(rm d e f++[aJ 152 (aH [aG g,aG h,aE i,aB .i64 j]) aD])⟩
def m5(a:List V)(b c:Int)(d:List V)(e f:Int)(g h i j:List V)(k:List UInt8)(l:Int): S:=⟨[aK 0 0 0,aG a,bo,bo,aB .i64 b,aK 5 0 0,bo,bo,bo,aB .i64 c,aG d,aB .i64 e]++(JU 147),(rm f g h++[aJ 152 (aH [aG i,aG j,aE k,aB .i64 l]) aD])⟩
def wG(a:List V)(b c:Int)(d e:List V): S:=⟨[aK 0 0 0,aG a]++(JU 12)++[aB .i64 b]++(JU 144),(rm c d e)⟩
def BR(a:Bool)(b:Int)(c d e f:List V)(g:List UInt8)(h:Int): S:=⟨[aK 0 0 0]++(JU 14)++[aK 5 0 0,bc a]++(JU 142),(rm b c d++[aJ 152 (aH [aG e,aG f,aE g,aB .i64 h]) aD])⟩
def MU (a:List V) (c:Int) (d e:List V): R :=
 gd (decide (0<=W .i64 ((a.length:Int) - 2))) <|
 bl a ((W .i64 ((a.length:Int) - 2)).toNat) fun f =>
 kI .i64 f fun g =>
 dJ aI aX jY 95 [aK 0 0 0,aB .i64 g] (rm c d e) fun b =>
 cV (rm c d e) <|
 aA (.head 0 (ze a (W .i64 ((a.length:Int) - 2)) c d e b.1 b.2.1 b.2.2.1 b.2.2.2.1))
theorem WQ(a b c d): Ec 111 5 aX [aK 0 0 0,aG a] (rm b c d) (MU a b c d):=ec
def JO (f:List V) (a b:Int) (c d h g:List V) (i:List UInt8) (j:Int): R :=
 cond ((g.length:Int)==(1:Int))
 (gd (decide (0<=W .i64 (a - 1))) <|
  bl f ((W .i64 (a - 1)).toNat) fun k =>
  kI .i64 k fun l =>
  dJ aI aX jY 95 [aK 0 0 0,aB .i64 l] (rm b c d) fun e =>
  cV (rm b c d++[aJ 152 (aH [aG h,aG g,aE i,aB .i64 j]) aD]) <|
  aA (.head 0 (ze f (W .i64 (a - 1)) b c d e.1 e.2.1 e.2.2.1 e.2.2.2.1)))
 (aA (.head 1 (BQ f a 0 b c d h g i j)))
theorem Sv(a b c d e f g h i): Rd aC 5 111 0 (ze a b c d e f g h i) (JO a b c d e f g h i):=rd
def JP (g:List V) (a b c:Int) (d e h f:List V) (i:List UInt8) (j:Int): R :=
 gd (decide (0<=b)) <|
 bl f b.toNat fun k =>
 kI .i64 k fun l =>
 gd (decide (0<=W .i64 (a+1))) <|
 bl g ((W .i64 (a+1)).toNat) fun m =>
 kI .i64 m fun n =>
 cond (l != n)
 (aA (.head 1 (BQ g a (W .i64 (b+1)) c d e h f i j)))
 (dJ aI aX re 56 [aK 0 0 0] (rm c d e) fun o =>
  cV (rm c d e++[aJ 152 (aH [aG h,aG f,aE i,aB .i64 j]) aD]) <|
  aA (.head 2 (m5 g a b o (W .i64 (a+1)) c d e h f i j)))
theorem Sw(a b c d e f g h i j): Rd aC 5 111 1 (BQ a b c d e f g h i j) (JP a b c d e f g h i j):=rd
def AU (b:List V) (c d:Int) (f:List V) (a g:Int) (h i j k:List V) (l:List UInt8) (m:Int): R :=
 cond (decide (a < (b.length:Int)))
 (gd (decide (0<=a)) <|
  bl f a.toNat fun o =>
  kL o fun p =>
  gd (decide (0<=a)) <|
  bl b a.toNat fun q =>
  kI .i64 q fun r =>
  bH aI aX tG 151 [aK 0 0 0,aG p,aB .i64 r,bc (decide (d > 0))] (rm g h i) fun e =>
  aA (.head 2 (m5 b c d f (W .i64 (a+1)) e.1 e.2.1 e.2.2 j k l m)))
 (aL aI 152 [aH [aG j,aG k,aE l,aB .i64 m],aB .i64 d] fun s =>
  sP s fun t u v w ab =>
  gd (decide (0<=c)) <|
  bl b c.toNat fun x =>
  kI .i64 x fun y =>
  aL aI 148 [aH [aG t,aG u,aE v,aB .i64 w]] fun z =>
  kS z fun aa =>
  bH aI aX jF 61 [aK 0 0 0,aB .i64 y,aE aa] (rs h i) fun n =>
  aA (.head 3 (wG b (W .i64 (c+1)) g n.2.1 n.2.2)))
theorem Er(a b c d e f g h i j k l): Rd aC 5 111 2 (m5 a b c d e f g h i j k l) (AU a b c d e f g h i j k l):=rd
def JQ (f:List V) (c a:Int) (d e:List V): R :=
 cond (decide (c < (f.length:Int)))
 (gd (decide (0<=c)) <|
  bl f c.toNat fun h =>
  kI .i64 h fun i =>
  bH aI aX xN 153 [aK 0 0 0,aB .i64 i] (rs d e) fun g =>
  aA (.head 3 (wG f (W .i64 (c+1)) a g.2.1 g.2.2)))
 (dJ aI aX jY 95 [aK 0 0 0,aB .i64 a] (rm a d e) fun b =>
  cV (rm a d e) <|
  aA (.head 4 (BR b.2.2.2.2 a d e b.1 b.2.1 b.2.2.1 b.2.2.2.1)))
theorem Sx(a b c d e): Rd aC 5 111 3 (wG a b c d e) (JQ a b c d e):=rd
def Et (k:Bool) (e:Int) (f g h b:List V) (i:List UInt8) (j:Int): R :=
 cond k
 (cond ((b.length:Int)==(1:Int))
 (bH aI aX xN 153 [aK 0 0 0,aB .i64 e] (rs f g) fun a =>
  bl b 0 fun l =>
  kI .i64 l fun d =>
  dJ aI aX jY 95 [aK 0 0 0,aB .i64 d] (rm d a.2.1 a.2.2) fun c =>
  cV (rm d a.2.1 a.2.2++[aJ 152 (aH [aG h,aG b,aE i,aB .i64 j]) aD]) <|
  aA (.head 4 (BR c.2.2.2.2 d a.2.1 a.2.2 c.1 c.2.1 c.2.2.1 c.2.2.2.1)))
 (aA (.doneM (aT []) (rm e f g++[aJ 152 (aH [aG h,aG b,aE i,aB .i64 j]) aD]))))
 (aA (.doneM (aT []) (rm e f g++[aJ 152 (aH [aG h,aG b,aE i,aB .i64 j]) aD])))
theorem JR(a b c d e f g h): Rd aC 5 111 4 (BR a b c d e f g h) (Et a b c d e f g h):=rd
def NG (a b:Int) (c:List (V × V)) (d:List V): R :=
 dJ aI aX xX 87 [aK 0 0 0] (tm a b c d) fun e =>
 cV (tm a b c d++[aM 3 [] 0]) <|
 gd (decide (0<=W .i64 ((e.length:Int) - 1))) <|
 bl e ((W .i64 ((e.length:Int) - 1)).toNat) fun f =>
 kL f fun g =>
 aA (.doneM (aG g) (tm a b c d++[aM 3 [] 0]))
theorem YF(a b c d): Ec 46 5 aX [aK 0 0 0] (tm a b c d) (NG a b c d):=ec
def HB (m d a:Int) (b:List (V × V)) (c:List V): R :=
 dJ aI aX vC 58 [aK 0 0 0,aB .i64 m] (sm a b c) fun h =>
 cV (tm d a b c) <|
 cond (h.2 != (0:Int))
 (aA (.doneM (V.nilI) (tm d a b c)))
 (aL aI 129 [aE h.1] fun n =>
  qN n fun e f g o =>
  cond (o==(0:Int))
 (aA (.doneM (ig 120 (aH [aG e,aE f,aB .i64 g])) (tm d a b c++[aM 41 [] 0,aJ 120 (aH [aG e,aE f,aB .i64 g]) aD])))
 (aL aI 130 [aE h.1] fun p =>
  sO p fun i j k l q =>
  cond (q==(0:Int))
 (aA (.doneM (ig 150 (aH [aG i,aG j,aE k,aB .i64 l])) (tm d a b c++[aM 41 [] 0,aJ 120 (aH [aG e,aE f,aB .i64 g]) aD,aM 9 [] 0,aM 3 [] 0,aJ 150 (aH [aG i,aG j,aE k,aB .i64 l]) aD])))
 (aA (.doneM (V.nilI) (tm d a b c++[aM 41 [] 0,aJ 120 (aH [aG e,aE f,aB .i64 g]) aD,aM 9 [] 0,aM 3 [] 0,aJ 150 (aH [aG i,aG j,aE k,aB .i64 l]) aD])))))
theorem NQ(a b c d e): Ec 82 5 aX [aK 0 0 0,aB .i64 a] (tm b c d e) (HB a b c d e):=ec
def NH (a:Int) (b c:List V): R :=
 dJ aI aX re 56 [aK 0 0 0] (rm a b c) fun d =>
 cV (rm a b c++[aM 3 [] 0]) <|
 gd (decide (0<=W .i64 ((d.length:Int) - 1))) <|
 bl d ((W .i64 ((d.length:Int) - 1)).toNat) fun e =>
 kL e fun f =>
 aA (.doneM (aG f) (rm a b c++[aM 3 [] 0]))
theorem YK(a b c): Ec 55 5 aX [aK 0 0 0] (rm a b c) (NH a b c):=ec
def MX (d:Int) (e:List UInt8) (a:Int) (b:List (V × V)) (c:List V): R :=
 dJ aI aX vC 58 [aK 0 0 0,aB .i64 d] (sm a b c) fun f =>
 cV (sm a b c) <|
 cond (f.2 != (0:Int))
 (aA (.doneM (aB .i64 f.2) (sm a b c)))
 (cond (decide ((e.length:Int) > 252))
 (aA (.doneM (aB .i64 2) (sm a b c)))
 (cf (mO b (aB .i64 d) (aE e)) fun g =>
  aA (.doneM (aB .i64 0) (sm a g c))))
theorem W7(a b c d e): Ec 119 4 aX [aK 0 0 0,aB .i64 a,aE b] (sm c d e) (MX a b c d e):=ec
def NS (a:Int) (b:List V): R :=
 dJ aI aX xZ 90 [aK 0 0 0] (bm a b) fun c =>
 cV (bm a b) <|
 aA (.doneM (aB .i64 (W .i64 (a - (c.length:Int)))) (bm a b))
theorem Zm(a b): Ec 89 2 aX [aK 0 0 0] (bm a b) (NS a b):=ec
def NR (c:Int) (b:List (V × V)) (d:List V): R :=
 bH aI aX An 131 [aK 0 0 0,aB .i64 0] (bm c d) fun a =>
 cond (a.2.1==(0:Int))
 (cf (mO b (aB .i64 a.1) (aE [])) fun e =>
  aA (.doneM (aT [aB .i64 a.1,aB .i64 a.2.1]) (sm a.2.2.1 e a.2.2.2)))
 (aA (.doneM (aT [aB .i64 a.1,aB .i64 a.2.1]) (sm a.2.2.1 b a.2.2.2)))
theorem Zj(a b c): Ec 84 4 aX [aK 0 0 0] (sm a b c) (NR a b c):=ec
def zi(a:List V)(b c:Int)(d:List (V × V))(e:List V)(f:List UInt8)(g h:Int): S:=⟨(JU 5)++[aK 5 0 0,bo,aK 6 0 0,aK 7 0 0,aK 8 0 0]++(JU 11)++[V.rest [3,176] a]++(JU 91),(tm b c d e++[aJ 24 (aK 0 0 0) aD,aJ 9 (aE f) aD,aJ 3 (aB .i64 g) aD,aJ 3 (aB .i64 h) aD])⟩
def M3 (a:List V) (b:List UInt8) (c d e f:Int) (g:List (V × V)) (h:List V): R :=
 cf (Cf [V.ref (aG a) 0]) fun i =>
 aA (.head 0 (zi (i.map aT) e f g h b c d))
theorem Xa(a b c d e f g h): Ec 123 5 aX [aK 0 0 0,aG a,aE b,aB .i64 c,aB .i64 d] (tm e f g h) (M3 a b c d e f g h):=ec
def AX (af:List V) (m n:Int) (o:List (V × V)) (p:List V) (b:List UInt8) (q c:Int): R :=
 md af
 (bH aI aX vG 84 [aK 0 0 0] (sm n o p) fun d =>
  bH aI aX iu 78 [aK 0 0 0,aB .i64 d.1,ig 150 (aH [aG [aE b],aG [aB .i64 q,aB .i64 c],aE [],aB .i64 0])] (tm d.1 d.2.2.1 d.2.2.2.1 d.2.2.2.2) fun g =>
  aA (.doneM (aT []) (tm g.1 g.2.1 g.2.2.1 g.2.2.2++[aJ 24 (aK 0 0 0) aD,aJ 9 (aE b) aD,aJ 3 (aB .i64 q) aD,aJ 3 (aB .i64 c) aD]))) fun ag s =>
  kT ag fun e=>bU e fun ah e=>kI .i64 ah fun a2 =>
  bU e fun ai e=>nu ai fun f t u v w a3 =>
  eo e<|aL aI 167 [aH [aG t,aG u,aE v,aB .i64 w],aE b,aB .i64 c] fun aj =>
  sO aj fun ak al am an ao =>
  cond (ao==(0:Int))
 (bH aI aX iu 78 [aK 0 0 0,aB .i64 f,ig 150 (aH [aG ak,aG al,aE am,aB .i64 an])] (tm m n o p) fun h =>
  aA (.doneM (aT []) (tm h.1 h.2.1 h.2.2.1 h.2.2.2++[aJ 24 (aK 0 0 0) aD,aJ 9 (aE b) aD,aJ 3 (aB .i64 q) aD,aJ 3 (aB .i64 c) aD])))
 (bH aI aX vG 84 [aK 0 0 0] (sm n o p) fun a =>
  aL aI 168 [aH [aG t,aG u,aE v,aB .i64 w],aB .i64 a.1] fun ap =>
  Cw ap fun x y z aa ab ac ad ae r a4 =>
  cond (Op.bytesLess b r)
 (aL aI 167 [aH [aG x,aG y,aE z,aB .i64 aa],aE b,aB .i64 c] fun aq =>
  sO aq fun ar au av aw a5 =>
  bH aI aX iu 78 [aK 0 0 0,aB .i64 f,ig 150 (aH [aG ar,aG au,aE av,aB .i64 aw])] (tm m a.2.2.1 a.2.2.2.1 a.2.2.2.2) fun i =>
  bH aI aX iu 78 [aK 0 0 0,aB .i64 a.1,ig 150 (aH [aG ab,aG ac,aE ad,aB .i64 ae])] (tm i.1 i.2.1 i.2.2.1 i.2.2.2) fun j =>
  aA (.head 0 (zi s j.1 j.2.1 j.2.2.1 j.2.2.2 r f a.1)))
 (aL aI 167 [aH [aG ab,aG ac,aE ad,aB .i64 ae],aE b,aB .i64 c] fun ax =>
  sO ax fun ay az a0 a1 a6 =>
  bH aI aX iu 78 [aK 0 0 0,aB .i64 f,ig 150 (aH [aG x,aG y,aE z,aB .i64 aa])] (tm m a.2.2.1 a.2.2.2.1 a.2.2.2.2) fun k =>
  bH aI aX iu 78 [aK 0 0 0,aB .i64 a.1,ig 150 (aH [aG ay,aG az,aE a0,aB .i64 a1])] (tm k.1 k.2.1 k.2.2.1 k.2.2.2) fun l =>
  aA (.head 0 (zi s l.1 l.2.1 l.2.2.1 l.2.2.2 r f a.1))))
theorem SA(a b c d e f g h): Rd aC 5 123 0 (zi a b c d e f g h) (AX a b c d e f g h):=rd
def HC (i g:Int) (e f:List V): R :=
 dJ aI aX vH 94 [aK 0 0 0,aB .i64 i] (rs e f) fun h =>
 cV (rm g e f++[aM 9 [] 0,aM 3 [] 0,aJ 152 (aH [bC 5 0,bC 6 0,aE [],aB .i64 0]) aD]) <|
 aL aI 138 [aE h.1] fun j =>
 sP j fun a b c d k =>
 cond (h.2==(0:Int))
 (aA (.doneM (aT [aH [aG a,aG b,aE c,aB .i64 d],bc (k==(0:Int))]) (rm g e f++[aM 9 [] 0,aM 3 [] 0,aJ 152 (aH [aG a,aG b,aE c,aB .i64 d]) aD,aM 9 [] 0,aM 3 [] 0,aJ 152 (aH [aG a,aG b,aE c,aB .i64 d]) aD])))
 (aA (.doneM (aT [aH [aG a,aG b,aE c,aB .i64 d],bc aD]) (rm g e f++[aM 9 [] 0,aM 3 [] 0,aJ 152 (aH [aG a,aG b,aE c,aB .i64 d]) aD,aM 9 [] 0,aM 3 [] 0,aJ 152 (aH [aG a,aG b,aE c,aB .i64 d]) aD])))
theorem NV(a b c d): Ec 95 5 aX [aK 0 0 0,aB .i64 a] (rm b c d) (HC a b c d):=ec
def NU (b:Int) (a c:List V): R :=
 dJ aI aX vu 100 [aK 0 0 0,aB .i64 b] (rs a c) fun d =>
 cV (rs a c) <|
 cond (d != (0:Int))
 (aA (.doneM (aT [aE [],aB .i64 d]) (rs a c)))
 (gd (decide (0<=b)) <|
  gd (decide (b.toNat < a.length)) <|
  bl a (0+b.toNat) fun e =>
  kS e fun f =>
  aA (.doneM (aT [aE f,aB .i64 0]) (rs a c)))
theorem Zq(a b c): Ec 94 4 aX [aK 0 0 0,aB .i64 a] (rs b c) (NU a b c):=ec
def zC(a:Int)(b c:List V): S:=⟨[aK 0 0 0,bo,dG 2,dG 3,aB .i64 a]++(JU 22),(rb b++[aM 3 [] 0,aM 3 c 0])⟩
def Zo (a:List V): R :=
 aA (.head 0 (zC 0 a []))
theorem Zp(a): Ec 93 2 aX [aK 0 0 0] (rb a) (Zo a):=ec
def ET (a:Int) (b c:List V): R :=
 cond (decide (a < (b.length:Int)))
 (gd (decide (0<=a)) <|
  gd (decide (a.toNat < b.length)) <|
  bl b (0+a.toNat) fun d =>
  kB d fun e =>
  cond e
 (gd (decide (c.length+([aB .i64 a]:List V).length<=16777216)) <|
  aA (.head 0 (zC (W .i64 (a+1)) b (c++[aB .i64 a]))))
 (aA (.head 0 (zC (W .i64 (a+1)) b c))))
 (aA (.doneM (dG 3) (rb b++[aM 3 [] 0,aM 3 c 0])))
theorem Kx(a b c): Rd aC 2 93 0 (zC a b c) (ET a b c):=rd
def zj(a:List V)(b c d e:Int)(f:List (V × V))(g:List V): S:=⟨[aK 0 0 0,aG a,aB .i64 b,bo,bo,bo,dG 5,aB .i64 c]++(JU 72),(tm d e f g++[aM 3 [] 0])⟩
def wH(a b c d e f:Int)(g:List (V × V))(h i:List V): S:=⟨[aK 0 0 0,bo,aB .i64 a,bo,bo,bo,dG 5,bo,aB .i64 b,dG 6]++(JU 39)++[aB .i64 c,aB .i64 d]++(JU 29),(tm e f g h++[aM 3 [] 0,aM 3 i 0])⟩
def GK (a:List V) (b c d:Int) (e:List (V × V)) (f:List V): R :=
 aA (.head 0 (zj a b (W .i64 ((a.length:Int) - 1)) c d e f))
theorem M4(a b c d e f): Ec 124 5 aX [aK 0 0 0,aG a,aB .i64 b] (tm c d e f) (GK a b c d e f):=ec
def AY (b:List V) (g a c d:Int) (e:List (V × V)) (f:List V): R :=
 cond (decide (a ≥ 0))
 (gd (decide (0<=a)) <|
  bl b a.toNat fun l =>
  nu l fun v w x y z m =>
  cond (m==(0:Int))
 (aA (.head 0 (zj b g (W .i64 (a - 1)) c d e f)))
 (cond (decide (a < 0))
 (aA (.doneM (dG 6) (tm c d e f++[aM 3 [] 0,aM 3 [] 0])))
 (gd (decide (0<=a)) <|
  bl b a.toNat fun n =>
  nu n fun aa ab o ac ad ae =>
  gd (decide (0<=a)) <|
  bl b a.toNat fun p =>
  nu p fun af ag ah ai aj h =>
  gd (decide (0<=W .i64 (h - 1))) <|
  bl o ((W .i64 (h - 1)).toNat) fun q =>
  kI .i64 q fun i =>
  aA (.head 1 (wH g i (W .i64 ((W .i64 ((b.length:Int) - 1)) - a)) 0 c d e f [aB .i64 i])))))
 (cond (decide (a < 0))
 (aA (.doneM (dG 6) (tm c d e f++[aM 3 [] 0,aM 3 [] 0])))
 (gd (decide (0<=a)) <|
  bl b a.toNat fun r =>
  nu r fun ak al s am an ao =>
  gd (decide (0<=a)) <|
  bl b a.toNat fun t =>
  nu t fun ap aq ar au av j =>
  gd (decide (0<=W .i64 (j - 1))) <|
  bl s ((W .i64 (j - 1)).toNat) fun u =>
  kI .i64 u fun k =>
  aA (.head 1 (wH g k (W .i64 ((W .i64 ((b.length:Int) - 1)) - a)) 0 c d e f [aB .i64 k]))))
theorem Ey(a b c d e f g): Rd aC 5 124 0 (zj a b c d e f g) (AY a b c d e f g):=rd
def JX (f l j k a b:Int) (c:List (V × V)) (d g:List V): R :=
 cond (decide (k < j))
 (jW aI aX (jh (tm a b c d)) (ji (tm a b c d)) (l8 (tm a b c d)) 82 [aK 0 0 0,aB .i64 l] (tm a b c d)
 (fun n =>
  cV (tm a b c d++[aM 3 [] 0,aM 3 g 0]) <|
  aF)
 (fun h =>
  cV (tm a b c d++[aM 3 [] 0,aM 3 g 0]) <|
  gd (decide (0<=W .i64 ((h.2.1.length:Int) - 1))) <|
  bl h.2.1 ((W .i64 ((h.2.1.length:Int) - 1)).toNat) fun m =>
  kI .i64 m fun i =>
  gd (decide (g.length+([aB .i64 i]:List V).length<=16777216)) <|
  aA (.head 1 (wH f i j (W .i64 (k+1)) a b c d (g++[aB .i64 i]))))
 (fun o =>
  cV (tm a b c d++[aM 3 [] 0,aM 3 g 0]) <|
  aF))
 (bH aI aX Aq 169 [dG 0] [aM 3 g 0] fun e =>
  gd (cw 1 e) <|
  gd (decide (0<=(if (e.length:Int) < f then (e.length:Int) else f))) <|
  gd (decide ((if (e.length:Int) < f then (e.length:Int) else f).toNat<=e.length)) <|
  aA (.doneM (V.win 6 0 (((if (e.length:Int) < f then (e.length:Int) else f).toNat) - 0)) (tm a b c d++[aM 3 [] 0,aM 3 e 0])))
theorem SB(a b c d e f g h i): Rd aC 5 124 1 (wH a b c d e f g h i) (JX a b c d e f g h i):=rd
def M5 (b d:Int) (c:List (V × V)) (e:List V): R :=
 bH aI aX Ar 174 [aK 0 0 0,aB .i64 b] (bm d e) fun a =>
 cond (a.1==(0:Int))
 (cf (nK c (aB .i64 b)) fun f =>
  aA (.doneM (aB .i64 a.1) (sm a.2.1 f a.2.2)))
 (aA (.doneM (aB .i64 a.1) (sm a.2.1 c a.2.2)))
theorem Xd(a b c d): Ec 127 4 aX [aK 0 0 0,aB .i64 a] (sm b c d) (M5 a b c d):=ec
def BU(a b:Int)(c:List (V × V))(d:List V): S:=⟨[aK 0 0 0]++(JU 37),(tm a b c d)⟩
def Xe (a b:Int) (c:List (V × V)) (d:List V): R :=
 aA (.head 0 (BU a b c d))
theorem Xf(a b c d): Ec 128 5 aX [aK 0 0 0] (tm a b c d) (Xe a b c d):=ec
def Ez (a b:Int) (c:List (V × V)) (d:List V): R :=
 jW aI aX (jh (tm a b c d)) (ji (tm a b c d)) (l8 (tm a b c d)) 82 [aK 0 0 0,aB .i64 a] (tm a b c d)
 (fun i =>
  cV (tm a b c d) <|
  aA (.doneM (aT []) (tm a b c d)))
 (fun f =>
  cV (tm a b c d) <|
  cond (decide ((f.2.1.length:Int) > 1))
 (aA (.doneM (aT []) (tm a b c d)))
 (bH aI aX xK 127 [aK 0 0 0,aB .i64 a] (sm b c d) fun e =>
  bl f.2.1 0 fun g =>
  kI .i64 g fun h =>
  aA (.head 0 (BU h e.2.1 e.2.2.1 e.2.2.2))))
 (fun j =>
  cV (tm a b c d) <|
  aA (.doneM (aT []) (tm a b c d)))
theorem JY(a b c d): Rd aC 5 128 0 (BU a b c d) (Ez a b c d):=rd
def zy(a:Int)(b c d:List V): S:=⟨[aK 0 0 0,bo,dG 5,dG 6]++(JU 46),(rm a b c++[aM 80 [] 0,aM 80 d 0])⟩
def n5(a:List V)(b c:Int)(d e f g:List V): S:=⟨[aK 0 0 0,bo,dG 5,dG 6,dG 7,aG a,aB .i64 b]++(JU 43),(rm c d e++[aM 80 [] 0,aM 80 f 0,aM 3 g 0])⟩
def YL (a:Int) (b c:List V): R :=
 aA (.head 0 (zy a b c [aG [aB .i64 a]]))
theorem YM(a b c): Ec 56 5 aX [aK 0 0 0] (rm a b c) (YL a b c):=ec
def S9 (b:Int) (c d a:List V): R :=
 gd (decide (0<=W .i64 ((a.length:Int) - 1))) <|
 gd (decide ((W .i64 ((a.length:Int) - 1)).toNat < a.length)) <|
 bl a ((W .i64 ((a.length:Int) - 1)).toNat) fun e =>
 kL e fun f =>
 aA (.head 1 (n5 f 0 b c d a []))
theorem afC(a b c d): Rd aC 5 56 0 (zy a b c d) (S9 a b c d):=rd
def A4 (g:List V) (f b:Int) (c d e a:List V): R :=
 cond (decide (f < (g.length:Int)))
 (gd (decide (0<=f)) <|
  bl g f.toNat fun i =>
  kI .i64 i fun j =>
  dJ aI aX jY 95 [aK 0 0 0,aB .i64 j] (rm b c d) fun h =>
  cV (rm b c d++[aM 80 [] 0,aM 80 e 0,aM 3 a 0]) <|
  cond h.2.2.2.2
 (gd (cw 1 h.2.1) <|
  gd (decide (a.length+h.2.1.length<=16777216)) <|
  aA (.head 1 (n5 g (W .i64 (f+1)) b c d e (a++h.2.1))))
 (aA (.head 1 (n5 g (W .i64 (f+1)) b c d e a))))
 (cond ((a.length:Int)==(0:Int))
 (aA (.doneM (dG 5) (rm b c d++[aM 80 e 0])))
 (gd (decide (e.length+([aG a]:List V).length<=16777216)) <|
  aA (.head 0 (zy b c d (e++[aG a])))))
theorem EQ(a b c d e f g): Rd aC 5 56 1 (n5 a b c d e f g) (A4 a b c d e f g):=rd
def mq(a:List V)(b:Int)(c:Bool)(d e:Int)(f g:List V): S:=⟨[aK 0 0 0,aG a,aB .i64 b,bc c]++(JU 4)++[aB .i64 d]++(JU 91),(rm e f g)⟩
def Xv (a:List V) (b:Int) (c:Bool) (d:Int) (e f:List V): R :=
 aA (.head 0 (mq a b c 1 d e f))
theorem Nf(a b c d e f): Ec 151 5 aX [aK 0 0 0,aG a,aB .i64 b,bc c] (rm d e f) (Xv a b c d e f):=ec
def yz (e:List V) (i:Int) (j:Bool) (a b:Int) (c d:List V): R :=
 cond (decide (a < (e.length:Int)))
 (gd (decide (0<=a)) <|
  bl e a.toNat fun p =>
  kI .i64 p fun q =>
  cond (q != i)
 (aA (.head 0 (mq e i j (W .i64 (a+1)) b c d)))
 (gd (decide (0<=W .i64 (a - 1))) <|
  bl e ((W .i64 (a - 1)).toNat) fun r =>
  kI .i64 r fun s =>
  dJ aI aX oG 104 [aK 0 0 0,aB .i64 s] (rm b c d) fun f =>
  cV (rm b c d) <|
  dJ aI aX oG 104 [aK 0 0 0,aB .i64 i] (rm b c d) fun g =>
  cV (rm b c d++[aM 41 [] 0,aJ 108 (aH [aG f.1,aE f.2.1,aB .i64 f.2.2.1]) aD]) <|
  gd (decide (0<=W .i64 (a - 1))) <|
  bl e ((W .i64 (a - 1)).toNat) fun t =>
  kI .i64 t fun u =>
  dJ aI aX jY 95 [aK 0 0 0,aB .i64 u] (rm b c d) fun h =>
  cV (rm b c d++[aM 41 [] 0,aJ 108 (aH [aG f.1,aE f.2.1,aB .i64 f.2.2.1]) aD,aM 41 [] 0,aJ 108 (aH [aG g.1,aE g.2.1,aB .i64 g.2.2.1]) aD]) <|
  dJ aI aX jY 95 [aK 0 0 0,aB .i64 i] (rm b c d) fun k =>
  cV (rm b c d++[aM 41 [] 0,aJ 108 (aH [aG f.1,aE f.2.1,aB .i64 f.2.2.1]) aD,aM 41 [] 0,aJ 108 (aH [aG g.1,aE g.2.1,aB .i64 g.2.2.1]) aD,aM 9 [] 0,aM 3 [] 0,aJ 152 (aH [aG h.1,aG h.2.1,aE h.2.2.1,aB .i64 h.2.2.2.1]) aD]) <|
  cond f.2.2.2
 (cond j
 (gd (decide (0<=W .i64 (a - 1))) <|
  bl e ((W .i64 (a - 1)).toNat) fun v =>
  kI .i64 v fun w =>
  aL aI 62 [aH [aG f.1,aE g.2.1,aB .i64 g.2.2.1]] fun x =>
  kS x fun y =>
  bH aI aX jF 61 [aK 0 0 0,aB .i64 w,aE y] (rs c d) fun l =>
  aA (.head 0 (mq e i j (W .i64 (a+1)) b l.2.1 l.2.2)))
 (gd (decide (0<=W .i64 (a - 1))) <|
  bl e ((W .i64 (a - 1)).toNat) fun z =>
  kI .i64 z fun aa =>
  aL aI 62 [aH [aG f.1,aE f.2.1,aB .i64 g.2.2.1]] fun ab =>
  kS ab fun ac =>
  bH aI aX jF 61 [aK 0 0 0,aB .i64 aa,aE ac] (rs c d) fun m =>
  aA (.head 0 (mq e i j (W .i64 (a+1)) b m.2.1 m.2.2))))
 (cond j
 (gd (decide (0<=W .i64 (a - 1))) <|
  bl e ((W .i64 (a - 1)).toNat) fun ad =>
  kI .i64 ad fun ae =>
  aL aI 148 [aH [aG h.1,aG h.2.1,aE k.2.2.1,aB .i64 k.2.2.2.1]] fun af =>
  kS af fun ag =>
  bH aI aX jF 61 [aK 0 0 0,aB .i64 ae,aE ag] (rs c d) fun n =>
  aA (.head 0 (mq e i j (W .i64 (a+1)) b n.2.1 n.2.2)))
 (gd (decide (0<=W .i64 (a - 1))) <|
  bl e ((W .i64 (a - 1)).toNat) fun ah =>
  kI .i64 ah fun ai =>
  aL aI 148 [aH [aG h.1,aG h.2.1,aE h.2.2.1,aB .i64 k.2.2.2.1]] fun aj =>
  kS aj fun ak =>
  bH aI aX jF 61 [aK 0 0 0,aB .i64 ai,aE ak] (rs c d) fun o =>
  aA (.head 0 (mq e i j (W .i64 (a+1)) b o.2.1 o.2.2))))))
 (aA (.doneM (aT []) (rm b c d)))
theorem J4(a b c d e f g): Rd aC 5 151 0 (mq a b c d e f g) (yz a b c d e f g):=rd
def Ng (b:Int) (c d:List V): R :=
 bH aI aX Av 202 [aK 0 0 0,aB .i64 b] (rb d) fun a =>
 aA (.doneM (aB .i64 a.1) (rs c a.2))
theorem Xy(a b c): Ec 153 4 aX [aK 0 0 0,aB .i64 a] (rs b c) (Ng a b c):=ec
def zA(a b:Int)(c:List (V × V))(d e:List V): S:=⟨[aK 0 0 0,bo,dG 5,dG 6]++(JU 43),(tm a b c d++[aM 80 [] 0,aM 80 e 0])⟩
def m9(a:List V)(b c d e:Int)(f:List (V × V))(g h i:List V): S:=⟨[aK 0 0 0,bo,dG 5,dG 6,dG 7]++(JU 15)++[aG a,aB .i64 b,aB .i64 c]++(JU 24),(tm d e f g++[aM 80 [] 0,aM 80 h 0,aM 3 i 0])⟩
def Zk (a b:Int) (c:List (V × V)) (d:List V): R :=
 aA (.head 0 (zA a b c d [aG [aB .i64 a]]))
theorem Zl(a b c d): Ec 87 5 aX [aK 0 0 0] (tm a b c d) (Zk a b c d):=ec
def Tf (c d:Int) (e:List (V × V)) (f a:List V): R :=
 gd (decide (0<=W .i64 ((a.length:Int) - 1))) <|
 gd (decide ((W .i64 ((a.length:Int) - 1)).toNat < a.length)) <|
 bl a ((W .i64 ((a.length:Int) - 1)).toNat) fun g =>
 kL g fun b =>
 aA (.head 1 (m9 b (b.length:Int) 0 c d e f a []))
theorem afE(a b c d e): Rd aC 5 87 0 (zA a b c d e) (Tf a b c d e):=rd
def A5 (h:List V) (i g a b:Int) (c:List (V × V)) (d f e:List V): R :=
 cond (decide (g < i))
 (gd (decide (0<=g)) <|
  bl h g.toNat fun k =>
  kI .i64 k fun l =>
  jW aI aX (jh (tm a b c d)) (ji (tm a b c d)) (l8 (tm a b c d)) 82 [aK 0 0 0,aB .i64 l] (tm a b c d)
 (fun m =>
  cV (tm a b c d++[aM 80 [] 0,aM 80 f 0,aM 3 e 0]) <|
  aA (.head 1 (m9 h i (W .i64 (g+1)) a b c d f e)))
 (fun j =>
  cV (tm a b c d++[aM 80 [] 0,aM 80 f 0,aM 3 e 0]) <|
  gd (cw 1 j.2.1) <|
  gd (decide (e.length+j.2.1.length<=16777216)) <|
  aA (.head 1 (m9 h i (W .i64 (g+1)) a b c d f (e++j.2.1))))
 (fun n =>
  cV (tm a b c d++[aM 80 [] 0,aM 80 f 0,aM 3 e 0]) <|
  aA (.head 1 (m9 h i (W .i64 (g+1)) a b c d f e))))
 (cond ((e.length:Int)==(0:Int))
 (aA (.doneM (dG 5) (tm a b c d++[aM 80 f 0])))
 (gd (decide (f.length+([aG e]:List V).length<=16777216)) <|
  aA (.head 0 (zA a b c d (f++[aG e])))))
theorem ES(a b c d e f g h i): Rd aC 5 87 1 (m9 a b c d e f g h i) (A5 a b c d e f g h i):=rd
def NI (d a:Int) (b:List (V × V)) (c:List V): R :=
 cond (decide (d < 0))
 (aA (.doneM (aT [aE [],aB .i64 1]) (sm a b c)))
 (cond (decide (d ≥ a))
 (aA (.doneM (aT [aE [],aB .i64 1]) (sm a b c)))
 (tE b (aB .i64 d)
 (aA (.doneM (aT [aE [],aB .i64 7]) (sm a b c))) fun e =>
  kS e fun f =>
  aA (.doneM (aT [aE f,aB .i64 0]) (sm a b c))))
theorem YN(a b c d): Ec 58 4 aX [aK 0 0 0,aB .i64 a] (sm b c d) (NI a b c d):=ec
def zB(a:List V)(b:Int)(c d:List V): S:=⟨[bo,aK 2 0 0,dG 3,aK 4 0 0,bo,bo,V.rest [3] a]++(JU 9),(bm b c++[aJ 135 (aK 0 0 0) aD,aM 3 [] 0,aJ 80 (bC 5 0) aD,aM 3 d 0])⟩
def NT (a:Int) (b:List V): R :=
 cf (AO [V.ref (V.ref (aH [V.unk,aB .i64 a]) 0) 0,V.ref (aB .i64 0) 0]) fun c =>
 aA (.head 0 (zB (c.map aT) a b []))
theorem Zn(a b): Ec 90 2 aX [aK 0 0 0] (bm a b) (NT a b):=ec
def Kv (g:List V) (a:Int) (b c:List V): R :=
 md g
 (aA (.doneM (bC 5 0) (bm a b++[aJ 135 (aK 0 0 0) aD,aM 3 [] 0,aJ 80 (bC 5 0) aD,aM 3 c 0]))) fun h f =>
  kT h fun d=>bU d fun i d=>kI .i64 i fun e =>
  eo d<|dJ aI aX qY 137 [aK 0 0 0,aB .i64 e] (bm a b) fun j =>
  cV (bm a b++[aJ 135 (aK 0 0 0) aD,aM 3 [] 0,aJ 80 (bC 5 0) aD,aM 3 c 0]) <|
  cond j
 (gd (decide (c.length+([aB .i64 e]:List V).length<=16777216)) <|
  aA (.head 0 (zB f a b (c++[aB .i64 e]))))
 (aA (.head 0 (zB f a b c)))
theorem Kw(a b c d): Rd aC 2 90 0 (zB a b c d) (Kv a b c d):=rd
def BV(a:List V)(b:Int)(c:List V): S:=⟨[bo,bo,aK 2 0 0,bo,aK 3 0 0,aK 4 0 0]++(JU 7)++[V.rest [3] a]++(JU 9),(bm b c++[aJ 135 (aK 0 0 0) aD,aJ 3 (aB .i64 0) aD,aJ 27 (aB .i64 0) aD])⟩
def M7 (b a:Int) (c:List V): R :=
 cond (decide (b ≥ 0))
 (cond (!(decide (b < a)))
 (aA (.doneM (aT [aB .i64 0,aB .i64 1]) (bm a c++[aJ 135 (aK 0 0 0) aD,aJ 3 (aB .i64 0) aD,aJ 27 (aB .i64 1) aD])))
 (cf (AO [V.ref (V.ref (aH [V.unk,aB .i64 a]) 0) 0,V.ref (aB .i64 b) 0]) fun d =>
  aA (.head 0 (BV (d.map aT) a c))))
 (aA (.doneM (aT [aB .i64 0,aB .i64 1]) (bm a c++[aJ 135 (aK 0 0 0) aD,aJ 3 (aB .i64 0) aD,aJ 27 (aB .i64 1) aD])))
theorem Xh(a b c): Ec 131 2 aX [aK 0 0 0,aB .i64 a] (bm b c) (M7 a b c):=ec
def JZ (f:List V) (a:Int) (b:List V): R :=
 md f
 (aA (.doneM (aT [aB .i64 0,aB .i64 6]) (bm a b++[aJ 135 (aK 0 0 0) aD,aJ 3 (aB .i64 0) aD,aJ 27 (aB .i64 6) aD]))) fun g h =>
  kT g fun e=>bU e fun i e=>kI .i64 i fun c =>
  eo e<|dJ aI aX qY 137 [aK 0 0 0,aB .i64 c] (bm a b) fun j =>
  cV (bm a b++[aJ 135 (aK 0 0 0) aD,aJ 3 (aB .i64 0) aD,aJ 27 (aB .i64 0) aD]) <|
  cond (!j)
 (bH aI aX As 180 [aK 0 0 0,aB .i64 c] (bm a b) fun d =>
  aA (.doneM (aT [aB .i64 c,aB .i64 d.1]) (bm d.2.1 d.2.2++[aJ 135 (aK 0 0 0) aD,aJ 3 (aB .i64 c) aD,aJ 27 (aB .i64 d.1) aD])))
 (aA (.head 0 (BV h a b)))
theorem SC(a b c): Rd aC 2 131 0 (BV a b c) (JZ a b c):=rd
def zr(a b:Int)(c:List V): S:=⟨[dG 0,bo,aB .i64 a,aB .i64 b]++(JU 24),[aM 3 c 0]⟩
def Nm (a:List V): R :=
 aA (.head 0 (zr 0 (W .i64 ((a.length:Int) - 1)) a))
theorem XP(a): Ec 169 1 aX [dG 0] [aM 3 a 0] (Nm a):=ec
def Ka (a c:Int) (b:List V): R :=
 cond (decide (a < c))
 (gd (decide (0<=c)) <|
  gd (decide (c.toNat < b.length)) <|
  bl b c.toNat fun e =>
  kI .i64 e fun d =>
  gd (decide (0<=a)) <|
  gd (decide (a.toNat < b.length)) <|
  bl b a.toNat fun f =>
  kI .i64 f fun g =>
  gd (decide (0<=a)) <|
  gd (decide (a.toNat < b.length)) <|
  bl b a.toNat fun h =>
  kI .i64 h fun j =>
  gd (decide (0<=c)) <|
  gd (decide (c.toNat < ((b).set a.toNat (aB .i64 d)).length)) <|
  bl ((b).set a.toNat (aB .i64 d)) c.toNat fun i =>
  kI .i64 i fun k =>
  aA (.head 0 (zr (W .i64 (a+1)) (W .i64 (c - 1)) (((b).set a.toNat (aB .i64 d)).set c.toNat (aB .i64 g)))))
 (aA (.doneM (aT []) [aM 3 b 0]))
theorem SK(a b c): Rd aC 1 169 0 (zr a b c) (Ka a b c):=rd
def Nn (a c:Int) (b:List V): R :=
 cond (decide (a ≥ 0))
 (cond (!(decide (a < c)))
 (aA (.doneM (aB .i64 1) (bm c b)))
 (dJ aI aX qY 137 [aK 0 0 0,aB .i64 a] (bm c b) fun d =>
  cV (bm c b) <|
  cond (!d)
 (aA (.doneM (aB .i64 7) (bm c b)))
 (gd (decide (0<=W .i64 ((a.tdiv 8)))) <|
  gd (decide ((W .i64 ((a.tdiv 8))).toNat < b.length)) <|
  bl b (0+((W .i64 ((a.tdiv 8))).toNat)) fun e =>
  kI .u8 e fun f =>
  aL aI 193 [aB .i64 a] fun g =>
  kI .u8 g fun h =>
  gd (decide (0<=W .i64 ((a.tdiv 8)))) <|
  gd (decide ((W .i64 ((a.tdiv 8))).toNat < b.length)) <|
  bl b (0+((W .i64 ((a.tdiv 8))).toNat)) fun i =>
  kI .u8 i fun j =>
  aA (.doneM (aB .i64 0) (bm c (((b).set (0+((W .i64 ((a.tdiv 8))).toNat)) (aB .u8 (W .u8 (((BitVec.ofInt (IntKind.bits .u8) f &&& ~~~(BitVec.ofInt (IntKind.bits .u8) h)).toNat:Int)))))))))))
 (aA (.doneM (aB .i64 1) (bm c b)))
theorem XQ(a b c): Ec 174 2 aX [aK 0 0 0,aB .i64 a] (bm b c) (Nn a b c):=ec
def Nt (a:Int) (b:List V): R :=
 cond (decide (a ≥ 0))
 (cond (!(decide (a < (b.length:Int))))
 (aA (.doneM (aB .i64 1) (rb b)))
 (gd (decide (0<=a)) <|
  gd (decide (a.toNat < b.length)) <|
  bl b (0+a.toNat) fun c =>
  kB c fun d =>
  cond (!d)
 (aA (.doneM (aB .i64 7) (rb b)))
 (gd (decide (0<=a)) <|
  gd (decide (a.toNat < b.length)) <|
  bl b (0+a.toNat) fun e =>
  kB e fun f =>
  aA (.doneM (aB .i64 0) (rb (((b).set (0+a.toNat) (bc aD))))))))
 (aA (.doneM (aB .i64 1) (rb b)))
theorem X9(a b): Ec 202 2 aX [aK 0 0 0,aB .i64 a] (rb b) (Nt a b):=ec
def M8 (a c:Int) (b:List V): R :=
 cond (decide (a ≥ 0))
 (cond (decide (a < c))
 (gd (decide (0<=W .i64 ((a.tdiv 8)))) <|
  gd (decide ((W .i64 ((a.tdiv 8))).toNat < b.length)) <|
  bl b (0+((W .i64 ((a.tdiv 8))).toNat)) fun d =>
  kI .u8 d fun e =>
  aL aI 193 [aB .i64 a] fun f =>
  kI .u8 f fun g =>
  aA (.doneM (bc ((W .u8 (((BitVec.ofInt (IntKind.bits .u8) e &&& BitVec.ofInt (IntKind.bits .u8) g).toNat:Int))) != (0:Int))) (bm c b)))
 (aA (.doneM (bc aD) (bm c b))))
 (aA (.doneM (bc aD) (bm c b)))
theorem Xi(a b c): Ec 137 2 aX [aK 0 0 0,aB .i64 a] (bm b c) (M8 a b c):=ec
def Np (a c:Int) (b:List V): R :=
 cond (decide (a ≥ 0))
 (cond (!(decide (a < c)))
 (aA (.doneM (aB .i64 1) (bm c b)))
 (dJ aI aX qY 137 [aK 0 0 0,aB .i64 a] (bm c b) fun d =>
  cV (bm c b) <|
  cond d
 (aA (.doneM (aB .i64 8) (bm c b)))
 (gd (decide (0<=W .i64 ((a.tdiv 8)))) <|
  gd (decide ((W .i64 ((a.tdiv 8))).toNat < b.length)) <|
  bl b (0+((W .i64 ((a.tdiv 8))).toNat)) fun e =>
  kI .u8 e fun f =>
  aL aI 193 [aB .i64 a] fun g =>
  kI .u8 g fun h =>
  gd (decide (0<=W .i64 ((a.tdiv 8)))) <|
  gd (decide ((W .i64 ((a.tdiv 8))).toNat < b.length)) <|
  bl b (0+((W .i64 ((a.tdiv 8))).toNat)) fun i =>
  kI .u8 i fun j =>
  aA (.doneM (aB .i64 0) (bm c (((b).set (0+((W .i64 ((a.tdiv 8))).toNat)) (aB .u8 (W .u8 (((BitVec.ofInt (IntKind.bits .u8) f |||BitVec.ofInt (IntKind.bits .u8) h).toNat:Int)))))))))))
 (aA (.doneM (aB .i64 1) (bm c b)))
theorem XT(a b c): Ec 180 2 aX [aK 0 0 0,aB .i64 a] (bm b c) (Np a b c):=ec
set_option linter.unusedSimpArgs false
abbrev dk(s:Bs):Prop:=s.length < 4294967296
def AC(s:Bs)(n:Int):Int:=if 0<=n/\n<=(s.length:Int) then 0 else 1
def ky(s:Bs)(n size:Int):Int:=if size < 1∨8 < size∨¬(0<=n/\n<=(s.length:Int)) then 1 else if (s.length:Int) - n < size then 3 else 0
theorem Jz{s:Bs}{n size:Int}(h:ky s n size=0):1<=size/\size<=8/\0<=n/\n+size<=(s.length:Int):=by
 unfold ky at h;split at h
 ·cases h
 ·split at h
  ·cases h
  ·omega
theorem yr{s:Bs}{n size:Int}(h1:1<=size)(h2:size<=8)(h3:0<=n)(h4:n+size<=(s.length:Int)):ky s n size=0:=by
 unfold ky;rw[aY (by omega),aY (by omega)]
theorem I1(s:Bs)(n:Int):bJ aI 113 [.str s,.int .i64 n]=aA (.int .i64 (AC s n)):=by
 refine WS _ _ ?_;unfold GD AC
 by_cases h1:n < 0
 ·rw[aW h1,aY (by omega)];rfl
 ·rw[bp h1]
  by_cases h2:n > (s.length:Int)
  ·rw[aW h2,aY (by omega)];rfl
  ·rw[bp h2,aU (by omega)];rfl
theorem AN(s:Bs)(n size:Int)(hs:dk s):bJ aI 208 [.str s,.int .i64 n,.int .i64 size]=aA (.int .i64 (ky s n size)):=by
 refine Yi _ _ _ ?_;unfold Hf ky;rw[aN (I1 s n),bF]
 by_cases h1:size < 1
 ·rw[aW h1,aU (.inl h1)];rfl
 rw[bp h1,aP]
 by_cases h2:size > 8
 ·rw[aW h2,aU (.inr (.inl h2))];rfl
 rw[bp h2,aP];unfold AC
 by_cases h3:0<=n/\n<=(s.length:Int)
 ·rw[aU h3,aY (by omega),bf (by omega)]
  by_cases h4:(s.length:Int) - n < size
  ·rw[aW h4,aU h4];rfl
  ·rw[bp h4,aY h4];rfl
 ·rw[aY h3,aU (.inr (.inr h3))];rfl
def fe(s:Bs)(n size:Int):Int × Int:=if ky s n size=0 then (((dU ((s.drop n.toNat).take size.toNat):Nat):Int),0) else (0,ky s n size)
theorem aaB(s:Bs)(n k:Nat)(hk:k<=8)(hl:n+k<=s.length)(hs:dk s):∀d i,i+d=k ->
  Go qk aD 0 (fF 214) (.head 0 (wN s (n:Int) ((dU ((s.drop n).take i):Nat):Int) (k:Int) (i:Int))) (.done (.tup [.int .u64 ((dU ((s.drop n).take k):Nat):Int),.int .i64 0])):=by
 intro d
 induction d with
 |zero =>
  intro i hi;have:i=k:=by omega
  subst this;refine SZ _ _ _ _ _ ?_ (.refl _);unfold Ki;rw[bp (by omega)];rfl
 |succ d ih =>
  intro i hi;have hsl:=hs;have bd:n+i < s.length:=by omega
  obtain⟨c,hc⟩:∃c,s[n+i]? = aA c:=⟨_,cj bd⟩
  have hlen:((s.drop n).take i).length=i:=by simp;omega
  have e1:(s.drop n).take (i+1)=(s.drop n).take i++[c]:=by
   rw[FO,js,hc];rfl
  have hx:dU ((s.drop n).take i) < 256 ^ i:=by have:=Bi ((s.drop n).take i);rwa [hlen]at this
  refine SZ _ _ _ _ _ (o:=.head 0 (wN s (n:Int) ((dU ((s.drop n).take (i+1)):Nat):Int) (k:Int) ((i+1:Nat):Int))) ?_ (ih (i+1) (by omega));unfold Ki;have w1:W .i64 ((n:Int)+(i:Int))=((n+i:Nat):Int):=by rw[bf (by omega)];omega
  have w2:W .i64 (8 * (i:Int))=8 * (i:Int):=bf (by omega);have w3:W .i64 ((i:Int)+1)=((i+1:Nat):Int):=by rw[bf (by omega)];omega
  rw[aW (by omega),aZ,w1,aQ (by simp;omega),bi,cG hc,adl hx c.toNat_lt (by omega),w2,aQ (by simp;omega),w3,e1,Uc,hlen]
theorem aaC(s:Bs)(n size:Int)(hs:dk s):bJ aI 214 [.str s,.int .i64 n,.int .i64 size]=aA (.tup [.int .u64 (fe s n size).1,.int .i64 (fe s n size).2]):=by
 by_cases h:ky s n size=0
 ·obtain⟨h1,h2,h3,h4⟩:=Jz h;obtain⟨k,rfl⟩:∃k:Nat,size=(k:Int):=⟨size.toNat,by omega⟩
  obtain⟨m,rfl⟩:∃m:Nat,n=(m:Int):=⟨n.toNat,by omega⟩
  have hl:=aaB s m k (by omega) (by omega) hs k 0 (by omega);refine Nv _ _ _ ?_ (o:=.head 0 (wN s (m:Int) 0 (k:Int) 0)) ?_
  ·unfold Hh;rw[aN (AN s _ _ hs),bF,h];rfl
  ·unfold fe;rw[aU h];simpa[dU]using hl
 ·refine Nv _ _ _ ?_ (.refl _);unfold Hh fe;rw[aN (AN s _ _ hs),bF,aY h,fP h];rfl
def vQ(s:Bs)(n size:Int)(x:Nat):Bs × Int:=if ky s n size=0 then (if x < 256 ^ size.toNat then (rk s n.toNat (cN size.toNat x),0) else ([],2)) else ([],ky s n size)
theorem adq{av:List V}{v:V}(h:ye av=aA v):bJ aI 209 av=aA v:=DZ (g:=ye) rfl h
theorem QR(s:Bs)(n:Nat)(t:Bs)(h:n+t.length<=s.length)(l:List V)(ns:List Int)(hl:iv l=aA ns)(ht:(ns.map fun x=>UInt8.ofNat x.toNat)=t) :
  bJ aI 209 [.str s,.int .i64 (n:Int),.sl l]=aA (.str (rk s n t)):=by
 apply adq;have e:l.length=t.length:=by rw[<-ht,d9,(IK hl).1]
 simp only[ye,bi];rw[aU ⟨Lg _,by omega⟩,hl,du,ht]
def lH(x k i:Nat):List V:=(cN i x).map (fun b=>aB .u8 (b.toNat:Int))++dh (k - i) (aB .u8 0)
theorem adL{x k i:Nat}(h:i<=k):(lH x k i).length=k:=by simp[lH,eP];omega
theorem adM{x k i:Nat}(h:i < k):(lH x k i).set i (aB .u8 ((x / 256 ^ i % 256:Nat):Int))=lH x k (i+1):=by
 unfold lH;rw[List.set_append_right _ _ (by simp[eP])];simp only[d9,eP,qC];rw[show k - i=(k - (i+1))+1 by omega,List.replicate_succ,List.set_cons_zero,PK,gA,cO];congr 1;simp only[d8,fX,ew,eA,List.cons.injEq,V.int.injEq,true_and,and_true];simp
theorem adQ(s:Bs)(n k x:Nat)(hk:k<=8)(h1:1<=k)(hl:n+k<=s.length)(hs:dk s):∀d i,i+d=k ->
  Go qk aD 0 (fF 161) (.head 0 (uG s (n:Int) (x:Int) (k:Int) (i:Int) (lH x k i))) (.done (.tup [.str (rk s n (cN k x)),.int .i64 0])):=by
 intro d
 induction d with
 |zero =>
  intro i hi;have:i=k:=by omega
  subst this;refine SI _ _ _ _ _ _ ?_ (.refl _);unfold J8;have hrow:lH x i i=fA (cN i x):=by simp[lH,fA]
  rw[bp (by omega),aP,aN (QR s n (cN i x) (by rw[eP];exact hl) _ _ (by rw[hrow];exact DN _) (DO _)),cR]
 |succ d ih =>
  intro i hi;have hsl:=hs;refine SI _ _ _ _ _ _ (o:=.head 0 (uG s (n:Int) (x:Int) (k:Int) ((i+1:Nat):Int) (lH x k (i+1)))) ?_ (ih (i+1) (by omega));unfold J8;have w2:W .i64 (8 * (i:Int))=8 * (i:Int):=bf (by omega);have w3:W .i64 ((i:Int)+1)=((i+1:Nat):Int):=by rw[bf (by omega)];omega
  have hget:(lH x k i)[i]? = aA (aB .u8 0):=by
   unfold lH;rw[eO (by simp[eP])];simp only[d9,eP,qC];rw[List.getElem?_replicate,aU (by omega)]
  rw[KD (by omega),mr];rw[aW (by omega),aZ,w2,aQ (by simp;omega),aQ (by simp),bi,aQ (by rw[adL (by omega)];simp;omega),cG hget,bF,adM (by omega),w3]
theorem adR(s:Bs)(n size:Int)(x:Nat)(hx:x < 18446744073709551616)(hs:dk s):bJ aI 161 [.str s,.int .i64 n,.int .i64 size,.int .u64 (x:Int)]=aA (.tup [.str (vQ s n size x).1,.int .i64 (vQ s n size x).2]):=by
 by_cases h:ky s n size=0
 ·obtain⟨h1,h2,h3,h4⟩:=Jz h;obtain⟨k,rfl⟩:∃k:Nat,size=(k:Int):=⟨size.toNat,by omega⟩
  obtain⟨m,rfl⟩:∃m:Nat,n=(m:Int):=⟨n.toNat,by omega⟩
  have w2:W .i64 (8 * (k:Int))=8 * (k:Int):=bf (by omega)
  have hfits:x < 256 ^ k↔x / 256 ^ k=0:=by rw [Nat.div_eq_zero_iff];constructor
                                           ·exact .inr
                                           ·rintro(h|h)
                                            ·exact gU h (by have:=Nat.pow_pos (n:=k) (show 0 < 256 by decide);omega)
                                            ·exact h
  unfold vQ;rw[aU h,bi,bi]
  by_cases hb:x < 256 ^ k
  ·rw[aU hb];have hl:=adQ s m k x (by omega) (by omega) (by omega) hs k 0 (by omega);have hrow:lH x k 0=dh k (aB .u8 0):=by simp[lH,cN]
   rw[hrow]at hl;refine GZ _ _ _ _ ?_ (o:=.head 0 (uG s (m:Int) (x:Int) (k:Int) 0 (dh k (aB .u8 0)))) (by simpa using hl);unfold CL;rw[aN (AN s _ _ hs),bF,h];rw[KD (by omega),hfits.1 hb,w2,bi]
   by_cases h8:(k:Int) < 8
   ·simp[h8,show ¬(8 * (k:Int) < 0) by omega];omega
   ·simp[h8];omega
  ·rw[aY hb]
   have h8:(k:Int) < 8:=by
    have:¬k=8:=by
     rintro rfl;exact hb hx
    omega
   refine GZ _ _ _ _ ?_ (.refl _);unfold CL;rw[aN (AN s _ _ hs),bF,h];rw[KD (by omega),w2];have:0 < x / 256 ^ k:=Nat.pos_of_ne_zero fun e=>hb (hfits.2 e)
   have hp:(((x / 256 ^ k:Nat):Int) > 0):=by omega
   rw[aW h8,aW hp,bp (show ¬(8 * (k:Int) < 0) by omega)];rfl
 ·refine GZ _ _ _ _ ?_ (.refl _);unfold CL vQ;rw[aN (AN s _ _ hs),bF,aY h,fP h];rfl
def dW(s:Bs)(n:Int):Bs × Int × Int :=
 if 0<=n/\n<=(s.length:Int) then
  match s.drop n.toNat with
  | []=>([],0,3)
  |c::r=>if r.length < c.toNat then ([],0,3) else (r.take c.toNat,n+1+c.toNat,0)
 else ([],0,1)
theorem Fg(s:Bs)(n:Int)(hs:dk s):bJ aI 71 [.str s,.int .i64 n]=aA (.tup [.str (dW s n).1,.int .i64 (dW s n).2.1,.int .i64 (dW s n).2.2]):=by
 refine YZ _ _ ?_;have hsl:=hs;unfold Ht dW;rw[aN (I1 s n),bF];unfold AC
 by_cases h:0<=n/\n<=(s.length:Int)
 ·rw[aU h,aU h];obtain⟨m,rfl⟩:∃m:Nat,n=(m:Int):=⟨n.toNat,by omega⟩
  rw[bi];cases hd:s.drop m with
  |nil =>
   have:s.length<=m:=Lj.1 hd;rw[db (show(m:Int)=(s.length:Int) by omega)];rfl
  |cons c r =>
   obtain⟨h1,h2,h3⟩:=ej hd
   have hrl:r.length+m+1=s.length:=by
    have:=ef oZ hd;simp at this;omega
   have hcl:=c.toNat_lt;have w1:W .i64 (c.toNat:Int)=(c.toNat:Int):=bf (by omega)
   have w2:W .i64 (W .i64 ((s.length:Int) - (m:Int)) - 1)=(r.length:Int):=by
    rw[bf (n:=(s.length:Int) - (m:Int)) (by omega),bf (by omega)];omega
   have w3:W .i64 ((m:Int)+1)=((m+1:Nat):Int):=by rw[bf (by omega)];omega
   have w4:W .i64 (((m+1:Nat):Int)+(c.toNat:Int))=((m+1+c.toNat:Nat):Int):=by rw[bf (by omega)];omega
   rw[dH (show(m:Int)≠(s.length:Int) by omega)];simp only[cG h1,w1,w2,w3,w4,bi]
   by_cases hb:r.length < c.toNat
   ·rw[aU hb,aW (show(r.length:Int) < (c.toNat:Int) by omega)];simp
   ·rw[aY hb,bp (show ¬(r.length:Int) < (c.toNat:Int) by omega)]
    have e1:(s.take (m+1+c.toNat)).drop (m+1)=r.take c.toNat:=by
     rw[List.drop_take,show m+1+c.toNat - (m+1)=c.toNat by omega];congr 1
    rw[e1];simp;omega
 ·rw[aY h,aY h];rfl
end Go.Proofs.YtlphgcjepphhcaaGreat
