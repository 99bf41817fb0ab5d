/-
  Texts that the last one stands on.
-/
import Derived.Test.YtlphgcjepphhcaaGreatR4
set_option linter.all false
noncomputable section
open Go.Lite.V renaming str->aG,int->aC,bool->aW,agg->aI,sl->aH,tup->aV,ptr->aL,mp->dJ,tail->bl,ifc->gK,junk->bj,own->dD,flat1->js
open Go.IntKind renaming i64->aB,u64->b9,bits->bJ,u8->bK
open Go.Lite.O renaming box->aM,map->dI,row->aN,dead->gU
open Bool renaming false->aE,true->aD
open Go renaming FuncId->cf
open Option renaming none->aF,some->aA
open List renaming mem_cons->dC,replicate->cA,getElem?_eq_getElem->cI,take_add_one->MJ,getElem?_drop->i6,length_map->gm,set_append_right->MI,map_append->li,getElem?_append_right->eC,drop_eq_nil_iff->Gn
open Nat renaming sub_self->nS
namespace Go.Proofs.YtlphgcjepphhcaaGreat
open Go Go.Lite
set_option maxRecDepth 100000
set_option linter.unusedVariables false
def eJ(c:V)(d:List UInt8->List UInt8->R): R:=kA c λa=>cj a λb a=>kS b λe=>cj a λb a=>kS b λf=>er a<|(d e f)
@[simp] theorem fZ(x0:List UInt8)(x1:List UInt8)(k:List UInt8->List UInt8->R):eJ (.agg [aG x0,aG x1]) k=k x0 x1:=rfl
@[congr] theorem ajv{v v':V}{k:List UInt8->List UInt8->R}(h:v=v'):eJ v k=eJ v' k:=by rw[h]
def iC(c:V)(d:List UInt8->Int->R): R:=kT c λa=>cj a λb a=>kS b λe=>cj a λb a=>kI aB b λf=>er a (d e f)
@[simp] theorem iD(x0:List UInt8)(x1:Int)(k:List UInt8->Int->R):iC (.tup [aG x0,aC aB x1]) k=k x0 x1:=rfl
@[congr] theorem ajw{v v':V}{k:List UInt8->Int->R}(h:v=v'):iC v k=iC v' k:=by rw[h]
def gW(c:V)(d:List UInt8->Int->Int->R): R:=kT c λa=>cj a λb a=>kS b λe=>cj a λb a=>kI aB b λf=>cj a λb a=>kI aB b λg=>er a (d e f g)
@[simp] theorem d9(x0:List UInt8)(x1:Int)(x2:Int)(k:List UInt8->Int->Int->R):gW (.tup [aG x0,aC aB x1,aC aB x2]) k=k x0 x1 x2:=rfl
@[congr] theorem ajh{v v':V}{k:List UInt8->Int->Int->R}(h:v=v'):gW v k=gW v' k:=by rw[h]
def mH(c:V)(d:Int->Int->R): R:=kT c λa=>cj a λb a=>kI b9 b λe=>cj a λb a=>kI aB b λf=>er a (d e f)
@[simp] theorem j5(x0:Int)(x1:Int)(k:Int->Int->R):mH (.tup [aC b9 x0,aC aB x1]) k=k x0 x1:=rfl
@[congr] theorem ajt{v v':V}{k:Int->Int->R}(h:v=v'):mH v k=mH v' k:=by rw[h]
def lu(c:V)(d:Int->Bool->R): R:=kT c λa=>cj a λb a=>kI aB b λe=>cj a λb a=>kB b λf=>er a (d e f)
@[simp] theorem sO(x0:Int)(x1:Bool)(k:Int->Bool->R):lu (.tup [aC aB x0,aW x1]) k=k x0 x1:=rfl
@[congr] theorem ajj{v v':V}{k:Int->Bool->R}(h:v=v'):lu v k=lu v' k:=by rw[h]
def uT(c:V)(d:Int->Int->R): R:=kT c λa=>cj a λb a=>kI aB b λe=>cj a λb a=>kI aB b λf=>er a (d e f)
@[simp] theorem De(x0:Int)(x1:Int)(k:Int->Int->R):uT (.tup [aC aB x0,aC aB x1]) k=k x0 x1:=rfl
@[congr] theorem ajg{v v':V}{k:Int->Int->R}(h:v=v'):uT v k=uT v' k:=by rw[h]
def Dk(d:V)(e:List V->List UInt8->Int->Int->Bool->R): R:=kT d λb=>cj b λa b=>kA a λc=>cj c λa c=>kL a λf=>cj c λa c=>kS a λg=>cj c λa c=>kI aB a λh=>er c<|cj b λa b=>kI aB a λi=>cj b λa b=>kB a λj=>er b (e f g h i j)
@[simp] theorem X3(x0:List V)(x1:List UInt8)(x2:Int)(x3:Int)(x4:Bool)(k:List V->List UInt8->Int->Int->Bool->R):Dk (.tup [aI [aH x0,aG x1,aC aB x2],aC aB x3,aW x4]) k=k x0 x1 x2 x3 x4:=rfl
@[congr] theorem ajs{v v':V}{k:List V->List UInt8->Int->Int->Bool->R}(h:v=v'):Dk v k=Dk v' k:=by rw[h]
def Af(c:V)(d:Int->List UInt8->List UInt8->Int->R): R:=kA c λa=>cj a λb a=>kI aB b λe=>cj a λb a=>kS b λf=>cj a λb a=>kS b λg=>cj a λb a=>kI aB b λh=>er a<|(d e f g h)
@[simp] theorem NU(x0:Int)(x1:List UInt8)(x2:List UInt8)(x3:Int)(k:Int->List UInt8->List UInt8->Int->R):Af (.agg [aC aB x0,aG x1,aG x2,aC aB x3]) k=k x0 x1 x2 x3:=rfl
@[congr] theorem aju{v v':V}{k:Int->List UInt8->List UInt8->Int->R}(h:v=v'):Af v k=Af v' k:=by rw[h]
def qI(d:V)(e:List V->List UInt8->Int->Int->R): R:=kT d λc=>cj c λa c=>kA a λb=>cj b λa b=>kL a λf=>cj b λa b=>kS a λg=>cj b λa b=>kI aB a λh=>er b<|cj c λa c=>kI aB a λi=>er c (e f g h i)
@[simp] theorem nZ(x0:List V)(x1:List UInt8)(x2:Int)(x3:Int)(k:List V->List UInt8->Int->Int->R):qI (.tup [aI [aH x0,aG x1,aC aB x2],aC aB x3]) k=k x0 x1 x2 x3:=rfl
@[congr] theorem aji{v v':V}{k:List V->List UInt8->Int->Int->R}(h:v=v'):qI v k=qI v' k:=by rw[h]
def Dh(d:V)(e:List V->List UInt8->Int->List V->List UInt8->Int->Int->R): R:=kT d λc=>cj c λa c=>kA a λb=>cj b λa b=>kL a λf=>cj b λa b=>kS a λg=>cj b λa b=>kI aB a λh=>er b<|cj c λa c=>kA a λb=>cj b λa b=>kL a λi=>cj b λa b=>kS a λj=>cj b λa b=>kI aB a λk=>er b<|cj c λa c=>kI aB a λl=>er c (e f g h i j k l)
@[simp] theorem NT(x0:List V)(x1:List UInt8)(x2:Int)(x3:List V)(x4:List UInt8)(x5:Int)(x6:Int)(k:List V->List UInt8->Int->List V->List UInt8->Int->Int->R):Dh (.tup [aI [aH x0,aG x1,aC aB x2],aI [aH x3,aG x4,aC aB x5],aC aB x6]) k=k x0 x1 x2 x3 x4 x5 x6:=rfl
@[congr] theorem ajn{v v':V}{k:List V->List UInt8->Int->List V->List UInt8->Int->Int->R}(h:v=v'):Dh v k=Dh v' k:=by rw[h]
def nw(c:V)(d:Int->List V->List V->List UInt8->Int->Int->R): R:=kA c λa=>cj a λb a=>kI aB b λe=>cj a λb a=>kL b λf=>cj a λb a=>kL b λg=>cj a λb a=>kS b λh=>cj a λb a=>kI aB b λi=>cj a λb a=>kI aB b λj=>er a<|(d e f g h i j)
@[simp] theorem qK(x0:Int)(x1:List V)(x2:List V)(x3:List UInt8)(x4:Int)(x5:Int)(k:Int->List V->List V->List UInt8->Int->Int->R):nw (.agg [aC aB x0,aH x1,aH x2,aG x3,aC aB x4,aC aB x5]) k=k x0 x1 x2 x3 x4 x5:=rfl
@[congr] theorem ajm{v v':V}{k:Int->List V->List V->List UInt8->Int->Int->R}(h:v=v'):nw v k=nw v' k:=by rw[h]
def sP(d:V)(e:List V->List V->List UInt8->Int->Int->R): R:=kT d λc=>cj c λa c=>kA a λb=>cj b λa b=>kL a λf=>cj b λa b=>kL a λg=>cj b λa b=>kS a λh=>cj b λa b=>kI aB a λi=>er b<|cj c λa c=>kI aB a λj=>er c (e f g h i j)
@[simp] theorem xn(x0:List V)(x1:List V)(x2:List UInt8)(x3:Int)(x4:Int)(k:List V->List V->List UInt8->Int->Int->R):sP (.tup [aI [aH x0,aH x1,aG x2,aC aB x3],aC aB x4]) k=k x0 x1 x2 x3 x4:=rfl
@[congr] theorem ajo{v v':V}{k:List V->List V->List UInt8->Int->Int->R}(h:v=v'):sP v k=sP v' k:=by rw[h]
def qJ(d:V)(e:List V->List UInt8->Int->Int->R): R:=kT d λc=>cj c λa c=>kA a λb=>cj b λa b=>kL a λf=>cj b λa b=>kS a λg=>cj b λa b=>kI aB a λh=>er b<|cj c λa c=>kI aB a λi=>er c (e f g h i)
@[simp] theorem n4(x0:List V)(x1:List UInt8)(x2:Int)(x3:Int)(k:List V->List UInt8->Int->Int->R):qJ (.tup [aI [aH x0,aG x1,aC aB x2],aC aB x3]) k=k x0 x1 x2 x3:=rfl
@[congr] theorem ajk{v v':V}{k:List V->List UInt8->Int->Int->R}(h:v=v'):qJ v k=qJ v' k:=by rw[h]
def Df(d:V)(e:List V->List UInt8->Int->List V->List UInt8->Int->Int->R): R:=kT d λc=>cj c λa c=>kA a λb=>cj b λa b=>kL a λf=>cj b λa b=>kS a λg=>cj b λa b=>kI aB a λh=>er b<|cj c λa c=>kA a λb=>cj b λa b=>kL a λi=>cj b λa b=>kS a λj=>cj b λa b=>kI aB a λk=>er b<|cj c λa c=>kI aB a λl=>er c (e f g h i j k l)
@[simp] theorem X0(x0:List V)(x1:List UInt8)(x2:Int)(x3:List V)(x4:List UInt8)(x5:Int)(x6:Int)(k:List V->List UInt8->Int->List V->List UInt8->Int->Int->R):Df (.tup [aI [aH x0,aG x1,aC aB x2],aI [aH x3,aG x4,aC aB x5],aC aB x6]) k=k x0 x1 x2 x3 x4 x5 x6:=rfl
@[congr] theorem ajl{v v':V}{k:List V->List UInt8->Int->List V->List UInt8->Int->Int->R}(h:v=v'):Df v k=Df v' k:=by rw[h]
def sQ(d:V)(e:List V->List V->List UInt8->Int->Int->R): R:=kT d λc=>cj c λa c=>kA a λb=>cj b λa b=>kL a λf=>cj b λa b=>kL a λg=>cj b λa b=>kS a λh=>cj b λa b=>kI aB a λi=>er b<|cj c λa c=>kI aB a λj=>er c (e f g h i j)
@[simp] theorem uU(x0:List V)(x1:List V)(x2:List UInt8)(x3:Int)(x4:Int)(k:List V->List V->List UInt8->Int->Int->R):sQ (.tup [aI [aH x0,aH x1,aG x2,aC aB x3],aC aB x4]) k=k x0 x1 x2 x3 x4:=rfl
@[congr] theorem ajp{v v':V}{k:List V->List V->List UInt8->Int->Int->R}(h:v=v'):sQ v k=sQ v' k:=by rw[h]
def Dj(d:V)(e:List V->List V->List UInt8->Int->List V->List V->List UInt8->Int->List UInt8->Int->R): R:=kT d λc=>cj c λa c=>kA a λb=>cj b λa b=>kL a λf=>cj b λa b=>kL a λg=>cj b λa b=>kS a λh=>cj b λa b=>kI aB a λi=>er b<|cj c λa c=>kA a λb=>cj b λa b=>kL a λj=>cj b λa b=>kL a λk=>cj b λa b=>kS a λl=>cj b λa b=>kI aB a λm=>er b<|cj c λa c=>kS a λn=>cj c λa c=>kI aB a λo=>er c (e f g h i j k l m n o)
@[simp] theorem X2(x0:List V)(x1:List V)(x2:List UInt8)(x3:Int)(x4:List V)(x5:List V)(x6:List UInt8)(x7:Int)(x8:List UInt8)(x9:Int)(k:List V->List V->List UInt8->Int->List V->List V->List UInt8->Int->List UInt8->Int->R):Dj (.tup [aI [aH x0,aH x1,aG x2,aC aB x3],aI [aH x4,aH x5,aG x6,aC aB x7],aG x8,aC aB x9]) k=k x0 x1 x2 x3 x4 x5 x6 x7 x8 x9:=rfl
@[congr] theorem ajr{v v':V}{k:List V->List V->List UInt8->Int->List V->List V->List UInt8->Int->List UInt8->Int->R}(h:v=v'):Dj v k=Dj v' k:=by rw[h]
def Di(d:V)(e:List V->List V->List UInt8->Int->List V->List V->List UInt8->Int->List UInt8->Int->R): R:=kT d λc=>cj c λa c=>kA a λb=>cj b λa b=>kL a λf=>cj b λa b=>kL a λg=>cj b λa b=>kS a λh=>cj b λa b=>kI aB a λi=>er b<|cj c λa c=>kA a λb=>cj b λa b=>kL a λj=>cj b λa b=>kL a λk=>cj b λa b=>kS a λl=>cj b λa b=>kI aB a λm=>er b<|cj c λa c=>kS a λn=>cj c λa c=>kI aB a λo=>er c (e f g h i j k l m n o)
@[simp] theorem X1(x0:List V)(x1:List V)(x2:List UInt8)(x3:Int)(x4:List V)(x5:List V)(x6:List UInt8)(x7:Int)(x8:List UInt8)(x9:Int)(k:List V->List V->List UInt8->Int->List V->List V->List UInt8->Int->List UInt8->Int->R):Di (.tup [aI [aH x0,aH x1,aG x2,aC aB x3],aI [aH x4,aH x5,aG x6,aC aB x7],aG x8,aC aB x9]) k=k x0 x1 x2 x3 x4 x5 x6 x7 x8 x9:=rfl
@[congr] theorem ajq{v v':V}{k:List V->List V->List UInt8->Int->List V->List V->List UInt8->Int->List UInt8->Int->R}(h:v=v'):Di v k=Di v' k:=by rw[h]
def pO(L:Int × Int × Int × (List (V × V)) × (List V)):V × List O:=(aV [aC aB L.1,aC aB L.2.1],(sm L.2.2.1 L.2.2.2.1 L.2.2.2.2))
def yi:∀L L',pO L=pO L'->L=L':=by
 rintro⟨a0,a1,a2,a3,a4⟩ ⟨b0,b1,b2,b3,b4⟩ h;cases h;rfl
def gE(L:Int × Int × (List (V × V)) × (List V)):V × List O:=(aV [],(tm L.1 L.2.1 L.2.2.1 L.2.2.2))
def jP:∀L L',gE L=gE L'->L=L':=by
 rintro⟨a0,a1,a2,a3⟩ ⟨b0,b1,b2,b3⟩ h;cases h;rfl
def oz(L:Bool × Int × Int × Int × (List (V × V)) × (List V)):V × List O:=(aV [aW L.1,aC aB L.2.1],(tm L.2.2.1 L.2.2.2.1 L.2.2.2.2.1 L.2.2.2.2.2))
def AT:∀L L',oz L=oz L'->L=L':=by
 rintro⟨a0,a1,a2,a3,a4,a5⟩ ⟨b0,b1,b2,b3,b4,b5⟩ h;cases h;rfl
def oC(L:Int × Int × Int × (List (V × V)) × (List V)):V × List O:=(aC aB L.1,(tm L.2.1 L.2.2.1 L.2.2.2.1 L.2.2.2.2))
def EC:∀L L',oC L=oC L'->L=L':=by
 rintro⟨a0,a1,a2,a3,a4⟩ ⟨b0,b1,b2,b3,b4⟩ h;cases h;rfl
def mR(M:List O)(L:(List UInt8) × Int):V × List O:=(aV [aG L.1,aC aB L.2],M)
def Js(M:List O):∀L L',mR M L=mR M L'->L=L':=by
 rintro⟨a0,a1⟩ ⟨b0,b1⟩ h;simp[mR]at h;simp[h]
def rc(M:List O)(L:Int):V × List O:=(aC aB L,M)
def Jt(M:List O):∀L L',rc M L=rc M L'->L=L':=by
 rintro a0 b0 h;simpa[rc]using h
def yd(M:List O)(L:(List V)):V × List O:=(aH L,M)
def aej(M:List O):∀L L',yd M L=yd M L'->L=L':=by
 rintro a0 b0 h;simpa[yd]using h
def vJ(M:List O)(L:(List V)):V × List O:=(aH L,M)
def RP(M:List O):∀L L',vJ M L=vJ M L'->L=L':=by
 rintro a0 b0 h;simpa[vJ]using h
def vH(M:List O)(L:(List V)):V × List O:=(aH L,M)
def RO(M:List O):∀L L',vH M L=vH M L'->L=L':=by
 rintro a0 b0 h;simpa[vH]using h
def tG(M:List O)(L:Int):V × List O:=(aC aB L,M)
def Ju(M:List O):∀L L',tG M L=tG M L'->L=L':=by
 rintro a0 b0 h;simpa[tG]using h
def vI(M:List O)(L:Int):V × List O:=(aC aB L,M)
def Jv(M:List O):∀L L',vI M L=vI M L'->L=L':=by
 rintro a0 b0 h;simpa[vI]using h
def tH(M:List O)(L:(List V)):V × List O:=(aH L,M)
def Jw(M:List O):∀L L',tH M L=tH M L'->L=L':=by
 rintro a0 b0 h;simpa[tH]using h
def ye(M:List O)(L:Int):V × List O:=(aC aB L,M)
def aek(M:List O):∀L L',ye M L=ye M L'->L=L':=by
 rintro a0 b0 h;simpa[ye]using h
def re(L:Int × Int × (List V) × (List V)):V × List O:=(aV [aC aB L.1,aC aB L.2.1],(rs L.2.2.1 L.2.2.2))
def ED:∀L L',re L=re L'->L=L':=by
 rintro⟨a0,a1,a2,a3⟩ ⟨b0,b1,b2,b3⟩ h;cases h;rfl
def jg(L:Int × (List V) × (List V)):V × List O:=(aC aB L.1,(rs L.2.1 L.2.2))
def lG:∀L L',jg L=jg L'->L=L':=by
 rintro⟨a0,a1,a2⟩ ⟨b0,b1,b2⟩ h;cases h;rfl
def AU(L:Bool × Int × Int × Int × (List (V × V)) × (List V) × (List V) × (List V)):V × List O:=(aW L.1,[aM 128 (aI [aL 2 0 0,aC aB L.2.1]) aE,aM 91 (aI [aL 3 0 0,aC aB L.2.2.1]) aE,aM 140 (aI [aL 4 0 0,dJ 5]) aE,aM 102 (aI [aL 6 0 0,bl 7 0]) aE,aM 192 (aI [bl 8 0,aC aB L.2.2.2.1]) aD,dI L.2.2.2.2.1,aM 159 (aI [bl 9 0]) aE,aN 9 L.2.2.2.2.2.1 0,aN 5 L.2.2.2.2.2.2.1 0,aN 4 L.2.2.2.2.2.2.2 0])
def ael:∀L L',AU L=AU L'->L=L':=by
 rintro⟨a0,a1,a2,a3,a4,a5,a6,a7⟩ ⟨b0,b1,b2,b3,b4,b5,b6,b7⟩ h;cases h;rfl
def yf(M:List O)(L:Bool):V × List O:=(aW L,M)
def aem(M:List O):∀L L',yf M L=yf M L'->L=L':=by
 rintro a0 b0 h;simpa[yf]using h
def vK(M:List O)(L:(List V)):V × List O:=(aH L,M)
def RQ(M:List O):∀L L',vK M L=vK M L'->L=L':=by
 rintro a0 b0 h;simpa[vK]using h
def pM(M:List O)(L:(List V)):V × List O:=(aH L,M)
def Jx(M:List O):∀L L',pM M L=pM M L'->L=L':=by
 rintro a0 b0 h;simpa[pM]using h
def vF(L:Int × Int × Int × (List V)):V × List O:=(aV [aC aB L.1,aC aB L.2.1],(bm L.2.2.1 L.2.2.2))
def RJ:∀L L',vF L=vF L'->L=L':=by
 rintro⟨a0,a1,a2,a3⟩ ⟨b0,b1,b2,b3⟩ h;cases h;rfl
def xX(L:Int × Int × (List (V × V)) × (List V)):V × List O:=(aC aB L.1,(sm L.2.1 L.2.2.1 L.2.2.2))
def RG:∀L L',xX L=xX L'->L=L':=by
 rintro⟨a0,a1,a2,a3⟩ ⟨b0,b1,b2,b3⟩ h;cases h;rfl
def tJ(M:List O)(L:(List V) × (List V) × (List UInt8) × Int × Int):V × List O:=(aV [aH L.1,aI [aH L.2.1,aG L.2.2.1,aC aB L.2.2.2.1],aC aB L.2.2.2.2],M)
def rh(M:List O):∀L L',tJ M L=tJ M L'->L=L':=by
 rintro⟨a0,a1,a2,a3,a4⟩ ⟨b0,b1,b2,b3,b4⟩ h;simp[tJ]at h;simp[h]
def vL(L:Int × Int × (List (V × V)) × (List V)):V × List O:=(aV [],(tm L.1 L.2.1 L.2.2.1 L.2.2.2))
def aeq:∀L L',vL L=vL L'->L=L':=by
 rintro⟨a0,a1,a2,a3⟩ ⟨b0,b1,b2,b3⟩ h;cases h;rfl
def yh(L:Int × Int × (List (V × V)) × (List V)):V × List O:=(aV [],(tm L.1 L.2.1 L.2.2.1 L.2.2.2))
def aer:∀L L',yh L=yh L'->L=L':=by
 rintro⟨a0,a1,a2,a3⟩ ⟨b0,b1,b2,b3⟩ h;cases h;rfl
def tK(L:Int × Bool × Int × (List (V × V)) × Int × (List (V × V)) × (List V) × (List V) × (List V)):V × List O:=(aV [aC aB L.1,aW L.2.1],(ln L.2.2.1 9 10 L.2.2.2.1 L.2.2.2.2.1 L.2.2.2.2.2.1 L.2.2.2.2.2.2.1++[aN 3 L.2.2.2.2.2.2.2.1 0,aN 9 L.2.2.2.2.2.2.2.2 0]))
def EE:∀L L',tK L=tK L'->L=L':=by
 rintro⟨a0,a1,a2,a3,a4,a5,a6,a7,a8⟩ ⟨b0,b1,b2,b3,b4,b5,b6,b7,b8⟩ h;cases h;rfl
def vM(M:List O)(L:(List V)):V × List O:=(aH L,M)
def RS(M:List O):∀L L',vM M L=vM M L'->L=L':=by
 rintro a0 b0 h;simpa[vM]using h
def AX(L:(List V)):V × List O:=(bl 0 0,[aN 3 L 0])
def aey:∀L L',AX L=AX L'->L=L':=by
 rintro a0 b0 h;cases h;rfl
def vN(M:List O)(L:(List V)):V × List O:=(aH L,M)
def RU(M:List O):∀L L',vN M L=vN M L'->L=L':=by
 rintro a0 b0 h;simpa[vN]using h
def gZ(M:List O)(L:(List V) × (List UInt8) × Int):V × List O:=(gK 120 (aI [aH L.1,aG L.2.1,aC aB L.2.2]),M)
def aes(M:List O):∀L L',gZ M L=gZ M L'->L=L':=by
 rintro⟨a0,a1,a2⟩ ⟨b0,b1,b2⟩ h;simp[gZ]at h;simp[h]
def hJ(M:List O)(L:(List V) × (List V) × (List UInt8) × Int):V × List O:=(gK 150 (aI [aH L.1,aH L.2.1,aG L.2.2.1,aC aB L.2.2.2]),M)
def aet(M:List O):∀L L',hJ M L=hJ M L'->L=L':=by
 rintro⟨a0,a1,a2,a3⟩ ⟨b0,b1,b2,b3⟩ h;simp[hJ]at h;simp[h]
def aeu(M:List O):∀L L',gZ M L≠hJ M L':=by
 intro L L' h;simp[gZ,hJ]at h
def iu(M:List O)(L:Unit):V × List O:=(V.nilI,M)
def aev(M:List O):∀L L',iu M L=iu M L'->L=L':=by
 rintro⟨⟩ ⟨⟩ h;rfl
def aew(M:List O):∀L L',gZ M L≠iu M L':=by
 intro L L' h;simp[gZ,iu]at h
def aex(M:List O):∀L L',hJ M L≠iu M L':=by
 intro L L' h;simp[hJ,iu]at h
def yj(M:List O)(L:Int):V × List O:=(aC aB L,M)
def aez(M:List O):∀L L',yj M L=yj M L'->L=L':=by
 rintro a0 b0 h;simpa[yj]using h
def AZ(L:Int × Int × (List V)):V × List O:=(aV [aC aB L.1,aC aB L.2.1],(rb L.2.2))
def aeC:∀L L',AZ L=AZ L'->L=L':=by
 rintro⟨a0,a1,a2⟩ ⟨b0,b1,b2⟩ h;cases h;rfl
def vE(M:List O)(L:Int):V × List O:=(aC aB L,M)
def RD(M:List O):∀L L',vE M L=vE M L'->L=L':=by
 rintro a0 b0 h;simpa[vE]using h
def AV(L:Bool × Int × Int × (List V) × (List V)):V × List O:=(aV [aW L.1,aC aB L.2.1],(rm L.2.2.1 L.2.2.2.1 L.2.2.2.2))
def aen:∀L L',AV L=AV L'->L=L':=by
 rintro⟨a0,a1,a2,a3,a4⟩ ⟨b0,b1,b2,b3,b4⟩ h;cases h;rfl
def AW(L:Int × Int × (List V) × (List V)):V × List O:=(aC aB L.1,(rm L.2.1 L.2.2.1 L.2.2.2))
def aeo:∀L L',AW L=AW L'->L=L':=by
 rintro⟨a0,a1,a2,a3⟩ ⟨b0,b1,b2,b3⟩ h;cases h;rfl
def vO(M:List O)(L:(List UInt8) × Int):V × List O:=(aV [aG L.1,aC aB L.2],M)
def aeA(M:List O):∀L L',vO M L=vO M L'->L=L':=by
 rintro⟨a0,a1⟩ ⟨b0,b1⟩ h;simp[vO]at h;simp[h]
def yk(M:List O)(L:(List V)):V × List O:=(aH L,M)
def aeB(M:List O):∀L L',yk M L=yk M L'->L=L':=by
 rintro a0 b0 h;simpa[yk]using h
def vP(M:List O)(L:(List V)):V × List O:=(aH L,M)
def RX(M:List O):∀L L',vP M L=vP M L'->L=L':=by
 rintro a0 b0 h;simpa[vP]using h
def pN(M:List O)(L:(List UInt8) × Int):V × List O:=(aV [aG L.1,aC aB L.2],M)
def tI(M:List O):∀L L',pN M L=pN M L'->L=L':=by
 rintro⟨a0,a1⟩ ⟨b0,b1⟩ h;simp[pN]at h;simp[h]
def tL(M:List O)(L:(List UInt8) × Int):V × List O:=(aV [aG L.1,aC aB L.2],M)
def AY(M:List O):∀L L',tL M L=tL M L'->L=L':=by
 rintro⟨a0,a1⟩ ⟨b0,b1⟩ h;simp[tL]at h;simp[h]
def jQ(M:List O)(L:(List V) × (List V) × (List UInt8) × Int × Bool):V × List O:=(aV [aI [aH L.1,aH L.2.1,aG L.2.2.1,aC aB L.2.2.2.1],aW L.2.2.2.2],M)
def md(M:List O):∀L L',jQ M L=jQ M L'->L=L':=by
 rintro⟨a0,a1,a2,a3,a4⟩ ⟨b0,b1,b2,b3,b4⟩ h;simp[jQ]at h;simp[h]
def qZ(M:List O)(L:Bool):V × List O:=(aW L,M)
def ya(M:List O):∀L L',qZ M L=qZ M L'->L=L':=by
 rintro a0 b0 h;simpa[qZ]using h
def AR(L:Int × Int × (List V)):V × List O:=(aC aB L.1,(bm L.2.1 L.2.2))
def aeh:∀L L',AR L=AR L'->L=L':=by
 rintro⟨a0,a1,a2⟩ ⟨b0,b1,b2⟩ h;cases h;rfl
def tE(L:Int × Int × (List (V × V)) × (List V)):V × List O:=(aV [],(tm L.1 L.2.1 L.2.2.1 L.2.2.2))
def RH:∀L L',tE L=tE L'->L=L':=by
 rintro⟨a0,a1,a2,a3⟩ ⟨b0,b1,b2,b3⟩ h;cases h;rfl
def xY(M:List O)(L:(List V)):V × List O:=(aH L,M)
def aeb(M:List O):∀L L',xY M L=xY M L'->L=L':=by
 rintro a0 b0 h;simpa[xY]using h
def xZ(L:Int × Int × (List (V × V)) × (List V)):V × List O:=(aC aB L.1,(sm L.2.1 L.2.2.1 L.2.2.2))
def RI:∀L L',xZ L=xZ L'->L=L':=by
 rintro⟨a0,a1,a2,a3⟩ ⟨b0,b1,b2,b3⟩ h;cases h;rfl
def AN(L:Int × Int × (List (V × V)) × (List V)):V × List O:=(aV [],(tm L.1 L.2.1 L.2.2.1 L.2.2.2))
def aec:∀L L',AN L=AN L'->L=L':=by
 rintro⟨a0,a1,a2,a3⟩ ⟨b0,b1,b2,b3⟩ h;cases h;rfl
def vG(L:Bool × (List (V × V)) × (List V) × (List V)):V × List O:=(aW L.1,[aM 144 (aI [dJ 1,bl 4 0,bl 5 0]) aE,dI L.2.1,gU,gU,aN 3 L.2.2.1 0,aN 9 L.2.2.2 0])
def RL:∀L L',vG L=vG L'->L=L':=by
 rintro⟨a0,a1,a2,a3⟩ ⟨b0,b1,b2,b3⟩ h;cases h;rfl
def AO(L:Int × (List V)):V × List O:=(aC aB L.1,(rb L.2))
def aed:∀L L',AO L=AO L'->L=L':=by
 rintro⟨a0,a1⟩ ⟨b0,b1⟩ h;cases h;rfl
def yb(M:List O)(L:Bool):V × List O:=(aW L,M)
def aee(M:List O):∀L L',yb M L=yb M L'->L=L':=by
 rintro a0 b0 h;simpa[yb]using h
def tC(M:List O)(L:(List V)):V × List O:=(aH L,M)
def tD(M:List O):∀L L',tC M L=tC M L'->L=L':=by
 rintro a0 b0 h;simpa[tC]using h
def nJ(M:List O)(L:(List V) × (List UInt8) × Int × Bool):V × List O:=(aV [aI [aH L.1,aG L.2.1,aC aB L.2.2.1],aW L.2.2.2],M)
def mQ(M:List O):∀L L',nJ M L=nJ M L'->L=L':=by
 rintro⟨a0,a1,a2,a3⟩ ⟨b0,b1,b2,b3⟩ h;simp[nJ]at h;simp[h]
def xV(M:List O)(L:Int):V × List O:=(aC aB L,M)
def RE(M:List O):∀L L',xV M L=xV M L'->L=L':=by
 rintro a0 b0 h;simpa[xV]using h
def xW(L:Int × (List V) × (List V)):V × List O:=(aV [],(rm L.1 L.2.1 L.2.2))
def RF:∀L L',xW L=xW L'->L=L':=by
 rintro⟨a0,a1,a2⟩ ⟨b0,b1,b2⟩ h;cases h;rfl
def AM(L:Int × (List V) × (List V)):V × List O:=(aV [],(rm L.1 L.2.1 L.2.2))
def aea:∀L L',AM L=AM L'->L=L':=by
 rintro⟨a0,a1,a2⟩ ⟨b0,b1,b2⟩ h;cases h;rfl
def yg(M:List O)(L:(List V)):V × List O:=(aH L,M)
def aep(M:List O):∀L L',yg M L=yg M L'->L=L':=by
 rintro a0 b0 h;simpa[yg]using h
def AP(L:(List V)):V × List O:=(aV [],[aN 3 L 0])
def aef:∀L L',AP L=AP L'->L=L':=by
 rintro a0 b0 h;cases h;rfl
def AQ(L:Int × Int × (List V)):V × List O:=(aC aB L.1,(bm L.2.1 L.2.2))
def aeg:∀L L',AQ L=AQ L'->L=L':=by
 rintro⟨a0,a1,a2⟩ ⟨b0,b1,b2⟩ h;cases h;rfl
def tF(L:Int × (List V) × (List V)):V × List O:=(aV [],(rm L.1 L.2.1 L.2.2))
def Jr:∀L L',tF L=tF L'->L=L':=by
 rintro⟨a0,a1,a2⟩ ⟨b0,b1,b2⟩ h;cases h;rfl
def yc(L:Int × (List V) × (List V)):V × List O:=(aC aB L.1,(rs L.2.1 L.2.2))
def RN:∀L L',yc L=yc L'->L=L':=by
 rintro⟨a0,a1,a2⟩ ⟨b0,b1,b2⟩ h;cases h;rfl
def AS(L:Int × (List V)):V × List O:=(aC aB L.1,(rb L.2))
def aei:∀L L',AS L=AS L'->L=L':=by
 rintro⟨a0,a1⟩ ⟨b0,b1⟩ h;cases h;rfl
def jJ {α:Type} (c:CM) (f:cf) (a:List V) (m:List O) (k:V->List O->R) (n:Nat) (g:α->V × List O) (r:R):R:=cond (f==n) (bV aJ c g f a m λL=>k (g L).1 (g L).2) r
def Ka (cm:CM) (f:cf) (args:List V) (mem:List O) (k:V->List O->R):R:=jJ cm f args mem k 84 pO (jJ cm f args mem k 78 gE (jJ cm f args mem k 32 oz (jJ cm f args mem k 33 oC (jJ cm f args mem k 39 (mR mem) (jJ cm f args mem k 40 (rc mem) (jJ cm f args mem k 42 (yd mem) (jJ cm f args mem k 50 (vJ mem) (jJ cm f args mem k 34 (vH mem) (jJ cm f args mem k 43 (tG mem) (jJ cm f args mem k 44 (vI mem) (jJ cm f args mem k 46 (tH mem) (jJ cm f args mem k 52 (ye mem) (jJ cm f args mem k 60 re (jJ cm f args mem k 61 jg (jJ cm f args mem k 53 AU (jJ cm f args mem k 54 (yf mem) (jJ cm f args mem k 55 (vK mem) (jJ cm f args mem k 56 (pM mem) (jJ cm f args mem k 131 vF (jJ cm f args mem k 119 xX (jJ cm f args mem k 75 (tJ mem) (jJ cm f args mem k 79 vL (jJ cm f args mem k 81 yh (jJ cm f args mem k 85 tK (jJ cm f args mem k 87 (vM mem) (jJ cm f args mem k 86 AX (jJ cm f args mem k 90 (vN mem) (cond (f==82) (iF aJ cm (gZ mem) (hJ mem) (iu mem) f args mem (λL=>k ((gZ mem) L).1 ((gZ mem) L).2) (λL=>k ((hJ mem) L).1 ((hJ mem) L).2) (λL=>k ((iu mem) L).1 ((iu mem) L).2)) (jJ cm f args mem k 89 (yj mem) (jJ cm f args mem k 99 AZ (jJ cm f args mem k 100 (vE mem) (jJ cm f args mem k 65 AV (jJ cm f args mem k 66 AW (jJ cm f args mem k 91 (vO mem) (jJ cm f args mem k 92 (yk mem) (jJ cm f args mem k 93 (vP mem) (jJ cm f args mem k 58 (pN mem) (jJ cm f args mem k 94 (tL mem) (jJ cm f args mem k 95 (jQ mem) (jJ cm f args mem k 137 (qZ mem) (jJ cm f args mem k 180 AR (jJ cm f args mem k 123 tE (jJ cm f args mem k 124 (xY mem) (jJ cm f args mem k 127 xZ (jJ cm f args mem k 128 AN (jJ cm f args mem k 132 vG (jJ cm f args mem k 142 AO (jJ cm f args mem k 143 (yb mem) (jJ cm f args mem k 103 (tC mem) (jJ cm f args mem k 104 (nJ mem) (jJ cm f args mem k 107 (xV mem) (jJ cm f args mem k 109 xW (jJ cm f args mem k 111 AM (jJ cm f args mem k 67 (yg mem) (jJ cm f args mem k 169 AP (jJ cm f args mem k 174 AQ (jJ cm f args mem k 151 tF (jJ cm f args mem k 153 yc (jJ cm f args mem k 202 AS (aF))))))))))))))))))))))))))))))))))))))))))))))))))))))))))))
def S1:KC:={ S0 with ck:=Ka }
def afG:iL S1:=⟨afH.ik,λcm f av mem k r h=>by
 change Ka cm f av mem k=aA r at h;unfold Ka at h;simp only[jJ]at h
 repeat
  rcases dm h with⟨_,h⟩|⟨_,h⟩
  ·first|(obtain⟨L,h1,h2⟩:=Ee h;exact⟨_,_,h1,h2⟩)|(rcases Qz h with⟨L,h1,h2⟩|⟨L,h1,h2⟩<;>exact⟨_,_,h1,h2⟩)|(rcases acs h with⟨L,h1,h2⟩|⟨L,h1,h2⟩|⟨L,h1,h2⟩<;>exact⟨_,_,h1,h2⟩)
 cases h⟩
def fF (f:Nat):FA:=(iq aJ.P (aJ.rxf f) f).getD PT
def Qw:KC:=S1.inl [(133,fF 133),(98,fF 98),(179,fF 179),(136,fF 136),(83,fF 83),(51,fF 51),(164,fF 164),(177,fF 177),(178,fF 178),(68,fF 68),(18,fF 18),(59,fF 59),(141,fF 141)]
def acf:iL Qw:=QI afG (by
 intro x hx;simp only[dC,List.not_mem_nil,or_false]at hx;rcases hx with rfl|rfl|rfl|rfl|rfl|rfl|rfl|rfl|rfl|rfl|rfl|rfl|rfl
 ·exact⟨rfl,ja (by kernel_rfl),rfl⟩
 ·exact⟨rfl,ja (by kernel_rfl),rfl⟩
 ·exact⟨rfl,ja (by kernel_rfl),rfl⟩
 ·exact⟨rfl,ja (by kernel_rfl),rfl⟩
 ·exact⟨rfl,ja (by kernel_rfl),rfl⟩
 ·exact⟨rfl,ja (by kernel_rfl),rfl⟩
 ·exact⟨rfl,ja (by kernel_rfl),rfl⟩
 ·exact⟨rfl,ja (by kernel_rfl),rfl⟩
 ·exact⟨rfl,ja (by kernel_rfl),rfl⟩
 ·exact⟨rfl,ja (by kernel_rfl),rfl⟩
 ·exact⟨rfl,ja (by kernel_rfl),rfl⟩
 ·exact⟨rfl,ja (by kernel_rfl),rfl⟩
 ·exact⟨rfl,ja (by kernel_rfl),rfl⟩)
def qk:KC:=Qw.inl [(36,fF 36),(37,fF 37),(16,fF 16),(17,fF 17)]
def J8:iL qk:=QI acf (by
 intro x hx;simp only[dC,List.not_mem_nil,or_false]at hx;rcases hx with rfl|rfl|rfl|rfl
 ·exact⟨rfl,ja (by kernel_rfl),rfl⟩
 ·exact⟨rfl,ja (by kernel_rfl),rfl⟩
 ·exact⟨rfl,ja (by kernel_rfl),rfl⟩
 ·exact⟨rfl,ja (by kernel_rfl),rfl⟩)
abbrev Rd(imp:Bool)(n0 f i:Nat)(t:S)(s:R):Prop:=∀{o o':d6},s=aA o->Go qk imp n0 (fF f) o o'->Go qk imp n0 (fF f) (.head i t) o'
def rd{imp:Bool}{n0 f i:Nat}{t:S}{s:R}(h:Qq qk imp n0 (fF f) i t=s:=by kernel_rfl):Rd imp n0 f i t s:=λh1 hg=>.step (h.trans h1) hg
abbrev Ep(f:Nat)(as0:List V)(s:R):Prop:=∀{o:d6} {v:V},s=aA o->Go qk aE 0 (fF f) o (.done v)->bP aJ f as0=aA v
def ep{f:Nat}{as0:List V}{s:R}(hf:(iq aJ.P (aJ.rxf f) f).isSome=true:=by kernel_rfl)(h:nA qk aE (fF f) as0 []=s:=by kernel_rfl)(hp:aJ.pprim f=none:=by rfl):Ep f as0 s:=λh1 hg=>pX J8 hp (ja hf) (h.trans h1) hg
abbrev Ed(f:Nat)(as0:List V)(s:R):Prop:=∀{v:V},s=aA (.done v)->bP aJ f as0=aA v
def ed{f:Nat}{as0:List V}{s:R}(h:Ep f as0 s):Ed f as0 s:=λh1=>h h1 (.refl _)
abbrev Ei(f n0:Nat)(as0:List V)(mem:List O)(s:R):Prop:=∀{o:d6} {v:V} {m:List O},s=aA o->Go qk aD n0 (fF f) o (.doneM v m)->ol aJ f as0 mem=aA (v,m)
def ei{f n0:Nat}{as0:List V}{mem:List O}{s:R}(hf:(iq aJ.P (aJ.rxf f) f).isSome=true:=by kernel_rfl)(h:nA qk aD (fF f) as0 mem=s:=by kernel_rfl)(hp:aJ.iprim f=none:=by rfl)(hn:mem.length=n0:=by rfl):Ei f n0 as0 mem s:=λh1 hg=>QA J8 hp (ja hf) (h.trans h1) (hn ▸ hg)
abbrev Ec(f n0:Nat)(cm:CM)(as0:List V)(mem:List O)(s:R):Prop:=∀{o:d6} {r:V × List O},s=aA o->uB qk n0 (fF f) cm mem o r->bW aJ cm f as0 mem=aA r
def ec{f n0:Nat}{cm:CM}{as0:List V}{mem:List O}{s:R}(hf:(iq aJ.P (aJ.rxf f) f).isSome=true:=by kernel_rfl)(h:nA qk aD (fF f) as0 mem=s:=by kernel_rfl)(hp:aJ.iprim f=none:=by rfl)(hn:mem.length=n0:=by rfl):Ec f n0 cm as0 mem s:=λh1 hg=>acl J8 hp (ja hf) (h.trans h1) (hn ▸ hg)
def Hr (b:List UInt8) (a:Int): R :=
 cond (decide (a < 0))
 (aA (.done (aC aB 1)))
 (cond (decide (a > (b.length:Int)))
 (aA (.done (aC aB 1)))
 (aA (.done (aC aB 0))))
def YI(a b): Ep 113 [aG a,aC aB b] (Hr a b):=ep
def YH(a b): Ed 113 [aG a,aC aB b] (Hr a b):=ed (YI a b)
def HY (b:List UInt8) (c a:Int): R :=
 cond (decide (a < 1))
 (aA (.done (aC aB 1)))
 (cond (decide (a > 8))
 (aA (.done (aC aB 1)))
 (aT aJ 113 [aG b,aC aB c] λd =>
  kI aB d λe =>
  cond (e != (0:Int))
 (aA (.done (aC aB 1)))
 (cond (decide (W aB ((b.length:Int) - c) < a))
 (aA (.done (aC aB 3)))
 (aA (.done (aC aB 0))))))
def aac(a b c): Ep 208 [aG a,aC aB b,aC aB c] (HY a b c):=ep
def aab(a b c): Ed 208 [aG a,aC aB b,aC aB c] (HY a b c):=ed (aac a b c)
def wZ(a:List UInt8)(b c d e:Int): S:=⟨[aG a,aC aB b]++(JU 4)++[aC b9 0,aC aB 0,bj,aC b9 c]++(JU 8)++[aC aB d,aC aB e]++(JU 15),[]⟩
def HZ (a:List UInt8) (b c:Int): R :=
 aT aJ 208 [aG a,aC aB b,aC aB c] λe =>
 kI aB e λd =>
 cond (d != (0:Int))
 (aA (.done (aV [aC b9 0,aC aB d])))
 (aA (.head 0 (wZ a b 0 c 0)))
def OS(a b c): Ep 214 [aG a,aC aB b,aC aB c] (HZ a b c):=ep
def Lb (c:List UInt8) (b d e a:Int): R :=
 cond (decide (a < e))
 (gd (decide (0<=W aB (b+a))) <|
  bk c ((W aB (b+a)).toNat) λf =>
  gd (!decide (W aB (8 * a) < 0)) <|
  aA (.head 0 (wZ c b (W b9 (((BitVec.ofInt (bJ b9) d |||BitVec.ofInt (bJ b9) (W b9 (W b9 ((f.toNat:Int)) * 2 ^ (min (W aB (8 * a)).toNat (bJ b9))))).toNat:Int))) e (W aB (a+1)))))
 (aA (.done (aV [aC b9 d,aC aB 0])))
def Uv(a b c d e): Rd aE 0 214 0 (wZ a b c d e) (Lb a b c d e):=rd
def uJ(a:List UInt8)(b c d e:Int)(f:List V): S:=⟨[aG a,aC aB b,bj,aC b9 c]++(JU 4)++[aG [],aC aB 0,bj,dD 0]++(JU 19)++[aC aB d,aC aB e]++(JU 15),[aN 5 f 0]⟩
def Dy (b:List UInt8) (c a d:Int): R :=
 aT aJ 208 [aG b,aC aB c,aC aB a] λf =>
 kI aB f λe =>
 cond (e != (0:Int))
 (aA (.done (aV [aG [],aC aB e])))
 (cond (decide (a < 8))
 (gd (!decide (W aB (8 * a) < 0)) <|
  cond (decide (d.fdiv (2 ^ (min (W aB (8 * a)).toNat (bJ b9))) > 0))
 (aA (.done (aV [aG [],aC aB 2])))
 (gd (decide (0<=a)) <|
  gd (decide (a<=a)) <|
  gd (decide (a.toNat<=16777216)) <|
  aA (.head 0 (uJ b c d a 0 (cA a.toNat (aC bK 0))))))
 (gd (decide (0<=a)) <|
  gd (decide (a<=a)) <|
  gd (decide (a.toNat<=16777216)) <|
  aA (.head 0 (uJ b c d a 0 (cA a.toNat (aC bK 0))))))
def HH(a b c d): Ep 161 [aG a,aC aB b,aC aB c,aC b9 d] (Dy a b c d):=ep
def K1 (c:List UInt8) (d e f a:Int) (b:List V): R :=
 cond (decide (a < f))
 (gd (!decide (W aB (8 * a) < 0)) <|
  gd (decide (0<=a)) <|
  gd (decide (a.toNat < b.length)) <|
  bk b a.toNat λg =>
  kI bK g λj =>
  aA (.head 0 (uJ c d e f (W aB (a+1)) ((b).set a.toNat (aC bK (W bK (e.fdiv (2 ^ (min (W aB (8 * a)).toNat (bJ b9))))))))))
 (aT aJ 209 [aG c,aC aB d,aH b] λh =>
  kS h λi =>
  aA (.done (aV [aG i,aC aB 0])))
def Ui(a b c d e f): Rd aE 0 161 0 (uJ a b c d e f) (K1 a b c d e f):=rd
def Ia (b:List UInt8) (a:Int): R :=
 aT aJ 113 [aG b,aC aB a] λe =>
 kI aB e λd =>
 cond (d != (0:Int))
 (aA (.done (aV [aG [],aC aB 0,aC aB d])))
 (cond (a==(b.length:Int))
 (aA (.done (aV [aG [],aC aB 0,aC aB 3])))
 (gd (decide (0<=a)) <|
  bk b a.toNat λf =>
  cond (decide (W aB ((W aB ((b.length:Int) - a)) - 1) < W aB ((f.toNat:Int))))
 (aA (.done (aV [aG [],aC aB 0,aC aB 3])))
 (gd (decide (0<=a)) <|
  bk b a.toNat λc =>
  gd (decide (0<=W aB (a+1))) <|
  gd (decide (0<=W aB ((W aB (a+1))+(W aB ((c.toNat:Int)))))) <|
  gd (decide ((W aB (a+1)).toNat<=(W aB ((W aB (a+1))+(W aB ((c.toNat:Int))))).toNat)) <|
  gd (decide ((W aB ((W aB (a+1))+(W aB ((c.toNat:Int))))).toNat<=b.length)) <|
  aA (.done (aV [aG ((b.take ((W aB ((W aB (a+1))+(W aB ((c.toNat:Int))))).toNat)).drop ((W aB (a+1)).toNat)),aC aB (W aB ((W aB (a+1))+(W aB ((c.toNat:Int))))),aC aB 0])))))
def aaF(a b): Ep 71 [aG a,aC aB b] (Ia a b):=ep
def aaE(a b): Ed 71 [aG a,aC aB b] (Ia a b):=ed (aaF a b)
def HI (c:List UInt8) (b:Int) (a:List UInt8): R :=
 aT aJ 113 [aG c,aC aB b] λe =>
 kI aB e λd =>
 cond (d != (0:Int))
 (aA (.done (aV [aG [],aC aB 0,aC aB d])))
 (cond (decide ((a.length:Int) > 255))
 (aA (.done (aV [aG [],aC aB 0,aC aB 2])))
 (cond (decide (W aB ((c.length:Int) - b) < W aB ((a.length:Int)+1)))
 (aA (.done (aV [aG [],aC aB 0,aC aB 3])))
 (gd (cC 1 (fj a)) <|
  gd (decide (([aC bK (W bK ((a.length:Int)))]:List V).length+(fj a).length<=16777216)) <|
  aT aJ 209 [aG c,aC aB b,aH ([aC bK (W bK ((a.length:Int)))]++(fj a))] λf =>
  kS f λg =>
  aA (.done (aV [aG g,aC aB (W aB ((W aB (b+(a.length:Int)))+1)),aC aB 0])))))
def Zw(a b c): Ep 162 [aG a,aC aB b,aG c] (HI a b c):=ep
def Zv(a b c): Ed 162 [aG a,aC aB b,aG c] (HI a b c):=ed (Zw a b c)
def HG (a:List UInt8) (b:Int): R :=
 cond (decide (b < 0))
 (aA (.done (aV [aG [],aC aB 1])))
 (cond (decide (b > 65536))
 (aA (.done (aV [aG [],aC aB 1])))
 (cond (decide ((a.length:Int) > b))
 (aA (.done (aV [aG [],aC aB 2])))
 (gd (decide (0<=W aB (b - (a.length:Int)))) <|
  gd (decide (W aB (b - (a.length:Int))<=W aB (b - (a.length:Int)))) <|
  gd (decide ((W aB (b - (a.length:Int))).toNat<=16777216)) <|
  cg (iv (cA ((W aB (b - (a.length:Int))).toNat) (aC bK 0))) λd =>
  gd (decide (a.length+(d.map λc=>UInt8.ofNat c.toNat).length<=4611686018427387904)) <|
  aA (.done (aV [aG (a++(d.map λc=>UInt8.ofNat c.toNat)),aC aB 0])))))
def Zu(a b): Ep 160 [aG a,aC aB b] (HG a b):=ep
def Zt(a b): Ed 160 [aG a,aC aB b] (HG a b):=ed (Zu a b)
def zM(a:List UInt8)(b:Int): S:=⟨[aG a,bj,aG [],aC aB b]++(JU 16),[]⟩
def ZG (a:List UInt8): R :=
 aA (.head 0 (zM a (a.length:Int)))
def ZH(a): Ep 176 [aG a] (ZG a):=ep
def Fy (b:List UInt8) (a:Int): R :=
 cond (decide (a > 0))
 (gd (decide (0<=W aB (a - 1))) <|
  bk b ((W aB (a - 1)).toNat) λc =>
  cond ((c.toNat:Int)==(0:Int))
 (aA (.head 0 (zM b (W aB (a - 1)))))
 (gd (decide (0<=a)) <|
  gd (decide (a.toNat<=b.length)) <|
  aA (.done (aG (b.take a.toNat)))))
 (gd (decide (0<=a)) <|
  gd (decide (a.toNat<=b.length)) <|
  aA (.done (aG (b.take a.toNat))))
def K6(a b): Rd aE 0 176 0 (zM a b) (Fy a b):=rd
def Ib (b:List UInt8) (a:Int): R :=
 cond (decide (a < 0))
 (aA (.done (aV [aG [],aC aB 0,aC aB 1])))
 (cond (decide (a > (b.length:Int)))
 (aA (.done (aV [aG [],aC aB 0,aC aB 1])))
 (cond (a==(b.length:Int))
 (aA (.done (aV [aG [],aC aB 0,aC aB 3])))
 (gd (decide (0<=a)) <|
  bk b a.toNat λc =>
  cond (decide (W aB ((W aB (a+1))+(W aB ((c.toNat:Int)))) > (b.length:Int)))
 (aA (.done (aV [aG [],aC aB 0,aC aB 3])))
 (gd (decide (0<=W aB (a+1))) <|
  gd (decide (0<=W aB ((W aB (a+1))+(W aB ((c.toNat:Int)))))) <|
  gd (decide ((W aB (a+1)).toNat<=(W aB ((W aB (a+1))+(W aB ((c.toNat:Int))))).toNat)) <|
  gd (decide ((W aB ((W aB (a+1))+(W aB ((c.toNat:Int))))).toNat<=b.length)) <|
  aA (.done (aV [aG ((b.take ((W aB ((W aB (a+1))+(W aB ((c.toNat:Int))))).toNat)).drop ((W aB (a+1)).toNat)),aC aB (W aB ((W aB (a+1))+(W aB ((c.toNat:Int))))),aC aB 0]))))))
def aaH(a b): Ep 72 [aG a,aC aB b] (Ib a b):=ep
def aaG(a b): Ed 72 [aG a,aC aB b] (Ib a b):=ed (aaH a b)
def Ic (a:List UInt8): R :=
 cond (!(a==[]))
 (aA (.done (aW (decide ((a.length:Int)<=16)))))
 (aA (.done (aW aE)))
def aaJ(a): Ep 73 [aG a] (Ic a):=ep
def aaI(a): Ed 73 [aG a] (Ic a):=ed (aaJ a)
def Ie (a:List UInt8): R :=
 aA (.done (aW (decide ((a.length:Int)<=32))))
def aaL(a): Ep 74 [aG a] (Ie a):=ep
def aaK(a): Ed 74 [aG a] (Ie a):=ed (aaL a)
def zR(a b:List UInt8)(c:Int): S:=⟨[aG a,aG b,bj,bj,aW aE,aC aB c]++(JU 31),[]⟩
def e35 (a b:List UInt8): R :=
 aA (.head 0 (zR a b 0))
def aam(a b): Ep 35 [aG a,aG b] (e35 a b):=ep
def yM (b c:List UInt8) (a:Int): R :=
 cond (decide (a < (b.length:Int)))
 (cond (decide (a < (c.length:Int)))
 (gd (decide (0<=a)) <|
  bk b a.toNat λd =>
  gd (decide (0<=a)) <|
  bk c a.toNat λe =>
  cond ((d.toNat:Int) != (e.toNat:Int))
 (gd (decide (0<=a)) <|
  bk b a.toNat λf =>
  gd (decide (0<=a)) <|
  bk c a.toNat λg =>
  aA (.done (aW (decide ((f.toNat:Int) < (g.toNat:Int))))))
 (aA (.head 0 (zR b c (W aB (a+1))))))
 (aA (.done (aW (decide ((b.length:Int) < (c.length:Int)))))))
 (aA (.done (aW (decide ((b.length:Int) < (c.length:Int))))))
def FD(a b c): Rd aE 0 35 0 (zR a b c) (yM a b c):=rd
def H4 (a:List UInt8): R :=
 cond (decide ((a.length:Int) ≥ 1))
 (aA (.done (aW (decide ((a.length:Int)<=16)))))
 (aA (.done (aW aE)))
def aat(a): Ep 47 [aG a] (H4 a):=ep
def aas(a): Ed 47 [aG a] (H4 a):=ed (aat a)
def H5 (a:List UInt8): R :=
 aA (.done (aW (decide ((a.length:Int)<=32))))
def aav(a): Ep 48 [aG a] (H5 a):=ep
def aau(a): Ed 48 [aG a] (H5 a):=ed (aav a)
def CG(a b:List V)(c:Int): S:=⟨[aH a,aH b,bj,bj,aW aE,aC aB c]++(JU 20),[]⟩
def OV (a b:List V): R :=
 cond ((a.length:Int) != (b.length:Int))
 (aA (.done (aW aE)))
 (aA (.head 0 (CG a b 0)))
def aai(a b): Ep 23 [aH a,aH b] (OV a b):=ep
def Ld (b c:List V) (a:Int): R :=
 cond (decide (a < (b.length:Int)))
 (gd (decide (0<=a)) <|
  bk b a.toNat λd =>
  eJ d λe f =>
  gd (decide (0<=a)) <|
  bk c a.toNat λg =>
  eJ g λh i =>
  cond (!((e==h) && ((f==i) && aD)))
 (aA (.done (aW aE)))
 (aA (.head 0 (CG b c (W aB (a+1))))))
 (aA (.done (aW aD)))
def Ux(a b c): Rd aE 0 23 0 (CG a b c) (Ld a b c):=rd
def w6(a b:List V)(c:Int): S:=⟨[aH a,aH b,bj,bj,aW aE,aC aB c]++(JU 20),[]⟩
def H6 (a b:List V): R :=
 cond ((a.length:Int) != (b.length:Int))
 (aA (.done (aW aE)))
 (aA (.head 0 (w6 a b 0)))
def O2(a b): Ep 49 [aH a,aH b] (H6 a b):=ep
def FF (b c:List V) (a:Int): R :=
 cond (decide (a < (b.length:Int)))
 (gd (decide (0<=a)) <|
  bk b a.toNat λd =>
  kI aB d λe =>
  gd (decide (0<=a)) <|
  bk c a.toNat λf =>
  kI aB f λg =>
  cond (e != g)
 (aA (.done (aW aE)))
 (aA (.head 0 (w6 b c (W aB (a+1))))))
 (aA (.done (aW aD)))
def Ll(a b c): Rd aE 0 49 0 (w6 a b c) (FF a b c):=rd
def H1 (a:List UInt8): R :=
 aA (.done (aW (!(a==a))))
def aaf(a): Ep 223 [aG a] (H1 a):=ep
def aae(a): Ed 223 [aG a] (H1 a):=ed (aaf a)
def HX (a:List UInt8): R :=
 aA (.done (aW (!(a==a))))
def aaa(a): Ep 206 [aG a] (HX a):=ep
def Z9(a): Ed 206 [aG a] (HX a):=ed (aaa a)
def HW (a b:List UInt8): R :=
 aT aJ 223 [aG a] λc =>
 kB c λd =>
 cond d
 (aT aJ 223 [aG b] λe =>
  kB e λf =>
  cond (!f)
 (aA (.done (aW aD)))
 (aA (.done (aW (Op.bytesLess a b)))))
 (aA (.done (aW (Op.bytesLess a b))))
def Z8(a b): Ep 205 [aG a,aG b] (HW a b):=ep
def Z7(a b): Ed 205 [aG a,aG b] (HW a b):=ed (Z8 a b)
def sB(a:List V)(b:List UInt8)(c d e:Int): S:=⟨[aH a,aG b,bj,bj,aC aB 0,aW aE,aC aB c,aC aB d,aC aB e]++(JU 45),[]⟩
def OF (a:List V) (b:List UInt8): R :=
 aA (.head 0 (sB a b (a.length:Int) 0 (a.length:Int)))
def Zn(a b): Ep 155 [aH a,aG b] (OF a b):=ep
def Fw (c:List V) (d:List UInt8) (e a b:Int): R :=
 cond (decide (a < b))
 (gd (decide (0<=W aB ((W b9 (W aB (a+b))).fdiv (2 ^ (min 1 (bJ b9)))))) <|
  bk c ((W aB ((W b9 (W aB (a+b))).fdiv (2 ^ (min 1 (bJ b9))))).toNat) λf =>
  kS f λg =>
  aT aJ 205 [aG g,aG d] λh =>
  kB h λi =>
  cond i
 (aA (.head 0 (sB c d e (W aB ((W aB ((W b9 (W aB (a+b))).fdiv (2 ^ (min 1 (bJ b9)))))+1)) b)))
 (aA (.head 0 (sB c d e a (W aB ((W b9 (W aB (a+b))).fdiv (2 ^ (min 1 (bJ b9)))))))))
 (cond (decide (a < e))
 (gd (decide (0<=a)) <|
  bk c a.toNat λj =>
  kS j λk =>
  cond (k==d)
 (aA (.done (aV [aC aB a,aW aD])))
 (gd (decide (0<=a)) <|
  bk c a.toNat λl =>
  kS l λm =>
  aT aJ 206 [aG m] λn =>
  kB n λo =>
  cond o
 (aT aJ 206 [aG d] λp =>
  kB p λq =>
  aA (.done (aV [aC aB a,aW q])))
 (aA (.done (aV [aC aB a,aW aE])))))
 (aA (.done (aV [aC aB a,aW aE]))))
def KY(a b c d e): Rd aE 0 155 0 (sB a b c d e) (Fw a b c d e):=rd
def sC(a:List V)(b:List UInt8)(c d e:Int): S:=⟨[aH a,aG b,V.fn 157 [],bj,bj,bj,aC aB 0,aW aE,aC aB c,aC aB d,aC aB e]++(JU 38),[]⟩
def OG (a:List V) (b:List UInt8): R :=
 aA (.head 0 (sC a b (a.length:Int) 0 (a.length:Int)))
def Zo(a b): Ep 156 [aH a,aG b,V.fn 157 []] (OG a b):=ep
def Fx (c:List V) (d:List UInt8) (e a b:Int): R :=
 cond (decide (a < b))
 (gd (decide (0<=W aB ((W b9 (W aB (a+b))).fdiv (2 ^ (min 1 (bJ b9)))))) <|
  bk c ((W aB ((W b9 (W aB (a+b))).fdiv (2 ^ (min 1 (bJ b9))))).toNat) λf =>
  eJ f λg h =>
  aT aJ 157 [aI [aG g,aG h],aG d] λi =>
  kI aB i λj =>
  cond (decide (j < 0))
 (aA (.head 0 (sC c d e (W aB ((W aB ((W b9 (W aB (a+b))).fdiv (2 ^ (min 1 (bJ b9)))))+1)) b)))
 (aA (.head 0 (sC c d e a (W aB ((W b9 (W aB (a+b))).fdiv (2 ^ (min 1 (bJ b9)))))))))
 (cond (decide (a < e))
 (gd (decide (0<=a)) <|
  bk c a.toNat λk =>
  eJ k λl m =>
  aT aJ 157 [aI [aG l,aG m],aG d] λn =>
  kI aB n λo =>
  aA (.done (aV [aC aB a,aW (o==(0:Int))])))
 (aA (.done (aV [aC aB a,aW aE]))))
def KZ(a b c d e): Rd aE 0 156 0 (sC a b c d e) (Fx a b c d e):=rd
def HF (a e b:List UInt8): R :=
 aT aJ 158 [aG a,aG b] λc =>
 kI aB c λd =>
 aA (.done (aC aB d))
def Zq(a b c): Ep 157 [aI [aG a,aG b],aG c] (HF a b c):=ep
def Zp(a b c): Ed 157 [aI [aG a,aG b],aG c] (HF a b c):=ed (Zq a b c)
def HU (a:Int): R :=
 cond (decide (a ≥ 0))
 (aA (.done (aW (decide (a < 1024)))))
 (aA (.done (aW aE)))
def Z4(a): Ep 203 [aC aB a] (HU a):=ep
def ZZ(a): Ed 203 [aC aB a] (HU a):=ed (Z4 a)
def zJ(a:Int)(b:List V)(c d:Int): S:=⟨[bj,bj,aC aB 0,aC aB a]++(JU 7)++[aH b,aC aB c,aC aB d]++(JU 10),[]⟩
def OI (a c:List V) (b:List UInt8) (d:Int): R :=
 aA (.head 0 (zJ (W aB (7+(b.length:Int))) a (a.length:Int) 0))
def Zx(a b c d): Ep 163 [aI [aH a,aH b,aG c,aC aB d]] (OI a b c d):=ep
def K2 (b:Int) (c:List V) (d a:Int): R :=
 cond (decide (a < d))
 (gd (decide (0<=a)) <|
  bk c a.toNat λe =>
  kS e λf =>
  aA (.head 0 (zJ (W aB (b+(W aB (3+(f.length:Int))))) c d (W aB (a+1)))))
 (aA (.done (aC aB b)))
def Uj(a b c d): Rd aE 0 163 0 (zJ a b c d) (K2 a b c d):=rd
def HV (b c:List V) (a:List UInt8) (d:Int): R :=
 aT aJ 163 [aI [aH b,aH c,aG a,aC aB d]] λe =>
 kI aB e λf =>
 aA (.done (aW (decide (W aB ((W aB (f - (a.length:Int)))+16)<=252))))
def Z6(a b c d): Ep 204 [aI [aH a,aH b,aG c,aC aB d]] (HV a b c d):=ep
def Z5(a b c d): Ed 204 [aI [aH a,aH b,aG c,aC aB d]] (HV a b c d):=ed (Z6 a b c d)
def zI(a b c:List V)(d:List UInt8)(e:Int)(f:List UInt8): S:=⟨[bj,aL 0 0 0,aL 1 0 0,aL 2 0 0]++(JU 24)++[V.rest [9,3] a]++(JU 45),[aM 150 (aI [aH b,aH c,aG d,aC aB e]) aE,aM 4 (aW aE) aE,aM 9 (aG f) aE]⟩
def Dx (b a:List V) (c:List UInt8) (d:Int): R :=
 cond ((a.length:Int) != (W aB ((b.length:Int)+1)))
 (aA (.done (aW aE)))
 (bk a 0 λe =>
  kI aB e λf =>
  aT aJ 203 [aC aB f] λg =>
  kB g λh =>
  cond (!h)
 (aA (.done (aW aE)))
 (gd (cC 1 a) <|
  gd (decide (1<=a.length)) <|
  cg (xj [V.ref (aH b) 0,V.ref (aH ((a.take a.length).drop 1)) 0]) λi =>
  aA (.head 0 (zI (i.map aV) b a c d []))))
def HE(a b c d): Ep 154 [aI [aH a,aH b,aG c,aC aB d]] (Dx a b c d):=ep
def Fv (h e f:List V) (b:List UInt8) (a:Int) (g:List UInt8): R :=
 mh h
 (cond (b==[])
 (cond (decide (a ≥ 0))
 (cond (decide (a<=1024))
 (aT aJ 204 [aI [aH e,aH f,aG b,aC aB a]] λi =>
  kB i λj =>
  aA (.done (aW j)))
 (aA (.done (aW aE))))
 (aA (.done (aW aE))))
 (aT aJ 73 [aG b] λk =>
  kB k λl =>
  cond l
 (cond (Op.bytesLess g b)
 (cond (decide (a ≥ 0))
 (cond (decide (a<=1024))
 (aT aJ 204 [aI [aH e,aH f,aG b,aC aB a]] λm =>
  kB m λn =>
  aA (.done (aW n)))
 (aA (.done (aW aE))))
 (aA (.done (aW aE))))
 (aA (.done (aW aE))))
 (aA (.done (aW aE))))) λo p =>
  kT o λc=>cj c λq c=>kS q λd =>
  cj c λr c=>kI aB r λs =>
  er c<|aT aJ 73 [aG d] λt =>
  kB t λu =>
  cond (!u)
 (aA (.done (aW aE)))
 (cond (Op.bytesLess d g ||d==g)
 (aA (.done (aW aE)))
 (aT aJ 203 [aC aB s] λv =>
  kB v λw =>
  cond (!w)
 (aA (.done (aW aE)))
 (aA (.head 0 (zI p e f b a d)))))
def BA(a b c d e f): Rd aE 0 154 0 (zI a b c d e f) (Fv a b c d e f):=rd
def zB(a:List V)(b:List UInt8)(c:Int): S:=⟨[bj,bj,aG [],aL 0 0 0,bj,aL 1 0 0]++(JU 57)++[V.rest [9,3] a]++(JU 21),[aM 9 (aG b) aE,aM 3 (aC aB c) aE]⟩
def Hw (b a:List V) (c:List UInt8) (d:Int): R :=
 aT aJ 154 [aI [aH b,aH a,aG c,aC aB d]] λf =>
 kB f λg =>
 cond (!g)
 (aA (.done (aG [])))
 (aT aJ 163 [aI [aH b,aH a,aG c,aC aB d]] λh =>
  kI aB h λi =>
  aT aJ 160 [aG [UInt8.ofNat ((78:Int)).toNat],aC aB i] λj =>
  iC j λk w =>
  aT aJ 161 [aG k,aC aB 1,aC aB 1,aC b9 (W b9 ((b.length:Int)))] λl =>
  iC l λm x =>
  aT aJ 161 [aG m,aC aB 2,aC aB 2,aC b9 (W b9 (d))] λn =>
  iC n λo y =>
  aT aJ 162 [aG o,aC aB 4,aG c] λp =>
  gW p λq e z =>
  bk a 0 λr =>
  kI aB r λs =>
  aT aJ 161 [aG q,aC aB e,aC aB 2,aC b9 (W b9 (s))] λt =>
  iC t λu aa =>
  gd (cC 1 a) <|
  gd (decide (1<=a.length)) <|
  cg (xj [V.ref (aH b) 0,V.ref (aH ((a.take a.length).drop 1)) 0]) λv =>
  aA (.head 0 (zB (v.map aV) u (W aB (e+2)))))
def Ol(a b c d): Ep 121 [aI [aH a,aH b,aG c,aC aB d]] (Hw a b c d):=ep
def KH (d:List V) (b:List UInt8) (e:Int): R :=
 mh d
 (aA (.done (aG b))) λf g =>
  kT f λa=>cj a λh a=>kS h λi =>
  cj a λj a=>kI aB j λk =>
  er a<|aT aJ 162 [aG b,aC aB e,aG i] λl =>
  gW l λm c p =>
  aT aJ 161 [aG m,aC aB c,aC aB 2,aC b9 (W b9 (k))] λn =>
  iC n λo q =>
  aA (.head 0 (zB g o (W aB (c+2))))
def T7(a b c): Rd aE 0 121 0 (zB a b c) (KH a b c):=rd
def zE(a b:List UInt8)(c:Int)(d:Bool)(e:List UInt8)(f:Int)(g:List V): S:=⟨[aG a,bj,aL 0 0 0,aC aB 0,aL 1 0 0,aL 2 0 0,aC aB 0]++(JU 79),[aM 150 (aI [bl 3 0,bl 4 0,aG [],aC aB 0]) aE,aM 245 (aI [aG b,aC aB c,aW d]) aE,aM 150 (aI [V.nilS,bl 5 0,aG e,aC aB f]) aE,aN 9 [] 0,aN 3 [] 0,aN 3 g 0]⟩
def o5(a:List UInt8)(b:Int)(c:List UInt8)(d:Int)(e:Bool)(f:List UInt8)(g:Int)(h i:List V): S:=⟨[aG a,bj,aL 0 0 0,aC aB 0,aL 1 0 0,aL 2 0 0,aC aB b]++(JU 79),[aM 150 (aI [bl 3 0,bl 4 0,aG [],aC aB 0]) aE,aM 245 (aI [aG c,aC aB d,aW e]) aE,aM 150 (aI [bl 5 0,bl 6 0,aG f,aC aB g]) aE,aN 9 [] 0,aN 3 [] 0,aN 9 h 0,aN 3 i 0]⟩
def qN (a:List UInt8): R :=
 cond (decide ((a.length:Int)<=4))
 (aA (.done (aV [aI [aH [],aH [],aG [],aC aB 0],aC aB 4])))
 (cond (decide ((a.length:Int) > 252))
 (aA (.done (aV [aI [aH [],aH [],aG [],aC aB 0],aC aB 4])))
 (bk a 0 λg =>
  cond ((g.toNat:Int) != (78:Int))
 (aA (.done (aV [aI [aH [],aH [],aG [],aC aB 0],aC aB 4])))
 (aT aJ 214 [aG a,aC aB 2,aC aB 2] λh =>
  mH h λd i =>
  aT aJ 71 [aG a,aC aB 4] λj =>
  gW j λe b k =>
  cond (i==(0:Int))
 (aT aJ 214 [aG a,aC aB (if 4 < b then b else 4),aC aB 2] λl =>
  mH l λc m =>
  cond (k==(0:Int))
 (gd (decide (([aC aB (W aB (c))]:List V).length<=16777216)) <|
  aA (.head 0 (zE a a (W aB ((if 4 < b then b else 4)+2)) (m==(0:Int)) e (W aB (d)) [aC aB (W aB (c))])))
 (gd (decide (([aC aB (W aB (c))]:List V).length<=16777216)) <|
  aA (.head 0 (zE a a (W aB ((if 4 < b then b else 4)+2)) aE e (W aB (d)) [aC aB (W aB (c))]))))
 (aT aJ 214 [aG a,aC aB (if 4 < b then b else 4),aC aB 2] λn =>
  mH n λf o =>
  gd (decide (([aC aB (W aB (f))]:List V).length<=16777216)) <|
  aA (.head 0 (zE a a (W aB ((if 4 < b then b else 4)+2)) aE e (W aB (d)) [aC aB (W aB (f))]))))))
def xr(a): Ep 130 [aG a] (qN a):=ep
def wi (b g:List UInt8) (a:Int) (i:Bool) (e:List UInt8) (f:Int) (c:List V): R :=
 cond i
 (bk b 1 λl =>
  cond (decide (0 < W aB ((l.toNat:Int))))
 (aT aJ 71 [aG g,aC aB a] λm =>
  gW m λh d n =>
  cond i
 (gd (decide (([aG h]:List V).length<=16777216)) <|
  aT aJ 214 [aG g,aC aB (if a < d then d else a),aC aB 2] λo =>
  mH o λj p =>
  cond (n==(0:Int))
 (gd (decide (c.length+([aC aB (W aB (j))]:List V).length<=16777216)) <|
  aA (.head 0 (o5 b 1 g (W aB ((if a < d then d else a)+2)) (p==(0:Int)) e f [aG h] (c++[aC aB (W aB (j))]))))
 (gd (decide (c.length+([aC aB (W aB (j))]:List V).length<=16777216)) <|
  aA (.head 0 (o5 b 1 g (W aB ((if a < d then d else a)+2)) aE e f [aG h] (c++[aC aB (W aB (j))])))))
 (gd (decide (([aG h]:List V).length<=16777216)) <|
  aT aJ 214 [aG g,aC aB (if a < d then d else a),aC aB 2] λq =>
  mH q λk z =>
  gd (decide (c.length+([aC aB (W aB (k))]:List V).length<=16777216)) <|
  aA (.head 0 (o5 b 1 g (W aB ((if a < d then d else a)+2)) aE e f [aG h] (c++[aC aB (W aB (k))])))))
 (cond (!i)
 (aA (.done (aV [aI [aH [],aH [],aG [],aC aB 0],aC aB 4])))
 (aT aJ 154 [aI [aH [],aH c,aG e,aC aB f]] λr =>
  kB r λs =>
  cond (!s)
 (aA (.done (aV [aI [aH [],aH [],aG [],aC aB 0],aC aB 4])))
 (gd (decide (0<=a)) <|
  gd (decide (a.toNat<=b.length)) <|
  aT aJ 176 [aG ((b.take b.length).drop a.toNat)] λt =>
  kS t λu =>
  cond (!(u==[]))
 (aA (.done (aV [aI [aH [],aH [],aG [],aC aB 0],aC aB 4])))
 (aA (.done (aV [aI [aH [],aH c,aG e,aC aB f],aC aB 0])))))))
 (cond (!i)
 (aA (.done (aV [aI [aH [],aH [],aG [],aC aB 0],aC aB 4])))
 (aT aJ 154 [aI [aH [],aH c,aG e,aC aB f]] λv =>
  kB v λw =>
  cond (!w)
 (aA (.done (aV [aI [aH [],aH [],aG [],aC aB 0],aC aB 4])))
 (gd (decide (0<=a)) <|
  gd (decide (a.toNat<=b.length)) <|
  aT aJ 176 [aG ((b.take b.length).drop a.toNat)] λx =>
  kS x λy =>
  cond (!(y==[]))
 (aA (.done (aV [aI [aH [],aH [],aG [],aC aB 0],aC aB 4])))
 (aA (.done (aV [aI [aH [],aH c,aG e,aC aB f],aC aB 0]))))))
def yI(a b c d e f g): Rd aE 0 130 0 (zE a b c d e f g) (wi a b c d e f g):=rd
def t6 (b:List UInt8) (j:Int) (h:List UInt8) (a:Int) (k:Bool) (f:List UInt8) (g:Int) (e c:List V): R :=
 cond k
 (bk b 1 λn =>
  cond (decide (j < W aB ((n.toNat:Int))))
 (aT aJ 71 [aG h,aC aB a] λo =>
  gW o λi d p =>
  cond k
 (gd (decide (e.length+([aG i]:List V).length<=16777216)) <|
  aT aJ 214 [aG h,aC aB (if a < d then d else a),aC aB 2] λq =>
  mH q λl r =>
  cond (p==(0:Int))
 (gd (decide (c.length+([aC aB (W aB (l))]:List V).length<=16777216)) <|
  aA (.head 0 (o5 b (W aB (j+1)) h (W aB ((if a < d then d else a)+2)) (r==(0:Int)) f g (e++[aG i]) (c++[aC aB (W aB (l))]))))
 (gd (decide (c.length+([aC aB (W aB (l))]:List V).length<=16777216)) <|
  aA (.head 0 (o5 b (W aB (j+1)) h (W aB ((if a < d then d else a)+2)) aE f g (e++[aG i]) (c++[aC aB (W aB (l))])))))
 (gd (decide (e.length+([aG i]:List V).length<=16777216)) <|
  aT aJ 214 [aG h,aC aB (if a < d then d else a),aC aB 2] λs =>
  mH s λm ab =>
  gd (decide (c.length+([aC aB (W aB (m))]:List V).length<=16777216)) <|
  aA (.head 0 (o5 b (W aB (j+1)) h (W aB ((if a < d then d else a)+2)) aE f g (e++[aG i]) (c++[aC aB (W aB (m))])))))
 (cond (!k)
 (aA (.done (aV [aI [aH [],aH [],aG [],aC aB 0],aC aB 4])))
 (aT aJ 154 [aI [aH e,aH c,aG f,aC aB g]] λt =>
  kB t λu =>
  cond (!u)
 (aA (.done (aV [aI [aH [],aH [],aG [],aC aB 0],aC aB 4])))
 (gd (decide (0<=a)) <|
  gd (decide (a.toNat<=b.length)) <|
  aT aJ 176 [aG ((b.take b.length).drop a.toNat)] λv =>
  kS v λw =>
  cond (!(w==[]))
 (aA (.done (aV [aI [aH [],aH [],aG [],aC aB 0],aC aB 4])))
 (aA (.done (aV [aI [aH e,aH c,aG f,aC aB g],aC aB 0])))))))
 (cond (!k)
 (aA (.done (aV [aI [aH [],aH [],aG [],aC aB 0],aC aB 4])))
 (aT aJ 154 [aI [aH e,aH c,aG f,aC aB g]] λx =>
  kB x λy =>
  cond (!y)
 (aA (.done (aV [aI [aH [],aH [],aG [],aC aB 0],aC aB 4])))
 (gd (decide (0<=a)) <|
  gd (decide (a.toNat<=b.length)) <|
  aT aJ 176 [aG ((b.take b.length).drop a.toNat)] λz =>
  kS z λaa =>
  cond (!(aa==[]))
 (aA (.done (aV [aI [aH [],aH [],aG [],aC aB 0],aC aB 4])))
 (aA (.done (aV [aI [aH e,aH c,aG f,aC aB g],aC aB 0]))))))
def t7(a b c d e f g h i): Rd aE 0 130 0 (o5 a b c d e f g h i) (t6 a b c d e f g h i):=rd
def Hs (b f:List V) (c:List UInt8) (g:Int) (a:List UInt8): R :=
 aT aJ 154 [aI [aH b,aH f,aG c,aC aB g]] λh =>
 kB h λi =>
 cond (!i)
 (aA (.done (aV [aC aB 0,aC aB 1])))
 (aT aJ 73 [aG a] λj =>
  kB j λk =>
  cond (!k)
 (aA (.done (aV [aC aB 0,aC aB 1])))
 (cond (!(c==[]))
 (cond (!Op.bytesLess a c)
 (aA (.done (aV [aC aB 0,aC aB 1])))
 (aT aJ 155 [aH b,aG a] λl =>
  lu l λd m =>
  cond m
 (aA (.done (aV [aC aB (W aB (d+1)),aC aB 0])))
 (aA (.done (aV [aC aB d,aC aB 0])))))
 (aT aJ 155 [aH b,aG a] λn =>
  lu n λe o =>
  cond o
 (aA (.done (aV [aC aB (W aB (e+1)),aC aB 0])))
 (aA (.done (aV [aC aB e,aC aB 0]))))))
def YK(a b c d e): Ep 114 [aI [aH a,aH b,aG c,aC aB d],aG e] (Hs a b c d e):=ep
def YJ(a b c d e): Ed 114 [aI [aH a,aH b,aG c,aC aB d],aG e] (Hs a b c d e):=ed (YK a b c d e)
def HK (j k:List V) (h:List UInt8) (i:Int) (b:List UInt8) (c:Int): R :=
 aT aJ 114 [aI [aH j,aH k,aG h,aC aB i],aG b] λl =>
 uT l λa m =>
 cond (m != (0:Int))
 (aA (.done (aV [aI [aH [],aH [],aG [],aC aB 0],aC aB 1])))
 (aT aJ 203 [aC aB c] λn =>
  kB n λo =>
  cond (!o)
 (aA (.done (aV [aI [aH [],aH [],aG [],aC aB 0],aC aB 1])))
 (cond (decide (a > 0))
 (gd (decide (0<=W aB (a - 1))) <|
  bk j ((W aB (a - 1)).toNat) λp =>
  kS p λq =>
  cond (q==b)
 (aA (.done (aV [aI [aH [],aH [],aG [],aC aB 0],aC aB 8])))
 (aT aJ 171 [aH j] λr =>
  kF 9 r λd =>
  gd (decide (0<=a/\a.toNat<=d.length/\d.length+([aG b]:List V).length<=16777216)) <|
  aT aJ 173 [aH k] λs =>
  kF 3 s λe =>
  gd (decide (0<=W aB (a+1)/\(W aB (a+1)).toNat<=e.length/\e.length+([aC aB c]:List V).length<=16777216)) <|
  aT aJ 204 [aI [aH (((d.take a.toNat)++[aG b])++(d.drop a.toNat)),aH (((e.take ((W aB (a+1)).toNat))++[aC aB c])++(e.drop ((W aB (a+1)).toNat))),aG h,aC aB i]] λt =>
  kB t λu =>
  cond (!u)
 (aA (.done (aV [aI [aH [],aH [],aG [],aC aB 0],aC aB 6])))
 (aA (.done (aV [aI [aH (((d.take a.toNat)++[aG b])++(d.drop a.toNat)),aH (((e.take ((W aB (a+1)).toNat))++[aC aB c])++(e.drop ((W aB (a+1)).toNat))),aG h,aC aB i],aC aB 0])))))
 (aT aJ 171 [aH j] λv =>
  kF 9 v λf =>
  gd (decide (0<=a/\a.toNat<=f.length/\f.length+([aG b]:List V).length<=16777216)) <|
  aT aJ 173 [aH k] λw =>
  kF 3 w λg =>
  gd (decide (0<=W aB (a+1)/\(W aB (a+1)).toNat<=g.length/\g.length+([aC aB c]:List V).length<=16777216)) <|
  aT aJ 204 [aI [aH (((f.take a.toNat)++[aG b])++(f.drop a.toNat)),aH (((g.take ((W aB (a+1)).toNat))++[aC aB c])++(g.drop ((W aB (a+1)).toNat))),aG h,aC aB i]] λx =>
  kB x λy =>
  cond (!y)
 (aA (.done (aV [aI [aH [],aH [],aG [],aC aB 0],aC aB 6])))
 (aA (.done (aV [aI [aH (((f.take a.toNat)++[aG b])++(f.drop a.toNat)),aH (((g.take ((W aB (a+1)).toNat))++[aC aB c])++(g.drop ((W aB (a+1)).toNat))),aG h,aC aB i],aC aB 0]))))))
def ZB(a b c d e f): Ep 167 [aI [aH a,aH b,aG c,aC aB d],aG e,aC aB f] (HK a b c d e f):=ep
def ZA(a b c d e f): Ed 167 [aI [aH a,aH b,aG c,aC aB d],aG e,aC aB f] (HK a b c d e f):=ed (ZB a b c d e f)
def Hz (e b:List V) (f:List UInt8) (g a:Int): R :=
 aT aJ 154 [aI [aH e,aH b,aG f,aC aB g]] λh =>
 kB h λi =>
 cond (!i)
 (aA (.done (aV [aI [aH [],aH [],aG [],aC aB 0],aC aB 1])))
 (cond (decide (a < 0))
 (aA (.done (aV [aI [aH [],aH [],aG [],aC aB 0],aC aB 1])))
 (cond (decide (a ≥ (b.length:Int)))
 (aA (.done (aV [aI [aH [],aH [],aG [],aC aB 0],aC aB 1])))
 (cond ((b.length:Int)==(1:Int))
 (aA (.done (aV [aI [aH [],aH [],aG [],aC aB 0],aC aB 1])))
 (aT aJ 171 [aH e] λj =>
  kF 9 j λc =>
  gd (decide (0<=(if 0 < W aB (a - 1) then W aB (a - 1) else 0)/\(if 0 < W aB (a - 1) then W aB (a - 1) else 0)<=W aB ((if 0 < W aB (a - 1) then W aB (a - 1) else 0)+1)/\(W aB ((if 0 < W aB (a - 1) then W aB (a - 1) else 0)+1)).toNat<=c.length/\c.length<=16777216)) <|
  aT aJ 173 [aH b] λk =>
  kF 3 k λd =>
  gd (decide (0<=a/\a<=W aB (a+1)/\(W aB (a+1)).toNat<=d.length/\d.length<=16777216)) <|
  aA (.done (aV [aI [aH ((c.take ((if 0 < W aB (a - 1) then W aB (a - 1) else 0).toNat))++(c.drop ((W aB ((if 0 < W aB (a - 1) then W aB (a - 1) else 0)+1)).toNat))),aH ((d.take a.toNat)++(d.drop ((W aB (a+1)).toNat))),aG f,aC aB g],aC aB 0]))))))
def YX(a b c d e): Ep 126 [aI [aH a,aH b,aG c,aC aB d],aC aB e] (Hz a b c d e):=ep
def YW(a b c d e): Ed 126 [aI [aH a,aH b,aG c,aC aB d],aC aB e] (Hz a b c d e):=ed (YX a b c d e)
def HL (a b:List V) (c:List UInt8) (d e:Int): R :=
 aT aJ 154 [aI [aH a,aH b,aG c,aC aB d]] λg =>
 kB g λh =>
 cond (!h)
 (aA (.done (aV [aI [aH [],aH [],aG [],aC aB 0],aI [aH [],aH [],aG [],aC aB 0],aG [],aC aB 1])))
 (cond (decide ((b.length:Int) < 3))
 (aA (.done (aV [aI [aH [],aH [],aG [],aC aB 0],aI [aH [],aH [],aG [],aC aB 0],aG [],aC aB 1])))
 (aT aJ 203 [aC aB e] λi =>
  kB i λj =>
  cond (!j)
 (aA (.done (aV [aI [aH [],aH [],aG [],aC aB 0],aI [aH [],aH [],aG [],aC aB 0],aG [],aC aB 1])))
 (gd (decide (0<=W aB (((a.length:Int).tdiv 2)))) <|
  bk a ((W aB (((a.length:Int).tdiv 2))).toNat) λk =>
  kS k λf =>
  gd (cC 1 a) <|
  gd (decide (0<=W aB (((a.length:Int).tdiv 2)))) <|
  gd (decide ((W aB (((a.length:Int).tdiv 2))).toNat<=a.length)) <|
  aT aJ 171 [aH (a.take ((W aB (((a.length:Int).tdiv 2))).toNat))] λl =>
  kF 9 l λm =>
  gd (cC 1 b) <|
  gd (decide (0<=W aB ((W aB (((a.length:Int).tdiv 2)))+1))) <|
  gd (decide ((W aB ((W aB (((a.length:Int).tdiv 2)))+1)).toNat<=b.length)) <|
  aT aJ 173 [aH (b.take ((W aB ((W aB (((a.length:Int).tdiv 2)))+1)).toNat))] λn =>
  kF 3 n λo =>
  gd (cC 1 a) <|
  gd (decide (0<=W aB ((W aB (((a.length:Int).tdiv 2)))+1))) <|
  gd (decide ((W aB ((W aB (((a.length:Int).tdiv 2)))+1)).toNat<=a.length)) <|
  aT aJ 171 [aH ((a.take a.length).drop ((W aB ((W aB (((a.length:Int).tdiv 2)))+1)).toNat))] λp =>
  kF 9 p λq =>
  gd (cC 1 b) <|
  gd (decide (0<=W aB ((W aB (((a.length:Int).tdiv 2)))+1))) <|
  gd (decide ((W aB ((W aB (((a.length:Int).tdiv 2)))+1)).toNat<=b.length)) <|
  aT aJ 173 [aH ((b.take b.length).drop ((W aB ((W aB (((a.length:Int).tdiv 2)))+1)).toNat))] λr =>
  kF 3 r λs =>
  aA (.done (aV [aI [aH m,aH o,aG f,aC aB (W aB (e+1))],aI [aH q,aH s,aG c,aC aB d],aG f,aC aB 0])))))
def ZD(a b c d e): Ep 168 [aI [aH a,aH b,aG c,aC aB d],aC aB e] (HL a b c d e):=ep
def ZC(a b c d e): Ed 168 [aI [aH a,aH b,aG c,aC aB d],aC aB e] (HL a b c d e):=ed (ZD a b c d e)
def HJ (a b:List UInt8): R :=
 aA (.done (aC aB (W aB ((W aB (2+(a.length:Int)))+(b.length:Int)))))
def Zz(a b): Ep 165 [aI [aG a,aG b]] (HJ a b):=ep
def Zy(a b): Ed 165 [aI [aG a,aG b]] (HJ a b):=ed (Zz a b)
def wY(a:Int)(b:List V)(c d:Int): S:=⟨[bj,bj,aC aB 0,aC aB a]++(JU 7)++[aH b,aC aB c,aC aB d]++(JU 9),[]⟩
def OH (a:List V) (b:List UInt8) (c:Int): R :=
 aA (.head 0 (wY (W aB (5+(b.length:Int))) a (a.length:Int) 0))
def Zr(a b c): Ep 159 [aI [aH a,aG b,aC aB c]] (OH a b c):=ep
def K0 (b:Int) (c:List V) (d a:Int): R :=
 cond (decide (a < d))
 (gd (decide (0<=a)) <|
  bk c a.toNat λe =>
  eJ e λf g =>
  aT aJ 165 [aI [aG f,aG g]] λh =>
  kI aB h λi =>
  aA (.head 0 (wY (W aB (b+i)) c d (W aB (a+1)))))
 (aA (.done (aC aB b)))
def Uh(a b c d): Rd aE 0 159 0 (wY a b c d) (K0 a b c d):=rd
def Hv (b:List V) (a:List UInt8) (c:Int): R :=
 aT aJ 159 [aI [aH b,aG a,aC aB c]] λd =>
 kI aB d λe =>
 aA (.done (aW (decide (W aB ((W aB (e - (a.length:Int)))+16)<=252))))
def YR(a b c): Ep 118 [aI [aH a,aG b,aC aB c]] (Hv a b c):=ep
def YQ(a b c): Ed 118 [aI [aH a,aG b,aC aB c]] (Hv a b c):=ed (YR a b c)
def zz(a:List UInt8)(b:List V)(c d:Int)(e:List V)(f:List UInt8)(g:Int): S:=⟨[bj,aL 0 0 0,aW aE,aG a]++(JU 4)++[aH b,aC aB c,aC aB d]++(JU 51),[aM 120 (aI [aH e,aG f,aC aB g]) aE]⟩
def Og (a:List V) (b:List UInt8) (c:Int): R :=
 aA (.head 0 (zz [] a (a.length:Int) 0 a b c))
def YL(a b c): Ep 115 [aI [aH a,aG b,aC aB c]] (Og a b c):=ep
def Fl (e:List UInt8) (g:List V) (h c:Int) (f:List V) (b:List UInt8) (a:Int): R :=
 cond (decide (c < h))
 (gd (decide (0<=c)) <|
  bk g c.toNat λi =>
  eJ i λd j =>
  aT aJ 73 [aG d] λk =>
  kB k λl =>
  cond (!l)
 (aA (.done (aW aE)))
 (aT aJ 74 [aG j] λm =>
  kB m λn =>
  cond (!n)
 (aA (.done (aW aE)))
 (cond (Op.bytesLess d e ||d==e)
 (aA (.done (aW aE)))
 (aA (.head 0 (zz d g h (W aB (c+1)) f b a))))))
 (cond (b==[])
 (cond (decide (a ≥ 0))
 (cond (decide (a<=1024))
 (aT aJ 118 [aI [aH f,aG b,aC aB a]] λo =>
  kB o λp =>
  aA (.done (aW p)))
 (aA (.done (aW aE))))
 (aA (.done (aW aE))))
 (aT aJ 73 [aG b] λq =>
  kB q λr =>
  cond r
 (cond (Op.bytesLess e b)
 (cond (decide (a ≥ 0))
 (cond (decide (a<=1024))
 (aT aJ 118 [aI [aH f,aG b,aC aB a]] λs =>
  kB s λt =>
  aA (.done (aW t)))
 (aA (.done (aW aE))))
 (aA (.done (aW aE))))
 (aA (.done (aW aE))))
 (aA (.done (aW aE)))))
def Bv(a b c d e f g): Rd aE 0 115 0 (zz a b c d e f g) (Fl a b c d e f g):=rd
def zA(a:List UInt8)(b:Int)(c:List V)(d e:Int): S:=⟨[bj,bj,aG [],aG a,bj,aC aB b]++(JU 40)++[aH c,aC aB d,aC aB e]++(JU 23),[]⟩
def Oj (a:List V) (b:List UInt8) (c:Int): R :=
 aT aJ 115 [aI [aH a,aG b,aC aB c]] λd =>
 kB d λe =>
 cond (!e)
 (aA (.done (aG [])))
 (aT aJ 159 [aI [aH a,aG b,aC aB c]] λf =>
  kI aB f λg =>
  aT aJ 160 [aG [UInt8.ofNat ((76:Int)).toNat],aC aB g] λh =>
  iC h λi q =>
  aT aJ 161 [aG i,aC aB 1,aC aB 1,aC b9 (W b9 ((a.length:Int)))] λj =>
  iC j λk r =>
  aT aJ 161 [aG k,aC aB 2,aC aB 2,aC b9 (W b9 (c))] λl =>
  iC l λm s =>
  aT aJ 162 [aG m,aC aB 4,aG b] λn =>
  gW n λo p t =>
  aA (.head 0 (zA o p a (a.length:Int) 0)))
def YT(a b c): Ep 120 [aI [aH a,aG b,aC aB c]] (Oj a b c):=ep
def KG (b:List UInt8) (e:Int) (c:List V) (d a:Int): R :=
 cond (decide (a < d))
 (gd (decide (0<=a)) <|
  bk c a.toNat λf =>
  eJ f λg h =>
  aT aJ 162 [aG b,aC aB e,aG g] λi =>
  gW i λj k o =>
  aT aJ 162 [aG j,aC aB k,aG h] λl =>
  gW l λm n p =>
  aA (.head 0 (zA m n c d (W aB (a+1)))))
 (aA (.done (aG b)))
def T6(a b c d e): Rd aE 0 120 0 (zA a b c d e) (KG a b c d e):=rd
def GB(a:List UInt8)(b c:Int)(d:List UInt8)(e:Int): S:=⟨[aG a,bj,aL 0 0 0,aC aB 0,aW aE,aC b9 b]++(JU 4)++[aC aB c,bj,aL 1 0 0,aW aD]++(JU 75),[aM 120 (aI [bl 2 0,aG [],aC aB 0]) aE,aM 120 (aI [V.nilS,aG d,aC aB e]) aE,aN 41 [] 0]⟩
def MY(a:List UInt8)(b c d:Int)(e:List UInt8)(f:Int): S:=⟨[aG a,bj,aL 0 0 0,aC aB 0,aW aE,aC b9 b]++(JU 4)++[aC aB c,bj,aL 1 0 0,aW aD]++(JU 42)++[aC b9 d,aC b9 0]++(JU 31),[aM 120 (aI [bl 2 0,aG [],aC aB 0]) aE,aM 120 (aI [V.nilS,aG e,aC aB f]) aE,aN 41 [] 0]⟩
def qC(a:List UInt8)(b c d e:Int)(f:List UInt8)(g:Int)(h i:List UInt8): S:=⟨[aG a,bj,aL 0 0 0,aC aB 0,aW aE,aC b9 b]++(JU 4)++[aC aB c,bj,aL 1 0 0,aW aD,aL 2 0 0]++(JU 41)++[aC b9 d,aC b9 0,bj,bj,bj,aI [aL 2 0 0,aL 2 0 1],aC aB e]++(JU 26),[aM 120 (aI [bl 3 0,aG [],aC aB 0]) aE,aM 120 (aI [V.nilS,aG f,aC aB g]) aE,aM 41 (aI [aG h,aG i]) aE,aN 41 [] 0]⟩
def CE(a:List UInt8)(b c d e:Int)(f:List UInt8)(g:Int)(h:List V): S:=⟨[aG a,bj,aL 0 0 0,aC aB 0,aW aE,aC b9 b]++(JU 4)++[aC aB c,bj,aL 1 0 0,aW aD]++(JU 42)++[aC b9 d,aC b9 e]++(JU 31),[aM 120 (aI [bl 2 0,aG [],aC aB 0]) aE,aM 120 (aI [bl 3 0,aG f,aC aB g]) aE,aN 41 [] 0,aN 41 h 0]⟩
def qD(a:List UInt8)(b c d e f:Int)(g:List UInt8)(h:Int)(i j:List UInt8)(k:List V): S:=⟨[aG a,bj,aL 0 0 0,aC aB 0,aW aE,aC b9 b]++(JU 4)++[aC aB c,bj,aL 1 0 0,aW aD,aL 2 0 0]++(JU 41)++[aC b9 d,aC b9 e,bj,bj,bj,aI [aL 2 0 0,aL 2 0 1],aC aB f]++(JU 26),[aM 120 (aI [bl 3 0,aG [],aC aB 0]) aE,aM 120 (aI [bl 4 0,aG g,aC aB h]) aE,aM 41 (aI [aG i,aG j]) aE,aN 41 [] 0,aN 41 k 0]⟩
def HM (a:List UInt8): R :=
 aT aJ 214 [aG a,aC aB 1,aC aB 1] λb =>
 mH b λc d =>
 aT aJ 214 [aG a,aC aB 2,aC aB 2] λe =>
 mH e λf g =>
 aT aJ 71 [aG a,aC aB 4] λh =>
 gW h λi j k =>
 cond (d != (0:Int))
 (aA (.done (aV [aI [aH [],aG [],aC aB 0],aC aB 0,aW aE])))
 (cond (g != (0:Int))
 (aA (.done (aV [aI [aH [],aG [],aC aB 0],aC aB 0,aW aE])))
 (cond (k != (0:Int))
 (aA (.done (aV [aI [aH [],aG [],aC aB 0],aC aB 0,aW aE])))
 (bk a 0 λl =>
  cond ((l.toNat:Int) != (76:Int))
 (aA (.done (aV [aI [aH [],aG [],aC aB 0],aC aB 0,aW aE])))
 (aA (.head 0 (GB a c j i (W aB (f))))))))
def OL(a): Ep 175 [aG a] (HM a):=ep
def aha (b:List UInt8) (a c:Int) (d:List UInt8) (e:Int): R :=
 aA (.head 1 (MY b a c a d e))
def ahb(a b c d e): Rd aE 0 175 0 (GB a b c d e) (aha a b c d e):=rd
def K4 (e:List UInt8) (f a b:Int) (c:List UInt8) (d:Int): R :=
 cond (decide (0 < b))
 (aA (.head 2 (qC e f a b 0 c d [] [])))
 (aA (.done (aV [aI [aH [],aG c,aC aB d],aC aB a,aW aD])))
def Ul(a b c d e f): Rd aE 0 175 1 (MY a b c d e f) (K4 a b c d e f):=rd
def Un (a:List UInt8) (e b f:Int) (c:List UInt8) (d:Int) (l g:List UInt8): R :=
 aT aJ 71 [aG a,aC aB b] λh =>
 gW h λi j k =>
 cond (k != (0:Int))
 (aA (.done (aV [aI [aH [],aG c,aC aB d],aC aB b,aW aE])))
 (aA (.head 2 (qC a e j f 1 c d i g)))
def ahc(a b c d e f g h): Rd aE 0 175 2 (qC a b c d 0 e f g h) (Un a b c d e f g h):=rd
def Uo (a:List UInt8) (e b f:Int) (c:List UInt8) (d:Int) (g l:List UInt8): R :=
 aT aJ 71 [aG a,aC aB b] λh =>
 gW h λi j k =>
 cond (k != (0:Int))
 (aA (.done (aV [aI [aH [],aG c,aC aB d],aC aB b,aW aE])))
 (aA (.head 2 (qC a e j f 2 c d g i)))
def ahd(a b c d e f g h): Rd aE 0 175 2 (qC a b c d 1 e f g h) (Uo a b c d e f g h):=rd
def Up (c:List UInt8) (d e f:Int) (g:List UInt8) (h:Int) (a b:List UInt8): R :=
 gd (decide (([aI [aG a,aG b]]:List V).length<=16777216)) <|
 aA (.head 1 (CE c d e f (W b9 (0+1)) g h [aI [aG a,aG b]]))
def ahe(a b c d e f g h): Rd aE 0 175 2 (qC a b c d 2 e f g h) (Up a b c d e f g h):=rd
def K5 (g:List UInt8) (h a b c:Int) (d:List UInt8) (e:Int) (f:List V): R :=
 cond (decide (c < b))
 (aA (.head 2 (qD g h a b c 0 d e [] [] f)))
 (aA (.done (aV [aI [aH f,aG d,aC aB e],aC aB a,aW aD])))
def Um(a b c d e f g h): Rd aE 0 175 1 (CE a b c d e f g h) (K5 a b c d e f g h):=rd
def Uq (a:List UInt8) (f b g h:Int) (c:List UInt8) (d:Int) (n i:List UInt8) (e:List V): R :=
 aT aJ 71 [aG a,aC aB b] λj =>
 gW j λk l m =>
 cond (m != (0:Int))
 (aA (.done (aV [aI [aH e,aG c,aC aB d],aC aB b,aW aE])))
 (aA (.head 2 (qD a f l g h 1 c d k i e)))
def ahf(a b c d e f g h i j): Rd aE 0 175 2 (qD a b c d e 0 f g h i j) (Uq a b c d e f g h i j):=rd
def Ur (a:List UInt8) (f b g h:Int) (c:List UInt8) (d:Int) (i n:List UInt8) (e:List V): R :=
 aT aJ 71 [aG a,aC aB b] λj =>
 gW j λk l m =>
 cond (m != (0:Int))
 (aA (.done (aV [aI [aH e,aG c,aC aB d],aC aB b,aW aE])))
 (aA (.head 2 (qD a f l g h 2 c d i k e)))
def ahg(a b c d e f g h i j): Rd aE 0 175 2 (qD a b c d e 1 f g h i j) (Ur a b c d e f g h i j):=rd
def Us (d:List UInt8) (e f g h:Int) (i:List UInt8) (j:Int) (a b:List UInt8) (c:List V): R :=
 gd (decide (c.length+([aI [aG a,aG b]]:List V).length<=16777216)) <|
 aA (.head 1 (CE d e f g (W b9 (h+1)) i j (c++[aI [aG a,aG b]])))
def ahh(a b c d e f g h i j): Rd aE 0 175 2 (qD a b c d e 2 f g h i j) (Us a b c d e f g h i j):=rd
def Dv (a:List UInt8): R :=
 cond (decide ((a.length:Int) > 252))
 (aA (.done (aV [aI [aH [],aG [],aC aB 0],aC aB 4])))
 (aT aJ 175 [aG a] λf =>
  Dk f λc d e b g =>
  cond (!g)
 (aA (.done (aV [aI [aH [],aG [],aC aB 0],aC aB 4])))
 (aT aJ 115 [aI [aH c,aG d,aC aB e]] λh =>
  kB h λi =>
  cond (!i)
 (aA (.done (aV [aI [aH [],aG [],aC aB 0],aC aB 4])))
 (gd (decide (0<=b)) <|
  gd (decide (b.toNat<=a.length)) <|
  aT aJ 176 [aG ((a.take a.length).drop b.toNat)] λj =>
  kS j λk =>
  cond (!(k==[]))
 (aA (.done (aV [aI [aH [],aG [],aC aB 0],aC aB 4])))
 (aA (.done (aV [aI [aH c,aG d,aC aB e],aC aB 0]))))))
def Y1(a): Ep 129 [aG a] (Dv a):=ep
def Ot(a): Ed 129 [aG a] (Dv a):=ed (Y1 a)
def Ht (a:List V) (f:List UInt8) (g:Int) (b:List UInt8): R :=
 aT aJ 156 [aH a,aG b,V.fn 157 []] λc =>
 lu c λd e =>
 aA (.done (aV [aC aB d,aW e]))
def YN(a b c d): Ep 116 [aI [aH a,aG b,aC aB c],aG d] (Ht a b c d):=ep
def YM(a b c d): Ed 116 [aI [aH a,aG b,aC aB c],aG d] (Ht a b c d):=ed (YN a b c d)
def Hu (b:List V) (a d:Int) (c:List V): R :=
 gd (decide (0<=a)) <|
 gd (decide (a<=W aB ((b.length:Int)+(c.length:Int)))) <|
 gd (decide ((W aB ((b.length:Int)+(c.length:Int))).toNat<=16777216)) <|
 gd (cC 2 b) <|
 gd (decide (0<=a)) <|
 gd (decide (a.toNat<=b.length)) <|
 gd (cC 2 (b.take a.toNat)) <|
 gd (decide (0+((cA a.toNat (aI [aG [],aG []])).length)<=(cA a.toNat (aI [aG [],aG []])).length)) <|
 gd (cC 2 c) <|
 gd (decide (((cA a.toNat (aI [aG [],aG []])).take 0++(b.take a.toNat).take (min (b.take a.toNat).length ((cA a.toNat (aI [aG [],aG []])).length))++(cA a.toNat (aI [aG [],aG []])).drop (0+min (b.take a.toNat).length ((cA a.toNat (aI [aG [],aG []])).length))).length+c.length<=16777216)) <|
 gd (cC 2 b) <|
 gd (decide (0<=d)) <|
 gd (decide (d.toNat<=b.length)) <|
 gd (cC 2 ((b.take b.length).drop d.toNat)) <|
 gd (decide ((((cA a.toNat (aI [aG [],aG []])).take 0++(b.take a.toNat).take (min (b.take a.toNat).length ((cA a.toNat (aI [aG [],aG []])).length))++(cA a.toNat (aI [aG [],aG []])).drop (0+min (b.take a.toNat).length ((cA a.toNat (aI [aG [],aG []])).length)))++c).length+((b.take b.length).drop d.toNat).length<=16777216)) <|
 gd (((((cA a.toNat (aI [aG [],aG []])).take 0++(b.take a.toNat).take (min (b.take a.toNat).length ((cA a.toNat (aI [aG [],aG []])).length))++(cA a.toNat (aI [aG [],aG []])).drop (0+min (b.take a.toNat).length ((cA a.toNat (aI [aG [],aG []])).length)))++c)++((b.take b.length).drop d.toNat):List V).all λe=>e.cells.all js) <|
 aA (.done (V.fr 41 ((((cA a.toNat (aI [aG [],aG []])).take 0++(b.take a.toNat).take (min (b.take a.toNat).length ((cA a.toNat (aI [aG [],aG []])).length))++(cA a.toNat (aI [aG [],aG []])).drop (0+min (b.take a.toNat).length ((cA a.toNat (aI [aG [],aG []])).length)))++c)++((b.take b.length).drop d.toNat))))
def YP(a b c d): Ep 117 [aH a,aC aB b,aC aB c,aH d] (Hu a b c d):=ep
def YO(a b c d): Ed 117 [aH a,aC aB b,aC aB c,aH d] (Hu a b c d):=ed (YP a b c d)
def If (a:List V) (b:List UInt8) (c:Int) (e:List UInt8): R :=
 aT aJ 115 [aI [aH a,aG b,aC aB c]] λf =>
 kB f λg =>
 cond (!g)
 (aA (.done (aV [aG [],aC aB 1])))
 (aT aJ 116 [aI [aH a,aG b,aC aB c],aG e] λh =>
  lu h λd i =>
  cond (!i)
 (aA (.done (aV [aG [],aC aB 7])))
 (gd (decide (0<=d)) <|
  bk a d.toNat λj =>
  eJ j λl k =>
  aA (.done (aV [aG k,aC aB 0]))))
def aaO(a b c d): Ep 76 [aI [aH a,aG b,aC aB c],aG d] (If a b c d):=ep
def aaN(a b c d): Ed 76 [aI [aH a,aG b,aC aB c],aG d] (If a b c d):=ed (aaO a b c d)
def Ig (d:List V) (a:List UInt8) (b:Int) (c e:List UInt8): R :=
 aT aJ 115 [aI [aH d,aG a,aC aB b]] λl =>
 kB l λm =>
 cond (!m)
 (aA (.done (aV [aI [aH [],aG [],aC aB 0],aC aB 1])))
 (aT aJ 73 [aG c] λn =>
  kB n λo =>
  cond (!o)
 (aA (.done (aV [aI [aH [],aG [],aC aB 0],aC aB 1])))
 (aT aJ 74 [aG e] λp =>
  kB p λq =>
  cond (!q)
 (aA (.done (aV [aI [aH [],aG [],aC aB 0],aC aB 1])))
 (cond (!(a==[]))
 (cond (!Op.bytesLess c a)
 (aA (.done (aV [aI [aH [],aG [],aC aB 0],aC aB 1])))
 (aT aJ 116 [aI [aH d,aG a,aC aB b],aG c] λr =>
  lu r λf s =>
  cond s
 (aT aJ 117 [aH d,aC aB f,aC aB (W aB (f+1)),aH [aI [aG c,aG e]]] λt =>
  kF 41 t λh =>
  aT aJ 118 [aI [aH h,aG a,aC aB b]] λu =>
  kB u λv =>
  cond (!v)
 (aA (.done (aV [aI [aH [],aG [],aC aB 0],aC aB 6])))
 (aA (.done (aV [aI [aH h,aG a,aC aB b],aC aB 0]))))
 (aT aJ 117 [aH d,aC aB f,aC aB f,aH [aI [aG c,aG e]]] λw =>
  kF 41 w λi =>
  aT aJ 118 [aI [aH i,aG a,aC aB b]] λx =>
  kB x λy =>
  cond (!y)
 (aA (.done (aV [aI [aH [],aG [],aC aB 0],aC aB 6])))
 (aA (.done (aV [aI [aH i,aG a,aC aB b],aC aB 0]))))))
 (aT aJ 116 [aI [aH d,aG a,aC aB b],aG c] λz =>
  lu z λg aa =>
  cond aa
 (aT aJ 117 [aH d,aC aB g,aC aB (W aB (g+1)),aH [aI [aG c,aG e]]] λab =>
  kF 41 ab λj =>
  aT aJ 118 [aI [aH j,aG a,aC aB b]] λac =>
  kB ac λad =>
  cond (!ad)
 (aA (.done (aV [aI [aH [],aG [],aC aB 0],aC aB 6])))
 (aA (.done (aV [aI [aH j,aG a,aC aB b],aC aB 0]))))
 (aT aJ 117 [aH d,aC aB g,aC aB g,aH [aI [aG c,aG e]]] λae =>
  kF 41 ae λk =>
  aT aJ 118 [aI [aH k,aG a,aC aB b]] λaf =>
  kB af λag =>
  cond (!ag)
 (aA (.done (aV [aI [aH [],aG [],aC aB 0],aC aB 6])))
 (aA (.done (aV [aI [aH k,aG a,aC aB b],aC aB 0]))))))))
def aaQ(a b c d e): Ep 77 [aI [aH a,aG b,aC aB c],aG d,aG e] (Ig a b c d e):=ep
def aaP(a b c d e): Ed 77 [aI [aH a,aG b,aC aB c],aG d,aG e] (Ig a b c d e):=ed (aaQ a b c d e)
def Ih (a:List V) (b:List UInt8) (c:Int) (e:List UInt8): R :=
 aT aJ 115 [aI [aH a,aG b,aC aB c]] λf =>
 kB f λg =>
 cond (!g)
 (aA (.done (aV [aI [aH [],aG [],aC aB 0],aC aB 1])))
 (aT aJ 116 [aI [aH a,aG b,aC aB c],aG e] λh =>
  lu h λd i =>
  cond (!i)
 (aA (.done (aV [aI [aH [],aG [],aC aB 0],aC aB 7])))
 (aT aJ 117 [aH a,aC aB d,aC aB (W aB (d+1)),aH []] λj =>
  kF 41 j λk =>
  aA (.done (aV [aI [aH k,aG b,aC aB c],aC aB 0]))))
def aaV(a b c d): Ep 80 [aI [aH a,aG b,aC aB c],aG d] (Ih a b c d):=ep
def aaU(a b c d): Ed 80 [aI [aH a,aG b,aC aB c],aG d] (Ih a b c d):=ed (aaV a b c d)
def sA(a b c d:Int)(e:List V)(f:List UInt8)(g:Int): S:=⟨[bj,aC aB a,aL 0 0 0,bj,aL 1 0 0,aL 2 0 0,aC aB 0,aC aB b,aC aB c,aC aB d]++(JU 82),[aM 120 (aI [aH e,aG f,aC aB g]) aE,aM 120 (aI [bl 3 0,aG [],aC aB 0]) aE,aM 120 (aI [bl 4 0,aG [],aC aB 0]) aE,aN 41 [] 0,aN 41 [] 0]⟩
def Om (a:List V) (b:List UInt8) (c d:Int): R :=
 aT aJ 115 [aI [aH a,aG b,aC aB c]] λe =>
 kB e λf =>
 cond (!f)
 (aA (.done (aV [aI [aH [],aG [],aC aB 0],aI [aH [],aG [],aC aB 0],aC aB 1])))
 (cond (decide ((a.length:Int) < 2))
 (aA (.done (aV [aI [aH [],aG [],aC aB 0],aI [aH [],aG [],aC aB 0],aC aB 1])))
 (cond (decide (d < 0))
 (aA (.done (aV [aI [aH [],aG [],aC aB 0],aI [aH [],aG [],aC aB 0],aC aB 1])))
 (cond (decide (d ≥ 1024))
 (aA (.done (aV [aI [aH [],aG [],aC aB 0],aI [aH [],aG [],aC aB 0],aC aB 1])))
 (aT aJ 159 [aI [aH a,aG b,aC aB c]] λg =>
  kI aB g λh =>
  aA (.head 0 (sA d (W aB ((W aB ((W aB (h - 4)) - 1)) - (b.length:Int))) 0 0 a b c))))))
def YU(a b c d): Ep 122 [aI [aH a,aG b,aC aB c],aC aB d] (Om a b c d):=ep
def Bw (c f a g:Int) (b:List V) (d:List UInt8) (e:Int): R :=
 cond (decide (a < W aB ((b.length:Int) - 1)))
 (cond (a==(0:Int))
 (gd (decide (0<=a)) <|
  bk b a.toNat λh =>
  eJ h λi j =>
  aT aJ 165 [aI [aG i,aG j]] λk =>
  kI aB k λl =>
  aA (.head 0 (sA c f (W aB (a+1)) (W aB (g+l)) b d e)))
 (cond (decide (W aB (2 * g) < f))
 (gd (decide (0<=a)) <|
  bk b a.toNat λm =>
  eJ m λn o =>
  aT aJ 165 [aI [aG n,aG o]] λp =>
  kI aB p λq =>
  aA (.head 0 (sA c f (W aB (a+1)) (W aB (g+q)) b d e)))
 (aT aJ 117 [aH b,aC aB a,aC aB (b.length:Int),aH []] λr =>
  kF 41 r λs =>
  gd (decide (0<=a)) <|
  bk b a.toNat λt =>
  eJ t λu ad =>
  aT aJ 117 [aH b,aC aB 0,aC aB a,aH []] λv =>
  kF 41 v λw =>
  aA (.done (aV [aI [aH s,aG u,aC aB (W aB (c+1))],aI [aH w,aG d,aC aB e],aC aB 0])))))
 (aT aJ 117 [aH b,aC aB a,aC aB (b.length:Int),aH []] λx =>
  kF 41 x λy =>
  gd (decide (0<=a)) <|
  bk b a.toNat λz =>
  eJ z λaa ae =>
  aT aJ 117 [aH b,aC aB 0,aC aB a,aH []] λab =>
  kF 41 ab λac =>
  aA (.done (aV [aI [aH y,aG aa,aC aB (W aB (c+1))],aI [aH ac,aG d,aC aB e],aC aB 0])))
def Fo(a b c d e f g): Rd aE 0 122 0 (sA a b c d e f g) (Bw a b c d e f g):=rd
def HN (a:Int): R :=
 gd (decide (0<=a.tmod 8)) <|
 gd (decide ((a.tmod 8).toNat < 8)) <|
 bk [aC bK 1,aC bK 2,aC bK 4,aC bK 8,aC bK 16,aC bK 32,aC bK 64,aC bK 128] ((a.tmod 8).toNat) λb =>
 kI bK b λc =>
 aA (.done (aC bK c))
def ZK(a): Ep 193 [aC aB a] (HN a):=ep
def ZJ(a): Ed 193 [aC aB a] (HN a):=ed (ZK a)
def H2 (c:List UInt8) (a b:Int): R :=
 cond (decide (b < 1))
 (aA (.done (aC aB 1)))
 (cond (decide (b > 8))
 (aA (.done (aC aB 1)))
 (cond (decide (a < 0))
 (aA (.done (aC aB 1)))
 (cond (decide (a > (c.length:Int)))
 (aA (.done (aC aB 1)))
 (cond (decide (W aB (a+b) > (c.length:Int)))
 (aA (.done (aC aB 3)))
 (aA (.done (aC aB 0)))))))
def aah(a b c): Ep 230 [aG a,aC aB b,aC aB c] (H2 a b c):=ep
def aag(a b c): Ed 230 [aG a,aC aB b,aC aB c] (H2 a b c):=ed (aah a b c)
def zP(a:List UInt8)(b c d:Int): S:=⟨[aG a,aC aB b]++(JU 4)++[aC b9 0,aC aB 0,bj,aC b9 c,aC aB d]++(JU 23),[]⟩
def H0 (a:List UInt8) (b c:Int): R :=
 aT aJ 230 [aG a,aC aB b,aC aB c] λe =>
 kI aB e λd =>
 cond (d != (0:Int))
 (aA (.done (aV [aC b9 0,aC aB d])))
 (aA (.head 0 (zP a b 0 (W aB (c - 1)))))
def OT(a b c): Ep 221 [aG a,aC aB b,aC aB c] (H0 a b c):=ep
def Lc (c:List UInt8) (b d a:Int): R :=
 cond (decide (a ≥ 0))
 (gd (decide (0<=W aB (b+a))) <|
  bk c ((W aB (b+a)).toNat) λe =>
  aA (.head 0 (zP c b (W b9 ((W b9 (256 * d))+(W b9 ((e.toNat:Int))))) (W aB (a - 1)))))
 (aA (.done (aV [aC b9 d,aC aB 0])))
def Uw(a b c d): Rd aE 0 221 0 (zP a b c d) (Lc a b c d):=rd
def Dz (a b:Int): R :=
 cond (b==(0:Int))
 (aA (.done (aG [])))
 (aT aJ 222 [aC b9 (W b9 ((a.tdiv 256))),aC aB (W aB (b - 1))] λd =>
  kS d λc =>
  gd (decide (([UInt8.ofNat (W bK (a.tmod 256)).toNat]:List UInt8).length+c.length<=4611686018427387904)) <|
  aA (.done (aG ([UInt8.ofNat (W bK (a.tmod 256)).toNat]++c))))
def aad(a b): Ep 222 [aC b9 a,aC aB b] (Dz a b):=ep
def OU(a b): Ed 222 [aC b9 a,aC aB b] (Dz a b):=ed (aad a b)
def HQ (a:List UInt8) (b:Int): R :=
 cond (decide (b < 0))
 (aA (.done (aV [aG [],aC aB 1])))
 (cond (decide (b > 65536))
 (aA (.done (aV [aG [],aC aB 1])))
 (cond (decide ((a.length:Int) > b))
 (aA (.done (aV [aG [],aC aB 2])))
 (aT aJ 222 [aC b9 0,aC aB (W aB (b - (a.length:Int)))] λd =>
  kS d λc =>
  gd (decide (a.length+c.length<=4611686018427387904)) <|
  aA (.done (aV [aG (a++c),aC aB 0])))))
def ZO(a b): Ep 195 [aG a,aC aB b] (HQ a b):=ep
def ZN(a b): Ed 195 [aG a,aC aB b] (HQ a b):=ed (ZO a b)
def CF(a b:Int)(c:List V)(d:List UInt8)(e:Int): S:=⟨[bj,aL 0 0 0,aC aB 0,aC aB a,aC aB b]++(JU 30),[aM 108 (aI [aH c,aG d,aC aB e]) aE]⟩
def OO (b:List V) (a:List UInt8) (c:Int): R :=
 aA (.head 0 (CF (W aB (5+(a.length:Int))) 0 b a c))
def ZQ(a b c): Ep 197 [aI [aH a,aG b,aC aB c]] (OO a b c):=ep
def K9 (c a:Int) (b:List V) (d:List UInt8) (e:Int): R :=
 cond (decide (a < (b.length:Int)))
 (gd (decide (0<=a)) <|
  bk b a.toNat λf =>
  eJ f λg j =>
  gd (decide (0<=a)) <|
  bk b a.toNat λh =>
  eJ h λk i =>
  aA (.head 0 (CF (W aB ((W aB ((W aB (c+2))+(g.length:Int)))+(i.length:Int))) (W aB (a+1)) b d e)))
 (aA (.done (aC aB c)))
def Ut(a b c d e): Rd aE 0 197 0 (CF a b c d e) (K9 a b c d e):=rd
def OA (a:List V): R :=
 aT aJ 197 [aI [aH a,aG [],aC aB 0]] λb =>
 kI aB b λc =>
 aA (.done (aC aB (W aB (c - 5))))
def Zb(a): Ep 144 [aH a] (OA a):=ep
def Za(a): Ed 144 [aH a] (OA a):=ed (Zb a)
def qA(a:Int)(b:List V)(c:List UInt8)(d:Int): S:=⟨[bj,aL 0 0 0,aW aE,aC aB a]++(JU 81),[aM 108 (aI [aH b,aG c,aC aB d]) aE]⟩
def Yt (a:List V) (b:List UInt8) (c:Int): R :=
 aA (.head 0 (qA 0 a b c))
def Yu(a b c): Ep 101 [aI [aH a,aG b,aC aB c]] (Yt a b c):=ep
def yH (a:Int) (b:List V) (c:List UInt8) (d:Int): R :=
 cond (decide (a < (b.length:Int)))
 (gd (decide (0<=a)) <|
  bk b a.toNat λe =>
  eJ e λf ac =>
  aT aJ 47 [aG f] λg =>
  kB g λh =>
  cond (!h)
 (aA (.done (aW aE)))
 (gd (decide (0<=a)) <|
  bk b a.toNat λi =>
  eJ i λad j =>
  aT aJ 48 [aG j] λk =>
  kB k λl =>
  cond (!l)
 (aA (.done (aW aE)))
 (cond (decide (a > 0))
 (gd (decide (0<=W aB (a - 1))) <|
  bk b ((W aB (a - 1)).toNat) λm =>
  eJ m λn ae =>
  gd (decide (0<=a)) <|
  bk b a.toNat λo =>
  eJ o λp af =>
  aT aJ 35 [aG n,aG p] λq =>
  kB q λr =>
  cond (!r)
 (aA (.done (aW aE)))
 (cond (!(c==[]))
 (gd (decide (0<=a)) <|
  bk b a.toNat λs =>
  eJ s λt ag =>
  aT aJ 35 [aG t,aG c] λu =>
  kB u λv =>
  cond (!v)
 (aA (.done (aW aE)))
 (aA (.head 0 (qA (W aB (a+1)) b c d))))
 (aA (.head 0 (qA (W aB (a+1)) b c d)))))
 (cond (!(c==[]))
 (gd (decide (0<=a)) <|
  bk b a.toNat λw =>
  eJ w λx ah =>
  aT aJ 35 [aG x,aG c] λy =>
  kB y λz =>
  cond (!z)
 (aA (.done (aW aE)))
 (aA (.head 0 (qA (W aB (a+1)) b c d))))
 (aA (.head 0 (qA (W aB (a+1)) b c d)))))))
 (cond (decide ((c.length:Int)<=16))
 (cond (decide (d ≥ 0))
 (cond (decide (d<=1024))
 (aT aJ 144 [aH b] λaa =>
  kI aB aa λab =>
  aA (.done (aW (decide (ab<=231)))))
 (aA (.done (aW aE))))
 (aA (.done (aW aE))))
 (aA (.done (aW aE))))
def wh(a b c d): Rd aE 0 101 0 (qA a b c d) (yH a b c d):=rd
def Hm (a:List UInt8): R :=
 gd (decide (([UInt8.ofNat (W bK ((a.length:Int))).toNat]:List UInt8).length+a.length<=4611686018427387904)) <|
 aA (.done (aG ([UInt8.ofNat (W bK ((a.length:Int))).toNat]++a)))
def Yw(a): Ep 102 [aG a] (Hm a):=ep
def Yv(a): Ed 102 [aG a] (Hm a):=ed (Yw a)
def CL(a:List UInt8)(b:Int)(c:List V)(d:List UInt8)(e:Int): S:=⟨[bj,aL 0 0 0,aG [],aG a,aC aB b]++(JU 47),[aM 108 (aI [aH c,aG d,aC aB e]) aE]⟩
def H9 (b:List V) (c:List UInt8) (a:Int): R :=
 aT aJ 101 [aI [aH b,aG c,aC aB a]] λe =>
 kB e λf =>
 cond (!f)
 (aA (.done (aG [])))
 (gd (decide (([76]:List UInt8).length+([UInt8.ofNat (W bK ((b.length:Int))).toNat,UInt8.ofNat (W bK (a.tmod 256)).toNat,UInt8.ofNat (W bK (W aB ((a.tdiv 256)))).toNat]:List UInt8).length<=4611686018427387904)) <|
  aT aJ 102 [aG c] λg =>
  kS g λd =>
  gd (decide (([76]++[UInt8.ofNat (W bK ((b.length:Int))).toNat,UInt8.ofNat (W bK (a.tmod 256)).toNat,UInt8.ofNat (W bK (W aB ((a.tdiv 256)))).toNat]:List UInt8).length+d.length<=4611686018427387904)) <|
  aA (.head 0 (CL (([76]++[UInt8.ofNat (W bK ((b.length:Int))).toNat,UInt8.ofNat (W bK (a.tmod 256)).toNat,UInt8.ofNat (W bK (W aB ((a.tdiv 256)))).toNat])++d) 0 b c a)))
def O9(a b c): Ep 62 [aI [aH a,aG b,aC aB c]] (H9 a b c):=ep
def Ln (c:List UInt8) (a:Int) (b:List V) (f:List UInt8) (g:Int): R :=
 cond (decide (a < (b.length:Int)))
 (gd (decide (0<=a)) <|
  bk b a.toNat λh =>
  eJ h λi n =>
  aT aJ 102 [aG i] λj =>
  kS j λd =>
  gd (decide (0<=a)) <|
  bk b a.toNat λk =>
  eJ k λo l =>
  aT aJ 102 [aG l] λm =>
  kS m λe =>
  gd (decide (d.length+e.length<=4611686018427387904)) <|
  gd (decide (c.length+(d++e).length<=4611686018427387904)) <|
  aA (.head 0 (CL (c++(d++e)) (W aB (a+1)) b f g)))
 (aA (.done (aG c)))
def UF(a b c d e): Rd aE 0 62 0 (CL a b c d e) (Ln a b c d e):=rd
def Cz(a:List UInt8)(b c:Int)(d:List UInt8)(e:Int): S:=⟨[aG a,bj,aL 0 0 0,aC aB 0,aL 1 0 0,bj,aC aB b,aC aB c,aC aB 0]++(JU 98),[aM 108 (aI [bl 2 0,aG [],aC aB 0]) aE,aM 108 (aI [V.nilS,aG d,aC aB e]) aE,aN 41 [] 0]⟩
def wX(a:List UInt8)(b c d:Int)(e:List UInt8)(f:Int)(g:List V): S:=⟨[aG a,bj,aL 0 0 0,aC aB 0,aL 1 0 0,bj,aC aB b,aC aB c,aC aB d]++(JU 98),[aM 108 (aI [bl 2 0,aG [],aC aB 0]) aE,aM 108 (aI [bl 3 0,aG e,aC aB f]) aE,aN 41 [] 0,aN 41 g 0]⟩
def zF(a:List UInt8)(b:Int)(c:List UInt8)(d:Int): S:=⟨[aG a,bj,aL 0 0 0,aC aB 0,aL 1 0 0,bj,bj,aC aB b]++(JU 99),[aM 108 (aI [bl 2 0,aG [],aC aB 0]) aE,aM 108 (aI [V.nilS,aG c,aC aB d]) aE,aN 41 [] 0]⟩
def zG(a:List UInt8)(b:Int)(c:List UInt8)(d:Int)(e:List V): S:=⟨[aG a,bj,aL 0 0 0,aC aB 0,aL 1 0 0,bj,bj,aC aB b]++(JU 99),[aM 108 (aI [bl 2 0,aG [],aC aB 0]) aE,aM 108 (aI [bl 3 0,aG c,aC aB d]) aE,aN 41 [] 0,aN 41 e 0]⟩
def Dw (a:List UInt8): R :=
 cond (decide ((a.length:Int) < 5))
 (aA (.done (aV [aI [aH [],aG [],aC aB 0],aC aB 4])))
 (cond (decide ((a.length:Int) > 252))
 (aA (.done (aV [aI [aH [],aG [],aC aB 0],aC aB 4])))
 (bk a 2 λb =>
  bk a 3 λc =>
  aT aJ 72 [aG a,aC aB 4] λd =>
  gW d λe f g =>
  aA (.head 0 (Cz a f g e (W aB ((W aB ((b.toNat:Int)))+(W aB (256 * (W aB ((c.toNat:Int)))))))))))
def OB(a): Ep 146 [aG a] (Dw a):=ep
def rH (a:List UInt8) (g b:Int) (c:List UInt8) (d:Int): R :=
 bk a 1 λh =>
 cond (decide (0 < W aB ((h.toNat:Int))))
 (cond (b==(0:Int))
 (aT aJ 72 [aG a,aC aB g] λi =>
  gW i λe j k =>
  cond (k != (0:Int))
 (aA (.done (aV [aI [aH [],aG [],aC aB 0],aC aB 4])))
 (aT aJ 72 [aG a,aC aB j] λl =>
  gW l λf m n =>
  gd (decide (([aI [aG e,aG f]]:List V).length<=16777216)) <|
  aA (.head 0 (wX a m n 1 c d [aI [aG e,aG f]]))))
 (aA (.head 1 (zF a b c d))))
 (aA (.head 1 (zF a b c d)))
def yJ(a b c d e): Rd aE 0 146 0 (Cz a b c d e) (rH a b c d e):=rd
def t8 (a:List UInt8) (i c f:Int) (d:List UInt8) (e:Int) (b:List V): R :=
 bk a 1 λj =>
 cond (decide (f < W aB ((j.toNat:Int))))
 (cond (c==(0:Int))
 (aT aJ 72 [aG a,aC aB i] λk =>
  gW k λg l m =>
  cond (m != (0:Int))
 (aA (.done (aV [aI [aH [],aG [],aC aB 0],aC aB 4])))
 (aT aJ 72 [aG a,aC aB l] λn =>
  gW n λh o p =>
  gd (decide (b.length+([aI [aG g,aG h]]:List V).length<=16777216)) <|
  aA (.head 0 (wX a o p (W aB (f+1)) d e (b++[aI [aG g,aG h]])))))
 (aA (.head 1 (zG a c d e b))))
 (aA (.head 1 (zG a c d e b)))
def yK(a b c d e f g): Rd aE 0 146 0 (wX a b c d e f g) (t8 a b c d e f g):=rd
def KS (c:List UInt8) (d:Int) (a:List UInt8) (b:Int): R :=
 aT aJ 62 [aI [aH [],aG a,aC aB b]] λe =>
 kS e λf =>
 aT aJ 195 [aG f,aC aB (c.length:Int)] λg =>
 iC g λh i =>
 cond (d != (0:Int))
 (aA (.done (aV [aI [aH [],aG [],aC aB 0],aC aB 4])))
 (cond (i != (0:Int))
 (aA (.done (aV [aI [aH [],aG [],aC aB 0],aC aB 4])))
 (cond (!(h==c))
 (aA (.done (aV [aI [aH [],aG [],aC aB 0],aC aB 4])))
 (aT aJ 101 [aI [aH [],aG a,aC aB b]] λj =>
  kB j λk =>
  cond (!k)
 (aA (.done (aV [aI [aH [],aG [],aC aB 0],aC aB 4])))
 (aA (.done (aV [aI [aH [],aG a,aC aB b],aC aB 0]))))))
def Ud(a b c d): Rd aE 0 146 1 (zF a b c d) (KS a b c d):=rd
def KT (d:List UInt8) (e:Int) (a:List UInt8) (b:Int) (c:List V): R :=
 aT aJ 62 [aI [aH c,aG a,aC aB b]] λf =>
 kS f λg =>
 aT aJ 195 [aG g,aC aB (d.length:Int)] λh =>
 iC h λi j =>
 cond (e != (0:Int))
 (aA (.done (aV [aI [aH [],aG [],aC aB 0],aC aB 4])))
 (cond (j != (0:Int))
 (aA (.done (aV [aI [aH [],aG [],aC aB 0],aC aB 4])))
 (cond (!(i==d))
 (aA (.done (aV [aI [aH [],aG [],aC aB 0],aC aB 4])))
 (aT aJ 101 [aI [aH c,aG a,aC aB b]] λk =>
  kB k λl =>
  cond (!l)
 (aA (.done (aV [aI [aH [],aG [],aC aB 0],aC aB 4])))
 (aA (.done (aV [aI [aH c,aG a,aC aB b],aC aB 0]))))))
def Ue(a b c d e): Rd aE 0 146 1 (zG a b c d e) (KT a b c d e):=rd
def CB(a:List UInt8)(b:Int)(c:List V)(d:List UInt8)(e:Int): S:=⟨[bj,aG a,aL 0 0 0,bj,aC aB 0,aW aE,aC aB b]++(JU 33),[aM 108 (aI [aH c,aG d,aC aB e]) aE]⟩
def Zc (a:List V) (b:List UInt8) (c:Int) (d:List UInt8): R :=
 aA (.head 0 (CB d 0 a b c))
def Zd(a b c d): Ep 147 [aI [aH a,aG b,aC aB c],aG d] (Zc a b c d):=ep
def Fu (c:List UInt8) (a:Int) (b:List V) (d:List UInt8) (e:Int): R :=
 cond (decide (a < (b.length:Int)))
 (gd (decide (0<=a)) <|
  bk b a.toNat λf =>
  eJ f λg n =>
  aT aJ 35 [aG g,aG c] λh =>
  kB h λi =>
  cond i
 (aA (.head 0 (CB c (W aB (a+1)) b d e)))
 (cond (decide (a < (b.length:Int)))
 (gd (decide (0<=a)) <|
  bk b a.toNat λj =>
  eJ j λk o =>
  aA (.done (aV [aC aB a,aW (k==c)])))
 (aA (.done (aV [aC aB a,aW aE])))))
 (cond (decide (a < (b.length:Int)))
 (gd (decide (0<=a)) <|
  bk b a.toNat λl =>
  eJ l λm p =>
  aA (.done (aV [aC aB a,aW (m==c)])))
 (aA (.done (aV [aC aB a,aW aE]))))
def KU(a b c d e): Rd aE 0 147 0 (CB a b c d e) (Fu a b c d e):=rd
def Ho (a:List V) (b:List UInt8) (c:Int) (e:List UInt8): R :=
 aT aJ 101 [aI [aH a,aG b,aC aB c]] λf =>
 kB f λg =>
 cond (!g)
 (aA (.done (aV [aG [],aC aB 1])))
 (aT aJ 147 [aI [aH a,aG b,aC aB c],aG e] λh =>
  lu h λd i =>
  cond (!i)
 (aA (.done (aV [aG [],aC aB 7])))
 (gd (decide (0<=d)) <|
  bk a d.toNat λj =>
  eJ j λl k =>
  aA (.done (aV [aG k,aC aB 0]))))
def Yz(a b c d): Ep 105 [aI [aH a,aG b,aC aB c],aG d] (Ho a b c d):=ep
def Yy(a b c d): Ed 105 [aI [aH a,aG b,aC aB c],aG d] (Ho a b c d):=ed (Yz a b c d)
def Cp(a b:List UInt8)(c:List V)(d:List UInt8)(e:Int): S:=⟨[bj,aG a,aG b,aL 0 0 0,bj,bj,aL 1 0 0,aC aB 0]++(JU 68),[aM 108 (aI [aH c,aG d,aC aB e]) aE,aM 108 (aI [bl 2 0,aG [],aC aB 0]) aE,aN 41 [] 0]⟩
def Cq(a:Int)(b:List V)(c:List UInt8)(d:Int)(e:List V): S:=⟨[bj,bj,bj,aL 0 0 0,bj,bj,aL 1 0 0,aC aB 0,aC aB a,bj,dD 2]++(JU 65),[aM 108 (aI [aH b,aG c,aC aB d]) aE,aM 108 (aI [bl 3 0,aG [],aC aB 0]) aE,aN 41 e 0,aN 41 [] 0]⟩
def YA (c:List V) (a:List UInt8) (d:Int) (b e:List UInt8): R :=
 aT aJ 101 [aI [aH c,aG a,aC aB d]] λf =>
 kB f λg =>
 cond (!g)
 (aA (.done (aV [aI [aH [],aG [],aC aB 0],aC aB 1])))
 (aT aJ 47 [aG b] λh =>
  kB h λi =>
  cond (!i)
 (aA (.done (aV [aI [aH [],aG [],aC aB 0],aC aB 1])))
 (aT aJ 48 [aG e] λj =>
  kB j λk =>
  cond (!k)
 (aA (.done (aV [aI [aH [],aG [],aC aB 0],aC aB 1])))
 (cond (!(a==[]))
 (aT aJ 35 [aG b,aG a] λl =>
  kB l λm =>
  cond (!m)
 (aA (.done (aV [aI [aH [],aG [],aC aB 0],aC aB 1])))
 (aA (.head 0 (Cp b e c a d))))
 (aA (.head 0 (Cp b e c a d))))))
def YB(a b c d e): Ep 106 [aI [aH a,aG b,aC aB c],aG d,aG e] (YA a b c d e):=ep
def TZ (c d:List UInt8) (a:List V) (e:List UInt8) (f:Int): R :=
 aT aJ 147 [aI [aH a,aG e,aC aB f],aG c] λg =>
 lu g λb h =>
 gd (cC 2 a) <|
 gd (decide (0<=b)) <|
 gd (decide (b.toNat<=a.length)) <|
 gd (cC 2 (a.take b.toNat)) <|
 gd (decide (0+(a.take b.toNat).length<=16777216)) <|
 gd (decide ((a.take b.toNat).length+([aI [aG c,aG d]]:List V).length<=16777216)) <|
 cond h
 (aA (.head 1 (Cq (W aB (b+1)) a e f ((a.take b.toNat)++[aI [aG c,aG d]]))))
 (aA (.head 1 (Cq b a e f ((a.take b.toNat)++[aI [aG c,aG d]]))))
def ag6(a b c d e): Rd aE 0 106 0 (Cp a b c d e) (TZ a b c d e):=rd
def Kx (b:Int) (a:List V) (d:List UInt8) (e:Int) (c:List V): R :=
 gd (cC 2 a) <|
 gd (decide (0<=b)) <|
 gd (decide (b.toNat<=a.length)) <|
 gd (cC 2 ((a.take a.length).drop b.toNat)) <|
 gd (decide (c.length+((a.take a.length).drop b.toNat).length<=16777216)) <|
 aT aJ 144 [aH (c++((a.take a.length).drop b.toNat))] λf =>
 kI aB f λg =>
 cond (decide (g > 231))
 (aA (.done (aV [aI [aH [],aG [],aC aB 0],aC aB 6])))
 (aA (.done (aV [aI [aH (c++((a.take a.length).drop b.toNat)),aG d,aC aB e],aC aB 0])))
def ag7(a b c d e): Rd aE 0 106 1 (Cq a b c d e) (Kx a b c d e):=rd
def Hq (a:List V) (c:List UInt8) (d:Int) (e:List UInt8): R :=
 aT aJ 101 [aI [aH a,aG c,aC aB d]] λf =>
 kB f λg =>
 cond (!g)
 (aA (.done (aV [aI [aH [],aG [],aC aB 0],aC aB 1])))
 (aT aJ 147 [aI [aH a,aG c,aC aB d],aG e] λh =>
  lu h λb i =>
  cond (!i)
 (aA (.done (aV [aI [aH [],aG [],aC aB 0],aC aB 7])))
 (gd (cC 2 a) <|
  gd (decide (0<=b)) <|
  gd (decide (b.toNat<=a.length)) <|
  gd (cC 2 (a.take b.toNat)) <|
  gd (decide (0+(a.take b.toNat).length<=16777216)) <|
  gd (cC 2 a) <|
  gd (decide (0<=W aB (b+1))) <|
  gd (decide ((W aB (b+1)).toNat<=a.length)) <|
  gd (cC 2 ((a.take a.length).drop ((W aB (b+1)).toNat))) <|
  gd (decide ((a.take b.toNat).length+((a.take a.length).drop ((W aB (b+1)).toNat)).length<=16777216)) <|
  aA (.done (aV [aI [aH ((a.take b.toNat)++((a.take a.length).drop ((W aB (b+1)).toNat))),aG c,aC aB d],aC aB 0]))))
def YF(a b c d): Ep 110 [aI [aH a,aG b,aC aB c],aG d] (Hq a b c d):=ep
def YE(a b c d): Ed 110 [aI [aH a,aG b,aC aB c],aG d] (Hq a b c d):=ed (YF a b c d)
def zw(a b:Int)(c:List V)(d:List UInt8)(e:Int): S:=⟨[bj,aC aB a,aL 0 0 0,bj,aL 1 0 0,aL 2 0 0,aC aB 0,aC aB b]++(JU 67),[aM 108 (aI [aH c,aG d,aC aB e]) aE,aM 108 (aI [bl 3 0,aG [],aC aB 0]) aE,aM 108 (aI [bl 4 0,aG [],aC aB 0]) aE,aN 41 [] 0,aN 41 [] 0]⟩
def zx(a b:Int)(c:List V)(d:List UInt8)(e:Int): S:=⟨[bj,aC aB a,aL 0 0 0,bj,aL 1 0 0,aL 2 0 0,aC aB 0,aC aB b]++(JU 67),[aM 108 (aI [aH c,aG d,aC aB e]) aE,aM 108 (aI [bl 3 0,aG [],aC aB 0]) aE,aM 108 (aI [bl 4 0,aG [],aC aB 0]) aE,aN 41 [] 0,aN 41 [] 0]⟩
def Oe (a:List V) (c:List UInt8) (d b:Int): R :=
 aT aJ 101 [aI [aH a,aG c,aC aB d]] λe =>
 kB e λf =>
 cond (!f)
 (aA (.done (aV [aI [aH [],aG [],aC aB 0],aI [aH [],aG [],aC aB 0],aC aB 1])))
 (cond (decide ((a.length:Int) < 2))
 (aA (.done (aV [aI [aH [],aG [],aC aB 0],aI [aH [],aG [],aC aB 0],aC aB 1])))
 (cond (decide (b < 0))
 (aA (.done (aV [aI [aH [],aG [],aC aB 0],aI [aH [],aG [],aC aB 0],aC aB 1])))
 (cond (decide (b > 1023))
 (aA (.done (aV [aI [aH [],aG [],aC aB 0],aI [aH [],aG [],aC aB 0],aC aB 1])))
 (aA (.head 0 (zw b 1 a c d))))))
def YD(a b c d): Ep 108 [aI [aH a,aG b,aC aB c],aC aB d] (Oe a b c d):=ep
def Bt (c b:Int) (a:List V) (d:List UInt8) (e:Int): R :=
 cond (decide (b < W aB ((a.length:Int) - 1)))
 (gd (cC 2 a) <|
  gd (decide (0<=b)) <|
  gd (decide (b.toNat<=a.length)) <|
  aT aJ 144 [aH (a.take b.toNat)] λf =>
  kI aB f λg =>
  aT aJ 144 [aH a] λh =>
  kI aB h λi =>
  cond (decide (W aB (2 * g) < i))
 (aA (.head 0 (zw c (W aB (b+1)) a d e)))
 (aA (.head 1 (zx c b a d e))))
 (aA (.head 1 (zx c b a d e)))
def Ky(a b c d e): Rd aE 0 108 0 (zw a b c d e) (Bt a b c d e):=rd
def Kz (c b:Int) (a:List V) (d:List UInt8) (e:Int): R :=
 gd (cC 2 a) <|
 gd (decide (0<=b)) <|
 gd (decide (b.toNat<=a.length)) <|
 gd (cC 2 (a.take b.toNat)) <|
 gd (decide (0+(a.take b.toNat).length<=16777216)) <|
 gd (cC 2 a) <|
 gd (decide (0<=b)) <|
 gd (decide (b.toNat<=a.length)) <|
 gd (cC 2 ((a.take a.length).drop b.toNat)) <|
 gd (decide (0+((a.take a.length).drop b.toNat).length<=16777216)) <|
 bk ((a.take a.length).drop b.toNat) 0 λf =>
 eJ f λg h =>
 aA (.done (aV [aI [aH (a.take b.toNat),aG g,aC aB (W aB (c+1))],aI [aH ((a.take a.length).drop b.toNat),aG d,aC aB e],aC aB 0]))
def T1(a b c d e): Rd aE 0 108 1 (zx a b c d e) (Kz a b c d e):=rd
def zO(a b:Int)(c d:List V)(e:List UInt8)(f:Int): S:=⟨[bj,aL 0 0 0,aC aB 0,aC aB a,aC aB b]++(JU 21),[aM 152 (aI [aH c,aH d,aG e,aC aB f]) aE]⟩
def OP (b c:List V) (a:List UInt8) (d:Int): R :=
 aA (.head 0 (zO (W aB (7+(a.length:Int))) 0 b c a d))
def ZX(a b c d): Ep 201 [aI [aH a,aH b,aG c,aC aB d]] (OP a b c d):=ep
def La (c a:Int) (b d:List V) (e:List UInt8) (f:Int): R :=
 cond (decide (a < (b.length:Int)))
 (gd (decide (0<=a)) <|
  bk b a.toNat λg =>
  kS g λh =>
  aA (.head 0 (zO (W aB ((W aB (c+3))+(h.length:Int))) (W aB (a+1)) b d e f)))
 (aA (.done (aC aB c)))
def Uu(a b c d e f): Rd aE 0 201 0 (zO a b c d e f) (La a b c d e f):=rd
def HT (a:Int): R :=
 cond (decide (a ≥ 0))
 (aA (.done (aW (decide (a<=1023)))))
 (aA (.done (aW aE)))
def ZW(a): Ep 200 [aC aB a] (HT a):=ep
def ZV(a): Ed 200 [aC aB a] (HT a):=ed (ZW a)
def zN(a:Int)(b c:List V)(d:List UInt8)(e:Int): S:=⟨[bj,aL 0 0 0,aW aE,aC aB a]++(JU 97),[aM 152 (aI [aH b,aH c,aG d,aC aB e]) aE]⟩
def m8(a:Int)(b c:List V)(d:List UInt8)(e:Int): S:=⟨[bj,aL 0 0 0,aW aE,bj,aC aB a]++(JU 96),[aM 152 (aI [aH b,aH c,aG d,aC aB e]) aE]⟩
def ON (a b:List V) (c:List UInt8) (d:Int): R :=
 aA (.head 0 (zN 0 a b c d))
def ZP(a b c d): Ep 196 [aI [aH a,aH b,aG c,aC aB d]] (ON a b c d):=ep
def FB (a:Int) (c b:List V) (d:List UInt8) (e:Int): R :=
 cond (decide (a < (b.length:Int)))
 (gd (decide (0<=a)) <|
  bk b a.toNat λf =>
  kI aB f λg =>
  aT aJ 200 [aC aB g] λh =>
  kB h λi =>
  cond (!i)
 (aA (.done (aW aE)))
 (aA (.head 0 (zN (W aB (a+1)) c b d e))))
 (aA (.head 1 (m8 0 c b d e)))
def K7(a b c d e): Rd aE 0 196 0 (zN a b c d e) (FB a b c d e):=rd
def BC (a:Int) (b e:List V) (c:List UInt8) (d:Int): R :=
 cond (decide (a < (b.length:Int)))
 (gd (decide (0<=a)) <|
  bk b a.toNat λf =>
  kS f λg =>
  aT aJ 47 [aG g] λh =>
  kB h λi =>
  cond (!i)
 (aA (.done (aW aE)))
 (cond (decide (a > 0))
 (gd (decide (0<=W aB (a - 1))) <|
  bk b ((W aB (a - 1)).toNat) λj =>
  kS j λk =>
  gd (decide (0<=a)) <|
  bk b a.toNat λl =>
  kS l λm =>
  aT aJ 35 [aG k,aG m] λn =>
  kB n λo =>
  cond (!o)
 (aA (.done (aW aE)))
 (cond (!(c==[]))
 (gd (decide (0<=a)) <|
  bk b a.toNat λp =>
  kS p λq =>
  aT aJ 35 [aG q,aG c] λr =>
  kB r λs =>
  cond (!s)
 (aA (.done (aW aE)))
 (aA (.head 1 (m8 (W aB (a+1)) b e c d))))
 (aA (.head 1 (m8 (W aB (a+1)) b e c d)))))
 (cond (!(c==[]))
 (gd (decide (0<=a)) <|
  bk b a.toNat λt =>
  kS t λu =>
  aT aJ 35 [aG u,aG c] λv =>
  kB v λw =>
  cond (!w)
 (aA (.done (aW aE)))
 (aA (.head 1 (m8 (W aB (a+1)) b e c d))))
 (aA (.head 1 (m8 (W aB (a+1)) b e c d))))))
 (cond ((e.length:Int)==(W aB ((b.length:Int)+1)))
 (cond (decide ((c.length:Int)<=16))
 (cond (decide (d ≥ 0))
 (cond (decide (d<=1024))
 (aT aJ 201 [aI [aH b,aH e,aG c,aC aB d]] λx =>
  kI aB x λy =>
  aA (.done (aW (decide (W aB (y - (c.length:Int))<=236)))))
 (aA (.done (aW aE))))
 (aA (.done (aW aE))))
 (aA (.done (aW aE))))
 (aA (.done (aW aE))))
def K8(a b c d e): Rd aE 0 196 1 (m8 a b c d e) (BC a b c d e):=rd
def HR (a:Int): R :=
 aA (.done (aG [UInt8.ofNat (W bK (a.tmod 256)).toNat,UInt8.ofNat (W bK (W aB ((a.tdiv 256)))).toNat]))
def ZS(a): Ep 198 [aC aB a] (HR a):=ep
def ZR(a): Ed 198 [aC aB a] (HR a):=ed (ZS a)
def HS (a:List UInt8): R :=
 gd (decide (([UInt8.ofNat (W bK ((a.length:Int))).toNat]:List UInt8).length+a.length<=4611686018427387904)) <|
 aA (.done (aG ([UInt8.ofNat (W bK ((a.length:Int))).toNat]++a)))
def ZU(a): Ep 199 [aG a] (HS a):=ep
def ZT(a): Ed 199 [aG a] (HS a):=ed (ZU a)
def zH(a:List UInt8)(b:Int)(c d:List V)(e:List UInt8)(f:Int): S:=⟨[bj,aL 0 0 0,aG [],aG a,aC aB b]++(JU 48),[aM 152 (aI [aH c,aH d,aG e,aC aB f]) aE]⟩
def HA (a c:List V) (d:List UInt8) (e:Int): R :=
 aT aJ 196 [aI [aH a,aH c,aG d,aC aB e]] λh =>
 kB h λi =>
 cond (!i)
 (aA (.done (aG [])))
 (gd (decide (([78]:List UInt8).length+([UInt8.ofNat (W bK ((a.length:Int))).toNat]:List UInt8).length<=4611686018427387904)) <|
  aT aJ 198 [aC aB e] λj =>
  kS j λb =>
  gd (decide (([78]++[UInt8.ofNat (W bK ((a.length:Int))).toNat]:List UInt8).length+b.length<=4611686018427387904)) <|
  aT aJ 199 [aG d] λk =>
  kS k λf =>
  gd (decide ((([78]++[UInt8.ofNat (W bK ((a.length:Int))).toNat])++b).length+f.length<=4611686018427387904)) <|
  bk c 0 λl =>
  kI aB l λm =>
  aT aJ 198 [aC aB m] λn =>
  kS n λg =>
  gd (decide (((([78]++[UInt8.ofNat (W bK ((a.length:Int))).toNat])++b)++f).length+g.length<=4611686018427387904)) <|
  aA (.head 0 (zH (((([78]++[UInt8.ofNat (W bK ((a.length:Int))).toNat])++b)++f)++g) 0 a c d e)))
def OC(a b c d): Ep 148 [aI [aH a,aH b,aG c,aC aB d]] (HA a b c d):=ep
def KV (b:List UInt8) (a:Int) (c f:List V) (g:List UInt8) (h:Int): R :=
 cond (decide (a < (c.length:Int)))
 (gd (decide (0<=a)) <|
  bk c a.toNat λi =>
  kS i λj =>
  aT aJ 199 [aG j] λk =>
  kS k λd =>
  gd (decide (0<=W aB (a+1))) <|
  bk f ((W aB (a+1)).toNat) λl =>
  kI aB l λm =>
  aT aJ 198 [aC aB m] λn =>
  kS n λe =>
  gd (decide (d.length+e.length<=4611686018427387904)) <|
  gd (decide (b.length+(d++e).length<=4611686018427387904)) <|
  aA (.head 0 (zH (b++(d++e)) (W aB (a+1)) c f g h)))
 (aA (.done (aG b)))
def Uf(a b c d e f): Rd aE 0 148 0 (zH a b c d e f) (KV a b c d e f):=rd
def HO (a:List UInt8) (b:Int): R :=
 aT aJ 221 [aG a,aC aB b,aC aB 2] λc =>
 mH c λd e =>
 aA (.done (aC aB (W aB (d))))
def ZM(a b): Ep 194 [aG a,aC aB b] (HO a b):=ep
def ZL(a b): Ed 194 [aG a,aC aB b] (HO a b):=ed (ZM a b)
def Cy(a:List UInt8)(b c:Int)(d:List UInt8)(e:Int)(f:List V): S:=⟨[aG a,bj,aL 0 0 0,aC aB 0,aL 1 0 0,bj,aC aB b,aC aB c,aC aB 0]++(JU 96),[aM 152 (aI [bl 2 0,bl 3 0,aG [],aC aB 0]) aE,aM 152 (aI [V.nilS,bl 4 0,aG d,aC aB e]) aE,aN 9 [] 0,aN 3 [] 0,aN 3 f 0]⟩
def qB(a:List UInt8)(b c d:Int)(e:List UInt8)(f:Int)(g h:List V): S:=⟨[aG a,bj,aL 0 0 0,aC aB 0,aL 1 0 0,bj,aC aB b,aC aB c,aC aB d]++(JU 96),[aM 152 (aI [bl 2 0,bl 3 0,aG [],aC aB 0]) aE,aM 152 (aI [bl 4 0,bl 5 0,aG e,aC aB f]) aE,aN 9 [] 0,aN 3 [] 0,aN 9 g 0,aN 3 h 0]⟩
def sS (a:List UInt8): R :=
 cond (decide ((a.length:Int) < 5))
 (aA (.done (aV [aI [aH [],aH [],aG [],aC aB 0],aC aB 4])))
 (cond (decide ((a.length:Int) > 252))
 (aA (.done (aV [aI [aH [],aH [],aG [],aC aB 0],aC aB 4])))
 (aT aJ 194 [aG a,aC aB 2] λd =>
  kI aB d λe =>
  aT aJ 72 [aG a,aC aB 4] λf =>
  gW f λg b h =>
  aT aJ 194 [aG a,aC aB b] λi =>
  kI aB i λc =>
  gd (decide (([aC aB c]:List V).length<=16777216)) <|
  aA (.head 0 (Cy a (W aB (b+2)) h g e [aC aB c]))))
def Ai(a): Ep 138 [aG a] (sS a):=ep
def oJ (a:List UInt8) (i e:Int) (c:List UInt8) (d:Int) (b:List V): R :=
 bk a 1 λj =>
 cond (decide (0 < W aB ((j.toNat:Int))))
 (cond (e==(0:Int))
 (aT aJ 72 [aG a,aC aB i] λk =>
  gW k λf g l =>
  gd (decide (([aG f]:List V).length<=16777216)) <|
  aT aJ 194 [aG a,aC aB g] λm =>
  kI aB m λh =>
  gd (decide (b.length+([aC aB h]:List V).length<=16777216)) <|
  aA (.head 0 (qB a (W aB (g+2)) l 1 c d [aG f] (b++[aC aB h]))))
 (aT aJ 148 [aI [aH [],aH b,aG c,aC aB d]] λn =>
  kS n λo =>
  aT aJ 195 [aG o,aC aB (a.length:Int)] λp =>
  iC p λq r =>
  cond (e != (0:Int))
 (aA (.done (aV [aI [aH [],aH [],aG [],aC aB 0],aC aB 4])))
 (cond (r != (0:Int))
 (aA (.done (aV [aI [aH [],aH [],aG [],aC aB 0],aC aB 4])))
 (cond (!(q==a))
 (aA (.done (aV [aI [aH [],aH [],aG [],aC aB 0],aC aB 4])))
 (aT aJ 196 [aI [aH [],aH b,aG c,aC aB d]] λs =>
  kB s λt =>
  cond (!t)
 (aA (.done (aV [aI [aH [],aH [],aG [],aC aB 0],aC aB 4])))
 (aA (.done (aV [aI [aH [],aH b,aG c,aC aB d],aC aB 0]))))))))
 (aT aJ 148 [aI [aH [],aH b,aG c,aC aB d]] λu =>
  kS u λv =>
  aT aJ 195 [aG v,aC aB (a.length:Int)] λw =>
  iC w λx y =>
  cond (e != (0:Int))
 (aA (.done (aV [aI [aH [],aH [],aG [],aC aB 0],aC aB 4])))
 (cond (y != (0:Int))
 (aA (.done (aV [aI [aH [],aH [],aG [],aC aB 0],aC aB 4])))
 (cond (!(x==a))
 (aA (.done (aV [aI [aH [],aH [],aG [],aC aB 0],aC aB 4])))
 (aT aJ 196 [aI [aH [],aH b,aG c,aC aB d]] λz =>
  kB z λaa =>
  cond (!aa)
 (aA (.done (aV [aI [aH [],aH [],aG [],aC aB 0],aC aB 4])))
 (aA (.done (aV [aI [aH [],aH b,aG c,aC aB d],aC aB 0])))))))
def wj(a b c d e f): Rd aE 0 138 0 (Cy a b c d e f) (oJ a b c d e f):=rd
def oK (a:List UInt8) (k f g:Int) (d:List UInt8) (e:Int) (b c:List V): R :=
 bk a 1 λl =>
 cond (decide (g < W aB ((l.toNat:Int))))
 (cond (f==(0:Int))
 (aT aJ 72 [aG a,aC aB k] λm =>
  gW m λh i n =>
  gd (decide (b.length+([aG h]:List V).length<=16777216)) <|
  aT aJ 194 [aG a,aC aB i] λo =>
  kI aB o λj =>
  gd (decide (c.length+([aC aB j]:List V).length<=16777216)) <|
  aA (.head 0 (qB a (W aB (i+2)) n (W aB (g+1)) d e (b++[aG h]) (c++[aC aB j]))))
 (aT aJ 148 [aI [aH b,aH c,aG d,aC aB e]] λp =>
  kS p λq =>
  aT aJ 195 [aG q,aC aB (a.length:Int)] λr =>
  iC r λs t =>
  cond (f != (0:Int))
 (aA (.done (aV [aI [aH [],aH [],aG [],aC aB 0],aC aB 4])))
 (cond (t != (0:Int))
 (aA (.done (aV [aI [aH [],aH [],aG [],aC aB 0],aC aB 4])))
 (cond (!(s==a))
 (aA (.done (aV [aI [aH [],aH [],aG [],aC aB 0],aC aB 4])))
 (aT aJ 196 [aI [aH b,aH c,aG d,aC aB e]] λu =>
  kB u λv =>
  cond (!v)
 (aA (.done (aV [aI [aH [],aH [],aG [],aC aB 0],aC aB 4])))
 (aA (.done (aV [aI [aH b,aH c,aG d,aC aB e],aC aB 0]))))))))
 (aT aJ 148 [aI [aH b,aH c,aG d,aC aB e]] λw =>
  kS w λx =>
  aT aJ 195 [aG x,aC aB (a.length:Int)] λy =>
  iC y λz aa =>
  cond (f != (0:Int))
 (aA (.done (aV [aI [aH [],aH [],aG [],aC aB 0],aC aB 4])))
 (cond (aa != (0:Int))
 (aA (.done (aV [aI [aH [],aH [],aG [],aC aB 0],aC aB 4])))
 (cond (!(z==a))
 (aA (.done (aV [aI [aH [],aH [],aG [],aC aB 0],aC aB 4])))
 (aT aJ 196 [aI [aH b,aH c,aG d,aC aB e]] λab =>
  kB ab λac =>
  cond (!ac)
 (aA (.done (aV [aI [aH [],aH [],aG [],aC aB 0],aC aB 4])))
 (aA (.done (aV [aI [aH b,aH c,aG d,aC aB e],aC aB 0])))))))
def qe(a b c d e f g h): Rd aE 0 138 0 (qB a b c d e f g h) (oK a b c d e f g h):=rd
def wW(a:List UInt8)(b:Int)(c d:List V)(e:List UInt8)(f:Int): S:=⟨[bj,aG a,aL 0 0 0,bj,aC aB 0,aC aB 0,aC aB b]++(JU 38),[aM 152 (aI [aH c,aH d,aG e,aC aB f]) aE]⟩
def xt (c d:List V) (a:List UInt8) (e:Int) (b:List UInt8): R :=
 aT aJ 196 [aI [aH c,aH d,aG a,aC aB e]] λf =>
 kB f λg =>
 cond (!g)
 (aA (.done (aV [aC aB 0,aC aB 1])))
 (aT aJ 47 [aG b] λh =>
  kB h λi =>
  cond (!i)
 (aA (.done (aV [aC aB 0,aC aB 1])))
 (cond (!(a==[]))
 (aT aJ 35 [aG b,aG a] λj =>
  kB j λk =>
  cond (!k)
 (aA (.done (aV [aC aB 0,aC aB 1])))
 (aA (.head 0 (wW b 0 c d a e))))
 (aA (.head 0 (wW b 0 c d a e)))))
def Aj(a b c d e): Ep 145 [aI [aH a,aH b,aG c,aC aB d],aG e] (xt a b c d e):=ep
def Fs (c:List UInt8) (a:Int) (b d:List V) (e:List UInt8) (f:Int): R :=
 cond (decide (a < (b.length:Int)))
 (gd (decide (0<=a)) <|
  bk b a.toNat λg =>
  kS g λh =>
  aT aJ 35 [aG c,aG h] λi =>
  kB i λj =>
  cond (!j)
 (aA (.head 0 (wW c (W aB (a+1)) b d e f)))
 (aA (.done (aV [aC aB a,aC aB 0]))))
 (aA (.done (aV [aC aB a,aC aB 0])))
def KR(a b c d e f): Rd aE 0 145 0 (wW a b c d e f) (Fs a b c d e f):=rd
def HB (b c:List V) (f:List UInt8) (g:Int) (d:List UInt8) (e:Int): R :=
 aT aJ 145 [aI [aH b,aH c,aG f,aC aB g],aG d] λh =>
 uT h λa i =>
 cond (i != (0:Int))
 (aA (.done (aV [aI [aH [],aH [],aG [],aC aB 0],aC aB 1])))
 (aT aJ 200 [aC aB e] λj =>
  kB j λk =>
  cond (!k)
 (aA (.done (aV [aI [aH [],aH [],aG [],aC aB 0],aC aB 1])))
 (cond (decide (a > 0))
 (gd (decide (0<=W aB (a - 1))) <|
  bk b ((W aB (a - 1)).toNat) λl =>
  kS l λm =>
  cond (m==d)
 (aA (.done (aV [aI [aH [],aH [],aG [],aC aB 0],aC aB 8])))
 (gd (cC 1 b) <|
  gd (decide (0<=a)) <|
  gd (decide (a.toNat<=b.length)) <|
  gd (cC 1 (b.take a.toNat)) <|
  gd (decide (0+(b.take a.toNat).length<=16777216)) <|
  gd (decide ((b.take a.toNat).length+([aG d]:List V).length<=16777216)) <|
  gd (cC 1 b) <|
  gd (decide (0<=a)) <|
  gd (decide (a.toNat<=b.length)) <|
  gd (cC 1 ((b.take b.length).drop a.toNat)) <|
  gd (decide (((b.take a.toNat)++[aG d]).length+((b.take b.length).drop a.toNat).length<=16777216)) <|
  gd (cC 1 c) <|
  gd (decide (0<=W aB (a+1))) <|
  gd (decide ((W aB (a+1)).toNat<=c.length)) <|
  gd (cC 1 (c.take ((W aB (a+1)).toNat))) <|
  gd (decide (0+(c.take ((W aB (a+1)).toNat)).length<=16777216)) <|
  gd (decide ((c.take ((W aB (a+1)).toNat)).length+([aC aB e]:List V).length<=16777216)) <|
  gd (cC 1 c) <|
  gd (decide (0<=W aB (a+1))) <|
  gd (decide ((W aB (a+1)).toNat<=c.length)) <|
  gd (cC 1 ((c.take c.length).drop ((W aB (a+1)).toNat))) <|
  gd (decide (((c.take ((W aB (a+1)).toNat))++[aC aB e]).length+((c.take c.length).drop ((W aB (a+1)).toNat)).length<=16777216)) <|
  aT aJ 201 [aI [aH (((b.take a.toNat)++[aG d])++((b.take b.length).drop a.toNat)),aH (((c.take ((W aB (a+1)).toNat))++[aC aB e])++((c.take c.length).drop ((W aB (a+1)).toNat))),aG f,aC aB g]] λn =>
  kI aB n λo =>
  cond (decide (W aB (o - (f.length:Int)) > 236))
 (aA (.done (aV [aI [aH [],aH [],aG [],aC aB 0],aC aB 6])))
 (aA (.done (aV [aI [aH (((b.take a.toNat)++[aG d])++((b.take b.length).drop a.toNat)),aH (((c.take ((W aB (a+1)).toNat))++[aC aB e])++((c.take c.length).drop ((W aB (a+1)).toNat))),aG f,aC aB g],aC aB 0])))))
 (gd (cC 1 b) <|
  gd (decide (0<=a)) <|
  gd (decide (a.toNat<=b.length)) <|
  gd (cC 1 (b.take a.toNat)) <|
  gd (decide (0+(b.take a.toNat).length<=16777216)) <|
  gd (decide ((b.take a.toNat).length+([aG d]:List V).length<=16777216)) <|
  gd (cC 1 b) <|
  gd (decide (0<=a)) <|
  gd (decide (a.toNat<=b.length)) <|
  gd (cC 1 ((b.take b.length).drop a.toNat)) <|
  gd (decide (((b.take a.toNat)++[aG d]).length+((b.take b.length).drop a.toNat).length<=16777216)) <|
  gd (cC 1 c) <|
  gd (decide (0<=W aB (a+1))) <|
  gd (decide ((W aB (a+1)).toNat<=c.length)) <|
  gd (cC 1 (c.take ((W aB (a+1)).toNat))) <|
  gd (decide (0+(c.take ((W aB (a+1)).toNat)).length<=16777216)) <|
  gd (decide ((c.take ((W aB (a+1)).toNat)).length+([aC aB e]:List V).length<=16777216)) <|
  gd (cC 1 c) <|
  gd (decide (0<=W aB (a+1))) <|
  gd (decide ((W aB (a+1)).toNat<=c.length)) <|
  gd (cC 1 ((c.take c.length).drop ((W aB (a+1)).toNat))) <|
  gd (decide (((c.take ((W aB (a+1)).toNat))++[aC aB e]).length+((c.take c.length).drop ((W aB (a+1)).toNat)).length<=16777216)) <|
  aT aJ 201 [aI [aH (((b.take a.toNat)++[aG d])++((b.take b.length).drop a.toNat)),aH (((c.take ((W aB (a+1)).toNat))++[aC aB e])++((c.take c.length).drop ((W aB (a+1)).toNat))),aG f,aC aB g]] λp =>
  kI aB p λq =>
  cond (decide (W aB (q - (f.length:Int)) > 236))
 (aA (.done (aV [aI [aH [],aH [],aG [],aC aB 0],aC aB 6])))
 (aA (.done (aV [aI [aH (((b.take a.toNat)++[aG d])++((b.take b.length).drop a.toNat)),aH (((c.take ((W aB (a+1)).toNat))++[aC aB e])++((c.take c.length).drop ((W aB (a+1)).toNat))),aG f,aC aB g],aC aB 0]))))))
def Zf(a b c d e f): Ep 149 [aI [aH a,aH b,aG c,aC aB d],aG e,aC aB f] (HB a b c d e f):=ep
def Ze(a b c d e f): Ed 149 [aI [aH a,aH b,aG c,aC aB d],aG e,aC aB f] (HB a b c d e f):=ed (Zf a b c d e f)
def HD (c b:List V) (d:List UInt8) (e a:Int): R :=
 aT aJ 196 [aI [aH c,aH b,aG d,aC aB e]] λf =>
 kB f λg =>
 cond (!g)
 (aA (.done (aV [aI [aH [],aH [],aG [],aC aB 0],aC aB 1])))
 (cond (decide (a < 0))
 (aA (.done (aV [aI [aH [],aH [],aG [],aC aB 0],aC aB 1])))
 (cond (decide (a ≥ (b.length:Int)))
 (aA (.done (aV [aI [aH [],aH [],aG [],aC aB 0],aC aB 1])))
 (cond (decide ((b.length:Int) < 2))
 (aA (.done (aV [aI [aH [],aH [],aG [],aC aB 0],aC aB 1])))
 (cond (a==(0:Int))
 (gd (cC 1 c) <|
  gd (cC 1 (c.take 0)) <|
  gd (decide (0+(c.take 0).length<=16777216)) <|
  gd (cC 1 c) <|
  gd (decide (1<=c.length)) <|
  gd (cC 1 ((c.take c.length).drop 1)) <|
  gd (decide ((c.take 0).length+((c.take c.length).drop 1).length<=16777216)) <|
  gd (cC 1 b) <|
  gd (decide (0<=a)) <|
  gd (decide (a.toNat<=b.length)) <|
  gd (cC 1 (b.take a.toNat)) <|
  gd (decide (0+(b.take a.toNat).length<=16777216)) <|
  gd (cC 1 b) <|
  gd (decide (0<=W aB (a+1))) <|
  gd (decide ((W aB (a+1)).toNat<=b.length)) <|
  gd (cC 1 ((b.take b.length).drop ((W aB (a+1)).toNat))) <|
  gd (decide ((b.take a.toNat).length+((b.take b.length).drop ((W aB (a+1)).toNat)).length<=16777216)) <|
  aA (.done (aV [aI [aH ((c.take 0)++((c.take c.length).drop 1)),aH ((b.take a.toNat)++((b.take b.length).drop ((W aB (a+1)).toNat))),aG d,aC aB e],aC aB 0])))
 (gd (cC 1 c) <|
  gd (decide (0<=W aB (a - 1))) <|
  gd (decide ((W aB (a - 1)).toNat<=c.length)) <|
  gd (cC 1 (c.take ((W aB (a - 1)).toNat))) <|
  gd (decide (0+(c.take ((W aB (a - 1)).toNat)).length<=16777216)) <|
  gd (cC 1 c) <|
  gd (decide (0<=W aB ((W aB (a - 1))+1))) <|
  gd (decide ((W aB ((W aB (a - 1))+1)).toNat<=c.length)) <|
  gd (cC 1 ((c.take c.length).drop ((W aB ((W aB (a - 1))+1)).toNat))) <|
  gd (decide ((c.take ((W aB (a - 1)).toNat)).length+((c.take c.length).drop ((W aB ((W aB (a - 1))+1)).toNat)).length<=16777216)) <|
  gd (cC 1 b) <|
  gd (decide (0<=a)) <|
  gd (decide (a.toNat<=b.length)) <|
  gd (cC 1 (b.take a.toNat)) <|
  gd (decide (0+(b.take a.toNat).length<=16777216)) <|
  gd (cC 1 b) <|
  gd (decide (0<=W aB (a+1))) <|
  gd (decide ((W aB (a+1)).toNat<=b.length)) <|
  gd (cC 1 ((b.take b.length).drop ((W aB (a+1)).toNat))) <|
  gd (decide ((b.take a.toNat).length+((b.take b.length).drop ((W aB (a+1)).toNat)).length<=16777216)) <|
  aA (.done (aV [aI [aH ((c.take ((W aB (a - 1)).toNat))++((c.take c.length).drop ((W aB ((W aB (a - 1))+1)).toNat))),aH ((b.take a.toNat)++((b.take b.length).drop ((W aB (a+1)).toNat))),aG d,aC aB e],aC aB 0])))))))
def Zl(a b c d e): Ep 152 [aI [aH a,aH b,aG c,aC aB d],aC aB e] (HD a b c d e):=ep
def Zk(a b c d e): Ed 152 [aI [aH a,aH b,aG c,aC aB d],aC aB e] (HD a b c d e):=ed (Zl a b c d e)
def HC (a b:List V) (c:List UInt8) (d e:Int): R :=
 aT aJ 196 [aI [aH a,aH b,aG c,aC aB d]] λf =>
 kB f λg =>
 cond (!g)
 (aA (.done (aV [aI [aH [],aH [],aG [],aC aB 0],aI [aH [],aH [],aG [],aC aB 0],aG [],aC aB 1])))
 (cond (decide ((b.length:Int) < 3))
 (aA (.done (aV [aI [aH [],aH [],aG [],aC aB 0],aI [aH [],aH [],aG [],aC aB 0],aG [],aC aB 1])))
 (aT aJ 200 [aC aB e] λh =>
  kB h λi =>
  cond (!i)
 (aA (.done (aV [aI [aH [],aH [],aG [],aC aB 0],aI [aH [],aH [],aG [],aC aB 0],aG [],aC aB 1])))
 (gd (cC 1 a) <|
  gd (decide (0<=W aB (((a.length:Int).tdiv 2)))) <|
  gd (decide ((W aB (((a.length:Int).tdiv 2))).toNat<=a.length)) <|
  gd (cC 1 (a.take ((W aB (((a.length:Int).tdiv 2))).toNat))) <|
  gd (decide (0+(a.take ((W aB (((a.length:Int).tdiv 2))).toNat)).length<=16777216)) <|
  gd (cC 1 b) <|
  gd (decide (0<=W aB ((W aB (((a.length:Int).tdiv 2)))+1))) <|
  gd (decide ((W aB ((W aB (((a.length:Int).tdiv 2)))+1)).toNat<=b.length)) <|
  gd (cC 1 (b.take ((W aB ((W aB (((a.length:Int).tdiv 2)))+1)).toNat))) <|
  gd (decide (0+(b.take ((W aB ((W aB (((a.length:Int).tdiv 2)))+1)).toNat)).length<=16777216)) <|
  gd (decide (0<=W aB (((a.length:Int).tdiv 2)))) <|
  bk a ((W aB (((a.length:Int).tdiv 2))).toNat) λj =>
  kS j λk =>
  gd (cC 1 a) <|
  gd (decide (0<=W aB ((W aB (((a.length:Int).tdiv 2)))+1))) <|
  gd (decide ((W aB ((W aB (((a.length:Int).tdiv 2)))+1)).toNat<=a.length)) <|
  gd (cC 1 ((a.take a.length).drop ((W aB ((W aB (((a.length:Int).tdiv 2)))+1)).toNat))) <|
  gd (decide (0+((a.take a.length).drop ((W aB ((W aB (((a.length:Int).tdiv 2)))+1)).toNat)).length<=16777216)) <|
  gd (cC 1 b) <|
  gd (decide (0<=W aB ((W aB (((a.length:Int).tdiv 2)))+1))) <|
  gd (decide ((W aB ((W aB (((a.length:Int).tdiv 2)))+1)).toNat<=b.length)) <|
  gd (cC 1 ((b.take b.length).drop ((W aB ((W aB (((a.length:Int).tdiv 2)))+1)).toNat))) <|
  gd (decide (0+((b.take b.length).drop ((W aB ((W aB (((a.length:Int).tdiv 2)))+1)).toNat)).length<=16777216)) <|
  gd (decide (0<=W aB (((a.length:Int).tdiv 2)))) <|
  bk a ((W aB (((a.length:Int).tdiv 2))).toNat) λl =>
  kS l λm =>
  aA (.done (aV [aI [aH (a.take ((W aB (((a.length:Int).tdiv 2))).toNat)),aH (b.take ((W aB ((W aB (((a.length:Int).tdiv 2)))+1)).toNat)),aG k,aC aB (W aB (e+1))],aI [aH ((a.take a.length).drop ((W aB ((W aB (((a.length:Int).tdiv 2)))+1)).toNat)),aH ((b.take b.length).drop ((W aB ((W aB (((a.length:Int).tdiv 2)))+1)).toNat)),aG c,aC aB d],aG m,aC aB 0])))))
def Zi(a b c d e): Ep 150 [aI [aH a,aH b,aG c,aC aB d],aC aB e] (HC a b c d e):=ep
def Zh(a b c d e): Ed 150 [aI [aH a,aH b,aG c,aC aB d],aC aB e] (HC a b c d e):=ed (Zi a b c d e)
def CC(a:List V)(b c:Int)(d:List V): S:=⟨[aH a,aC aB b,bj,bj,dD 0,dD 1,aC aB c]++(JU 38),[aN 38 [] 0,aN 38 d 0]⟩
def Y7 (a:List V) (b:Int): R :=
 aA (.head 0 (CC a b 0 []))
def Zg(a b): Ep 14 [aH a,aC aB b] (Y7 a b):=ep
def KW (e:List V) (g d:Int) (c:List V): R :=
 cond (decide (d < (e.length:Int)))
 (cond (decide (d < g))
 (gd (decide (0<=d)) <|
  bk e d.toNat λj =>
  Af j λh a b i =>
  gd (decide (0<=(if 20 < (a.length:Int) then 20 else (a.length:Int)))) <|
  gd (decide ((if 20 < (a.length:Int) then 20 else (a.length:Int)).toNat<=a.length)) <|
  gd (decide (0<=(if 40 < (b.length:Int) then 40 else (b.length:Int)))) <|
  gd (decide ((if 40 < (b.length:Int) then 40 else (b.length:Int)).toNat<=b.length)) <|
  gd (decide (c.length+([aI [aC aB h,aG (a.take ((if 20 < (a.length:Int) then 20 else (a.length:Int)).toNat)),aG (b.take ((if 40 < (b.length:Int) then 40 else (b.length:Int)).toNat)),aC aB i]]:List V).length<=16777216)) <|
  aA (.head 0 (CC e g (W aB (d+1)) (c++[aI [aC aB h,aG (a.take ((if 20 < (a.length:Int) then 20 else (a.length:Int)).toNat)),aG (b.take ((if 40 < (b.length:Int) then 40 else (b.length:Int)).toNat)),aC aB i]]))))
 (gd ((c:List V).all λf=>f.cells.all js) <|
  aA (.done (V.fr 38 c))))
 (gd ((c:List V).all λf=>f.cells.all js) <|
  aA (.done (V.fr 38 c)))
def Ug(a b c d): Rd aE 0 14 0 (CC a b c d) (KW a b c d):=rd
def Pg (c:Int) (b:List (V × V)) (d:List V): R :=
 bV aJ aU vF 131 [aL 0 0 0,aC aB 0] (bm c d) λa =>
 cond (a.2.1==(0:Int))
 (cg (kg b (aC aB a.1) (aG [])) λe =>
  aA (.doneM (aV [aC aB a.1,aC aB a.2.1]) (sm a.2.2.1 e a.2.2.2)))
 (aA (.doneM (aV [aC aB a.1,aC aB a.2.1]) (sm a.2.2.1 b a.2.2.2)))
def aaX(a b c): Ec 84 4 aU [aL 0 0 0] (sm a b c) (Pg a b c):=ec
def Ph (c:Int) (b:List (V × V)) (d:List V): R :=
 bV aJ aU vF 131 [aL 0 0 0,aC aB 0] [aM 192 (aI [bl 1 0,aC aB c]) aE,aN 5 d 0] λa =>
 cond (a.2.1==(0:Int))
 (cg (kg b (aC aB a.1) (aG [])) λe =>
  aA (.doneM (aV [aC aB a.1,aC aB a.2.1]) (sm a.2.2.1 e a.2.2.2)))
 (aA (.doneM (aV [aC aB a.1,aC aB a.2.1]) (sm a.2.2.1 b a.2.2.2)))
def aaY(a b c): Ec 84 4 aU [aL 0 0 0] [aM 140 (aI [aL 1 0 0,dJ 2]) aE,aM 192 (aI [bl 3 0,aC aB a]) aE,dI b,aN 5 c 0] (Ph a b c):=ec
def Pd (e:Int) (b:List V) (c:List UInt8) (d f g:Int) (h:List (V × V)) (i:List V): R :=
 aT aJ 120 [aI [aH b,aG c,aC aB d]] λj =>
 kS j λk =>
 bV aJ aU xX 119 [aL 0 0 0,aC aB e,aG k] (sm g h i) λa =>
 aA (.doneM (aV []) (tm f a.2.1 a.2.2.1 a.2.2.2++[aN 41 [] 0,aM 120 (aI [aH b,aG c,aC aB d]) aE]))
def aaR(a b c d e f g h): Ec 78 5 aU [aL 0 0 0,aC aB a,gK 120 (aI [aH b,aG c,aC aB d])] (tm e f g h) (Pd a b c d e f g h):=ec
def xu (f l:List UInt8) (e b:Int) (c:List (V × V)) (d:List V): R :=
 aT aJ 73 [aG f] λn =>
 kB n λo =>
 cond (!o)
 (aA (.doneM (aV [aW aE,aC aB 1]) (tm e b c d)))
 (aT aJ 74 [aG l] λp =>
  kB p λq =>
  cond (!q)
 (aA (.doneM (aV [aW aE,aC aB 1]) (tm e b c d)))
 (cJ aJ aU tJ 75 [aL 0 0 0,aG f] (tm e b c d) λa =>
  cd (tm e b c d) <|
  aT aJ 76 [aI [aH a.2.1,aG a.2.2.1,aC aB a.2.2.2.1],aG f] λr =>
  iC r λv m =>
  aT aJ 77 [aI [aH a.2.1,aG a.2.2.1,aC aB a.2.2.2.1],aG f,aG l] λs =>
  qI s λg h i t =>
  cond (t==(0:Int))
 (bV aJ aU gE 78 [aL 0 0 0,aC aB a.2.2.2.2,gK 120 (aI [aH g,aG h,aC aB i])] (tm e b c d) λj =>
  aA (.doneM (aV [aW (m != (0:Int)),aC aB 0]) (tm j.1 j.2.1 j.2.2.1 j.2.2.2++[aN 41 [] 0,aM 120 (aI [aH a.2.1,aG a.2.2.1,aC aB a.2.2.2.1]) aE,aN 41 [] 0,aM 120 (aI [aH g,aG h,aC aB i]) aE])))
 (cJ aJ aU vI 44 [aL 0 0 0] (sm b c d) λu =>
  cd (tm e b c d++[aN 41 [] 0,aM 120 (aI [aH a.2.1,aG a.2.2.1,aC aB a.2.2.2.1]) aE,aN 41 [] 0,aM 120 (aI [aH g,aG h,aC aB i]) aE]) <|
  cond (decide (u < W aB ((W aB ((a.1.length:Int)+1))+1)))
 (aA (.doneM (aV [aW aE,aC aB 6]) (tm e b c d++[aN 41 [] 0,aM 120 (aI [aH a.2.1,aG a.2.2.1,aC aB a.2.2.2.1]) aE,aN 41 [] 0,aM 120 (aI [aH g,aG h,aC aB i]) aE])))
 (bV aJ aU vL 79 [aL 0 0 0,aH a.1,aI [aH a.2.1,aG a.2.2.1,aC aB a.2.2.2.1],aC aB a.2.2.2.2,aI [aG f,aG l]] (tm e b c d) λk =>
  aA (.doneM (aV [aW (m != (0:Int)),aC aB 0]) (tm k.1 k.2.1 k.2.2.1 k.2.2.2++[aN 41 [] 0,aM 120 (aI [aH a.2.1,aG a.2.2.1,aC aB a.2.2.2.1]) aE,aN 41 [] 0,aM 120 (aI [aH g,aG h,aC aB i]) aE]))))))
def aaj(a b c d e f): Ec 32 5 aU [aL 0 0 0,aG a,aG b] (tm c d e f) (xu a b c d e f):=ec
def uX (l:List UInt8) (b c:Int) (d:List (V × V)) (e:List V): R :=
 aT aJ 73 [aG l] λn =>
 kB n λo =>
 cond (!o)
 (aA (.doneM (aC aB 1) (tm b c d e)))
 (cJ aJ aU tJ 75 [aL 0 0 0,aG l] (tm b c d e) λa =>
  cd (tm b c d e) <|
  aT aJ 80 [aI [aH a.2.1,aG a.2.2.1,aC aB a.2.2.2.1],aG l] λp =>
  qI p λf g h m =>
  cond (m != (0:Int))
 (aA (.doneM (aC aB m) (tm b c d e++[aN 41 [] 0,aM 120 (aI [aH a.2.1,aG a.2.2.1,aC aB a.2.2.2.1]) aE,aN 41 [] 0,aM 120 (aI [aH f,aG g,aC aB h]) aE])))
 (cond (decide ((f.length:Int) > 0))
 (bV aJ aU gE 78 [aL 0 0 0,aC aB a.2.2.2.2,gK 120 (aI [aH f,aG g,aC aB h])] (tm b c d e) λi =>
  aA (.doneM (aC aB 0) (tm i.1 i.2.1 i.2.2.1 i.2.2.2++[aN 41 [] 0,aM 120 (aI [aH a.2.1,aG a.2.2.1,aC aB a.2.2.2.1]) aE,aN 41 [] 0,aM 120 (aI [aH f,aG g,aC aB h]) aE])))
 (cond ((a.1.length:Int)==(0:Int))
 (bV aJ aU gE 78 [aL 0 0 0,aC aB a.2.2.2.2,gK 120 (aI [aH f,aG g,aC aB h])] (tm b c d e) λj =>
  aA (.doneM (aC aB 0) (tm j.1 j.2.1 j.2.2.1 j.2.2.2++[aN 41 [] 0,aM 120 (aI [aH a.2.1,aG a.2.2.1,aC aB a.2.2.2.1]) aE,aN 41 [] 0,aM 120 (aI [aH f,aG g,aC aB h]) aE])))
 (bV aJ aU yh 81 [aL 0 0 0,aH a.1,aC aB a.2.2.2.2] (tm b c d e) λk =>
  aA (.doneM (aC aB 0) (tm k.1 k.2.1 k.2.2.1 k.2.2.2++[aN 41 [] 0,aM 120 (aI [aH a.2.1,aG a.2.2.1,aC aB a.2.2.2.1]) aE,aN 41 [] 0,aM 120 (aI [aH f,aG g,aC aB h]) aE]))))))
def aak(a b c d e): Ec 33 5 aU [aL 0 0 0,aG a] (tm b c d e) (uX a b c d e):=ec
def Ak (f:List UInt8) (b c:Int) (d:List (V × V)) (e:List V): R :=
 aT aJ 73 [aG f] λg =>
 kB g λh =>
 cond (!h)
 (aA (.doneM (aV [aG [],aC aB 1]) (tm b c d e)))
 (cJ aJ aU tJ 75 [aL 0 0 0,aG f] (tm b c d e) λa =>
  cd (tm b c d e) <|
  aT aJ 76 [aI [aH a.2.1,aG a.2.2.1,aC aB a.2.2.2.1],aG f] λi =>
  iC i λj k =>
  aA (.doneM (aV [aG j,aC aB k]) (tm b c d e++[aN 41 [] 0,aM 120 (aI [aH a.2.1,aG a.2.2.1,aC aB a.2.2.2.1]) aE])))
def DC(a b c d e): Ec 39 5 aU [aL 0 0 0,aG a] (tm b c d e) (Ak a b c d e):=ec
def uL(a:Bool)(b c d e:Int)(f:List (V × V))(g h:List V): S:=⟨[bj,bj,aC aB 0,bj,bj,aW a]++(JU 18)++[bl 5 0,aC aB b,aC aB c]++(JU 11),(tm d e f g++[aN 3 h 0])⟩
def H3 (b c:Int) (d:List (V × V)) (e:List V): R :=
 bV aJ ⟨aD,aE,aD,[3,9]⟩ tK 85 [aL 0 0 0,aL 1 0 0,aC aB b,aG [],aG []] (lm b [] [] [] c d e) λa =>
 aA (.head 0 (uL a.2.1 (a.2.2.2.2.2.2.2.1.length:Int) 0 a.2.2.1 a.2.2.2.2.1 a.2.2.2.2.2.1 a.2.2.2.2.2.2.1 a.2.2.2.2.2.2.2.1))
def OX(a b c d): Ec 40 5 aU [aL 0 0 0] (tm a b c d) (H3 a b c d):=ec
def FE (h:Bool) (g a c d:Int) (e:List (V × V)) (f b:List V): R :=
 cond (decide (a < g))
 (gd (decide (0<=a)) <|
  gd (decide (a.toNat < b.length)) <|
  bk b (0+a.toNat) λi =>
  kI aB i λj =>
  cond h
 (aA (.head 0 (uL (j==(0:Int)) g (W aB (a+1)) c d e f b)))
 (aA (.head 0 (uL aE g (W aB (a+1)) c d e f b))))
 (cond (!h)
 (aA (.doneM (aC aB 4) (tm c d e f++[aN 3 b 0])))
 (aA (.doneM (aC aB 0) (tm c d e f++[aN 3 b 0]))))
def Lg(a b c d e f g h): Rd aD 5 40 0 (uL a b c d e f g h) (FE a b c d e f g h):=rd
def OY (a b:Int) (c:List (V × V)) (d:List V): R :=
 cJ aJ aU vM 87 [aL 0 0 0] (tm a b c d) λf =>
 cd (tm a b c d++[aN 3 [] 0]) <|
 bV aJ ⟨aD,aE,aE,[]⟩ AX 86 [aH f] [] λe =>
 gd (decide (e.length<=16777216)) <|
 cg (tg e) λg =>
 aA (.doneM (bl 6 0) (tm a b c d++[aN 3 [] 0,aN 3 ((srt g).map iV) 0]))
def aan(a b c d): Ec 42 5 aU [aL 0 0 0] (tm a b c d) (OY a b c d):=ec
def O3 (a:Int) (c:List (V × V)) (b:List V): R :=
 cJ aJ aU vN 90 [aL 0 0 0] (bm a b) λd =>
 cd (sm a c b++[aN 3 [] 0]) <|
 aA (.doneM (aH d) (sm a c b++[aN 3 [] 0]))
def aaw(a b c): Ec 50 4 aU [aL 0 0 0] (sm a b c) (O3 a b c):=ec
def zQ(a:List UInt8)(b:Int)(c:List V)(d e f g:Int)(h:List (V × V))(i j:List V): S:=⟨[aL 0 0 0,aG a,aC aB b,bj,bj,bj,dD 5,dD 6]++(JU 7)++[aH c,aC aB d,aC aB e]++(JU 34),(tm f g h i++[aN 41 [] 0,aN 41 j 0])⟩
def uK(a:List UInt8)(b:Int)(c:List V)(d e:Int)(f:List V)(g h i j:Int)(k:List (V × V))(l m:List V): S:=⟨[aL 0 0 0,aG a,aC aB b,bj,bj,bj,dD 5,dD 6]++(JU 7)++[aH c,aC aB d,aC aB e]++(JU 11)++[aH f,aC aB g,aC aB h]++(JU 20),(tm i j k l++[aN 41 [] 0,aN 41 m 0])⟩
def MZ(a:List UInt8)(b:Int)(c:List V)(d e f g:Int)(h:List (V × V))(i j:List V): S:=⟨[aL 0 0 0,aG a,aC aB b,bj,bj,bj,dD 5,dD 6]++(JU 7)++[aH c,aC aB d,aC aB e]++(JU 11)++[V.nilS,aC aB 0,aC aB 0]++(JU 20),(tm f g h i++[aN 41 [] 0,aN 41 j 0])⟩
def OW (f:List UInt8) (g a b:Int) (c:List (V × V)) (d:List V): R :=
 cJ aJ aU tH 46 [aL 0 0 0] (tm a b c d) λe =>
 cd (tm a b c d++[aN 41 [] 0,aN 41 [] 0]) <|
 aA (.head 0 (zQ f g e (e.length:Int) 0 a b c d []))
def aal(a b c d e f): Ec 34 5 aU [aL 0 0 0,aG a,aC aB b] (tm c d e f) (OW a b c d e f):=ec
def Le (i:List UInt8) (j:Int) (g:List V) (h f a b:Int) (c:List (V × V)) (d e:List V): R :=
 cond (decide (f < h))
 (gd (decide (0<=f)) <|
  bk g f.toNat λl =>
  kI aB l λm =>
  iF aJ aU (gZ (tm a b c d)) (hJ (tm a b c d)) (iu (tm a b c d)) 82 [aL 0 0 0,aC aB m] (tm a b c d)
 (λk =>
  cd (tm a b c d++[aN 41 [] 0,aN 41 e 0]) <|
  aA (.head 1 (uK i j g h f k.1 (k.1.length:Int) 0 a b c d e)))
 (λn =>
  cd (tm a b c d++[aN 41 [] 0,aN 41 e 0]) <|
  aA (.head 1 (MZ i j g h f a b c d e)))
 (λo =>
  cd (tm a b c d++[aN 41 [] 0,aN 41 e 0]) <|
  aA (.head 1 (MZ i j g h f a b c d e))))
 (aA (.doneM (dD 6) (tm a b c d++[aN 41 [] 0,aN 41 e 0])))
def Uy(a b c d e f g h i j): Rd aD 5 34 0 (zQ a b c d e f g h i j) (Le a b c d e f g h i j):=rd
def FC (c:List UInt8) (d:Int) (e:List V) (f g:Int) (h:List V) (i a j k:Int) (l:List (V × V)) (m b:List V): R :=
 cond (decide (a < i))
 (gd (decide (0<=a)) <|
  bk h a.toNat λp =>
  eJ p λn o =>
  cond (!Op.bytesLess n c)
 (cond (decide ((b.length:Int) < d))
 (gd (decide (b.length+([aI [aG n,aG o]]:List V).length<=16777216)) <|
  aA (.head 1 (uK c d e f g h i (W aB (a+1)) j k l m (b++[aI [aG n,aG o]]))))
 (aA (.head 1 (uK c d e f g h i (W aB (a+1)) j k l m b))))
 (aA (.head 1 (uK c d e f g h i (W aB (a+1)) j k l m b))))
 (aA (.head 0 (zQ c d e f (W aB (g+1)) j k l m b)))
def Uz(a b c d e f g h i j k l m): Rd aD 5 34 1 (uK a b c d e f g h i j k l m) (FC a b c d e f g h i j k l m):=rd
def CH(a b c d:Int)(e:List (V × V))(f:List V): S:=⟨[aL 0 0 0,bj,aC aB 0,aC aB a,aC aB b]++(JU 22),(tm c d e f)⟩
def e43 (a b:Int) (c:List (V × V)) (d:List V): R :=
 aA (.head 0 (CH 0 a a b c d))
def aao(a b c d): Ec 43 5 aU [aL 0 0 0] (tm a b c d) (e43 a b c d):=ec
def Lh (e f a b:Int) (c:List (V × V)) (d:List V): R :=
 iF aJ aU (gZ (tm a b c d)) (hJ (tm a b c d)) (iu (tm a b c d)) 82 [aL 0 0 0,aC aB f] (tm a b c d)
 (λj =>
  cd (tm a b c d) <|
  aA (.doneM (aC aB e) (tm a b c d)))
 (λg =>
  cd (tm a b c d) <|
  bk g.2.1 0 λh =>
  kI aB h λi =>
  aA (.head 0 (CH (W aB (e+1)) i a b c d)))
 (λk =>
  cd (tm a b c d) <|
  aA (.doneM (aC aB e) (tm a b c d)))
def UA(a b c d e f): Rd aD 5 43 0 (CH a b c d e f) (Lh a b c d e f):=rd
def OZ (a:Int) (c:List (V × V)) (b:List V): R :=
 cJ aJ aU yj 89 [aL 0 0 0] (bm a b) λd =>
 cd (sm a c b) <|
 aA (.doneM (aC aB d) (sm a c b))
def aap(a b c): Ec 44 4 aU [aL 0 0 0] (sm a b c) (OZ a b c):=ec
def O1 (a b:Int) (c:List (V × V)) (d:List V): R :=
 cJ aJ aU vM 87 [aL 0 0 0] (tm a b c d) λe =>
 cd (tm a b c d++[aN 3 [] 0]) <|
 gd (decide (0<=W aB ((e.length:Int) - 1))) <|
 bk e ((W aB ((e.length:Int) - 1)).toNat) λf =>
 kL f λg =>
 aA (.doneM (aH g) (tm a b c d++[aN 3 [] 0]))
def aar(a b c d): Ec 46 5 aU [aL 0 0 0] (tm a b c d) (O1 a b c d):=ec
def e52 (a b:Int) (c:List (V × V)) (d:List V): R :=
 aA (.doneM (aC aB a) (tm a b c d))
def aax(a b c d): Ec 52 5 aU [aL 0 0 0] (tm a b c d) (e52 a b c d):=ec
def O7 (b c:List V): R :=
 bV aJ aU AZ 99 [aL 0 0 0,aC aB 0] (rb c) λa =>
 cond (a.2.1==(0:Int))
 (gd (decide (0<=a.1)) <|
  gd (decide (a.1.toNat < b.length)) <|
  bk b (0+a.1.toNat) λd =>
  kS d λe =>
  aA (.doneM (aV [aC aB a.1,aC aB a.2.1]) (rs (((b).set (0+a.1.toNat) (aG []))) a.2.2)))
 (aA (.doneM (aV [aC aB a.1,aC aB a.2.1]) (rs b a.2.2)))
def aaB(a b): Ec 60 4 aU [aL 0 0 0] (rs a b) (O7 a b):=ec
def O8 (b:Int) (e:List UInt8) (a c:List V): R :=
 cJ aJ aU vE 100 [aL 0 0 0,aC aB b] (rs a c) λd =>
 cd (rs a c) <|
 cond (d==(0:Int))
 (cond (decide ((e.length:Int) > 252))
 (aA (.doneM (aC aB 2) (rs a c)))
 (cond (d==(0:Int))
 (gd (decide (0<=b)) <|
  gd (decide (b.toNat < a.length)) <|
  bk a (0+b.toNat) λf =>
  kS f λh =>
  aA (.doneM (aC aB d) (rs (((a).set (0+b.toNat) (aG e))) c)))
 (aA (.doneM (aC aB d) (rs a c)))))
 (cond (d==(0:Int))
 (gd (decide (0<=b)) <|
  gd (decide (b.toNat < a.length)) <|
  bk a (0+b.toNat) λg =>
  kS g λi =>
  aA (.doneM (aC aB d) (rs (((a).set (0+b.toNat) (aG e))) c)))
 (aA (.doneM (aC aB d) (rs a c))))
def aaC(a b c d): Ec 61 4 aU [aL 0 0 0,aC aB a,aG b] (rs c d) (O8 a b c d):=ec
def DD (b:Int) (a c:List UInt8) (d e f g:Int) (h:List (V × V)) (i j k:List V): R :=
 cond (b==(0:Int))
 (bV aJ aU oz 32 [aL 0 0 0,aG a,aG c] (tm e g h j) λl =>
  bV aJ aU AV 65 [aL 0 0 0,aG a,aG c] (rm f i k) λm =>
  cond (l.1==m.1)
 (aA (.doneM (aW (l.2.1==m.2.1)) [aM 128 (aI [aL 2 0 0,aC aB l.2.2.1]) aE,aM 91 (aI [aL 3 0 0,aC aB m.2.2.1]) aE,aM 140 (aI [aL 4 0 0,dJ 5]) aE,aM 102 (aI [aL 6 0 0,bl 7 0]) aE,aM 192 (aI [bl 8 0,aC aB l.2.2.2.1]) aD,dI l.2.2.2.2.1,aM 159 (aI [bl 9 0]) aE,aN 9 m.2.2.2.1 0,aN 5 l.2.2.2.2.2 0,aN 4 m.2.2.2.2 0,aM 38 (aI [aC aB b,aG a,aG c,aC aB d]) aE]))
 (aA (.doneM (aW aE) [aM 128 (aI [aL 2 0 0,aC aB l.2.2.1]) aE,aM 91 (aI [aL 3 0 0,aC aB m.2.2.1]) aE,aM 140 (aI [aL 4 0 0,dJ 5]) aE,aM 102 (aI [aL 6 0 0,bl 7 0]) aE,aM 192 (aI [bl 8 0,aC aB l.2.2.2.1]) aD,dI l.2.2.2.2.1,aM 159 (aI [bl 9 0]) aE,aN 9 m.2.2.2.1 0,aN 5 l.2.2.2.2.2 0,aN 4 m.2.2.2.2 0,aM 38 (aI [aC aB b,aG a,aG c,aC aB d]) aE])))
 (cond (b==(1:Int))
 (bV aJ aU oC 33 [aL 0 0 0,aG a] (tm e g h j) λn =>
  bV aJ aU AW 66 [aL 0 0 0,aG a] (rm f i k) λo =>
  aA (.doneM (aW (n.1==o.1)) [aM 128 (aI [aL 2 0 0,aC aB n.2.1]) aE,aM 91 (aI [aL 3 0 0,aC aB o.2.1]) aE,aM 140 (aI [aL 4 0 0,dJ 5]) aE,aM 102 (aI [aL 6 0 0,bl 7 0]) aE,aM 192 (aI [bl 8 0,aC aB n.2.2.1]) aD,dI n.2.2.2.1,aM 159 (aI [bl 9 0]) aE,aN 9 o.2.2.1 0,aN 5 n.2.2.2.2 0,aN 4 o.2.2.2 0,aM 38 (aI [aC aB b,aG a,aG c,aC aB d]) aE]))
 (cond (b==(2:Int))
 (cJ aJ aU mR 39 [aL 0 0 0,aG a] (tm e g h j) λp =>
  cd [aM 128 (aI [aL 2 0 0,aC aB e]) aE,aM 91 (aI [aL 3 0 0,aC aB f]) aE,aM 140 (aI [aL 4 0 0,dJ 5]) aE,aM 102 (aI [aL 6 0 0,bl 7 0]) aE,aM 192 (aI [bl 8 0,aC aB g]) aD,dI h,aM 159 (aI [bl 9 0]) aE,aN 9 i 0,aN 5 j 0,aN 4 k 0,aM 38 (aI [aC aB b,aG a,aG c,aC aB d]) aE] <|
  cJ aJ aU vO 91 [aL 0 0 0,aG a] (rm f i k) λq =>
  cd [aM 128 (aI [aL 2 0 0,aC aB e]) aE,aM 91 (aI [aL 3 0 0,aC aB f]) aE,aM 140 (aI [aL 4 0 0,dJ 5]) aE,aM 102 (aI [aL 6 0 0,bl 7 0]) aE,aM 192 (aI [bl 8 0,aC aB g]) aD,dI h,aM 159 (aI [bl 9 0]) aE,aN 9 i 0,aN 5 j 0,aN 4 k 0,aM 38 (aI [aC aB b,aG a,aG c,aC aB d]) aE] <|
  cond (p.1==q.1)
 (aA (.doneM (aW (p.2==q.2)) [aM 128 (aI [aL 2 0 0,aC aB e]) aE,aM 91 (aI [aL 3 0 0,aC aB f]) aE,aM 140 (aI [aL 4 0 0,dJ 5]) aE,aM 102 (aI [aL 6 0 0,bl 7 0]) aE,aM 192 (aI [bl 8 0,aC aB g]) aD,dI h,aM 159 (aI [bl 9 0]) aE,aN 9 i 0,aN 5 j 0,aN 4 k 0,aM 38 (aI [aC aB b,aG a,aG c,aC aB d]) aE]))
 (aA (.doneM (aW aE) [aM 128 (aI [aL 2 0 0,aC aB e]) aE,aM 91 (aI [aL 3 0 0,aC aB f]) aE,aM 140 (aI [aL 4 0 0,dJ 5]) aE,aM 102 (aI [aL 6 0 0,bl 7 0]) aE,aM 192 (aI [bl 8 0,aC aB g]) aD,dI h,aM 159 (aI [bl 9 0]) aE,aN 9 i 0,aN 5 j 0,aN 4 k 0,aM 38 (aI [aC aB b,aG a,aG c,aC aB d]) aE])))
 (cJ aJ aU vH 34 [aL 0 0 0,aG a,aC aB d] (tm e g h j) λr =>
  cd [aM 128 (aI [aL 2 0 0,aC aB e]) aE,aM 91 (aI [aL 3 0 0,aC aB f]) aE,aM 140 (aI [aL 4 0 0,dJ 5]) aE,aM 102 (aI [aL 6 0 0,bl 7 0]) aE,aM 192 (aI [bl 8 0,aC aB g]) aD,dI h,aM 159 (aI [bl 9 0]) aE,aN 9 i 0,aN 5 j 0,aN 4 k 0,aM 38 (aI [aC aB b,aG a,aG c,aC aB d]) aE] <|
  cJ aJ aU yk 92 [aL 0 0 0,aG a,aC aB d] (rm f i k) λs =>
  cd [aM 128 (aI [aL 2 0 0,aC aB e]) aE,aM 91 (aI [aL 3 0 0,aC aB f]) aE,aM 140 (aI [aL 4 0 0,dJ 5]) aE,aM 102 (aI [aL 6 0 0,bl 7 0]) aE,aM 192 (aI [bl 8 0,aC aB g]) aD,dI h,aM 159 (aI [bl 9 0]) aE,aN 9 i 0,aN 5 j 0,aN 4 k 0,aM 38 (aI [aC aB b,aG a,aG c,aC aB d]) aE] <|
  aT aJ 23 [aH r,aH s] λt =>
  kB t λu =>
  aA (.doneM (aW u) [aM 128 (aI [aL 2 0 0,aC aB e]) aE,aM 91 (aI [aL 3 0 0,aC aB f]) aE,aM 140 (aI [aL 4 0 0,dJ 5]) aE,aM 102 (aI [aL 6 0 0,bl 7 0]) aE,aM 192 (aI [bl 8 0,aC aB g]) aD,dI h,aM 159 (aI [bl 9 0]) aE,aN 9 i 0,aN 5 j 0,aN 4 k 0,aM 38 (aI [aC aB b,aG a,aG c,aC aB d]) aE]))))
def H7(a b c d e f g h i j k): Ec 53 10 aU [aL 0 0 0,aL 1 0 0,aI [aC aB a,aG b,aG c,aC aB d]] [aM 128 (aI [aL 2 0 0,aC aB e]) aE,aM 91 (aI [aL 3 0 0,aC aB f]) aE,aM 140 (aI [aL 4 0 0,dJ 5]) aE,aM 102 (aI [aL 6 0 0,bl 7 0]) aE,aM 192 (aI [bl 8 0,aC aB g]) aD,dI h,aM 159 (aI [bl 9 0]) aE,aN 9 i 0,aN 5 j 0,aN 4 k 0] (DD a b c d e f g h i j k):=ec
def CK(a:List V)(b c:Int)(d:List (V × V))(e f g:List V): S:=⟨[aL 0 0 0,aL 1 0 0,bj,bj,aW aE,aH a,aC aB b]++(JU 42),[aM 140 (aI [aL 2 0 0,dJ 3]) aE,aM 102 (aI [aL 4 0 0,bl 5 0]) aE,aM 192 (aI [bl 6 0,aC aB c]) aD,dI d,aM 159 (aI [bl 7 0]) aE,aN 9 e 0,aN 5 f 0,aN 4 g 0]⟩
def O4 (a:Int) (b:List (V × V)) (e c d:List V): R :=
 cJ aJ aU vJ 50 [aL 0 0 0] (sm a b c) λf =>
 cd [aM 140 (aI [aL 2 0 0,dJ 3]) aE,aM 102 (aI [aL 4 0 0,bl 5 0]) aE,aM 192 (aI [bl 6 0,aC aB a]) aD,dI b,aM 159 (aI [bl 7 0]) aE,aN 9 e 0,aN 5 c 0,aN 4 d 0] <|
 cJ aJ aU vP 93 [aL 0 0 0] (rb d) λg =>
 cd [aM 140 (aI [aL 2 0 0,dJ 3]) aE,aM 102 (aI [aL 4 0 0,bl 5 0]) aE,aM 192 (aI [bl 6 0,aC aB a]) aD,dI b,aM 159 (aI [bl 7 0]) aE,aN 9 e 0,aN 5 c 0,aN 4 d 0] <|
 aT aJ 49 [aH f,aH g] λh =>
 kB h λi =>
 cond (!i)
 (aA (.doneM (aW aE) [aM 140 (aI [aL 2 0 0,dJ 3]) aE,aM 102 (aI [aL 4 0 0,bl 5 0]) aE,aM 192 (aI [bl 6 0,aC aB a]) aD,dI b,aM 159 (aI [bl 7 0]) aE,aN 9 e 0,aN 5 c 0,aN 4 d 0]))
 (cJ aJ aU vJ 50 [aL 0 0 0] (sm a b c) λj =>
  cd [aM 140 (aI [aL 2 0 0,dJ 3]) aE,aM 102 (aI [aL 4 0 0,bl 5 0]) aE,aM 192 (aI [bl 6 0,aC aB a]) aD,dI b,aM 159 (aI [bl 7 0]) aE,aN 9 e 0,aN 5 c 0,aN 4 d 0] <|
  aA (.head 0 (CK j 0 a b e c d)))
def aay(a b c d e): Ec 54 8 aU [aL 0 0 0,aL 1 0 0] [aM 140 (aI [aL 2 0 0,dJ 3]) aE,aM 102 (aI [aL 4 0 0,bl 5 0]) aE,aM 192 (aI [bl 6 0,aC aB a]) aD,dI b,aM 159 (aI [bl 7 0]) aE,aN 9 c 0,aN 5 d 0,aN 4 e 0] (O4 a b c d e):=ec
def Lm (g:List V) (a b:Int) (c:List (V × V)) (d e f:List V): R :=
 cond (decide (a < (g.length:Int)))
 (gd (decide (0<=a)) <|
  bk g a.toNat λh =>
  kI aB h λi =>
  cJ aJ aU pN 58 [aL 0 0 0,aC aB i] (sm b c e) λj =>
  cd [aM 140 (aI [aL 2 0 0,dJ 3]) aE,aM 102 (aI [aL 4 0 0,bl 5 0]) aE,aM 192 (aI [bl 6 0,aC aB b]) aD,dI c,aM 159 (aI [bl 7 0]) aE,aN 9 d 0,aN 5 e 0,aN 4 f 0] <|
  gd (decide (0<=a)) <|
  bk g a.toNat λk =>
  kI aB k λl =>
  cJ aJ aU tL 94 [aL 0 0 0,aC aB l] (rs d f) λm =>
  cd [aM 140 (aI [aL 2 0 0,dJ 3]) aE,aM 102 (aI [aL 4 0 0,bl 5 0]) aE,aM 192 (aI [bl 6 0,aC aB b]) aD,dI c,aM 159 (aI [bl 7 0]) aE,aN 9 d 0,aN 5 e 0,aN 4 f 0] <|
  cond (!(j.1==m.1))
 (aA (.doneM (aW aE) [aM 140 (aI [aL 2 0 0,dJ 3]) aE,aM 102 (aI [aL 4 0 0,bl 5 0]) aE,aM 192 (aI [bl 6 0,aC aB b]) aD,dI c,aM 159 (aI [bl 7 0]) aE,aN 9 d 0,aN 5 e 0,aN 4 f 0]))
 (aA (.head 0 (CK g (W aB (a+1)) b c d e f))))
 (aA (.doneM (aW aD) [aM 140 (aI [aL 2 0 0,dJ 3]) aE,aM 102 (aI [aL 4 0 0,bl 5 0]) aE,aM 192 (aI [bl 6 0,aC aB b]) aD,dI c,aM 159 (aI [bl 7 0]) aE,aN 9 d 0,aN 5 e 0,aN 4 f 0]))
def UD(a b c d e f g): Rd aD 8 54 0 (CK a b c d e f g) (Lm a b c d e f g):=rd
def O5 (a:Int) (b c:List V): R :=
 cJ aJ aU pM 56 [aL 0 0 0] (rm a b c) λd =>
 cd (rm a b c++[aN 3 [] 0]) <|
 gd (decide (0<=W aB ((d.length:Int) - 1))) <|
 bk d ((W aB ((d.length:Int) - 1)).toNat) λe =>
 kL e λf =>
 aA (.doneM (aH f) (rm a b c++[aN 3 [] 0]))
def aaz(a b c): Ec 55 5 aU [aL 0 0 0] (rm a b c) (O5 a b c):=ec
def zS(a:Int)(b c d:List V): S:=⟨[aL 0 0 0,bj,dD 5,dD 6]++(JU 46),(rm a b c++[aN 80 [] 0,aN 80 d 0])⟩
def nU(a:List V)(b c:Int)(d e f g:List V): S:=⟨[aL 0 0 0,bj,dD 5,dD 6,dD 7,aH a,aC aB b]++(JU 43),(rm c d e++[aN 80 [] 0,aN 80 f 0,aN 3 g 0])⟩
def e56 (a:Int) (b c:List V): R :=
 aA (.head 0 (zS a b c [aH [aC aB a]]))
def aaA(a b c): Ec 56 5 aU [aL 0 0 0] (rm a b c) (e56 a b c):=ec
def UE (b:Int) (c d a:List V): R :=
 gd (decide (0<=W aB ((a.length:Int) - 1))) <|
 gd (decide ((W aB ((a.length:Int) - 1)).toNat < a.length)) <|
 bk a ((W aB ((a.length:Int) - 1)).toNat) λe =>
 kL e λf =>
 aA (.head 1 (nU f 0 b c d a []))
def ahi(a b c d): Rd aD 5 56 0 (zS a b c d) (UE a b c d):=rd
def BD (g:List V) (f b:Int) (c d e a:List V): R :=
 cond (decide (f < (g.length:Int)))
 (gd (decide (0<=f)) <|
  bk g f.toNat λi =>
  kI aB i λj =>
  cJ aJ aU jQ 95 [aL 0 0 0,aC aB j] (rm b c d) λh =>
  cd (rm b c d++[aN 80 [] 0,aN 80 e 0,aN 3 a 0]) <|
  cond h.2.2.2.2
 (gd (cC 1 h.2.1) <|
  gd (decide (a.length+h.2.1.length<=16777216)) <|
  aA (.head 1 (nU g (W aB (f+1)) b c d e (a++h.2.1))))
 (aA (.head 1 (nU g (W aB (f+1)) b c d e a))))
 (cond ((a.length:Int)==(0:Int))
 (aA (.doneM (dD 5) (rm b c d++[aN 80 e 0])))
 (gd (decide (e.length+([aH a]:List V).length<=16777216)) <|
  aA (.head 0 (zS b c d (e++[aH a])))))
def FG(a b c d e f g): Rd aD 5 56 1 (nU a b c d e f g) (BD a b c d e f g):=rd
def Cw(a:List V)(b:Int)(c:List V): S:=⟨[bj,bj,aL 2 0 0,bj,aL 3 0 0,aL 4 0 0]++(JU 7)++[V.rest [3] a]++(JU 9),(bm b c++[aM 135 (aL 0 0 0) aE,aM 3 (aC aB 0) aE,aM 27 (aC aB 0) aE])⟩
def Ou (b a:Int) (c:List V): R :=
 cond (decide (b ≥ 0))
 (cond (!(decide (b < a)))
 (aA (.doneM (aV [aC aB 0,aC aB 1]) (bm a c++[aM 135 (aL 0 0 0) aE,aM 3 (aC aB 0) aE,aM 27 (aC aB 1) aE])))
 (cg (yE [V.ref (V.ref (aI [V.unk,aC aB a]) 0) 0,V.ref (aC aB b) 0]) λd =>
  aA (.head 0 (Cw (d.map aV) a c))))
 (aA (.doneM (aV [aC aB 0,aC aB 1]) (bm a c++[aM 135 (aL 0 0 0) aE,aM 3 (aC aB 0) aE,aM 27 (aC aB 1) aE])))
def Y3(a b c): Ec 131 2 aU [aL 0 0 0,aC aB a] (bm b c) (Ou a b c):=ec
def KO (f:List V) (a:Int) (b:List V): R :=
 mh f
 (aA (.doneM (aV [aC aB 0,aC aB 6]) (bm a b++[aM 135 (aL 0 0 0) aE,aM 3 (aC aB 0) aE,aM 27 (aC aB 6) aE]))) λg h =>
  kT g λe=>cj e λi e=>kI aB i λc =>
  er e<|cJ aJ aU qZ 137 [aL 0 0 0,aC aB c] (bm a b) λj =>
  cd (bm a b++[aM 135 (aL 0 0 0) aE,aM 3 (aC aB 0) aE,aM 27 (aC aB 0) aE]) <|
  cond (!j)
 (bV aJ aU AR 180 [aL 0 0 0,aC aB c] (bm a b) λd =>
  aA (.doneM (aV [aC aB c,aC aB d.1]) (bm d.2.1 d.2.2++[aM 135 (aL 0 0 0) aE,aM 3 (aC aB c) aE,aM 27 (aC aB d.1) aE])))
 (aA (.head 0 (Cw h a b)))
def Ub(a b c): Rd aD 2 131 0 (Cw a b c) (KO a b c):=rd
def Wu(a:List V)(b:Int)(c:List V): S:=⟨[bj,bj,aL 2 0 0,bj,aL 3 0 0,aL 4 0 0]++(JU 7)++[V.rest [3] a]++(JU 9),(bm b c++[aM 135 (aL 0 0 0) aE,aM 3 (aC aB 0) aE,aM 27 (aC aB 0) aE])⟩
def Ov (b a:Int) (c:List V): R :=
 cond (decide (b ≥ 0))
 (cond (!(decide (b < a)))
 (aA (.doneM (aV [aC aB 0,aC aB 1]) [aM 192 (aI [bl 1 0,aC aB a]) aE,aN 5 c 0,aM 135 (aL 0 0 0) aE,aM 3 (aC aB 0) aE,aM 27 (aC aB 1) aE]))
 (cg (yE [V.ref (V.ref (aI [V.unk,aC aB a]) 0) 0,V.ref (aC aB b) 0]) λd =>
  aA (.head 0 (Wu (d.map aV) a c))))
 (aA (.doneM (aV [aC aB 0,aC aB 1]) [aM 192 (aI [bl 1 0,aC aB a]) aE,aN 5 c 0,aM 135 (aL 0 0 0) aE,aM 3 (aC aB 0) aE,aM 27 (aC aB 1) aE]))
def Y4(a b c): Ec 131 2 aU [aL 0 0 0,aC aB a] [aM 192 (aI [bl 1 0,aC aB b]) aE,aN 5 c 0] (Ov a b c):=ec
def Oh (d:Int) (e:List UInt8) (a:Int) (b:List (V × V)) (c:List V): R :=
 cJ aJ aU pN 58 [aL 0 0 0,aC aB d] (sm a b c) λf =>
 cd (sm a b c) <|
 cond (f.2 != (0:Int))
 (aA (.doneM (aC aB f.2) (sm a b c)))
 (cond (decide ((e.length:Int) > 252))
 (aA (.doneM (aC aB 2) (sm a b c)))
 (cg (kg b (aC aB d) (aG e)) λg =>
  aA (.doneM (aC aB 0) (sm a g c))))
def YS(a b c d e): Ec 119 4 aU [aL 0 0 0,aC aB a,aG b] (sm c d e) (Oh a b c d e):=ec
def CP(a:List UInt8)(b c d:Int)(e:List (V × V))(f g:List V): S:=⟨[aL 0 0 0,aG a,bj,bj,dD 5,aL 6 0 0,aC aB 0,dD 7,aC aB b]++(JU 43),(tm c d e f++[aN 176 [] 0,aM 120 (aI [bl 8 0,aG [],aC aB 0]) aE,aN 176 g 0,aN 41 [] 0])⟩
def e75 (b:List UInt8) (a c:Int) (d:List (V × V)) (e:List V): R :=
 aA (.head 0 (CP b a a c d e []))
def aaM(a b c d e): Ec 75 5 aU [aL 0 0 0,aG a] (tm b c d e) (e75 a b c d e):=ec
def Lq (j:List UInt8) (g b c:Int) (d:List (V × V)) (e f:List V): R :=
 iF aJ aU (gZ (tm b c d e)) (hJ (tm b c d e)) (iu (tm b c d e)) 82 [aL 0 0 0,aC aB g] (tm b c d e)
 (λh =>
  cd (tm b c d e++[aN 176 [] 0,aM 120 (aI [bl 8 0,aG [],aC aB 0]) aE,aN 176 f 0,aN 41 [] 0]) <|
  aA (.doneM (aV [dD 5,aI [aH h.1,aG h.2.1,aC aB h.2.2],aC aB g]) (tm b c d e++[aN 176 f 0,aM 120 (aI [aH h.1,aG h.2.1,aC aB h.2.2]) aE])))
 (λa =>
  cd (tm b c d e++[aN 176 [] 0,aM 120 (aI [bl 8 0,aG [],aC aB 0]) aE,aN 176 f 0,aN 41 [] 0]) <|
  aT aJ 114 [aI [aH a.1,aH a.2.1,aG a.2.2.1,aC aB a.2.2.2],aG j] λk =>
  uT k λi l =>
  cond (l != (0:Int))
 (aA (.doneM (aV [dD 5,aI [V.nilS,aG [],aC aB 0],aC aB g]) (tm b c d e++[aN 176 f 0,aM 120 (aI [V.nilS,aG [],aC aB 0]) aE])))
 (gd (decide (f.length+([aI [aC aB g,aH a.1,aH a.2.1,aG a.2.2.1,aC aB a.2.2.2,aC aB i]]:List V).length<=16777216)) <|
  gd (decide (0<=i)) <|
  bk a.2.1 i.toNat λm =>
  kI aB m λn =>
  aA (.head 0 (CP j n b c d e (f++[aI [aC aB g,aH a.1,aH a.2.1,aG a.2.2.1,aC aB a.2.2.2,aC aB i]])))))
 (λo =>
  cd (tm b c d e++[aN 176 [] 0,aM 120 (aI [bl 8 0,aG [],aC aB 0]) aE,aN 176 f 0,aN 41 [] 0]) <|
  aA (.doneM (aV [dD 5,aI [V.nilS,aG [],aC aB 0],aC aB g]) (tm b c d e++[aN 176 f 0,aM 120 (aI [V.nilS,aG [],aC aB 0]) aE])))
def UI(a b c d e f g): Rd aD 5 75 0 (CP a b c d e f g) (Lq a b c d e f g):=rd
def DG (u l:List V) (m:List UInt8) (n d:Int) (b e:List UInt8) (v ab:Int) (ac:List (V × V)) (ad:List V): R :=
 bV aJ aU pO 84 [aL 0 0 0] (sm ab ac ad) λa =>
 aT aJ 122 [aI [aH l,aG m,aC aB n],aC aB a.1] λae =>
 Dh ae λo c p q r s ah =>
 cond (Op.bytesLess b c)
 (aT aJ 77 [aI [aH o,aG c,aC aB p],aG b,aG e] λaf =>
  qI af λw t x ai =>
  bV aJ aU gE 78 [aL 0 0 0,aC aB d,gK 120 (aI [aH w,aG t,aC aB x])] (tm v a.2.2.1 a.2.2.2.1 a.2.2.2.2) λf =>
  bV aJ aU gE 78 [aL 0 0 0,aC aB a.1,gK 120 (aI [aH q,aG r,aC aB s])] (tm f.1 f.2.1 f.2.2.1 f.2.2.2) λg =>
  bV aJ aU tE 123 [aL 0 0 0,aH u,aG t,aC aB d,aC aB a.1] (tm g.1 g.2.1 g.2.2.1 g.2.2.2) λh =>
  aA (.doneM (aV []) (tm h.1 h.2.1 h.2.2.1 h.2.2.2++[aM 120 (aI [aH l,aG m,aC aB n]) aE,aM 41 (aI [aG b,aG e]) aE,aN 41 [] 0,aM 120 (aI [aH w,aG t,aC aB x]) aE,aN 41 [] 0,aM 120 (aI [aH q,aG r,aC aB s]) aE])))
 (aT aJ 77 [aI [aH q,aG r,aC aB s],aG b,aG e] λag =>
  qI ag λy z aa aj =>
  bV aJ aU gE 78 [aL 0 0 0,aC aB d,gK 120 (aI [aH o,aG c,aC aB p])] (tm v a.2.2.1 a.2.2.2.1 a.2.2.2.2) λi =>
  bV aJ aU gE 78 [aL 0 0 0,aC aB a.1,gK 120 (aI [aH y,aG z,aC aB aa])] (tm i.1 i.2.1 i.2.2.1 i.2.2.2) λj =>
  bV aJ aU tE 123 [aL 0 0 0,aH u,aG c,aC aB d,aC aB a.1] (tm j.1 j.2.1 j.2.2.1 j.2.2.2) λk =>
  aA (.doneM (aV []) (tm k.1 k.2.1 k.2.2.1 k.2.2.2++[aM 120 (aI [aH l,aG m,aC aB n]) aE,aM 41 (aI [aG b,aG e]) aE,aN 41 [] 0,aM 120 (aI [aH o,aG c,aC aB p]) aE,aN 41 [] 0,aM 120 (aI [aH y,aG z,aC aB aa]) aE])))
def aaT(a b c d e f g h i j k): Ec 79 5 aU [aL 0 0 0,aH a,aI [aH b,aG c,aC aB d],aC aB e,aI [aG f,aG g]] (tm h i j k) (DG a b c d e f g h i j k):=ec
def zT(a:List V)(b c d:Int)(e:List (V × V))(f g:List V): S:=⟨[aL 0 0 0,aH a]++(JU 4)++[dD 5,aC aB b]++(JU 91),(tm c d e f++[aN 3 g 0])⟩
def o6(a:List V)(b c d e:Int)(f:List (V × V))(g h:List V)(i:Int)(j k:List V)(l:List UInt8)(m n:Int): S:=⟨[aL 0 0 0]++(JU 5)++[dD 5,bj,aL 6 0 0]++(JU 37)++[aH a,aC aB b,aC aB c]++(JU 50),(tm d e f g++[aN 3 h 0,aM 176 (aI [aC aB i,aH j,aH k,aG l,aC aB m,aC aB n]) aE])⟩
def w7(a b c d:Int)(e:List (V × V))(f g:List V): S:=⟨[aL 0 0 0]++(JU 83)++[dD 5,aC aB a,aC aB b]++(JU 12),(tm c d e f++[aN 3 g 0])⟩
def Pf (a:List V) (b c d:Int) (e:List (V × V)) (f:List V): R :=
 aA (.head 0 (zT a (W aB ((a.length:Int) - 1)) c d e f [aC aB b]))
def aaW(a b c d e f): Ec 81 5 aU [aL 0 0 0,aH a,aC aB b] (tm c d e f) (Pf a b c d e f):=ec
def Lr (b:List V) (a d e:Int) (f:List (V × V)) (g c:List V): R :=
 gd (decide (0<=a)) <|
 bk b a.toNat λp =>
 nw p λt u q v w x =>
 cond ((q.length:Int)==(1:Int))
 (gd (decide (0<=a)) <|
  bk b a.toNat λr =>
  nw r λh y z aa ab ac =>
  gd (decide (c.length+([aC aB h]:List V).length<=16777216)) <|
  aA (.head 0 (zT b (W aB (a - 1)) d e f g (c++[aC aB h]))))
 (gd (decide (0<=a)) <|
  bk b a.toNat λs =>
  nw s λi j k l m n =>
  cJ aJ aU xY 124 [aL 0 0 0,aH b,aC aB (c.length:Int)] (tm d e f g) λo =>
  cd (tm d e f g++[aN 3 c 0,aM 176 (aI [aC aB i,aH j,aH k,aG l,aC aB m,aC aB n]) aE]) <|
  aA (.head 1 (o6 o (o.length:Int) 0 d e f g c i j k l m n)))
def UJ(a b c d e f g): Rd aD 5 81 0 (zT a b c d e f g) (Lr a b c d e f g):=rd
def FH (n:List V) (o l a b:Int) (c:List (V × V)) (d e:List V) (g:Int) (h i:List V) (j:List UInt8) (k f:Int): R :=
 cond (decide (l < o))
 (gd (decide (0<=l)) <|
  bk n l.toNat λaa =>
  kI aB aa λp =>
  iF aJ aU (gZ (tm a b c d)) (hJ (tm a b c d)) (iu (tm a b c d)) 82 [aL 0 0 0,aC aB p] (tm a b c d)
 (λq =>
  cd (tm a b c d++[aN 3 e 0,aM 176 (aI [aC aB g,aH h,aH i,aG j,aC aB k,aC aB f]) aE]) <|
  gd (decide (0<=l)) <|
  gd (decide (l.toNat < e.length)) <|
  bk e l.toNat λab =>
  kI aB ab λac =>
  iF aJ aU (gZ (tm a b c d)) (hJ (tm a b c d)) (iu (tm a b c d)) 82 [aL 0 0 0,aC aB ac] (tm a b c d)
 (λw =>
  cd (tm a b c d++[aN 3 e 0,aM 176 (aI [aC aB g,aH h,aH i,aG j,aC aB k,aC aB f]) aE]) <|
  bV aJ aU gE 78 [aL 0 0 0,aC aB p,gK 120 (aI [aH q.1,aG (cond (decide (f > 0)) w.2.1 q.2.1),aC aB w.2.2])] (tm a b c d) λr =>
  aA (.head 1 (o6 n o (W aB (l+1)) r.1 r.2.1 r.2.2.1 r.2.2.2 e g h i j k f)))
 (λx =>
  cd (tm a b c d++[aN 3 e 0,aM 176 (aI [aC aB g,aH h,aH i,aG j,aC aB k,aC aB f]) aE]) <|
  bV aJ aU gE 78 [aL 0 0 0,aC aB p,gK 120 (aI [aH q.1,aG (cond (decide (f > 0)) x.2.2.1 q.2.1),aC aB x.2.2.2])] (tm a b c d) λs =>
  aA (.head 1 (o6 n o (W aB (l+1)) s.1 s.2.1 s.2.2.1 s.2.2.2 e g h i j k f)))
 (λam =>
  cd (tm a b c d++[aN 3 e 0,aM 176 (aI [aC aB g,aH h,aH i,aG j,aC aB k,aC aB f]) aE]) <|
  aF))
 (λm =>
  cd (tm a b c d++[aN 3 e 0,aM 176 (aI [aC aB g,aH h,aH i,aG j,aC aB k,aC aB f]) aE]) <|
  gd (decide (0<=l)) <|
  gd (decide (l.toNat < e.length)) <|
  bk e l.toNat λad =>
  kI aB ad λae =>
  iF aJ aU (gZ (tm a b c d)) (hJ (tm a b c d)) (iu (tm a b c d)) 82 [aL 0 0 0,aC aB ae] (tm a b c d)
 (λy =>
  cd (tm a b c d++[aN 3 e 0,aM 176 (aI [aC aB g,aH h,aH i,aG j,aC aB k,aC aB f]) aE]) <|
  bV aJ aU gE 78 [aL 0 0 0,aC aB p,gK 150 (aI [aH m.1,aH m.2.1,aG (cond (decide (f > 0)) y.2.1 m.2.2.1),aC aB y.2.2])] (tm a b c d) λt =>
  aA (.head 1 (o6 n o (W aB (l+1)) t.1 t.2.1 t.2.2.1 t.2.2.2 e g h i j k f)))
 (λz =>
  cd (tm a b c d++[aN 3 e 0,aM 176 (aI [aC aB g,aH h,aH i,aG j,aC aB k,aC aB f]) aE]) <|
  bV aJ aU gE 78 [aL 0 0 0,aC aB p,gK 150 (aI [aH m.1,aH m.2.1,aG (cond (decide (f > 0)) z.2.2.1 m.2.2.1),aC aB z.2.2.2])] (tm a b c d) λu =>
  aA (.head 1 (o6 n o (W aB (l+1)) u.1 u.2.1 u.2.2.1 u.2.2.2 e g h i j k f)))
 (λan =>
  cd (tm a b c d++[aN 3 e 0,aM 176 (aI [aC aB g,aH h,aH i,aG j,aC aB k,aC aB f]) aE]) <|
  aF))
 (λao =>
  cd (tm a b c d++[aN 3 e 0,aM 176 (aI [aC aB g,aH h,aH i,aG j,aC aB k,aC aB f]) aE]) <|
  gd (decide (0<=l)) <|
  gd (decide (l.toNat < e.length)) <|
  bk e l.toNat λaf =>
  kI aB af λag =>
  iF aJ aU (gZ (tm a b c d)) (hJ (tm a b c d)) (iu (tm a b c d)) 82 [aL 0 0 0,aC aB ag] (tm a b c d)
 (λap =>
  cd (tm a b c d++[aN 3 e 0,aM 176 (aI [aC aB g,aH h,aH i,aG j,aC aB k,aC aB f]) aE]) <|
  aF)
 (λaq =>
  cd (tm a b c d++[aN 3 e 0,aM 176 (aI [aC aB g,aH h,aH i,aG j,aC aB k,aC aB f]) aE]) <|
  aF)
 (λar =>
  cd (tm a b c d++[aN 3 e 0,aM 176 (aI [aC aB g,aH h,aH i,aG j,aC aB k,aC aB f]) aE]) <|
  aF)))
 (aT aJ 126 [aI [aH h,aH i,aG j,aC aB k],aC aB f] λah =>
  sP ah λai aj ak al au =>
  bV aJ aU gE 78 [aL 0 0 0,aC aB g,gK 150 (aI [aH ai,aH aj,aG ak,aC aB al])] (tm a b c d) λv =>
  aA (.head 2 (w7 (e.length:Int) 0 v.1 v.2.1 v.2.2.1 v.2.2.2 e)))
def Lt(a b c d e f g h i j k l m n): Rd aD 5 81 1 (o6 a b c d e f g h i j k l m n) (FH a b c d e f g h i j k l m n):=rd
def Lu (e a f g:Int) (h:List (V × V)) (i b:List V): R :=
 cond (decide (a < e))
 (gd (decide (0<=a)) <|
  gd (decide (a.toNat < b.length)) <|
  bk b a.toNat λj =>
  kI aB j λk =>
  bV aJ aU xZ 127 [aL 0 0 0,aC aB k] (sm g h i) λd =>
  aA (.head 2 (w7 e (W aB (a+1)) f d.2.1 d.2.2.1 d.2.2.2 b)))
 (bV aJ aU AN 128 [aL 0 0 0] (tm f g h i) λc =>
  aA (.doneM (aV []) (tm c.1 c.2.1 c.2.2.1 c.2.2.2++[aN 3 b 0])))
def UK(a b c d e f g): Rd aD 5 81 2 (w7 a b c d e f g) (Lu a b c d e f g):=rd
def Pe (f:Int) (b c:List V) (d:List UInt8) (e g h:Int) (i:List (V × V)) (j:List V): R :=
 aT aJ 121 [aI [aH b,aH c,aG d,aC aB e]] λk =>
 kS k λl =>
 bV aJ aU xX 119 [aL 0 0 0,aC aB f,aG l] (sm h i j) λa =>
 aA (.doneM (aV []) (tm g a.2.1 a.2.2.1 a.2.2.2++[aN 9 [] 0,aN 3 [] 0,aM 150 (aI [aH b,aH c,aG d,aC aB e]) aE]))
def aaS(a b c d e f g h i): Ec 78 5 aU [aL 0 0 0,aC aB a,gK 150 (aI [aH b,aH c,aG d,aC aB e])] (tm f g h i) (Pe a b c d e f g h i):=ec
def w8(a:Int)(b c:List UInt8)(d:Int)(e:List (V × V))(f g:List V)(h:Int)(i:List (V × V))(j:List V): S:=⟨[aL 0 0 0,aL 1 0 0,aC aB a,aG b,aG c]++(JU 5)++[aC aB 0,aW aE]++(JU 200),(lm d e f g h i j)⟩
def qE(a:Int)(b:List UInt8)(c:Bool)(d:Int)(e:List (V × V))(f g:List V)(h:Int)(i:List (V × V))(j k:List V)(l:List UInt8)(m:Int): S:=⟨[bj,aL 1 0 0,aC aB a,aG b]++(JU 6)++[aC aB 0,aW aE,bj,bj,aL 9 0 0,aW c]++(JU 196),(lm d e f g h i j++[aM 120 (aI [aH k,aG l,aC aB m]) aE])⟩
def w9(a:Int)(b c:List UInt8)(d:Bool)(e:Int)(f:List (V × V))(g h:List V)(i:Int)(j:List (V × V))(k l m:List V)(n:List UInt8)(o:Int): S:=⟨[aL 0 0 0,aL 1 0 0,aC aB a,aG b,aG c]++(JU 5)++[aC aB 0,aW aE]++(JU 4)++[aL 9 0 0,aW d]++(JU 194),(lm e f g h i j k++[aM 150 (aI [aH l,aH m,aG n,aC aB o]) aE])⟩
def CQ(a:Int)(b c:List UInt8)(d:Bool)(e:List V)(f g:Int)(h:List (V × V))(i j:List V)(k:Int)(l:List (V × V))(m n o:List V)(p:List UInt8)(q:Int): S:=⟨[aL 0 0 0,aL 1 0 0,aC aB a,aG b,aG c]++(JU 5)++[aC aB 0,aW aE]++(JU 4)++[aL 9 0 0,aW d,aC aB 0,aW aD]++(JU 110)++[aH e,aC aB f,aC aB 0]++(JU 79),(lm g h i j k l m++[aM 150 (aI [aH n,aH o,aG p,aC aB q]) aE])⟩
def GC(a:Int)(b c:List UInt8)(d:Bool)(e:Int)(f g:List UInt8)(h:List V)(i j:Int)(k:List (V × V))(l m:List V)(n:Int)(o:List (V × V))(p q r:List V)(s:List UInt8)(t:Int): S:=⟨[aL 0 0 0,aL 1 0 0,aC aB a,aG b,aG c]++(JU 5)++[aC aB 0,aW aE]++(JU 4)++[aL 9 0 0,aW d,aC aB 0,aW aD,aC aB 0,aC aB e,aG f,aG g]++(JU 106)++[aH h,aC aB i,aC aB 0]++(JU 79),(lm j k l m n o p++[aM 150 (aI [aH q,aH r,aG s,aC aB t]) aE])⟩
def CS(a:Int)(b c:List UInt8)(d:Bool)(e:Int)(f g:List UInt8)(h:List V)(i j:Int)(k:List (V × V))(l m:List V)(n:Int)(o:List (V × V))(p q r:List V)(s:List UInt8)(t:Int): S:=⟨[aL 0 0 0,aL 1 0 0,aC aB a,aG b,aG c]++(JU 5)++[aC aB 0,aW aE]++(JU 4)++[aL 9 0 0,aW d,aC aB 0,aW aD,aC aB 0,aC aB e,aG f,aG g]++(JU 106)++[aH h,aC aB i,aC aB 0]++(JU 79),(lm j k l m n o p++[aM 150 (aI [aH q,aH r,aG s,aC aB t]) aE])⟩
def uM(a:Int)(b c:List UInt8)(d:Bool)(e:Int)(f:Bool)(g:List V)(h i j:Int)(k:List (V × V))(l:Int)(m:List (V × V))(n o p:List V)(q:List UInt8)(r:Int)(s t:List V): S:=⟨[aL 0 0 0,aL 1 0 0,aC aB a,aG b,aG c]++(JU 5)++[aC aB 0,aW aE]++(JU 4)++[aL 9 0 0,aW d,aC aB e,aW f]++(JU 110)++[aH g,aC aB h,aC aB i]++(JU 79),(ln j 10 11 k l m n++[aM 150 (aI [aH o,aH p,aG q,aC aB r]) aE,aN 3 s 0,aN 9 t 0])⟩
def CR(a:Int)(b c:List UInt8)(d:Bool)(e:Int)(f:Bool)(g h:Int)(i j:List UInt8)(k:List V)(l m n:Int)(o:List (V × V))(p:Int)(q:List (V × V))(r s t:List V)(u:List UInt8)(v:Int)(w x:List V): S:=⟨[aL 0 0 0,aL 1 0 0,aC aB a,aG b,aG c]++(JU 5)++[aC aB 0,aW aE]++(JU 4)++[aL 9 0 0,aW d,aC aB e,aW f,aC aB g,aC aB h,aG i,aG j]++(JU 106)++[aH k,aC aB l,aC aB m]++(JU 79),(ln n 10 11 o p q r++[aM 150 (aI [aH s,aH t,aG u,aC aB v]) aE,aN 3 w 0,aN 9 x 0])⟩
def CU(a:Int)(b c:List UInt8)(d:Bool)(e:Int)(f:Bool)(g h:Int)(i j:List UInt8)(k:List V)(l m n:Int)(o:List (V × V))(p:Int)(q:List (V × V))(r s t:List V)(u:List UInt8)(v:Int)(w x:List V): S:=⟨[aL 0 0 0,aL 1 0 0,aC aB a,aG b,aG c]++(JU 5)++[aC aB 0,aW aE]++(JU 4)++[aL 9 0 0,aW d,aC aB e,aW f,aC aB g,aC aB h,aG i,aG j]++(JU 106)++[aH k,aC aB l,aC aB m]++(JU 79),(ln n 10 11 o p q r++[aM 150 (aI [aH s,aH t,aG u,aC aB v]) aE,aN 3 w 0,aN 9 x 0])⟩
def DJ (b:Int) (i j:List UInt8) (c:Int) (a:List (V × V)) (d e:List V) (f:Int) (g:List (V × V)) (h:List V): R :=
 mP a (aC aB b)
 (aA (.head 0 (w8 b i j c a d e f g h))) λk =>
  kB k λl =>
  cond l
 (aA (.doneM (aV [aC aB 0,aW aE]) (lm c a d e f g h)))
 (aA (.head 0 (w8 b i j c a d e f g h)))
def Ij(a b c d e f g h i j): Ec 85 9 ⟨aD,aE,aD,[3,9]⟩ [aL 0 0 0,aL 1 0 0,aC aB a,aG b,aG c] (lm d e f g h i j) (DJ a b c d e f g h i j):=ec
def wo (g:Int) (k l:List UInt8) (c:Int) (o:List (V × V)) (h i:List V) (d:Int) (e:List (V × V)) (f:List V): R :=
 cg (kg o (aC aB g) (aW aD)) λj =>
 cJ aJ aU pN 58 [aL 0 0 0,aC aB g] (sm d e f) λm =>
 cd (lm c j h i d e f) <|
 iF aJ aU (gZ (tm c d e f)) (hJ (tm c d e f)) (iu (tm c d e f)) 82 [aL 0 0 0,aC aB g] (tm c d e f)
 (λa =>
  cd (lm c j h i d e f) <|
  aT aJ 120 [aI [aH a.1,aG a.2.1,aC aB a.2.2]] λp =>
  kS p λq =>
  cond (m.1==q)
 (cond (a.2.1==l)
 (cond ((a.1.length:Int)==(0:Int))
 (cond (decide ((a.1.length:Int) > 0))
 (aA (.head 1 (qE g k aD c j h i d e f a.1 a.2.1 a.2.2)))
 (aA (.head 1 (qE g k (g==c) c j h i d e f a.1 a.2.1 a.2.2))))
 (bk a.1 0 λr =>
  eJ r λs w =>
  cond (!Op.bytesLess s k)
 (cond (decide ((a.1.length:Int) > 0))
 (aA (.head 1 (qE g k aD c j h i d e f a.1 a.2.1 a.2.2)))
 (aA (.head 1 (qE g k (g==c) c j h i d e f a.1 a.2.1 a.2.2))))
 (aA (.head 1 (qE g k aE c j h i d e f a.1 a.2.1 a.2.2)))))
 (aA (.head 1 (qE g k aE c j h i d e f a.1 a.2.1 a.2.2))))
 (aA (.head 1 (qE g k aE c j h i d e f a.1 a.2.1 a.2.2))))
 (λb =>
  cd (lm c j h i d e f) <|
  aT aJ 121 [aI [aH b.1,aH b.2.1,aG b.2.2.1,aC aB b.2.2.2]] λt =>
  kS t λu =>
  cond (m.1==u)
 (cond (b.2.2.1==l)
 (cond ((b.1.length:Int)==(0:Int))
 (aA (.head 2 (w9 g k l aD c j h i d e f b.1 b.2.1 b.2.2.1 b.2.2.2)))
 (bk b.1 0 λv =>
  kS v λn =>
  aA (.head 2 (w9 g k l (!(Op.bytesLess n k ||n==k)) c j h i d e f b.1 b.2.1 b.2.2.1 b.2.2.2))))
 (aA (.head 2 (w9 g k l aE c j h i d e f b.1 b.2.1 b.2.2.1 b.2.2.2))))
 (aA (.head 2 (w9 g k l aE c j h i d e f b.1 b.2.1 b.2.2.1 b.2.2.2))))
 (λx =>
  cd (lm c j h i d e f) <|
  aA (.doneM (aV [aC aB 0,aW aE]) (lm c j h i d e f)))
def Lv(a b c d e f g h i j): Rd aD 9 85 0 (w8 a b c d e f g h i j) (wo a b c d e f g h i j):=rd
def Lw (l:Int) (m:List UInt8) (n:Bool) (d:Int) (e:List (V × V)) (f g:List V) (h:Int) (i:List (V × V)) (j k:List V) (b:List UInt8) (c:Int): R :=
 cond n
 (bV aJ ⟨aD,aE,aD,[3,9]⟩ vG 132 [aL 0 0 0,aC aB 0,aC aB l,aG m,aG b,aC aB c] (fm e f g) λa =>
  aA (.doneM (aV [aC aB 0,aW a.1]) (ln d 10 11 a.2.1 h i j++[aM 120 (aI [aH k,aG b,aC aB c]) aE,aN 3 a.2.2.1 0,aN 9 a.2.2.2 0])))
 (aA (.doneM (aV [aC aB 0,aW aE]) (lm d e f g h i j++[aM 120 (aI [aH k,aG b,aC aB c]) aE])))
def ahk(a b c d e f g h i j k l m): Rd aD 9 85 1 (qE a b c d e f g h i j k l m) (Lw a b c d e f g h i j k l m):=rd
def Lx (b:Int) (c d:List UInt8) (e:Bool) (f:Int) (g:List (V × V)) (h i:List V) (j:Int) (k:List (V × V)) (l m a:List V) (n:List UInt8) (o:Int): R :=
 aA (.head 3 (CQ b c d e a (a.length:Int) f g h i j k l m a n o))
theorem ahl(a b c d e f g h i j k l m n o): Rd aD 9 85 2 (w9 a b c d e f g h i j k l m n o) (Lx a b c d e f g h i j k l m n o):=rd
def Ly (j:Int) (k o:List UInt8) (p:Bool) (q:List V) (r b:Int) (l:List (V × V)) (m n:List V) (f:Int) (g:List (V × V)) (h i c:List V) (d:List UInt8) (e:Int): R :=
 cond (decide (0 < r))
 (bk q 0 λs =>
  kI aB s λt =>
  aA (.head 4 (GC j k o p t k o q r b l m n f g h i c d e)))
 (cond p
 (bV aJ ⟨aD,aE,aD,[3,9]⟩ vG 132 [aL 0 0 0,aC aB 1,aC aB j,aG k,aG d,aC aB e] (fm l m n) λa =>
  cond a.1
 (cond (j != b)
 (aA (.doneM (aV [aC aB 1,aW aD]) (ln b 10 11 a.2.1 f g h++[aM 150 (aI [aH i,aH c,aG d,aC aB e]) aE,aN 3 a.2.2.1 0,aN 9 a.2.2.2 0])))
 (aA (.doneM (aV [aC aB 1,aW (decide ((c.length:Int) > 1))]) (ln b 10 11 a.2.1 f g h++[aM 150 (aI [aH i,aH c,aG d,aC aB e]) aE,aN 3 a.2.2.1 0,aN 9 a.2.2.2 0]))))
 (aA (.doneM (aV [aC aB 1,aW aE]) (ln b 10 11 a.2.1 f g h++[aM 150 (aI [aH i,aH c,aG d,aC aB e]) aE,aN 3 a.2.2.1 0,aN 9 a.2.2.2 0]))))
 (aA (.doneM (aV [aC aB 1,aW aE]) (lm b l m n f g h++[aM 150 (aI [aH i,aH c,aG d,aC aB e]) aE]))))
theorem ahm(a b c d e f g h i j k l m n o p q): Rd aD 9 85 3 (CQ a b c d e f g h i j k l m n o p q) (Ly a b c d e f g h i j k l m n o p q):=rd
def Lz (b:Int) (c d:List UInt8) (e:Bool) (f:Int) (g t:List UInt8) (h:List V) (i j:Int) (k:List (V × V)) (l m:List V) (n:Int) (o:List (V × V)) (p a q:List V) (r:List UInt8) (s:Int): R :=
 cond (decide (0 < (a.length:Int)))
 (bk a 0 λu =>
  kS u λv =>
  aA (.head 5 (CS b c d e f g v h i j k l m n o p a q r s)))
 (aA (.head 5 (CS b c d e f g t h i j k l m n o p a q r s)))
theorem ahn(a b c d e f g h i j k l m n o p q r s t): Rd aD 9 85 4 (GC a b c d e f g h i j k l m n o p q r s t) (Lz a b c d e f g h i j k l m n o p q r s t):=rd
def UM (f:Int) (g h:List UInt8) (i:Bool) (j:Int) (k l:List UInt8) (m:List V) (n o:Int) (p:List (V × V)) (q r:List V) (s:Int) (t:List (V × V)) (u b c:List V) (d:List UInt8) (e:Int): R :=
 bV aJ ⟨aD,aE,aD,[3,9]⟩ tK 85 [aL 0 0 0,aL 1 0 0,aC aB j,aG k,aG l] (lm o p q r s t u) λa =>
 cond a.2.1
 (aA (.head 3 (uM f g h i a.1 aD m n 1 a.2.2.1 a.2.2.2.1 a.2.2.2.2.1 a.2.2.2.2.2.1 a.2.2.2.2.2.2.1 b c d e a.2.2.2.2.2.2.2.1 a.2.2.2.2.2.2.2.2)))
 (aA (.doneM (aV [aC aB 0,aW aE]) (ln a.2.2.1 10 11 a.2.2.2.1 a.2.2.2.2.1 a.2.2.2.2.2.1 a.2.2.2.2.2.2.1++[aM 150 (aI [aH b,aH c,aG d,aC aB e]) aE,aN 3 a.2.2.2.2.2.2.2.1 0,aN 9 a.2.2.2.2.2.2.2.2 0])))
theorem ahp(a b c d e f g h i j k l m n o p q r s t): Rd aD 9 85 5 (CS a b c d e f g h i j k l m n o p q r s t) (UM a b c d e f g h i j k l m n o p q r s t):=rd
def BE (l:Int) (m n:List UInt8) (r:Bool) (c:Int) (u:Bool) (s:List V) (t a d:Int) (o:List (V × V)) (i:Int) (j:List (V × V)) (k e f:List V) (g:List UInt8) (h:Int) (p q:List V): R :=
 cond (decide (a < t))
 (gd (decide (0<=a)) <|
  bk s a.toNat λw =>
  kI aB w λv =>
  cond (decide (a > 0))
 (gd (decide (0<=W aB (a - 1))) <|
  bk e ((W aB (a - 1)).toNat) λx =>
  kS x λy =>
  aA (.head 4 (CR l m n r c u a v y n s t a d o i j k e f g h p q)))
 (aA (.head 4 (CR l m n r c u a v m n s t a d o i j k e f g h p q))))
 (cond r
 (bV aJ ⟨aD,aE,aD,[3,9]⟩ vG 132 [aL 0 0 0,aC aB (W aB (c+1)),aC aB l,aG m,aG g,aC aB h] (fm o p q) λb =>
  cond b.1
 (cond (l != d)
 (aA (.doneM (aV [aC aB (W aB (c+1)),aW aD]) (ln d 12 13 b.2.1 i j k++[aM 150 (aI [aH e,aH f,aG g,aC aB h]) aE,gU,gU,aN 3 b.2.2.1 0,aN 9 b.2.2.2 0])))
 (aA (.doneM (aV [aC aB (W aB (c+1)),aW (decide ((f.length:Int) > 1))]) (ln d 12 13 b.2.1 i j k++[aM 150 (aI [aH e,aH f,aG g,aC aB h]) aE,gU,gU,aN 3 b.2.2.1 0,aN 9 b.2.2.2 0]))))
 (aA (.doneM (aV [aC aB (W aB (c+1)),aW aE]) (ln d 12 13 b.2.1 i j k++[aM 150 (aI [aH e,aH f,aG g,aC aB h]) aE,gU,gU,aN 3 b.2.2.1 0,aN 9 b.2.2.2 0]))))
 (aA (.doneM (aV [aC aB (W aB (c+1)),aW aE]) (ln d 10 11 o i j k++[aM 150 (aI [aH e,aH f,aG g,aC aB h]) aE,aN 3 p 0,aN 9 q 0]))))
theorem UL(a b c d e f g h i j k l m n o p q r s t): Rd aD 9 85 3 (uM a b c d e f g h i j k l m n o p q r s t) (BE a b c d e f g h i j k l m n o p q r s t):=rd
def LA (c:Int) (d e:List UInt8) (f:Bool) (g:Int) (h:Bool) (a i:Int) (j x:List UInt8) (k:List V) (l m n:Int) (o:List (V × V)) (p:Int) (q:List (V × V)) (r b s:List V) (t:List UInt8) (u:Int) (v w:List V): R :=
 cond (decide (a < (b.length:Int)))
 (gd (decide (0<=a)) <|
  bk b a.toNat λy =>
  kS y λz =>
  aA (.head 5 (CU c d e f g h a i j z k l m n o p q r b s t u v w)))
 (aA (.head 5 (CU c d e f g h a i j x k l m n o p q r b s t u v w)))
theorem aho(a b c d e f g h i j k l m n o p q r s t u v w x): Rd aD 9 85 4 (CR a b c d e f g h i j k l m n o p q r s t u v w x) (LA a b c d e f g h i j k l m n o p q r s t u v w x):=rd
def UN (f:Int) (g h:List UInt8) (i:Bool) (j:Int) (n:Bool) (o p:Int) (q r:List UInt8) (k:List V) (l m s:Int) (t:List (V × V)) (u:Int) (v:List (V × V)) (w b c:List V) (d:List UInt8) (e:Int) (x y:List V): R :=
 bV aJ ⟨aD,aE,aD,[3,9]⟩ tK 85 [aL 0 0 0,aL 1 0 0,aC aB p,aG q,aG r] (lm s t x y u v w) λa =>
 cond n
 (cond a.2.1
 (cond (o==(0:Int))
 (aA (.head 3 (uM f g h i a.1 aD k l (W aB (m+1)) a.2.2.1 a.2.2.2.1 a.2.2.2.2.1 a.2.2.2.2.2.1 a.2.2.2.2.2.2.1 b c d e a.2.2.2.2.2.2.2.1 a.2.2.2.2.2.2.2.2)))
 (cond (!(a.1==j))
 (aA (.doneM (aV [aC aB 0,aW aE]) (ln a.2.2.1 10 11 a.2.2.2.1 a.2.2.2.2.1 a.2.2.2.2.2.1 a.2.2.2.2.2.2.1++[aM 150 (aI [aH b,aH c,aG d,aC aB e]) aE,aN 3 a.2.2.2.2.2.2.2.1 0,aN 9 a.2.2.2.2.2.2.2.2 0])))
 (aA (.head 3 (uM f g h i a.1 (a.1==j) k l (W aB (m+1)) a.2.2.1 a.2.2.2.1 a.2.2.2.2.1 a.2.2.2.2.2.1 a.2.2.2.2.2.2.1 b c d e a.2.2.2.2.2.2.2.1 a.2.2.2.2.2.2.2.2)))))
 (aA (.doneM (aV [aC aB 0,aW aE]) (ln a.2.2.1 10 11 a.2.2.2.1 a.2.2.2.2.1 a.2.2.2.2.2.1 a.2.2.2.2.2.2.1++[aM 150 (aI [aH b,aH c,aG d,aC aB e]) aE,aN 3 a.2.2.2.2.2.2.2.1 0,aN 9 a.2.2.2.2.2.2.2.2 0]))))
 (aA (.doneM (aV [aC aB 0,aW aE]) (ln a.2.2.1 10 11 a.2.2.2.1 a.2.2.2.2.1 a.2.2.2.2.2.1 a.2.2.2.2.2.2.1++[aM 150 (aI [aH b,aH c,aG d,aC aB e]) aE,aN 3 a.2.2.2.2.2.2.2.1 0,aN 9 a.2.2.2.2.2.2.2.2 0])))
theorem ahq(a b c d e f g h i j k l m n o p q r s t u v w x): Rd aD 9 85 5 (CU a b c d e f g h i j k l m n o p q r s t u v w x) (UN a b c d e f g h i j k l m n o p q r s t u v w x):=rd
def zV(a b:Int)(c:List (V × V))(d e:List V): S:=⟨[aL 0 0 0,bj,dD 5,dD 6]++(JU 43),(tm a b c d++[aN 80 [] 0,aN 80 e 0])⟩
def m9(a:List V)(b c d e:Int)(f:List (V × V))(g h i:List V): S:=⟨[aL 0 0 0,bj,dD 5,dD 6,dD 7]++(JU 15)++[aH a,aC aB b,aC aB c]++(JU 24),(tm d e f g++[aN 80 [] 0,aN 80 h 0,aN 3 i 0])⟩
def e87 (a b:Int) (c:List (V × V)) (d:List V): R :=
 aA (.head 0 (zV a b c d [aH [aC aB a]]))
def aa0(a b c d): Ec 87 5 aU [aL 0 0 0] (tm a b c d) (e87 a b c d):=ec
def UQ (c d:Int) (e:List (V × V)) (f a:List V): R :=
 gd (decide (0<=W aB ((a.length:Int) - 1))) <|
 gd (decide ((W aB ((a.length:Int) - 1)).toNat < a.length)) <|
 bk a ((W aB ((a.length:Int) - 1)).toNat) λg =>
 kL g λb =>
 aA (.head 1 (m9 b (b.length:Int) 0 c d e f a []))
def ahs(a b c d e): Rd aD 5 87 0 (zV a b c d e) (UQ a b c d e):=rd
def BF (h:List V) (i g a b:Int) (c:List (V × V)) (d f e:List V): R :=
 cond (decide (g < i))
 (gd (decide (0<=g)) <|
  bk h g.toNat λk =>
  kI aB k λl =>
  iF aJ aU (gZ (tm a b c d)) (hJ (tm a b c d)) (iu (tm a b c d)) 82 [aL 0 0 0,aC aB l] (tm a b c d)
 (λm =>
  cd (tm a b c d++[aN 80 [] 0,aN 80 f 0,aN 3 e 0]) <|
  aA (.head 1 (m9 h i (W aB (g+1)) a b c d f e)))
 (λj =>
  cd (tm a b c d++[aN 80 [] 0,aN 80 f 0,aN 3 e 0]) <|
  gd (cC 1 j.2.1) <|
  gd (decide (e.length+j.2.1.length<=16777216)) <|
  aA (.head 1 (m9 h i (W aB (g+1)) a b c d f (e++j.2.1))))
 (λn =>
  cd (tm a b c d++[aN 80 [] 0,aN 80 f 0,aN 3 e 0]) <|
  aA (.head 1 (m9 h i (W aB (g+1)) a b c d f e))))
 (cond ((e.length:Int)==(0:Int))
 (aA (.doneM (dD 5) (tm a b c d++[aN 80 f 0])))
 (gd (decide (f.length+([aH e]:List V).length<=16777216)) <|
  aA (.head 0 (zV a b c d (f++[aH e])))))
def FJ(a b c d e f g h i): Rd aD 5 87 1 (m9 a b c d e f g h i) (BF a b c d e f g h i):=rd
def xc(a:List V)(b:Int)(c:List V)(d e:Int): S:=⟨[aH a,bj,dD 0,aC aB b]++(JU 5)++[aH c,aC aB d,aC aB e]++(JU 24),[aN 3 [] 0]⟩
def GD(a:Nat)(b:List V)(c:Int)(d:List V): S:=⟨[bj,bj,dD 0,bj,bj,bj,V.win 1 0 a]++(JU 18)++[aH b,aC aB c,aC aB 0]++(JU 8),[aN 3 [] 0,aN 3 d 0]⟩
def Wv(a:List V)(b c:Int)(d:List V): S:=⟨[bj,bj,dD 0,bj,bj,bj,dD 1]++(JU 18)++[aH a,aC aB b,aC aB c]++(JU 8),[aN 3 [] 0,aN 3 d 0]⟩
def zU(a:List V)(b c:Int)(d:List V): S:=⟨[bj,bj,dD 0,bj,bj,bj,bl 1 0]++(JU 18)++[aH a,aC aB b,aC aB c]++(JU 8),[aN 3 [] 0,aN 3 d 0]⟩
def Pi (a:List V): R :=
 aA (.head 0 (xc a 0 a (a.length:Int) 0))
def aaZ(a): Ec 86 0 ⟨aD,aE,aE,[]⟩ [aH a] [] (Pi a):=ec
def FI (b:List V) (a:Int) (d:List V) (e c:Int): R :=
 cond (decide (c < e))
 (gd (decide (0<=c)) <|
  bk d c.toNat λg =>
  kL g λf =>
  cond (decide (W aB (a+(f.length:Int)) < 0))
 (aF)
 (aA (.head 0 (xc b (W aB (a+(f.length:Int))) d e (W aB (c+1))))))
 (cond (decide (a < 0))
 (aF)
 (cond (decide (W aB (a - 0) > 0))
 (gd (decide (0 < W aB (a - 0))) <|
  gd (decide (Int.toNat (W aB (a - 0))<=16777216)) <|
  gd (cC 1 (cA (Int.toNat (W aB (a - 0))) (aC aB 0))) <|
  aA (.head 1 (GD (0 - 0) b (b.length:Int) (cA (Int.toNat (W aB (a - 0))) (aC aB 0)))))
 (aA (.head 1 (Wv b (b.length:Int) 0 [])))))
def UO(a b c d e): Rd aD 0 86 0 (xc a b c d e) (FI a b c d e):=rd
def LB (a:Nat) (d:List V) (e:Int) (b:List V): R :=
 cond (decide (0 < e))
 (bk d 0 λf =>
  kL f λc =>
  gd (cC 1 c) <|
  gd (decide (0+a<=b.length)) <|
  gd (decide (a+c.length<=16777216)) <|
  aA (.head 1 (zU d e 1 (((b.drop 0).take a)++c))))
 (aA (.doneM (V.win 1 0 a) [aN 3 [] 0,aN 3 b 0]))
def ahr(a b c d): Rd aD 0 86 1 (GD a b c d) (LB a b c d):=rd
def LC (d:List V) (e a:Int) (b:List V): R :=
 cond (decide (a < e))
 (gd (decide (0<=a)) <|
  bk d a.toNat λf =>
  kL f λc =>
  gd (cC 1 c) <|
  gd (decide (b.length+c.length<=16777216)) <|
  aA (.head 1 (zU d e (W aB (a+1)) (b++c))))
 (aA (.doneM (bl 1 0) [aN 3 [] 0,aN 3 b 0]))
def UP(a b c d): Rd aD 0 86 1 (zU a b c d) (LC a b c d):=rd
def zX(a:List V)(b:Int)(c d:List V): S:=⟨[bj,aL 2 0 0,dD 3,aL 4 0 0,bj,bj,V.rest [3] a]++(JU 9),(bm b c++[aM 135 (aL 0 0 0) aE,aN 3 [] 0,aM 80 (bl 5 0) aE,aN 3 d 0])⟩
def Pk (a:Int) (b:List V): R :=
 cg (yE [V.ref (V.ref (aI [V.unk,aC aB a]) 0) 0,V.ref (aC aB 0) 0]) λc =>
 aA (.head 0 (zX (c.map aV) a b []))
def aa2(a b): Ec 90 2 aU [aL 0 0 0] (bm a b) (Pk a b):=ec
def LD (g:List V) (a:Int) (b c:List V): R :=
 mh g
 (aA (.doneM (bl 5 0) (bm a b++[aM 135 (aL 0 0 0) aE,aN 3 [] 0,aM 80 (bl 5 0) aE,aN 3 c 0]))) λh f =>
  kT h λd=>cj d λi d=>kI aB i λe =>
  er d<|cJ aJ aU qZ 137 [aL 0 0 0,aC aB e] (bm a b) λj =>
  cd (bm a b++[aM 135 (aL 0 0 0) aE,aN 3 [] 0,aM 80 (bl 5 0) aE,aN 3 c 0]) <|
  cond j
 (gd (decide (c.length+([aC aB e]:List V).length<=16777216)) <|
  aA (.head 0 (zX f a b (c++[aC aB e]))))
 (aA (.head 0 (zX f a b c)))
def LF(a b c d): Rd aD 2 90 0 (zX a b c d) (LD a b c d):=rd
def DI (m d a:Int) (b:List (V × V)) (c:List V): R :=
 cJ aJ aU pN 58 [aL 0 0 0,aC aB m] (sm a b c) λh =>
 cd (tm d a b c) <|
 cond (h.2 != (0:Int))
 (aA (.doneM (V.nilI) (tm d a b c)))
 (aT aJ 129 [aG h.1] λn =>
  qI n λe f g o =>
  cond (o==(0:Int))
 (aA (.doneM (gK 120 (aI [aH e,aG f,aC aB g])) (tm d a b c++[aN 41 [] 0,aM 120 (aI [aH e,aG f,aC aB g]) aE])))
 (aT aJ 130 [aG h.1] λp =>
  sP p λi j k l q =>
  cond (q==(0:Int))
 (aA (.doneM (gK 150 (aI [aH i,aH j,aG k,aC aB l])) (tm d a b c++[aN 41 [] 0,aM 120 (aI [aH e,aG f,aC aB g]) aE,aN 9 [] 0,aN 3 [] 0,aM 150 (aI [aH i,aH j,aG k,aC aB l]) aE])))
 (aA (.doneM (V.nilI) (tm d a b c++[aN 41 [] 0,aM 120 (aI [aH e,aG f,aC aB g]) aE,aN 9 [] 0,aN 3 [] 0,aM 150 (aI [aH i,aH j,aG k,aC aB l]) aE])))))
def Ii(a b c d e): Ec 82 5 aU [aL 0 0 0,aC aB a] (tm b c d e) (DI a b c d e):=ec
def Pj (a:Int) (b:List V): R :=
 cJ aJ aU vN 90 [aL 0 0 0] (bm a b) λc =>
 cd (bm a b) <|
 aA (.doneM (aC aB (W aB (a - (c.length:Int)))) (bm a b))
def aa1(a b): Ec 89 2 aU [aL 0 0 0] (bm a b) (Pj a b):=ec
def z6(a b:Int)(c:List V): S:=⟨[aL 0 0 0,aC aB a,bj,bj,aC aB 0,aC aB 0,aC aB b]++(JU 44),(rb c)⟩
def Ww(a b:Int)(c:List V): S:=⟨[aL 0 0 0,aC aB a,bj,bj,aC aB 0,aC aB 0,bj,aC aB b]++(JU 43),(rb c)⟩
def Pp (a:Int) (b:List V): R :=
 cond (decide (a ≥ 0))
 (cond (!(decide (a < (b.length:Int))))
 (aA (.doneM (aV [aC aB 0,aC aB 1]) (rb b)))
 (aA (.head 0 (z6 a a b))))
 (aA (.doneM (aV [aC aB 0,aC aB 1]) (rb b)))
def aa6(a b): Ec 99 2 aU [aL 0 0 0,aC aB a] (rb b) (Pp a b):=ec
def LI (c a:Int) (b:List V): R :=
 cond (decide (a < (b.length:Int)))
 (gd (decide (0<=a)) <|
  gd (decide (a.toNat < b.length)) <|
  bk b (0+a.toNat) λe =>
  kB e λf =>
  cond (!f)
 (bV aJ aU AO 142 [aL 0 0 0,aC aB a] (rb b) λd =>
  aA (.doneM (aV [aC aB a,aC aB d.1]) (rb d.2)))
 (aA (.head 0 (z6 c (W aB (a+1)) b))))
 (aA (.head 1 (Ww c 0 b)))
def UR(a b c): Rd aD 2 99 0 (z6 a b c) (LI a b c):=rd
def Oa (c:Int) (a b:List V): R :=
 cond (decide (c < 0))
 (aA (.doneM (aC aB 1) (rs a b)))
 (cond (decide (c ≥ (a.length:Int)))
 (aA (.doneM (aC aB 1) (rs a b)))
 (cJ aJ aU yb 143 [aL 0 0 0,aC aB c] (rb b) λd =>
  cd (rs a b) <|
  cond (!d)
 (aA (.doneM (aC aB 7) (rs a b)))
 (aA (.doneM (aC aB 0) (rs a b)))))
def Ys(a b c): Ec 100 4 aU [aL 0 0 0,aC aB a] (rs b c) (Oa a b c):=ec
def CN(a:List V)(b c d e:Int)(f g h:List V)(i:List UInt8)(j:Int)(k:List V)(l:List UInt8)(m:Int): S:=⟨[aL 0 0 0]++(JU 5)++[aW aE,aC aB 0,aH a,aC aB b,bj,bj,bj,aC aB c,bj,bj,aC aB d,bj,aL 5 0 0,aL 6 0 0]++(JU 126),(rm e f g++[aM 108 (aI [aH h,aG i,aC aB j]) aE,aM 108 (aI [aH k,aG l,aC aB m]) aE])⟩
def Al (e h:List UInt8) (b:Int) (c d:List V): R :=
 aT aJ 47 [aG e] λu =>
 kB u λv =>
 cond (!v)
 (aA (.doneM (aV [aW aE,aC aB 1]) (rm b c d)))
 (aT aJ 48 [aG h] λw =>
  kB w λx =>
  cond (!x)
 (aA (.doneM (aV [aW aE,aC aB 1]) (rm b c d)))
 (cJ aJ aU tC 103 [aL 0 0 0,aG e] (rm b c d) λg =>
  cd (rm b c d) <|
  gd (decide (0<=W aB ((g.length:Int) - 1))) <|
  bk g ((W aB ((g.length:Int) - 1)).toNat) λy =>
  kI aB y λi =>
  cJ aJ aU nJ 104 [aL 0 0 0,aC aB i] (rm b c d) λa =>
  cd (rm b c d) <|
  aT aJ 105 [aI [aH a.1,aG a.2.1,aC aB a.2.2.1],aG e] λz =>
  iC z λaq m =>
  aT aJ 106 [aI [aH a.1,aG a.2.1,aC aB a.2.2.1],aG e,aG h] λaa =>
  qJ aa λj k l ab =>
  cond (ab==(0:Int))
 (aT aJ 62 [aI [aH j,aG k,aC aB l]] λac =>
  kS ac λad =>
  bV aJ aU jg 61 [aL 0 0 0,aC aB i,aG ad] (rs c d) λo =>
  aA (.doneM (aV [aW (m != (0:Int)),aC aB 0]) (rm b o.2.1 o.2.2++[aN 41 [] 0,aM 108 (aI [aH a.1,aG a.2.1,aC aB a.2.2.1]) aE,aN 41 [] 0,aM 108 (aI [aH j,aG k,aC aB l]) aE])))
 (cJ aJ aU xV 107 [aL 0 0 0] (rs c d) λae =>
  cd (rm b c d++[aN 41 [] 0,aM 108 (aI [aH a.1,aG a.2.1,aC aB a.2.2.1]) aE,aN 41 [] 0,aM 108 (aI [aH j,aG k,aC aB l]) aE]) <|
  cond (decide (ae < W aB ((g.length:Int)+1)))
 (aA (.doneM (aV [aW aE,aC aB 6]) (rm b c d++[aN 41 [] 0,aM 108 (aI [aH a.1,aG a.2.1,aC aB a.2.2.1]) aE,aN 41 [] 0,aM 108 (aI [aH j,aG k,aC aB l]) aE])))
 (bV aJ aU re 60 [aL 0 0 0] (rs c d) λf =>
  aT aJ 108 [aI [aH a.1,aG a.2.1,aC aB a.2.2.1],aC aB f.1] λaf =>
  Df af λp n q r s t ar =>
  aT aJ 35 [aG e,aG n] λag =>
  kB ag λah =>
  cond ah
 (aT aJ 106 [aI [aH p,aG n,aC aB q],aG e,aG h] λai =>
  qJ ai λaj ak al au =>
  aA (.head 0 (CN g i m f.1 b f.2.2.1 f.2.2.2 aj ak al r s t)))
 (aT aJ 106 [aI [aH r,aG s,aC aB t],aG e,aG h] λam =>
  qJ am λan ao ap av =>
  aA (.head 0 (CN g i m f.1 b f.2.2.1 f.2.2.2 p n q an ao ap)))))))
def DF(a b c d e): Ec 65 5 aU [aL 0 0 0,aG a,aG b] (rm c d e) (Al a b c d e):=ec
def UG (a:List V) (d m e n:Int) (o p f:List V) (b:List UInt8) (g:Int) (h:List V) (i:List UInt8) (j:Int): R :=
 aT aJ 62 [aI [aH f,aG b,aC aB g]] λq =>
 kS q λr =>
 bV aJ aU jg 61 [aL 0 0 0,aC aB d,aG r] (rs o p) λk =>
 aT aJ 62 [aI [aH h,aG i,aC aB j]] λs =>
 kS s λt =>
 bV aJ aU jg 61 [aL 0 0 0,aC aB e,aG t] (rs k.2.1 k.2.2) λl =>
 gd (cC 1 a) <|
 gd (decide (0<=W aB ((a.length:Int) - 1))) <|
 gd (decide ((W aB ((a.length:Int) - 1)).toNat<=a.length)) <|
 bV aJ aU xW 109 [aL 0 0 0,aH (a.take ((W aB ((a.length:Int) - 1)).toNat)),aG b,aC aB d,aC aB e] (rm n l.2.1 l.2.2) λc =>
 aA (.doneM (aV [aW (m != (0:Int)),aC aB 0]) (rm c.1 c.2.1 c.2.2++[aM 108 (aI [aH f,aG b,aC aB g]) aE,aM 108 (aI [aH h,aG i,aC aB j]) aE]))
def ahj(a b c d e f g h i j k l m): Rd aD 5 65 0 (CN a b c d e f g h i j k l m) (UG a b c d e f g h i j k l m):=rd
def xv (i:List UInt8) (b:Int) (c d:List V): R :=
 aT aJ 47 [aG i] λo =>
 kB o λp =>
 cond (!p)
 (aA (.doneM (aC aB 1) (rm b c d)))
 (cJ aJ aU tC 103 [aL 0 0 0,aG i] (rm b c d) λh =>
  cd (rm b c d) <|
  gd (decide (0<=W aB ((h.length:Int) - 1))) <|
  bk h ((W aB ((h.length:Int) - 1)).toNat) λq =>
  kI aB q λj =>
  cJ aJ aU nJ 104 [aL 0 0 0,aC aB j] (rm b c d) λa =>
  cd (rm b c d) <|
  aT aJ 110 [aI [aH a.1,aG a.2.1,aC aB a.2.2.1],aG i] λr =>
  qJ r λe f g l =>
  cond (l != (0:Int))
 (aA (.doneM (aC aB l) (rm b c d++[aN 41 [] 0,aM 108 (aI [aH a.1,aG a.2.1,aC aB a.2.2.1]) aE,aN 41 [] 0,aM 108 (aI [aH e,aG f,aC aB g]) aE])))
 (cond (decide ((e.length:Int) > 0))
 (aT aJ 62 [aI [aH e,aG f,aC aB g]] λs =>
  kS s λt =>
  bV aJ aU jg 61 [aL 0 0 0,aC aB j,aG t] (rs c d) λm =>
  aA (.doneM (aC aB 0) (rm b m.2.1 m.2.2++[aN 41 [] 0,aM 108 (aI [aH a.1,aG a.2.1,aC aB a.2.2.1]) aE,aN 41 [] 0,aM 108 (aI [aH e,aG f,aC aB g]) aE])))
 (cond ((h.length:Int)==(1:Int))
 (aT aJ 62 [aI [aH e,aG f,aC aB g]] λu =>
  kS u λv =>
  bV aJ aU jg 61 [aL 0 0 0,aC aB j,aG v] (rs c d) λn =>
  aA (.doneM (aC aB 0) (rm b n.2.1 n.2.2++[aN 41 [] 0,aM 108 (aI [aH a.1,aG a.2.1,aC aB a.2.2.1]) aE,aN 41 [] 0,aM 108 (aI [aH e,aG f,aC aB g]) aE])))
 (bV aJ aU AM 111 [aL 0 0 0,aH h] (rm b c d) λk =>
  aA (.doneM (aC aB 0) (rm k.1 k.2.1 k.2.2++[aN 41 [] 0,aM 108 (aI [aH a.1,aG a.2.1,aC aB a.2.2.1]) aE,aN 41 [] 0,aM 108 (aI [aH e,aG f,aC aB g]) aE]))))))
def Am(a b c d): Ec 66 5 aU [aL 0 0 0,aG a] (rm b c d) (xv a b c d):=ec
def Ik (e:List UInt8) (a:Int) (b c:List V): R :=
 aT aJ 47 [aG e] λg =>
 kB g λh =>
 cond (!h)
 (aA (.doneM (aV [aG [],aC aB 1]) (rm a b c)))
 (cJ aJ aU tC 103 [aL 0 0 0,aG e] (rm a b c) λf =>
  cd (rm a b c) <|
  gd (decide (0<=W aB ((f.length:Int) - 1))) <|
  bk f ((W aB ((f.length:Int) - 1)).toNat) λi =>
  kI aB i λj =>
  cJ aJ aU nJ 104 [aL 0 0 0,aC aB j] (rm a b c) λd =>
  cd (rm a b c) <|
  aT aJ 105 [aI [aH d.1,aG d.2.1,aC aB d.2.2.1],aG e] λk =>
  iC k λl m =>
  aA (.doneM (aV [aG l,aC aB m]) (rm a b c++[aN 41 [] 0,aM 108 (aI [aH d.1,aG d.2.1,aC aB d.2.2.1]) aE])))
def Pl(a b c d): Ec 91 5 aU [aL 0 0 0,aG a] (rm b c d) (Ik a b c d):=ec
def zY(a:List UInt8)(b:Int)(c:List V)(d e:Int)(f g h:List V): S:=⟨[bj,aG a,aC aB b,bj,bj,bj,dD 5,dD 6,aH c,aC aB d]++(JU 31),(rm e f g++[aN 41 [] 0,aN 41 h 0])⟩
def Pm (d:List UInt8) (e a:Int) (b c:List V): R :=
 cJ aJ aU yg 67 [aL 0 0 0] (rm a b c) λf =>
 cd (rm a b c++[aN 41 [] 0,aN 41 [] 0]) <|
 aA (.head 0 (zY d e f 0 a b c []))
def aa3(a b c d e): Ec 92 5 aU [aL 0 0 0,aG a,aC aB b] (rm c d e) (Pm a b c d e):=ec
def FK (g:List UInt8) (h:Int) (c:List V) (a d:Int) (e f b:List V): R :=
 cond (decide (a < (c.length:Int)))
 (cond (decide ((b.length:Int) < h))
 (gd (decide (0<=a)) <|
  bk c a.toNat λk =>
  eJ k λl p =>
  aT aJ 35 [aG l,aG g] λm =>
  kB m λn =>
  cond (!n)
 (gd (decide (0<=a)) <|
  bk c a.toNat λo =>
  eJ o λi j =>
  gd (decide (b.length+([aI [aG i,aG j]]:List V).length<=16777216)) <|
  aA (.head 0 (zY g h c (W aB (a+1)) d e f (b++[aI [aG i,aG j]]))))
 (aA (.head 0 (zY g h c (W aB (a+1)) d e f b))))
 (aA (.doneM (dD 6) (rm d e f++[aN 41 [] 0,aN 41 b 0]))))
 (aA (.doneM (dD 6) (rm d e f++[aN 41 [] 0,aN 41 b 0])))
def LG(a b c d e f g h): Rd aD 5 92 0 (zY a b c d e f g h) (FK a b c d e f g h):=rd
def zZ(a:Int)(b c:List V): S:=⟨[aL 0 0 0,bj,dD 2,dD 3,aC aB a]++(JU 22),(rb b++[aN 3 [] 0,aN 3 c 0])⟩
def e93 (a:List V): R :=
 aA (.head 0 (zZ 0 a []))
def aa4(a): Ec 93 2 aU [aL 0 0 0] (rb a) (e93 a):=ec
def FL (a:Int) (b c:List V): R :=
 cond (decide (a < (b.length:Int)))
 (gd (decide (0<=a)) <|
  gd (decide (a.toNat < b.length)) <|
  bk b (0+a.toNat) λd =>
  kB d λe =>
  cond e
 (gd (decide (c.length+([aC aB a]:List V).length<=16777216)) <|
  aA (.head 0 (zZ (W aB (a+1)) b (c++[aC aB a]))))
 (aA (.head 0 (zZ (W aB (a+1)) b c))))
 (aA (.doneM (dD 3) (rb b++[aN 3 [] 0,aN 3 c 0])))
def LH(a b c): Rd aD 2 93 0 (zZ a b c) (FL a b c):=rd
def H8 (d a:Int) (b:List (V × V)) (c:List V): R :=
 cond (decide (d < 0))
 (aA (.doneM (aV [aG [],aC aB 1]) (sm a b c)))
 (cond (decide (d ≥ a))
 (aA (.doneM (aV [aG [],aC aB 1]) (sm a b c)))
 (mP b (aC aB d)
 (aA (.doneM (aV [aG [],aC aB 7]) (sm a b c))) λe =>
  kS e λf =>
  aA (.doneM (aV [aG f,aC aB 0]) (sm a b c))))
def O6(a b c d): Ec 58 4 aU [aL 0 0 0,aC aB a] (sm b c d) (H8 a b c d):=ec
def Pn (b:Int) (a c:List V): R :=
 cJ aJ aU vE 100 [aL 0 0 0,aC aB b] (rs a c) λd =>
 cd (rs a c) <|
 cond (d != (0:Int))
 (aA (.doneM (aV [aG [],aC aB d]) (rs a c)))
 (gd (decide (0<=b)) <|
  gd (decide (b.toNat < a.length)) <|
  bk a (0+b.toNat) λe =>
  kS e λf =>
  aA (.doneM (aV [aG f,aC aB 0]) (rs a c)))
def aa5(a b c): Ec 94 4 aU [aL 0 0 0,aC aB a] (rs b c) (Pn a b c):=ec
def Il (i g:Int) (e f:List V): R :=
 cJ aJ aU tL 94 [aL 0 0 0,aC aB i] (rs e f) λh =>
 cd (rm g e f++[aN 9 [] 0,aN 3 [] 0,aM 152 (aI [bl 5 0,bl 6 0,aG [],aC aB 0]) aE]) <|
 aT aJ 138 [aG h.1] λj =>
 sQ j λa b c d k =>
 cond (h.2==(0:Int))
 (aA (.doneM (aV [aI [aH a,aH b,aG c,aC aB d],aW (k==(0:Int))]) (rm g e f++[aN 9 [] 0,aN 3 [] 0,aM 152 (aI [aH a,aH b,aG c,aC aB d]) aE,aN 9 [] 0,aN 3 [] 0,aM 152 (aI [aH a,aH b,aG c,aC aB d]) aE])))
 (aA (.doneM (aV [aI [aH a,aH b,aG c,aC aB d],aW aE]) (rm g e f++[aN 9 [] 0,aN 3 [] 0,aM 152 (aI [aH a,aH b,aG c,aC aB d]) aE,aN 9 [] 0,aN 3 [] 0,aM 152 (aI [aH a,aH b,aG c,aC aB d]) aE])))
def Po(a b c d): Ec 95 5 aU [aL 0 0 0,aC aB a] (rm b c d) (Il a b c d):=ec
def Ox (a c:Int) (b:List V): R :=
 cond (decide (a ≥ 0))
 (cond (decide (a < c))
 (gd (decide (0<=W aB ((a.tdiv 8)))) <|
  gd (decide ((W aB ((a.tdiv 8))).toNat < b.length)) <|
  bk b (0+((W aB ((a.tdiv 8))).toNat)) λd =>
  kI bK d λe =>
  aT aJ 193 [aC aB a] λf =>
  kI bK f λg =>
  aA (.doneM (aW ((W bK (((BitVec.ofInt (bJ bK) e &&& BitVec.ofInt (bJ bK) g).toNat:Int))) != (0:Int))) (bm c b)))
 (aA (.doneM (aW aE) (bm c b))))
 (aA (.doneM (aW aE) (bm c b)))
def Y6(a b c): Ec 137 2 aU [aL 0 0 0,aC aB a] (bm b c) (Ox a b c):=ec
def OM (a c:Int) (b:List V): R :=
 cond (decide (a ≥ 0))
 (cond (!(decide (a < c)))
 (aA (.doneM (aC aB 1) (bm c b)))
 (cJ aJ aU qZ 137 [aL 0 0 0,aC aB a] (bm c b) λd =>
  cd (bm c b) <|
  cond d
 (aA (.doneM (aC aB 8) (bm c b)))
 (gd (decide (0<=W aB ((a.tdiv 8)))) <|
  gd (decide ((W aB ((a.tdiv 8))).toNat < b.length)) <|
  bk b (0+((W aB ((a.tdiv 8))).toNat)) λe =>
  kI bK e λf =>
  aT aJ 193 [aC aB a] λg =>
  kI bK g λh =>
  gd (decide (0<=W aB ((a.tdiv 8)))) <|
  gd (decide ((W aB ((a.tdiv 8))).toNat < b.length)) <|
  bk b (0+((W aB ((a.tdiv 8))).toNat)) λi =>
  kI bK i λj =>
  aA (.doneM (aC aB 0) (bm c (((b).set (0+((W aB ((a.tdiv 8))).toNat)) (aC bK (W bK (((BitVec.ofInt (bJ bK) f |||BitVec.ofInt (bJ bK) h).toNat:Int)))))))))))
 (aA (.doneM (aC aB 1) (bm c b)))
def ZI(a b c): Ec 180 2 aU [aL 0 0 0,aC aB a] (bm b c) (OM a b c):=ec
def zC(a:List V)(b c:Int)(d:List (V × V))(e:List V)(f:List UInt8)(g h:Int): S:=⟨(JU 5)++[aL 5 0 0,bj,aL 6 0 0,aL 7 0 0,aL 8 0 0]++(JU 11)++[V.rest [3,176] a]++(JU 91),(tm b c d e++[aM 24 (aL 0 0 0) aE,aM 9 (aG f) aE,aM 3 (aC aB g) aE,aM 3 (aC aB h) aE])⟩
def On (a:List V) (b:List UInt8) (c d e f:Int) (g:List (V × V)) (h:List V): R :=
 cg (C0 [V.ref (aH a) 0]) λi =>
 aA (.head 0 (zC (i.map aV) e f g h b c d))
def YV(a b c d e f g h): Ec 123 5 aU [aL 0 0 0,aH a,aG b,aC aB c,aC aB d] (tm e f g h) (On a b c d e f g h):=ec
def KJ (af:List V) (m n:Int) (o:List (V × V)) (p:List V) (b:List UInt8) (q c:Int): R :=
 mh af
 (bV aJ aU pO 84 [aL 0 0 0] (sm n o p) λd =>
  bV aJ aU gE 78 [aL 0 0 0,aC aB d.1,gK 150 (aI [aH [aG b],aH [aC aB q,aC aB c],aG [],aC aB 0])] (tm d.1 d.2.2.1 d.2.2.2.1 d.2.2.2.2) λg =>
  aA (.doneM (aV []) (tm g.1 g.2.1 g.2.2.1 g.2.2.2++[aM 24 (aL 0 0 0) aE,aM 9 (aG b) aE,aM 3 (aC aB q) aE,aM 3 (aC aB c) aE]))) λag s =>
  kT ag λe=>cj e λah e=>kI aB ah λa2 =>
  cj e λai e=>nw ai λf t u v w a3 =>
  er e<|aT aJ 167 [aI [aH t,aH u,aG v,aC aB w],aG b,aC aB c] λaj =>
  sP aj λak al am an ao =>
  cond (ao==(0:Int))
 (bV aJ aU gE 78 [aL 0 0 0,aC aB f,gK 150 (aI [aH ak,aH al,aG am,aC aB an])] (tm m n o p) λh =>
  aA (.doneM (aV []) (tm h.1 h.2.1 h.2.2.1 h.2.2.2++[aM 24 (aL 0 0 0) aE,aM 9 (aG b) aE,aM 3 (aC aB q) aE,aM 3 (aC aB c) aE])))
 (bV aJ aU pO 84 [aL 0 0 0] (sm n o p) λa =>
  aT aJ 168 [aI [aH t,aH u,aG v,aC aB w],aC aB a.1] λap =>
  Dj ap λx y z aa ab ac ad ae r a4 =>
  cond (Op.bytesLess b r)
 (aT aJ 167 [aI [aH x,aH y,aG z,aC aB aa],aG b,aC aB c] λaq =>
  sP aq λar au av aw a5 =>
  bV aJ aU gE 78 [aL 0 0 0,aC aB f,gK 150 (aI [aH ar,aH au,aG av,aC aB aw])] (tm m a.2.2.1 a.2.2.2.1 a.2.2.2.2) λi =>
  bV aJ aU gE 78 [aL 0 0 0,aC aB a.1,gK 150 (aI [aH ab,aH ac,aG ad,aC aB ae])] (tm i.1 i.2.1 i.2.2.1 i.2.2.2) λj =>
  aA (.head 0 (zC s j.1 j.2.1 j.2.2.1 j.2.2.2 r f a.1)))
 (aT aJ 167 [aI [aH ab,aH ac,aG ad,aC aB ae],aG b,aC aB c] λax =>
  sP ax λay az a0 a1 a6 =>
  bV aJ aU gE 78 [aL 0 0 0,aC aB f,gK 150 (aI [aH x,aH y,aG z,aC aB aa])] (tm m a.2.2.1 a.2.2.2.1 a.2.2.2.2) λk =>
  bV aJ aU gE 78 [aL 0 0 0,aC aB a.1,gK 150 (aI [aH ay,aH az,aG a0,aC aB a1])] (tm k.1 k.2.1 k.2.2.1 k.2.2.2) λl =>
  aA (.head 0 (zC s l.1 l.2.1 l.2.2.1 l.2.2.2 r f a.1))))
def T8(a b c d e f g h): Rd aD 5 123 0 (zC a b c d e f g h) (KJ a b c d e f g h):=rd
def zD(a:List V)(b c d e:Int)(f:List (V × V))(g:List V): S:=⟨[aL 0 0 0,aH a,aC aB b,bj,bj,bj,dD 5,aC aB c]++(JU 72),(tm d e f g++[aN 3 [] 0])⟩
def wV(a b c d e f:Int)(g:List (V × V))(h i:List V): S:=⟨[aL 0 0 0,bj,aC aB a,bj,bj,bj,dD 5,bj,aC aB b,dD 6]++(JU 39)++[aC aB c,aC aB d]++(JU 29),(tm e f g h++[aN 3 [] 0,aN 3 i 0])⟩
def Hy (a:List V) (b c d:Int) (e:List (V × V)) (f:List V): R :=
 aA (.head 0 (zD a b (W aB ((a.length:Int) - 1)) c d e f))
def Oo(a b c d e f): Ec 124 5 aU [aL 0 0 0,aH a,aC aB b] (tm c d e f) (Hy a b c d e f):=ec
def By (b:List V) (g a c d:Int) (e:List (V × V)) (f:List V): R :=
 cond (decide (a ≥ 0))
 (gd (decide (0<=a)) <|
  bk b a.toNat λl =>
  nw l λv w x y z m =>
  cond (m==(0:Int))
 (aA (.head 0 (zD b g (W aB (a - 1)) c d e f)))
 (cond (decide (a < 0))
 (aA (.doneM (dD 6) (tm c d e f++[aN 3 [] 0,aN 3 [] 0])))
 (gd (decide (0<=a)) <|
  bk b a.toNat λn =>
  nw n λaa ab o ac ad ae =>
  gd (decide (0<=a)) <|
  bk b a.toNat λp =>
  nw p λaf ag ah ai aj h =>
  gd (decide (0<=W aB (h - 1))) <|
  bk o ((W aB (h - 1)).toNat) λq =>
  kI aB q λi =>
  aA (.head 1 (wV g i (W aB ((W aB ((b.length:Int) - 1)) - a)) 0 c d e f [aC aB i])))))
 (cond (decide (a < 0))
 (aA (.doneM (dD 6) (tm c d e f++[aN 3 [] 0,aN 3 [] 0])))
 (gd (decide (0<=a)) <|
  bk b a.toNat λr =>
  nw r λak al s am an ao =>
  gd (decide (0<=a)) <|
  bk b a.toNat λt =>
  nw t λap aq ar au av j =>
  gd (decide (0<=W aB (j - 1))) <|
  bk s ((W aB (j - 1)).toNat) λu =>
  kI aB u λk =>
  aA (.head 1 (wV g k (W aB ((W aB ((b.length:Int) - 1)) - a)) 0 c d e f [aC aB k]))))
def Fp(a b c d e f g): Rd aD 5 124 0 (zD a b c d e f g) (By a b c d e f g):=rd
def KL (f l j k a b:Int) (c:List (V × V)) (d g:List V): R :=
 cond (decide (k < j))
 (iF aJ aU (gZ (tm a b c d)) (hJ (tm a b c d)) (iu (tm a b c d)) 82 [aL 0 0 0,aC aB l] (tm a b c d)
 (λn =>
  cd (tm a b c d++[aN 3 [] 0,aN 3 g 0]) <|
  aF)
 (λh =>
  cd (tm a b c d++[aN 3 [] 0,aN 3 g 0]) <|
  gd (decide (0<=W aB ((h.2.1.length:Int) - 1))) <|
  bk h.2.1 ((W aB ((h.2.1.length:Int) - 1)).toNat) λm =>
  kI aB m λi =>
  gd (decide (g.length+([aC aB i]:List V).length<=16777216)) <|
  aA (.head 1 (wV f i j (W aB (k+1)) a b c d (g++[aC aB i]))))
 (λo =>
  cd (tm a b c d++[aN 3 [] 0,aN 3 g 0]) <|
  aF))
 (bV aJ aU AP 169 [dD 0] [aN 3 g 0] λe =>
  gd (cC 1 e) <|
  gd (decide (0<=(if (e.length:Int) < f then (e.length:Int) else f))) <|
  gd (decide ((if (e.length:Int) < f then (e.length:Int) else f).toNat<=e.length)) <|
  aA (.doneM (V.win 6 0 (((if (e.length:Int) < f then (e.length:Int) else f).toNat) - 0)) (tm a b c d++[aN 3 [] 0,aN 3 e 0])))
def T9(a b c d e f g h i): Rd aD 5 124 1 (wV a b c d e f g h i) (KL a b c d e f g h i):=rd
def Oq (b d:Int) (c:List (V × V)) (e:List V): R :=
 bV aJ aU AQ 174 [aL 0 0 0,aC aB b] (bm d e) λa =>
 cond (a.1==(0:Int))
 (cg (nI c (aC aB b)) λf =>
  aA (.doneM (aC aB a.1) (sm a.2.1 f a.2.2)))
 (aA (.doneM (aC aB a.1) (sm a.2.1 c a.2.2)))
def YY(a b c d): Ec 127 4 aU [aL 0 0 0,aC aB a] (sm b c d) (Oq a b c d):=ec
def Cu(a b:Int)(c:List (V × V))(d:List V): S:=⟨[aL 0 0 0]++(JU 37),(tm a b c d)⟩
def YZ (a b:Int) (c:List (V × V)) (d:List V): R :=
 aA (.head 0 (Cu a b c d))
def Y0(a b c d): Ec 128 5 aU [aL 0 0 0] (tm a b c d) (YZ a b c d):=ec
def Fq (a b:Int) (c:List (V × V)) (d:List V): R :=
 iF aJ aU (gZ (tm a b c d)) (hJ (tm a b c d)) (iu (tm a b c d)) 82 [aL 0 0 0,aC aB a] (tm a b c d)
 (λi =>
  cd (tm a b c d) <|
  aA (.doneM (aV []) (tm a b c d)))
 (λf =>
  cd (tm a b c d) <|
  cond (decide ((f.2.1.length:Int) > 1))
 (aA (.doneM (aV []) (tm a b c d)))
 (bV aJ aU xZ 127 [aL 0 0 0,aC aB a] (sm b c d) λe =>
  bk f.2.1 0 λg =>
  kI aB g λh =>
  aA (.head 0 (Cu h e.2.1 e.2.2.1 e.2.2.2))))
 (λj =>
  cd (tm a b c d) <|
  aA (.doneM (aV []) (tm a b c d)))
def KM(a b c d): Rd aD 5 128 0 (Cu a b c d) (Fq a b c d):=rd
def MX(a b:Int)(c d:List UInt8)(e:Int)(f:List (V × V))(g h:List V): S:=⟨[aL 0 0 0,aC aB a,aC aB b,aG c,aG d,aC aB e]++(JU 6)++[aW aE]++(JU 65),(fm f g h)⟩
def Cx(a b:Int)(c d:List UInt8)(e:Int)(f:List (V × V))(g h:List V): S:=⟨[aL 0 0 0,aC aB a,aC aB b,aG c,aG d,aC aB e]++(JU 6)++[aW aE]++(JU 65),[aM 144 (aI [dJ 1,bl 4 0,bl 5 0]) aE,dI f,gU,gU,aN 3 g 0,aN 9 h 0]⟩
def Y5 (a b:Int) (c d:List UInt8) (e:Int) (f:List (V × V)) (g h:List V): R :=
 aA (.head 0 (MX a b c d e f g h))
def Ow(a b c d e f g h): Ec 132 4 ⟨aD,aE,aD,[3,9]⟩ [aL 0 0 0,aC aB a,aC aB b,aG c,aG d,aC aB e] (fm f g h) (Y5 a b c d e f g h):=ec
def Bz (a d:Int) (e f:List UInt8) (g:Int) (h:List (V × V)) (b c:List V): R :=
 cond (decide ((b.length:Int)<=a))
 (gd (decide (b.length+([aC aB (W aB (d+1))]:List V).length<=16777216)) <|
  gd (decide (c.length+([aG e]:List V).length<=16777216)) <|
  aA (.head 0 (Cx a d e f g h (b++[aC aB (W aB (d+1))]) (c++[aG e]))))
 (gd (decide (0<=a)) <|
  gd (decide (a.toNat < b.length)) <|
  bk b (0+a.toNat) λi =>
  kI aB i λj =>
  cond (j==(W aB (d+1)))
 (gd (decide (0<=a)) <|
  gd (decide (a.toNat < c.length)) <|
  bk c (0+a.toNat) λk =>
  kS k λl =>
  gd (decide (0<=a)) <|
  gd (decide (a.toNat < b.length)) <|
  bk b (0+a.toNat) λm =>
  kI aB m λq =>
  gd (decide (0<=a)) <|
  gd (decide (a.toNat < c.length)) <|
  bk c (0+a.toNat) λn =>
  kS n λr =>
  aA (.doneM (aW (l==e)) (fm h (((b).set (0+a.toNat) (aC aB g))) (((c).set (0+a.toNat) (aG f))))))
 (gd (decide (0<=a)) <|
  gd (decide (a.toNat < b.length)) <|
  bk b (0+a.toNat) λo =>
  kI aB o λs =>
  gd (decide (0<=a)) <|
  gd (decide (a.toNat < c.length)) <|
  bk c (0+a.toNat) λp =>
  kS p λt =>
  aA (.doneM (aW aE) (fm h (((b).set (0+a.toNat) (aC aB g))) (((c).set (0+a.toNat) (aG f)))))))
def Uc(a b c d e f g h): Rd aD 4 132 0 (MX a b c d e f g h) (Bz a b c d e f g h):=rd
def KQ (a d:Int) (e f:List UInt8) (g:Int) (h:List (V × V)) (b c:List V): R :=
 cond (decide ((b.length:Int)<=a))
 (gd (decide (b.length+([aC aB (W aB (d+1))]:List V).length<=16777216)) <|
  gd (decide (c.length+([aG e]:List V).length<=16777216)) <|
  aA (.head 0 (Cx a d e f g h (b++[aC aB (W aB (d+1))]) (c++[aG e]))))
 (gd (decide (0<=a)) <|
  gd (decide (a.toNat < b.length)) <|
  bk b (0+a.toNat) λi =>
  kI aB i λj =>
  cond (j==(W aB (d+1)))
 (gd (decide (0<=a)) <|
  gd (decide (a.toNat < c.length)) <|
  bk c (0+a.toNat) λk =>
  kS k λl =>
  gd (decide (0<=a)) <|
  gd (decide (a.toNat < b.length)) <|
  bk b (0+a.toNat) λm =>
  kI aB m λq =>
  gd (decide (0<=a)) <|
  gd (decide (a.toNat < c.length)) <|
  bk c (0+a.toNat) λn =>
  kS n λr =>
  aA (.doneM (aW (l==e)) [aM 144 (aI [dJ 1,bl 4 0,bl 5 0]) aE,dI h,gU,gU,aN 3 ((b).set (0+a.toNat) (aC aB g)) 0,aN 9 ((c).set (0+a.toNat) (aG f)) 0]))
 (gd (decide (0<=a)) <|
  gd (decide (a.toNat < b.length)) <|
  bk b (0+a.toNat) λo =>
  kI aB o λs =>
  gd (decide (0<=a)) <|
  gd (decide (a.toNat < c.length)) <|
  bk c (0+a.toNat) λp =>
  kS p λt =>
  aA (.doneM (aW aE) [aM 144 (aI [dJ 1,bl 4 0,bl 5 0]) aE,dI h,gU,gU,aN 3 ((b).set (0+a.toNat) (aC aB g)) 0,aN 9 ((c).set (0+a.toNat) (aG f)) 0])))
def ag9(a b c d e f g h): Rd aD 4 132 0 (Cx a b c d e f g h) (KQ a b c d e f g h):=rd
def Oy (a:Int) (b:List V): R :=
 cond (decide (a ≥ 0))
 (cond (!(decide (a < (b.length:Int))))
 (aA (.doneM (aC aB 1) (rb b)))
 (gd (decide (0<=a)) <|
  gd (decide (a.toNat < b.length)) <|
  bk b (0+a.toNat) λc =>
  kB c λd =>
  cond d
 (aA (.doneM (aC aB 8) (rb b)))
 (gd (decide (0<=a)) <|
  gd (decide (a.toNat < b.length)) <|
  bk b (0+a.toNat) λe =>
  kB e λf =>
  aA (.doneM (aC aB 0) (rb (((b).set (0+a.toNat) (aW aD))))))))
 (aA (.doneM (aC aB 1) (rb b)))
def Y8(a b): Ec 142 2 aU [aL 0 0 0,aC aB a] (rb b) (Oy a b):=ec
def Oz (b:Int) (a:List V): R :=
 cond (decide (b ≥ 0))
 (cond (decide (b < (a.length:Int)))
 (gd (decide (0<=b)) <|
  gd (decide (b.toNat < a.length)) <|
  bk a (0+b.toNat) λc =>
  kB c λd =>
  aA (.doneM (aW d) (rb a)))
 (aA (.doneM (aW aE) (rb a))))
 (aA (.doneM (aW aE) (rb a)))
def Y9(a b): Ec 143 2 aU [aL 0 0 0,aC aB a] (rb b) (Oz a b):=ec
def Co(a:List UInt8)(b:Bool)(c:Int)(d e f g h:List V)(i:List UInt8)(j:Int): S:=⟨[aL 0 0 0,aG a,bj,bj,dD 5,dD 6,aL 7 0 0,aW b]++(JU 49),(rm c d e++[aN 3 [] 0,aN 3 f 0,aM 152 (aI [aH g,aH h,aG i,aC aB j]) aE])⟩
def Ob (e:List UInt8) (a:Int) (c d:List V): R :=
 cJ aJ aU jQ 95 [aL 0 0 0,aC aB a] (rm a c d) λb =>
 cd (rm a c d++[aN 3 [] 0,aN 3 [aC aB a] 0]) <|
 aA (.head 0 (Co e b.2.2.2.2 a c d [aC aB a] b.1 b.2.1 b.2.2.1 b.2.2.2.1))
def Yx(a b c d): Ec 103 5 aU [aL 0 0 0,aG a] (rm b c d) (Ob a b c d):=ec
def TX (l:List UInt8) (m:Bool) (b:Int) (c d e g a:List V) (h:List UInt8) (i:Int): R :=
 cond m
 (aT aJ 145 [aI [aH g,aH a,aG h,aC aB i],aG l] λn =>
  uT n λj o =>
  cond (o != (0:Int))
 (aA (.doneM (dD 5) (rm b c d++[aN 3 e 0,aM 152 (aI [aH g,aH a,aG h,aC aB i]) aE])))
 (gd (decide (0<=j)) <|
  bk a j.toNat λp =>
  kI aB p λk =>
  gd (decide (e.length+([aC aB k]:List V).length<=16777216)) <|
  gd (decide (0<=j)) <|
  bk a j.toNat λq =>
  kI aB q λr =>
  cJ aJ aU jQ 95 [aL 0 0 0,aC aB r] (rm b c d) λf =>
  cd (rm b c d++[aN 3 [] 0,gU,aM 152 (aI [aH g,aH a,aG h,aC aB i]) aE,aN 3 [aC aB k] 0,aN 3 (e++[aC aB k]) 0]) <|
  aA (.head 0 (Co l f.2.2.2.2 b c d (e++[aC aB k]) f.1 f.2.1 f.2.2.1 f.2.2.2.1))))
 (aA (.doneM (dD 6) (rm b c d++[aN 3 [] 0,aN 3 e 0,aM 152 (aI [aH g,aH a,aG h,aC aB i]) aE])))
def TY(a b c d e f g h i j): Rd aD 5 103 0 (Co a b c d e f g h i j) (TX a b c d e f g h i j):=rd
def Hn (h f:Int) (d e:List V): R :=
 cJ aJ aU tL 94 [aL 0 0 0,aC aB h] (rs d e) λg =>
 cd (rm f d e++[aN 41 [] 0,aM 108 (aI [bl 5 0,aG [],aC aB 0]) aE]) <|
 aT aJ 146 [aG g.1] λi =>
 qJ i λa b c j =>
 cond (g.2==(0:Int))
 (aA (.doneM (aV [aI [aH a,aG b,aC aB c],aW (j==(0:Int))]) (rm f d e++[aN 41 [] 0,aM 108 (aI [aH a,aG b,aC aB c]) aE,aN 41 [] 0,aM 108 (aI [aH a,aG b,aC aB c]) aE])))
 (aA (.doneM (aV [aI [aH a,aG b,aC aB c],aW aE]) (rm f d e++[aN 41 [] 0,aM 108 (aI [aH a,aG b,aC aB c]) aE,aN 41 [] 0,aM 108 (aI [aH a,aG b,aC aB c]) aE])))
def Oc(a b c d): Ec 104 5 aU [aL 0 0 0,aC aB a] (rm b c d) (Hn a b c d):=ec
def Od (a b:List V): R :=
 cJ aJ aU vP 93 [aL 0 0 0] (rb b) λc =>
 cd (rs a b) <|
 aA (.doneM (aC aB (W aB ((a.length:Int) - (c.length:Int)))) (rs a b))
def YC(a b): Ec 107 4 aU [aL 0 0 0] (rs a b) (Od a b):=ec
def Cr(a:List V)(b c:Int)(d:List UInt8)(e:Int)(f g h i:List V)(j:List UInt8)(k:Int)(l m:List V)(n:List UInt8)(o:Int): S:=⟨[aL 0 0 0,aH a]++(JU 10)++[aC aB b]++(JU 4)++[aC aB c,bj,aL 5 0 0,aL 6 0 0,aG d]++(JU 123),(rm e f g++[aM 152 (aI [aH h,aH i,aG j,aC aB k]) aE,aM 152 (aI [aH l,aH m,aG n,aC aB o]) aE])⟩
def Du (c:List V) (d:List UInt8) (z h e:Int) (f g:List V): R :=
 cond ((c.length:Int)==(0:Int))
 (bV aJ aU re 60 [aL 0 0 0] (rs f g) λi =>
  aT aJ 148 [aI [aH [aG d],aH [aC aB z,aC aB h],aG [],aC aB 0]] λaa =>
  kS aa λab =>
  bV aJ aU jg 61 [aL 0 0 0,aC aB i.1,aG ab] (rs i.2.2.1 i.2.2.2) λl =>
  aA (.doneM (aV []) (rm i.1 l.2.1 l.2.2)))
 (gd (decide (0<=W aB ((c.length:Int) - 1))) <|
  bk c ((W aB ((c.length:Int) - 1)).toNat) λac =>
  kI aB ac λj =>
  cJ aJ aU jQ 95 [aL 0 0 0,aC aB j] (rm e f g) λa =>
  cd (rm e f g) <|
  aT aJ 149 [aI [aH a.1,aH a.2.1,aG a.2.2.1,aC aB a.2.2.2.1],aG d,aC aB h] λad =>
  sQ ad λm n o p ae =>
  cond (ae==(0:Int))
 (aT aJ 148 [aI [aH m,aH n,aG o,aC aB p]] λaf =>
  kS af λag =>
  bV aJ aU jg 61 [aL 0 0 0,aC aB j,aG ag] (rs f g) λq =>
  aA (.doneM (aV []) (rm e q.2.1 q.2.2++[aN 9 [] 0,aN 3 [] 0,aM 152 (aI [aH a.1,aH a.2.1,aG a.2.2.1,aC aB a.2.2.2.1]) aE,aN 9 [] 0,aN 3 [] 0,aM 152 (aI [aH m,aH n,aG o,aC aB p]) aE])))
 (bV aJ aU re 60 [aL 0 0 0] (rs f g) λb =>
  aT aJ 150 [aI [aH a.1,aH a.2.1,aG a.2.2.1,aC aB a.2.2.2.1],aC aB b.1] λah =>
  Di ah λr s t u v w x y k aw =>
  aT aJ 35 [aG d,aG k] λai =>
  kB ai λaj =>
  cond aj
 (aT aJ 149 [aI [aH r,aH s,aG t,aC aB u],aG d,aC aB h] λak =>
  sQ ak λal am an ao ax =>
  aA (.head 0 (Cr c j b.1 k e b.2.2.1 b.2.2.2 al am an ao v w x y)))
 (aT aJ 149 [aI [aH v,aH w,aG x,aC aB y],aG d,aC aB h] λap =>
  sQ ap λaq ar au av ay =>
  aA (.head 0 (Cr c j b.1 k e b.2.2.1 b.2.2.2 r s t u aq ar au av)))))
def Hp(a b c d e f g): Ec 109 5 aU [aL 0 0 0,aH a,aG b,aC aB c,aC aB d] (rm e f g) (Du a b c d e f g):=ec
def KA (a:List V) (c d:Int) (o:List UInt8) (p:Int) (q r e f:List V) (g:List UInt8) (h:Int) (i j:List V) (k:List UInt8) (l:Int): R :=
 aT aJ 148 [aI [aH e,aH f,aG g,aC aB h]] λs =>
 kS s λt =>
 bV aJ aU jg 61 [aL 0 0 0,aC aB c,aG t] (rs q r) λm =>
 aT aJ 148 [aI [aH i,aH j,aG k,aC aB l]] λu =>
 kS u λv =>
 bV aJ aU jg 61 [aL 0 0 0,aC aB d,aG v] (rs m.2.1 m.2.2) λn =>
 gd (cC 1 a) <|
 gd (decide (0<=W aB ((a.length:Int) - 1))) <|
 gd (decide ((W aB ((a.length:Int) - 1)).toNat<=a.length)) <|
 bV aJ aU xW 109 [aL 0 0 0,aH (a.take ((W aB ((a.length:Int) - 1)).toNat)),aG o,aC aB c,aC aB d] (rm p n.2.1 n.2.2) λb =>
 aA (.doneM (aV []) (rm b.1 b.2.1 b.2.2++[aM 152 (aI [aH e,aH f,aG g,aC aB h]) aE,aM 152 (aI [aH i,aH j,aG k,aC aB l]) aE]))
theorem ag8(a b c d e f g h i j k l m n o): Rd aD 5 109 0 (Cr a b c d e f g h i j k l m n o) (KA a b c d e f g h i j k l m n o):=rd
def zy(a:List V)(b c:Int)(d e f g:List V)(h:List UInt8)(i:Int): S:=⟨[aL 0 0 0,aH a,bj,bj,aC aB b,aL 5 0 0]++(JU 153),(rm c d e++[aM 152 (aI [aH f,aH g,aG h,aC aB i]) aE])⟩
def Cs(a:List V)(b c d:Int)(e f g h:List V)(i:List UInt8)(j:Int): S:=⟨[aL 0 0 0,aH a,bj,bj,aC aB b,aL 5 0 0,bj,bj,bj,aC aB c]++(JU 149),(rm d e f++[aM 152 (aI [aH g,aH h,aG i,aC aB j]) aE])⟩
def m7(a:List V)(b c:Int)(d:List V)(e f:Int)(g h i j:List V)(k:List UInt8)(l:Int): S:=⟨[aL 0 0 0,aH a,bj,bj,aC aB b,aL 5 0 0,bj,bj,bj,aC aB c,aH d,aC aB e]++(JU 147),(rm f g h++[aM 152 (aI [aH i,aH j,aG k,aC aB l]) aE])⟩
def wU(a:List V)(b c:Int)(d e:List V): S:=⟨[aL 0 0 0,aH a]++(JU 12)++[aC aB b]++(JU 144),(rm c d e)⟩
def Ct(a:Bool)(b:Int)(c d e f:List V)(g:List UInt8)(h:Int): S:=⟨[aL 0 0 0]++(JU 14)++[aL 5 0 0,aW a]++(JU 142),(rm b c d++[aM 152 (aI [aH e,aH f,aG g,aC aB h]) aE])⟩
def Of (a:List V) (c:Int) (d e:List V): R :=
 gd (decide (0<=W aB ((a.length:Int) - 2))) <|
 bk a ((W aB ((a.length:Int) - 2)).toNat) λf =>
 kI aB f λg =>
 cJ aJ aU jQ 95 [aL 0 0 0,aC aB g] (rm c d e) λb =>
 cd (rm c d e) <|
 aA (.head 0 (zy a (W aB ((a.length:Int) - 2)) c d e b.1 b.2.1 b.2.2.1 b.2.2.2.1))
def YG(a b c d): Ec 111 5 aU [aL 0 0 0,aH a] (rm b c d) (Of a b c d):=ec
def KB (f:List V) (a b:Int) (c d h g:List V) (i:List UInt8) (j:Int): R :=
 cond ((g.length:Int)==(1:Int))
 (gd (decide (0<=W aB (a - 1))) <|
  bk f ((W aB (a - 1)).toNat) λk =>
  kI aB k λl =>
  cJ aJ aU jQ 95 [aL 0 0 0,aC aB l] (rm b c d) λe =>
  cd (rm b c d++[aM 152 (aI [aH h,aH g,aG i,aC aB j]) aE]) <|
  aA (.head 0 (zy f (W aB (a - 1)) b c d e.1 e.2.1 e.2.2.1 e.2.2.2.1)))
 (aA (.head 1 (Cs f a 0 b c d h g i j)))
def T3(a b c d e f g h i): Rd aD 5 111 0 (zy a b c d e f g h i) (KB a b c d e f g h i):=rd
def KD (g:List V) (a b c:Int) (d e h f:List V) (i:List UInt8) (j:Int): R :=
 gd (decide (0<=b)) <|
 bk f b.toNat λk =>
 kI aB k λl =>
 gd (decide (0<=W aB (a+1))) <|
 bk g ((W aB (a+1)).toNat) λm =>
 kI aB m λn =>
 cond (l != n)
 (aA (.head 1 (Cs g a (W aB (b+1)) c d e h f i j)))
 (cJ aJ aU pM 56 [aL 0 0 0] (rm c d e) λo =>
  cd (rm c d e++[aM 152 (aI [aH h,aH f,aG i,aC aB j]) aE]) <|
  aA (.head 2 (m7 g a b o (W aB (a+1)) c d e h f i j)))
def T4(a b c d e f g h i j): Rd aD 5 111 1 (Cs a b c d e f g h i j) (KD a b c d e f g h i j):=rd
def Bu (b:List V) (c d:Int) (f:List V) (a g:Int) (h i j k:List V) (l:List UInt8) (m:Int): R :=
 cond (decide (a < (b.length:Int)))
 (gd (decide (0<=a)) <|
  bk f a.toNat λo =>
  kL o λp =>
  gd (decide (0<=a)) <|
  bk b a.toNat λq =>
  kI aB q λr =>
  bV aJ aU tF 151 [aL 0 0 0,aH p,aC aB r,aW (decide (d > 0))] (rm g h i) λe =>
  aA (.head 2 (m7 b c d f (W aB (a+1)) e.1 e.2.1 e.2.2 j k l m)))
 (aT aJ 152 [aI [aH j,aH k,aG l,aC aB m],aC aB d] λs =>
  sQ s λt u v w ab =>
  gd (decide (0<=c)) <|
  bk b c.toNat λx =>
  kI aB x λy =>
  aT aJ 148 [aI [aH t,aH u,aG v,aC aB w]] λz =>
  kS z λaa =>
  bV aJ aU jg 61 [aL 0 0 0,aC aB y,aG aa] (rs h i) λn =>
  aA (.head 3 (wU b (W aB (c+1)) g n.2.1 n.2.2)))
def Fi(a b c d e f g h i j k l): Rd aD 5 111 2 (m7 a b c d e f g h i j k l) (Bu a b c d e f g h i j k l):=rd
def KE (f:List V) (c a:Int) (d e:List V): R :=
 cond (decide (c < (f.length:Int)))
 (gd (decide (0<=c)) <|
  bk f c.toNat λh =>
  kI aB h λi =>
  bV aJ aU yc 153 [aL 0 0 0,aC aB i] (rs d e) λg =>
  aA (.head 3 (wU f (W aB (c+1)) a g.2.1 g.2.2)))
 (cJ aJ aU jQ 95 [aL 0 0 0,aC aB a] (rm a d e) λb =>
  cd (rm a d e) <|
  aA (.head 4 (Ct b.2.2.2.2 a d e b.1 b.2.1 b.2.2.1 b.2.2.2.1)))
def T5(a b c d e): Rd aD 5 111 3 (wU a b c d e) (KE a b c d e):=rd
def Fj (k:Bool) (e:Int) (f g h b:List V) (i:List UInt8) (j:Int): R :=
 cond k
 (cond ((b.length:Int)==(1:Int))
 (bV aJ aU yc 153 [aL 0 0 0,aC aB e] (rs f g) λa =>
  bk b 0 λl =>
  kI aB l λd =>
  cJ aJ aU jQ 95 [aL 0 0 0,aC aB d] (rm d a.2.1 a.2.2) λc =>
  cd (rm d a.2.1 a.2.2++[aM 152 (aI [aH h,aH b,aG i,aC aB j]) aE]) <|
  aA (.head 4 (Ct c.2.2.2.2 d a.2.1 a.2.2 c.1 c.2.1 c.2.2.1 c.2.2.2.1)))
 (aA (.doneM (aV []) (rm e f g++[aM 152 (aI [aH h,aH b,aG i,aC aB j]) aE]))))
 (aA (.doneM (aV []) (rm e f g++[aM 152 (aI [aH h,aH b,aG i,aC aB j]) aE])))
def KF(a b c d e f g h): Rd aD 5 111 4 (Ct a b c d e f g h) (Fj a b c d e f g h):=rd
def CO(a:List V)(b c:Int)(d e f:List V): S:=⟨[aL 0 0 0,bj,dD 5,dD 6,aH a,aC aB b]++(JU 25),(rm c d e++[aN 41 [] 0,aN 41 f 0])⟩
def Pb (a:Int) (b c:List V): R :=
 cJ aJ aU vK 55 [aL 0 0 0] (rm a b c) λd =>
 cd (rm a b c++[aN 41 [] 0,aN 41 [] 0]) <|
 aA (.head 0 (CO d 0 a b c []))
def aaD(a b c): Ec 67 5 aU [aL 0 0 0] (rm a b c) (Pb a b c):=ec
def Lp (f:List V) (a b:Int) (c d e:List V): R :=
 cond (decide (a < (f.length:Int)))
 (gd (decide (0<=a)) <|
  bk f a.toNat λh =>
  kI aB h λi =>
  cJ aJ aU nJ 104 [aL 0 0 0,aC aB i] (rm b c d) λg =>
  cd (rm b c d++[aN 41 [] 0,aN 41 e 0]) <|
  gd (cC 2 g.1) <|
  gd (decide (e.length+g.1.length<=16777216)) <|
  aA (.head 0 (CO f (W aB (a+1)) b c d (e++g.1))))
 (aA (.doneM (dD 6) (rm b c d++[aN 41 [] 0,aN 41 e 0])))
def UH(a b c d e f): Rd aD 5 67 0 (CO a b c d e f) (Lp a b c d e f):=rd
def zK(a b:Int)(c:List V): S:=⟨[dD 0,bj,aC aB a,aC aB b]++(JU 24),[aN 3 c 0]⟩
def OJ (a:List V): R :=
 aA (.head 0 (zK 0 (W aB ((a.length:Int) - 1)) a))
def ZE(a): Ec 169 1 aU [dD 0] [aN 3 a 0] (OJ a):=ec
def K3 (a c:Int) (b:List V): R :=
 cond (decide (a < c))
 (gd (decide (0<=c)) <|
  gd (decide (c.toNat < b.length)) <|
  bk b c.toNat λe =>
  kI aB e λd =>
  gd (decide (0<=a)) <|
  gd (decide (a.toNat < b.length)) <|
  bk b a.toNat λf =>
  kI aB f λg =>
  gd (decide (0<=a)) <|
  gd (decide (a.toNat < b.length)) <|
  bk b a.toNat λh =>
  kI aB h λj =>
  gd (decide (0<=c)) <|
  gd (decide (c.toNat < ((b).set a.toNat (aC aB d)).length)) <|
  bk ((b).set a.toNat (aC aB d)) c.toNat λi =>
  kI aB i λk =>
  aA (.head 0 (zK (W aB (a+1)) (W aB (c - 1)) (((b).set a.toNat (aC aB d)).set c.toNat (aC aB g)))))
 (aA (.doneM (aV []) [aN 3 b 0]))
def Uk(a b c): Rd aD 1 169 0 (zK a b c) (K3 a b c):=rd
def OK (a c:Int) (b:List V): R :=
 cond (decide (a ≥ 0))
 (cond (!(decide (a < c)))
 (aA (.doneM (aC aB 1) (bm c b)))
 (cJ aJ aU qZ 137 [aL 0 0 0,aC aB a] (bm c b) λd =>
  cd (bm c b) <|
  cond (!d)
 (aA (.doneM (aC aB 7) (bm c b)))
 (gd (decide (0<=W aB ((a.tdiv 8)))) <|
  gd (decide ((W aB ((a.tdiv 8))).toNat < b.length)) <|
  bk b (0+((W aB ((a.tdiv 8))).toNat)) λe =>
  kI bK e λf =>
  aT aJ 193 [aC aB a] λg =>
  kI bK g λh =>
  gd (decide (0<=W aB ((a.tdiv 8)))) <|
  gd (decide ((W aB ((a.tdiv 8))).toNat < b.length)) <|
  bk b (0+((W aB ((a.tdiv 8))).toNat)) λi =>
  kI bK i λj =>
  aA (.doneM (aC aB 0) (bm c (((b).set (0+((W aB ((a.tdiv 8))).toNat)) (aC bK (W bK (((BitVec.ofInt (bJ bK) f &&& ~~~(BitVec.ofInt (bJ bK) h)).toNat:Int)))))))))))
 (aA (.doneM (aC aB 1) (bm c b)))
def ZF(a b c): Ec 174 2 aU [aL 0 0 0,aC aB a] (bm b c) (OK a b c):=ec
def mB(a:List V)(b:Int)(c:Bool)(d e:Int)(f g:List V): S:=⟨[aL 0 0 0,aH a,aC aB b,aW c]++(JU 4)++[aC aB d]++(JU 91),(rm e f g)⟩
def Zj (a:List V) (b:Int) (c:Bool) (d:Int) (e f:List V): R :=
 aA (.head 0 (mB a b c 1 d e f))
def OD(a b c d e f): Ec 151 5 aU [aL 0 0 0,aH a,aC aB b,aW c] (rm d e f) (Zj a b c d e f):=ec
def yL (e:List V) (i:Int) (j:Bool) (a b:Int) (c d:List V): R :=
 cond (decide (a < (e.length:Int)))
 (gd (decide (0<=a)) <|
  bk e a.toNat λp =>
  kI aB p λq =>
  cond (q != i)
 (aA (.head 0 (mB e i j (W aB (a+1)) b c d)))
 (gd (decide (0<=W aB (a - 1))) <|
  bk e ((W aB (a - 1)).toNat) λr =>
  kI aB r λs =>
  cJ aJ aU nJ 104 [aL 0 0 0,aC aB s] (rm b c d) λf =>
  cd (rm b c d) <|
  cJ aJ aU nJ 104 [aL 0 0 0,aC aB i] (rm b c d) λg =>
  cd (rm b c d++[aN 41 [] 0,aM 108 (aI [aH f.1,aG f.2.1,aC aB f.2.2.1]) aE]) <|
  gd (decide (0<=W aB (a - 1))) <|
  bk e ((W aB (a - 1)).toNat) λt =>
  kI aB t λu =>
  cJ aJ aU jQ 95 [aL 0 0 0,aC aB u] (rm b c d) λh =>
  cd (rm b c d++[aN 41 [] 0,aM 108 (aI [aH f.1,aG f.2.1,aC aB f.2.2.1]) aE,aN 41 [] 0,aM 108 (aI [aH g.1,aG g.2.1,aC aB g.2.2.1]) aE]) <|
  cJ aJ aU jQ 95 [aL 0 0 0,aC aB i] (rm b c d) λk =>
  cd (rm b c d++[aN 41 [] 0,aM 108 (aI [aH f.1,aG f.2.1,aC aB f.2.2.1]) aE,aN 41 [] 0,aM 108 (aI [aH g.1,aG g.2.1,aC aB g.2.2.1]) aE,aN 9 [] 0,aN 3 [] 0,aM 152 (aI [aH h.1,aH h.2.1,aG h.2.2.1,aC aB h.2.2.2.1]) aE]) <|
  cond f.2.2.2
 (cond j
 (gd (decide (0<=W aB (a - 1))) <|
  bk e ((W aB (a - 1)).toNat) λv =>
  kI aB v λw =>
  aT aJ 62 [aI [aH f.1,aG g.2.1,aC aB g.2.2.1]] λx =>
  kS x λy =>
  bV aJ aU jg 61 [aL 0 0 0,aC aB w,aG y] (rs c d) λl =>
  aA (.head 0 (mB e i j (W aB (a+1)) b l.2.1 l.2.2)))
 (gd (decide (0<=W aB (a - 1))) <|
  bk e ((W aB (a - 1)).toNat) λz =>
  kI aB z λaa =>
  aT aJ 62 [aI [aH f.1,aG f.2.1,aC aB g.2.2.1]] λab =>
  kS ab λac =>
  bV aJ aU jg 61 [aL 0 0 0,aC aB aa,aG ac] (rs c d) λm =>
  aA (.head 0 (mB e i j (W aB (a+1)) b m.2.1 m.2.2))))
 (cond j
 (gd (decide (0<=W aB (a - 1))) <|
  bk e ((W aB (a - 1)).toNat) λad =>
  kI aB ad λae =>
  aT aJ 148 [aI [aH h.1,aH h.2.1,aG k.2.2.1,aC aB k.2.2.2.1]] λaf =>
  kS af λag =>
  bV aJ aU jg 61 [aL 0 0 0,aC aB ae,aG ag] (rs c d) λn =>
  aA (.head 0 (mB e i j (W aB (a+1)) b n.2.1 n.2.2)))
 (gd (decide (0<=W aB (a - 1))) <|
  bk e ((W aB (a - 1)).toNat) λah =>
  kI aB ah λai =>
  aT aJ 148 [aI [aH h.1,aH h.2.1,aG h.2.2.1,aC aB k.2.2.2.1]] λaj =>
  kS aj λak =>
  bV aJ aU jg 61 [aL 0 0 0,aC aB ai,aG ak] (rs c d) λo =>
  aA (.head 0 (mB e i j (W aB (a+1)) b o.2.1 o.2.2))))))
 (aA (.doneM (aV []) (rm b c d)))
def KX(a b c d e f g): Rd aD 5 151 0 (mB a b c d e f g) (yL a b c d e f g):=rd
def OE (b:Int) (c d:List V): R :=
 bV aJ aU AS 202 [aL 0 0 0,aC aB b] (rb d) λa =>
 aA (.doneM (aC aB a.1) (rs c a.2))
def Zm(a b c): Ec 153 4 aU [aL 0 0 0,aC aB a] (rs b c) (OE a b c):=ec
def OQ (a:Int) (b:List V): R :=
 cond (decide (a ≥ 0))
 (cond (!(decide (a < (b.length:Int))))
 (aA (.doneM (aC aB 1) (rb b)))
 (gd (decide (0<=a)) <|
  gd (decide (a.toNat < b.length)) <|
  bk b (0+a.toNat) λc =>
  kB c λd =>
  cond (!d)
 (aA (.doneM (aC aB 7) (rb b)))
 (gd (decide (0<=a)) <|
  gd (decide (a.toNat < b.length)) <|
  bk b (0+a.toNat) λe =>
  kB e λf =>
  aA (.doneM (aC aB 0) (rb (((b).set (0+a.toNat) (aW aE))))))))
 (aA (.doneM (aC aB 1) (rb b)))
def ZY(a b): Ec 202 2 aU [aL 0 0 0,aC aB a] (rb b) (OQ a b):=ec
set_option linter.unusedSimpArgs false
abbrev dS(s:Bs):Prop:=s.length < 4294967296
def A9(s:Bs)(n:Int):Int:=if 0<=n/\n<=(s.length:Int) then 0 else 1
def kp(s:Bs)(n size:Int):Int:=if size < 1∨8 < size∨¬(0<=n/\n<=(s.length:Int)) then 1 else if (s.length:Int) - n < size then 3 else 0
def Kp{s n size}(h:kp s n size=0):1<=size/\size<=8/\0<=n/\n+size<=s.length:=by
 unfold kp at h;grind
def yD{s n size}(h1:1<=size)(h2:size<=8)(h3:0<=n)(h4:n+size<=(s.length:Int)):kp s n size=0:=by
 unfold kp;grind
def JP(s:Bs) n:bP aJ 113 [.str s,.int aB n]=aA (.int aB (A9 s n)):=by
 refine YH _ _ ?_;unfold Hr A9;grind
def Bn s n size (hs:dS s):bP aJ 208 [.str s,.int aB n,.int aB size]=aA (.int aB (kp s n size)):=by
 refine aab _ _ _ ?_;unfold HY kp;rw[aQ (JP s n),bL]
 by_cases h1:size < 1
 ·grind
 by_cases h2:size > 8
 ·grind
 unfold A9
 by_cases h3:0<=n/\n<=(s.length)
 ·rw[bc h3,bd (by omega)];grind
 grind
def eY(s:Bs)(n size:Int):Int × Int:=if kp s n size=0 then (((dY ((s.drop n.toNat).take size.toNat):Nat):Int),0) else (0,kp s n size)
def ab2(s:Bs)(n k:Nat)(hk:k<=8)(hl:n+k<=s.length)(hs:dS s):∀d i,i+d=k ->
  Go qk aE 0 (fF 214) (.head 0 (wZ s (n:Int) ((dY ((s.drop n).take i):Nat):Int) (k:Int) (i:Int))) (.done (.tup [.int b9 ((dY ((s.drop n).take k):Nat):Int),.int aB 0])):=by
 intro d
 induction d with
 |zero =>
  intro i hi;have:i=k:=by omega
  refine Uv _ _ _ _ _ ?_ (.refl _);unfold Lb;grind
 |succ d ih =>
  intro i hi;have bf:n+i < s.length:=by omega
  obtain⟨c,hc⟩:∃c,s[n+i]? = aA c:=⟨_,cI bf⟩
  have hlen:((s.drop n).take i).length=i:=by simp;omega
  have e1:(s.drop n).take (i+1)=(s.drop n).take i++[c]:=by
   rw[MJ,i6,hc];rfl
  have hx:dY ((s.drop n).take i) < 256 ^ i:=by have:=BQ ((s.drop n).take i);grind
  refine Uv _ _ _ _ _ (o:=.head 0 (wZ s (n:Int) ((dY ((s.drop n).take (i+1)):Nat):Int) (k:Int) ((i+1:Nat):Int))) ?_ (ih (i+1) (by omega));unfold Lb;have w1:W aB ((n:Int)+(i:Int))=((n+i:Nat):Int):=by rw[bd (by omega)];omega
  have w2:W aB (8 * (i:Int))=8 * (i:Int):=bd (by omega);have w3:W aB ((i:Int)+1)=((i+1:Nat):Int):=by rw[bd (by omega)];omega
  rw[aZ (by omega),bn,w1,aS (by grind),bq,cM hc,ae1 hx c.toNat_lt (by omega),w2,aS (by grind),w3,e1,VN,hlen]
def ab4 s n size (hs:dS s):bP aJ 214 [.str s,.int aB n,.int aB size]=aA (.tup [.int b9 (eY s n size).1,.int aB (eY s n size).2]):=by
 by_cases h:kp s n size=0
 ·obtain⟨h1,h2,h3,h4⟩:=Kp h;obtain⟨k,rfl⟩:∃k:Nat,size=k:=⟨size.toNat,by omega⟩
  obtain⟨m,rfl⟩:∃m:Nat,n=m:=⟨n.toNat,by omega⟩
  have hl:=ab2 s m k (by omega) (by omega) hs k 0 (by omega);refine OS _ _ _ ?_ (o:=.head 0 (wZ s m 0 k 0)) ?_
  ·unfold HZ;rw[aQ (Bn s _ _ hs),h];rfl
  ·unfold eY;rw[bc h];simpa[dY]using hl
 ·refine OS _ _ _ ?_ (.refl _);unfold HZ eY;rw[aQ (Bn s _ _ hs),bL,bh h,jz h];rfl
def vZ(s:Bs)(n size:Int)(x:Nat):Bs × Int:=if kp s n size=0 then (if x < 256 ^ size.toNat then (rl s n.toNat (cW size.toNat x),0) else ([],2)) else ([],kp s n size)
def ae6{av v}(h:yo av=aA v):bP aJ 209 av=aA v:=ET (g:=yo) rfl h
def Ss(s:Bs) n (t:Bs) (h:n+t.length<=s.length) l ns (hl:iv l=aA ns) (ht:(ns.map λx=>UInt8.ofNat x.toNat)=t) :
  bP aJ 209 [.str s,.int aB n,.sl l]=aA (.str (rl s n t)):=by
 apply ae6;have e:l.length=t.length:=by rw[<-ht,gm,(JD hl).1]
 simp[yo];grind
def putRow(x k i:Nat):List V:=(cW i x).map (λb=>aC bK (b.toNat:Int))++cA (k - i) (aC bK 0)
def ajP{x k i}(h:i<=k):(putRow x k i).length=k:=by simp[putRow,eK];omega
def afz{x k i}(h:i < k):(putRow x k i).set i (aC bK (x / 256 ^ i % 256:Nat))=putRow x k (i+1):=by
 unfold putRow;rw[MI _ _ (by simp[eK])];simp[gm,eK,nS];rw[show k - i=k - (i+1)+1 by omega,List.replicate_succ,QZ,li];simp_all
def afC(s:Bs)(n k x:Nat)(hk:k<=8)(h1:1<=k)(hl:n+k<=s.length)(hs:dS s):∀d i,i+d=k ->
  Go qk aE 0 (fF 161) (.head 0 (uJ s (n:Int) (x:Int) (k:Int) (i:Int) (putRow x k i))) (.done (.tup [.str (rl s n (cW k x)),.int aB 0])):=by
 intro d
 induction d with
 |zero =>
  intro i hi;have:i=k:=by omega
  subst this;refine Ui _ _ _ _ _ _ ?_ (.refl _);unfold K1;have hrow:putRow x i i=fj (cW i x):=by simp[putRow,fj]
  rw[bF (by omega),be,aQ (Ss s n (cW i x) (by rw[eK];grind) _ _ (by rw[hrow];exact EI _) (EJ _)),de]
 |succ d ih =>
  intro i hi;refine Ui _ _ _ _ _ _ (o:=.head 0 (uJ s (n:Int) (x:Int) (k:Int) ((i+1:Nat):Int) (putRow x k (i+1)))) ?_ (ih (i+1) (by omega));unfold K1;have w2:W aB (8 * (i:Int))=8 * (i:Int):=bd (by omega);have w3:W aB ((i:Int)+1)=((i+1:Nat):Int):=by rw[bd (by omega)];omega
  have hget:(putRow x k i)[i]? = aA (aC bK 0):=by
   unfold putRow;rw[eC (by simp[eK])];simp only[gm,eK];grind
  rw[LN (by omega),nW];rw[aZ (by omega),bn,w2,aS (by grind),aS (by simp),bq,aS (by grind),cM hget,bL,afz (by omega),w3]
def afD(s:Bs) n size (x:Nat) (hx:x < 18446744073709551616) (hs:dS s):bP aJ 161 [.str s,.int aB n,.int aB size,.int b9 x]=aA (.tup [.str (vZ s n size x).1,.int aB (vZ s n size x).2]):=by
 by_cases h:kp s n size=0
 ·obtain⟨h1,h2,h3,h4⟩:=Kp h;obtain⟨k,rfl⟩:∃k:Nat,size=k:=⟨size.toNat,by omega⟩
  obtain⟨m,rfl⟩:∃m:Nat,n=m:=⟨n.toNat,by omega⟩
  have w2:W aB (8 * k)=8 * k:=bd (by omega);have hfits:x < 256 ^ k↔x / 256 ^ k=0:=by simp_all
  unfold vZ;rw[bq]
  by_cases hb:x < 256 ^ k
  ·have hl:=afC s m k x (by omega) (by omega) (by omega) hs k 0 (by omega);have hrow:putRow x k 0=cA k (aC bK 0):=by simp[putRow,cW]
   refine HH _ _ _ _ ?_ (o:=.head 0 (uJ s m x k 0 (cA k (aC bK 0)))) (by grind);unfold Dy;rw[aQ (Bn s _ _ hs),bL,h];rw[LN (by omega),hfits.1 hb,w2]
   by_cases h8:(k:Int) < 8
   ·simp[h8,show ¬(8 * (k:Int) < 0) by omega];omega
   ·simp[h8];omega
  ·rw[bh hb]
   have h8:(k:Int) < 8:=by
    grind
   refine HH _ _ _ _ ?_ (.refl _);unfold Dy;rw[aQ (Bn s _ _ hs),bL,h];rw[LN (by omega),w2];have:=Nat.pos_of_ne_zero λe=>hb (hfits.2 e)
   have hp:(((x / 256 ^ k:Nat):Int) > 0):=by omega
   rw[aZ h8,aZ hp];rfl
 ·refine HH _ _ _ _ ?_ (.refl _);unfold Dy vZ;rw[aQ (Bn s _ _ hs),bL,bh h,jz h];rfl
def d0(s:Bs)(n:Int):Bs × Int × Int :=
 if 0<=n/\n<=(s.length:Int) then
  match s.drop n.toNat with
  | []=>([],0,3)
  |c::r=>if r.length < c.toNat then ([],0,3) else (r.take c.toNat,n+1+c.toNat,0)
 else ([],0,1)
def aiE(s:Bs)(n:Int)(hs:dS s):bP aJ 71 [.str s,.int aB n]=aA (.tup [.str (d0 s n).1,.int aB (d0 s n).2.1,.int aB (d0 s n).2.2]):=by
 refine aaE _ _ ?_;unfold Ia d0;rw[aQ (JP s n),bL];unfold A9
 by_cases h:0<=n/\n<=(s.length:Int)
 ·rw[bc h,bc h];obtain⟨m,rfl⟩:∃m:Nat,n=(m:Int):=⟨n.toNat,by omega⟩
  rw[bq];cases hd:s.drop m with
  |nil =>
   have:=Gn.1 hd;grind
  |cons c r =>
   obtain⟨h1,h2,h3⟩:=dZ hd
   have hrl:r.length+m+1=s.length:=by
    grind
   have hcl:=c.toNat_lt;have w1:W aB (c.toNat:Int)=(c.toNat:Int):=bd (by omega)
   have w2:W aB (W aB ((s.length:Int) - (m:Int)) - 1)=(r.length:Int):=by
    rw[bd (n:=(s.length:Int) - (m:Int)) (by omega),bd (by omega)];omega
   have w3:W aB ((m:Int)+1)=((m+1:Nat):Int):=by rw[bd (by omega)];omega
   have w4:W aB (((m+1:Nat):Int)+(c.toNat:Int))=((m+1+c.toNat:Nat):Int):=by rw[bd (by omega)];omega
   rw[ew (show(m:Int)≠(s.length:Int) by omega)];simp only[cM h1,w1,w2,w3,w4,bq]
   by_cases hb:r.length < c.toNat
   ·simp_all
   ·rw[bh hb,bF (show ¬(r.length:Int) < (c.toNat:Int) by omega)]
    have e1:(s.take (m+1+c.toNat)).drop (m+1)=r.take c.toNat:=by
     rw[List.drop_take,show m+1+c.toNat - (m+1)=c.toNat by omega];congr 1
    rw[e1];simp;omega
 grind
end Go.Proofs.YtlphgcjepphhcaaGreat
