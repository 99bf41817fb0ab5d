/-
  Texts that the last one stands on.
-/
import Derived.Test.YtlphgcjepphhcaaGreatY4
open List renaming mem_cons->bO,not_mem_nil->zE,replicate->bH,getElem?_eq_getElem->bG,take_add_one->zF,getElem?_drop->gB,length_map->dh,set_append_right->Du,map_append->fK,append_assoc->bw,map_cons->di,map_nil->gM,cons_append->dv,nil_append->dp,getElem?_append_right->df,drop_eq_nil_iff->Dj,length->oJ,map_replicate->Jd,take_length->jZ,length_take->d9,length_drop->eO,length_set->jY,length_append->cO,length_cons->cG,length_nil->dR,pairwise_cons->fV,mem_of_getElem?->cH,getElem?_eq_none->wV,zip_cons_cons->Ji,all_cons->zw,take_append_of_le_length->wZ,drop_append->sg,drop_eq_nil_of_le->oI,all_eq_true->dB,take_append_drop->iz,drop_drop->oH,take_of_length_le->kJ,eq_of_mem_replicate->wU,append_nil->dH,mem_append->br,mem_of_mem_take->nc,mem_of_mem_drop->lx,range->dI,getElem?_map->dQ,getElem?_range->sj,ext_getElem?->uE,getElem?_eq_some_iff->bn,filter_cons_of_pos->Dl,filter_cons_of_neg->Dk,length_filter_le->Jb
open Int renaming natCast_nonneg->I3,natCast_add->rW,natCast_one->rY,natCast_zero->rZ,toNat_zero->sd,cast_ofNat_Int->rV,fdiv_eq_ediv_of_nonneg->Rf
open Option renaming map_some->cB,bind_some->aL,bind_assoc->Dv
open Nat renaming sub_self->jB,le_refl->bK,zero_le->iB,lt_or_ge->kN,add_zero->d0,add_assoc->iA,mod_eq_of_lt->zJ,mod_lt->w8,zero_add->ew,eq_zero_or_pos->zI
open Bool renaming not_true->bv,not_false->gi,and_true->oD,true_and->du,and_false->iL,false_and->jA,or_true->pR,true_or->mc,or_false->lr,false_or->gL,false_eq_true->cM,true_eq_false->rT,true_beq->rS,false_beq->rQ,and_eq_true->bD,or_eq_true->mU,not_eq_true'->i7
namespace Go.Proofs.YtlphgcjepphhcaaGreat
open Go Go.Lite
set_option maxRecDepth 100000
set_option linter.unusedVariables false
def dE (c:V) (d:List UInt8->List UInt8->R): R:=kA c fun a=>bV a fun b a=>kS b fun e=>bV a fun b a=>kS b fun f=>en a<|(d e f)
@[simp] theorem eo (x0:List UInt8) (x1:List UInt8) (k:List UInt8->List UInt8->R):dE (.agg [V.str x0,V.str x1]) k=k x0 x1:=rfl
@[congr] theorem ac9 {v v':V} {k:List UInt8->List UInt8->R} (h:v=v'):dE v k=dE v' k:=by rw [h]
def k7 (c:V) (d:List UInt8->Int->R): R:=kT c fun a=>bV a fun b a=>kS b fun e=>bV a fun b a=>kI .i64 b fun f=>en a (d e f)
@[simp] theorem lL (x0:List UInt8) (x1:Int) (k:List UInt8->Int->R):k7 (.tup [V.str x0,V.int .i64 x1]) k=k x0 x1:=rfl
@[congr] theorem ada {v v':V} {k:List UInt8->Int->R} (h:v=v'):k7 v k=k7 v' k:=by rw [h]
def jg (c:V) (d:List UInt8->Int->Int->R): R:=kT c fun a=>bV a fun b a=>kS b fun e=>bV a fun b a=>kI .i64 b fun f=>bV a fun b a=>kI .i64 b fun g=>en a (d e f g)
@[simp] theorem gP (x0:List UInt8) (x1:Int) (x2:Int) (k:List UInt8->Int->Int->R):jg (.tup [V.str x0,V.int .i64 x1,V.int .i64 x2]) k=k x0 x1 x2:=rfl
@[congr] theorem acZ {v v':V} {k:List UInt8->Int->Int->R} (h:v=v'):jg v k=jg v' k:=by rw [h]
def lK (c:V) (d:Int->Int->R): R:=kT c fun a=>bV a fun b a=>kI .u64 b fun e=>bV a fun b a=>kI .i64 b fun f=>en a (d e f)
@[simp] theorem jh (x0:Int) (x1:Int) (k:Int->Int->R):lK (.tup [V.int .u64 x0,V.int .i64 x1]) k=k x0 x1:=rfl
@[congr] theorem ac7 {v v':V} {k:Int->Int->R} (h:v=v'):lK v k=lK v' k:=by rw [h]
def lI (c:V) (d:Int->Bool->R): R:=kT c fun a=>bV a fun b a=>kI .i64 b fun e=>bV a fun b a=>kB b fun f=>en a (d e f)
@[simp] theorem xH (x0:Int) (x1:Bool) (k:Int->Bool->R):lI (.tup [V.int .i64 x0,V.bool x1]) k=k x0 x1:=rfl
@[congr] theorem ac1 {v v':V} {k:Int->Bool->R} (h:v=v'):lI v k=lI v' k:=by rw [h]
def xG (c:V) (d:Int->Int->R): R:=kT c fun a=>bV a fun b a=>kI .i64 b fun e=>bV a fun b a=>kI .i64 b fun f=>en a (d e f)
@[simp] theorem Kq (x0:Int) (x1:Int) (k:Int->Int->R):xG (.tup [V.int .i64 x0,V.int .i64 x1]) k=k x0 x1:=rfl
@[congr] theorem acY {v v':V} {k:Int->Int->R} (h:v=v'):xG v k=xG v' k:=by rw [h]
def AM (d:V) (e:List V->List UInt8->Int->Int->Bool->R): R:=kT d fun b=>bV b fun a b=>kA a fun c=>bV c fun a c=>kL a fun f=>bV c fun a c=>kS a fun g=>bV c fun a c=>kI .i64 a fun h=>en c<|bV b fun a b=>kI .i64 a fun i=>bV b fun a b=>kB a fun j=>en b (e f g h i j)
@[simp] theorem Ks (x0:List V) (x1:List UInt8) (x2:Int) (x3:Int) (x4:Bool) (k:List V->List UInt8->Int->Int->Bool->R):AM (.tup [V.agg [V.sl x0,V.str x1,V.int .i64 x2],V.int .i64 x3,V.bool x4]) k=k x0 x1 x2 x3 x4:=rfl
@[congr] theorem ac6 {v v':V} {k:List V->List UInt8->Int->Int->Bool->R} (h:v=v'):AM v k=AM v' k:=by rw [h]
def k6 (c:V) (d:Int->List UInt8->List UInt8->Int->R): R:=kA c fun a=>bV a fun b a=>kI .i64 b fun e=>bV a fun b a=>kS b fun f=>bV a fun b a=>kS b fun g=>bV a fun b a=>kI .i64 b fun h=>en a<|(d e f g h)
@[simp] theorem ir (x0:Int) (x1:List UInt8) (x2:List UInt8) (x3:Int) (k:Int->List UInt8->List UInt8->Int->R):k6 (.agg [V.int .i64 x0,V.str x1,V.str x2,V.int .i64 x3]) k=k x0 x1 x2 x3:=rfl
@[congr] theorem ac8 {v v':V} {k:Int->List UInt8->List UInt8->Int->R} (h:v=v'):k6 v k=k6 v' k:=by rw [h]
def oU (d:V) (e:List V->List UInt8->Int->Int->R): R:=kT d fun c=>bV c fun a c=>kA a fun b=>bV b fun a b=>kL a fun f=>bV b fun a b=>kS a fun g=>bV b fun a b=>kI .i64 a fun h=>en b<|bV c fun a c=>kI .i64 a fun i=>en c (e f g h i)
@[simp] theorem mn (x0:List V) (x1:List UInt8) (x2:Int) (x3:Int) (k:List V->List UInt8->Int->Int->R):oU (.tup [V.agg [V.sl x0,V.str x1,V.int .i64 x2],V.int .i64 x3]) k=k x0 x1 x2 x3:=rfl
@[congr] theorem ac0 {v v':V} {k:List V->List UInt8->Int->Int->R} (h:v=v'):oU v k=oU v' k:=by rw [h]
def AK (d:V) (e:List V->List UInt8->Int->List V->List UInt8->Int->Int->R): R:=kT d fun c=>bV c fun a c=>kA a fun b=>bV b fun a b=>kL a fun f=>bV b fun a b=>kS a fun g=>bV b fun a b=>kI .i64 a fun h=>en b<|bV c fun a c=>kA a fun b=>bV b fun a b=>kL a fun i=>bV b fun a b=>kS a fun j=>bV b fun a b=>kI .i64 a fun k=>en b<|bV c fun a c=>kI .i64 a fun l=>en c (e f g h i j k l)
@[simp] theorem Kr (x0:List V) (x1:List UInt8) (x2:Int) (x3:List V) (x4:List UInt8) (x5:Int) (x6:Int) (k:List V->List UInt8->Int->List V->List UInt8->Int->Int->R):AK (.tup [V.agg [V.sl x0,V.str x1,V.int .i64 x2],V.agg [V.sl x3,V.str x4,V.int .i64 x5],V.int .i64 x6]) k=k x0 x1 x2 x3 x4 x5 x6:=rfl
@[congr] theorem ac3 {v v':V} {k:List V->List UInt8->Int->List V->List UInt8->Int->Int->R} (h:v=v'):AK v k=AK v' k:=by rw [h]
def lJ (c:V) (d:Int->List V->List V->List UInt8->Int->Int->R): R:=kA c fun a=>bV a fun b a=>kI .i64 b fun e=>bV a fun b a=>kL b fun f=>bV a fun b a=>kL b fun g=>bV a fun b a=>kS b fun h=>bV a fun b a=>kI .i64 b fun i=>bV a fun b a=>kI .i64 b fun j=>en a<|(d e f g h i j)
@[simp] theorem mo (x0:Int) (x1:List V) (x2:List V) (x3:List UInt8) (x4:Int) (x5:Int) (k:Int->List V->List V->List UInt8->Int->Int->R):lJ (.agg [V.int .i64 x0,V.sl x1,V.sl x2,V.str x3,V.int .i64 x4,V.int .i64 x5]) k=k x0 x1 x2 x3 x4 x5:=rfl
@[congr] theorem ac2 {v v':V} {k:Int->List V->List V->List UInt8->Int->Int->R} (h:v=v'):lJ v k=lJ v' k:=by rw [h]
def qp (d:V) (e:List V->List V->List UInt8->Int->Int->R): R:=kT d fun c=>bV c fun a c=>kA a fun b=>bV b fun a b=>kL a fun f=>bV b fun a b=>kL a fun g=>bV b fun a b=>kS a fun h=>bV b fun a b=>kI .i64 a fun i=>en b<|bV c fun a c=>kI .i64 a fun j=>en c (e f g h i j)
@[simp] theorem vh (x0:List V) (x1:List V) (x2:List UInt8) (x3:Int) (x4:Int) (k:List V->List V->List UInt8->Int->Int->R):qp (.tup [V.agg [V.sl x0,V.sl x1,V.str x2,V.int .i64 x3],V.int .i64 x4]) k=k x0 x1 x2 x3 x4:=rfl
@[congr] theorem ac4 {v v':V} {k:List V->List V->List UInt8->Int->Int->R} (h:v=v'):qp v k=qp v' k:=by rw [h]
def AL (d:V) (e:List V->List V->List UInt8->Int->List V->List V->List UInt8->Int->List UInt8->Int->R): R:=kT d fun c=>bV c fun a c=>kA a fun b=>bV b fun a b=>kL a fun f=>bV b fun a b=>kL a fun g=>bV b fun a b=>kS a fun h=>bV b fun a b=>kI .i64 a fun i=>en b<|bV c fun a c=>kA a fun b=>bV b fun a b=>kL a fun j=>bV b fun a b=>kL a fun k=>bV b fun a b=>kS a fun l=>bV b fun a b=>kI .i64 a fun m=>en b<|bV c fun a c=>kS a fun n=>bV c fun a c=>kI .i64 a fun o=>en c (e f g h i j k l m n o)
@[simp] theorem Te (x0:List V) (x1:List V) (x2:List UInt8) (x3:Int) (x4:List V) (x5:List V) (x6:List UInt8) (x7:Int) (x8:List UInt8) (x9:Int) (k:List V->List V->List UInt8->Int->List V->List V->List UInt8->Int->List UInt8->Int->R):AL (.tup [V.agg [V.sl x0,V.sl x1,V.str x2,V.int .i64 x3],V.agg [V.sl x4,V.sl x5,V.str x6,V.int .i64 x7],V.str x8,V.int .i64 x9]) k=k x0 x1 x2 x3 x4 x5 x6 x7 x8 x9:=rfl
@[congr] theorem ac5 {v v':V} {k:List V->List V->List UInt8->Int->List V->List V->List UInt8->Int->List UInt8->Int->R} (h:v=v'):AL v k=AL v' k:=by rw [h]
def jO (L:Int × Int × Int × (List (V × V)) × (List V)):V × List O:=(V.tup [V.int .i64 L.1,V.int .i64 L.2.1],(sm L.2.2.1 L.2.2.2.1 L.2.2.2.2))
theorem pn:∀L L',jO L=jO L'->L=L':=by
 rintro ⟨a0,a1,a2,a3,a4⟩ ⟨b0,b1,b2,b3,b4⟩ h
 cases h;rfl
def ej (L:Int × Int × (List (V × V)) × (List V)):V × List O:=(V.tup [],(tm L.1 L.2.1 L.2.2.1 L.2.2.2))
theorem gI:∀L L',ej L=ej L'->L=L':=by
 rintro ⟨a0,a1,a2,a3⟩ ⟨b0,b1,b2,b3⟩ h
 cases h;rfl
def iG (L:Bool × Int × Int × Int × (List (V × V)) × (List V)):V × List O:=(V.tup [V.bool L.1,V.int .i64 L.2.1],(tm L.2.2.1 L.2.2.2.1 L.2.2.2.2.1 L.2.2.2.2.2))
theorem l6:∀L L',iG L=iG L'->L=L':=by
 rintro ⟨a0,a1,a2,a3,a4,a5⟩ ⟨b0,b1,b2,b3,b4,b5⟩ h
 cases h;rfl
def iZ (L:Int × Int × Int × (List (V × V)) × (List V)):V × List O:=(V.int .i64 L.1,(tm L.2.1 L.2.2.1 L.2.2.2.1 L.2.2.2.2))
theorem tG:∀L L',iZ L=iZ L'->L=L':=by
 rintro ⟨a0,a1,a2,a3,a4⟩ ⟨b0,b1,b2,b3,b4⟩ h
 cases h;rfl
def iI (M:List O) (L:(List UInt8) × Int):V × List O:=(V.tup [V.str L.1,V.int .i64 L.2],M)
theorem vP (M:List O):∀L L',iI M L=iI M L'->L=L':=by
 rintro ⟨a0,a1⟩ ⟨b0,b1⟩ h
 simp [iI] at h
 simp [h]
def js (M:List O) (L:Int):V × List O:=(V.int .i64 L,M)
theorem qW (M:List O):∀L L',js M L=js M L'->L=L':=by
 rintro a0 b0 h
 simpa [js] using h
def jN (M:List O) (L:(List V)):V × List O:=(V.sl L,M)
theorem qX (M:List O):∀L L',jN M L=jN M L'->L=L':=by
 rintro a0 b0 h
 simpa [jN] using h
def pk (M:List O) (L:(List V)):V × List O:=(V.sl L,M)
theorem ND (M:List O):∀L L',pk M L=pk M L'->L=L':=by
 rintro a0 b0 h
 simpa [pk] using h
def iH (M:List O) (L:(List V)):V × List O:=(V.sl L,M)
theorem nS (M:List O):∀L L',iH M L=iH M L'->L=L':=by
 rintro a0 b0 h
 simpa [iH] using h
def kj (M:List O) (L:Int):V × List O:=(V.int .i64 L,M)
theorem tH (M:List O):∀L L',kj M L=kj M L'->L=L':=by
 rintro a0 b0 h
 simpa [kj] using h
def mI (M:List O) (L:Int):V × List O:=(V.int .i64 L,M)
theorem yu (M:List O):∀L L',mI M L=mI M L'->L=L':=by
 rintro a0 b0 h
 simpa [mI] using h
def l7 (M:List O) (L:(List V)):V × List O:=(V.sl L,M)
theorem yv (M:List O):∀L L',l7 M L=l7 M L'->L=L':=by
 rintro a0 b0 h
 simpa [l7] using h
def pi (L:Int × Int × Int × (List V)):V × List O:=(V.tup [V.int .i64 L.1,V.int .i64 L.2.1],(bm L.2.2.1 L.2.2.2))
theorem NB:∀L L',pi L=pi L'->L=L':=by
 rintro ⟨a0,a1,a2,a3⟩ ⟨b0,b1,b2,b3⟩ h
 cases h;rfl
def qT (L:Int × Int × (List (V × V)) × (List V)):V × List O:=(V.int .i64 L.1,(sm L.2.1 L.2.2.1 L.2.2.2))
theorem Ny:∀L L',qT L=qT L'->L=L':=by
 rintro ⟨a0,a1,a2,a3⟩ ⟨b0,b1,b2,b3⟩ h
 cases h;rfl
def nT (M:List O) (L:(List V) × (List V) × (List UInt8) × Int × Int):V × List O:=(V.tup [V.sl L.1,V.agg [V.sl L.2.1,V.str L.2.2.1,V.int .i64 L.2.2.2.1],V.int .i64 L.2.2.2.2],M)
theorem qY (M:List O):∀L L',nT M L=nT M L'->L=L':=by
 rintro ⟨a0,a1,a2,a3,a4⟩ ⟨b0,b1,b2,b3,b4⟩ h
 simp [nT] at h
 simp [h]
def pm (L:Int × Int × (List (V × V)) × (List V)):V × List O:=(V.tup [],(tm L.1 L.2.1 L.2.2.1 L.2.2.2))
theorem Yv:∀L L',pm L=pm L'->L=L':=by
 rintro ⟨a0,a1,a2,a3⟩ ⟨b0,b1,b2,b3⟩ h
 cases h;rfl
def qZ (L:Int × Int × (List (V × V)) × (List V)):V × List O:=(V.tup [],(tm L.1 L.2.1 L.2.2.1 L.2.2.2))
theorem Yw:∀L L',qZ L=qZ L'->L=L':=by
 rintro ⟨a0,a1,a2,a3⟩ ⟨b0,b1,b2,b3⟩ h
 cases h;rfl
def nU (L:Int × Bool × Int × (List (V × V)) × Int × (List (V × V)) × (List V) × (List V) × (List V)):V × List O:=(V.tup [V.int .i64 L.1,V.bool L.2.1],(ln L.2.2.1 9 10 L.2.2.2.1 L.2.2.2.2.1 L.2.2.2.2.2.1 L.2.2.2.2.2.2.1++[O.row 3 L.2.2.2.2.2.2.2.1 0,O.row 9 L.2.2.2.2.2.2.2.2 0]))
theorem BN:∀L L',nU L=nU L'->L=L':=by
 rintro ⟨a0,a1,a2,a3,a4,a5,a6,a7,a8⟩ ⟨b0,b1,b2,b3,b4,b5,b6,b7,b8⟩ h
 cases h;rfl
def po (M:List O) (L:(List V)):V × List O:=(V.sl L,M)
theorem NE (M:List O):∀L L',po M L=po M L'->L=L':=by
 rintro a0 b0 h
 simpa [po] using h
def tJ (L:(List V)):V × List O:=(V.tail 0 0,[O.row 3 L 0])
theorem YD:∀L L',tJ L=tJ L'->L=L':=by
 rintro a0 b0 h
 cases h;rfl
def pq (M:List O) (L:(List V)):V × List O:=(V.sl L,M)
theorem NF (M:List O):∀L L',pq M L=pq M L'->L=L':=by
 rintro a0 b0 h
 simpa [pq] using h
def fN (M:List O) (L:(List V) × (List UInt8) × Int):V × List O:=(V.ifc 120 (V.agg [V.sl L.1,V.str L.2.1,V.int .i64 L.2.2]),M)
theorem Yx (M:List O):∀L L',fN M L=fN M L'->L=L':=by
 rintro ⟨a0,a1,a2⟩ ⟨b0,b1,b2⟩ h
 simp [fN] at h
 simp [h]
def fO (M:List O) (L:(List V) × (List V) × (List UInt8) × Int):V × List O:=(V.ifc 150 (V.agg [V.sl L.1,V.sl L.2.1,V.str L.2.2.1,V.int .i64 L.2.2.2]),M)
theorem Yy (M:List O):∀L L',fO M L=fO M L'->L=L':=by
 rintro ⟨a0,a1,a2,a3⟩ ⟨b0,b1,b2,b3⟩ h
 simp [fO] at h
 simp [h]
theorem Yz (M:List O):∀L L',fN M L≠fO M L':=by
 intro L L' h
 simp [fN,fO] at h
def f0 (M:List O) (L:Unit):V × List O:=(V.nilI,M)
theorem YA (M:List O):∀L L',f0 M L=f0 M L'->L=L':=by
 rintro ⟨⟩ ⟨⟩ h
 rfl
theorem YB (M:List O):∀L L',fN M L≠f0 M L':=by
 intro L L' h
 simp [fN,f0] at h
theorem YC (M:List O):∀L L',fO M L≠f0 M L':=by
 intro L L' h
 simp [fO,f0] at h
def rc (M:List O) (L:Int):V × List O:=(V.int .i64 L,M)
theorem YE (M:List O):∀L L',rc M L=rc M L'->L=L':=by
 rintro a0 b0 h
 simpa [rc] using h
def mH (M:List O) (L:Bool):V × List O:=(V.bool L,M)
theorem vO (M:List O):∀L L',mH M L=mH M L'->L=L':=by
 rintro a0 b0 h
 simpa [mH] using h
def tF (L:Int × Int × (List V)):V × List O:=(V.int .i64 L.1,(bm L.2.1 L.2.2))
theorem Yu:∀L L',tF L=tF L'->L=L':=by
 rintro ⟨a0,a1,a2⟩ ⟨b0,b1,b2⟩ h
 cases h;rfl
def mJ (M:List O) (L:(List UInt8) × Int):V × List O:=(V.tup [V.str L.1,V.int .i64 L.2],M)
theorem tI (M:List O):∀L L',mJ M L=mJ M L'->L=L':=by
 rintro ⟨a0,a1⟩ ⟨b0,b1⟩ h
 simp [mJ] at h
 simp [h]
def nR (L:Int × Int × (List (V × V)) × (List V)):V × List O:=(V.tup [],(tm L.1 L.2.1 L.2.2.1 L.2.2.2))
theorem Nz:∀L L',nR L=nR L'->L=L':=by
 rintro ⟨a0,a1,a2,a3⟩ ⟨b0,b1,b2,b3⟩ h
 cases h;rfl
def qU (M:List O) (L:(List V)):V × List O:=(V.sl L,M)
theorem Yq (M:List O):∀L L',qU M L=qU M L'->L=L':=by
 rintro a0 b0 h
 simpa [qU] using h
def qV (L:Int × Int × (List (V × V)) × (List V)):V × List O:=(V.int .i64 L.1,(sm L.2.1 L.2.2.1 L.2.2.2))
theorem NA:∀L L',qV L=qV L'->L=L':=by
 rintro ⟨a0,a1,a2,a3⟩ ⟨b0,b1,b2,b3⟩ h
 cases h;rfl
def tC (L:Int × Int × (List (V × V)) × (List V)):V × List O:=(V.tup [],(tm L.1 L.2.1 L.2.2.1 L.2.2.2))
theorem Yr:∀L L',tC L=tC L'->L=L':=by
 rintro ⟨a0,a1,a2,a3⟩ ⟨b0,b1,b2,b3⟩ h
 cases h;rfl
def pj (L:Bool × (List (V × V)) × (List V) × (List V)):V × List O:=(V.bool L.1,[O.box 144 (V.agg [V.mp 1,V.tail 4 0,V.tail 5 0]) false,O.map L.2.1,O.dead,O.dead,O.row 3 L.2.2.1 0,O.row 9 L.2.2.2 0])
theorem NC:∀L L',pj L=pj L'->L=L':=by
 rintro ⟨a0,a1,a2,a3⟩ ⟨b0,b1,b2,b3⟩ h
 cases h;rfl
def tD (L:(List V)):V × List O:=(V.tup [],[O.row 3 L 0])
theorem Ys:∀L L',tD L=tD L'->L=L':=by
 rintro a0 b0 h
 cases h;rfl
def tE (L:Int × Int × (List V)):V × List O:=(V.int .i64 L.1,(bm L.2.1 L.2.2))
theorem Yt:∀L L',tE L=tE L'->L=L':=by
 rintro ⟨a0,a1,a2⟩ ⟨b0,b1,b2⟩ h
 cases h;rfl
noncomputable def G4 (cm:CM) (f:FuncId) (args:List V) (mem:List O) (k:V->List O->R):R:=cond (f==84) (aT aA cm jO f args mem fun L=>k (jO L).1 (jO L).2) (cond (f==78) (aT aA cm ej f args mem fun L=>k (ej L).1 (ej L).2) (cond (f==32) (aT aA cm iG f args mem fun L=>k (iG L).1 (iG L).2) (cond (f==33) (aT aA cm iZ f args mem fun L=>k (iZ L).1 (iZ L).2) (cond (f==39) (aT aA cm (iI mem) f args mem fun L=>k ((iI mem) L).1 ((iI mem) L).2) (cond (f==40) (aT aA cm (js mem) f args mem fun L=>k ((js mem) L).1 ((js mem) L).2) (cond (f==42) (aT aA cm (jN mem) f args mem fun L=>k ((jN mem) L).1 ((jN mem) L).2) (cond (f==50) (aT aA cm (pk mem) f args mem fun L=>k ((pk mem) L).1 ((pk mem) L).2) (cond (f==34) (aT aA cm (iH mem) f args mem fun L=>k ((iH mem) L).1 ((iH mem) L).2) (cond (f==43) (aT aA cm (kj mem) f args mem fun L=>k ((kj mem) L).1 ((kj mem) L).2) (cond (f==44) (aT aA cm (mI mem) f args mem fun L=>k ((mI mem) L).1 ((mI mem) L).2) (cond (f==46) (aT aA cm (l7 mem) f args mem fun L=>k ((l7 mem) L).1 ((l7 mem) L).2) (cond (f==131) (aT aA cm pi f args mem fun L=>k (pi L).1 (pi L).2) (cond (f==119) (aT aA cm qT f args mem fun L=>k (qT L).1 (qT L).2) (cond (f==75) (aT aA cm (nT mem) f args mem fun L=>k ((nT mem) L).1 ((nT mem) L).2) (cond (f==79) (aT aA cm pm f args mem fun L=>k (pm L).1 (pm L).2) (cond (f==81) (aT aA cm qZ f args mem fun L=>k (qZ L).1 (qZ L).2) (cond (f==85) (aT aA cm nU f args mem fun L=>k (nU L).1 (nU L).2) (cond (f==87) (aT aA cm (po mem) f args mem fun L=>k ((po mem) L).1 ((po mem) L).2) (cond (f==86) (aT aA cm tJ f args mem fun L=>k (tJ L).1 (tJ L).2) (cond (f==90) (aT aA cm (pq mem) f args mem fun L=>k ((pq mem) L).1 ((pq mem) L).2) (cond (f==82) (gp aA cm (fN mem) (fO mem) (f0 mem) f args mem (fun L=>k ((fN mem) L).1 ((fN mem) L).2) (fun L=>k ((fO mem) L).1 ((fO mem) L).2) (fun L=>k ((f0 mem) L).1 ((f0 mem) L).2)) (cond (f==89) (aT aA cm (rc mem) f args mem fun L=>k ((rc mem) L).1 ((rc mem) L).2) (cond (f==137) (aT aA cm (mH mem) f args mem fun L=>k ((mH mem) L).1 ((mH mem) L).2) (cond (f==180) (aT aA cm tF f args mem fun L=>k (tF L).1 (tF L).2) (cond (f==58) (aT aA cm (mJ mem) f args mem fun L=>k ((mJ mem) L).1 ((mJ mem) L).2) (cond (f==123) (aT aA cm nR f args mem fun L=>k (nR L).1 (nR L).2) (cond (f==124) (aT aA cm (qU mem) f args mem fun L=>k ((qU mem) L).1 ((qU mem) L).2) (cond (f==127) (aT aA cm qV f args mem fun L=>k (qV L).1 (qV L).2) (cond (f==128) (aT aA cm tC f args mem fun L=>k (tC L).1 (tC L).2) (cond (f==132) (aT aA cm pj f args mem fun L=>k (pj L).1 (pj L).2) (cond (f==169) (aT aA cm tD f args mem fun L=>k (tD L).1 (tD L).2) (cond (f==174) (aT aA cm tE f args mem fun L=>k (tE L).1 (tE L).2) (none)))))))))))))))))))))))))))))))))
noncomputable def OD:KC:={ OC with ck:=G4 }
theorem ZQ:gA OD:=⟨ZR.ik,fun cm f av mem k r h=>by
 change G4 cm f av mem k=some r at h
 unfold G4 at h
 rcases bB h with ⟨_,h⟩ | ⟨_,h⟩
 ·obtain ⟨L,h1,h2⟩:=dK h;exact ⟨_,_,h1,h2⟩
 rcases bB h with ⟨_,h⟩ | ⟨_,h⟩
 ·obtain ⟨L,h1,h2⟩:=dK h;exact ⟨_,_,h1,h2⟩
 rcases bB h with ⟨_,h⟩ | ⟨_,h⟩
 ·obtain ⟨L,h1,h2⟩:=dK h;exact ⟨_,_,h1,h2⟩
 rcases bB h with ⟨_,h⟩ | ⟨_,h⟩
 ·obtain ⟨L,h1,h2⟩:=dK h;exact ⟨_,_,h1,h2⟩
 rcases bB h with ⟨_,h⟩ | ⟨_,h⟩
 ·obtain ⟨L,h1,h2⟩:=dK h;exact ⟨_,_,h1,h2⟩
 rcases bB h with ⟨_,h⟩ | ⟨_,h⟩
 ·obtain ⟨L,h1,h2⟩:=dK h;exact ⟨_,_,h1,h2⟩
 rcases bB h with ⟨_,h⟩ | ⟨_,h⟩
 ·obtain ⟨L,h1,h2⟩:=dK h;exact ⟨_,_,h1,h2⟩
 rcases bB h with ⟨_,h⟩ | ⟨_,h⟩
 ·obtain ⟨L,h1,h2⟩:=dK h;exact ⟨_,_,h1,h2⟩
 rcases bB h with ⟨_,h⟩ | ⟨_,h⟩
 ·obtain ⟨L,h1,h2⟩:=dK h;exact ⟨_,_,h1,h2⟩
 rcases bB h with ⟨_,h⟩ | ⟨_,h⟩
 ·obtain ⟨L,h1,h2⟩:=dK h;exact ⟨_,_,h1,h2⟩
 rcases bB h with ⟨_,h⟩ | ⟨_,h⟩
 ·obtain ⟨L,h1,h2⟩:=dK h;exact ⟨_,_,h1,h2⟩
 rcases bB h with ⟨_,h⟩ | ⟨_,h⟩
 ·obtain ⟨L,h1,h2⟩:=dK h;exact ⟨_,_,h1,h2⟩
 rcases bB h with ⟨_,h⟩ | ⟨_,h⟩
 ·obtain ⟨L,h1,h2⟩:=dK h;exact ⟨_,_,h1,h2⟩
 rcases bB h with ⟨_,h⟩ | ⟨_,h⟩
 ·obtain ⟨L,h1,h2⟩:=dK h;exact ⟨_,_,h1,h2⟩
 rcases bB h with ⟨_,h⟩ | ⟨_,h⟩
 ·obtain ⟨L,h1,h2⟩:=dK h;exact ⟨_,_,h1,h2⟩
 rcases bB h with ⟨_,h⟩ | ⟨_,h⟩
 ·obtain ⟨L,h1,h2⟩:=dK h;exact ⟨_,_,h1,h2⟩
 rcases bB h with ⟨_,h⟩ | ⟨_,h⟩
 ·obtain ⟨L,h1,h2⟩:=dK h;exact ⟨_,_,h1,h2⟩
 rcases bB h with ⟨_,h⟩ | ⟨_,h⟩
 ·obtain ⟨L,h1,h2⟩:=dK h;exact ⟨_,_,h1,h2⟩
 rcases bB h with ⟨_,h⟩ | ⟨_,h⟩
 ·obtain ⟨L,h1,h2⟩:=dK h;exact ⟨_,_,h1,h2⟩
 rcases bB h with ⟨_,h⟩ | ⟨_,h⟩
 ·obtain ⟨L,h1,h2⟩:=dK h;exact ⟨_,_,h1,h2⟩
 rcases bB h with ⟨_,h⟩ | ⟨_,h⟩
 ·obtain ⟨L,h1,h2⟩:=dK h;exact ⟨_,_,h1,h2⟩
 rcases bB h with ⟨_,h⟩ | ⟨_,h⟩
 ·rcases WV h with ⟨L,h1,h2⟩ | ⟨L,h1,h2⟩ | ⟨L,h1,h2⟩<;>exact ⟨_,_,h1,h2⟩
 rcases bB h with ⟨_,h⟩ | ⟨_,h⟩
 ·obtain ⟨L,h1,h2⟩:=dK h;exact ⟨_,_,h1,h2⟩
 rcases bB h with ⟨_,h⟩ | ⟨_,h⟩
 ·obtain ⟨L,h1,h2⟩:=dK h;exact ⟨_,_,h1,h2⟩
 rcases bB h with ⟨_,h⟩ | ⟨_,h⟩
 ·obtain ⟨L,h1,h2⟩:=dK h;exact ⟨_,_,h1,h2⟩
 rcases bB h with ⟨_,h⟩ | ⟨_,h⟩
 ·obtain ⟨L,h1,h2⟩:=dK h;exact ⟨_,_,h1,h2⟩
 rcases bB h with ⟨_,h⟩ | ⟨_,h⟩
 ·obtain ⟨L,h1,h2⟩:=dK h;exact ⟨_,_,h1,h2⟩
 rcases bB h with ⟨_,h⟩ | ⟨_,h⟩
 ·obtain ⟨L,h1,h2⟩:=dK h;exact ⟨_,_,h1,h2⟩
 rcases bB h with ⟨_,h⟩ | ⟨_,h⟩
 ·obtain ⟨L,h1,h2⟩:=dK h;exact ⟨_,_,h1,h2⟩
 rcases bB h with ⟨_,h⟩ | ⟨_,h⟩
 ·obtain ⟨L,h1,h2⟩:=dK h;exact ⟨_,_,h1,h2⟩
 rcases bB h with ⟨_,h⟩ | ⟨_,h⟩
 ·obtain ⟨L,h1,h2⟩:=dK h;exact ⟨_,_,h1,h2⟩
 rcases bB h with ⟨_,h⟩ | ⟨_,h⟩
 ·obtain ⟨L,h1,h2⟩:=dK h;exact ⟨_,_,h1,h2⟩
 rcases bB h with ⟨_,h⟩ | ⟨_,h⟩
 ·obtain ⟨L,h1,h2⟩:=dK h;exact ⟨_,_,h1,h2⟩
 cases h⟩
noncomputable def fF (f:Nat):FA:=(fX aA.P (aA.rxf f) f).getD LU
noncomputable def Mv:KC:=OD.inl [(52,fF 52),(133,fF 133),(98,fF 98),(179,fF 179),(136,fF 136),(83,fF 83),(51,fF 51),(164,fF 164),(177,fF 177),(178,fF 178),(68,fF 68),(18,fF 18)]
theorem WH:gA Mv:=MG ZQ (by
 intro x hx
 simp only [bO,zE,or_false] at hx
 rcases hx with rfl | rfl | rfl | rfl | rfl | rfl | rfl | rfl | rfl | rfl | rfl | rfl
 ·exact ⟨rfl,iS (by kernel_rfl),rfl⟩
 ·exact ⟨rfl,iS (by kernel_rfl),rfl⟩
 ·exact ⟨rfl,iS (by kernel_rfl),rfl⟩
 ·exact ⟨rfl,iS (by kernel_rfl),rfl⟩
 ·exact ⟨rfl,iS (by kernel_rfl),rfl⟩
 ·exact ⟨rfl,iS (by kernel_rfl),rfl⟩
 ·exact ⟨rfl,iS (by kernel_rfl),rfl⟩
 ·exact ⟨rfl,iS (by kernel_rfl),rfl⟩
 ·exact ⟨rfl,iS (by kernel_rfl),rfl⟩
 ·exact ⟨rfl,iS (by kernel_rfl),rfl⟩
 ·exact ⟨rfl,iS (by kernel_rfl),rfl⟩
 ·exact ⟨rfl,iS (by kernel_rfl),rfl⟩)
noncomputable def qk:KC:=Mv.inl [(36,fF 36),(37,fF 37)]
theorem G2:gA qk:=MG WH (by
 intro x hx
 simp only [bO,zE,or_false] at hx
 rcases hx with rfl | rfl
 ·exact ⟨rfl,iS (by kernel_rfl),rfl⟩
 ·exact ⟨rfl,iS (by kernel_rfl),rfl⟩)
abbrev Rd (imp:Bool) (n0 f i:Nat) (t:S) (s:R):Prop:=∀{o o':db},s=some o->Go qk imp n0 (fF f) o o'->Go qk imp n0 (fF f) (.head i t) o'
theorem rd {imp:Bool} {n0 f i:Nat} {t:S} {s:R} (h:Mm qk imp n0 (fF f) i t=s):Rd imp n0 f i t s:=fun h1 hg=>.step (h.trans h1) hg
abbrev Ep (f:Nat) (as0:List V) (s:R):Prop:=∀{o:db} {v:V},s=some o->Go qk false 0 (fF f) o (.done v)->bo aA f as0=some v
theorem ep {f:Nat} {as0:List V} {s:R} (hf:(fX aA.P (aA.rxf f) f).isSome=true) (h:lN qk false (fF f) as0 []=s) (hp:aA.pprim f=none:=by rfl):Ep f as0 s:=fun h1 hg=>n6 G2 hp (iS hf) (h.trans h1) hg
abbrev Ed (f:Nat) (as0:List V) (s:R):Prop:=∀{v:V},s=some (.done v)->bo aA f as0=some v
theorem ed {f:Nat} {as0:List V} {s:R} (h:Ep f as0 s):Ed f as0 s:=fun h1=>h h1 (.refl _)
abbrev Ei (f n0:Nat) (as0:List V) (mem:List O) (s:R):Prop:=∀{o:db} {v:V} {m:List O},s=some o->Go qk true n0 (fF f) o (.doneM v m)->mB aA f as0 mem=some (v,m)
theorem ei {f n0:Nat} {as0:List V} {mem:List O} {s:R} (hf:(fX aA.P (aA.rxf f) f).isSome=true) (h:lN qk true (fF f) as0 mem=s) (hp:aA.iprim f=none:=by rfl) (hn:mem.length=n0:=by rfl):Ei f n0 as0 mem s:=fun h1 hg=>Mx G2 hp (iS hf) (h.trans h1) (hn ▸ hg)
abbrev Ec (f n0:Nat) (cm:CM) (as0:List V) (mem:List O) (s:R):Prop:=∀{o:db} {r:V × List O},s=some o->rU qk n0 (fF f) cm mem o r->bT aA cm f as0 mem=some r
theorem ec {f n0:Nat} {cm:CM} {as0:List V} {mem:List O} {s:R} (hf:(fX aA.P (aA.rxf f) f).isSome=true) (h:lN qk true (fF f) as0 mem=s) (hp:aA.iprim f=none:=by rfl) (hn:mem.length=n0:=by rfl):Ec f n0 cm as0 mem s:=fun h1 hg=>WN G2 hp (iS hf) (h.trans h1) (hn ▸ hg)
noncomputable def Ey (b:List UInt8) (a:Int): R :=
 cond (decide (a < 0))
 (some (.done (V.int .i64 1)))
 (cond (decide (a > (b.length:Int)))
 (some (.done (V.int .i64 1)))
 (some (.done (V.int .i64 0))))
theorem TK (a b): Ep 113 [V.str a,V.int .i64 b] (Ey a b):=ep (by kernel_rfl) (by kernel_rfl)
theorem TJ (a b): Ed 113 [V.str a,V.int .i64 b] (Ey a b):=ed (TK a b)
noncomputable def EV (b:List UInt8) (c a:Int): R :=
 cond (decide (a < 1))
 (some (.done (V.int .i64 1)))
 (cond (decide (a > 8))
 (some (.done (V.int .i64 1)))
 (aE aA 113 [V.str b,V.int .i64 c] fun d =>
  kI .i64 d fun e =>
  cond (e != (0:Int))
 (some (.done (V.int .i64 1)))
 (cond (decide (W .i64 ((b.length:Int) - c) < a))
 (some (.done (V.int .i64 3)))
 (some (.done (V.int .i64 0))))))
theorem UJ (a b c): Ep 208 [V.str a,V.int .i64 b,V.int .i64 c] (EV a b c):=ep (by kernel_rfl) (by kernel_rfl)
theorem UI (a b c): Ed 208 [V.str a,V.int .i64 b,V.int .i64 c] (EV a b c):=ed (UJ a b c)
def uS (a:List UInt8) (b c d e:Int): S:=⟨[V.str a,V.int .i64 b]++(JU 4)++[V.int .u64 0,V.int .i64 0,V.junk,V.int .u64 c]++(JU 8)++[V.int .i64 d,V.int .i64 e]++(JU 15),[]⟩
noncomputable def EW (a:List UInt8) (b c:Int): R :=
 aE aA 208 [V.str a,V.int .i64 b,V.int .i64 c] fun e =>
 kI .i64 e fun d =>
 cond (d != (0:Int))
 (some (.done (V.tup [V.int .u64 0,V.int .i64 d])))
 (some (.head 0 (uS a b 0 c 0)))
theorem K5 (a b c): Ep 214 [V.str a,V.int .i64 b,V.int .i64 c] (EW a b c):=ep (by kernel_rfl) (by kernel_rfl)
noncomputable def HJ (c:List UInt8) (b d e a:Int): R :=
 cond (decide (a < e))
 (gd (decide (0<=W .i64 (b+a))) <|
  aS c ((W .i64 (b+a)).toNat) fun f =>
  gd (!decide (W .i64 (8 * a) < 0)) <|
  some (.head 0 (uS c b (W .u64 (((BitVec.ofInt (IntKind.bits .u64) d ||| BitVec.ofInt (IntKind.bits .u64) (W .u64 (W .u64 ((f.toNat:Int)) * 2 ^ (min (W .i64 (8 * a)).toNat (IntKind.bits .u64))))).toNat:Int))) e (W .i64 (a+1)))))
 (some (.done (V.tup [V.int .u64 d,V.int .i64 0])))
theorem Py (a b c d e): Rd false 0 214 0 (uS a b c d e) (HJ a b c d e):=rd (by kernel_rfl)
def sw (a:List UInt8) (b c d e:Int) (f:List V): S:=⟨[V.str a,V.int .i64 b,V.junk,V.int .u64 c]++(JU 4)++[V.str [],V.int .i64 0,V.junk,V.own 0]++(JU 19)++[V.int .i64 d,V.int .i64 e]++(JU 15),[O.row 5 f 0]⟩
noncomputable def AT (b:List UInt8) (c a d:Int): R :=
 aE aA 208 [V.str b,V.int .i64 c,V.int .i64 a] fun f =>
 kI .i64 f fun e =>
 cond (e != (0:Int))
 (some (.done (V.tup [V.str [],V.int .i64 e])))
 (cond (decide (a < 8))
 (gd (!decide (W .i64 (8 * a) < 0)) <|
  cond (decide (d.fdiv (2 ^ (min (W .i64 (8 * a)).toNat (IntKind.bits .u64))) > 0))
 (some (.done (V.tup [V.str [],V.int .i64 2])))
 (gd (decide (0<=a)) <|
  gd (decide (a<=a)) <|
  gd (decide (a.toNat<=16777216)) <|
  some (.head 0 (sw b c d a 0 (bH a.toNat (V.int .u8 0))))))
 (gd (decide (0<=a)) <|
  gd (decide (a<=a)) <|
  gd (decide (a.toNat<=16777216)) <|
  some (.head 0 (sw b c d a 0 (bH a.toNat (V.int .u8 0))))))
theorem EJ (a b c d): Ep 161 [V.str a,V.int .i64 b,V.int .i64 c,V.int .u64 d] (AT a b c d):=ep (by kernel_rfl) (by kernel_rfl)
noncomputable def HD (c:List UInt8) (d e f a:Int) (b:List V): R :=
 cond (decide (a < f))
 (gd (!decide (W .i64 (8 * a) < 0)) <|
  gd (decide (0<=a)) <|
  gd (decide (a.toNat < b.length)) <|
  aS b a.toNat fun g =>
  kI .u8 g fun j =>
  some (.head 0 (sw c d e f (W .i64 (a+1)) ((b).set a.toNat (V.int .u8 (W .u8 (e.fdiv (2 ^ (min (W .i64 (8 * a)).toNat (IntKind.bits .u64))))))))))
 (aE aA 209 [V.str c,V.int .i64 d,V.sl b] fun h =>
  kS h fun i =>
  some (.done (V.tup [V.str i,V.int .i64 0])))
theorem Pm (a b c d e f): Rd false 0 161 0 (sw a b c d e f) (HD a b c d e f):=rd (by kernel_rfl)
noncomputable def E5 (b:List UInt8) (a:Int): R :=
 aE aA 113 [V.str b,V.int .i64 a] fun e =>
 kI .i64 e fun d =>
 cond (d != (0:Int))
 (some (.done (V.tup [V.str [],V.int .i64 0,V.int .i64 d])))
 (cond (a==(b.length:Int))
 (some (.done (V.tup [V.str [],V.int .i64 0,V.int .i64 3])))
 (gd (decide (0<=a)) <|
  aS b a.toNat fun f =>
  cond (decide (W .i64 ((W .i64 ((b.length:Int) - a)) - 1) < W .i64 ((f.toNat:Int))))
 (some (.done (V.tup [V.str [],V.int .i64 0,V.int .i64 3])))
 (gd (decide (0<=a)) <|
  aS b a.toNat fun c =>
  gd (decide (0<=W .i64 (a+1))) <|
  gd (decide (0<=W .i64 ((W .i64 (a+1))+(W .i64 ((c.toNat:Int)))))) <|
  gd (decide ((W .i64 (a+1)).toNat<=(W .i64 ((W .i64 (a+1))+(W .i64 ((c.toNat:Int))))).toNat)) <|
  gd (decide ((W .i64 ((W .i64 (a+1))+(W .i64 ((c.toNat:Int))))).toNat<=b.length)) <|
  some (.done (V.tup [V.str ((b.take ((W .i64 ((W .i64 (a+1))+(W .i64 ((c.toNat:Int))))).toNat)).drop ((W .i64 (a+1)).toNat)),V.int .i64 (W .i64 ((W .i64 (a+1))+(W .i64 ((c.toNat:Int))))),V.int .i64 0])))))
theorem U7 (a b): Ep 71 [V.str a,V.int .i64 b] (E5 a b):=ep (by kernel_rfl) (by kernel_rfl)
theorem U6 (a b): Ed 71 [V.str a,V.int .i64 b] (E5 a b):=ed (U7 a b)
noncomputable def EK (c:List UInt8) (b:Int) (a:List UInt8): R :=
 aE aA 113 [V.str c,V.int .i64 b] fun e =>
 kI .i64 e fun d =>
 cond (d != (0:Int))
 (some (.done (V.tup [V.str [],V.int .i64 0,V.int .i64 d])))
 (cond (decide ((a.length:Int) > 255))
 (some (.done (V.tup [V.str [],V.int .i64 0,V.int .i64 2])))
 (cond (decide (W .i64 ((c.length:Int) - b) < W .i64 ((a.length:Int)+1)))
 (some (.done (V.tup [V.str [],V.int .i64 0,V.int .i64 3])))
 (gd (dm 1 (dS a)) <|
  gd (decide (([V.int .u8 (W .u8 ((a.length:Int)))]:List V).length+(dS a).length<=16777216)) <|
  aE aA 209 [V.str c,V.int .i64 b,V.sl ([V.int .u8 (W .u8 ((a.length:Int)))]++(dS a))] fun f =>
  kS f fun g =>
  some (.done (V.tup [V.str g,V.int .i64 (W .i64 ((W .i64 (b+(a.length:Int)))+1)),V.int .i64 0])))))
theorem Ul (a b c): Ep 162 [V.str a,V.int .i64 b,V.str c] (EK a b c):=ep (by kernel_rfl) (by kernel_rfl)
theorem Uk (a b c): Ed 162 [V.str a,V.int .i64 b,V.str c] (EK a b c):=ed (Ul a b c)
noncomputable def EI (a:List UInt8) (b:Int): R :=
 cond (decide (b < 0))
 (some (.done (V.tup [V.str [],V.int .i64 1])))
 (cond (decide (b > 65536))
 (some (.done (V.tup [V.str [],V.int .i64 1])))
 (cond (decide ((a.length:Int) > b))
 (some (.done (V.tup [V.str [],V.int .i64 2])))
 (gd (decide (0<=W .i64 (b - (a.length:Int)))) <|
  gd (decide (W .i64 (b - (a.length:Int))<=W .i64 (b - (a.length:Int)))) <|
  gd (decide ((W .i64 (b - (a.length:Int))).toNat<=16777216)) <|
  bk (ge (bH ((W .i64 (b - (a.length:Int))).toNat) (V.int .u8 0))) fun d =>
  gd (decide (a.length+(d.map fun c=>UInt8.ofNat c.toNat).length<=4611686018427387904)) <|
  some (.done (V.tup [V.str (a++(d.map fun c=>UInt8.ofNat c.toNat)),V.int .i64 0])))))
theorem Uj (a b): Ep 160 [V.str a,V.int .i64 b] (EI a b):=ep (by kernel_rfl) (by kernel_rfl)
theorem Ui (a b): Ed 160 [V.str a,V.int .i64 b] (EI a b):=ed (Uj a b)
def xn (a:List UInt8) (b:Int): S:=⟨[V.str a,V.junk,V.str [],V.int .i64 b]++(JU 16),[]⟩
noncomputable def Uv (a:List UInt8): R :=
 some (.head 0 (xn a (a.length:Int)))
theorem Uw (a): Ep 176 [V.str a] (Uv a):=ep (by kernel_rfl) (by kernel_rfl)
noncomputable def Cu (b:List UInt8) (a:Int): R :=
 cond (decide (a > 0))
 (gd (decide (0<=W .i64 (a - 1))) <|
  aS b ((W .i64 (a - 1)).toNat) fun c =>
  cond ((c.toNat:Int)==(0:Int))
 (some (.head 0 (xn b (W .i64 (a - 1)))))
 (gd (decide (0<=a)) <|
  gd (decide (a.toNat<=b.length)) <|
  some (.done (V.str (b.take a.toNat)))))
 (gd (decide (0<=a)) <|
  gd (decide (a.toNat<=b.length)) <|
  some (.done (V.str (b.take a.toNat))))
theorem HI (a b): Rd false 0 176 0 (xn a b) (Cu a b):=rd (by kernel_rfl)
noncomputable def E6 (a:List UInt8): R :=
 cond (!(a==[]))
 (some (.done (V.bool (decide ((a.length:Int)<=16)))))
 (some (.done (V.bool false)))
theorem U9 (a): Ep 73 [V.str a] (E6 a):=ep (by kernel_rfl) (by kernel_rfl)
theorem U8 (a): Ed 73 [V.str a] (E6 a):=ed (U9 a)
noncomputable def E7 (a:List UInt8): R :=
 some (.done (V.bool (decide ((a.length:Int)<=32))))
theorem Vb (a): Ep 74 [V.str a] (E7 a):=ep (by kernel_rfl) (by kernel_rfl)
theorem Va (a): Ed 74 [V.str a] (E7 a):=ed (Vb a)
def xq (a b:List UInt8) (c:Int): S:=⟨[V.str a,V.str b,V.junk,V.junk,V.bool false,V.int .i64 c]++(JU 31),[]⟩
noncomputable def UQ (a b:List UInt8): R :=
 some (.head 0 (xq a b 0))
theorem UR (a b): Ep 35 [V.str a,V.str b] (UQ a b):=ep (by kernel_rfl) (by kernel_rfl)
noncomputable def ww (b c:List UInt8) (a:Int): R :=
 cond (decide (a < (b.length:Int)))
 (cond (decide (a < (c.length:Int)))
 (gd (decide (0<=a)) <|
  aS b a.toNat fun d =>
  gd (decide (0<=a)) <|
  aS c a.toNat fun e =>
  cond ((d.toNat:Int) != (e.toNat:Int))
 (gd (decide (0<=a)) <|
  aS b a.toNat fun f =>
  gd (decide (0<=a)) <|
  aS c a.toNat fun g =>
  some (.done (V.bool (decide ((f.toNat:Int) < (g.toNat:Int))))))
 (some (.head 0 (xq b c (W .i64 (a+1))))))
 (some (.done (V.bool (decide ((b.length:Int) < (c.length:Int)))))))
 (some (.done (V.bool (decide ((b.length:Int) < (c.length:Int))))))
theorem Cw (a b c): Rd false 0 35 0 (xq a b c) (ww a b c):=rd (by kernel_rfl)
noncomputable def E0 (a:List UInt8): R :=
 cond (decide ((a.length:Int) ≥ 1))
 (some (.done (V.bool (decide ((a.length:Int)<=16)))))
 (some (.done (V.bool false)))
theorem U2 (a): Ep 47 [V.str a] (E0 a):=ep (by kernel_rfl) (by kernel_rfl)
theorem U1 (a): Ed 47 [V.str a] (E0 a):=ed (U2 a)
noncomputable def E1 (a:List UInt8): R :=
 some (.done (V.bool (decide ((a.length:Int)<=32))))
theorem U4 (a): Ep 48 [V.str a] (E1 a):=ep (by kernel_rfl) (by kernel_rfl)
theorem U3 (a): Ed 48 [V.str a] (E1 a):=ed (U4 a)
def z6 (a b:List V) (c:Int): S:=⟨[V.sl a,V.sl b,V.junk,V.junk,V.bool false,V.int .i64 c]++(JU 20),[]⟩
noncomputable def K6 (a b:List V): R :=
 cond ((a.length:Int) != (b.length:Int))
 (some (.done (V.bool false)))
 (some (.head 0 (z6 a b 0)))
theorem UM (a b): Ep 23 [V.sl a,V.sl b] (K6 a b):=ep (by kernel_rfl) (by kernel_rfl)
noncomputable def HK (b c:List V) (a:Int): R :=
 cond (decide (a < (b.length:Int)))
 (gd (decide (0<=a)) <|
  aS b a.toNat fun d =>
  dE d fun e f =>
  gd (decide (0<=a)) <|
  aS c a.toNat fun g =>
  dE g fun h i =>
  cond (!((e==h) && ((f==i) && true)))
 (some (.done (V.bool false)))
 (some (.head 0 (z6 b c (W .i64 (a+1))))))
 (some (.done (V.bool true)))
theorem Pz (a b c): Rd false 0 23 0 (z6 a b c) (HK a b c):=rd (by kernel_rfl)
def uT (a b:List V) (c:Int): S:=⟨[V.sl a,V.sl b,V.junk,V.junk,V.bool false,V.int .i64 c]++(JU 20),[]⟩
noncomputable def E3 (a b:List V): R :=
 cond ((a.length:Int) != (b.length:Int))
 (some (.done (V.bool false)))
 (some (.head 0 (uT a b 0)))
theorem Lg (a b): Ep 49 [V.sl a,V.sl b] (E3 a b):=ep (by kernel_rfl) (by kernel_rfl)
noncomputable def CB (b c:List V) (a:Int): R :=
 cond (decide (a < (b.length:Int)))
 (gd (decide (0<=a)) <|
  aS b a.toNat fun d =>
  kI .i64 d fun e =>
  gd (decide (0<=a)) <|
  aS c a.toNat fun f =>
  kI .i64 f fun g =>
  cond (e != g)
 (some (.done (V.bool false)))
 (some (.head 0 (uT b c (W .i64 (a+1))))))
 (some (.done (V.bool true)))
theorem HT (a b c): Rd false 0 49 0 (uT a b c) (CB a b c):=rd (by kernel_rfl)
noncomputable def EX (a:List UInt8): R :=
 some (.done (V.bool (!(a==a))))
theorem UL (a): Ep 223 [V.str a] (EX a):=ep (by kernel_rfl) (by kernel_rfl)
theorem UK (a): Ed 223 [V.str a] (EX a):=ed (UL a)
noncomputable def EU (a:List UInt8): R :=
 some (.done (V.bool (!(a==a))))
theorem UH (a): Ep 206 [V.str a] (EU a):=ep (by kernel_rfl) (by kernel_rfl)
theorem UG (a): Ed 206 [V.str a] (EU a):=ed (UH a)
noncomputable def ET (a b:List UInt8): R :=
 aE aA 223 [V.str a] fun c =>
 kB c fun d =>
 cond d
 (aE aA 223 [V.str b] fun e =>
  kB e fun f =>
  cond (!f)
 (some (.done (V.bool true)))
 (some (.done (V.bool (Op.bytesLess a b)))))
 (some (.done (V.bool (Op.bytesLess a b))))
theorem UF (a b): Ep 205 [V.str a,V.str b] (ET a b):=ep (by kernel_rfl) (by kernel_rfl)
theorem UE (a b): Ed 205 [V.str a,V.str b] (ET a b):=ed (UF a b)
def qd (a:List V) (b:List UInt8) (c d e:Int): S:=⟨[V.sl a,V.str b,V.junk,V.junk,V.int .i64 0,V.bool false,V.int .i64 c,V.int .i64 d,V.int .i64 e]++(JU 45),[]⟩
noncomputable def KX (a:List V) (b:List UInt8): R :=
 some (.head 0 (qd a b (a.length:Int) 0 (a.length:Int)))
theorem Ud (a b): Ep 155 [V.sl a,V.str b] (KX a b):=ep (by kernel_rfl) (by kernel_rfl)
noncomputable def Cs (c:List V) (d:List UInt8) (e a b:Int): R :=
 cond (decide (a < b))
 (gd (decide (0<=W .i64 ((W .u64 (W .i64 (a+b))).fdiv (2 ^ (min 1 (IntKind.bits .u64)))))) <|
  aS c ((W .i64 ((W .u64 (W .i64 (a+b))).fdiv (2 ^ (min 1 (IntKind.bits .u64))))).toNat) fun f =>
  kS f fun g =>
  aE aA 205 [V.str g,V.str d] fun h =>
  kB h fun i =>
  cond i
 (some (.head 0 (qd c d e (W .i64 ((W .i64 ((W .u64 (W .i64 (a+b))).fdiv (2 ^ (min 1 (IntKind.bits .u64)))))+1)) b)))
 (some (.head 0 (qd c d e a (W .i64 ((W .u64 (W .i64 (a+b))).fdiv (2 ^ (min 1 (IntKind.bits .u64)))))))))
 (cond (decide (a < e))
 (gd (decide (0<=a)) <|
  aS c a.toNat fun j =>
  kS j fun k =>
  cond (k==d)
 (some (.done (V.tup [V.int .i64 a,V.bool true])))
 (gd (decide (0<=a)) <|
  aS c a.toNat fun l =>
  kS l fun m =>
  aE aA 206 [V.str m] fun n =>
  kB n fun o =>
  cond o
 (aE aA 206 [V.str d] fun p =>
  kB p fun q =>
  some (.done (V.tup [V.int .i64 a,V.bool q])))
 (some (.done (V.tup [V.int .i64 a,V.bool false])))))
 (some (.done (V.tup [V.int .i64 a,V.bool false]))))
theorem HA (a b c d e): Rd false 0 155 0 (qd a b c d e) (Cs a b c d e):=rd (by kernel_rfl)
def qe (a:List V) (b:List UInt8) (c d e:Int): S:=⟨[V.sl a,V.str b,V.fn 157 [],V.junk,V.junk,V.junk,V.int .i64 0,V.bool false,V.int .i64 c,V.int .i64 d,V.int .i64 e]++(JU 38),[]⟩
noncomputable def KY (a:List V) (b:List UInt8): R :=
 some (.head 0 (qe a b (a.length:Int) 0 (a.length:Int)))
theorem Ue (a b): Ep 156 [V.sl a,V.str b,V.fn 157 []] (KY a b):=ep (by kernel_rfl) (by kernel_rfl)
noncomputable def Ct (c:List V) (d:List UInt8) (e a b:Int): R :=
 cond (decide (a < b))
 (gd (decide (0<=W .i64 ((W .u64 (W .i64 (a+b))).fdiv (2 ^ (min 1 (IntKind.bits .u64)))))) <|
  aS c ((W .i64 ((W .u64 (W .i64 (a+b))).fdiv (2 ^ (min 1 (IntKind.bits .u64))))).toNat) fun f =>
  dE f fun g h =>
  aE aA 157 [V.agg [V.str g,V.str h],V.str d] fun i =>
  kI .i64 i fun j =>
  cond (decide (j < 0))
 (some (.head 0 (qe c d e (W .i64 ((W .i64 ((W .u64 (W .i64 (a+b))).fdiv (2 ^ (min 1 (IntKind.bits .u64)))))+1)) b)))
 (some (.head 0 (qe c d e a (W .i64 ((W .u64 (W .i64 (a+b))).fdiv (2 ^ (min 1 (IntKind.bits .u64)))))))))
 (cond (decide (a < e))
 (gd (decide (0<=a)) <|
  aS c a.toNat fun k =>
  dE k fun l m =>
  aE aA 157 [V.agg [V.str l,V.str m],V.str d] fun n =>
  kI .i64 n fun o =>
  some (.done (V.tup [V.int .i64 a,V.bool (o==(0:Int))])))
 (some (.done (V.tup [V.int .i64 a,V.bool false]))))
theorem HB (a b c d e): Rd false 0 156 0 (qe a b c d e) (Ct a b c d e):=rd (by kernel_rfl)
noncomputable def EH (a e b:List UInt8): R :=
 aE aA 158 [V.str a,V.str b] fun c =>
 kI .i64 c fun d =>
 some (.done (V.int .i64 d))
theorem Ug (a b c): Ep 157 [V.agg [V.str a,V.str b],V.str c] (EH a b c):=ep (by kernel_rfl) (by kernel_rfl)
theorem Uf (a b c): Ed 157 [V.agg [V.str a,V.str b],V.str c] (EH a b c):=ed (Ug a b c)
noncomputable def ER (a:Int): R :=
 cond (decide (a ≥ 0))
 (some (.done (V.bool (decide (a < 1024)))))
 (some (.done (V.bool false)))
theorem UB (a): Ep 203 [V.int .i64 a] (ER a):=ep (by kernel_rfl) (by kernel_rfl)
theorem UA (a): Ed 203 [V.int .i64 a] (ER a):=ed (UB a)
def uR (a:Int) (b:List V) (c d:Int): S:=⟨[V.junk,V.junk,V.int .i64 0,V.int .i64 a]++(JU 7)++[V.sl b,V.int .i64 c,V.int .i64 d]++(JU 10),[]⟩
noncomputable def K0 (a c:List V) (b:List UInt8) (d:Int): R :=
 some (.head 0 (uR (W .i64 (7+(b.length:Int))) a (a.length:Int) 0))
theorem Um (a b c d): Ep 163 [V.agg [V.sl a,V.sl b,V.str c,V.int .i64 d]] (K0 a b c d):=ep (by kernel_rfl) (by kernel_rfl)
noncomputable def HE (b:Int) (c:List V) (d a:Int): R :=
 cond (decide (a < d))
 (gd (decide (0<=a)) <|
  aS c a.toNat fun e =>
  kS e fun f =>
  some (.head 0 (uR (W .i64 (b+(W .i64 (3+(f.length:Int))))) c d (W .i64 (a+1)))))
 (some (.done (V.int .i64 b)))
theorem Pn (a b c d): Rd false 0 163 0 (uR a b c d) (HE a b c d):=rd (by kernel_rfl)
noncomputable def ES (b c:List V) (a:List UInt8) (d:Int): R :=
 aE aA 163 [V.agg [V.sl b,V.sl c,V.str a,V.int .i64 d]] fun e =>
 kI .i64 e fun f =>
 some (.done (V.bool (decide (W .i64 ((W .i64 (f - (a.length:Int)))+16)<=252))))
theorem UD (a b c d): Ep 204 [V.agg [V.sl a,V.sl b,V.str c,V.int .i64 d]] (ES a b c d):=ep (by kernel_rfl) (by kernel_rfl)
theorem UC (a b c d): Ed 204 [V.agg [V.sl a,V.sl b,V.str c,V.int .i64 d]] (ES a b c d):=ed (UD a b c d)
def xl (a b c:List V) (d:List UInt8) (e:Int) (f:List UInt8): S:=⟨[V.junk,V.ptr 0 0 0,V.ptr 1 0 0,V.ptr 2 0 0]++(JU 24)++[V.rest [9,3] a]++(JU 45),[O.box 150 (V.agg [V.sl b,V.sl c,V.str d,V.int .i64 e]) false,O.box 4 (V.bool false) false,O.box 9 (V.str f) false]⟩
noncomputable def AS (b a:List V) (c:List UInt8) (d:Int): R :=
 cond ((a.length:Int) != (W .i64 ((b.length:Int)+1)))
 (some (.done (V.bool false)))
 (aS a 0 fun e =>
  kI .i64 e fun f =>
  aE aA 203 [V.int .i64 f] fun g =>
  kB g fun h =>
  cond (!h)
 (some (.done (V.bool false)))
 (gd (dm 1 a) <|
  gd (decide (1<=a.length)) <|
  bk (u7 [V.ref (V.sl b) 0,V.ref (V.sl ((a.take a.length).drop 1)) 0]) fun i =>
  some (.head 0 (xl (i.map V.tup) b a c d []))))
theorem EG (a b c d): Ep 154 [V.agg [V.sl a,V.sl b,V.str c,V.int .i64 d]] (AS a b c d):=ep (by kernel_rfl) (by kernel_rfl)
noncomputable def Cr (h e f:List V) (b:List UInt8) (a:Int) (g:List UInt8): R :=
 kx h
 (cond (b==[])
 (cond (decide (a ≥ 0))
 (cond (decide (a<=1024))
 (aE aA 204 [V.agg [V.sl e,V.sl f,V.str b,V.int .i64 a]] fun i =>
  kB i fun j =>
  some (.done (V.bool j)))
 (some (.done (V.bool false))))
 (some (.done (V.bool false))))
 (aE aA 73 [V.str b] fun k =>
  kB k fun l =>
  cond l
 (cond (Op.bytesLess g b)
 (cond (decide (a ≥ 0))
 (cond (decide (a<=1024))
 (aE aA 204 [V.agg [V.sl e,V.sl f,V.str b,V.int .i64 a]] fun m =>
  kB m fun n =>
  some (.done (V.bool n)))
 (some (.done (V.bool false))))
 (some (.done (V.bool false))))
 (some (.done (V.bool false))))
 (some (.done (V.bool false))))) fun o p =>
  kT o fun c=>bV c fun q c=>kS q fun d =>
  bV c fun r c=>kI .i64 r fun s =>
  en c<|aE aA 73 [V.str d] fun t =>
  kB t fun u =>
  cond (!u)
 (some (.done (V.bool false)))
 (cond (Op.bytesLess d g || d==g)
 (some (.done (V.bool false)))
 (aE aA 203 [V.int .i64 s] fun v =>
  kB v fun w =>
  cond (!w)
 (some (.done (V.bool false)))
 (some (.head 0 (xl p e f b a d)))))
theorem y4 (a b c d e f): Rd false 0 154 0 (xl a b c d e f) (Cr a b c d e f):=rd (by kernel_rfl)
def xg (a:List V) (b:List UInt8) (c:Int): S:=⟨[V.junk,V.junk,V.str [],V.ptr 0 0 0,V.junk,V.ptr 1 0 0]++(JU 57)++[V.rest [9,3] a]++(JU 21),[O.box 9 (V.str b) false,O.box 3 (V.int .i64 c) false]⟩
noncomputable def ED (b a:List V) (c:List UInt8) (d:Int): R :=
 aE aA 154 [V.agg [V.sl b,V.sl a,V.str c,V.int .i64 d]] fun f =>
 kB f fun g =>
 cond (!g)
 (some (.done (V.str [])))
 (aE aA 163 [V.agg [V.sl b,V.sl a,V.str c,V.int .i64 d]] fun h =>
  kI .i64 h fun i =>
  aE aA 160 [V.str [UInt8.ofNat ((78:Int)).toNat],V.int .i64 i] fun j =>
  k7 j fun k w =>
  aE aA 161 [V.str k,V.int .i64 1,V.int .i64 1,V.int .u64 (W .u64 ((b.length:Int)))] fun l =>
  k7 l fun m x =>
  aE aA 161 [V.str m,V.int .i64 2,V.int .i64 2,V.int .u64 (W .u64 (d))] fun n =>
  k7 n fun o y =>
  aE aA 162 [V.str o,V.int .i64 4,V.str c] fun p =>
  jg p fun q e z =>
  aS a 0 fun r =>
  kI .i64 r fun s =>
  aE aA 161 [V.str q,V.int .i64 e,V.int .i64 2,V.int .u64 (W .u64 (s))] fun t =>
  k7 t fun u aa =>
  gd (dm 1 a) <|
  gd (decide (1<=a.length)) <|
  bk (u7 [V.ref (V.sl b) 0,V.ref (V.sl ((a.take a.length).drop 1)) 0]) fun v =>
  some (.head 0 (xg (v.map V.tup) u (W .i64 (e+2)))))
theorem KM (a b c d): Ep 121 [V.agg [V.sl a,V.sl b,V.str c,V.int .i64 d]] (ED a b c d):=ep (by kernel_rfl) (by kernel_rfl)
noncomputable def Ht (d:List V) (b:List UInt8) (e:Int): R :=
 kx d
 (some (.done (V.str b))) fun f g =>
  kT f fun a=>bV a fun h a=>kS h fun i =>
  bV a fun j a=>kI .i64 j fun k =>
  en a<|aE aA 162 [V.str b,V.int .i64 e,V.str i] fun l =>
  jg l fun m c p =>
  aE aA 161 [V.str m,V.int .i64 c,V.int .i64 2,V.int .u64 (W .u64 (k))] fun n =>
  k7 n fun o q =>
  some (.head 0 (xg g o (W .i64 (c+2))))
theorem Pf (a b c): Rd false 0 121 0 (xg a b c) (Ht a b c):=rd (by kernel_rfl)
def xk (a b:List UInt8) (c:Int) (d:Bool) (e:List UInt8) (f:Int) (g:List V): S:=⟨[V.str a,V.junk,V.ptr 0 0 0,V.int .i64 0,V.ptr 1 0 0,V.ptr 2 0 0,V.int .i64 0]++(JU 79),[O.box 150 (V.agg [V.tail 3 0,V.tail 4 0,V.str [],V.int .i64 0]) false,O.box 245 (V.agg [V.str b,V.int .i64 c,V.bool d]) false,O.box 150 (V.agg [V.nilS,V.tail 5 0,V.str e,V.int .i64 f]) false,O.row 9 [] 0,O.row 3 [] 0,O.row 3 g 0]⟩
def ni (a:List UInt8) (b:Int) (c:List UInt8) (d:Int) (e:Bool) (f:List UInt8) (g:Int) (h i:List V): S:=⟨[V.str a,V.junk,V.ptr 0 0 0,V.int .i64 0,V.ptr 1 0 0,V.ptr 2 0 0,V.int .i64 b]++(JU 79),[O.box 150 (V.agg [V.tail 3 0,V.tail 4 0,V.str [],V.int .i64 0]) false,O.box 245 (V.agg [V.str c,V.int .i64 d,V.bool e]) false,O.box 150 (V.agg [V.tail 5 0,V.tail 6 0,V.str f,V.int .i64 g]) false,O.row 9 [] 0,O.row 3 [] 0,O.row 9 h 0,O.row 3 i 0]⟩
noncomputable def oW (a:List UInt8): R :=
 cond (decide ((a.length:Int)<=4))
 (some (.done (V.tup [V.agg [V.sl [],V.sl [],V.str [],V.int .i64 0],V.int .i64 4])))
 (cond (decide ((a.length:Int) > 252))
 (some (.done (V.tup [V.agg [V.sl [],V.sl [],V.str [],V.int .i64 0],V.int .i64 4])))
 (aS a 0 fun g =>
  cond ((g.toNat:Int) != (78:Int))
 (some (.done (V.tup [V.agg [V.sl [],V.sl [],V.str [],V.int .i64 0],V.int .i64 4])))
 (aE aA 214 [V.str a,V.int .i64 2,V.int .i64 2] fun h =>
  lK h fun d i =>
  aE aA 71 [V.str a,V.int .i64 4] fun j =>
  jg j fun e b k =>
  cond (i==(0:Int))
 (aE aA 214 [V.str a,V.int .i64 (if 4 < b then b else 4),V.int .i64 2] fun l =>
  lK l fun c m =>
  cond (k==(0:Int))
 (gd (decide (([V.int .i64 (W .i64 (c))]:List V).length<=16777216)) <|
  some (.head 0 (xk a a (W .i64 ((if 4 < b then b else 4)+2)) (m==(0:Int)) e (W .i64 (d)) [V.int .i64 (W .i64 (c))])))
 (gd (decide (([V.int .i64 (W .i64 (c))]:List V).length<=16777216)) <|
  some (.head 0 (xk a a (W .i64 ((if 4 < b then b else 4)+2)) false e (W .i64 (d)) [V.int .i64 (W .i64 (c))]))))
 (aE aA 214 [V.str a,V.int .i64 (if 4 < b then b else 4),V.int .i64 2] fun n =>
  lK n fun f o =>
  gd (decide (([V.int .i64 (W .i64 (f))]:List V).length<=16777216)) <|
  some (.head 0 (xk a a (W .i64 ((if 4 < b then b else 4)+2)) false e (W .i64 (d)) [V.int .i64 (W .i64 (f))]))))))
theorem vm (a): Ep 130 [V.str a] (oW a):=ep (by kernel_rfl) (by kernel_rfl)
noncomputable def t7 (b g:List UInt8) (a:Int) (i:Bool) (e:List UInt8) (f:Int) (c:List V): R :=
 cond i
 (aS b 1 fun l =>
  cond (decide (0 < W .i64 ((l.toNat:Int))))
 (aE aA 71 [V.str g,V.int .i64 a] fun m =>
  jg m fun h d n =>
  cond i
 (gd (decide (([V.str h]:List V).length<=16777216)) <|
  aE aA 214 [V.str g,V.int .i64 (if a < d then d else a),V.int .i64 2] fun o =>
  lK o fun j p =>
  cond (n==(0:Int))
 (gd (decide (c.length+([V.int .i64 (W .i64 (j))]:List V).length<=16777216)) <|
  some (.head 0 (ni b 1 g (W .i64 ((if a < d then d else a)+2)) (p==(0:Int)) e f [V.str h] (c++[V.int .i64 (W .i64 (j))]))))
 (gd (decide (c.length+([V.int .i64 (W .i64 (j))]:List V).length<=16777216)) <|
  some (.head 0 (ni b 1 g (W .i64 ((if a < d then d else a)+2)) false e f [V.str h] (c++[V.int .i64 (W .i64 (j))])))))
 (gd (decide (([V.str h]:List V).length<=16777216)) <|
  aE aA 214 [V.str g,V.int .i64 (if a < d then d else a),V.int .i64 2] fun q =>
  lK q fun k z =>
  gd (decide (c.length+([V.int .i64 (W .i64 (k))]:List V).length<=16777216)) <|
  some (.head 0 (ni b 1 g (W .i64 ((if a < d then d else a)+2)) false e f [V.str h] (c++[V.int .i64 (W .i64 (k))])))))
 (cond (!i)
 (some (.done (V.tup [V.agg [V.sl [],V.sl [],V.str [],V.int .i64 0],V.int .i64 4])))
 (aE aA 154 [V.agg [V.sl [],V.sl c,V.str e,V.int .i64 f]] fun r =>
  kB r fun s =>
  cond (!s)
 (some (.done (V.tup [V.agg [V.sl [],V.sl [],V.str [],V.int .i64 0],V.int .i64 4])))
 (gd (decide (0<=a)) <|
  gd (decide (a.toNat<=b.length)) <|
  aE aA 176 [V.str ((b.take b.length).drop a.toNat)] fun t =>
  kS t fun u =>
  cond (!(u==[]))
 (some (.done (V.tup [V.agg [V.sl [],V.sl [],V.str [],V.int .i64 0],V.int .i64 4])))
 (some (.done (V.tup [V.agg [V.sl [],V.sl c,V.str e,V.int .i64 f],V.int .i64 0])))))))
 (cond (!i)
 (some (.done (V.tup [V.agg [V.sl [],V.sl [],V.str [],V.int .i64 0],V.int .i64 4])))
 (aE aA 154 [V.agg [V.sl [],V.sl c,V.str e,V.int .i64 f]] fun v =>
  kB v fun w =>
  cond (!w)
 (some (.done (V.tup [V.agg [V.sl [],V.sl [],V.str [],V.int .i64 0],V.int .i64 4])))
 (gd (decide (0<=a)) <|
  gd (decide (a.toNat<=b.length)) <|
  aE aA 176 [V.str ((b.take b.length).drop a.toNat)] fun x =>
  kS x fun y =>
  cond (!(y==[]))
 (some (.done (V.tup [V.agg [V.sl [],V.sl [],V.str [],V.int .i64 0],V.int .i64 4])))
 (some (.done (V.tup [V.agg [V.sl [],V.sl c,V.str e,V.int .i64 f],V.int .i64 0]))))))
theorem wu (a b c d e f g): Rd false 0 130 0 (xk a b c d e f g) (t7 a b c d e f g):=rd (by kernel_rfl)
noncomputable def ry (b:List UInt8) (j:Int) (h:List UInt8) (a:Int) (k:Bool) (f:List UInt8) (g:Int) (e c:List V): R :=
 cond k
 (aS b 1 fun n =>
  cond (decide (j < W .i64 ((n.toNat:Int))))
 (aE aA 71 [V.str h,V.int .i64 a] fun o =>
  jg o fun i d p =>
  cond k
 (gd (decide (e.length+([V.str i]:List V).length<=16777216)) <|
  aE aA 214 [V.str h,V.int .i64 (if a < d then d else a),V.int .i64 2] fun q =>
  lK q fun l r =>
  cond (p==(0:Int))
 (gd (decide (c.length+([V.int .i64 (W .i64 (l))]:List V).length<=16777216)) <|
  some (.head 0 (ni b (W .i64 (j+1)) h (W .i64 ((if a < d then d else a)+2)) (r==(0:Int)) f g (e++[V.str i]) (c++[V.int .i64 (W .i64 (l))]))))
 (gd (decide (c.length+([V.int .i64 (W .i64 (l))]:List V).length<=16777216)) <|
  some (.head 0 (ni b (W .i64 (j+1)) h (W .i64 ((if a < d then d else a)+2)) false f g (e++[V.str i]) (c++[V.int .i64 (W .i64 (l))])))))
 (gd (decide (e.length+([V.str i]:List V).length<=16777216)) <|
  aE aA 214 [V.str h,V.int .i64 (if a < d then d else a),V.int .i64 2] fun s =>
  lK s fun m ab =>
  gd (decide (c.length+([V.int .i64 (W .i64 (m))]:List V).length<=16777216)) <|
  some (.head 0 (ni b (W .i64 (j+1)) h (W .i64 ((if a < d then d else a)+2)) false f g (e++[V.str i]) (c++[V.int .i64 (W .i64 (m))])))))
 (cond (!k)
 (some (.done (V.tup [V.agg [V.sl [],V.sl [],V.str [],V.int .i64 0],V.int .i64 4])))
 (aE aA 154 [V.agg [V.sl e,V.sl c,V.str f,V.int .i64 g]] fun t =>
  kB t fun u =>
  cond (!u)
 (some (.done (V.tup [V.agg [V.sl [],V.sl [],V.str [],V.int .i64 0],V.int .i64 4])))
 (gd (decide (0<=a)) <|
  gd (decide (a.toNat<=b.length)) <|
  aE aA 176 [V.str ((b.take b.length).drop a.toNat)] fun v =>
  kS v fun w =>
  cond (!(w==[]))
 (some (.done (V.tup [V.agg [V.sl [],V.sl [],V.str [],V.int .i64 0],V.int .i64 4])))
 (some (.done (V.tup [V.agg [V.sl e,V.sl c,V.str f,V.int .i64 g],V.int .i64 0])))))))
 (cond (!k)
 (some (.done (V.tup [V.agg [V.sl [],V.sl [],V.str [],V.int .i64 0],V.int .i64 4])))
 (aE aA 154 [V.agg [V.sl e,V.sl c,V.str f,V.int .i64 g]] fun x =>
  kB x fun y =>
  cond (!y)
 (some (.done (V.tup [V.agg [V.sl [],V.sl [],V.str [],V.int .i64 0],V.int .i64 4])))
 (gd (decide (0<=a)) <|
  gd (decide (a.toNat<=b.length)) <|
  aE aA 176 [V.str ((b.take b.length).drop a.toNat)] fun z =>
  kS z fun aa =>
  cond (!(aa==[]))
 (some (.done (V.tup [V.agg [V.sl [],V.sl [],V.str [],V.int .i64 0],V.int .i64 4])))
 (some (.done (V.tup [V.agg [V.sl e,V.sl c,V.str f,V.int .i64 g],V.int .i64 0]))))))
theorem rz (a b c d e f g h i): Rd false 0 130 0 (ni a b c d e f g h i) (ry a b c d e f g h i):=rd (by kernel_rfl)
noncomputable def Ez (b f:List V) (c:List UInt8) (g:Int) (a:List UInt8): R :=
 aE aA 154 [V.agg [V.sl b,V.sl f,V.str c,V.int .i64 g]] fun h =>
 kB h fun i =>
 cond (!i)
 (some (.done (V.tup [V.int .i64 0,V.int .i64 1])))
 (aE aA 73 [V.str a] fun j =>
  kB j fun k =>
  cond (!k)
 (some (.done (V.tup [V.int .i64 0,V.int .i64 1])))
 (cond (!(c==[]))
 (cond (!Op.bytesLess a c)
 (some (.done (V.tup [V.int .i64 0,V.int .i64 1])))
 (aE aA 155 [V.sl b,V.str a] fun l =>
  lI l fun d m =>
  cond m
 (some (.done (V.tup [V.int .i64 (W .i64 (d+1)),V.int .i64 0])))
 (some (.done (V.tup [V.int .i64 d,V.int .i64 0])))))
 (aE aA 155 [V.sl b,V.str a] fun n =>
  lI n fun e o =>
  cond o
 (some (.done (V.tup [V.int .i64 (W .i64 (e+1)),V.int .i64 0])))
 (some (.done (V.tup [V.int .i64 e,V.int .i64 0]))))))
theorem TM (a b c d e): Ep 114 [V.agg [V.sl a,V.sl b,V.str c,V.int .i64 d],V.str e] (Ez a b c d e):=ep (by kernel_rfl) (by kernel_rfl)
theorem TL (a b c d e): Ed 114 [V.agg [V.sl a,V.sl b,V.str c,V.int .i64 d],V.str e] (Ez a b c d e):=ed (TM a b c d e)
noncomputable def EN (j k:List V) (h:List UInt8) (i:Int) (b:List UInt8) (c:Int): R :=
 aE aA 114 [V.agg [V.sl j,V.sl k,V.str h,V.int .i64 i],V.str b] fun l =>
 xG l fun a m =>
 cond (m != (0:Int))
 (some (.done (V.tup [V.agg [V.sl [],V.sl [],V.str [],V.int .i64 0],V.int .i64 1])))
 (aE aA 203 [V.int .i64 c] fun n =>
  kB n fun o =>
  cond (!o)
 (some (.done (V.tup [V.agg [V.sl [],V.sl [],V.str [],V.int .i64 0],V.int .i64 1])))
 (cond (decide (a > 0))
 (gd (decide (0<=W .i64 (a - 1))) <|
  aS j ((W .i64 (a - 1)).toNat) fun p =>
  kS p fun q =>
  cond (q==b)
 (some (.done (V.tup [V.agg [V.sl [],V.sl [],V.str [],V.int .i64 0],V.int .i64 8])))
 (aE aA 171 [V.sl j] fun r =>
  kF 9 r fun d =>
  gd (decide (0<=a/\a.toNat<=d.length/\d.length+([V.str b]:List V).length<=16777216)) <|
  aE aA 173 [V.sl k] fun s =>
  kF 3 s fun e =>
  gd (decide (0<=W .i64 (a+1)/\(W .i64 (a+1)).toNat<=e.length/\e.length+([V.int .i64 c]:List V).length<=16777216)) <|
  aE aA 204 [V.agg [V.sl (((d.take a.toNat)++[V.str b])++(d.drop a.toNat)),V.sl (((e.take ((W .i64 (a+1)).toNat))++[V.int .i64 c])++(e.drop ((W .i64 (a+1)).toNat))),V.str h,V.int .i64 i]] fun t =>
  kB t fun u =>
  cond (!u)
 (some (.done (V.tup [V.agg [V.sl [],V.sl [],V.str [],V.int .i64 0],V.int .i64 6])))
 (some (.done (V.tup [V.agg [V.sl (((d.take a.toNat)++[V.str b])++(d.drop a.toNat)),V.sl (((e.take ((W .i64 (a+1)).toNat))++[V.int .i64 c])++(e.drop ((W .i64 (a+1)).toNat))),V.str h,V.int .i64 i],V.int .i64 0])))))
 (aE aA 171 [V.sl j] fun v =>
  kF 9 v fun f =>
  gd (decide (0<=a/\a.toNat<=f.length/\f.length+([V.str b]:List V).length<=16777216)) <|
  aE aA 173 [V.sl k] fun w =>
  kF 3 w fun g =>
  gd (decide (0<=W .i64 (a+1)/\(W .i64 (a+1)).toNat<=g.length/\g.length+([V.int .i64 c]:List V).length<=16777216)) <|
  aE aA 204 [V.agg [V.sl (((f.take a.toNat)++[V.str b])++(f.drop a.toNat)),V.sl (((g.take ((W .i64 (a+1)).toNat))++[V.int .i64 c])++(g.drop ((W .i64 (a+1)).toNat))),V.str h,V.int .i64 i]] fun x =>
  kB x fun y =>
  cond (!y)
 (some (.done (V.tup [V.agg [V.sl [],V.sl [],V.str [],V.int .i64 0],V.int .i64 6])))
 (some (.done (V.tup [V.agg [V.sl (((f.take a.toNat)++[V.str b])++(f.drop a.toNat)),V.sl (((g.take ((W .i64 (a+1)).toNat))++[V.int .i64 c])++(g.drop ((W .i64 (a+1)).toNat))),V.str h,V.int .i64 i],V.int .i64 0]))))))
theorem Uq (a b c d e f): Ep 167 [V.agg [V.sl a,V.sl b,V.str c,V.int .i64 d],V.str e,V.int .i64 f] (EN a b c d e f):=ep (by kernel_rfl) (by kernel_rfl)
theorem Up (a b c d e f): Ed 167 [V.agg [V.sl a,V.sl b,V.str c,V.int .i64 d],V.str e,V.int .i64 f] (EN a b c d e f):=ed (Uq a b c d e f)
noncomputable def EF (e b:List V) (f:List UInt8) (g a:Int): R :=
 aE aA 154 [V.agg [V.sl e,V.sl b,V.str f,V.int .i64 g]] fun h =>
 kB h fun i =>
 cond (!i)
 (some (.done (V.tup [V.agg [V.sl [],V.sl [],V.str [],V.int .i64 0],V.int .i64 1])))
 (cond (decide (a < 0))
 (some (.done (V.tup [V.agg [V.sl [],V.sl [],V.str [],V.int .i64 0],V.int .i64 1])))
 (cond (decide (a ≥ (b.length:Int)))
 (some (.done (V.tup [V.agg [V.sl [],V.sl [],V.str [],V.int .i64 0],V.int .i64 1])))
 (cond ((b.length:Int)==(1:Int))
 (some (.done (V.tup [V.agg [V.sl [],V.sl [],V.str [],V.int .i64 0],V.int .i64 1])))
 (aE aA 171 [V.sl e] fun j =>
  kF 9 j fun c =>
  gd (decide (0<=(if 0 < W .i64 (a - 1) then W .i64 (a - 1) else 0)/\(if 0 < W .i64 (a - 1) then W .i64 (a - 1) else 0)<=W .i64 ((if 0 < W .i64 (a - 1) then W .i64 (a - 1) else 0)+1)/\(W .i64 ((if 0 < W .i64 (a - 1) then W .i64 (a - 1) else 0)+1)).toNat<=c.length/\c.length<=16777216)) <|
  aE aA 173 [V.sl b] fun k =>
  kF 3 k fun d =>
  gd (decide (0<=a/\a<=W .i64 (a+1)/\(W .i64 (a+1)).toNat<=d.length/\d.length<=16777216)) <|
  some (.done (V.tup [V.agg [V.sl ((c.take ((if 0 < W .i64 (a - 1) then W .i64 (a - 1) else 0).toNat))++(c.drop ((W .i64 ((if 0 < W .i64 (a - 1) then W .i64 (a - 1) else 0)+1)).toNat))),V.sl ((d.take a.toNat)++(d.drop ((W .i64 (a+1)).toNat))),V.str f,V.int .i64 g],V.int .i64 0]))))))
theorem T2 (a b c d e): Ep 126 [V.agg [V.sl a,V.sl b,V.str c,V.int .i64 d],V.int .i64 e] (EF a b c d e):=ep (by kernel_rfl) (by kernel_rfl)
theorem T1 (a b c d e): Ed 126 [V.agg [V.sl a,V.sl b,V.str c,V.int .i64 d],V.int .i64 e] (EF a b c d e):=ed (T2 a b c d e)
noncomputable def EO (a b:List V) (c:List UInt8) (d e:Int): R :=
 aE aA 154 [V.agg [V.sl a,V.sl b,V.str c,V.int .i64 d]] fun g =>
 kB g fun h =>
 cond (!h)
 (some (.done (V.tup [V.agg [V.sl [],V.sl [],V.str [],V.int .i64 0],V.agg [V.sl [],V.sl [],V.str [],V.int .i64 0],V.str [],V.int .i64 1])))
 (cond (decide ((b.length:Int) < 3))
 (some (.done (V.tup [V.agg [V.sl [],V.sl [],V.str [],V.int .i64 0],V.agg [V.sl [],V.sl [],V.str [],V.int .i64 0],V.str [],V.int .i64 1])))
 (aE aA 203 [V.int .i64 e] fun i =>
  kB i fun j =>
  cond (!j)
 (some (.done (V.tup [V.agg [V.sl [],V.sl [],V.str [],V.int .i64 0],V.agg [V.sl [],V.sl [],V.str [],V.int .i64 0],V.str [],V.int .i64 1])))
 (gd (decide (0<=W .i64 (((a.length:Int).tdiv 2)))) <|
  aS a ((W .i64 (((a.length:Int).tdiv 2))).toNat) fun k =>
  kS k fun f =>
  gd (dm 1 a) <|
  gd (decide (0<=W .i64 (((a.length:Int).tdiv 2)))) <|
  gd (decide ((W .i64 (((a.length:Int).tdiv 2))).toNat<=a.length)) <|
  aE aA 171 [V.sl (a.take ((W .i64 (((a.length:Int).tdiv 2))).toNat))] fun l =>
  kF 9 l fun m =>
  gd (dm 1 b) <|
  gd (decide (0<=W .i64 ((W .i64 (((a.length:Int).tdiv 2)))+1))) <|
  gd (decide ((W .i64 ((W .i64 (((a.length:Int).tdiv 2)))+1)).toNat<=b.length)) <|
  aE aA 173 [V.sl (b.take ((W .i64 ((W .i64 (((a.length:Int).tdiv 2)))+1)).toNat))] fun n =>
  kF 3 n fun o =>
  gd (dm 1 a) <|
  gd (decide (0<=W .i64 ((W .i64 (((a.length:Int).tdiv 2)))+1))) <|
  gd (decide ((W .i64 ((W .i64 (((a.length:Int).tdiv 2)))+1)).toNat<=a.length)) <|
  aE aA 171 [V.sl ((a.take a.length).drop ((W .i64 ((W .i64 (((a.length:Int).tdiv 2)))+1)).toNat))] fun p =>
  kF 9 p fun q =>
  gd (dm 1 b) <|
  gd (decide (0<=W .i64 ((W .i64 (((a.length:Int).tdiv 2)))+1))) <|
  gd (decide ((W .i64 ((W .i64 (((a.length:Int).tdiv 2)))+1)).toNat<=b.length)) <|
  aE aA 173 [V.sl ((b.take b.length).drop ((W .i64 ((W .i64 (((a.length:Int).tdiv 2)))+1)).toNat))] fun r =>
  kF 3 r fun s =>
  some (.done (V.tup [V.agg [V.sl m,V.sl o,V.str f,V.int .i64 (W .i64 (e+1))],V.agg [V.sl q,V.sl s,V.str c,V.int .i64 d],V.str f,V.int .i64 0])))))
theorem Us (a b c d e): Ep 168 [V.agg [V.sl a,V.sl b,V.str c,V.int .i64 d],V.int .i64 e] (EO a b c d e):=ep (by kernel_rfl) (by kernel_rfl)
theorem Ur (a b c d e): Ed 168 [V.agg [V.sl a,V.sl b,V.str c,V.int .i64 d],V.int .i64 e] (EO a b c d e):=ed (Us a b c d e)
noncomputable def EM (a b:List UInt8): R :=
 some (.done (V.int .i64 (W .i64 ((W .i64 (2+(a.length:Int)))+(b.length:Int)))))
theorem Uo (a b): Ep 165 [V.agg [V.str a,V.str b]] (EM a b):=ep (by kernel_rfl) (by kernel_rfl)
theorem Un (a b): Ed 165 [V.agg [V.str a,V.str b]] (EM a b):=ed (Uo a b)
def uQ (a:Int) (b:List V) (c d:Int): S:=⟨[V.junk,V.junk,V.int .i64 0,V.int .i64 a]++(JU 7)++[V.sl b,V.int .i64 c,V.int .i64 d]++(JU 9),[]⟩
noncomputable def KZ (a:List V) (b:List UInt8) (c:Int): R :=
 some (.head 0 (uQ (W .i64 (5+(b.length:Int))) a (a.length:Int) 0))
theorem Uh (a b c): Ep 159 [V.agg [V.sl a,V.str b,V.int .i64 c]] (KZ a b c):=ep (by kernel_rfl) (by kernel_rfl)
noncomputable def HC (b:Int) (c:List V) (d a:Int): R :=
 cond (decide (a < d))
 (gd (decide (0<=a)) <|
  aS c a.toNat fun e =>
  dE e fun f g =>
  aE aA 165 [V.agg [V.str f,V.str g]] fun h =>
  kI .i64 h fun i =>
  some (.head 0 (uQ (W .i64 (b+i)) c d (W .i64 (a+1)))))
 (some (.done (V.int .i64 b)))
theorem Pl (a b c d): Rd false 0 159 0 (uQ a b c d) (HC a b c d):=rd (by kernel_rfl)
noncomputable def EC (b:List V) (a:List UInt8) (c:Int): R :=
 aE aA 159 [V.agg [V.sl b,V.str a,V.int .i64 c]] fun d =>
 kI .i64 d fun e =>
 some (.done (V.bool (decide (W .i64 ((W .i64 (e - (a.length:Int)))+16)<=252))))
theorem TU (a b c): Ep 118 [V.agg [V.sl a,V.str b,V.int .i64 c]] (EC a b c):=ep (by kernel_rfl) (by kernel_rfl)
theorem TT (a b c): Ed 118 [V.agg [V.sl a,V.str b,V.int .i64 c]] (EC a b c):=ed (TU a b c)
def xe (a:List UInt8) (b:List V) (c d:Int) (e:List V) (f:List UInt8) (g:Int): S:=⟨[V.junk,V.ptr 0 0 0,V.bool false,V.str a]++(JU 4)++[V.sl b,V.int .i64 c,V.int .i64 d]++(JU 51),[O.box 120 (V.agg [V.sl e,V.str f,V.int .i64 g]) false]⟩
noncomputable def KH (a:List V) (b:List UInt8) (c:Int): R :=
 some (.head 0 (xe [] a (a.length:Int) 0 a b c))
theorem TN (a b c): Ep 115 [V.agg [V.sl a,V.str b,V.int .i64 c]] (KH a b c):=ep (by kernel_rfl) (by kernel_rfl)
noncomputable def Cm (e:List UInt8) (g:List V) (h c:Int) (f:List V) (b:List UInt8) (a:Int): R :=
 cond (decide (c < h))
 (gd (decide (0<=c)) <|
  aS g c.toNat fun i =>
  dE i fun d j =>
  aE aA 73 [V.str d] fun k =>
  kB k fun l =>
  cond (!l)
 (some (.done (V.bool false)))
 (aE aA 74 [V.str j] fun m =>
  kB m fun n =>
  cond (!n)
 (some (.done (V.bool false)))
 (cond (Op.bytesLess d e || d==e)
 (some (.done (V.bool false)))
 (some (.head 0 (xe d g h (W .i64 (c+1)) f b a))))))
 (cond (b==[])
 (cond (decide (a ≥ 0))
 (cond (decide (a<=1024))
 (aE aA 118 [V.agg [V.sl f,V.str b,V.int .i64 a]] fun o =>
  kB o fun p =>
  some (.done (V.bool p)))
 (some (.done (V.bool false))))
 (some (.done (V.bool false))))
 (aE aA 73 [V.str b] fun q =>
  kB q fun r =>
  cond r
 (cond (Op.bytesLess e b)
 (cond (decide (a ≥ 0))
 (cond (decide (a<=1024))
 (aE aA 118 [V.agg [V.sl f,V.str b,V.int .i64 a]] fun s =>
  kB s fun t =>
  some (.done (V.bool t)))
 (some (.done (V.bool false))))
 (some (.done (V.bool false))))
 (some (.done (V.bool false))))
 (some (.done (V.bool false)))))
theorem yU (a b c d e f g): Rd false 0 115 0 (xe a b c d e f g) (Cm a b c d e f g):=rd (by kernel_rfl)
def xf (a:List UInt8) (b:Int) (c:List V) (d e:Int): S:=⟨[V.junk,V.junk,V.str [],V.str a,V.junk,V.int .i64 b]++(JU 40)++[V.sl c,V.int .i64 d,V.int .i64 e]++(JU 23),[]⟩
noncomputable def KL (a:List V) (b:List UInt8) (c:Int): R :=
 aE aA 115 [V.agg [V.sl a,V.str b,V.int .i64 c]] fun d =>
 kB d fun e =>
 cond (!e)
 (some (.done (V.str [])))
 (aE aA 159 [V.agg [V.sl a,V.str b,V.int .i64 c]] fun f =>
  kI .i64 f fun g =>
  aE aA 160 [V.str [UInt8.ofNat ((76:Int)).toNat],V.int .i64 g] fun h =>
  k7 h fun i q =>
  aE aA 161 [V.str i,V.int .i64 1,V.int .i64 1,V.int .u64 (W .u64 ((a.length:Int)))] fun j =>
  k7 j fun k r =>
  aE aA 161 [V.str k,V.int .i64 2,V.int .i64 2,V.int .u64 (W .u64 (c))] fun l =>
  k7 l fun m s =>
  aE aA 162 [V.str m,V.int .i64 4,V.str b] fun n =>
  jg n fun o p t =>
  some (.head 0 (xf o p a (a.length:Int) 0)))
theorem TX (a b c): Ep 120 [V.agg [V.sl a,V.str b,V.int .i64 c]] (KL a b c):=ep (by kernel_rfl) (by kernel_rfl)
noncomputable def Hs (b:List UInt8) (e:Int) (c:List V) (d a:Int): R :=
 cond (decide (a < d))
 (gd (decide (0<=a)) <|
  aS c a.toNat fun f =>
  dE f fun g h =>
  aE aA 162 [V.str b,V.int .i64 e,V.str g] fun i =>
  jg i fun j k o =>
  aE aA 162 [V.str j,V.int .i64 k,V.str h] fun l =>
  jg l fun m n p =>
  some (.head 0 (xf m n c d (W .i64 (a+1)))))
 (some (.done (V.str b)))
theorem Pe (a b c d e): Rd false 0 120 0 (xf a b c d e) (Hs a b c d e):=rd (by kernel_rfl)
def DI (a:List UInt8) (b c:Int) (d:List UInt8) (e:Int): S:=⟨[V.str a,V.junk,V.ptr 0 0 0,V.int .i64 0,V.bool false,V.int .u64 b]++(JU 4)++[V.int .i64 c,V.junk,V.ptr 1 0 0,V.bool true]++(JU 75),[O.box 120 (V.agg [V.tail 2 0,V.str [],V.int .i64 0]) false,O.box 120 (V.agg [V.nilS,V.str d,V.int .i64 e]) false,O.row 41 [] 0]⟩
def Jt (a:List UInt8) (b c d:Int) (e:List UInt8) (f:Int): S:=⟨[V.str a,V.junk,V.ptr 0 0 0,V.int .i64 0,V.bool false,V.int .u64 b]++(JU 4)++[V.int .i64 c,V.junk,V.ptr 1 0 0,V.bool true]++(JU 42)++[V.int .u64 d,V.int .u64 0]++(JU 31),[O.box 120 (V.agg [V.tail 2 0,V.str [],V.int .i64 0]) false,O.box 120 (V.agg [V.nilS,V.str e,V.int .i64 f]) false,O.row 41 [] 0]⟩
def oO (a:List UInt8) (b c d e:Int) (f:List UInt8) (g:Int) (h i:List UInt8): S:=⟨[V.str a,V.junk,V.ptr 0 0 0,V.int .i64 0,V.bool false,V.int .u64 b]++(JU 4)++[V.int .i64 c,V.junk,V.ptr 1 0 0,V.bool true,V.ptr 2 0 0]++(JU 41)++[V.int .u64 d,V.int .u64 0,V.junk,V.junk,V.junk,V.agg [V.ptr 2 0 0,V.ptr 2 0 1],V.int .i64 e]++(JU 26),[O.box 120 (V.agg [V.tail 3 0,V.str [],V.int .i64 0]) false,O.box 120 (V.agg [V.nilS,V.str f,V.int .i64 g]) false,O.box 41 (V.agg [V.str h,V.str i]) false,O.row 41 [] 0]⟩
def zZ (a:List UInt8) (b c d e:Int) (f:List UInt8) (g:Int) (h:List V): S:=⟨[V.str a,V.junk,V.ptr 0 0 0,V.int .i64 0,V.bool false,V.int .u64 b]++(JU 4)++[V.int .i64 c,V.junk,V.ptr 1 0 0,V.bool true]++(JU 42)++[V.int .u64 d,V.int .u64 e]++(JU 31),[O.box 120 (V.agg [V.tail 2 0,V.str [],V.int .i64 0]) false,O.box 120 (V.agg [V.tail 3 0,V.str f,V.int .i64 g]) false,O.row 41 [] 0,O.row 41 h 0]⟩
def oP (a:List UInt8) (b c d e f:Int) (g:List UInt8) (h:Int) (i j:List UInt8) (k:List V): S:=⟨[V.str a,V.junk,V.ptr 0 0 0,V.int .i64 0,V.bool false,V.int .u64 b]++(JU 4)++[V.int .i64 c,V.junk,V.ptr 1 0 0,V.bool true,V.ptr 2 0 0]++(JU 41)++[V.int .u64 d,V.int .u64 e,V.junk,V.junk,V.junk,V.agg [V.ptr 2 0 0,V.ptr 2 0 1],V.int .i64 f]++(JU 26),[O.box 120 (V.agg [V.tail 3 0,V.str [],V.int .i64 0]) false,O.box 120 (V.agg [V.tail 4 0,V.str g,V.int .i64 h]) false,O.box 41 (V.agg [V.str i,V.str j]) false,O.row 41 [] 0,O.row 41 k 0]⟩
noncomputable def EP (a:List UInt8): R :=
 aE aA 214 [V.str a,V.int .i64 1,V.int .i64 1] fun b =>
 lK b fun c d =>
 aE aA 214 [V.str a,V.int .i64 2,V.int .i64 2] fun e =>
 lK e fun f g =>
 aE aA 71 [V.str a,V.int .i64 4] fun h =>
 jg h fun i j k =>
 cond (d != (0:Int))
 (some (.done (V.tup [V.agg [V.sl [],V.str [],V.int .i64 0],V.int .i64 0,V.bool false])))
 (cond (g != (0:Int))
 (some (.done (V.tup [V.agg [V.sl [],V.str [],V.int .i64 0],V.int .i64 0,V.bool false])))
 (cond (k != (0:Int))
 (some (.done (V.tup [V.agg [V.sl [],V.str [],V.int .i64 0],V.int .i64 0,V.bool false])))
 (aS a 0 fun l =>
  cond ((l.toNat:Int) != (76:Int))
 (some (.done (V.tup [V.agg [V.sl [],V.str [],V.int .i64 0],V.int .i64 0,V.bool false])))
 (some (.head 0 (DI a c j i (W .i64 (f))))))))
theorem K3 (a): Ep 175 [V.str a] (EP a):=ep (by kernel_rfl) (by kernel_rfl)
noncomputable def aaK (b:List UInt8) (a c:Int) (d:List UInt8) (e:Int): R :=
 some (.head 1 (Jt b a c a d e))
theorem aaL (a b c d e): Rd false 0 175 0 (DI a b c d e) (aaK a b c d e):=rd (by kernel_rfl)
noncomputable def HG (e:List UInt8) (f a b:Int) (c:List UInt8) (d:Int): R :=
 cond (decide (0 < b))
 (some (.head 2 (oO e f a b 0 c d [] [])))
 (some (.done (V.tup [V.agg [V.sl [],V.str c,V.int .i64 d],V.int .i64 a,V.bool true])))
theorem Pp (a b c d e f): Rd false 0 175 1 (Jt a b c d e f) (HG a b c d e f):=rd (by kernel_rfl)
noncomputable def Ps (a:List UInt8) (e b f:Int) (c:List UInt8) (d:Int) (l g:List UInt8): R :=
 aE aA 71 [V.str a,V.int .i64 b] fun h =>
 jg h fun i j k =>
 cond (k != (0:Int))
 (some (.done (V.tup [V.agg [V.sl [],V.str c,V.int .i64 d],V.int .i64 b,V.bool false])))
 (some (.head 2 (oO a e j f 1 c d i g)))
theorem aaM (a b c d e f g h): Rd false 0 175 2 (oO a b c d 0 e f g h) (Ps a b c d e f g h):=rd (by kernel_rfl)
noncomputable def Pt (a:List UInt8) (e b f:Int) (c:List UInt8) (d:Int) (g l:List UInt8): R :=
 aE aA 71 [V.str a,V.int .i64 b] fun h =>
 jg h fun i j k =>
 cond (k != (0:Int))
 (some (.done (V.tup [V.agg [V.sl [],V.str c,V.int .i64 d],V.int .i64 b,V.bool false])))
 (some (.head 2 (oO a e j f 2 c d g i)))
theorem aaN (a b c d e f g h): Rd false 0 175 2 (oO a b c d 1 e f g h) (Pt a b c d e f g h):=rd (by kernel_rfl)
noncomputable def Pu (c:List UInt8) (d e f:Int) (g:List UInt8) (h:Int) (a b:List UInt8): R :=
 gd (decide (([V.agg [V.str a,V.str b]]:List V).length<=16777216)) <|
 some (.head 1 (zZ c d e f (W .u64 (0+1)) g h [V.agg [V.str a,V.str b]]))
theorem aaO (a b c d e f g h): Rd false 0 175 2 (oO a b c d 2 e f g h) (Pu a b c d e f g h):=rd (by kernel_rfl)
noncomputable def HH (g:List UInt8) (h a b c:Int) (d:List UInt8) (e:Int) (f:List V): R :=
 cond (decide (c < b))
 (some (.head 2 (oP g h a b c 0 d e [] [] f)))
 (some (.done (V.tup [V.agg [V.sl f,V.str d,V.int .i64 e],V.int .i64 a,V.bool true])))
theorem Pq (a b c d e f g h): Rd false 0 175 1 (zZ a b c d e f g h) (HH a b c d e f g h):=rd (by kernel_rfl)
noncomputable def Pv (a:List UInt8) (f b g h:Int) (c:List UInt8) (d:Int) (n i:List UInt8) (e:List V): R :=
 aE aA 71 [V.str a,V.int .i64 b] fun j =>
 jg j fun k l m =>
 cond (m != (0:Int))
 (some (.done (V.tup [V.agg [V.sl e,V.str c,V.int .i64 d],V.int .i64 b,V.bool false])))
 (some (.head 2 (oP a f l g h 1 c d k i e)))
theorem aaP (a b c d e f g h i j): Rd false 0 175 2 (oP a b c d e 0 f g h i j) (Pv a b c d e f g h i j):=rd (by kernel_rfl)
noncomputable def Pw (a:List UInt8) (f b g h:Int) (c:List UInt8) (d:Int) (i n:List UInt8) (e:List V): R :=
 aE aA 71 [V.str a,V.int .i64 b] fun j =>
 jg j fun k l m =>
 cond (m != (0:Int))
 (some (.done (V.tup [V.agg [V.sl e,V.str c,V.int .i64 d],V.int .i64 b,V.bool false])))
 (some (.head 2 (oP a f l g h 2 c d i k e)))
theorem aaQ (a b c d e f g h i j): Rd false 0 175 2 (oP a b c d e 1 f g h i j) (Pw a b c d e f g h i j):=rd (by kernel_rfl)
noncomputable def Px (d:List UInt8) (e f g h:Int) (i:List UInt8) (j:Int) (a b:List UInt8) (c:List V): R :=
 gd (decide (c.length+([V.agg [V.str a,V.str b]]:List V).length<=16777216)) <|
 some (.head 1 (zZ d e f g (W .u64 (h+1)) i j (c++[V.agg [V.str a,V.str b]])))
theorem aaR (a b c d e f g h i j): Rd false 0 175 2 (oP a b c d e 2 f g h i j) (Px a b c d e f g h i j):=rd (by kernel_rfl)
noncomputable def AR (a:List UInt8): R :=
 cond (decide ((a.length:Int) > 252))
 (some (.done (V.tup [V.agg [V.sl [],V.str [],V.int .i64 0],V.int .i64 4])))
 (aE aA 175 [V.str a] fun f =>
  AM f fun c d e b g =>
  cond (!g)
 (some (.done (V.tup [V.agg [V.sl [],V.str [],V.int .i64 0],V.int .i64 4])))
 (aE aA 115 [V.agg [V.sl c,V.str d,V.int .i64 e]] fun h =>
  kB h fun i =>
  cond (!i)
 (some (.done (V.tup [V.agg [V.sl [],V.str [],V.int .i64 0],V.int .i64 4])))
 (gd (decide (0<=b)) <|
  gd (decide (b.toNat<=a.length)) <|
  aE aA 176 [V.str ((a.take a.length).drop b.toNat)] fun j =>
  kS j fun k =>
  cond (!(k==[]))
 (some (.done (V.tup [V.agg [V.sl [],V.str [],V.int .i64 0],V.int .i64 4])))
 (some (.done (V.tup [V.agg [V.sl c,V.str d,V.int .i64 e],V.int .i64 0]))))))
theorem T6 (a): Ep 129 [V.str a] (AR a):=ep (by kernel_rfl) (by kernel_rfl)
theorem KS (a): Ed 129 [V.str a] (AR a):=ed (T6 a)
noncomputable def EA (a:List V) (f:List UInt8) (g:Int) (b:List UInt8): R :=
 aE aA 156 [V.sl a,V.str b,V.fn 157 []] fun c =>
 lI c fun d e =>
 some (.done (V.tup [V.int .i64 d,V.bool e]))
theorem TQ (a b c d): Ep 116 [V.agg [V.sl a,V.str b,V.int .i64 c],V.str d] (EA a b c d):=ep (by kernel_rfl) (by kernel_rfl)
theorem TP (a b c d): Ed 116 [V.agg [V.sl a,V.str b,V.int .i64 c],V.str d] (EA a b c d):=ed (TQ a b c d)
noncomputable def EB (b:List V) (a d:Int) (c:List V): R :=
 gd (decide (0<=a)) <|
 gd (decide (a<=W .i64 ((b.length:Int)+(c.length:Int)))) <|
 gd (decide ((W .i64 ((b.length:Int)+(c.length:Int))).toNat<=16777216)) <|
 gd (dm 2 b) <|
 gd (decide (0<=a)) <|
 gd (decide (a.toNat<=b.length)) <|
 gd (dm 2 (b.take a.toNat)) <|
 gd (decide (0+((bH a.toNat (V.agg [V.str [],V.str []])).length)<=(bH a.toNat (V.agg [V.str [],V.str []])).length)) <|
 gd (dm 2 c) <|
 gd (decide (((bH a.toNat (V.agg [V.str [],V.str []])).take 0++(b.take a.toNat).take (min (b.take a.toNat).length ((bH a.toNat (V.agg [V.str [],V.str []])).length))++(bH a.toNat (V.agg [V.str [],V.str []])).drop (0+min (b.take a.toNat).length ((bH a.toNat (V.agg [V.str [],V.str []])).length))).length+c.length<=16777216)) <|
 gd (dm 2 b) <|
 gd (decide (0<=d)) <|
 gd (decide (d.toNat<=b.length)) <|
 gd (dm 2 ((b.take b.length).drop d.toNat)) <|
 gd (decide ((((bH a.toNat (V.agg [V.str [],V.str []])).take 0++(b.take a.toNat).take (min (b.take a.toNat).length ((bH a.toNat (V.agg [V.str [],V.str []])).length))++(bH a.toNat (V.agg [V.str [],V.str []])).drop (0+min (b.take a.toNat).length ((bH a.toNat (V.agg [V.str [],V.str []])).length)))++c).length+((b.take b.length).drop d.toNat).length<=16777216)) <|
 gd (((((bH a.toNat (V.agg [V.str [],V.str []])).take 0++(b.take a.toNat).take (min (b.take a.toNat).length ((bH a.toNat (V.agg [V.str [],V.str []])).length))++(bH a.toNat (V.agg [V.str [],V.str []])).drop (0+min (b.take a.toNat).length ((bH a.toNat (V.agg [V.str [],V.str []])).length)))++c)++((b.take b.length).drop d.toNat):List V).all fun e=>e.cells.all V.flat1) <|
 some (.done (V.fr 41 ((((bH a.toNat (V.agg [V.str [],V.str []])).take 0++(b.take a.toNat).take (min (b.take a.toNat).length ((bH a.toNat (V.agg [V.str [],V.str []])).length))++(bH a.toNat (V.agg [V.str [],V.str []])).drop (0+min (b.take a.toNat).length ((bH a.toNat (V.agg [V.str [],V.str []])).length)))++c)++((b.take b.length).drop d.toNat))))
theorem TS (a b c d): Ep 117 [V.sl a,V.int .i64 b,V.int .i64 c,V.sl d] (EB a b c d):=ep (by kernel_rfl) (by kernel_rfl)
theorem TR (a b c d): Ed 117 [V.sl a,V.int .i64 b,V.int .i64 c,V.sl d] (EB a b c d):=ed (TS a b c d)
noncomputable def E8 (a:List V) (b:List UInt8) (c:Int) (e:List UInt8): R :=
 aE aA 115 [V.agg [V.sl a,V.str b,V.int .i64 c]] fun f =>
 kB f fun g =>
 cond (!g)
 (some (.done (V.tup [V.str [],V.int .i64 1])))
 (aE aA 116 [V.agg [V.sl a,V.str b,V.int .i64 c],V.str e] fun h =>
  lI h fun d i =>
  cond (!i)
 (some (.done (V.tup [V.str [],V.int .i64 7])))
 (gd (decide (0<=d)) <|
  aS a d.toNat fun j =>
  dE j fun l k =>
  some (.done (V.tup [V.str k,V.int .i64 0]))))
theorem Vg (a b c d): Ep 76 [V.agg [V.sl a,V.str b,V.int .i64 c],V.str d] (E8 a b c d):=ep (by kernel_rfl) (by kernel_rfl)
theorem Vf (a b c d): Ed 76 [V.agg [V.sl a,V.str b,V.int .i64 c],V.str d] (E8 a b c d):=ed (Vg a b c d)
noncomputable def E9 (d:List V) (a:List UInt8) (b:Int) (c e:List UInt8): R :=
 aE aA 115 [V.agg [V.sl d,V.str a,V.int .i64 b]] fun l =>
 kB l fun m =>
 cond (!m)
 (some (.done (V.tup [V.agg [V.sl [],V.str [],V.int .i64 0],V.int .i64 1])))
 (aE aA 73 [V.str c] fun n =>
  kB n fun o =>
  cond (!o)
 (some (.done (V.tup [V.agg [V.sl [],V.str [],V.int .i64 0],V.int .i64 1])))
 (aE aA 74 [V.str e] fun p =>
  kB p fun q =>
  cond (!q)
 (some (.done (V.tup [V.agg [V.sl [],V.str [],V.int .i64 0],V.int .i64 1])))
 (cond (!(a==[]))
 (cond (!Op.bytesLess c a)
 (some (.done (V.tup [V.agg [V.sl [],V.str [],V.int .i64 0],V.int .i64 1])))
 (aE aA 116 [V.agg [V.sl d,V.str a,V.int .i64 b],V.str c] fun r =>
  lI r fun f s =>
  cond s
 (aE aA 117 [V.sl d,V.int .i64 f,V.int .i64 (W .i64 (f+1)),V.sl [V.agg [V.str c,V.str e]]] fun t =>
  kF 41 t fun h =>
  aE aA 118 [V.agg [V.sl h,V.str a,V.int .i64 b]] fun u =>
  kB u fun v =>
  cond (!v)
 (some (.done (V.tup [V.agg [V.sl [],V.str [],V.int .i64 0],V.int .i64 6])))
 (some (.done (V.tup [V.agg [V.sl h,V.str a,V.int .i64 b],V.int .i64 0]))))
 (aE aA 117 [V.sl d,V.int .i64 f,V.int .i64 f,V.sl [V.agg [V.str c,V.str e]]] fun w =>
  kF 41 w fun i =>
  aE aA 118 [V.agg [V.sl i,V.str a,V.int .i64 b]] fun x =>
  kB x fun y =>
  cond (!y)
 (some (.done (V.tup [V.agg [V.sl [],V.str [],V.int .i64 0],V.int .i64 6])))
 (some (.done (V.tup [V.agg [V.sl i,V.str a,V.int .i64 b],V.int .i64 0]))))))
 (aE aA 116 [V.agg [V.sl d,V.str a,V.int .i64 b],V.str c] fun z =>
  lI z fun g aa =>
  cond aa
 (aE aA 117 [V.sl d,V.int .i64 g,V.int .i64 (W .i64 (g+1)),V.sl [V.agg [V.str c,V.str e]]] fun ab =>
  kF 41 ab fun j =>
  aE aA 118 [V.agg [V.sl j,V.str a,V.int .i64 b]] fun ac =>
  kB ac fun ad =>
  cond (!ad)
 (some (.done (V.tup [V.agg [V.sl [],V.str [],V.int .i64 0],V.int .i64 6])))
 (some (.done (V.tup [V.agg [V.sl j,V.str a,V.int .i64 b],V.int .i64 0]))))
 (aE aA 117 [V.sl d,V.int .i64 g,V.int .i64 g,V.sl [V.agg [V.str c,V.str e]]] fun ae =>
  kF 41 ae fun k =>
  aE aA 118 [V.agg [V.sl k,V.str a,V.int .i64 b]] fun af =>
  kB af fun ag =>
  cond (!ag)
 (some (.done (V.tup [V.agg [V.sl [],V.str [],V.int .i64 0],V.int .i64 6])))
 (some (.done (V.tup [V.agg [V.sl k,V.str a,V.int .i64 b],V.int .i64 0]))))))))
theorem Vi (a b c d e): Ep 77 [V.agg [V.sl a,V.str b,V.int .i64 c],V.str d,V.str e] (E9 a b c d e):=ep (by kernel_rfl) (by kernel_rfl)
theorem Vh (a b c d e): Ed 77 [V.agg [V.sl a,V.str b,V.int .i64 c],V.str d,V.str e] (E9 a b c d e):=ed (Vi a b c d e)
noncomputable def Fa (a:List V) (b:List UInt8) (c:Int) (e:List UInt8): R :=
 aE aA 115 [V.agg [V.sl a,V.str b,V.int .i64 c]] fun f =>
 kB f fun g =>
 cond (!g)
 (some (.done (V.tup [V.agg [V.sl [],V.str [],V.int .i64 0],V.int .i64 1])))
 (aE aA 116 [V.agg [V.sl a,V.str b,V.int .i64 c],V.str e] fun h =>
  lI h fun d i =>
  cond (!i)
 (some (.done (V.tup [V.agg [V.sl [],V.str [],V.int .i64 0],V.int .i64 7])))
 (aE aA 117 [V.sl a,V.int .i64 d,V.int .i64 (W .i64 (d+1)),V.sl []] fun j =>
  kF 41 j fun k =>
  some (.done (V.tup [V.agg [V.sl k,V.str b,V.int .i64 c],V.int .i64 0]))))
theorem Vn (a b c d): Ep 80 [V.agg [V.sl a,V.str b,V.int .i64 c],V.str d] (Fa a b c d):=ep (by kernel_rfl) (by kernel_rfl)
theorem Vm (a b c d): Ed 80 [V.agg [V.sl a,V.str b,V.int .i64 c],V.str d] (Fa a b c d):=ed (Vn a b c d)
def qc (a b c d:Int) (e:List V) (f:List UInt8) (g:Int): S:=⟨[V.junk,V.int .i64 a,V.ptr 0 0 0,V.junk,V.ptr 1 0 0,V.ptr 2 0 0,V.int .i64 0,V.int .i64 b,V.int .i64 c,V.int .i64 d]++(JU 82),[O.box 120 (V.agg [V.sl e,V.str f,V.int .i64 g]) false,O.box 120 (V.agg [V.tail 3 0,V.str [],V.int .i64 0]) false,O.box 120 (V.agg [V.tail 4 0,V.str [],V.int .i64 0]) false,O.row 41 [] 0,O.row 41 [] 0]⟩
noncomputable def KN (a:List V) (b:List UInt8) (c d:Int): R :=
 aE aA 115 [V.agg [V.sl a,V.str b,V.int .i64 c]] fun e =>
 kB e fun f =>
 cond (!f)
 (some (.done (V.tup [V.agg [V.sl [],V.str [],V.int .i64 0],V.agg [V.sl [],V.str [],V.int .i64 0],V.int .i64 1])))
 (cond (decide ((a.length:Int) < 2))
 (some (.done (V.tup [V.agg [V.sl [],V.str [],V.int .i64 0],V.agg [V.sl [],V.str [],V.int .i64 0],V.int .i64 1])))
 (cond (decide (d < 0))
 (some (.done (V.tup [V.agg [V.sl [],V.str [],V.int .i64 0],V.agg [V.sl [],V.str [],V.int .i64 0],V.int .i64 1])))
 (cond (decide (d ≥ 1024))
 (some (.done (V.tup [V.agg [V.sl [],V.str [],V.int .i64 0],V.agg [V.sl [],V.str [],V.int .i64 0],V.int .i64 1])))
 (aE aA 159 [V.agg [V.sl a,V.str b,V.int .i64 c]] fun g =>
  kI .i64 g fun h =>
  some (.head 0 (qc d (W .i64 ((W .i64 ((W .i64 (h - 4)) - 1)) - (b.length:Int))) 0 0 a b c))))))
theorem TY (a b c d): Ep 122 [V.agg [V.sl a,V.str b,V.int .i64 c],V.int .i64 d] (KN a b c d):=ep (by kernel_rfl) (by kernel_rfl)
noncomputable def yW (c f a g:Int) (b:List V) (d:List UInt8) (e:Int): R :=
 cond (decide (a < W .i64 ((b.length:Int) - 1)))
 (cond (a==(0:Int))
 (gd (decide (0<=a)) <|
  aS b a.toNat fun h =>
  dE h fun i j =>
  aE aA 165 [V.agg [V.str i,V.str j]] fun k =>
  kI .i64 k fun l =>
  some (.head 0 (qc c f (W .i64 (a+1)) (W .i64 (g+l)) b d e)))
 (cond (decide (W .i64 (2 * g) < f))
 (gd (decide (0<=a)) <|
  aS b a.toNat fun m =>
  dE m fun n o =>
  aE aA 165 [V.agg [V.str n,V.str o]] fun p =>
  kI .i64 p fun q =>
  some (.head 0 (qc c f (W .i64 (a+1)) (W .i64 (g+q)) b d e)))
 (aE aA 117 [V.sl b,V.int .i64 a,V.int .i64 (b.length:Int),V.sl []] fun r =>
  kF 41 r fun s =>
  gd (decide (0<=a)) <|
  aS b a.toNat fun t =>
  dE t fun u ad =>
  aE aA 117 [V.sl b,V.int .i64 0,V.int .i64 a,V.sl []] fun v =>
  kF 41 v fun w =>
  some (.done (V.tup [V.agg [V.sl s,V.str u,V.int .i64 (W .i64 (c+1))],V.agg [V.sl w,V.str d,V.int .i64 e],V.int .i64 0])))))
 (aE aA 117 [V.sl b,V.int .i64 a,V.int .i64 (b.length:Int),V.sl []] fun x =>
  kF 41 x fun y =>
  gd (decide (0<=a)) <|
  aS b a.toNat fun z =>
  dE z fun aa ae =>
  aE aA 117 [V.sl b,V.int .i64 0,V.int .i64 a,V.sl []] fun ab =>
  kF 41 ab fun ac =>
  some (.done (V.tup [V.agg [V.sl y,V.str aa,V.int .i64 (W .i64 (c+1))],V.agg [V.sl ac,V.str d,V.int .i64 e],V.int .i64 0])))
theorem Co (a b c d e f g): Rd false 0 122 0 (qc a b c d e f g) (yW a b c d e f g):=rd (by kernel_rfl)
noncomputable def EQ (a:Int): R :=
 gd (decide (0<=a.tmod 8)) <|
 gd (decide ((a.tmod 8).toNat < 8)) <|
 aS [V.int .u8 1,V.int .u8 2,V.int .u8 4,V.int .u8 8,V.int .u8 16,V.int .u8 32,V.int .u8 64,V.int .u8 128] ((a.tmod 8).toNat) fun b =>
 kI .u8 b fun c =>
 some (.done (V.int .u8 c))
theorem Uz (a): Ep 193 [V.int .i64 a] (EQ a):=ep (by kernel_rfl) (by kernel_rfl)
theorem Uy (a): Ed 193 [V.int .i64 a] (EQ a):=ed (Uz a)
def zY (a:List V) (b c:Int) (d:List V): S:=⟨[V.sl a,V.int .i64 b,V.junk,V.junk,V.own 0,V.own 1,V.int .i64 c]++(JU 38),[O.row 38 [] 0,O.row 38 d 0]⟩
noncomputable def Ub (a:List V) (b:Int): R :=
 some (.head 0 (zY a b 0 []))
theorem Uc (a b): Ep 14 [V.sl a,V.int .i64 b] (Ub a b):=ep (by kernel_rfl) (by kernel_rfl)
noncomputable def Hz (e:List V) (g d:Int) (c:List V): R :=
 cond (decide (d < (e.length:Int)))
 (cond (decide (d < g))
 (gd (decide (0<=d)) <|
  aS e d.toNat fun j =>
  k6 j fun h a b i =>
  gd (decide (0<=(if 20 < (a.length:Int) then 20 else (a.length:Int)))) <|
  gd (decide ((if 20 < (a.length:Int) then 20 else (a.length:Int)).toNat<=a.length)) <|
  gd (decide (0<=(if 40 < (b.length:Int) then 40 else (b.length:Int)))) <|
  gd (decide ((if 40 < (b.length:Int) then 40 else (b.length:Int)).toNat<=b.length)) <|
  gd (decide (c.length+([V.agg [V.int .i64 h,V.str (a.take ((if 20 < (a.length:Int) then 20 else (a.length:Int)).toNat)),V.str (b.take ((if 40 < (b.length:Int) then 40 else (b.length:Int)).toNat)),V.int .i64 i]]:List V).length<=16777216)) <|
  some (.head 0 (zY e g (W .i64 (d+1)) (c++[V.agg [V.int .i64 h,V.str (a.take ((if 20 < (a.length:Int) then 20 else (a.length:Int)).toNat)),V.str (b.take ((if 40 < (b.length:Int) then 40 else (b.length:Int)).toNat)),V.int .i64 i]]))))
 (gd ((c:List V).all fun f=>f.cells.all V.flat1) <|
  some (.done (V.fr 38 c))))
 (gd ((c:List V).all fun f=>f.cells.all V.flat1) <|
  some (.done (V.fr 38 c)))
theorem Pk (a b c d): Rd false 0 14 0 (zY a b c d) (Hz a b c d):=rd (by kernel_rfl)
def xr (a:List V) (b:Int) (c d:List UInt8) (e:List V): S:=⟨[V.junk,V.junk,V.junk,V.ptr 0 0 0,V.own 1,V.sl a,V.own 2,V.int .i64 b]++(JU 38),[O.box 41 (V.agg [V.str c,V.str d]) false,O.row 41 [] 0,O.row 41 e 0]⟩
noncomputable def K8 (b:List V) (a c:List UInt8): R :=
 aE aA 41 [V.sl b,V.str a] fun d =>
 kF 41 d fun e =>
 some (.head 0 (xr e 0 a c []))
theorem US (a b c): Ep 38 [V.sl a,V.agg [V.str b,V.str c]] (K8 a b c):=ep (by kernel_rfl) (by kernel_rfl)
noncomputable def Cx (a:List V) (b:Int) (c e:List UInt8) (d:List V): R :=
 cond (decide (b < (a.length:Int)))
 (gd (decide (0<=b)) <|
  aS a b.toNat fun i =>
  dE i fun j n =>
  aE aA 35 [V.str j,V.str c] fun k =>
  kB k fun l =>
  cond l
 (gd (decide (0<=b)) <|
  aS a b.toNat fun m =>
  dE m fun g h =>
  gd (decide (d.length+([V.agg [V.str g,V.str h]]:List V).length<=16777216)) <|
  some (.head 0 (xr a (W .i64 (b+1)) c e (d++[V.agg [V.str g,V.str h]]))))
 (gd (decide (d.length+([V.agg [V.str c,V.str e]]:List V).length<=16777216)) <|
  gd (dm 2 a) <|
  gd (decide (0<=b)) <|
  gd (decide (b.toNat<=a.length)) <|
  gd (dm 2 ((a.take a.length).drop b.toNat)) <|
  gd (decide ((d++[V.agg [V.str c,V.str e]]).length+((a.take a.length).drop b.toNat).length<=16777216)) <|
  gd (((d++[V.agg [V.str c,V.str e]])++((a.take a.length).drop b.toNat):List V).all fun f=>f.cells.all V.flat1) <|
  some (.done (V.fr 41 ((d++[V.agg [V.str c,V.str e]])++((a.take a.length).drop b.toNat))))))
 (gd (decide (d.length+([V.agg [V.str c,V.str e]]:List V).length<=16777216)) <|
  gd (dm 2 a) <|
  gd (decide (0<=b)) <|
  gd (decide (b.toNat<=a.length)) <|
  gd (dm 2 ((a.take a.length).drop b.toNat)) <|
  gd (decide ((d++[V.agg [V.str c,V.str e]]).length+((a.take a.length).drop b.toNat).length<=16777216)) <|
  gd (((d++[V.agg [V.str c,V.str e]])++((a.take a.length).drop b.toNat):List V).all fun f=>f.cells.all V.flat1) <|
  some (.done (V.fr 41 ((d++[V.agg [V.str c,V.str e]])++((a.take a.length).drop b.toNat)))))
theorem HM (a b c d e): Rd false 0 38 0 (xr a b c d e) (Cx a b c d e):=rd (by kernel_rfl)
def xt (a:List V) (b:List UInt8) (c:Int) (d:List V): S:=⟨[V.sl a,V.str b,V.junk,V.junk,V.own 0,V.own 1,V.int .i64 c]++(JU 22),[O.row 41 [] 0,O.row 41 d 0]⟩
noncomputable def UT (a:List V) (b:List UInt8): R :=
 some (.head 0 (xt a b 0 []))
theorem UU (a b): Ep 41 [V.sl a,V.str b] (UT a b):=ep (by kernel_rfl) (by kernel_rfl)
noncomputable def Cz (b:List V) (d:List UInt8) (a:Int) (c:List V): R :=
 cond (decide (a < (b.length:Int)))
 (gd (decide (0<=a)) <|
  aS b a.toNat fun g =>
  dE g fun h k =>
  cond (!(h==d))
 (gd (decide (0<=a)) <|
  aS b a.toNat fun i =>
  dE i fun e f =>
  gd (decide (c.length+([V.agg [V.str e,V.str f]]:List V).length<=16777216)) <|
  some (.head 0 (xt b d (W .i64 (a+1)) (c++[V.agg [V.str e,V.str f]]))))
 (some (.head 0 (xt b d (W .i64 (a+1)) c))))
 (gd ((c:List V).all fun j=>j.cells.all V.flat1) <|
  some (.done (V.fr 41 c)))
theorem HO (a b c d): Rd false 0 41 0 (xt a b c d) (Cz a b c d):=rd (by kernel_rfl)
noncomputable def Ln (c:Int) (b:List (V × V)) (d:List V): R :=
 aT aA aF pi 131 [V.ptr 0 0 0,V.int .i64 0] (bm c d) fun a =>
 cond (a.2.1==(0:Int))
 (bk (iY b (V.int .i64 a.1) (V.str [])) fun e =>
  some (.doneM (V.tup [V.int .i64 a.1,V.int .i64 a.2.1]) (sm a.2.2.1 e a.2.2.2)))
 (some (.doneM (V.tup [V.int .i64 a.1,V.int .i64 a.2.1]) (sm a.2.2.1 b a.2.2.2)))
theorem Vp (a b c): Ec 84 4 aF [V.ptr 0 0 0] (sm a b c) (Ln a b c):=ec (by kernel_rfl) (by kernel_rfl)
noncomputable def Lp (c:Int) (b:List (V × V)) (d:List V): R :=
 aT aA aF pi 131 [V.ptr 0 0 0,V.int .i64 0] [O.box 192 (V.agg [V.tail 1 0,V.int .i64 c]) false,O.row 5 d 0] fun a =>
 cond (a.2.1==(0:Int))
 (bk (iY b (V.int .i64 a.1) (V.str [])) fun e =>
  some (.doneM (V.tup [V.int .i64 a.1,V.int .i64 a.2.1]) (sm a.2.2.1 e a.2.2.2)))
 (some (.doneM (V.tup [V.int .i64 a.1,V.int .i64 a.2.1]) (sm a.2.2.1 b a.2.2.2)))
theorem Vq (a b c): Ec 84 4 aF [V.ptr 0 0 0] [O.box 140 (V.agg [V.ptr 1 0 0,V.mp 2]) false,O.box 192 (V.agg [V.tail 3 0,V.int .i64 a]) false,O.map b,O.row 5 c 0] (Lp a b c):=ec (by kernel_rfl) (by kernel_rfl)
noncomputable def Lj (e:Int) (b:List V) (c:List UInt8) (d f g:Int) (h:List (V × V)) (i:List V): R :=
 aE aA 120 [V.agg [V.sl b,V.str c,V.int .i64 d]] fun j =>
 kS j fun k =>
 aT aA aF qT 119 [V.ptr 0 0 0,V.int .i64 e,V.str k] (sm g h i) fun a =>
 some (.doneM (V.tup []) (tm f a.2.1 a.2.2.1 a.2.2.2++[O.row 41 [] 0,O.box 120 (V.agg [V.sl b,V.str c,V.int .i64 d]) false]))
theorem Vj (a b c d e f g h): Ec 78 5 aF [V.ptr 0 0 0,V.int .i64 a,V.ifc 120 (V.agg [V.sl b,V.str c,V.int .i64 d])] (tm e f g h) (Lj a b c d e f g h):=ec (by kernel_rfl) (by kernel_rfl)
noncomputable def vn (f l:List UInt8) (e b:Int) (c:List (V × V)) (d:List V): R :=
 aE aA 73 [V.str f] fun n =>
 kB n fun o =>
 cond (!o)
 (some (.doneM (V.tup [V.bool false,V.int .i64 1]) (tm e b c d)))
 (aE aA 74 [V.str l] fun p =>
  kB p fun q =>
  cond (!q)
 (some (.doneM (V.tup [V.bool false,V.int .i64 1]) (tm e b c d)))
 (cf aA aF nT 75 [V.ptr 0 0 0,V.str f] (tm e b c d) fun a =>
  bu (tm e b c d) <|
  aE aA 76 [V.agg [V.sl a.2.1,V.str a.2.2.1,V.int .i64 a.2.2.2.1],V.str f] fun r =>
  k7 r fun v m =>
  aE aA 77 [V.agg [V.sl a.2.1,V.str a.2.2.1,V.int .i64 a.2.2.2.1],V.str f,V.str l] fun s =>
  oU s fun g h i t =>
  cond (t==(0:Int))
 (aT aA aF ej 78 [V.ptr 0 0 0,V.int .i64 a.2.2.2.2,V.ifc 120 (V.agg [V.sl g,V.str h,V.int .i64 i])] (tm e b c d) fun j =>
  some (.doneM (V.tup [V.bool (m != (0:Int)),V.int .i64 0]) (tm j.1 j.2.1 j.2.2.1 j.2.2.2++[O.row 41 [] 0,O.box 120 (V.agg [V.sl a.2.1,V.str a.2.2.1,V.int .i64 a.2.2.2.1]) false,O.row 41 [] 0,O.box 120 (V.agg [V.sl g,V.str h,V.int .i64 i]) false])))
 (cf aA aF mI 44 [V.ptr 0 0 0] (sm b c d) fun u =>
  bu (tm e b c d++[O.row 41 [] 0,O.box 120 (V.agg [V.sl a.2.1,V.str a.2.2.1,V.int .i64 a.2.2.2.1]) false,O.row 41 [] 0,O.box 120 (V.agg [V.sl g,V.str h,V.int .i64 i]) false]) <|
  cond (decide (u < W .i64 ((W .i64 ((a.1.length:Int)+1))+1)))
 (some (.doneM (V.tup [V.bool false,V.int .i64 6]) (tm e b c d++[O.row 41 [] 0,O.box 120 (V.agg [V.sl a.2.1,V.str a.2.2.1,V.int .i64 a.2.2.2.1]) false,O.row 41 [] 0,O.box 120 (V.agg [V.sl g,V.str h,V.int .i64 i]) false])))
 (aT aA aF pm 79 [V.ptr 0 0 0,V.sl a.1,V.agg [V.sl a.2.1,V.str a.2.2.1,V.int .i64 a.2.2.2.1],V.int .i64 a.2.2.2.2,V.agg [V.str f,V.str l]] (tm e b c d) fun k =>
  some (.doneM (V.tup [V.bool (m != (0:Int)),V.int .i64 0]) (tm k.1 k.2.1 k.2.2.1 k.2.2.2++[O.row 41 [] 0,O.box 120 (V.agg [V.sl a.2.1,V.str a.2.2.1,V.int .i64 a.2.2.2.1]) false,O.row 41 [] 0,O.box 120 (V.agg [V.sl g,V.str h,V.int .i64 i]) false]))))))
theorem UN (a b c d e f): Ec 32 5 aF [V.ptr 0 0 0,V.str a,V.str b] (tm c d e f) (vn a b c d e f):=ec (by kernel_rfl) (by kernel_rfl)
noncomputable def sS (l:List UInt8) (b c:Int) (d:List (V × V)) (e:List V): R :=
 aE aA 73 [V.str l] fun n =>
 kB n fun o =>
 cond (!o)
 (some (.doneM (V.int .i64 1) (tm b c d e)))
 (cf aA aF nT 75 [V.ptr 0 0 0,V.str l] (tm b c d e) fun a =>
  bu (tm b c d e) <|
  aE aA 80 [V.agg [V.sl a.2.1,V.str a.2.2.1,V.int .i64 a.2.2.2.1],V.str l] fun p =>
  oU p fun f g h m =>
  cond (m != (0:Int))
 (some (.doneM (V.int .i64 m) (tm b c d e++[O.row 41 [] 0,O.box 120 (V.agg [V.sl a.2.1,V.str a.2.2.1,V.int .i64 a.2.2.2.1]) false,O.row 41 [] 0,O.box 120 (V.agg [V.sl f,V.str g,V.int .i64 h]) false])))
 (cond (decide ((f.length:Int) > 0))
 (aT aA aF ej 78 [V.ptr 0 0 0,V.int .i64 a.2.2.2.2,V.ifc 120 (V.agg [V.sl f,V.str g,V.int .i64 h])] (tm b c d e) fun i =>
  some (.doneM (V.int .i64 0) (tm i.1 i.2.1 i.2.2.1 i.2.2.2++[O.row 41 [] 0,O.box 120 (V.agg [V.sl a.2.1,V.str a.2.2.1,V.int .i64 a.2.2.2.1]) false,O.row 41 [] 0,O.box 120 (V.agg [V.sl f,V.str g,V.int .i64 h]) false])))
 (cond ((a.1.length:Int)==(0:Int))
 (aT aA aF ej 78 [V.ptr 0 0 0,V.int .i64 a.2.2.2.2,V.ifc 120 (V.agg [V.sl f,V.str g,V.int .i64 h])] (tm b c d e) fun j =>
  some (.doneM (V.int .i64 0) (tm j.1 j.2.1 j.2.2.1 j.2.2.2++[O.row 41 [] 0,O.box 120 (V.agg [V.sl a.2.1,V.str a.2.2.1,V.int .i64 a.2.2.2.1]) false,O.row 41 [] 0,O.box 120 (V.agg [V.sl f,V.str g,V.int .i64 h]) false])))
 (aT aA aF qZ 81 [V.ptr 0 0 0,V.sl a.1,V.int .i64 a.2.2.2.2] (tm b c d e) fun k =>
  some (.doneM (V.int .i64 0) (tm k.1 k.2.1 k.2.2.1 k.2.2.2++[O.row 41 [] 0,O.box 120 (V.agg [V.sl a.2.1,V.str a.2.2.1,V.int .i64 a.2.2.2.1]) false,O.row 41 [] 0,O.box 120 (V.agg [V.sl f,V.str g,V.int .i64 h]) false]))))))
theorem UO (a b c d e): Ec 33 5 aF [V.ptr 0 0 0,V.str a] (tm b c d e) (sS a b c d e):=ec (by kernel_rfl) (by kernel_rfl)
noncomputable def EY (f:List UInt8) (b c:Int) (d:List (V × V)) (e:List V): R :=
 aE aA 73 [V.str f] fun g =>
 kB g fun h =>
 cond (!h)
 (some (.doneM (V.tup [V.str [],V.int .i64 1]) (tm b c d e)))
 (cf aA aF nT 75 [V.ptr 0 0 0,V.str f] (tm b c d e) fun a =>
  bu (tm b c d e) <|
  aE aA 76 [V.agg [V.sl a.2.1,V.str a.2.2.1,V.int .i64 a.2.2.2.1],V.str f] fun i =>
  k7 i fun j k =>
  some (.doneM (V.tup [V.str j,V.int .i64 k]) (tm b c d e++[O.row 41 [] 0,O.box 120 (V.agg [V.sl a.2.1,V.str a.2.2.1,V.int .i64 a.2.2.2.1]) false])))
theorem K9 (a b c d e): Ec 39 5 aF [V.ptr 0 0 0,V.str a] (tm b c d e) (EY a b c d e):=ec (by kernel_rfl) (by kernel_rfl)
def sA (a:Bool) (b c d e:Int) (f:List (V × V)) (g h:List V): S:=⟨[V.junk,V.junk,V.int .i64 0,V.junk,V.junk,V.bool a]++(JU 18)++[V.tail 5 0,V.int .i64 b,V.int .i64 c]++(JU 11),(tm d e f g++[O.row 3 h 0])⟩
noncomputable def EZ (b c:Int) (d:List (V × V)) (e:List V): R :=
 aT aA ⟨true,false,true,[3,9]⟩ nU 85 [V.ptr 0 0 0,V.ptr 1 0 0,V.int .i64 b,V.str [],V.str []] (lm b [] [] [] c d e) fun a =>
 some (.head 0 (sA a.2.1 (a.2.2.2.2.2.2.2.1.length:Int) 0 a.2.2.1 a.2.2.2.2.1 a.2.2.2.2.2.1 a.2.2.2.2.2.2.1 a.2.2.2.2.2.2.2.1))
theorem La (a b c d): Ec 40 5 aF [V.ptr 0 0 0] (tm a b c d) (EZ a b c d):=ec (by kernel_rfl) (by kernel_rfl)
noncomputable def Cy (h:Bool) (g a c d:Int) (e:List (V × V)) (f b:List V): R :=
 cond (decide (a < g))
 (gd (decide (0<=a)) <|
  gd (decide (a.toNat < b.length)) <|
  aS b (0+a.toNat) fun i =>
  kI .i64 i fun j =>
  cond h
 (some (.head 0 (sA (j==(0:Int)) g (W .i64 (a+1)) c d e f b)))
 (some (.head 0 (sA false g (W .i64 (a+1)) c d e f b))))
 (cond (!h)
 (some (.doneM (V.int .i64 4) (tm c d e f++[O.row 3 b 0])))
 (some (.doneM (V.int .i64 0) (tm c d e f++[O.row 3 b 0]))))
theorem HN (a b c d e f g h): Rd true 5 40 0 (sA a b c d e f g h) (Cy a b c d e f g h):=rd (by kernel_rfl)
noncomputable def Lb (a b:Int) (c:List (V × V)) (d:List V): R :=
 cf aA aF po 87 [V.ptr 0 0 0] (tm a b c d) fun f =>
 bu (tm a b c d++[O.row 3 [] 0]) <|
 aT aA ⟨true,false,false,[]⟩ tJ 86 [V.sl f] [] fun e =>
 gd (decide (e.length<=16777216)) <|
 bk (qH e) fun g =>
 some (.doneM (V.tail 6 0) (tm a b c d++[O.row 3 [] 0,O.row 3 ((srt g).map iV) 0]))
theorem UV (a b c d): Ec 42 5 aF [V.ptr 0 0 0] (tm a b c d) (Lb a b c d):=ec (by kernel_rfl) (by kernel_rfl)
noncomputable def Lh (a:Int) (c:List (V × V)) (b:List V): R :=
 cf aA aF pq 90 [V.ptr 0 0 0] (bm a b) fun d =>
 bu (sm a c b++[O.row 3 [] 0]) <|
 some (.doneM (V.sl d) (sm a c b++[O.row 3 [] 0]))
theorem U5 (a b c): Ec 50 4 aF [V.ptr 0 0 0] (sm a b c) (Lh a b c):=ec (by kernel_rfl) (by kernel_rfl)
def xp (a:List UInt8) (b:Int) (c:List V) (d e f g:Int) (h:List (V × V)) (i j:List V): S:=⟨[V.ptr 0 0 0,V.str a,V.int .i64 b,V.junk,V.junk,V.junk,V.own 5,V.own 6]++(JU 7)++[V.sl c,V.int .i64 d,V.int .i64 e]++(JU 34),(tm f g h i++[O.row 41 [] 0,O.row 41 j 0])⟩
def sy (a:List UInt8) (b:Int) (c:List V) (d e:Int) (f:List V) (g h i j:Int) (k:List (V × V)) (l m:List V): S:=⟨[V.ptr 0 0 0,V.str a,V.int .i64 b,V.junk,V.junk,V.junk,V.own 5,V.own 6]++(JU 7)++[V.sl c,V.int .i64 d,V.int .i64 e]++(JU 11)++[V.sl f,V.int .i64 g,V.int .i64 h]++(JU 20),(tm i j k l++[O.row 41 [] 0,O.row 41 m 0])⟩
def Ju (a:List UInt8) (b:Int) (c:List V) (d e f g:Int) (h:List (V × V)) (i j:List V): S:=⟨[V.ptr 0 0 0,V.str a,V.int .i64 b,V.junk,V.junk,V.junk,V.own 5,V.own 6]++(JU 7)++[V.sl c,V.int .i64 d,V.int .i64 e]++(JU 11)++[V.nilS,V.int .i64 0,V.int .i64 0]++(JU 20),(tm f g h i++[O.row 41 [] 0,O.row 41 j 0])⟩
noncomputable def K7 (f:List UInt8) (g a b:Int) (c:List (V × V)) (d:List V): R :=
 cf aA aF l7 46 [V.ptr 0 0 0] (tm a b c d) fun e =>
 bu (tm a b c d++[O.row 41 [] 0,O.row 41 [] 0]) <|
 some (.head 0 (xp f g e (e.length:Int) 0 a b c d []))
theorem UP (a b c d e f): Ec 34 5 aF [V.ptr 0 0 0,V.str a,V.int .i64 b] (tm c d e f) (K7 a b c d e f):=ec (by kernel_rfl) (by kernel_rfl)
noncomputable def HL (i:List UInt8) (j:Int) (g:List V) (h f a b:Int) (c:List (V × V)) (d e:List V): R :=
 cond (decide (f < h))
 (gd (decide (0<=f)) <|
  aS g f.toNat fun l =>
  kI .i64 l fun m =>
  gp aA aF (fN (tm a b c d)) (fO (tm a b c d)) (f0 (tm a b c d)) 82 [V.ptr 0 0 0,V.int .i64 m] (tm a b c d)
 (fun k =>
  bu (tm a b c d++[O.row 41 [] 0,O.row 41 e 0]) <|
  some (.head 1 (sy i j g h f k.1 (k.1.length:Int) 0 a b c d e)))
 (fun n =>
  bu (tm a b c d++[O.row 41 [] 0,O.row 41 e 0]) <|
  some (.head 1 (Ju i j g h f a b c d e)))
 (fun o =>
  bu (tm a b c d++[O.row 41 [] 0,O.row 41 e 0]) <|
  some (.head 1 (Ju i j g h f a b c d e))))
 (some (.doneM (V.own 6) (tm a b c d++[O.row 41 [] 0,O.row 41 e 0])))
theorem PD (a b c d e f g h i j): Rd true 5 34 0 (xp a b c d e f g h i j) (HL a b c d e f g h i j):=rd (by kernel_rfl)
noncomputable def Cv (c:List UInt8) (d:Int) (e:List V) (f g:Int) (h:List V) (i a j k:Int) (l:List (V × V)) (m b:List V): R :=
 cond (decide (a < i))
 (gd (decide (0<=a)) <|
  aS h a.toNat fun p =>
  dE p fun n o =>
  cond (!Op.bytesLess n c)
 (cond (decide ((b.length:Int) < d))
 (gd (decide (b.length+([V.agg [V.str n,V.str o]]:List V).length<=16777216)) <|
  some (.head 1 (sy c d e f g h i (W .i64 (a+1)) j k l m (b++[V.agg [V.str n,V.str o]]))))
 (some (.head 1 (sy c d e f g h i (W .i64 (a+1)) j k l m b))))
 (some (.head 1 (sy c d e f g h i (W .i64 (a+1)) j k l m b))))
 (some (.head 0 (xp c d e f (W .i64 (g+1)) j k l m b)))
theorem PE (a b c d e f g h i j k l m): Rd true 5 34 1 (sy a b c d e f g h i j k l m) (Cv a b c d e f g h i j k l m):=rd (by kernel_rfl)
def z7 (a b c d:Int) (e:List (V × V)) (f:List V): S:=⟨[V.ptr 0 0 0,V.junk,V.int .i64 0,V.int .i64 a,V.int .i64 b]++(JU 22),(tm c d e f)⟩
noncomputable def UW (a b:Int) (c:List (V × V)) (d:List V): R :=
 some (.head 0 (z7 0 a a b c d))
theorem UX (a b c d): Ec 43 5 aF [V.ptr 0 0 0] (tm a b c d) (UW a b c d):=ec (by kernel_rfl) (by kernel_rfl)
noncomputable def HQ (e f a b:Int) (c:List (V × V)) (d:List V): R :=
 gp aA aF (fN (tm a b c d)) (fO (tm a b c d)) (f0 (tm a b c d)) 82 [V.ptr 0 0 0,V.int .i64 f] (tm a b c d)
 (fun j =>
  bu (tm a b c d) <|
  some (.doneM (V.int .i64 e) (tm a b c d)))
 (fun g =>
  bu (tm a b c d) <|
  aS g.2.1 0 fun h =>
  kI .i64 h fun i =>
  some (.head 0 (z7 (W .i64 (e+1)) i a b c d)))
 (fun k =>
  bu (tm a b c d) <|
  some (.doneM (V.int .i64 e) (tm a b c d)))
theorem PF (a b c d e f): Rd true 5 43 0 (z7 a b c d e f) (HQ a b c d e f):=rd (by kernel_rfl)
noncomputable def Lc (a:Int) (c:List (V × V)) (b:List V): R :=
 cf aA aF rc 89 [V.ptr 0 0 0] (bm a b) fun d =>
 bu (sm a c b) <|
 some (.doneM (V.int .i64 d) (sm a c b))
theorem UY (a b c): Ec 44 4 aF [V.ptr 0 0 0] (sm a b c) (Lc a b c):=ec (by kernel_rfl) (by kernel_rfl)
noncomputable def Le (a b:Int) (c:List (V × V)) (d:List V): R :=
 cf aA aF po 87 [V.ptr 0 0 0] (tm a b c d) fun e =>
 bu (tm a b c d++[O.row 3 [] 0]) <|
 gd (decide (0<=W .i64 ((e.length:Int) - 1))) <|
 aS e ((W .i64 ((e.length:Int) - 1)).toNat) fun f =>
 kL f fun g =>
 some (.doneM (V.sl g) (tm a b c d++[O.row 3 [] 0]))
theorem U0 (a b c d): Ec 46 5 aF [V.ptr 0 0 0] (tm a b c d) (Le a b c d):=ec (by kernel_rfl) (by kernel_rfl)
def zV (a:List V) (b:Int) (c:List V): S:=⟨[V.junk,V.junk,V.ptr 2 0 0,V.junk,V.ptr 3 0 0,V.ptr 4 0 0]++(JU 7)++[V.rest [3] a]++(JU 9),(bm b c++[O.box 135 (V.ptr 0 0 0) false,O.box 3 (V.int .i64 0) false,O.box 27 (V.int .i64 0) false])⟩
noncomputable def KT (b a:Int) (c:List V): R :=
 cond (decide (b ≥ 0))
 (cond (!(decide (b < a)))
 (some (.doneM (V.tup [V.int .i64 0,V.int .i64 1]) (bm a c++[O.box 135 (V.ptr 0 0 0) false,O.box 3 (V.int .i64 0) false,O.box 27 (V.int .i64 1) false])))
 (bk (wi [V.ref (V.ref (V.agg [V.unk,V.int .i64 a]) 0) 0,V.ref (V.int .i64 b) 0]) fun d =>
  some (.head 0 (zV (d.map V.tup) a c))))
 (some (.doneM (V.tup [V.int .i64 0,V.int .i64 1]) (bm a c++[O.box 135 (V.ptr 0 0 0) false,O.box 3 (V.int .i64 0) false,O.box 27 (V.int .i64 1) false])))
theorem T7 (a b c): Ec 131 2 aF [V.ptr 0 0 0,V.int .i64 a] (bm b c) (KT a b c):=ec (by kernel_rfl) (by kernel_rfl)
noncomputable def Hw (f:List V) (a:Int) (b:List V): R :=
 kx f
 (some (.doneM (V.tup [V.int .i64 0,V.int .i64 6]) (bm a b++[O.box 135 (V.ptr 0 0 0) false,O.box 3 (V.int .i64 0) false,O.box 27 (V.int .i64 6) false]))) fun g h =>
  kT g fun e=>bV e fun i e=>kI .i64 i fun c =>
  en e<|cf aA aF mH 137 [V.ptr 0 0 0,V.int .i64 c] (bm a b) fun j =>
  bu (bm a b++[O.box 135 (V.ptr 0 0 0) false,O.box 3 (V.int .i64 0) false,O.box 27 (V.int .i64 0) false]) <|
  cond (!j)
 (aT aA aF tF 180 [V.ptr 0 0 0,V.int .i64 c] (bm a b) fun d =>
  some (.doneM (V.tup [V.int .i64 c,V.int .i64 d.1]) (bm d.2.1 d.2.2++[O.box 135 (V.ptr 0 0 0) false,O.box 3 (V.int .i64 c) false,O.box 27 (V.int .i64 d.1) false])))
 (some (.head 0 (zV h a b)))
theorem Pi (a b c): Rd true 2 131 0 (zV a b c) (Hw a b c):=rd (by kernel_rfl)
def RA (a:List V) (b:Int) (c:List V): S:=⟨[V.junk,V.junk,V.ptr 2 0 0,V.junk,V.ptr 3 0 0,V.ptr 4 0 0]++(JU 7)++[V.rest [3] a]++(JU 9),(bm b c++[O.box 135 (V.ptr 0 0 0) false,O.box 3 (V.int .i64 0) false,O.box 27 (V.int .i64 0) false])⟩
noncomputable def KU (b a:Int) (c:List V): R :=
 cond (decide (b ≥ 0))
 (cond (!(decide (b < a)))
 (some (.doneM (V.tup [V.int .i64 0,V.int .i64 1]) [O.box 192 (V.agg [V.tail 1 0,V.int .i64 a]) false,O.row 5 c 0,O.box 135 (V.ptr 0 0 0) false,O.box 3 (V.int .i64 0) false,O.box 27 (V.int .i64 1) false]))
 (bk (wi [V.ref (V.ref (V.agg [V.unk,V.int .i64 a]) 0) 0,V.ref (V.int .i64 b) 0]) fun d =>
  some (.head 0 (RA (d.map V.tup) a c))))
 (some (.doneM (V.tup [V.int .i64 0,V.int .i64 1]) [O.box 192 (V.agg [V.tail 1 0,V.int .i64 a]) false,O.row 5 c 0,O.box 135 (V.ptr 0 0 0) false,O.box 3 (V.int .i64 0) false,O.box 27 (V.int .i64 1) false]))
theorem T8 (a b c): Ec 131 2 aF [V.ptr 0 0 0,V.int .i64 a] [O.box 192 (V.agg [V.tail 1 0,V.int .i64 b]) false,O.row 5 c 0] (KU a b c):=ec (by kernel_rfl) (by kernel_rfl)
noncomputable def KJ (d:Int) (e:List UInt8) (a:Int) (b:List (V × V)) (c:List V): R :=
 cf aA aF mJ 58 [V.ptr 0 0 0,V.int .i64 d] (sm a b c) fun f =>
 bu (sm a b c) <|
 cond (f.2 != (0:Int))
 (some (.doneM (V.int .i64 f.2) (sm a b c)))
 (cond (decide ((e.length:Int) > 252))
 (some (.doneM (V.int .i64 2) (sm a b c)))
 (bk (iY b (V.int .i64 d) (V.str e)) fun g =>
  some (.doneM (V.int .i64 0) (sm a g c))))
theorem TV (a b c d e): Ec 119 4 aF [V.ptr 0 0 0,V.int .i64 a,V.str b] (sm c d e) (KJ a b c d e):=ec (by kernel_rfl) (by kernel_rfl)
def Ac (a:List UInt8) (b c d:Int) (e:List (V × V)) (f g:List V): S:=⟨[V.ptr 0 0 0,V.str a,V.junk,V.junk,V.own 5,V.ptr 6 0 0,V.int .i64 0,V.own 7,V.int .i64 b]++(JU 43),(tm c d e f++[O.row 176 [] 0,O.box 120 (V.agg [V.tail 8 0,V.str [],V.int .i64 0]) false,O.row 176 g 0,O.row 41 [] 0])⟩
noncomputable def Vd (b:List UInt8) (a c:Int) (d:List (V × V)) (e:List V): R :=
 some (.head 0 (Ac b a a c d e []))
theorem Ve (a b c d e): Ec 75 5 aF [V.ptr 0 0 0,V.str a] (tm b c d e) (Vd a b c d e):=ec (by kernel_rfl) (by kernel_rfl)
noncomputable def HU (j:List UInt8) (g b c:Int) (d:List (V × V)) (e f:List V): R :=
 gp aA aF (fN (tm b c d e)) (fO (tm b c d e)) (f0 (tm b c d e)) 82 [V.ptr 0 0 0,V.int .i64 g] (tm b c d e)
 (fun h =>
  bu (tm b c d e++[O.row 176 [] 0,O.box 120 (V.agg [V.tail 8 0,V.str [],V.int .i64 0]) false,O.row 176 f 0,O.row 41 [] 0]) <|
  some (.doneM (V.tup [V.own 5,V.agg [V.sl h.1,V.str h.2.1,V.int .i64 h.2.2],V.int .i64 g]) (tm b c d e++[O.row 176 f 0,O.box 120 (V.agg [V.sl h.1,V.str h.2.1,V.int .i64 h.2.2]) false])))
 (fun a =>
  bu (tm b c d e++[O.row 176 [] 0,O.box 120 (V.agg [V.tail 8 0,V.str [],V.int .i64 0]) false,O.row 176 f 0,O.row 41 [] 0]) <|
  aE aA 114 [V.agg [V.sl a.1,V.sl a.2.1,V.str a.2.2.1,V.int .i64 a.2.2.2],V.str j] fun k =>
  xG k fun i l =>
  cond (l != (0:Int))
 (some (.doneM (V.tup [V.own 5,V.agg [V.nilS,V.str [],V.int .i64 0],V.int .i64 g]) (tm b c d e++[O.row 176 f 0,O.box 120 (V.agg [V.nilS,V.str [],V.int .i64 0]) false])))
 (gd (decide (f.length+([V.agg [V.int .i64 g,V.sl a.1,V.sl a.2.1,V.str a.2.2.1,V.int .i64 a.2.2.2,V.int .i64 i]]:List V).length<=16777216)) <|
  gd (decide (0<=i)) <|
  aS a.2.1 i.toNat fun m =>
  kI .i64 m fun n =>
  some (.head 0 (Ac j n b c d e (f++[V.agg [V.int .i64 g,V.sl a.1,V.sl a.2.1,V.str a.2.2.1,V.int .i64 a.2.2.2,V.int .i64 i]])))))
 (fun o =>
  bu (tm b c d e++[O.row 176 [] 0,O.box 120 (V.agg [V.tail 8 0,V.str [],V.int .i64 0]) false,O.row 176 f 0,O.row 41 [] 0]) <|
  some (.doneM (V.tup [V.own 5,V.agg [V.nilS,V.str [],V.int .i64 0],V.int .i64 g]) (tm b c d e++[O.row 176 f 0,O.box 120 (V.agg [V.nilS,V.str [],V.int .i64 0]) false])))
theorem PI (a b c d e f g): Rd true 5 75 0 (Ac a b c d e f g) (HU a b c d e f g):=rd (by kernel_rfl)
noncomputable def AU (u l:List V) (m:List UInt8) (n d:Int) (b e:List UInt8) (v ab:Int) (ac:List (V × V)) (ad:List V): R :=
 aT aA aF jO 84 [V.ptr 0 0 0] (sm ab ac ad) fun a =>
 aE aA 122 [V.agg [V.sl l,V.str m,V.int .i64 n],V.int .i64 a.1] fun ae =>
 AK ae fun o c p q r s ah =>
 cond (Op.bytesLess b c)
 (aE aA 77 [V.agg [V.sl o,V.str c,V.int .i64 p],V.str b,V.str e] fun af =>
  oU af fun w t x ai =>
  aT aA aF ej 78 [V.ptr 0 0 0,V.int .i64 d,V.ifc 120 (V.agg [V.sl w,V.str t,V.int .i64 x])] (tm v a.2.2.1 a.2.2.2.1 a.2.2.2.2) fun f =>
  aT aA aF ej 78 [V.ptr 0 0 0,V.int .i64 a.1,V.ifc 120 (V.agg [V.sl q,V.str r,V.int .i64 s])] (tm f.1 f.2.1 f.2.2.1 f.2.2.2) fun g =>
  aT aA aF nR 123 [V.ptr 0 0 0,V.sl u,V.str t,V.int .i64 d,V.int .i64 a.1] (tm g.1 g.2.1 g.2.2.1 g.2.2.2) fun h =>
  some (.doneM (V.tup []) (tm h.1 h.2.1 h.2.2.1 h.2.2.2++[O.box 120 (V.agg [V.sl l,V.str m,V.int .i64 n]) false,O.box 41 (V.agg [V.str b,V.str e]) false,O.row 41 [] 0,O.box 120 (V.agg [V.sl w,V.str t,V.int .i64 x]) false,O.row 41 [] 0,O.box 120 (V.agg [V.sl q,V.str r,V.int .i64 s]) false])))
 (aE aA 77 [V.agg [V.sl q,V.str r,V.int .i64 s],V.str b,V.str e] fun ag =>
  oU ag fun y z aa aj =>
  aT aA aF ej 78 [V.ptr 0 0 0,V.int .i64 d,V.ifc 120 (V.agg [V.sl o,V.str c,V.int .i64 p])] (tm v a.2.2.1 a.2.2.2.1 a.2.2.2.2) fun i =>
  aT aA aF ej 78 [V.ptr 0 0 0,V.int .i64 a.1,V.ifc 120 (V.agg [V.sl y,V.str z,V.int .i64 aa])] (tm i.1 i.2.1 i.2.2.1 i.2.2.2) fun j =>
  aT aA aF nR 123 [V.ptr 0 0 0,V.sl u,V.str c,V.int .i64 d,V.int .i64 a.1] (tm j.1 j.2.1 j.2.2.1 j.2.2.2) fun k =>
  some (.doneM (V.tup []) (tm k.1 k.2.1 k.2.2.1 k.2.2.2++[O.box 120 (V.agg [V.sl l,V.str m,V.int .i64 n]) false,O.box 41 (V.agg [V.str b,V.str e]) false,O.row 41 [] 0,O.box 120 (V.agg [V.sl o,V.str c,V.int .i64 p]) false,O.row 41 [] 0,O.box 120 (V.agg [V.sl y,V.str z,V.int .i64 aa]) false])))
theorem Vl (a b c d e f g h i j k): Ec 79 5 aF [V.ptr 0 0 0,V.sl a,V.agg [V.sl b,V.str c,V.int .i64 d],V.int .i64 e,V.agg [V.str f,V.str g]] (tm h i j k) (AU a b c d e f g h i j k):=ec (by kernel_rfl) (by kernel_rfl)
def xu (a:List V) (b c d:Int) (e:List (V × V)) (f g:List V): S:=⟨[V.ptr 0 0 0,V.sl a]++(JU 4)++[V.own 5,V.int .i64 b]++(JU 91),(tm c d e f++[O.row 3 g 0])⟩
def nj (a:List V) (b c d e:Int) (f:List (V × V)) (g h:List V) (i:Int) (j k:List V) (l:List UInt8) (m n:Int): S:=⟨[V.ptr 0 0 0]++(JU 5)++[V.own 5,V.junk,V.ptr 6 0 0]++(JU 37)++[V.sl a,V.int .i64 b,V.int .i64 c]++(JU 50),(tm d e f g++[O.row 3 h 0,O.box 176 (V.agg [V.int .i64 i,V.sl j,V.sl k,V.str l,V.int .i64 m,V.int .i64 n]) false])⟩
def uU (a b c d:Int) (e:List (V × V)) (f g:List V): S:=⟨[V.ptr 0 0 0]++(JU 83)++[V.own 5,V.int .i64 a,V.int .i64 b]++(JU 12),(tm c d e f++[O.row 3 g 0])⟩
noncomputable def Lm (a:List V) (b c d:Int) (e:List (V × V)) (f:List V): R :=
 some (.head 0 (xu a (W .i64 ((a.length:Int) - 1)) c d e f [V.int .i64 b]))
theorem Vo (a b c d e f): Ec 81 5 aF [V.ptr 0 0 0,V.sl a,V.int .i64 b] (tm c d e f) (Lm a b c d e f):=ec (by kernel_rfl) (by kernel_rfl)
noncomputable def HV (b:List V) (a d e:Int) (f:List (V × V)) (g c:List V): R :=
 gd (decide (0<=a)) <|
 aS b a.toNat fun p =>
 lJ p fun t u q v w x =>
 cond ((q.length:Int)==(1:Int))
 (gd (decide (0<=a)) <|
  aS b a.toNat fun r =>
  lJ r fun h y z aa ab ac =>
  gd (decide (c.length+([V.int .i64 h]:List V).length<=16777216)) <|
  some (.head 0 (xu b (W .i64 (a - 1)) d e f g (c++[V.int .i64 h]))))
 (gd (decide (0<=a)) <|
  aS b a.toNat fun s =>
  lJ s fun i j k l m n =>
  cf aA aF qU 124 [V.ptr 0 0 0,V.sl b,V.int .i64 (c.length:Int)] (tm d e f g) fun o =>
  bu (tm d e f g++[O.row 3 c 0,O.box 176 (V.agg [V.int .i64 i,V.sl j,V.sl k,V.str l,V.int .i64 m,V.int .i64 n]) false]) <|
  some (.head 1 (nj o (o.length:Int) 0 d e f g c i j k l m n)))
theorem PK (a b c d e f g): Rd true 5 81 0 (xu a b c d e f g) (HV a b c d e f g):=rd (by kernel_rfl)
noncomputable def CC (n:List V) (o l a b:Int) (c:List (V × V)) (d e:List V) (g:Int) (h i:List V) (j:List UInt8) (k f:Int): R :=
 cond (decide (l < o))
 (gd (decide (0<=l)) <|
  aS n l.toNat fun aa =>
  kI .i64 aa fun p =>
  gp aA aF (fN (tm a b c d)) (fO (tm a b c d)) (f0 (tm a b c d)) 82 [V.ptr 0 0 0,V.int .i64 p] (tm a b c d)
 (fun q =>
  bu (tm a b c d++[O.row 3 e 0,O.box 176 (V.agg [V.int .i64 g,V.sl h,V.sl i,V.str j,V.int .i64 k,V.int .i64 f]) false]) <|
  gd (decide (0<=l)) <|
  gd (decide (l.toNat < e.length)) <|
  aS e l.toNat fun ab =>
  kI .i64 ab fun ac =>
  gp aA aF (fN (tm a b c d)) (fO (tm a b c d)) (f0 (tm a b c d)) 82 [V.ptr 0 0 0,V.int .i64 ac] (tm a b c d)
 (fun w =>
  bu (tm a b c d++[O.row 3 e 0,O.box 176 (V.agg [V.int .i64 g,V.sl h,V.sl i,V.str j,V.int .i64 k,V.int .i64 f]) false]) <|
  aT aA aF ej 78 [V.ptr 0 0 0,V.int .i64 p,V.ifc 120 (V.agg [V.sl q.1,V.str (cond (decide (f > 0)) w.2.1 q.2.1),V.int .i64 w.2.2])] (tm a b c d) fun r =>
  some (.head 1 (nj n o (W .i64 (l+1)) r.1 r.2.1 r.2.2.1 r.2.2.2 e g h i j k f)))
 (fun x =>
  bu (tm a b c d++[O.row 3 e 0,O.box 176 (V.agg [V.int .i64 g,V.sl h,V.sl i,V.str j,V.int .i64 k,V.int .i64 f]) false]) <|
  aT aA aF ej 78 [V.ptr 0 0 0,V.int .i64 p,V.ifc 120 (V.agg [V.sl q.1,V.str (cond (decide (f > 0)) x.2.2.1 q.2.1),V.int .i64 x.2.2.2])] (tm a b c d) fun s =>
  some (.head 1 (nj n o (W .i64 (l+1)) s.1 s.2.1 s.2.2.1 s.2.2.2 e g h i j k f)))
 (fun am =>
  bu (tm a b c d++[O.row 3 e 0,O.box 176 (V.agg [V.int .i64 g,V.sl h,V.sl i,V.str j,V.int .i64 k,V.int .i64 f]) false]) <|
  none))
 (fun m =>
  bu (tm a b c d++[O.row 3 e 0,O.box 176 (V.agg [V.int .i64 g,V.sl h,V.sl i,V.str j,V.int .i64 k,V.int .i64 f]) false]) <|
  gd (decide (0<=l)) <|
  gd (decide (l.toNat < e.length)) <|
  aS e l.toNat fun ad =>
  kI .i64 ad fun ae =>
  gp aA aF (fN (tm a b c d)) (fO (tm a b c d)) (f0 (tm a b c d)) 82 [V.ptr 0 0 0,V.int .i64 ae] (tm a b c d)
 (fun y =>
  bu (tm a b c d++[O.row 3 e 0,O.box 176 (V.agg [V.int .i64 g,V.sl h,V.sl i,V.str j,V.int .i64 k,V.int .i64 f]) false]) <|
  aT aA aF ej 78 [V.ptr 0 0 0,V.int .i64 p,V.ifc 150 (V.agg [V.sl m.1,V.sl m.2.1,V.str (cond (decide (f > 0)) y.2.1 m.2.2.1),V.int .i64 y.2.2])] (tm a b c d) fun t =>
  some (.head 1 (nj n o (W .i64 (l+1)) t.1 t.2.1 t.2.2.1 t.2.2.2 e g h i j k f)))
 (fun z =>
  bu (tm a b c d++[O.row 3 e 0,O.box 176 (V.agg [V.int .i64 g,V.sl h,V.sl i,V.str j,V.int .i64 k,V.int .i64 f]) false]) <|
  aT aA aF ej 78 [V.ptr 0 0 0,V.int .i64 p,V.ifc 150 (V.agg [V.sl m.1,V.sl m.2.1,V.str (cond (decide (f > 0)) z.2.2.1 m.2.2.1),V.int .i64 z.2.2.2])] (tm a b c d) fun u =>
  some (.head 1 (nj n o (W .i64 (l+1)) u.1 u.2.1 u.2.2.1 u.2.2.2 e g h i j k f)))
 (fun an =>
  bu (tm a b c d++[O.row 3 e 0,O.box 176 (V.agg [V.int .i64 g,V.sl h,V.sl i,V.str j,V.int .i64 k,V.int .i64 f]) false]) <|
  none))
 (fun ao =>
  bu (tm a b c d++[O.row 3 e 0,O.box 176 (V.agg [V.int .i64 g,V.sl h,V.sl i,V.str j,V.int .i64 k,V.int .i64 f]) false]) <|
  gd (decide (0<=l)) <|
  gd (decide (l.toNat < e.length)) <|
  aS e l.toNat fun af =>
  kI .i64 af fun ag =>
  gp aA aF (fN (tm a b c d)) (fO (tm a b c d)) (f0 (tm a b c d)) 82 [V.ptr 0 0 0,V.int .i64 ag] (tm a b c d)
 (fun ap =>
  bu (tm a b c d++[O.row 3 e 0,O.box 176 (V.agg [V.int .i64 g,V.sl h,V.sl i,V.str j,V.int .i64 k,V.int .i64 f]) false]) <|
  none)
 (fun aq =>
  bu (tm a b c d++[O.row 3 e 0,O.box 176 (V.agg [V.int .i64 g,V.sl h,V.sl i,V.str j,V.int .i64 k,V.int .i64 f]) false]) <|
  none)
 (fun ar =>
  bu (tm a b c d++[O.row 3 e 0,O.box 176 (V.agg [V.int .i64 g,V.sl h,V.sl i,V.str j,V.int .i64 k,V.int .i64 f]) false]) <|
  none)))
 (aE aA 126 [V.agg [V.sl h,V.sl i,V.str j,V.int .i64 k],V.int .i64 f] fun ah =>
  qp ah fun ai aj ak al au =>
  aT aA aF ej 78 [V.ptr 0 0 0,V.int .i64 g,V.ifc 150 (V.agg [V.sl ai,V.sl aj,V.str ak,V.int .i64 al])] (tm a b c d) fun v =>
  some (.head 2 (uU (e.length:Int) 0 v.1 v.2.1 v.2.2.1 v.2.2.2 e)))
theorem HW (a b c d e f g h i j k l m n): Rd true 5 81 1 (nj a b c d e f g h i j k l m n) (CC a b c d e f g h i j k l m n):=rd (by kernel_rfl)
noncomputable def HX (e a f g:Int) (h:List (V × V)) (i b:List V): R :=
 cond (decide (a < e))
 (gd (decide (0<=a)) <|
  gd (decide (a.toNat < b.length)) <|
  aS b a.toNat fun j =>
  kI .i64 j fun k =>
  aT aA aF qV 127 [V.ptr 0 0 0,V.int .i64 k] (sm g h i) fun d =>
  some (.head 2 (uU e (W .i64 (a+1)) f d.2.1 d.2.2.1 d.2.2.2 b)))
 (aT aA aF tC 128 [V.ptr 0 0 0] (tm f g h i) fun c =>
  some (.doneM (V.tup []) (tm c.1 c.2.1 c.2.2.1 c.2.2.2++[O.row 3 b 0])))
theorem PL (a b c d e f g): Rd true 5 81 2 (uU a b c d e f g) (HX a b c d e f g):=rd (by kernel_rfl)
noncomputable def Ll (f:Int) (b c:List V) (d:List UInt8) (e g h:Int) (i:List (V × V)) (j:List V): R :=
 aE aA 121 [V.agg [V.sl b,V.sl c,V.str d,V.int .i64 e]] fun k =>
 kS k fun l =>
 aT aA aF qT 119 [V.ptr 0 0 0,V.int .i64 f,V.str l] (sm h i j) fun a =>
 some (.doneM (V.tup []) (tm g a.2.1 a.2.2.1 a.2.2.2++[O.row 9 [] 0,O.row 3 [] 0,O.box 150 (V.agg [V.sl b,V.sl c,V.str d,V.int .i64 e]) false]))
theorem Vk (a b c d e f g h i): Ec 78 5 aF [V.ptr 0 0 0,V.int .i64 a,V.ifc 150 (V.agg [V.sl b,V.sl c,V.str d,V.int .i64 e])] (tm f g h i) (Ll a b c d e f g h i):=ec (by kernel_rfl) (by kernel_rfl)
def uV (a:Int) (b c:List UInt8) (d:Int) (e:List (V × V)) (f g:List V) (h:Int) (i:List (V × V)) (j:List V): S:=⟨[V.ptr 0 0 0,V.ptr 1 0 0,V.int .i64 a,V.str b,V.str c]++(JU 5)++[V.int .i64 0,V.bool false]++(JU 200),(lm d e f g h i j)⟩
def oQ (a:Int) (b:List UInt8) (c:Bool) (d:Int) (e:List (V × V)) (f g:List V) (h:Int) (i:List (V × V)) (j k:List V) (l:List UInt8) (m:Int): S:=⟨[V.junk,V.ptr 1 0 0,V.int .i64 a,V.str b]++(JU 6)++[V.int .i64 0,V.bool false,V.junk,V.junk,V.ptr 9 0 0,V.bool c]++(JU 196),(lm d e f g h i j++[O.box 120 (V.agg [V.sl k,V.str l,V.int .i64 m]) false])⟩
def uW (a:Int) (b c:List UInt8) (d:Bool) (e:Int) (f:List (V × V)) (g h:List V) (i:Int) (j:List (V × V)) (k l m:List V) (n:List UInt8) (o:Int): S:=⟨[V.ptr 0 0 0,V.ptr 1 0 0,V.int .i64 a,V.str b,V.str c]++(JU 5)++[V.int .i64 0,V.bool false]++(JU 4)++[V.ptr 9 0 0,V.bool d]++(JU 194),(lm e f g h i j k++[O.box 150 (V.agg [V.sl l,V.sl m,V.str n,V.int .i64 o]) false])⟩
def Ad (a:Int) (b c:List UInt8) (d:Bool) (e:List V) (f g:Int) (h:List (V × V)) (i j:List V) (k:Int) (l:List (V × V)) (m n o:List V) (p:List UInt8) (q:Int): S:=⟨[V.ptr 0 0 0,V.ptr 1 0 0,V.int .i64 a,V.str b,V.str c]++(JU 5)++[V.int .i64 0,V.bool false]++(JU 4)++[V.ptr 9 0 0,V.bool d,V.int .i64 0,V.bool true]++(JU 110)++[V.sl e,V.int .i64 f,V.int .i64 0]++(JU 79),(lm g h i j k l m++[O.box 150 (V.agg [V.sl n,V.sl o,V.str p,V.int .i64 q]) false])⟩
def DJ (a:Int) (b c:List UInt8) (d:Bool) (e:Int) (f g:List UInt8) (h:List V) (i j:Int) (k:List (V × V)) (l m:List V) (n:Int) (o:List (V × V)) (p q r:List V) (s:List UInt8) (t:Int): S:=⟨[V.ptr 0 0 0,V.ptr 1 0 0,V.int .i64 a,V.str b,V.str c]++(JU 5)++[V.int .i64 0,V.bool false]++(JU 4)++[V.ptr 9 0 0,V.bool d,V.int .i64 0,V.bool true,V.int .i64 0,V.int .i64 e,V.str f,V.str g]++(JU 106)++[V.sl h,V.int .i64 i,V.int .i64 0]++(JU 79),(lm j k l m n o p++[O.box 150 (V.agg [V.sl q,V.sl r,V.str s,V.int .i64 t]) false])⟩
def Af (a:Int) (b c:List UInt8) (d:Bool) (e:Int) (f g:List UInt8) (h:List V) (i j:Int) (k:List (V × V)) (l m:List V) (n:Int) (o:List (V × V)) (p q r:List V) (s:List UInt8) (t:Int): S:=⟨[V.ptr 0 0 0,V.ptr 1 0 0,V.int .i64 a,V.str b,V.str c]++(JU 5)++[V.int .i64 0,V.bool false]++(JU 4)++[V.ptr 9 0 0,V.bool d,V.int .i64 0,V.bool true,V.int .i64 0,V.int .i64 e,V.str f,V.str g]++(JU 106)++[V.sl h,V.int .i64 i,V.int .i64 0]++(JU 79),(lm j k l m n o p++[O.box 150 (V.agg [V.sl q,V.sl r,V.str s,V.int .i64 t]) false])⟩
def sB (a:Int) (b c:List UInt8) (d:Bool) (e:Int) (f:Bool) (g:List V) (h i j:Int) (k:List (V × V)) (l:Int) (m:List (V × V)) (n o p:List V) (q:List UInt8) (r:Int) (s t:List V): S:=⟨[V.ptr 0 0 0,V.ptr 1 0 0,V.int .i64 a,V.str b,V.str c]++(JU 5)++[V.int .i64 0,V.bool false]++(JU 4)++[V.ptr 9 0 0,V.bool d,V.int .i64 e,V.bool f]++(JU 110)++[V.sl g,V.int .i64 h,V.int .i64 i]++(JU 79),(ln j 10 11 k l m n++[O.box 150 (V.agg [V.sl o,V.sl p,V.str q,V.int .i64 r]) false,O.row 3 s 0,O.row 9 t 0])⟩
def Ae (a:Int) (b c:List UInt8) (d:Bool) (e:Int) (f:Bool) (g h:Int) (i j:List UInt8) (k:List V) (l m n:Int) (o:List (V × V)) (p:Int) (q:List (V × V)) (r s t:List V) (u:List UInt8) (v:Int) (w x:List V): S:=⟨[V.ptr 0 0 0,V.ptr 1 0 0,V.int .i64 a,V.str b,V.str c]++(JU 5)++[V.int .i64 0,V.bool false]++(JU 4)++[V.ptr 9 0 0,V.bool d,V.int .i64 e,V.bool f,V.int .i64 g,V.int .i64 h,V.str i,V.str j]++(JU 106)++[V.sl k,V.int .i64 l,V.int .i64 m]++(JU 79),(ln n 10 11 o p q r++[O.box 150 (V.agg [V.sl s,V.sl t,V.str u,V.int .i64 v]) false,O.row 3 w 0,O.row 9 x 0])⟩
def Ag (a:Int) (b c:List UInt8) (d:Bool) (e:Int) (f:Bool) (g h:Int) (i j:List UInt8) (k:List V) (l m n:Int) (o:List (V × V)) (p:Int) (q:List (V × V)) (r s t:List V) (u:List UInt8) (v:Int) (w x:List V): S:=⟨[V.ptr 0 0 0,V.ptr 1 0 0,V.int .i64 a,V.str b,V.str c]++(JU 5)++[V.int .i64 0,V.bool false]++(JU 4)++[V.ptr 9 0 0,V.bool d,V.int .i64 e,V.bool f,V.int .i64 g,V.int .i64 h,V.str i,V.str j]++(JU 106)++[V.sl k,V.int .i64 l,V.int .i64 m]++(JU 79),(ln n 10 11 o p q r++[O.box 150 (V.agg [V.sl s,V.sl t,V.str u,V.int .i64 v]) false,O.row 3 w 0,O.row 9 x 0])⟩
noncomputable def AW (b:Int) (i j:List UInt8) (c:Int) (a:List (V × V)) (d e:List V) (f:Int) (g:List (V × V)) (h:List V): R :=
 lp a (V.int .i64 b)
 (some (.head 0 (uV b i j c a d e f g h))) fun k =>
  kB k fun l =>
  cond l
 (some (.doneM (V.tup [V.int .i64 0,V.bool false]) (lm c a d e f g h)))
 (some (.head 0 (uV b i j c a d e f g h)))
theorem Fc (a b c d e f g h i j): Ec 85 9 ⟨true,false,true,[3,9]⟩ [V.ptr 0 0 0,V.ptr 1 0 0,V.int .i64 a,V.str b,V.str c] (lm d e f g h i j) (AW a b c d e f g h i j):=ec (by kernel_rfl) (by kernel_rfl)
noncomputable def t8 (g:Int) (k l:List UInt8) (c:Int) (o:List (V × V)) (h i:List V) (d:Int) (e:List (V × V)) (f:List V): R :=
 bk (iY o (V.int .i64 g) (V.bool true)) fun j =>
 cf aA aF mJ 58 [V.ptr 0 0 0,V.int .i64 g] (sm d e f) fun m =>
 bu (lm c j h i d e f) <|
 gp aA aF (fN (tm c d e f)) (fO (tm c d e f)) (f0 (tm c d e f)) 82 [V.ptr 0 0 0,V.int .i64 g] (tm c d e f)
 (fun a =>
  bu (lm c j h i d e f) <|
  aE aA 120 [V.agg [V.sl a.1,V.str a.2.1,V.int .i64 a.2.2]] fun p =>
  kS p fun q =>
  cond (m.1==q)
 (cond (a.2.1==l)
 (cond ((a.1.length:Int)==(0:Int))
 (cond (decide ((a.1.length:Int) > 0))
 (some (.head 1 (oQ g k true c j h i d e f a.1 a.2.1 a.2.2)))
 (some (.head 1 (oQ g k (g==c) c j h i d e f a.1 a.2.1 a.2.2))))
 (aS a.1 0 fun r =>
  dE r fun s w =>
  cond (!Op.bytesLess s k)
 (cond (decide ((a.1.length:Int) > 0))
 (some (.head 1 (oQ g k true c j h i d e f a.1 a.2.1 a.2.2)))
 (some (.head 1 (oQ g k (g==c) c j h i d e f a.1 a.2.1 a.2.2))))
 (some (.head 1 (oQ g k false c j h i d e f a.1 a.2.1 a.2.2)))))
 (some (.head 1 (oQ g k false c j h i d e f a.1 a.2.1 a.2.2))))
 (some (.head 1 (oQ g k false c j h i d e f a.1 a.2.1 a.2.2))))
 (fun b =>
  bu (lm c j h i d e f) <|
  aE aA 121 [V.agg [V.sl b.1,V.sl b.2.1,V.str b.2.2.1,V.int .i64 b.2.2.2]] fun t =>
  kS t fun u =>
  cond (m.1==u)
 (cond (b.2.2.1==l)
 (cond ((b.1.length:Int)==(0:Int))
 (some (.head 2 (uW g k l true c j h i d e f b.1 b.2.1 b.2.2.1 b.2.2.2)))
 (aS b.1 0 fun v =>
  kS v fun n =>
  some (.head 2 (uW g k l (!(Op.bytesLess n k || n==k)) c j h i d e f b.1 b.2.1 b.2.2.1 b.2.2.2))))
 (some (.head 2 (uW g k l false c j h i d e f b.1 b.2.1 b.2.2.1 b.2.2.2))))
 (some (.head 2 (uW g k l false c j h i d e f b.1 b.2.1 b.2.2.1 b.2.2.2))))
 (fun x =>
  bu (lm c j h i d e f) <|
  some (.doneM (V.tup [V.int .i64 0,V.bool false]) (lm c j h i d e f)))
theorem HY (a b c d e f g h i j): Rd true 9 85 0 (uV a b c d e f g h i j) (t8 a b c d e f g h i j):=rd (by kernel_rfl)
noncomputable def HZ (l:Int) (m:List UInt8) (n:Bool) (d:Int) (e:List (V × V)) (f g:List V) (h:Int) (i:List (V × V)) (j k:List V) (b:List UInt8) (c:Int): R :=
 cond n
 (aT aA ⟨true,false,true,[3,9]⟩ pj 132 [V.ptr 0 0 0,V.int .i64 0,V.int .i64 l,V.str m,V.str b,V.int .i64 c] (fm e f g) fun a =>
  some (.doneM (V.tup [V.int .i64 0,V.bool a.1]) (ln d 10 11 a.2.1 h i j++[O.box 120 (V.agg [V.sl k,V.str b,V.int .i64 c]) false,O.row 3 a.2.2.1 0,O.row 9 a.2.2.2 0])))
 (some (.doneM (V.tup [V.int .i64 0,V.bool false]) (lm d e f g h i j++[O.box 120 (V.agg [V.sl k,V.str b,V.int .i64 c]) false])))
theorem aaS (a b c d e f g h i j k l m): Rd true 9 85 1 (oQ a b c d e f g h i j k l m) (HZ a b c d e f g h i j k l m):=rd (by kernel_rfl)
noncomputable def H0 (b:Int) (c d:List UInt8) (e:Bool) (f:Int) (g:List (V × V)) (h i:List V) (j:Int) (k:List (V × V)) (l m a:List V) (n:List UInt8) (o:Int): R :=
 some (.head 3 (Ad b c d e a (a.length:Int) f g h i j k l m a n o))
theorem aaT (a b c d e f g h i j k l m n o): Rd true 9 85 2 (uW a b c d e f g h i j k l m n o) (H0 a b c d e f g h i j k l m n o):=rd (by kernel_rfl)
noncomputable def H1 (j:Int) (k o:List UInt8) (p:Bool) (q:List V) (r b:Int) (l:List (V × V)) (m n:List V) (f:Int) (g:List (V × V)) (h i c:List V) (d:List UInt8) (e:Int): R :=
 cond (decide (0 < r))
 (aS q 0 fun s =>
  kI .i64 s fun t =>
  some (.head 4 (DJ j k o p t k o q r b l m n f g h i c d e)))
 (cond p
 (aT aA ⟨true,false,true,[3,9]⟩ pj 132 [V.ptr 0 0 0,V.int .i64 1,V.int .i64 j,V.str k,V.str d,V.int .i64 e] (fm l m n) fun a =>
  cond a.1
 (cond (j != b)
 (some (.doneM (V.tup [V.int .i64 1,V.bool true]) (ln b 10 11 a.2.1 f g h++[O.box 150 (V.agg [V.sl i,V.sl c,V.str d,V.int .i64 e]) false,O.row 3 a.2.2.1 0,O.row 9 a.2.2.2 0])))
 (some (.doneM (V.tup [V.int .i64 1,V.bool (decide ((c.length:Int) > 1))]) (ln b 10 11 a.2.1 f g h++[O.box 150 (V.agg [V.sl i,V.sl c,V.str d,V.int .i64 e]) false,O.row 3 a.2.2.1 0,O.row 9 a.2.2.2 0]))))
 (some (.doneM (V.tup [V.int .i64 1,V.bool false]) (ln b 10 11 a.2.1 f g h++[O.box 150 (V.agg [V.sl i,V.sl c,V.str d,V.int .i64 e]) false,O.row 3 a.2.2.1 0,O.row 9 a.2.2.2 0]))))
 (some (.doneM (V.tup [V.int .i64 1,V.bool false]) (lm b l m n f g h++[O.box 150 (V.agg [V.sl i,V.sl c,V.str d,V.int .i64 e]) false]))))
theorem aaU (a b c d e f g h i j k l m n o p q): Rd true 9 85 3 (Ad a b c d e f g h i j k l m n o p q) (H1 a b c d e f g h i j k l m n o p q):=rd (by kernel_rfl)
noncomputable def H2 (b:Int) (c d:List UInt8) (e:Bool) (f:Int) (g t:List UInt8) (h:List V) (i j:Int) (k:List (V × V)) (l m:List V) (n:Int) (o:List (V × V)) (p a q:List V) (r:List UInt8) (s:Int): R :=
 cond (decide (0 < (a.length:Int)))
 (aS a 0 fun u =>
  kS u fun v =>
  some (.head 5 (Af b c d e f g v h i j k l m n o p a q r s)))
 (some (.head 5 (Af b c d e f g t h i j k l m n o p a q r s)))
theorem aaV (a b c d e f g h i j k l m n o p q r s t): Rd true 9 85 4 (DJ a b c d e f g h i j k l m n o p q r s t) (H2 a b c d e f g h i j k l m n o p q r s t):=rd (by kernel_rfl)
noncomputable def PN (f:Int) (g h:List UInt8) (i:Bool) (j:Int) (k l:List UInt8) (m:List V) (n o:Int) (p:List (V × V)) (q r:List V) (s:Int) (t:List (V × V)) (u b c:List V) (d:List UInt8) (e:Int): R :=
 aT aA ⟨true,false,true,[3,9]⟩ nU 85 [V.ptr 0 0 0,V.ptr 1 0 0,V.int .i64 j,V.str k,V.str l] (lm o p q r s t u) fun a =>
 cond a.2.1
 (some (.head 3 (sB f g h i a.1 true m n 1 a.2.2.1 a.2.2.2.1 a.2.2.2.2.1 a.2.2.2.2.2.1 a.2.2.2.2.2.2.1 b c d e a.2.2.2.2.2.2.2.1 a.2.2.2.2.2.2.2.2)))
 (some (.doneM (V.tup [V.int .i64 0,V.bool false]) (ln a.2.2.1 10 11 a.2.2.2.1 a.2.2.2.2.1 a.2.2.2.2.2.1 a.2.2.2.2.2.2.1++[O.box 150 (V.agg [V.sl b,V.sl c,V.str d,V.int .i64 e]) false,O.row 3 a.2.2.2.2.2.2.2.1 0,O.row 9 a.2.2.2.2.2.2.2.2 0])))
theorem aaX (a b c d e f g h i j k l m n o p q r s t): Rd true 9 85 5 (Af a b c d e f g h i j k l m n o p q r s t) (PN a b c d e f g h i j k l m n o p q r s t):=rd (by kernel_rfl)
noncomputable def y5 (l:Int) (m n:List UInt8) (r:Bool) (c:Int) (u:Bool) (s:List V) (t a d:Int) (o:List (V × V)) (i:Int) (j:List (V × V)) (k e f:List V) (g:List UInt8) (h:Int) (p q:List V): R :=
 cond (decide (a < t))
 (gd (decide (0<=a)) <|
  aS s a.toNat fun w =>
  kI .i64 w fun v =>
  cond (decide (a > 0))
 (gd (decide (0<=W .i64 (a - 1))) <|
  aS e ((W .i64 (a - 1)).toNat) fun x =>
  kS x fun y =>
  some (.head 4 (Ae l m n r c u a v y n s t a d o i j k e f g h p q)))
 (some (.head 4 (Ae l m n r c u a v m n s t a d o i j k e f g h p q))))
 (cond r
 (aT aA ⟨true,false,true,[3,9]⟩ pj 132 [V.ptr 0 0 0,V.int .i64 (W .i64 (c+1)),V.int .i64 l,V.str m,V.str g,V.int .i64 h] (fm o p q) fun b =>
  cond b.1
 (cond (l != d)
 (some (.doneM (V.tup [V.int .i64 (W .i64 (c+1)),V.bool true]) (ln d 12 13 b.2.1 i j k++[O.box 150 (V.agg [V.sl e,V.sl f,V.str g,V.int .i64 h]) false,O.dead,O.dead,O.row 3 b.2.2.1 0,O.row 9 b.2.2.2 0])))
 (some (.doneM (V.tup [V.int .i64 (W .i64 (c+1)),V.bool (decide ((f.length:Int) > 1))]) (ln d 12 13 b.2.1 i j k++[O.box 150 (V.agg [V.sl e,V.sl f,V.str g,V.int .i64 h]) false,O.dead,O.dead,O.row 3 b.2.2.1 0,O.row 9 b.2.2.2 0]))))
 (some (.doneM (V.tup [V.int .i64 (W .i64 (c+1)),V.bool false]) (ln d 12 13 b.2.1 i j k++[O.box 150 (V.agg [V.sl e,V.sl f,V.str g,V.int .i64 h]) false,O.dead,O.dead,O.row 3 b.2.2.1 0,O.row 9 b.2.2.2 0]))))
 (some (.doneM (V.tup [V.int .i64 (W .i64 (c+1)),V.bool false]) (ln d 10 11 o i j k++[O.box 150 (V.agg [V.sl e,V.sl f,V.str g,V.int .i64 h]) false,O.row 3 p 0,O.row 9 q 0]))))
theorem PM (a b c d e f g h i j k l m n o p q r s t): Rd true 9 85 3 (sB a b c d e f g h i j k l m n o p q r s t) (y5 a b c d e f g h i j k l m n o p q r s t):=rd (by kernel_rfl)
noncomputable def H3 (c:Int) (d e:List UInt8) (f:Bool) (g:Int) (h:Bool) (a i:Int) (j x:List UInt8) (k:List V) (l m n:Int) (o:List (V × V)) (p:Int) (q:List (V × V)) (r b s:List V) (t:List UInt8) (u:Int) (v w:List V): R :=
 cond (decide (a < (b.length:Int)))
 (gd (decide (0<=a)) <|
  aS b a.toNat fun y =>
  kS y fun z =>
  some (.head 5 (Ag c d e f g h a i j z k l m n o p q r b s t u v w)))
 (some (.head 5 (Ag c d e f g h a i j x k l m n o p q r b s t u v w)))
theorem aaW (a b c d e f g h i j k l m n o p q r s t u v w x): Rd true 9 85 4 (Ae a b c d e f g h i j k l m n o p q r s t u v w x) (H3 a b c d e f g h i j k l m n o p q r s t u v w x):=rd (by kernel_rfl)
noncomputable def PO (f:Int) (g h:List UInt8) (i:Bool) (j:Int) (n:Bool) (o p:Int) (q r:List UInt8) (k:List V) (l m s:Int) (t:List (V × V)) (u:Int) (v:List (V × V)) (w b c:List V) (d:List UInt8) (e:Int) (x y:List V): R :=
 aT aA ⟨true,false,true,[3,9]⟩ nU 85 [V.ptr 0 0 0,V.ptr 1 0 0,V.int .i64 p,V.str q,V.str r] (lm s t x y u v w) fun a =>
 cond n
 (cond a.2.1
 (cond (o==(0:Int))
 (some (.head 3 (sB f g h i a.1 true k l (W .i64 (m+1)) a.2.2.1 a.2.2.2.1 a.2.2.2.2.1 a.2.2.2.2.2.1 a.2.2.2.2.2.2.1 b c d e a.2.2.2.2.2.2.2.1 a.2.2.2.2.2.2.2.2)))
 (cond (!(a.1==j))
 (some (.doneM (V.tup [V.int .i64 0,V.bool false]) (ln a.2.2.1 10 11 a.2.2.2.1 a.2.2.2.2.1 a.2.2.2.2.2.1 a.2.2.2.2.2.2.1++[O.box 150 (V.agg [V.sl b,V.sl c,V.str d,V.int .i64 e]) false,O.row 3 a.2.2.2.2.2.2.2.1 0,O.row 9 a.2.2.2.2.2.2.2.2 0])))
 (some (.head 3 (sB f g h i a.1 (a.1==j) k l (W .i64 (m+1)) a.2.2.1 a.2.2.2.1 a.2.2.2.2.1 a.2.2.2.2.2.1 a.2.2.2.2.2.2.1 b c d e a.2.2.2.2.2.2.2.1 a.2.2.2.2.2.2.2.2)))))
 (some (.doneM (V.tup [V.int .i64 0,V.bool false]) (ln a.2.2.1 10 11 a.2.2.2.1 a.2.2.2.2.1 a.2.2.2.2.2.1 a.2.2.2.2.2.2.1++[O.box 150 (V.agg [V.sl b,V.sl c,V.str d,V.int .i64 e]) false,O.row 3 a.2.2.2.2.2.2.2.1 0,O.row 9 a.2.2.2.2.2.2.2.2 0]))))
 (some (.doneM (V.tup [V.int .i64 0,V.bool false]) (ln a.2.2.1 10 11 a.2.2.2.1 a.2.2.2.2.1 a.2.2.2.2.2.1 a.2.2.2.2.2.2.1++[O.box 150 (V.agg [V.sl b,V.sl c,V.str d,V.int .i64 e]) false,O.row 3 a.2.2.2.2.2.2.2.1 0,O.row 9 a.2.2.2.2.2.2.2.2 0])))
theorem aaY (a b c d e f g h i j k l m n o p q r s t u v w x): Rd true 9 85 5 (Ag a b c d e f g h i j k l m n o p q r s t u v w x) (PO a b c d e f g h i j k l m n o p q r s t u v w x):=rd (by kernel_rfl)
def xw (a b:Int) (c:List (V × V)) (d e:List V): S:=⟨[V.ptr 0 0 0,V.junk,V.own 5,V.own 6]++(JU 43),(tm a b c d++[O.row 80 [] 0,O.row 80 e 0])⟩
def lB (a:List V) (b c d e:Int) (f:List (V × V)) (g h i:List V): S:=⟨[V.ptr 0 0 0,V.junk,V.own 5,V.own 6,V.own 7]++(JU 15)++[V.sl a,V.int .i64 b,V.int .i64 c]++(JU 24),(tm d e f g++[O.row 80 [] 0,O.row 80 h 0,O.row 3 i 0])⟩
noncomputable def Vs (a b:Int) (c:List (V × V)) (d:List V): R :=
 some (.head 0 (xw a b c d [V.sl [V.int .i64 a]]))
theorem Vt (a b c d): Ec 87 5 aF [V.ptr 0 0 0] (tm a b c d) (Vs a b c d):=ec (by kernel_rfl) (by kernel_rfl)
noncomputable def PS (c d:Int) (e:List (V × V)) (f a:List V): R :=
 gd (decide (0<=W .i64 ((a.length:Int) - 1))) <|
 gd (decide ((W .i64 ((a.length:Int) - 1)).toNat < a.length)) <|
 aS a ((W .i64 ((a.length:Int) - 1)).toNat) fun g =>
 kL g fun b =>
 some (.head 1 (lB b (b.length:Int) 0 c d e f a []))
theorem aa0 (a b c d e): Rd true 5 87 0 (xw a b c d e) (PS a b c d e):=rd (by kernel_rfl)
noncomputable def y6 (h:List V) (i g a b:Int) (c:List (V × V)) (d f e:List V): R :=
 cond (decide (g < i))
 (gd (decide (0<=g)) <|
  aS h g.toNat fun k =>
  kI .i64 k fun l =>
  gp aA aF (fN (tm a b c d)) (fO (tm a b c d)) (f0 (tm a b c d)) 82 [V.ptr 0 0 0,V.int .i64 l] (tm a b c d)
 (fun m =>
  bu (tm a b c d++[O.row 80 [] 0,O.row 80 f 0,O.row 3 e 0]) <|
  some (.head 1 (lB h i (W .i64 (g+1)) a b c d f e)))
 (fun j =>
  bu (tm a b c d++[O.row 80 [] 0,O.row 80 f 0,O.row 3 e 0]) <|
  gd (dm 1 j.2.1) <|
  gd (decide (e.length+j.2.1.length<=16777216)) <|
  some (.head 1 (lB h i (W .i64 (g+1)) a b c d f (e++j.2.1))))
 (fun n =>
  bu (tm a b c d++[O.row 80 [] 0,O.row 80 f 0,O.row 3 e 0]) <|
  some (.head 1 (lB h i (W .i64 (g+1)) a b c d f e))))
 (cond ((e.length:Int)==(0:Int))
 (some (.doneM (V.own 5) (tm a b c d++[O.row 80 f 0])))
 (gd (decide (f.length+([V.sl e]:List V).length<=16777216)) <|
  some (.head 0 (xw a b c d (f++[V.sl e])))))
theorem CF (a b c d e f g h i): Rd true 5 87 1 (lB a b c d e f g h i) (y6 a b c d e f g h i):=rd (by kernel_rfl)
def uX (a:List V) (b:Int) (c:List V) (d e:Int): S:=⟨[V.sl a,V.junk,V.own 0,V.int .i64 b]++(JU 5)++[V.sl c,V.int .i64 d,V.int .i64 e]++(JU 24),[O.row 3 [] 0]⟩
def DK (a:Nat) (b:List V) (c:Int) (d:List V): S:=⟨[V.junk,V.junk,V.own 0,V.junk,V.junk,V.junk,V.win 1 0 a]++(JU 18)++[V.sl b,V.int .i64 c,V.int .i64 0]++(JU 8),[O.row 3 [] 0,O.row 3 d 0]⟩
def RB (a:List V) (b c:Int) (d:List V): S:=⟨[V.junk,V.junk,V.own 0,V.junk,V.junk,V.junk,V.own 1]++(JU 18)++[V.sl a,V.int .i64 b,V.int .i64 c]++(JU 8),[O.row 3 [] 0,O.row 3 d 0]⟩
def xv (a:List V) (b c:Int) (d:List V): S:=⟨[V.junk,V.junk,V.own 0,V.junk,V.junk,V.junk,V.tail 1 0]++(JU 18)++[V.sl a,V.int .i64 b,V.int .i64 c]++(JU 8),[O.row 3 [] 0,O.row 3 d 0]⟩
noncomputable def Lq (a:List V): R :=
 some (.head 0 (uX a 0 a (a.length:Int) 0))
theorem Vr (a): Ec 86 0 ⟨true,false,false,[]⟩ [V.sl a] [] (Lq a):=ec (by kernel_rfl) (by kernel_rfl)
noncomputable def CE (b:List V) (a:Int) (d:List V) (e c:Int): R :=
 cond (decide (c < e))
 (gd (decide (0<=c)) <|
  aS d c.toNat fun g =>
  kL g fun f =>
  cond (decide (W .i64 (a+(f.length:Int)) < 0))
 (none)
 (some (.head 0 (uX b (W .i64 (a+(f.length:Int))) d e (W .i64 (c+1))))))
 (cond (decide (a < 0))
 (none)
 (cond (decide (W .i64 (a - 0) > 0))
 (gd (decide (0 < W .i64 (a - 0))) <|
  gd (decide (Int.toNat (W .i64 (a - 0))<=16777216)) <|
  gd (dm 1 (bH (Int.toNat (W .i64 (a - 0))) (V.int .i64 0))) <|
  some (.head 1 (DK (0 - 0) b (b.length:Int) (bH (Int.toNat (W .i64 (a - 0))) (V.int .i64 0)))))
 (some (.head 1 (RB b (b.length:Int) 0 [])))))
theorem PP (a b c d e): Rd true 0 86 0 (uX a b c d e) (CE a b c d e):=rd (by kernel_rfl)
noncomputable def H4 (a:Nat) (d:List V) (e:Int) (b:List V): R :=
 cond (decide (0 < e))
 (aS d 0 fun f =>
  kL f fun c =>
  gd (dm 1 c) <|
  gd (decide (0+a<=b.length)) <|
  gd (decide (a+c.length<=16777216)) <|
  some (.head 1 (xv d e 1 (((b.drop 0).take a)++c))))
 (some (.doneM (V.win 1 0 a) [O.row 3 [] 0,O.row 3 b 0]))
theorem aaZ (a b c d): Rd true 0 86 1 (DK a b c d) (H4 a b c d):=rd (by kernel_rfl)
noncomputable def H5 (d:List V) (e a:Int) (b:List V): R :=
 cond (decide (a < e))
 (gd (decide (0<=a)) <|
  aS d a.toNat fun f =>
  kL f fun c =>
  gd (dm 1 c) <|
  gd (decide (b.length+c.length<=16777216)) <|
  some (.head 1 (xv d e (W .i64 (a+1)) (b++c))))
 (some (.doneM (V.tail 1 0) [O.row 3 [] 0,O.row 3 b 0]))
theorem PQ (a b c d): Rd true 0 86 1 (xv a b c d) (H5 a b c d):=rd (by kernel_rfl)
def xz (a:List V) (b:Int) (c d:List V): S:=⟨[V.junk,V.ptr 2 0 0,V.own 3,V.ptr 4 0 0,V.junk,V.junk,V.rest [3] a]++(JU 9),(bm b c++[O.box 135 (V.ptr 0 0 0) false,O.row 3 [] 0,O.box 80 (V.tail 5 0) false,O.row 3 d 0])⟩
noncomputable def Ls (a:Int) (b:List V): R :=
 bk (wi [V.ref (V.ref (V.agg [V.unk,V.int .i64 a]) 0) 0,V.ref (V.int .i64 0) 0]) fun c =>
 some (.head 0 (xz (c.map V.tup) a b []))
theorem Vw (a b): Ec 90 2 aF [V.ptr 0 0 0] (bm a b) (Ls a b):=ec (by kernel_rfl) (by kernel_rfl)
noncomputable def H9 (g:List V) (a:Int) (b c:List V): R :=
 kx g
 (some (.doneM (V.tail 5 0) (bm a b++[O.box 135 (V.ptr 0 0 0) false,O.row 3 [] 0,O.box 80 (V.tail 5 0) false,O.row 3 c 0]))) fun h f =>
  kT h fun d=>bV d fun i d=>kI .i64 i fun e =>
  en d<|cf aA aF mH 137 [V.ptr 0 0 0,V.int .i64 e] (bm a b) fun j =>
  bu (bm a b++[O.box 135 (V.ptr 0 0 0) false,O.row 3 [] 0,O.box 80 (V.tail 5 0) false,O.row 3 c 0]) <|
  cond j
 (gd (decide (c.length+([V.int .i64 e]:List V).length<=16777216)) <|
  some (.head 0 (xz f a b (c++[V.int .i64 e]))))
 (some (.head 0 (xz f a b c)))
theorem Ia (a b c d): Rd true 2 90 0 (xz a b c d) (H9 a b c d):=rd (by kernel_rfl)
noncomputable def AV (m d a:Int) (b:List (V × V)) (c:List V): R :=
 cf aA aF mJ 58 [V.ptr 0 0 0,V.int .i64 m] (sm a b c) fun h =>
 bu (tm d a b c) <|
 cond (h.2 != (0:Int))
 (some (.doneM (V.nilI) (tm d a b c)))
 (aE aA 129 [V.str h.1] fun n =>
  oU n fun e f g o =>
  cond (o==(0:Int))
 (some (.doneM (V.ifc 120 (V.agg [V.sl e,V.str f,V.int .i64 g])) (tm d a b c++[O.row 41 [] 0,O.box 120 (V.agg [V.sl e,V.str f,V.int .i64 g]) false])))
 (aE aA 130 [V.str h.1] fun p =>
  qp p fun i j k l q =>
  cond (q==(0:Int))
 (some (.doneM (V.ifc 150 (V.agg [V.sl i,V.sl j,V.str k,V.int .i64 l])) (tm d a b c++[O.row 41 [] 0,O.box 120 (V.agg [V.sl e,V.str f,V.int .i64 g]) false,O.row 9 [] 0,O.row 3 [] 0,O.box 150 (V.agg [V.sl i,V.sl j,V.str k,V.int .i64 l]) false])))
 (some (.doneM (V.nilI) (tm d a b c++[O.row 41 [] 0,O.box 120 (V.agg [V.sl e,V.str f,V.int .i64 g]) false,O.row 9 [] 0,O.row 3 [] 0,O.box 150 (V.agg [V.sl i,V.sl j,V.str k,V.int .i64 l]) false])))))
theorem Fb (a b c d e): Ec 82 5 aF [V.ptr 0 0 0,V.int .i64 a] (tm b c d e) (AV a b c d e):=ec (by kernel_rfl) (by kernel_rfl)
noncomputable def Lr (a:Int) (b:List V): R :=
 cf aA aF pq 90 [V.ptr 0 0 0] (bm a b) fun c =>
 bu (bm a b) <|
 some (.doneM (V.int .i64 (W .i64 (a - (c.length:Int)))) (bm a b))
theorem Vu (a b): Ec 89 2 aF [V.ptr 0 0 0] (bm a b) (Lr a b):=ec (by kernel_rfl) (by kernel_rfl)
noncomputable def KW (a c:Int) (b:List V): R :=
 cond (decide (a ≥ 0))
 (cond (decide (a < c))
 (gd (decide (0<=W .i64 ((a.tdiv 8)))) <|
  gd (decide ((W .i64 ((a.tdiv 8))).toNat < b.length)) <|
  aS b (0+((W .i64 ((a.tdiv 8))).toNat)) fun d =>
  kI .u8 d fun e =>
  aE aA 193 [V.int .i64 a] fun f =>
  kI .u8 f fun g =>
  some (.doneM (V.bool ((W .u8 (((BitVec.ofInt (IntKind.bits .u8) e &&& BitVec.ofInt (IntKind.bits .u8) g).toNat:Int))) != (0:Int))) (bm c b)))
 (some (.doneM (V.bool false) (bm c b))))
 (some (.doneM (V.bool false) (bm c b)))
theorem Ua (a b c): Ec 137 2 aF [V.ptr 0 0 0,V.int .i64 a] (bm b c) (KW a b c):=ec (by kernel_rfl) (by kernel_rfl)
noncomputable def K4 (a c:Int) (b:List V): R :=
 cond (decide (a ≥ 0))
 (cond (!(decide (a < c)))
 (some (.doneM (V.int .i64 1) (bm c b)))
 (cf aA aF mH 137 [V.ptr 0 0 0,V.int .i64 a] (bm c b) fun d =>
  bu (bm c b) <|
  cond d
 (some (.doneM (V.int .i64 8) (bm c b)))
 (gd (decide (0<=W .i64 ((a.tdiv 8)))) <|
  gd (decide ((W .i64 ((a.tdiv 8))).toNat < b.length)) <|
  aS b (0+((W .i64 ((a.tdiv 8))).toNat)) fun e =>
  kI .u8 e fun f =>
  aE aA 193 [V.int .i64 a] fun g =>
  kI .u8 g fun h =>
  gd (decide (0<=W .i64 ((a.tdiv 8)))) <|
  gd (decide ((W .i64 ((a.tdiv 8))).toNat < b.length)) <|
  aS b (0+((W .i64 ((a.tdiv 8))).toNat)) fun i =>
  kI .u8 i fun j =>
  some (.doneM (V.int .i64 0) (bm c (((b).set (0+((W .i64 ((a.tdiv 8))).toNat)) (V.int .u8 (W .u8 (((BitVec.ofInt (IntKind.bits .u8) f ||| BitVec.ofInt (IntKind.bits .u8) h).toNat:Int)))))))))))
 (some (.doneM (V.int .i64 1) (bm c b)))
theorem Ux (a b c): Ec 180 2 aF [V.ptr 0 0 0,V.int .i64 a] (bm b c) (K4 a b c):=ec (by kernel_rfl) (by kernel_rfl)
noncomputable def E4 (d a:Int) (b:List (V × V)) (c:List V): R :=
 cond (decide (d < 0))
 (some (.doneM (V.tup [V.str [],V.int .i64 1]) (sm a b c)))
 (cond (decide (d ≥ a))
 (some (.doneM (V.tup [V.str [],V.int .i64 1]) (sm a b c)))
 (lp b (V.int .i64 d)
 (some (.doneM (V.tup [V.str [],V.int .i64 7]) (sm a b c))) fun e =>
  kS e fun f =>
  some (.doneM (V.tup [V.str f,V.int .i64 0]) (sm a b c))))
theorem Li (a b c d): Ec 58 4 aF [V.ptr 0 0 0,V.int .i64 a] (sm b c d) (E4 a b c d):=ec (by kernel_rfl) (by kernel_rfl)
def xh (a:List V) (b c:Int) (d:List (V × V)) (e:List V) (f:List UInt8) (g h:Int): S:=⟨(JU 5)++[V.ptr 5 0 0,V.junk,V.ptr 6 0 0,V.ptr 7 0 0,V.ptr 8 0 0]++(JU 11)++[V.rest [3,176] a]++(JU 91),(tm b c d e++[O.box 24 (V.ptr 0 0 0) false,O.box 9 (V.str f) false,O.box 3 (V.int .i64 g) false,O.box 3 (V.int .i64 h) false])⟩
noncomputable def KO (a:List V) (b:List UInt8) (c d e f:Int) (g:List (V × V)) (h:List V): R :=
 bk (As [V.ref (V.sl a) 0]) fun i =>
 some (.head 0 (xh (i.map V.tup) e f g h b c d))
theorem TZ (a b c d e f g h): Ec 123 5 aF [V.ptr 0 0 0,V.sl a,V.str b,V.int .i64 c,V.int .i64 d] (tm e f g h) (KO a b c d e f g h):=ec (by kernel_rfl) (by kernel_rfl)
noncomputable def yX (af:List V) (m n:Int) (o:List (V × V)) (p:List V) (b:List UInt8) (q c:Int): R :=
 kx af
 (aT aA aF jO 84 [V.ptr 0 0 0] (sm n o p) fun d =>
  aT aA aF ej 78 [V.ptr 0 0 0,V.int .i64 d.1,V.ifc 150 (V.agg [V.sl [V.str b],V.sl [V.int .i64 q,V.int .i64 c],V.str [],V.int .i64 0])] (tm d.1 d.2.2.1 d.2.2.2.1 d.2.2.2.2) fun g =>
  some (.doneM (V.tup []) (tm g.1 g.2.1 g.2.2.1 g.2.2.2++[O.box 24 (V.ptr 0 0 0) false,O.box 9 (V.str b) false,O.box 3 (V.int .i64 q) false,O.box 3 (V.int .i64 c) false]))) fun ag s =>
  kT ag fun e=>bV e fun ah e=>kI .i64 ah fun a2 =>
  bV e fun ai e=>lJ ai fun f t u v w a3 =>
  en e<|aE aA 167 [V.agg [V.sl t,V.sl u,V.str v,V.int .i64 w],V.str b,V.int .i64 c] fun aj =>
  qp aj fun ak al am an ao =>
  cond (ao==(0:Int))
 (aT aA aF ej 78 [V.ptr 0 0 0,V.int .i64 f,V.ifc 150 (V.agg [V.sl ak,V.sl al,V.str am,V.int .i64 an])] (tm m n o p) fun h =>
  some (.doneM (V.tup []) (tm h.1 h.2.1 h.2.2.1 h.2.2.2++[O.box 24 (V.ptr 0 0 0) false,O.box 9 (V.str b) false,O.box 3 (V.int .i64 q) false,O.box 3 (V.int .i64 c) false])))
 (aT aA aF jO 84 [V.ptr 0 0 0] (sm n o p) fun a =>
  aE aA 168 [V.agg [V.sl t,V.sl u,V.str v,V.int .i64 w],V.int .i64 a.1] fun ap =>
  AL ap fun x y z aa ab ac ad ae r a4 =>
  cond (Op.bytesLess b r)
 (aE aA 167 [V.agg [V.sl x,V.sl y,V.str z,V.int .i64 aa],V.str b,V.int .i64 c] fun aq =>
  qp aq fun ar au av aw a5 =>
  aT aA aF ej 78 [V.ptr 0 0 0,V.int .i64 f,V.ifc 150 (V.agg [V.sl ar,V.sl au,V.str av,V.int .i64 aw])] (tm m a.2.2.1 a.2.2.2.1 a.2.2.2.2) fun i =>
  aT aA aF ej 78 [V.ptr 0 0 0,V.int .i64 a.1,V.ifc 150 (V.agg [V.sl ab,V.sl ac,V.str ad,V.int .i64 ae])] (tm i.1 i.2.1 i.2.2.1 i.2.2.2) fun j =>
  some (.head 0 (xh s j.1 j.2.1 j.2.2.1 j.2.2.2 r f a.1)))
 (aE aA 167 [V.agg [V.sl ab,V.sl ac,V.str ad,V.int .i64 ae],V.str b,V.int .i64 c] fun ax =>
  qp ax fun ay az a0 a1 a6 =>
  aT aA aF ej 78 [V.ptr 0 0 0,V.int .i64 f,V.ifc 150 (V.agg [V.sl x,V.sl y,V.str z,V.int .i64 aa])] (tm m a.2.2.1 a.2.2.2.1 a.2.2.2.2) fun k =>
  aT aA aF ej 78 [V.ptr 0 0 0,V.int .i64 a.1,V.ifc 150 (V.agg [V.sl ay,V.sl az,V.str a0,V.int .i64 a1])] (tm k.1 k.2.1 k.2.2.1 k.2.2.2) fun l =>
  some (.head 0 (xh s l.1 l.2.1 l.2.2.1 l.2.2.2 r f a.1))))
theorem Pg (a b c d e f g h): Rd true 5 123 0 (xh a b c d e f g h) (yX a b c d e f g h):=rd (by kernel_rfl)
def xj (a:List V) (b c d e:Int) (f:List (V × V)) (g:List V): S:=⟨[V.ptr 0 0 0,V.sl a,V.int .i64 b,V.junk,V.junk,V.junk,V.own 5,V.int .i64 c]++(JU 72),(tm d e f g++[O.row 3 [] 0])⟩
def uP (a b c d e f:Int) (g:List (V × V)) (h i:List V): S:=⟨[V.ptr 0 0 0,V.junk,V.int .i64 a,V.junk,V.junk,V.junk,V.own 5,V.junk,V.int .i64 b,V.own 6]++(JU 39)++[V.int .i64 c,V.int .i64 d]++(JU 29),(tm e f g h++[O.row 3 [] 0,O.row 3 i 0])⟩
noncomputable def EE (a:List V) (b c d:Int) (e:List (V × V)) (f:List V): R :=
 some (.head 0 (xj a b (W .i64 ((a.length:Int) - 1)) c d e f))
theorem KQ (a b c d e f): Ec 124 5 aF [V.ptr 0 0 0,V.sl a,V.int .i64 b] (tm c d e f) (EE a b c d e f):=ec (by kernel_rfl) (by kernel_rfl)
noncomputable def yY (b:List V) (g a c d:Int) (e:List (V × V)) (f:List V): R :=
 cond (decide (a ≥ 0))
 (gd (decide (0<=a)) <|
  aS b a.toNat fun l =>
  lJ l fun v w x y z m =>
  cond (m==(0:Int))
 (some (.head 0 (xj b g (W .i64 (a - 1)) c d e f)))
 (cond (decide (a < 0))
 (some (.doneM (V.own 6) (tm c d e f++[O.row 3 [] 0,O.row 3 [] 0])))
 (gd (decide (0<=a)) <|
  aS b a.toNat fun n =>
  lJ n fun aa ab o ac ad ae =>
  gd (decide (0<=a)) <|
  aS b a.toNat fun p =>
  lJ p fun af ag ah ai aj h =>
  gd (decide (0<=W .i64 (h - 1))) <|
  aS o ((W .i64 (h - 1)).toNat) fun q =>
  kI .i64 q fun i =>
  some (.head 1 (uP g i (W .i64 ((W .i64 ((b.length:Int) - 1)) - a)) 0 c d e f [V.int .i64 i])))))
 (cond (decide (a < 0))
 (some (.doneM (V.own 6) (tm c d e f++[O.row 3 [] 0,O.row 3 [] 0])))
 (gd (decide (0<=a)) <|
  aS b a.toNat fun r =>
  lJ r fun ak al s am an ao =>
  gd (decide (0<=a)) <|
  aS b a.toNat fun t =>
  lJ t fun ap aq ar au av j =>
  gd (decide (0<=W .i64 (j - 1))) <|
  aS s ((W .i64 (j - 1)).toNat) fun u =>
  kI .i64 u fun k =>
  some (.head 1 (uP g k (W .i64 ((W .i64 ((b.length:Int) - 1)) - a)) 0 c d e f [V.int .i64 k]))))
theorem Cp (a b c d e f g): Rd true 5 124 0 (xj a b c d e f g) (yY a b c d e f g):=rd (by kernel_rfl)
noncomputable def Hu (f l j k a b:Int) (c:List (V × V)) (d g:List V): R :=
 cond (decide (k < j))
 (gp aA aF (fN (tm a b c d)) (fO (tm a b c d)) (f0 (tm a b c d)) 82 [V.ptr 0 0 0,V.int .i64 l] (tm a b c d)
 (fun n =>
  bu (tm a b c d++[O.row 3 [] 0,O.row 3 g 0]) <|
  none)
 (fun h =>
  bu (tm a b c d++[O.row 3 [] 0,O.row 3 g 0]) <|
  gd (decide (0<=W .i64 ((h.2.1.length:Int) - 1))) <|
  aS h.2.1 ((W .i64 ((h.2.1.length:Int) - 1)).toNat) fun m =>
  kI .i64 m fun i =>
  gd (decide (g.length+([V.int .i64 i]:List V).length<=16777216)) <|
  some (.head 1 (uP f i j (W .i64 (k+1)) a b c d (g++[V.int .i64 i]))))
 (fun o =>
  bu (tm a b c d++[O.row 3 [] 0,O.row 3 g 0]) <|
  none))
 (aT aA aF tD 169 [V.own 0] [O.row 3 g 0] fun e =>
  gd (dm 1 e) <|
  gd (decide (0<=(if (e.length:Int) < f then (e.length:Int) else f))) <|
  gd (decide ((if (e.length:Int) < f then (e.length:Int) else f).toNat<=e.length)) <|
  some (.doneM (V.win 6 0 (((if (e.length:Int) < f then (e.length:Int) else f).toNat) - 0)) (tm a b c d++[O.row 3 [] 0,O.row 3 e 0])))
theorem Ph (a b c d e f g h i): Rd true 5 124 1 (uP a b c d e f g h i) (Hu a b c d e f g h i):=rd (by kernel_rfl)
noncomputable def KR (b d:Int) (c:List (V × V)) (e:List V): R :=
 aT aA aF tE 174 [V.ptr 0 0 0,V.int .i64 b] (bm d e) fun a =>
 cond (a.1==(0:Int))
 (bk (lZ c (V.int .i64 b)) fun f =>
  some (.doneM (V.int .i64 a.1) (sm a.2.1 f a.2.2)))
 (some (.doneM (V.int .i64 a.1) (sm a.2.1 c a.2.2)))
theorem T3 (a b c d): Ec 127 4 aF [V.ptr 0 0 0,V.int .i64 a] (sm b c d) (KR a b c d):=ec (by kernel_rfl) (by kernel_rfl)
def zU (a b:Int) (c:List (V × V)) (d:List V): S:=⟨[V.ptr 0 0 0]++(JU 37),(tm a b c d)⟩
noncomputable def T4 (a b:Int) (c:List (V × V)) (d:List V): R :=
 some (.head 0 (zU a b c d))
theorem T5 (a b c d): Ec 128 5 aF [V.ptr 0 0 0] (tm a b c d) (T4 a b c d):=ec (by kernel_rfl) (by kernel_rfl)
noncomputable def Cq (a b:Int) (c:List (V × V)) (d:List V): R :=
 gp aA aF (fN (tm a b c d)) (fO (tm a b c d)) (f0 (tm a b c d)) 82 [V.ptr 0 0 0,V.int .i64 a] (tm a b c d)
 (fun i =>
  bu (tm a b c d) <|
  some (.doneM (V.tup []) (tm a b c d)))
 (fun f =>
  bu (tm a b c d) <|
  cond (decide ((f.2.1.length:Int) > 1))
 (some (.doneM (V.tup []) (tm a b c d)))
 (aT aA aF qV 127 [V.ptr 0 0 0,V.int .i64 a] (sm b c d) fun e =>
  aS f.2.1 0 fun g =>
  kI .i64 g fun h =>
  some (.head 0 (zU h e.2.1 e.2.2.1 e.2.2.2))))
 (fun j =>
  bu (tm a b c d) <|
  some (.doneM (V.tup []) (tm a b c d)))
theorem Hv (a b c d): Rd true 5 128 0 (zU a b c d) (Cq a b c d):=rd (by kernel_rfl)
def Js (a b:Int) (c d:List UInt8) (e:Int) (f:List (V × V)) (g h:List V): S:=⟨[V.ptr 0 0 0,V.int .i64 a,V.int .i64 b,V.str c,V.str d,V.int .i64 e]++(JU 6)++[V.bool false]++(JU 65),(fm f g h)⟩
def zX (a b:Int) (c d:List UInt8) (e:Int) (f:List (V × V)) (g h:List V): S:=⟨[V.ptr 0 0 0,V.int .i64 a,V.int .i64 b,V.str c,V.str d,V.int .i64 e]++(JU 6)++[V.bool false]++(JU 65),[O.box 144 (V.agg [V.mp 1,V.tail 4 0,V.tail 5 0]) false,O.map f,O.dead,O.dead,O.row 3 g 0,O.row 9 h 0]⟩
noncomputable def T9 (a b:Int) (c d:List UInt8) (e:Int) (f:List (V × V)) (g h:List V): R :=
 some (.head 0 (Js a b c d e f g h))
theorem KV (a b c d e f g h): Ec 132 4 ⟨true,false,true,[3,9]⟩ [V.ptr 0 0 0,V.int .i64 a,V.int .i64 b,V.str c,V.str d,V.int .i64 e] (fm f g h) (T9 a b c d e f g h):=ec (by kernel_rfl) (by kernel_rfl)
noncomputable def yZ (a d:Int) (e f:List UInt8) (g:Int) (h:List (V × V)) (b c:List V): R :=
 cond (decide ((b.length:Int)<=a))
 (gd (decide (b.length+([V.int .i64 (W .i64 (d+1))]:List V).length<=16777216)) <|
  gd (decide (c.length+([V.str e]:List V).length<=16777216)) <|
  some (.head 0 (zX a d e f g h (b++[V.int .i64 (W .i64 (d+1))]) (c++[V.str e]))))
 (gd (decide (0<=a)) <|
  gd (decide (a.toNat < b.length)) <|
  aS b (0+a.toNat) fun i =>
  kI .i64 i fun j =>
  cond (j==(W .i64 (d+1)))
 (gd (decide (0<=a)) <|
  gd (decide (a.toNat < c.length)) <|
  aS c (0+a.toNat) fun k =>
  kS k fun l =>
  gd (decide (0<=a)) <|
  gd (decide (a.toNat < b.length)) <|
  aS b (0+a.toNat) fun m =>
  kI .i64 m fun q =>
  gd (decide (0<=a)) <|
  gd (decide (a.toNat < c.length)) <|
  aS c (0+a.toNat) fun n =>
  kS n fun r =>
  some (.doneM (V.bool (l==e)) (fm h (((b).set (0+a.toNat) (V.int .i64 g))) (((c).set (0+a.toNat) (V.str f))))))
 (gd (decide (0<=a)) <|
  gd (decide (a.toNat < b.length)) <|
  aS b (0+a.toNat) fun o =>
  kI .i64 o fun s =>
  gd (decide (0<=a)) <|
  gd (decide (a.toNat < c.length)) <|
  aS c (0+a.toNat) fun p =>
  kS p fun t =>
  some (.doneM (V.bool false) (fm h (((b).set (0+a.toNat) (V.int .i64 g))) (((c).set (0+a.toNat) (V.str f)))))))
theorem Pj (a b c d e f g h): Rd true 4 132 0 (Js a b c d e f g h) (yZ a b c d e f g h):=rd (by kernel_rfl)
noncomputable def Hy (a d:Int) (e f:List UInt8) (g:Int) (h:List (V × V)) (b c:List V): R :=
 cond (decide ((b.length:Int)<=a))
 (gd (decide (b.length+([V.int .i64 (W .i64 (d+1))]:List V).length<=16777216)) <|
  gd (decide (c.length+([V.str e]:List V).length<=16777216)) <|
  some (.head 0 (zX a d e f g h (b++[V.int .i64 (W .i64 (d+1))]) (c++[V.str e]))))
 (gd (decide (0<=a)) <|
  gd (decide (a.toNat < b.length)) <|
  aS b (0+a.toNat) fun i =>
  kI .i64 i fun j =>
  cond (j==(W .i64 (d+1)))
 (gd (decide (0<=a)) <|
  gd (decide (a.toNat < c.length)) <|
  aS c (0+a.toNat) fun k =>
  kS k fun l =>
  gd (decide (0<=a)) <|
  gd (decide (a.toNat < b.length)) <|
  aS b (0+a.toNat) fun m =>
  kI .i64 m fun q =>
  gd (decide (0<=a)) <|
  gd (decide (a.toNat < c.length)) <|
  aS c (0+a.toNat) fun n =>
  kS n fun r =>
  some (.doneM (V.bool (l==e)) [O.box 144 (V.agg [V.mp 1,V.tail 4 0,V.tail 5 0]) false,O.map h,O.dead,O.dead,O.row 3 ((b).set (0+a.toNat) (V.int .i64 g)) 0,O.row 9 ((c).set (0+a.toNat) (V.str f)) 0]))
 (gd (decide (0<=a)) <|
  gd (decide (a.toNat < b.length)) <|
  aS b (0+a.toNat) fun o =>
  kI .i64 o fun s =>
  gd (decide (0<=a)) <|
  gd (decide (a.toNat < c.length)) <|
  aS c (0+a.toNat) fun p =>
  kS p fun t =>
  some (.doneM (V.bool false) [O.box 144 (V.agg [V.mp 1,V.tail 4 0,V.tail 5 0]) false,O.map h,O.dead,O.dead,O.row 3 ((b).set (0+a.toNat) (V.int .i64 g)) 0,O.row 9 ((c).set (0+a.toNat) (V.str f)) 0])))
theorem aaJ (a b c d e f g h): Rd true 4 132 0 (zX a b c d e f g h) (Hy a b c d e f g h):=rd (by kernel_rfl)
def xm (a b:Int) (c:List V): S:=⟨[V.own 0,V.junk,V.int .i64 a,V.int .i64 b]++(JU 24),[O.row 3 c 0]⟩
noncomputable def K1 (a:List V): R :=
 some (.head 0 (xm 0 (W .i64 ((a.length:Int) - 1)) a))
theorem Ut (a): Ec 169 1 aF [V.own 0] [O.row 3 a 0] (K1 a):=ec (by kernel_rfl) (by kernel_rfl)
noncomputable def HF (a c:Int) (b:List V): R :=
 cond (decide (a < c))
 (gd (decide (0<=c)) <|
  gd (decide (c.toNat < b.length)) <|
  aS b c.toNat fun e =>
  kI .i64 e fun d =>
  gd (decide (0<=a)) <|
  gd (decide (a.toNat < b.length)) <|
  aS b a.toNat fun f =>
  kI .i64 f fun g =>
  gd (decide (0<=a)) <|
  gd (decide (a.toNat < b.length)) <|
  aS b a.toNat fun h =>
  kI .i64 h fun j =>
  gd (decide (0<=c)) <|
  gd (decide (c.toNat < ((b).set a.toNat (V.int .i64 d)).length)) <|
  aS ((b).set a.toNat (V.int .i64 d)) c.toNat fun i =>
  kI .i64 i fun k =>
  some (.head 0 (xm (W .i64 (a+1)) (W .i64 (c - 1)) (((b).set a.toNat (V.int .i64 d)).set c.toNat (V.int .i64 g)))))
 (some (.doneM (V.tup []) [O.row 3 b 0]))
theorem Po (a b c): Rd true 1 169 0 (xm a b c) (HF a b c):=rd (by kernel_rfl)
noncomputable def K2 (a c:Int) (b:List V): R :=
 cond (decide (a ≥ 0))
 (cond (!(decide (a < c)))
 (some (.doneM (V.int .i64 1) (bm c b)))
 (cf aA aF mH 137 [V.ptr 0 0 0,V.int .i64 a] (bm c b) fun d =>
  bu (bm c b) <|
  cond (!d)
 (some (.doneM (V.int .i64 7) (bm c b)))
 (gd (decide (0<=W .i64 ((a.tdiv 8)))) <|
  gd (decide ((W .i64 ((a.tdiv 8))).toNat < b.length)) <|
  aS b (0+((W .i64 ((a.tdiv 8))).toNat)) fun e =>
  kI .u8 e fun f =>
  aE aA 193 [V.int .i64 a] fun g =>
  kI .u8 g fun h =>
  gd (decide (0<=W .i64 ((a.tdiv 8)))) <|
  gd (decide ((W .i64 ((a.tdiv 8))).toNat < b.length)) <|
  aS b (0+((W .i64 ((a.tdiv 8))).toNat)) fun i =>
  kI .u8 i fun j =>
  some (.doneM (V.int .i64 0) (bm c (((b).set (0+((W .i64 ((a.tdiv 8))).toNat)) (V.int .u8 (W .u8 (((BitVec.ofInt (IntKind.bits .u8) f &&& ~~~(BitVec.ofInt (IntKind.bits .u8) h)).toNat:Int)))))))))))
 (some (.doneM (V.int .i64 1) (bm c b)))
theorem Uu (a b c): Ec 174 2 aF [V.ptr 0 0 0,V.int .i64 a] (bm b c) (K2 a b c):=ec (by kernel_rfl) (by kernel_rfl)
set_option linter.unusedSimpArgs false
abbrev c7 (s:Bs):Prop:=s.length < 4294967296
def yB (s:Bs) (n:Int):Int:=if 0<=n/\n<=(s.length:Int) then 0 else 1
def kz (s:Bs) (n size:Int):Int:=if size < 1∨8 < size∨¬(0<=n/\n<=(s.length:Int)) then 1 else if (s.length:Int) - n < size then 3 else 0
theorem OK {s:Bs} {n size:Int} (h:kz s n size=0):1<=size/\size<=8/\0<=n/\n+size<=(s.length:Int):=by
 unfold kz at h
 split at h
 ·cases h
 ·split at h
  ·cases h
  ·omega
theorem yO {s:Bs} {n size:Int} (h1:1<=size) (h2:size<=8) (h3:0<=n) (h4:n+size<=(s.length:Int)):kz s n size=0:=by
 unfold kz
 rw [if_neg (by omega),if_neg (by omega)]
theorem GI (s:Bs) (n:Int):bo aA 113 [.str s,.int .i64 n]=some (.int .i64 (yB s n)):=by
 refine TJ _ _ ?_
 unfold Ey yB
 by_cases h1:n < 0
 ·rw [decide_eq_true h1,if_neg (by omega)];rfl
 ·rw [decide_eq_false h1]
  by_cases h2:n > (s.length:Int)
  ·rw [decide_eq_true h2,if_neg (by omega)];rfl
  ·rw [decide_eq_false h2,if_pos (by omega)];rfl
theorem yP (s:Bs) (n size:Int) (hs:c7 s):bo aA 208 [.str s,.int .i64 n,.int .i64 size]=some (.int .i64 (kz s n size)):=by
 refine UI _ _ _ ?_
 unfold EV kz
 rw [aH (GI s n),bX]
 by_cases h1:size < 1
 ·rw [decide_eq_true h1,if_pos (.inl h1)];rfl
 rw [decide_eq_false h1,cond_false]
 by_cases h2:size > 8
 ·rw [decide_eq_true h2,if_pos (.inr (.inl h2))];rfl
 rw [decide_eq_false h2,cond_false]
 unfold yB
 by_cases h3:0<=n/\n<=(s.length:Int)
 ·rw [if_pos h3,if_neg (by omega),aU (by omega)]
  by_cases h4:(s.length:Int) - n < size
  ·rw [decide_eq_true h4,if_pos h4];rfl
  ·rw [decide_eq_false h4,if_neg h4];rfl
 ·rw [if_neg h3,if_pos (.inr (.inr h3))];rfl
def fY (s:Bs) (n size:Int):Int × Int:=if kz s n size=0 then (((dY ((s.drop n.toNat).take size.toNat):Nat):Int),0) else (0,kz s n size)
theorem Wt (s:Bs) (n k:Nat) (hk:k<=8) (hl:n+k<=s.length) (hs:c7 s):∀d i,i+d=k ->
  Go qk false 0 (fF 214) (.head 0 (uS s (n:Int) ((dY ((s.drop n).take i):Nat):Int) (k:Int) (i:Int))) (.done (.tup [.int .u64 ((dY ((s.drop n).take k):Nat):Int),.int .i64 0])):=by
 intro d
 induction d with
 | zero =>
  intro i hi
  have:i=k:=by omega
  subst this
  refine Py _ _ _ _ _ ?_ (.refl _)
  unfold HJ
  rw [decide_eq_false (by omega)]
  rfl
 | succ d ih =>
  intro i hi
  have hsl:=hs
  have aD:n+i < s.length:=by omega
  obtain ⟨c,hc⟩:∃c,s[n+i]? = some c:=⟨_,bG aD⟩
  have hlen:((s.drop n).take i).length=i:=by simp;omega
  have e1:(s.drop n).take (i+1)=(s.drop n).take i++[c]:=by
   rw [zF,gB,hc];rfl
  have hx:dY ((s.drop n).take i) < 256 ^ i:=by have:=C2 ((s.drop n).take i);rwa [hlen] at this
  refine Py _ _ _ _ _ (o:=.head 0 (uS s (n:Int) ((dY ((s.drop n).take (i+1)):Nat):Int) (k:Int) ((i+1:Nat):Int))) ?_ (ih (i+1) (by omega))
  unfold HJ
  have w1:W .i64 ((n:Int)+(i:Int))=((n+i:Nat):Int):=by rw [aU (by omega)];omega
  have w2:W .i64 (8 * (i:Int))=8 * (i:Int):=aU (by omega)
  have w3:W .i64 ((i:Int)+1)=((i+1:Nat):Int):=by rw [aU (by omega)];omega
  rw [decide_eq_true (by omega),cond_true,w1,aB (by simp;omega),aY,cQ hc,Y4 hx c.toNat_lt (by omega),w2,aB (by simp;omega),w3,e1,QP,hlen]
theorem Wv (s:Bs) (n size:Int) (hs:c7 s):bo aA 214 [.str s,.int .i64 n,.int .i64 size]=some (.tup [.int .u64 (fY s n size).1,.int .i64 (fY s n size).2]):=by
 by_cases h:kz s n size=0
 ·obtain ⟨h1,h2,h3,h4⟩:=OK h
  obtain ⟨k,rfl⟩:∃k:Nat,size=(k:Int):=⟨size.toNat,by omega⟩
  obtain ⟨m,rfl⟩:∃m:Nat,n=(m:Int):=⟨n.toNat,by omega⟩
  have hl:=Wt s m k (by omega) (by omega) hs k 0 (by omega)
  refine K5 _ _ _ ?_ (o:=.head 0 (uS s (m:Int) 0 (k:Int) 0)) ?_
  ·unfold EW
   rw [aH (yP s _ _ hs),bX,h];rfl
  ·unfold fY
   rw [if_pos h]
   simpa [dY] using hl
 ·refine K5 _ _ _ ?_ (.refl _)
  unfold EW fY
  rw [aH (yP s _ _ hs),bX,if_neg h,jm h];rfl
def tT (s:Bs) (n size:Int) (x:Nat):Bs × Int:=if kz s n size=0 then (if x < 256 ^ size.toNat then (py s n.toNat (cj size.toNat x),0) else ([],2)) else ([],kz s n size)
theorem Zb {av:List V} {v:V} (h:vT av=some v):bo aA 209 av=some v:=B3 (g:=vT) rfl h
theorem N8 (s:Bs) (n:Nat) (t:Bs) (h:n+t.length<=s.length) (l:List V) (ns:List Int) (hl:ge l=some ns) (ht:(ns.map fun x=>UInt8.ofNat x.toNat)=t) :
  bo aA 209 [.str s,.int .i64 (n:Int),.sl l]=some (.str (py s n t)):=by
 apply Zb
 have e:l.length=t.length:=by rw [<-ht,dh,(Gw hl).1]
 simp only [vT,aY]
 rw [if_pos ⟨I3 _,by omega⟩,hl,cB,ht]
def putRow (x k i:Nat):List V:=(cj i x).map (fun b=>V.int .u8 (b.toNat:Int))++bH (k - i) (V.int .u8 0)
theorem ZF {x k i:Nat} (h:i<=k):(putRow x k i).length=k:=by simp [putRow,eB];omega
theorem ZI {x k i:Nat} (h:i < k):(putRow x k i).set i (V.int .u8 ((x / 256 ^ i % 256:Nat):Int))=putRow x k (i+1):=by
 unfold putRow
 rw [Du _ _ (by simp [eB])]
 simp only [dh,eB,jB]
 rw [show k - i=(k - (i+1))+1 by omega,List.replicate_succ,List.set_cons_zero,MX,fK,bw]
 congr 1
 simp only [di,gM,dv,dp,List.cons.injEq,V.int.injEq,true_and,and_true]
 simp
theorem ZM (s:Bs) (n k x:Nat) (hk:k<=8) (h1:1<=k) (hl:n+k<=s.length) (hs:c7 s):∀d i,i+d=k ->
  Go qk false 0 (fF 161) (.head 0 (sw s (n:Int) (x:Int) (k:Int) (i:Int) (putRow x k i))) (.done (.tup [.str (py s n (cj k x)),.int .i64 0])):=by
 intro d
 induction d with
 | zero =>
  intro i hi
  have:i=k:=by omega
  subst this
  refine Pm _ _ _ _ _ _ ?_ (.refl _)
  unfold HD
  have hrow:putRow x i i=dS (cj i x):=by simp [putRow,dS]
  rw [decide_eq_false (by omega),cond_false,aH (N8 s n (cj i x) (by rw [eB];exact hl) _ _ (by rw [hrow];exact BR _) (BS _)),eg]
 | succ d ih =>
  intro i hi
  have hsl:=hs
  refine Pm _ _ _ _ _ _ (o:=.head 0 (sw s (n:Int) (x:Int) (k:Int) ((i+1:Nat):Int) (putRow x k (i+1)))) ?_ (ih (i+1) (by omega))
  unfold HD
  have w2:W .i64 (8 * (i:Int))=8 * (i:Int):=aU (by omega)
  have w3:W .i64 ((i:Int)+1)=((i+1:Nat):Int):=by rw [aU (by omega)];omega
  have hget:(putRow x k i)[i]? = some (V.int .u8 0):=by
   unfold putRow
   rw [df (by simp [eB])]
   simp only [dh,eB,jB]
   rw [List.getElem?_replicate,if_pos (by omega)]
  rw [Ii (by omega),Jy]
  rw [decide_eq_true (by omega),cond_true,w2,aB (by simp;omega),aB (by simp),aY,aB (by rw [ZF (by omega)];simp;omega),cQ hget,bX,ZI (by omega),w3]
theorem ZN (s:Bs) (n size:Int) (x:Nat) (hx:x < 18446744073709551616) (hs:c7 s):bo aA 161 [.str s,.int .i64 n,.int .i64 size,.int .u64 (x:Int)]=some (.tup [.str (tT s n size x).1,.int .i64 (tT s n size x).2]):=by
 by_cases h:kz s n size=0
 ·obtain ⟨h1,h2,h3,h4⟩:=OK h
  obtain ⟨k,rfl⟩:∃k:Nat,size=(k:Int):=⟨size.toNat,by omega⟩
  obtain ⟨m,rfl⟩:∃m:Nat,n=(m:Int):=⟨n.toNat,by omega⟩
  have w2:W .i64 (8 * (k:Int))=8 * (k:Int):=aU (by omega)
  have hfits:x < 256 ^ k↔x / 256 ^ k=0:=by rw [Nat.div_eq_zero_iff];constructor
                                           ·exact .inr
                                           ·rintro (h | h)
                                            ·exact absurd h (by have:=Nat.pow_pos (n:=k) (show 0 < 256 by decide);omega)
                                            ·exact h
  unfold tT
  rw [if_pos h,aY,aY]
  by_cases hb:x < 256 ^ k
  ·rw [if_pos hb]
   have hl:=ZM s m k x (by omega) (by omega) (by omega) hs k 0 (by omega)
   have hrow:putRow x k 0=bH k (V.int .u8 0):=by simp [putRow,cj]
   rw [hrow] at hl
   refine EJ _ _ _ _ ?_ (o:=.head 0 (sw s (m:Int) (x:Int) (k:Int) 0 (bH k (V.int .u8 0)))) (by simpa using hl)
   unfold AT
   rw [aH (yP s _ _ hs),bX,h]
   rw [Ii (by omega),hfits.1 hb,w2,aY]
   by_cases h8:(k:Int) < 8
   ·simp [h8,show ¬(8 * (k:Int) < 0) by omega]
    omega
   ·simp [h8]
    omega
  ·rw [if_neg hb]
   have h8:(k:Int) < 8:=by
    have:¬k=8:=by
     rintro rfl
     exact hb hx
    omega
   refine EJ _ _ _ _ ?_ (.refl _)
   unfold AT
   rw [aH (yP s _ _ hs),bX,h]
   rw [Ii (by omega),w2]
   have:0 < x / 256 ^ k:=Nat.pos_of_ne_zero fun e=>hb (hfits.2 e)
   have hp:(((x / 256 ^ k:Nat):Int) > 0):=by omega
   rw [decide_eq_true h8,decide_eq_true hp,decide_eq_false (show ¬(8 * (k:Int) < 0) by omega)]
   rfl
 ·refine EJ _ _ _ _ ?_ (.refl _)
  unfold AT tT
  rw [aH (yP s _ _ hs),bX,if_neg h,jm h];rfl
def gy (s:Bs) (n:Int):Bs × Int × Int :=
 if 0<=n/\n<=(s.length:Int) then
  match s.drop n.toNat with
  | []=>([],0,3)
  | c::r=>if r.length < c.toNat then ([],0,3) else (r.take c.toNat,n+1+c.toNat,0)
 else ([],0,1)
theorem acg (s:Bs) (n:Int) (hs:c7 s):bo aA 71 [.str s,.int .i64 n]=some (.tup [.str (gy s n).1,.int .i64 (gy s n).2.1,.int .i64 (gy s n).2.2]):=by
 refine U6 _ _ ?_
 have hsl:=hs
 unfold E5 gy
 rw [aH (GI s n),bX]
 unfold yB
 by_cases h:0<=n/\n<=(s.length:Int)
 ·rw [if_pos h,if_pos h]
  obtain ⟨m,rfl⟩:∃m:Nat,n=(m:Int):=⟨n.toNat,by omega⟩
  rw [aY]
  cases hd:s.drop m with
  | nil =>
   have:s.length<=m:=Dj.1 hd
   rw [cN (show (m:Int)=(s.length:Int) by omega)]
   rfl
  | cons c r =>
   obtain ⟨h1,h2,h3⟩:=er hd
   have hrl:r.length+m+1=s.length:=by
    have:=congrArg oJ hd
    simp at this
    omega
   have hcl:=c.toNat_lt
   have w1:W .i64 (c.toNat:Int)=(c.toNat:Int):=aU (by omega)
   have w2:W .i64 (W .i64 ((s.length:Int) - (m:Int)) - 1)=(r.length:Int):=by
    rw [aU (n:=(s.length:Int) - (m:Int)) (by omega),aU (by omega)];omega
   have w3:W .i64 ((m:Int)+1)=((m+1:Nat):Int):=by rw [aU (by omega)];omega
   have w4:W .i64 (((m+1:Nat):Int)+(c.toNat:Int))=((m+1+c.toNat:Nat):Int):=by rw [aU (by omega)];omega
   rw [cZ (show (m:Int)≠(s.length:Int) by omega)]
   simp only [cQ h1,w1,w2,w3,w4,aY]
   by_cases hb:r.length < c.toNat
   ·rw [if_pos hb,decide_eq_true (show (r.length:Int) < (c.toNat:Int) by omega)]
    simp
   ·rw [if_neg hb,decide_eq_false (show ¬(r.length:Int) < (c.toNat:Int) by omega)]
    have e1:(s.take (m+1+c.toNat)).drop (m+1)=r.take c.toNat:=by
     rw [List.drop_take,show m+1+c.toNat - (m+1)=c.toNat by omega]
     congr 1
    rw [e1]
    simp
    omega
 ·rw [if_neg h,if_neg h];rfl
def tU (s:Bs) (n:Int) (t:Bs):Bs × Int × Int :=
 if 0<=n/\n<=(s.length:Int) then
  if 255 < t.length then ([],0,2) else
  if (s.length:Int) - n < (t.length:Int)+1 then ([],0,3) else (py s n.toNat (UInt8.ofNat t.length::t),n+t.length+1,0)
 else ([],0,1)
theorem ZJ (s:Bs) (n:Int) (t:Bs) (hs:c7 s) (ht:c7 t) :
  bo aA 162 [.str s,.int .i64 n,.str t]=some (.tup [.str (tU s n t).1,.int .i64 (tU s n t).2.1,.int .i64 (tU s n t).2.2]):=by
 refine Uk _ _ _ ?_
 have hsl:=hs
 have htl:=ht
 unfold EK tU
 rw [aH (GI s n),bX]
 unfold yB
 by_cases h:0<=n/\n<=(s.length:Int)
 ·rw [if_pos h,if_pos h]
  obtain ⟨m,rfl⟩:∃m:Nat,n=(m:Int):=⟨n.toNat,by omega⟩
  rw [aY]
  have w1:W .i64 ((s.length:Int) - (m:Int))=(s.length:Int) - (m:Int):=aU (by omega)
  have w2:W .i64 ((t.length:Int)+1)=(t.length:Int)+1:=aU (by omega)
  rw [w1,w2,de rfl,cond_false]
  by_cases h2:255 < t.length
  ·rw [if_pos h2,decide_eq_true (show (t.length:Int) > 255 by omega)];rfl
  rw [if_neg h2,decide_eq_false (show ¬(t.length:Int) > 255 by omega),cond_false]
  by_cases h3:(s.length:Int) - (m:Int) < (t.length:Int)+1
  ·rw [if_pos h3,decide_eq_true h3];rfl
  rw [if_neg h3,decide_eq_false h3,cond_false]
  have w3:W .u8 ((t.length:Int))=((t.length:Nat):Int):=by rw [Jy];omega
  have w4:W .i64 ((m:Int)+(t.length:Int))=(m:Int)+(t.length:Int):=aU (by omega)
  have w5:W .i64 ((m:Int)+(t.length:Int)+1)=(m:Int)+(t.length:Int)+1:=aU (by omega)
  have e1:ge ([V.int .u8 ((t.length:Nat):Int)]++dS t)=some (((t.length:Nat):Int)::t.map fun b=>(b.toNat:Int)):=by
   simp only [dv,dp,ge,BR,cB]
  have e2:((((t.length:Nat):Int)::t.map fun b=>(b.toNat:Int)).map fun x=>UInt8.ofNat x.toNat)=UInt8.ofNat t.length::t:=by
   rw [di,BS,aY]
  rw [w3,w4,w5,aB (acO t),aB (by simp [D6];omega),aH (N8 s m (UInt8.ofNat t.length::t) (by simp;omega) _ _ e1 e2),eg]
 ·rw [if_neg h,if_neg h];rfl
def rj (s:Bs) (n:Int):Bs × Int:=if n < 0∨65536 < n then ([],1) else if n < (s.length:Int) then ([],2) else (s++bH (n.toNat - s.length) 0,0)
theorem YP (k:Nat):ge (bH k (V.int .u8 0))=some (bH k 0):=by
 have:=YO (bH k 0)
 rwa [Jd] at this
theorem Ze (s:Bs) (n:Int) (hs:c7 s):bo aA 160 [.str s,.int .i64 n]=some (.tup [.str (rj s n).1,.int .i64 (rj s n).2]):=by
 refine Ui _ _ ?_
 have hsl:=hs
 unfold EI rj
 by_cases h1:n < 0
 ·rw [decide_eq_true h1,if_pos (.inl h1)];rfl
 rw [decide_eq_false h1,cond_false]
 by_cases h2:n > 65536
 ·rw [decide_eq_true h2,if_pos (.inr h2)];rfl
 rw [decide_eq_false h2,cond_false,if_neg (by omega)]
 by_cases h3:(s.length:Int) > n
 ·rw [decide_eq_true h3,if_pos h3];rfl
 rw [decide_eq_false h3,cond_false,if_neg h3]
 obtain ⟨k,rfl⟩:∃k:Nat,n=((s.length+k:Nat):Int):=⟨(n - s.length).toNat,by omega⟩
 have w:W .i64 (((s.length+k:Nat):Int) - (s.length:Int))=(k:Int):=by rw [aU (by omega)];omega
 rw [w,aY,aY,aB (by simp),aB (by simp),aB (by simp;omega),YP,gw,Jd,show s.length+k - s.length=k by omega]
 rw [aB (by simp;omega)]
 rfl
def mi (s:Bs):Bs:=(s.reverse.dropWhile fun b=>b==0).reverse
theorem Sc (s:Bs):mi (s++[0])=mi s:=by simp [mi]
theorem R9 (s:Bs) {c:UInt8} (h:c≠0):mi (s++[c])=s++[c]:=by simp [mi,h]
theorem Sa (s:Bs) (hs:c7 s):∀n,n<=s.length->Go qk false 0 (fF 176) (.head 0 (xn s (n:Int))) (.done (.str (mi (s.take n)))):=by
 intro n
 have hsl:=hs
 induction n with
 | zero =>
  intro _
  refine HI _ _ ?_ (.refl _)
  unfold Cu
  rw [decide_eq_false (by omega),cond_false,aB (by simp),aB (by simp)]
  rfl
 | succ n ih =>
  intro hn
  have aD:n < s.length:=by omega
  have hc:s[n]? = some s[n]:=bG aD
  have e1:s.take (n+1)=s.take n++[s[n]]:=by rw [zF,hc];rfl
  have w:W .i64 (((n+1:Nat):Int) - 1)=(n:Int):=by rw [aU (by omega)];omega
  by_cases hz:s[n]=0
  ·refine HI _ _ (o:=.head 0 (xn s (n:Int))) ?_ ?_
   ·unfold Cu
    rw [decide_eq_true (by omega),cond_true,w,aB (by simp),aY,cQ hc,hz]
    rfl
   ·have:=ih (by omega)
    rw [e1,hz,Sc]
    exact this
  ·refine HI _ _ ?_ (.refl _)
   unfold Cu
   have hz2:¬((s[n].toNat:Int)=0):=by
    intro e
    exact hz (UInt8.toNat_inj.1 (by simpa using e))
   rw [decide_eq_true (by omega),cond_true,w,aB (by simp),aY,cQ hc,cZ hz2,cond_false,aB (by simp;omega),aY,aB (by simp;omega),e1,R9 _ hz]
theorem JS (s:Bs) (hs:c7 s):bo aA 176 [.str s]=some (.str (mi s)):=by
 have:=Sa s hs s.length (bK _)
 rw [jZ] at this
 exact Uw _ rfl this
def bq (s:Bs):Bool:=!(s==[]) && decide (s.length<=16)
theorem iX (s:Bs):bo aA 73 [.str s]=some (.bool (bq s)):=by
 refine U8 _ ?_
 unfold E6 bq
 cases h:s==[] with
 | true=>rfl
 | false =>
  rw [decide_eq_decide.2 (show ((s.length:Int)<=16)↔(s.length<=16) by omega)];rfl
theorem MP (s:Bs):bo aA 47 [.str s]=some (.bool (bq s)):=by
 refine U1 _ ?_
 unfold E0 bq
 cases s with
 | nil=>rfl
 | cons c s =>
  rw [decide_eq_true (by simp;omega),decide_eq_decide.2 (show (((c::s).length:Int)<=16)↔((c::s).length<=16) by omega)];rfl
theorem XT (a b:Bs) (hl:b.length < 4611686018427387904):∀(r s:Bs) (k:Nat),a.drop k=r->b.drop k=s->k<=a.length->k<=b.length ->
  Go qk false 0 (fF 35) (.head 0 (xq a b (k:Int))) (.done (.bool (lt r s))):=by
 intro r
 induction r with
 | nil =>
  intro s k hr hs ha hb
  have h1:=drop_nil hr
  refine Cw _ _ _ ?_ (.refl _)
  cases s with
  | nil =>
   have h2:=drop_nil hs
   have e:decide ((a.length:Int) < (b.length:Int))=false:=decide_eq_false (by omega)
   simp (disch:=omega) only [ww,lt,Op.bytesLess,e,cond_true,cond_false,decide_true,decide_false,qC,bS,bX,eg,ll,qI,jp,dC,ju,jw,gw,decide_eq_true,decide_eq_false,cN,cZ,jm,de,aY,rK,rJ,aU,d9,eO,jY,dh,cO,cG,dR,bv,gi,oD,du,iL,jA,pR,mc,lr,gL,cM,rT,beq_self_eq_true,rS,rQ,rW,rY,rZ,sd,rV,fK,di,gM,bw,dp,dv,if_true,if_false,if_pos,if_neg]
  | cons y s =>
   obtain ⟨_,_,h3⟩:=er hs
   have e:decide ((a.length:Int) < (b.length:Int))=true:=decide_eq_true (by omega)
   simp (disch:=omega) only [ww,lt,Op.bytesLess,e,cond_true,cond_false,decide_true,decide_false,qC,bS,bX,eg,ll,qI,jp,dC,ju,jw,gw,decide_eq_true,decide_eq_false,cN,cZ,jm,de,aY,rK,rJ,aU,d9,eO,jY,dh,cO,cG,dR,bv,gi,oD,du,iL,jA,pR,mc,lr,gL,cM,rT,beq_self_eq_true,rS,rQ,rW,rY,rZ,sd,rV,fK,di,gM,bw,dp,dv,if_true,if_false,if_pos,if_neg]
 | cons x r ih =>
  intro s k hr hs ha hb
  obtain ⟨h1,h2,h3⟩:=er hr
  cases s with
  | nil =>
   have h4:=drop_nil hs
   refine Cw _ _ _ ?_ (.refl _)
   have e:decide ((a.length:Int) < (b.length:Int))=false:=decide_eq_false (by omega)
   simp (disch:=omega) only [ww,lt,Op.bytesLess,e,cond_true,cond_false,decide_true,decide_false,qC,bS,bX,eg,ll,qI,jp,dC,ju,jw,gw,decide_eq_true,decide_eq_false,cN,cZ,jm,de,aY,rK,rJ,aU,d9,eO,jY,dh,cO,cG,dR,bv,gi,oD,du,iL,jA,pR,mc,lr,gL,cM,rT,beq_self_eq_true,rS,rQ,rW,rY,rZ,sd,rV,fK,di,gM,bw,dp,dv,if_true,if_false,if_pos,if_neg]
  | cons y s =>
   obtain ⟨h4,h5,h6⟩:=er hs
   by_cases e:x=y
   ·subst e
    refine Cw _ _ _ (o:=.head 0 (xq a b ((k+1:Nat):Int))) ?_ ?_
    ·simp (disch:=omega) only [ww,cQ h1,cQ h4,bne_self_eq_false,cond_true,cond_false,decide_true,decide_false,qC,bS,bX,eg,ll,qI,jp,dC,ju,jw,gw,decide_eq_true,decide_eq_false,cN,cZ,jm,de,aY,rK,rJ,aU,d9,eO,jY,dh,cO,cG,dR,bv,gi,oD,du,iL,jA,pR,mc,lr,gL,cM,rT,beq_self_eq_true,rS,rQ,rW,rY,rZ,sd,rV,fK,di,gM,bw,dp,dv,if_true,if_false,if_pos,if_neg]
    ·have:=ih s (k+1) h2 h5 (by omega) (by omega)
     have e:lt (x::r) (x::s)=lt r s:=by simp [lt,Op.bytesLess]
     rw [e];exact this
   ·refine Cw _ _ _ ?_ (.refl _)
    have e2:((x.toNat:Int) != (y.toNat:Int))=true:=by
     simp only [bne_iff_ne,ne_eq,Int.natCast_inj]
     exact fun h=>e (UInt8.toNat_inj.1 h)
    have e3:lt (x::r) (y::s)=decide ((x.toNat:Int) < (y.toNat:Int)):=by
     simp [lt,Op.bytesLess,e,UInt8.lt_iff_toNat_lt]
    simp (disch:=omega) only [ww,cQ h1,cQ h4,e2,e3,cond_true,cond_false,decide_true,decide_false,qC,bS,bX,eg,ll,qI,jp,dC,ju,jw,gw,decide_eq_true,decide_eq_false,cN,cZ,jm,de,aY,rK,rJ,aU,d9,eO,jY,dh,cO,cG,dR,bv,gi,oD,du,iL,jA,pR,mc,lr,gL,cM,rT,beq_self_eq_true,rS,rQ,rW,rY,rZ,sd,rV,fK,di,gM,bw,dp,dv,if_true,if_false,if_pos,if_neg]
theorem yp (a b:Bs) (hl:b.length < 4611686018427387904):bo aA 35 [.str a,.str b]=some (.bool (lt a b)) :=
 UR a b rfl (XT a b hl a b 0 rfl rfl (iB _) (iB _))
def bd (l:List Bs):List V:=l.map V.str
def aC (l:List Int):List V:=l.map (V.int .i64)
theorem gh (l:List Bs):(bd l).length=l.length:=by simp [bd]
theorem co (l:List Int):(aC l).length=l.length:=by simp [aC]
theorem lk {l:List Bs} {n:Nat} {x:Bs} {k:V->R} (h:l[n]? = some x):aS (bd l) n k=k (.str x):=F0 h
theorem fi {l:List Int} {n:Nat} {x:Int} {k:V->R} (h:l[n]? = some x):aS (aC l) n k=k (.int .i64 x):=F0 h
theorem Xj (a b:List Int) (hab:a.length=b.length) (hl:a.length < 4294967296):∀(r s:List Int) (k:Nat),a.drop k=r->b.drop k=s ->
  Go qk false 0 (fF 49) (.head 0 (uT (aC a) (aC b) (k:Int))) (.done (.bool (r==s))):=by
 intro r
 induction r with
 | nil =>
  intro s k hr hs
  have h1:=drop_nil hr
  have:s=[]:=by rw [<-hs];exact Dj.2 (by omega)
  subst this
  refine HT _ _ _ ?_ (.refl _)
  unfold CB
  rw [decide_eq_false (by first | omega | (simp only [co];omega))]
  rfl
 | cons x r ih =>
  intro s k hr hs
  obtain ⟨h1,h2,h3⟩:=er hr
  cases s with
  | nil=>have:=drop_nil hs;omega
  | cons y s =>
   obtain ⟨h4,h5,h6⟩:=er hs
   have w:W .i64 ((k:Int)+1)=((k+1:Nat):Int):=by rw [aU (by omega)];omega
   by_cases e:x=y
   ·subst e
    refine HT _ _ _ (o:=.head 0 (uT (aC a) (aC b) ((k+1:Nat):Int))) ?_ ?_
    ·unfold CB
     rw [decide_eq_true (by first | omega | (simp only [co];omega)),cond_true,aB (by simp),aY,fi h1,bX,aB (by simp),fi h4,bX,w]
     simp
    ·have:=ih s (k+1) h2 h5
     simpa using this
   ·refine HT _ _ _ ?_ (.refl _)
    have e2:((x::r)==(y::s))=false:=by
     simp [e]
    unfold CB
    rw [decide_eq_true (by first | omega | (simp only [co];omega)),cond_true,aB (by simp),aY,fi h1,bX,aB (by simp),fi h4,bX,(show (x != y)=true by simpa using e),e2]
    rfl
theorem F7 (a b:List Int) (hl:a.length < 4294967296):bo aA 49 [.sl (aC a),.sl (aC b)]=some (.bool (a==b)):=by
 by_cases h:a.length=b.length
 ·refine Lg _ _ (o:=.head 0 (uT (aC a) (aC b) ((0:Nat):Int))) ?_ (Xj a b h hl a b 0 rfl rfl)
  unfold E3
  rw [co,co,de (by omega)]
  rfl
 ·refine Lg _ _ ?_ (.refl _)
  unfold E3
  have:(a==b)=false:=by
   simp only [beq_eq_false_iff_ne,ne_eq]
   rintro rfl
   exact h rfl
  rw [co,co,jm (by omega),this]
  rfl
def jD (l:List Bs):Prop:=l.Pairwise fun p q=>lt p q=true
def bN (m:List Bs) (k:Bs):Nat:=(m.takeWhile fun p=>lt p k).length
def b9 (m:List Bs) (k:Bs):Bool:=match m[bN m k]? with | some p=>p==k | none=>false
theorem yo (m:List Bs) (k:Bs):bN m k<=m.length:=(List.takeWhile_sublist _).length_le
theorem BA (p:Bs) (m:List Bs) (k:Bs):bN (p::m) k=if lt p k then bN m k+1 else 0:=by
 unfold bN
 rw [List.takeWhile_cons]
 split<;>simp_all
theorem BC {m:List Bs} (hs:jD m) (k:Bs):∀{i:Nat} {p:Bs},m[i]? = some p->(lt p k=true↔i < bN m k):=by
 induction m with
 | nil=>intro i p h;simp at h
 | cons x m ih =>
  intro i p h
  rw [BA]
  have hx:=fV.1 hs
  cases i with
  | zero =>
   simp at h;subst h
   cases hl:lt x k<;>simp
  | succ i =>
   simp at h
   have hp:=hx.1 p (cH h)
   cases hl:lt x k with
   | true =>
    have:=ih hx.2 h
    simp only [if_true,this]
    omega
   | false =>
    simp only [cM,if_false]
    constructor
    ·intro h2;rw [lt_trans hp h2] at hl;cases hl
    ·intro h2;omega
theorem Mq {i j:Nat} (h:i+j < 4611686018427387904):W .i64 ((W .u64 (W .i64 ((i:Int)+(j:Int)))).fdiv (2 ^ (min 1 (IntKind.bits .u64))))=((i+j) / 2:Nat):=by
 rw [aU (n:=(i:Int)+(j:Int)) (by omega),mh (by omega)]
 have e:(2:Int) ^ (min 1 (IntKind.bits .u64))=2:=rfl
 rw [e,Rf _ (by omega)]
 have e2:((i:Int)+(j:Int)) / 2=((i+j) / 2:Nat):=by omega
 rw [e2]
 exact aU (by omega)
theorem Xn (s:Bs):bo aA 223 [.str s]=some (.bool false):=UK _ (by unfold EX;simp)
theorem Xm (s:Bs):bo aA 206 [.str s]=some (.bool false):=UG _ (by unfold EU;simp)
theorem M6 (a b:Bs):bo aA 205 [.str a,.str b]=some (.bool (lt a b)):=by
 refine UE _ _ ?_
 unfold ET
 rw [aH (Xn a)]
 rfl
theorem aa5 (m:List Bs) (hs:jD m) (k:Bs) (hl:m.length<=1000000):∀(d i j:Nat),j - i<=d->i<=bN m k->bN m k<=j->j<=m.length ->
  Go qk false 0 (fF 155) (.head 0 (qd (bd m) k m.length i j)) (.done (.tup [.int .i64 (bN m k),.bool (b9 m k)])):=by
 intro d
 induction d with
 | zero =>
  intro i j hd hi hj hn
  have e:i=bN m k:=by omega
  refine HA _ _ _ _ _ ?_ (.refl _)
  unfold Cs
  rw [decide_eq_false (by omega),cond_false]
  by_cases aD:i < m.length
  ·have h1:m[i]? = some m[i]:=bG aD
   have e2:b9 m k=(m[i]==k):=by unfold b9;rw [<-e,h1]
   rw [<-e,decide_eq_true (by omega),cond_true,aB (by simp),aY,lk h1,eg,e2]
   cases hx:m[i]==k with
   | true=>rfl
   | false =>
    rw [cond_false,aB (by simp),lk h1,eg,aH (Xm _),bS]
    rfl
  ·have e2:b9 m k=false:=by unfold b9;rw [<-e,wV (by omega)]
   rw [<-e,e2,decide_eq_false (by omega)]
   rfl
 | succ d ih =>
  intro i j hd hi hj hn
  by_cases hij:i < j
  ·have hh:=Mq (i:=i) (j:=j) (by omega)
   generalize hg:(i+j) / 2=h at hh
   have hb:i<=h/\h < j:=by omega
   have h1:m[h]? = some m[h]:=bG (by omega)
   have hlb:=BC hs k h1
   have w:W .i64 ((h:Int)+1)=((h+1:Nat):Int):=by rw [aU (by omega)];omega
   cases hx:lt m[h] k with
   | true =>
    refine HA _ _ _ _ _ (o:=.head 0 (qd (bd m) k m.length ((h+1:Nat):Int) j)) ?_ (ih (h+1) j (by omega) (by have:=hlb.1 hx;omega) hj hn)
    unfold Cs
    rw [decide_eq_true (by omega),cond_true,hh,aB (by simp),aY,lk h1,eg,aH (M6 _ _),bS,hx,cond_true,w]
   | false =>
    have hge:bN m k<=h:=by
     rcases kN h (bN m k) with q | q
     ·rw [hlb.2 q] at hx;cases hx
     ·exact q
    refine HA _ _ _ _ _ (o:=.head 0 (qd (bd m) k m.length i h)) ?_ (ih i h (by omega) hi hge (by omega))
    unfold Cs
    rw [decide_eq_true (by omega),cond_true,hh,aB (by simp),aY,lk h1,eg,aH (M6 _ _),bS,hx,cond_false]
  ·exact ih i j (by omega) hi hj hn
theorem aa6 (m:List Bs) (hs:jD m) (k:Bs) (hl:m.length<=1000000):bo aA 155 [.sl (bd m),.str k]=some (.tup [.int .i64 (bN m k),.bool (b9 m k)]):=by
 refine Ud _ _ (o:=.head 0 (qd (bd m) k m.length ((0:Nat):Int) m.length)) ?_ (aa5 m hs k hl _ 0 m.length (bK _) (iB _) (yo m k) (bK _))
 unfold KX
 rw [gh]
 rfl
structure bP where
 seps:List Bs
 kids:List Int
 high:Bs
 next:Int
abbrev eI (n:bP):V:=.agg [.sl (bd n.seps),.sl (aC n.kids),.str n.high,.int .i64 n.next]
structure Sm (n:bP):Prop where
 seps:n.seps.length<=1000
 sep:∀s∈n.seps,s.length<=1000
 kids:n.kids.length<=1000
 high:n.high.length<=1000
def cD:List Bs->Nat
 | []=>0
 | s::r=>3+s.length+cD r
theorem Qm:∀{l:List Bs},(∀s∈l,s.length<=1000)->cD l<=1003 * l.length
 | [],_=>bK _
 | s::r,h=>by
  have h1:=h s (by simp)
  have h2:=Qm (l:=r) fun x hx=>h x (by simp [hx])
  simp only [cD,cG]
  omega
def jT (n:bP):Nat:=7+n.high.length+cD n.seps
theorem abn {n:bP} (h:Sm n):jT n<=1100000:=by
 have h1:=Qm h.sep
 have h2:=h.seps
 have h3:=h.high
 unfold jT
 omega
theorem abo (l:List Bs) (hl:l.length<=1000) (hs:∀s∈l,s.length<=1000):∀(r:List Bs) (k a:Nat),l.drop k=r->a<=2000+1003 * k ->
  Go qk false 0 (fF 163) (.head 0 (uR (a:Int) (bd l) (l.length:Int) (k:Int))) (.done (.int .i64 ((a+cD r:Nat):Int))):=by
 intro r
 induction r with
 | nil =>
  intro k a hr ha
  have h1:=drop_nil hr
  refine Pn _ _ _ _ ?_ (.refl _)
  simp (disch:=omega) only [HE,cD,d0,cond_true,cond_false,decide_true,decide_false,qC,bS,bX,eg,ll,qI,jp,dC,ju,jw,gw,decide_eq_true,decide_eq_false,cN,cZ,jm,de,aY,rK,rJ,aU,d9,eO,jY,dh,cO,cG,dR,bv,gi,oD,du,iL,jA,pR,mc,lr,gL,cM,rT,beq_self_eq_true,rS,rQ,rW,rY,rZ,sd,rV,fK,di,gM,bw,dp,dv,if_true,if_false,if_pos,if_neg]
 | cons x r ih =>
  intro k a hr ha
  obtain ⟨h1,h2,h3⟩:=er hr
  have hx:=hs x (cH h1)
  refine Pn _ _ _ _ (o:=.head 0 (uR ((a+(3+x.length):Nat):Int) (bd l) (l.length:Int) ((k+1:Nat):Int))) ?_ ?_
  ·simp (disch:=omega) only [HE,lk h1,cond_true,cond_false,decide_true,decide_false,qC,bS,bX,eg,ll,qI,jp,dC,ju,jw,gw,decide_eq_true,decide_eq_false,cN,cZ,jm,de,aY,rK,rJ,aU,d9,eO,jY,dh,cO,cG,dR,bv,gi,oD,du,iL,jA,pR,mc,lr,gL,cM,rT,beq_self_eq_true,rS,rQ,rW,rY,rZ,sd,rV,fK,di,gM,bw,dp,dv,if_true,if_false,if_pos,if_neg]
  ·have:=ih (k+1) (a+(3+x.length)) h2 (by omega)
   rw [cD,<-iA a (3+x.length)]
   exact this
theorem Qa (n:bP) (h:Sm n):bo aA 163 [eI n]=some (.int .i64 (jT n:Int)):=by
 have hh:=h.high
 refine Um _ _ _ _ (o:=.head 0 (uR ((7+n.high.length:Nat):Int) (bd n.seps) (n.seps.length:Int) ((0:Nat):Int))) ?_ (abo n.seps h.seps h.sep n.seps 0 _ rfl (by omega))
 simp (disch:=omega) only [K0,gh,cond_true,cond_false,decide_true,decide_false,qC,bS,bX,eg,ll,qI,jp,dC,ju,jw,gw,decide_eq_true,decide_eq_false,cN,cZ,jm,de,aY,rK,rJ,aU,d9,eO,jY,dh,cO,cG,dR,bv,gi,oD,du,iL,jA,pR,mc,lr,gL,cM,rT,beq_self_eq_true,rS,rQ,rW,rY,rZ,sd,rV,fK,di,gM,bw,dp,dv,if_true,if_false,if_pos,if_neg]
def dV (n:Int):Bool:=decide (0<=n) && decide (n < 1024)
theorem yz (n:Int):bo aA 203 [.int .i64 n]=some (.bool (dV n)):=by
 refine UA _ ?_
 unfold ER dV
 by_cases h:0<=n
 ·rw [decide_eq_true h];rfl
 ·rw [decide_eq_false h];rfl
def lQ (n:bP):Bool:=decide (16+7+cD n.seps<=252)
theorem L2 (n:bP) (h:Sm n):bo aA 204 [eI n]=some (.bool (lQ n)):=by
 refine UC _ _ _ _ ?_
 have h1:=abn h
 have h2:=h.high
 unfold ES
 rw [aH (Qa n h),bX,aU (n:=(jT n:Int) - (n.high.length:Int)) (by omega),aU (by omega)]
 unfold lQ
 rw [decide_eq_decide.2 (show (jT n:Int) - (n.high.length:Int)+16<=252↔16+7+cD n.seps<=252 by unfold jT;omega)]
def eG (p:Bs):List Bs->Bool
 | []=>true
 | s::r=>bq s && lt p s && eG s r
def fh (p:Bs) (high:Bs):Bool:=high==[] || bq high && lt p high
def qx (n:bP):Bool:=decide (0<=n.next) && decide (n.next<=1024) && lQ n
def bQ (n:bP):Bool:=decide (n.kids.length=n.seps.length+1) && n.kids.all dV && eG [] n.seps && fh (n.seps.getLastD []) n.high && qx n
abbrev eT (p:Bs × Int):V:=.tup [.str p.1,.int .i64 p.2]
theorem JX (a:List Bs) (b:List Int):((List.zipWith (fun x y=>[x,y]) (bd a) (aC b)).map V.tup)=(a.zip b).map eT:=by
 induction a generalizing b with
 | nil=>rfl
 | cons x a ih =>
  cases b with
  | nil=>rfl
  | cons y b =>
   have:=ih b
   simp only [bd,aC,di,List.zipWith_cons_cons,Ji] at this |-
   rw [this]
def mT (n:bP):Bs->List (Bs × Int)->Bool
 | p,[]=>fh p n.high && qx n
 | p,(s,k)::r=>bq s && lt p s && dV k && mT n s r
theorem aae (n:bP) (h:Sm n):∀(l:List (Bs × Int)) (p:Bs),
  Go qk false 0 (fF 154) (.head 0 (xl (l.map eT) (bd n.seps) (aC n.kids) n.high n.next p)) (.done (.bool (mT n p l))):=by
 intro l
 induction l with
 | nil =>
  intro p
  refine y4 _ _ _ _ _ _ ?_ (.refl _)
  unfold Cr
  simp only [gM,kx,aH (L2 n h),bS,aH (iX n.high),mT,fh,qx]
  cases n.high==[] with
  | true =>
   by_cases h1:0<=n.next
   ·rw [decide_eq_true h1]
    cases decide (n.next<=1024)<;>rfl
   ·rw [decide_eq_false h1]
    rfl
  | false =>
   cases bq n.high with
   | false=>rfl
   | true =>
    show (cond (lt p n.high) _ _)=_
    cases lt p n.high with
    | false=>rfl
    | true =>
     by_cases h1:0<=n.next
     ·rw [decide_eq_true h1]
      cases decide (n.next<=1024)<;>rfl
     ·rw [decide_eq_false h1]
      rfl
 | cons x l ih =>
  obtain ⟨s,k⟩:=x
  intro p
  have e0:Cr (((s,k)::l).map eT) (bd n.seps) (aC n.kids) n.high n.next p=cond (!bq s) (some (.done (V.bool false))) (cond (Op.bytesLess s p || s==p) (some (.done (V.bool false))) (cond (!dV k) (some (.done (V.bool false))) (some (.head 0 (xl (l.map eT) (bd n.seps) (aC n.kids) n.high n.next s))))):=by
   unfold Cr
   simp only [di,kx,jp,ju,eg,bX,jw,aH (iX s),bS,aH (yz k)]
  rw [MZ s p] at e0
  cases h1:bq s with
  | false =>
   refine y4 _ _ _ _ _ _ (e0.trans ?_) (.refl _)
   rw [h1,mT,h1]
   rfl
  | true =>
   rw [h1] at e0
   cases h2:lt p s with
   | false =>
    refine y4 _ _ _ _ _ _ (e0.trans ?_) (.refl _)
    rw [h2,mT,h1,h2]
    rfl
   | true =>
    rw [h2] at e0
    cases h3:dV k with
    | false =>
     refine y4 _ _ _ _ _ _ (e0.trans ?_) (.refl _)
     rw [h3,mT,h1,h2,h3]
     rfl
    | true =>
     rw [h3] at e0
     refine y4 _ _ _ _ _ _ e0 ?_
     rw [mT,h1,h2,h3]
     exact ih s
theorem Ra (n:bP):∀(a:List Bs) (b:List Int) (p:Bs),b.length=a.length->mT n p (a.zip b)=(b.all dV && eG p a && fh (a.getLastD p) n.high && qx n)
 | [],b,p,h=>by
  have:b=[]:=by simpa using h
  subst this
  simp [mT,eG]
 | s::a,[],p,h=>by simp at h
 | s::a,k::b,p,h=>by
  have ih:=Ra n a b s (by simpa using h)
  have e:(s::a).getLastD p=a.getLastD s:=by
   cases a with
   | nil=>rfl
   | cons y a=>simp [List.getLastD]
  rw [Ji,mT,ih,e,eG,zw]
  cases bq s<;>cases lt p s<;>cases dV k<;>cases b.all dV<;>rfl
theorem Qj (l:List Bs):(bd l).all V.one=true:=by simp [bd,V.one]
theorem MM (l:List Int):(aC l).all V.one=true:=by simp [aC,V.one]
theorem pN (l:List Int):dm 1 (aC l)=true:=IP fun _=>rfl
theorem QV (l:List Bs):dm 1 (bd l)=true:=IP fun _=>rfl
theorem we (n:bP) (h:Sm n):bo aA 154 [eI n]=some (.bool (bQ n)):=by
 have hl:=h.seps
 have hk:=h.kids
 have w:W .i64 ((n.seps.length:Int)+1)=((n.seps.length+1:Nat):Int):=by rw [aU (by omega)];omega
 by_cases h1:n.kids.length=n.seps.length+1
 ·cases hn:n.kids with
  | nil=>rw [hn] at h1;simp at h1
  | cons k ks =>
   have h0:n.kids[0]? = some k:=by rw [hn];rfl
   have hd:n.kids.drop 1=ks:=by rw [hn];rfl
   cases hp:dV k with
   | false =>
    refine EG _ _ _ _ ?_ (.refl _)
    unfold AS
    rw [gh,co,w,de (by omega),cond_false,fi h0,bX,aH (yz k),bS,hp]
    have:bQ n=false:=by
     unfold bQ
     rw [hn,zw,hp]
     cases decide ((k::ks).length=n.seps.length+1)<;>rfl
    rw [this]
    rfl
   | true =>
    have hz:=Ra n n.seps ks [] (by rw [hn] at h1;simpa using h1)
    have e1:mT n [] (n.seps.zip ks)=bQ n:=by
     rw [hz]
     unfold bQ
     rw [decide_eq_true h1,hn,zw,hp]
     rfl
    rw [<-e1]
    refine EG _ _ _ _ ?_ (aae n h (n.seps.zip ks) [])
    unfold AS
    have e2:((aC n.kids).take (aC n.kids).length).drop 1=aC ks:=by rw [jZ,hn];rfl
    rw [de (by rw [gh,co,w];omega),cond_false,fi h0,bX,aH (yz k),bS,hp,bv,cond_false,aB (pN _),aB (by rw [co,hn];simp),e2]
    simp only [u7,if_pos (show (bd n.seps).length<=16777216/\(bd n.seps).all V.one=true/\(aC ks).all V.one=true from ⟨by rw [gh];omega,Qj _,MM _⟩),gw,JX]
 ·refine EG _ _ _ _ ?_ (.refl _)
  unfold AS
  have:bQ n=false:=by unfold bQ;rw [decide_eq_false h1];rfl
  rw [gh,co,w,jm (by omega),this]
  rfl
theorem qK {s:Bs} (h:bq s=true):lt [] s=true:=by
 cases s with
 | nil=>cases h
 | cons c s=>rfl
theorem OJ:∀(l:List Bs) (p:Bs),eG p l=true->(∀s∈l,lt p s=true)/\jD l
 | [],p,_=>⟨fun s h=>by simp at h,List.Pairwise.nil⟩
 | s::r,p,h=>by
  simp only [eG,bD] at h
  obtain ⟨h1,h2⟩:=OJ r s h.2
  refine ⟨fun x hx=>?_,fV.2 ⟨h1,h2⟩⟩
  rcases bO.1 hx with rfl | hx
  ·exact h.1.2
  ·exact lt_trans h.1.2 (h1 x hx)
theorem aaf {n:bP} (h:bQ n=true):jD n.seps:=by
 unfold bQ at h
 simp only [bD] at h
 exact (OJ _ _ h.1.1.2).2
def fc (l:List Bs) (key:Bs):Nat:=(l.takeWhile fun s=>!(lt key s)).length
theorem JM (l:List Bs) (key:Bs):fc l key<=l.length:=(List.takeWhile_sublist _).length_le
theorem sF (s:Bs) (l:List Bs) (key:Bs):fc (s::l) key=if lt key s then 0 else fc l key+1:=by
 unfold fc
 rw [List.takeWhile_cons]
 cases lt key s<;>simp
theorem XM {l:List Bs} (h:jD l) (key:Bs):fc l key=bN l key+(if b9 l key then 1 else 0):=by
 induction l with
 | nil=>rfl
 | cons s l ih =>
  have hx:=fV.1 h
  have ih:=ih hx.2
  rw [sF,BA]
  cases h1:lt s key with
  | true =>
   rw [ki h1]
   have e:b9 (s::l) key=b9 l key:=by
    unfold b9
    rw [BA,h1]
    rfl
   rw [e,ih]
   simp
   omega
  | false =>
   have e:b9 (s::l) key=(s==key):=by
    unfold b9
    rw [BA,h1]
    rfl
   rw [e]
   by_cases hk:s=key
   ·subst hk
    rw [gG]
    have:fc l s=0:=by
     cases l with
     | nil=>rfl
     | cons y l=>rw [sF,hx.1 y (by simp)];rfl
    simp [this]
   ·rw [mG h1 hk]
    simp [hk]
def jH (n:bP) (key:Bs):Int × Int :=
 if bQ n && bq key && (n.high==[] || lt key n.high) then ((fc n.seps key:Nat),0) else (0,1)
theorem L0 (n:bP) (key:Bs) (h:Sm n):bo aA 114 [eI n,.str key]=some (.tup [.int .i64 (jH n key).1,.int .i64 (jH n key).2]):=by
 refine TL _ _ _ _ _ ?_
 have hl:=h.seps
 unfold Ez jH
 rw [aH (we n h),bS]
 cases hr:bQ n with
 | false=>rfl
 | true =>
  rw [bv,cond_false,aH (iX key),bS]
  cases bq key with
  | false=>rfl
  | true =>
   rw [bv,cond_false,du,du]
   have hs:=aaf hr
   have hle:=yo n.seps key
   have w:W .i64 ((bN n.seps key:Int)+1)=((bN n.seps key+1:Nat):Int):=by rw [aU (by omega)];omega
   have e1:=XM hs key
   have fin:(aE aA 155 [V.sl (bd n.seps),V.str key] fun r_3=>lI r_3 fun a b=>cond b (some (.done (V.tup [V.int .i64 (W .i64 (a+1)),V.int .i64 0]))) (some (.done (V.tup [V.int .i64 a,V.int .i64 0]))))=some (.done (.tup [.int .i64 (fc n.seps key:Nat),.int .i64 0])):=by
    rw [aH (aa6 n.seps hs key (by omega)),xH,e1]
    cases b9 n.seps key with
    | false=>rfl
    | true=>rw [w];rfl
   cases hh:n.high==[] with
   | true =>
    rw [bv,cond_false,mc,fin]
    rfl
   | false =>
    rw [gi,cond_true,gL]
    show cond (!(lt key n.high)) _ _=_
    cases lt key n.high with
    | false=>rfl
    | true =>
     rw [bv,cond_false,fin]
     rfl
abbrev fp (m:Nat):Bs:=bH m 0
theorem acT (m k:Nat):(fp m).drop k=fp (m - k):=by simp [fp]
theorem N7 (d t:Bs) (m:Nat) (h:t.length<=m):py (d++fp m) d.length t=d++t++fp (m - t.length):=by
 unfold py
 rw [wZ (bK _),jZ,sg,oI (by omega),dp,show d.length+t.length - d.length=t.length by omega,acT]
theorem vY (d:Bs) (m k x:Nat) (n kk:Int) (hkk:kk=(k:Int)) (hn:n=(d.length:Int)) (h1:1<=k) (h8:k<=8) (hm:k<=m) (hx:x < 256 ^ k):tT (d++fp m) n kk x=(d++cj k x++fp (m - k),0):=by
 subst hkk
 unfold tT
 rw [if_pos (yO (by omega) (by omega) (by omega) (by simp;omega)),aY,if_pos hx,hn,aY,N7 _ _ _ (by rw [eB];exact hm),eB]
theorem yG (d t:Bs) (m:Nat) (n:Int) (hn:n=(d.length:Int)) (hl:t.length<=255) (hm:t.length+1<=m) :
  tU (d++fp m) n t=(d++(UInt8.ofNat t.length::t)++fp (m - (t.length+1)),n+t.length+1,0):=by
 unfold tU
 rw [if_pos (by simp;omega),if_neg (by omega),if_neg (by simp;omega),hn,aY,N7 _ _ _ (by simpa using hm)]
 simp
theorem vZ {s t:Bs} {n size e:Int} {x:Nat} (h:tT s n size x=(t,e)) (hx:x < 18446744073709551616) (hs:c7 s):bo aA 161 [.str s,.int .i64 n,.int .i64 size,.int .u64 (x:Int)]=some (.tup [.str t,.int .i64 e]):=by
 rw [ZN s n size x hx hs,h]
theorem yH {s t u:Bs} {n m e:Int} (h:tU s n t=(u,m,e)) (hs:c7 s) (ht:c7 t):bo aA 162 [.str s,.int .i64 n,.str t]=some (.tup [.str u,.int .i64 m,.int .i64 e]):=by
 rw [ZJ s n t hs ht,h]
theorem Ob {s t:Bs} {n e:Int} (h:rj s n=(t,e)) (hs:c7 s):bo aA 160 [.str s,.int .i64 n]=some (.tup [.str t,.int .i64 e]):=by
 rw [Ze s n hs,h]
abbrev cC (s:Bs):Bs:=UInt8.ofNat s.length::s
def fG:List (Bs × Int)->Bs
 | []=>[]
 |(s,k)::r=>cC s++cj 2 k.toNat++fG r
def Bh (n:bP):Bs:=UInt8.ofNat n.seps.length::(cj 2 n.next.toNat++(cC n.high++cj 2 (n.kids.headD 0).toNat))
def Au (n:bP):Bs:=Bh n++fG (n.seps.zip n.kids.tail)
def cF (n:bP):Bs:=if bQ n then 78::Au n else []
theorem Hg:∀(a:List Bs) (b:List Int),b.length=a.length->(fG (a.zip b)).length=cD a
 | [],b,h=>by
  have:b=[]:=by simpa using h
  subst this;rfl
 | s::a,[],h=>by simp at h
 | s::a,k::b,h=>by
  have ih:=Hg a b (by simpa using h)
  rw [Ji,fG,cD]
  simp [eB,ih]
  omega
theorem od {n:bP} (h:bQ n=true):n.kids.length=n.seps.length+1/\(∀k∈n.kids,dV k=true)/\(∀s∈n.seps,bq s=true)/\n.high.length<=16/\0<=n.next/\n.next<=1024/\23+cD n.seps<=252:=by
 have h2:∀(l:List Bs) (p:Bs),eG p l=true->∀s∈l,bq s=true:=by
  intro l
  induction l with
  | nil=>intro p _ s hs;simp at hs
  | cons x l ih =>
   intro p hp s hs
   simp only [eG,bD] at hp
   rcases bO.1 hs with rfl | hs
   ·exact hp.1.1
   ·exact ih _ hp.2 s hs
 unfold bQ qx lQ fh at h
 simp only [bD,decide_eq_true_eq,mU,beq_iff_eq,dB] at h
 obtain ⟨⟨⟨⟨h1,hk⟩,hr⟩,hh⟩,⟨hn1,hn2⟩,hf⟩:=h
 refine ⟨h1,hk,h2 _ _ hr,?_,hn1,hn2,by omega⟩
 rcases hh with hh | ⟨hh,_⟩
 ·rw [hh];simp
 ·unfold bq at hh
  simp only [bD,decide_eq_true_eq] at hh
  exact hh.2
theorem iE {s:Bs} (h:bq s=true):1<=s.length/\s.length<=16:=by
 unfold bq at h
 simp only [bD,decide_eq_true_eq,i7,beq_eq_false_iff_ne] at h
 refine ⟨?_,h.2⟩
 cases s with
 | nil=>exact (h.1 rfl).elim
 | cons c s=>simp
theorem vV {k:Int} (h:dV k=true):0<=k/\k < 1024:=by
 unfold dV at h
 simpa using h
theorem rI:∀{l:List Bs},(∀s∈l,bq s=true)->4 * l.length<=cD l
 | [],_=>bK _
 | s::r,h=>by
  have h1:=(iE (h s (by simp))).1
  have h2:=rI (l:=r) fun x hx=>h x (by simp [hx])
  simp only [cD,cG]
  omega
theorem mO {n:bP} (h:bQ n=true):Sm n:=by
 obtain ⟨h1,h2,h3,h4,h5,h6,h7⟩:=od h
 have:=rI h3
 exact ⟨by omega,fun s hs=>by have:=(iE (h3 s hs)).2;omega,by omega,by omega⟩
theorem Fg {n:bP} (h:bQ n=true):(cF n).length=jT n:=by
 obtain ⟨h1,_⟩:=od h
 unfold cF Au Bh jT
 rw [if_pos h]
 have:=Hg n.seps n.kids.tail (by simp;omega)
 simp [eB,this]
 omega
theorem VG:∀(l:List (Bs × Int)) (d:Bs),(∀x∈l,x.1.length<=255/\dV x.2=true)->d.length+(fG l).length<=100000 ->
  Go qk false 0 (fF 121) (.head 0 (xg (l.map eT) (d++fp (fG l).length) (d.length:Int))) (.done (.str (d++fG l))):=by
 intro l
 induction l with
 | nil =>
  intro d _ _
  refine Pf _ _ _ ?_ (.refl _)
  unfold Ht
  simp [kx,fG]
 | cons x l ih =>
  obtain ⟨s,k⟩:=x
  intro d h hd
  obtain ⟨hs,hk⟩:=h (s,k) (by simp)
  simp only at hs hk
  have hk2:=vV hk
  obtain ⟨kn,rfl⟩:∃kn:Nat,k=(kn:Int):=⟨k.toNat,by omega⟩
  have hlen:(fG ((s,(kn:Int))::l)).length=s.length+1+2+(fG l).length:=by
   rw [fG];simp [eB];omega
  rw [hlen] at hd |-
  have e1:=yG d s (s.length+1+2+(fG l).length) (d.length:Int) rfl hs (by omega)
  have e2:=vY (d++cC s) (2+(fG l).length) 2 kn ((d.length:Int)+s.length+1) 2 rfl (by simp;omega) (by omega) (by omega) (by omega) (by omega)
  rw [show s.length+1+2+(fG l).length - (s.length+1)=2+(fG l).length by omega] at e1
  rw [show 2+(fG l).length - 2=(fG l).length by omega] at e2
  have w:W .u64 (kn:Int)=(kn:Int):=mh (by omega)
  have w2:W .i64 ((d.length:Int)+s.length+1+2)=(((d++cC s++cj 2 kn).length:Nat):Int):=by
   rw [aU (by omega)];simp [eB];omega
  refine Pf _ _ _ (o:=.head 0 (xg (l.map eT) (d++cC s++cj 2 kn++fp (fG l).length) (((d++cC s++cj 2 kn).length:Nat):Int))) ?_ ?_
  ·unfold Ht
   simp only [di,kx,jp,ju,eg,bX,jw]
   rw [aH (yH e1 (by simp [c7];omega) (by simp only [c7];omega)),gP,w,aH (vZ e2 (by omega) (by simp [c7];omega)),lL,w2]
  ·have:=ih (d++cC s++cj 2 kn) (fun x hx=>h x (by simp [hx])) (by simp [eB];omega)
   rw [fG,aY]
   simpa [bw] using this
theorem Q9 {n:bP} (h:bQ n=true):∀x∈n.seps.zip n.kids.tail,x.1.length<=255/\dV x.2=true:=by
 obtain ⟨h1,h2,h3,_⟩:=od h
 intro x hx
 have hz:=List.of_mem_zip hx
 have:=(iE (h3 _ hz.1)).2
 exact ⟨by omega,h2 _ (List.mem_of_mem_tail hz.2)⟩
theorem LH (n:bP) (h:Sm n):bo aA 121 [eI n]=some (.str (cF n)):=by
 cases hr:bQ n with
 | false =>
  refine KM _ _ _ _ ?_ (.refl _)
  unfold ED cF
  rw [aH (we n h),bS,hr]
  rfl
 | true =>
  obtain ⟨h1,h2,h3,h4,h5,h6,h7⟩:=od hr
  have hg:=rI h3
  obtain ⟨k,ks,hks⟩:∃k ks,n.kids=k::ks:=by
   cases hk:n.kids with
   | nil=>rw [hk] at h1;simp at h1
   | cons k ks=>exact ⟨k,ks,rfl⟩
  have hk:=vV (h2 k (by rw [hks];simp))
  obtain ⟨kn,rfl⟩:∃kn:Nat,k=(kn:Int):=⟨k.toNat,by omega⟩
  obtain ⟨nn,hnn⟩:∃nn:Nat,n.next=(nn:Int):=⟨n.next.toNat,by omega⟩
  have hkl:ks.length=n.seps.length:=by rw [hks] at h1;simpa using h1
  have hrl:=Hg n.seps ks hkl
  obtain ⟨R,hR⟩:∃R,R=fG (n.seps.zip ks):=⟨_,rfl⟩
  have hRl:R.length=cD n.seps:=by rw [hR,hrl]
  obtain ⟨c,hc⟩:∃c:UInt8,c=UInt8.ofNat n.seps.length:=⟨_,rfl⟩
  have e0:rj [78] ((jT n:Nat):Int)=([78]++fp (1+(2+(n.high.length+1+(2+R.length)))),0):=by
   have hz:jT n=1+(1+(2+(n.high.length+1+(2+R.length)))):=by unfold jT;omega
   unfold rj
   rw [if_neg (by omega),if_neg (by simp;omega),aY,hz]
   congr 3
   simp
  have e1:=vY [78] (1+(2+(n.high.length+1+(2+R.length)))) 1 n.seps.length 1 1 rfl rfl (by omega) (by omega) (by omega) (by omega)
  have f1:cj 1 n.seps.length=[c]:=by
   rw [hc]
   show [UInt8.ofNat (n.seps.length % 256)]=_
   rw [zJ (by omega)]
  rw [f1,show 1+(2+(n.high.length+1+(2+R.length))) - 1=2+(n.high.length+1+(2+R.length)) by omega] at e1
  have e2:=vY ([78]++[c]) (2+(n.high.length+1+(2+R.length))) 2 nn 2 2 rfl rfl (by omega) (by omega) (by omega) (by omega)
  rw [show 2+(n.high.length+1+(2+R.length)) - 2=n.high.length+1+(2+R.length) by omega] at e2
  have e3:=yG ([78]++[c]++cj 2 nn) n.high (n.high.length+1+(2+R.length)) 4 (by simp [eB]) (by omega) (by omega)
  rw [show n.high.length+1+(2+R.length) - (n.high.length+1)=2+R.length by omega] at e3
  have e4:=vY ([78]++[c]++cj 2 nn++cC n.high) (2+R.length) 2 kn (4+n.high.length+1) 2 rfl (by simp [eB];omega) (by omega) (by omega) (by omega) (by omega)
  rw [show 2+R.length - 2=R.length by omega] at e4
  have hd:([78]++[c]++cj 2 nn++cC n.high++cj 2 kn).length=4+n.high.length+1+2:=by simp [eB];omega
  have hm:∀x∈n.seps.zip ks,x.1.length<=255/\dV x.2=true:=by
   have:=Q9 hr
   rw [hks] at this
   exact this
  have hl:=VG (n.seps.zip ks) ([78]++[c]++cj 2 nn++cC n.high++cj 2 kn) hm (by rw [hd,<-hR];omega)
  have hfin:[78]++[c]++cj 2 nn++cC n.high++cj 2 kn++fG (n.seps.zip ks)=cF n:=by
   unfold cF Au Bh
   rw [if_pos hr,hks,hnn,hc]
   simp
  rw [hfin,<-hR] at hl
  have w0:W .u64 (n.seps.length:Int)=(n.seps.length:Int):=mh (by omega)
  have w1:W .u64 (nn:Int)=(nn:Int):=mh (by omega)
  have w2:W .u64 (kn:Int)=(kn:Int):=mh (by omega)
  have w3:W .i64 (4+(n.high.length:Int)+1+2)=((([78]++[c]++cj 2 nn++cC n.high++cj 2 kn).length:Nat):Int):=by rw [aU (by omega),hd];omega
  have g0:n.kids[0]? = some (kn:Int):=by rw [hks];rfl
  refine KM _ _ _ _ ?_ hl
  unfold ED
  have s78:[UInt8.ofNat ((78:Int)).toNat]=([78]:Bs):=rfl
  rw [aH (we n h),bS,hr,bv,cond_false,aH (Qa n h),bX,s78,aH (Ob e0 (by decide)),lL,gh,w0]
  rw [aH (vZ e1 (by omega) (by simp [c7];omega))]
  rw [lL,hnn,w1,aH (vZ e2 (by omega) (by simp [c7];omega))]
  rw [lL,aH (yH e3 (by simp [c7,eB];omega) (by simp only [c7];omega)),gP,fi g0,bX,w2,aH (vZ e4 (by omega) (by simp [c7,eB];omega))]
  rw [lL,aB (pN _),aB (by rw [co,hks];simp)]
  have e5:((aC n.kids).take (aC n.kids).length).drop 1=aC ks:=by rw [jZ,hks];rfl
  rw [e5,w3]
  simp only [u7,if_pos (show (bd n.seps).length<=16777216/\(bd n.seps).all V.one=true/\(aC ks).all V.one=true from ⟨by rw [gh];omega,Qj _,MM _⟩),gw,JX]
theorem jV {s t:Bs} {n m e:Int} (h:gy s n=(t,m,e)) (hs:c7 s):bo aA 71 [.str s,.int .i64 n]=some (.tup [.str t,.int .i64 m,.int .i64 e]):=by
 rw [acg s n hs,h]
theorem jl {s:Bs} {n size x e:Int} (h:fY s n size=(x,e)) (hs:c7 s):bo aA 214 [.str s,.int .i64 n,.int .i64 size]=some (.tup [.int .u64 x,.int .i64 e]):=by
 rw [Wv s n size hs,h]
theorem Wr (s:Bs) (n:Int):0<=(fY s n 2).1/\(fY s n 2).1 < 65536:=by
 unfold fY
 split
 ·have h1:=C2 ((s.drop n.toNat).take (2:Int).toNat)
  have h2:((s.drop n.toNat).take (2:Int).toNat).length<=2:=by rw [d9];exact Nat.min_le_left _ _
  have h3:256 ^ ((s.drop n.toNat).take (2:Int).toNat).length<=256 ^ 2:=Nat.pow_le_pow_right (by decide) h2
  have h4:(256:Nat) ^ 2=65536:=by decide
  constructor
  ·exact I3 _
  ·show ((dY _:Nat):Int) < 65536
   omega
 ·simp
def ku (r:Bs):Option ((Bs × Int) × Bs) :=
 match r with
 | []=>none
 | c::r=>if r.length < c.toNat+2 then none else some ((r.take c.toNat,((dY ((r.drop c.toNat).take 2):Nat):Int)),r.drop (c.toNat+2))
def jP:Nat->Bs->Option (List (Bs × Int) × Bs)
 | 0,r=>some ([],r)
 | j+1,r=>(ku r).bind fun x=>(jP j x.2).map fun y=>(x.1::y.1,y.2)
theorem acG {l:Bs} (h:l.length=2):cj 2 (dY l)=l:=by
 have:=MY l
 rwa [h] at this
theorem GF {r r':Bs} {t:Bs} {k:Int} (h:ku r=some ((t,k),r')):r=cC t++cj 2 k.toNat++r'/\t.length<=255/\0<=k/\k < 65536:=by
 unfold ku at h
 cases r with
 | nil=>cases h
 | cons c r =>
  simp only at h
  split at h
  ·cases h
  rename_i hl
  have hl:c.toNat+2<=r.length:=by omega
  simp only [Option.some.injEq,Prod.mk.injEq] at h
  obtain ⟨⟨rfl,rfl⟩,rfl⟩:=h
  have hc:=c.toNat_lt
  have h2:((r.drop c.toNat).take 2).length=2:=by simp;omega
  have hu:=C2 ((r.drop c.toNat).take 2)
  rw [h2] at hu
  have h256:(256:Nat) ^ 2=65536:=by decide
  have ht:(r.take c.toNat).length=c.toNat:=by simp;omega
  refine ⟨?_,by rw [ht];omega,by omega,by omega⟩
  rw [aY,acG h2]
  unfold cC
  rw [ht,UInt8.ofNat_toNat]
  simp only [dv,bw,List.cons.injEq,true_and]
  have e1:=iz c.toNat r
  have e2:=iz 2 (r.drop c.toNat)
  rw [oH] at e2
  rw [e2,e1]
theorem N9 {t r':Bs} {k:Nat} (ht:t.length<=255) (hk:k < 65536):ku (cC t++cj 2 k++r')=some ((t,(k:Int)),r'):=by
 have e:(UInt8.ofNat t.length).toNat=t.length:=by simp;omega
 have hl2:=eB 2 k
 unfold ku
 simp only [dv,bw,e]
 rw [if_neg (by first | (simp [hl2];done) | (simp [hl2];omega))]
 have e1:(t++(cj 2 k++r')).take t.length=t:=by simp
 have e2:(t++(cj 2 k++r')).drop t.length=cj 2 k++r':=by simp
 have e3:(cj 2 k++r').take 2=cj 2 k:=by
  rw [wZ (by omega),kJ (by omega)]
 have e4:(t++(cj 2 k++r')).drop (t.length+2)=r':=by
  rw [<-oH,e2,sg,oI (by omega),hl2]
  first | done | simp
 rw [e1,e2,e3,e4,C1 2 k (by have:(256:Nat) ^ 2=65536:=by decide
                            omega)]
theorem Oa:∀(l:List (Bs × Int)) (r':Bs),(∀x∈l,x.1.length<=255/\dV x.2=true)->jP l.length (fG l++r')=some (l,r')
 | [],r',_=>rfl
 |(t,k)::l,r',h=>by
  obtain ⟨h1,h2⟩:=h (t,k) (by simp)
  simp only at h1 h2
  have h3:=vV h2
  obtain ⟨kn,rfl⟩:∃kn:Nat,k=(kn:Int):=⟨k.toNat,by omega⟩
  have ih:=Oa l r' fun x hx=>h x (by simp [hx])
  rw [cG,jP,fG,aY,bw (cC t++cj 2 kn),N9 h1 (by omega),aL,ih]
  rfl
theorem Iw {s:Bs} {m:Nat} {t:Bs} {k:Int} {r':Bs} (h:ku (s.drop m)=some ((t,k),r')) :
  gy s (m:Int)=(t,(m:Int)+1+t.length,0)/\fY s ((m:Int)+1+t.length) 2=(k,0)/\s.drop (m+1+t.length+2)=r'/\m+1+t.length+2<=s.length:=by
 unfold ku at h
 cases hd:s.drop m with
 | nil=>rw [hd] at h;cases h
 | cons c r =>
  rw [hd] at h
  simp only at h
  split at h
  ·cases h
  rename_i hl
  simp only [Option.some.injEq,Prod.mk.injEq] at h
  obtain ⟨⟨rfl,rfl⟩,rfl⟩:=h
  obtain ⟨h1,h2,h3⟩:=er hd
  have hrl:r.length+m+1=s.length:=by
   have:=congrArg oJ hd
   simp at this
   omega
  have ht:(r.take c.toNat).length=c.toNat:=by simp;omega
  have hdr:s.drop (m+1+c.toNat)=r.drop c.toNat:=by rw [<-oH,h2]
  rw [ht]
  refine ⟨?_,?_,?_,by omega⟩
  ·unfold gy
   rw [if_pos (by omega),aY,hd]
   simp only
   rw [if_neg (by omega)]
  ·unfold fY
   rw [if_pos (yO (by omega) (by omega) (by omega) (by omega))]
   rw [show ((m:Int)+1+(c.toNat:Int)).toNat=m+1+c.toNat by omega,hdr]
   rfl
  ·rw [<-h2,oH]
   congr 1
theorem Iu {s:Bs} {m:Nat} (hm:m<=s.length) (h:ku (s.drop m)=none):∀{t:Bs} {to e:Int},gy s (m:Int)=(t,to,e)->(e≠0/\t=[]/\to=0)∨(e=0/\t.length<=255/\to=(m:Int)+1+t.length/\(s.length:Int) < to+2/\to<=(s.length:Int)/\(fY s to 2)=(0,3)):=by
 intro t to e he
 unfold ku at h
 unfold gy at he
 rw [if_pos (by omega),aY] at he
 cases hd:s.drop m with
 | nil=>rw [hd] at he;simp only [Prod.mk.injEq] at he;exact .inl ⟨by omega,he.1.symm,he.2.1.symm⟩
 | cons c r =>
  rw [hd] at h he
  obtain ⟨h1,h2,h3⟩:=er hd
  have hrl:r.length+m+1=s.length:=by
   have:=congrArg oJ hd
   simp at this
   omega
  have hcl:=c.toNat_lt
  simp only at h he
  split at he
  ·simp only [Prod.mk.injEq] at he;exact .inl ⟨by omega,he.1.symm,he.2.1.symm⟩
  rename_i hx
  simp only [Prod.mk.injEq] at he
  obtain ⟨rfl,rfl,rfl⟩:=he
  split at h
  ·rename_i hy
   have ht:(r.take c.toNat).length=c.toNat:=by simp;omega
   refine .inr ⟨rfl,by omega,by rw [ht],by omega,by omega,?_⟩
   have:kz s ((m:Int)+1+(c.toNat:Int)) 2=3:=by
    unfold kz
    rw [if_neg (by omega),if_pos (by omega)]
   unfold fY
   rw [if_neg (by rw [this];decide),this]
  ·cases h
def oY (n:bP) (rest:Bs):Option bP:=if bQ n && mi rest==[] then some n else none
def rk (s:Bs):Option bP :=
 if s.length<=4∨252 < s.length∨s.head?≠some 78 then none else
 (ku (s.drop 4)).bind fun x=>(jP (s.getD 1 0).toNat x.2).bind fun y =>
  oY ⟨y.1.map (·.1),x.1.2::y.1.map (·.2),x.1.1,((dY ((s.drop 2).take 2):Nat):Int)⟩ y.2
abbrev ko:bP:=⟨[],[],[],0⟩
def xI:Option bP->V
 | some n=>.tup [eI n,.int .i64 0]
 | none=>.tup [eI ko,.int .i64 4]
theorem Ew {α:Type} {p:α->Bool}:∀{l:List α},l.dropWhile p=[]↔∀x∈l,p x=true
 | []=>by simp
 | x::l=>by
  rw [List.dropWhile_cons]
  cases h:p x with
  | true=>simp only [if_true];rw [Ew];simp [h]
  | false=>simp [h]
theorem Sb {r:Bs}:mi r=[]↔r=fp r.length:=by
 unfold mi
 rw [List.reverse_eq_nil_iff]
 constructor
 ·intro h
  have h2:∀x∈r,x=0:=by
   intro x hx
   have:=Ew.1 h x (List.mem_reverse.2 hx)
   simpa using this
  exact List.eq_replicate_iff.2 ⟨rfl,h2⟩
 ·intro h
  rw [Ew]
  intro x hx
  have:=List.mem_reverse.1 hx
  rw [h] at this
  simpa using wU this
abbrev LQ:V:=.tup [.agg [.sl [],.sl [],.str [],.int .i64 0],.int .i64 4]
noncomputable def LI (s:Bs) (m:Int) (n:bP):R :=
 aE aA 154 [eI n] fun r_3=>kB r_3 fun r13=>cond (!r13) (some (.done LQ))
  (gd (decide (0<=m))<|gd (decide (m.toNat<=s.length))<|aE aA 176 [V.str ((s.take s.length).drop m.toNat)] fun r_4=>kS r_4 fun r37=>cond (!(r37==[])) (some (.done LQ)) (some (.done (V.tup [eI n,V.int .i64 0]))))
theorem LJ (s:Bs) (hs:c7 s) (m:Nat) (hm:m<=s.length) (n:bP) (hn:Sm n):LI s (m:Int) n=some (.done (xI (oY n (s.drop m)))):=by
 unfold LI oY
 have hsl:=hs
 rw [aH (we n hn),bS]
 cases bQ n with
 | false=>rfl
 | true =>
  rw [bv,cond_false,aB (by simp),aY,aB (by simpa using hm),jZ,aH (JS (s.drop m) (by simp only [c7,eO];omega)),eg,du]
  cases mi (s.drop m)==[]<;>rfl
theorem AN {s:Bs} {i m nx:Int} {hi:Bs} {a b:List V}:ry s i s m false hi nx a b=some (.done (xI none)):=rfl
theorem Tk (hi:Bs) (nx:Int) (hh:hi.length<=255) {s:Bs} (hs:s.length<=252) {c:UInt8} (hc:s[1]? = some c):∀(j m i:Nat) (seps:List Bs) (kids:List Int),i+j=c.toNat->m<=s.length->seps.length=i->kids.length=i+1->(∀x∈seps,x.length<=255) ->
  Go qk false 0 (fF 130) (.head 0 (ni s (i:Int) s (m:Int) true hi nx (bd seps) (aC kids))) (.done (xI ((jP j (s.drop m)).bind fun y=>oY ⟨seps++y.1.map (·.1),kids++y.1.map (·.2),hi,nx⟩ y.2))):=by
 intro j
 have hcl:=c.toNat_lt
 have hss:c7 s:=by simp only [c7];omega
 have wc:W .i64 (c.toNat:Int)=(c.toNat:Int):=aU (by omega)
 induction j with
 | zero =>
  intro m i seps kids hij hm hsl hkl hse
  have hn:Sm ⟨seps,kids,hi,nx⟩:=⟨by simp only;omega,fun x hx=>by have:=hse x hx;omega,by simp only;omega,by simp only;omega⟩
  refine rz _ _ _ _ _ _ _ _ _ ?_ (.refl _)
  unfold ry
  rw [cond_true,cQ hc,wc,decide_eq_false (by omega),cond_false,bv,cond_false]
  have:=LJ s hss m hm _ hn
  simp only [jP,aL,gM,dH]
  exact this
 | succ j ih =>
  intro m i seps kids hij hm hsl hkl hse
  cases hp:ku (s.drop m) with
  | some x =>
   obtain ⟨⟨t,k⟩,r'⟩:=x
   obtain ⟨h1,h2,h3,hle⟩:=Iw hp
   obtain ⟨_,htl,hk0,hk1⟩:=GF hp
   have wk:W .i64 k=k:=aU (by omega)
   have wn:W .i64 ((m:Int)+1+t.length+2)=((m+1+t.length+2:Nat):Int):=by rw [aU (by omega)];omega
   refine rz _ _ _ _ _ _ _ _ _ (o:=.head 0 (ni s ((i+1:Nat):Int) s ((m+1+t.length+2:Nat):Int) true hi nx (bd (seps++[t])) (aC (kids++[k])))) ?_ ?_
   ·unfold ry
    rw [cond_true,cQ hc,wc,decide_eq_true (by omega),cond_true,aH (jV h1 hss),gP,cond_true,aB (by simp [gh];omega),if_pos (by omega),aH (jl h2 hss),jh,cN rfl,cond_true,aB (by simp [co];omega),wn,wk]
    rw [aU (n:=(i:Int)+1) (by omega)]
    simp [bd,aC]
   ·have:=(ih (m+1+t.length+2) (i+1) (seps++[t]) (kids++[k]) (by omega) hle (by simp;omega) (by simp;omega) (by intro x hx;rcases br.1 hx with hx | hx;exact hse x hx;simp at hx;rw [hx];exact htl))
    rw [h3] at this
    simp only [jP,hp,aL,Option.map_eq_bind,Dv]
    simpa [Dv,Function.comp_def] using this
  | none =>
   have hnone:((jP (j+1) (s.drop m)).bind fun y=>oY ⟨seps++y.1.map (·.1),kids++y.1.map (·.2),hi,nx⟩ y.2)=none:=by
    simp only [jP,hp,Option.bind_none]
   rw [hnone]
   obtain ⟨t,to,e,he⟩:∃t to e,gy s (m:Int)=(t,to,e):=⟨_,_,_,rfl⟩
   have hb:=Iu hm hp he
   rcases hb with ⟨hb,_,_⟩ | ⟨rfl,_,hto,h4,h5,h6⟩
   ·obtain ⟨x,e2,hx⟩:∃x e2,fY s (if (m:Int) < to then to else m) 2=(x,e2):=⟨_,_,rfl⟩
    have hq:=Eq.refl (ry s (i:Int) s (m:Int) true hi nx (bd seps) (aC kids))
    conv at hq =>
     rhs
     unfold ry
     rw [cond_true,cQ hc,wc,decide_eq_true (by omega),cond_true,aH (jV he hss),gP,cond_true,aB (by simp [gh];omega),aH (jl hx hss),jh,cZ hb,cond_false,aB (by simp [co];omega)]
    exact rz _ _ _ _ _ _ _ _ _ hq (rz _ _ _ _ _ _ _ _ _ AN (.refl _))
   ·have hif:(if (m:Int) < to then to else m)=to:=if_pos (by omega)
    have hq:=Eq.refl (ry s (i:Int) s (m:Int) true hi nx (bd seps) (aC kids))
    conv at hq =>
     rhs
     unfold ry
     rw [cond_true,cQ hc,wc,decide_eq_true (by omega),cond_true,aH (jV he hss),gP,cond_true,aB (by simp [gh];omega),hif,aH (jl h6 hss),jh,cN rfl,cond_true,aB (by simp [co];omega),cZ (by decide)]
    exact rz _ _ _ _ _ _ _ _ _ hq (rz _ _ _ _ _ _ _ _ _ AN (.refl _))
theorem Tj (hi:Bs) (nx:Int) (hh:hi.length<=255) {s:Bs} (hs:s.length<=252) {c:UInt8} (hc:s[1]? = some c):∀(j m:Nat) (kids:List Int),j=c.toNat->m<=s.length->kids.length=1 ->
  Go qk false 0 (fF 130) (.head 0 (xk s s (m:Int) true hi nx (aC kids))) (.done (xI ((jP j (s.drop m)).bind fun y=>oY ⟨y.1.map (·.1),kids++y.1.map (·.2),hi,nx⟩ y.2))):=by
 intro j
 have hcl:=c.toNat_lt
 have hss:c7 s:=by simp only [c7];omega
 have wc:W .i64 (c.toNat:Int)=(c.toNat:Int):=aU (by omega)
 have seps:List Bs:=[]
 cases j with
 | zero =>
  intro m kids hij hm hkl
  have hn:Sm ⟨[],kids,hi,nx⟩:=⟨by simp only [dR];omega,fun x hx=>by simp at hx,by simp only;omega,by simp only;omega⟩
  refine wu _ _ _ _ _ _ _ ?_ (.refl _)
  unfold t7
  rw [cond_true,cQ hc,wc,decide_eq_false (by omega),cond_false,bv,cond_false]
  have:=LJ s hss m hm _ hn
  simp only [jP,aL,gM,dH]
  exact this
 | succ j =>
  intro m kids hij hm hkl
  cases hp:ku (s.drop m) with
  | some x =>
   obtain ⟨⟨t,k⟩,r'⟩:=x
   obtain ⟨h1,h2,h3,hle⟩:=Iw hp
   obtain ⟨_,htl,hk0,hk1⟩:=GF hp
   have wk:W .i64 k=k:=aU (by omega)
   have wn:W .i64 ((m:Int)+1+t.length+2)=((m+1+t.length+2:Nat):Int):=by rw [aU (by omega)];omega
   refine wu _ _ _ _ _ _ _ (o:=.head 0 (ni s ((1:Nat):Int) s ((m+1+t.length+2:Nat):Int) true hi nx (bd [t]) (aC (kids++[k])))) ?_ ?_
   ·unfold t7
    rw [cond_true,cQ hc,wc,decide_eq_true (by omega),cond_true,aH (jV h1 hss),gP,cond_true,aB (by simp),if_pos (by omega),aH (jl h2 hss),jh,cN rfl,cond_true,aB (by simp [co];omega),wn,wk]
    simp [bd,aC]
   ·have:=(Tk hi nx hh hs hc j (m+1+t.length+2) 1 [t] (kids++[k]) (by omega) hle rfl (by simp;omega) (by simpa using htl))
    rw [h3] at this
    simp only [jP,hp,aL,Option.map_eq_bind,Dv]
    simpa [Dv,Function.comp_def] using this
  | none =>
   have hnone:((jP (j+1) (s.drop m)).bind fun y=>oY ⟨y.1.map (·.1),kids++y.1.map (·.2),hi,nx⟩ y.2)=none:=by
    simp only [jP,hp,Option.bind_none]
   rw [hnone]
   obtain ⟨t,to,e,he⟩:∃t to e,gy s (m:Int)=(t,to,e):=⟨_,_,_,rfl⟩
   have hb:=Iu hm hp he
   rcases hb with ⟨hb,_,_⟩ | ⟨rfl,_,hto,h4,h5,h6⟩
   ·obtain ⟨x,e2,hx⟩:∃x e2,fY s (if (m:Int) < to then to else m) 2=(x,e2):=⟨_,_,rfl⟩
    have hq:=Eq.refl (t7 s s (m:Int) true hi nx (aC kids))
    conv at hq =>
     rhs
     unfold t7
     rw [cond_true,cQ hc,wc,decide_eq_true (by omega),cond_true,aH (jV he hss),gP,cond_true,aB (by simp),aH (jl hx hss),jh,cZ hb,cond_false,aB (by simp [co];omega)]
    exact wu _ _ _ _ _ _ _ hq (rz _ _ _ _ _ _ _ _ _ AN (.refl _))
   ·have hif:(if (m:Int) < to then to else m)=to:=if_pos (by omega)
    have hq:=Eq.refl (t7 s s (m:Int) true hi nx (aC kids))
    conv at hq =>
     rhs
     unfold t7
     rw [cond_true,cQ hc,wc,decide_eq_true (by omega),cond_true,aH (jV he hss),gP,cond_true,aB (by simp),hif,aH (jl h6 hss),jh,cN rfl,cond_true,aB (by simp [co];omega),cZ (by decide)]
    exact wu _ _ _ _ _ _ _ hq (rz _ _ _ _ _ _ _ _ _ AN (.refl _))
theorem Ws {s:Bs} {c:UInt8} (h:s[1]? = some c):s.getD 1 0=c:=by
 simp [List.getD,h]
theorem Tl (s:Bs) (hss:c7 s):bo aA 130 [.str s]=some (xI (rk s)):=by
 have hsl:=hss
 by_cases h1:s.length<=4
 ·refine vm _ ?_ (.refl _)
  unfold oW rk
  rw [decide_eq_true (by omega),if_pos (.inl h1)]
  rfl
 by_cases h2:252 < s.length
 ·refine vm _ ?_ (.refl _)
  unfold oW rk
  rw [decide_eq_false (by omega),cond_false,decide_eq_true (by omega),if_pos (.inr (.inl h2))]
  rfl
 have hs:s.length<=252:=by omega
 obtain ⟨c0,hc0⟩:∃c,s[0]? = some c:=⟨_,bG (by omega)⟩
 obtain ⟨c,hc⟩:∃c,s[1]? = some c:=⟨_,bG (by omega)⟩
 have hh:s.head? = some c0:=by rw [<-hc0];exact List.head?_eq_getElem?
 by_cases h3:c0=78
 rotate_left
 ·refine vm _ ?_ (.refl _)
  have h4:((c0.toNat:Int))≠78:=by
   intro e
   have h78:(78:UInt8).toNat=78:=rfl
   exact h3 (UInt8.toNat_inj.1 (by omega))
  unfold oW rk
  rw [decide_eq_false (by omega),cond_false,decide_eq_false (by omega),cond_false,cQ hc0,jm h4,if_pos (.inr (.inr (by rw [hh];simpa using h3)))]
  rfl
 subst h3
 have hg2:fY s 2 2=(((dY ((s.drop 2).take 2):Nat):Int),0):=by
  unfold fY
  rw [if_pos (yO (by omega) (by omega) (by omega) (by omega))]
  rfl
 have hn2:=Wr s 2
 rw [hg2] at hn2
 simp only at hn2
 have wn2:W .i64 ((dY ((s.drop 2).take 2):Nat):Int)=((dY ((s.drop 2).take 2):Nat):Int):=aU (by omega)
 have hparse:rk s=(ku (s.drop 4)).bind fun x=>(jP c.toNat x.2).bind fun y=>oY ⟨y.1.map (·.1),x.1.2::y.1.map (·.2),x.1.1,((dY ((s.drop 2).take 2):Nat):Int)⟩ y.2:=by
  unfold rk
  rw [if_neg (by rw [hh];simp;omega),Ws hc]
 rw [hparse]
 cases hp:ku (s.drop 4) with
 | some x =>
  obtain ⟨⟨hi,k⟩,r'⟩:=x
  obtain ⟨g1,g2,g3,hle⟩:=Iw hp
  obtain ⟨_,htl,hk0,hk1⟩:=GF hp
  have wk:W .i64 k=k:=aU (by omega)
  have wn:W .i64 (((4:Nat):Int)+1+hi.length+2)=((4+1+hi.length+2:Nat):Int):=by rw [aU (by omega)];omega
  have:=Tj hi ((dY ((s.drop 2).take 2):Nat):Int) htl hs hc c.toNat (4+1+hi.length+2) [k] rfl hle rfl
  rw [g3] at this
  refine vm _ ?_ this
  unfold oW
  have g1:gy s 4=(hi,((4:Nat):Int)+1+hi.length,0):=g1
  rw [decide_eq_false (by omega),cond_false,decide_eq_false (by omega),cond_false,cQ hc0,de (by decide),cond_false,aH (jl hg2 hss),jh,aH (jV g1 hss),gP,cN rfl,cond_true,if_pos (by omega),aH (jl g2 hss),jh,cN rfl,cond_true,aB (by simp),wn,wk,wn2]
  rfl
 | none =>
  obtain ⟨t,to,e,he⟩:∃t to e,gy s ((4:Nat):Int)=(t,to,e):=⟨_,_,_,rfl⟩
  have hb:=Iu (by omega) hp he
  have he:gy s 4=(t,to,e):=he
  rcases hb with ⟨hb,_,_⟩ | ⟨rfl,_,hto,h4,h5,h6⟩
  ·obtain ⟨x,e2,hx⟩:∃x e2,fY s (if (4:Int) < to then to else 4) 2=(x,e2):=⟨_,_,rfl⟩
   have hq:=Eq.refl (oW s)
   conv at hq =>
    rhs
    unfold oW
    rw [decide_eq_false (by omega),cond_false,decide_eq_false (by omega),cond_false,cQ hc0,de (by decide),cond_false,aH (jl hg2 hss),jh,aH (jV he hss),gP,cN rfl,cond_true,aH (jl hx hss),jh,cZ hb,cond_false,aB (by simp)]
   exact vm _ hq (wu _ _ _ _ _ _ _ rfl (.refl _))
  ·have hif:(if (4:Int) < to then to else 4)=to:=if_pos (by omega)
   have hq:=Eq.refl (oW s)
   conv at hq =>
    rhs
    unfold oW
    rw [decide_eq_false (by omega),cond_false,decide_eq_false (by omega),cond_false,cQ hc0,de (by decide),cond_false,aH (jl hg2 hss),jh,aH (jV he hss),gP,cN rfl,cond_true,hif,aH (jl h6 hss),jh,cond_true,aB (by simp),cZ (by decide)]
   exact vm _ hq (wu _ _ _ _ _ _ _ rfl (.refl _))
theorem AF (l:List Bs) (h:l.length<=1000000):bo aA 171 [.sl (bd l)]=some (.fr 9 (bd l)):=by
 refine B3 (g:=vg 9 1) rfl ?_
 show (if dm 1 (bd l)=true/\((bd l).all fun x=>x.cells.all V.flat1)=true/\(bd l).length<=16777216 then some (V.fr 9 (bd l)) else none)=_
 rw [if_pos ⟨QV l,L8 fun _=>rfl,by rw [gh];omega⟩]
theorem AE (l:List Int) (h:l.length<=1000000):bo aA 173 [.sl (aC l)]=some (.fr 3 (aC l)):=by
 refine B3 (g:=vg 3 1) rfl ?_
 show (if dm 1 (aC l)=true/\((aC l).all fun x=>x.cells.all V.flat1)=true/\(aC l).length<=16777216 then some (V.fr 3 (aC l)) else none)=_
 rw [if_pos ⟨pN l,L8 fun _=>rfl,by rw [co];omega⟩]
theorem ID (l:List Bs) (k:Nat):(bd l).take k=bd (l.take k):=by simp [bd]
theorem IC (l:List Bs) (k:Nat):(bd l).drop k=bd (l.drop k):=by simp [bd]
theorem IB (a b:List Bs):bd a++bd b=bd (a++b):=by simp [bd]
theorem ab0 (a:Bs):[V.str a]=bd [a]:=rfl
theorem Ga (l:List Int) (k:Nat):(aC l).take k=aC (l.take k):=by simp [aC]
theorem F8 (l:List Int) (k:Nat):(aC l).drop k=aC (l.drop k):=by simp [aC]
theorem yh (a b:List Int):aC a++aC b=aC (a++b):=by simp [aC]
theorem Xk (a:Int):[V.int .i64 a]=aC [a]:=rfl
theorem Bu (l:List Int) (k:Nat) (a:Int):(aC l).set k (V.int .i64 a)=aC (l.set k a):=by simp [aC,List.map_set]
abbrev GB (p:bP × Int):V:=.tup [eI p.1,.int .i64 p.2]
abbrev l9 (n:bP) (key:Bs) (kid:Int) (i:Nat):bP:=⟨n.seps.take i++[key]++n.seps.drop i,n.kids.take (i+1)++[kid]++n.kids.drop (i+1),n.high,n.next⟩
def mM (n:bP) (key:Bs) (kid:Int):bP × Int :=
 if (jH n key).2=0/\dV kid=true then
  if 0 < fc n.seps key/\n.seps[fc n.seps key - 1]? = some key then (ko,8) else
  if lQ (l9 n key kid (fc n.seps key)) then (l9 n key kid (fc n.seps key),0) else (ko,6)
 else (ko,1)
theorem ZE {n:bP} (h:Sm n) (hl:n.seps.length<=900) (hk:n.kids.length<=900) {key:Bs} (hkey:key.length<=1000) {kid:Int} {i:Nat}:Sm (l9 n key kid i):=by
 refine ⟨by simp;omega,?_,by simp;omega,h.high⟩
 intro s hs
 rcases br.1 hs with hs | hs
 ·rcases br.1 hs with hs | hs
  ·exact h.sep s (nc hs)
  ·simp at hs;rw [hs];exact hkey
 ·exact h.sep s (lx hs)
theorem VY {n:bP} {key:Bs} (h:(jH n key).2=0):jH n key=(((fc n.seps key:Nat):Int),0)/\bQ n=true:=by
 unfold jH at h |-
 split at h
 ·rename_i hc
  rw [if_pos hc]
  simp only [bD] at hc
  exact ⟨rfl,hc.1.1⟩
 ·cases h
theorem VZ {n:bP} {key:Bs} (h:(jH n key).2≠0):jH n key=(0,1):=by
 unfold jH at h |-
 split
 ·rename_i hc;rw [if_pos hc] at h;exact (h rfl).elim
 ·rfl
noncomputable def Qp (n:bP) (key:Bs) (kid i:Int):R :=
 aE aA 171 [V.sl (bd n.seps)] fun r_2=>kF 9 r_2 fun r57 =>
 gd (decide (0<=i/\i.toNat<=r57.length/\r57.length+([V.str key]:List V).length<=16777216)) <|
 aE aA 173 [V.sl (aC n.kids)] fun r_3=>kF 3 r_3 fun r59 =>
 gd (decide (0<=W .i64 (i+1)/\(W .i64 (i+1)).toNat<=r59.length/\r59.length+([V.int .i64 kid]:List V).length<=16777216)) <|
 aE aA 204 [V.agg [V.sl (((r57.take i.toNat)++[V.str key])++(r57.drop i.toNat)),V.sl (((r59.take ((W .i64 (i+1)).toNat))++[V.int .i64 kid])++(r59.drop ((W .i64 (i+1)).toNat))),V.str n.high,V.int .i64 n.next]] fun r_4 =>
 kB r_4 fun r43=>cond (!r43) (some (.done (V.tup [V.agg [V.sl [],V.sl [],V.str [],V.int .i64 0],V.int .i64 6])))
  (some (.done (V.tup [V.agg [V.sl (((r57.take i.toNat)++[V.str key])++(r57.drop i.toNat)),V.sl (((r59.take ((W .i64 (i+1)).toNat))++[V.int .i64 kid])++(r59.drop ((W .i64 (i+1)).toNat))),V.str n.high,V.int .i64 n.next],V.int .i64 0])))
theorem ab8 (n:bP) (key:Bs) (kid:Int) (i:Nat) (h:Sm n) (hl:n.seps.length<=900) (hk:n.kids.length<=900) (hkey:key.length<=1000) (hi:i<=n.seps.length) (hik:i+1<=n.kids.length) :
  Qp n key kid (i:Int)=some (.done (GB (if lQ (l9 n key kid i) then (l9 n key kid i,0) else (ko,6)))):=by
 have w:W .i64 ((i:Int)+1)=((i+1:Nat):Int):=by rw [aU (by omega)];omega
 unfold Qp
 rw [w,aY,aY,aH (AF n.seps (by omega)),dC,aB (by rw [gh];simp;omega),aH (AE n.kids (by omega)),dC,aB (by rw [co];simp;omega)]
 rw [ab0,Xk,ID,IC,IB,IB,Ga,F8,yh,yh,aH (L2 (l9 n key kid i) (ZE h hl hk hkey)),bS]
 cases lQ (l9 n key kid i)<;>rfl
theorem B6 (n:bP) (key:Bs) (kid:Int) (h:Sm n) (hkey:key.length<=1000):bo aA 167 [eI n,.str key,.int .i64 kid]=some (GB (mM n key kid)):=by
 refine Up _ _ _ _ _ _ ?_
 unfold EN mM
 rw [aH (L0 n key h),Kq]
 by_cases hf:(jH n key).2=0
 rotate_left
 ·rw [VZ hf,jm (by decide),if_neg (by rintro ⟨hq,_⟩;cases hq)];rfl
 obtain ⟨hfa,hr⟩:=VY hf
 obtain ⟨h1,_,h3,_,_,_,h7⟩:=od hr
 have hg:=rI h3
 have hle:=JM n.seps key
 rw [hfa,de rfl,cond_false,aH (yz kid),bS]
 cases hp:dV kid with
 | false=>rw [if_neg (by rintro ⟨_,hq⟩;cases hq)];rfl
 | true =>
  rw [bv,cond_false,if_pos ⟨rfl,rfl⟩]
  generalize hi:fc n.seps key=i at hle
  have ht:=ab8 n key kid i h (by omega) (by omega) hkey hle (by omega)
  by_cases h0:0 < i
  ·have w1:W .i64 ((i:Int) - 1)=((i - 1:Nat):Int):=by rw [aU (by omega)];omega
   have aD:i - 1 < n.seps.length:=by omega
   have hget:n.seps[i - 1]? = some n.seps[i - 1]:=bG aD
   rw [decide_eq_true (show (i:Int) > 0 by omega),cond_true,w1,aB (by simp),aY,lk hget,eg]
   by_cases he:n.seps[i - 1]=key
   ·rw [he,beq_self_eq_true,if_pos ⟨h0,by rw [hget,he]⟩];rfl
   ·have he2:(n.seps[i - 1]==key)=false:=by simpa using he
    rw [he2,cond_false,if_neg (by rintro ⟨_,hq⟩;rw [hget] at hq;exact he (Option.some.inj hq))]
    exact ht
  ·rw [decide_eq_false (show ¬(i:Int) > 0 by omega),cond_false,if_neg (by rintro ⟨hq,_⟩;exact h0 hq)]
   exact ht
abbrev sO (n:bP) (i:Nat):bP:=⟨n.seps.take (i - 1)++n.seps.drop (i - 1+1),n.kids.take i++n.kids.drop (i+1),n.high,n.next⟩
def k8 (n:bP) (i:Int):bP × Int:=if bQ n=true/\0<=i/\i < (n.kids.length:Int)/\2<=n.kids.length then (sO n i.toNat,0) else (ko,1)
theorem Tn (n:bP) (i:Int) (h:Sm n):bo aA 126 [eI n,.int .i64 i]=some (GB (k8 n i)):=by
 refine T1 _ _ _ _ _ ?_
 unfold EF
 rw [aH (we n h),bS,co]
 cases hr:bQ n with
 | false =>
  have hd:k8 n i=(ko,1):=by unfold k8;exact if_neg (by rw [hr];rintro ⟨hq,_⟩;cases hq)
  rw [hd];rfl
 | true =>
  obtain ⟨h1,_,h3,_,_,_,h7⟩:=od hr
  have hg:=rI h3
  rw [bv,cond_false]
  by_cases g1:i < 0
  ·have hd:k8 n i=(ko,1):=by unfold k8;exact if_neg (by omega)
   rw [hd,decide_eq_true g1];rfl
  rw [decide_eq_false g1,cond_false]
  by_cases g2:i ≥ (n.kids.length:Int)
  ·have hd:k8 n i=(ko,1):=by unfold k8;exact if_neg (by omega)
   rw [hd,decide_eq_true g2];rfl
  rw [decide_eq_false g2,cond_false]
  by_cases g3:n.kids.length=1
  ·have hd:k8 n i=(ko,1):=by unfold k8;exact if_neg (by omega)
   rw [hd,cN (by omega)];rfl
  rw [cZ (by omega),cond_false]
  have hd:k8 n i=(sO n i.toNat,0):=by unfold k8;exact if_pos ⟨hr,by omega,by omega,by omega⟩
  rw [hd]
  obtain ⟨k,rfl⟩:∃k:Nat,i=(k:Int):=⟨i.toNat,by omega⟩
  have w1:W .i64 ((k:Int) - 1)=(k:Int) - 1:=aU (by omega)
  have w2:W .i64 ((k:Int)+1)=((k+1:Nat):Int):=by rw [aU (by omega)];omega
  have hm:(if 0 < (k:Int) - 1 then (k:Int) - 1 else 0)=((k - 1:Nat):Int):=by split<;>omega
  have w3:W .i64 (((k - 1:Nat):Int)+1)=((k - 1+1:Nat):Int):=by rw [aU (by omega)];omega
  rw [w1,w2,hm,w3,aY,aY,aY,aY,aH (AF n.seps (by omega)),dC,aB (by rw [gh];simp;omega),aH (AE n.kids (by omega)),dC,aB (by rw [co];simp;omega)]
  rw [ID,IC,IB,Ga,F8,yh]
abbrev uq (n:bP) (to:Int):bP:=⟨n.seps.take (n.seps.length / 2),n.kids.take (n.seps.length / 2+1),n.seps.getD (n.seps.length / 2) [],to+1⟩
abbrev ut (n:bP):bP:=⟨n.seps.drop (n.seps.length / 2+1),n.kids.drop (n.seps.length / 2+1),n.high,n.next⟩
def wE (n:bP) (to:Int):bP × bP × Bs × Int :=
 if bQ n=true/\3<=n.kids.length/\dV to=true then (uq n to,ut n,n.seps.getD (n.seps.length / 2) [],0) else (ko,ko,[],1)
abbrev Y9 (p:bP × bP × Bs × Int):V:=.tup [eI p.1,eI p.2.1,.str p.2.2.1,.int .i64 p.2.2.2]
theorem abI (n:bP) (to:Int) (h:Sm n):bo aA 168 [eI n,.int .i64 to]=some (Y9 (wE n to)):=by
 refine Ur _ _ _ _ _ ?_
 have hs:=h.seps
 have hk:=h.kids
 unfold EO wE
 rw [aH (we n h),bS,co,gh]
 cases hr:bQ n with
 | false=>rw [if_neg (by rintro ⟨hq,_⟩;cases hq)];rfl
 | true =>
  obtain ⟨h1,_⟩:=od hr
  rw [bv,cond_false]
  by_cases g1:(n.kids.length:Int) < 3
  ·rw [decide_eq_true g1,if_neg (by omega)];rfl
  rw [decide_eq_false g1,cond_false,aH (yz to),bS]
  cases hp:dV to with
  | false=>rw [if_neg (by rintro ⟨_,_,hq⟩;cases hq)];rfl
  | true =>
   have hto:=vV hp
   rw [bv,cond_false,if_pos ⟨rfl,by omega,rfl⟩]
   have wd:W .i64 ((n.seps.length:Int).tdiv 2)=((n.seps.length / 2:Nat):Int):=by
    rw [show ((n.seps.length:Int)).tdiv 2=((n.seps.length / 2:Nat):Int) from rfl]
    exact aU (by omega)
   rw [wd]
   obtain ⟨m,hm⟩:∃m,n.seps.length / 2=m:=⟨_,rfl⟩
   have hm2:m < n.seps.length:=by omega
   rw [hm]
   have w1:W .i64 ((m:Int)+1)=((m+1:Nat):Int):=by rw [aU (by omega)];omega
   have w2:W .i64 (to+1)=to+1:=aU (by omega)
   have hget:n.seps[m]? = some n.seps[m]:=bG hm2
   have hd:n.seps.getD m []=n.seps[m]:=by simp [List.getD,hget]
   have e1:uq n to=⟨n.seps.take m,n.kids.take (m+1),n.seps[m],to+1⟩:=by unfold uq;rw [hm,hd]
   have e2:ut n=⟨n.seps.drop (m+1),n.kids.drop (m+1),n.high,n.next⟩:=by unfold ut;rw [hm]
   rw [e1,e2]
   have et:(aC n.kids).take n.kids.length=aC n.kids:=by rw [<-co,jZ]
   have es:(bd n.seps).take n.seps.length=bd n.seps:=by rw [<-gh,jZ]
   rw [hd,w1,w2,aY,aY,et,es,ID,IC,Ga,F8]
   have q1:=AF (n.seps.take m) (by simp;omega)
   have q2:=AF (n.seps.drop (m+1)) (by simp;omega)
   have q3:=AE (n.kids.take (m+1)) (by simp;omega)
   have q4:=AE (n.kids.drop (m+1)) (by simp;omega)
   simp (disch:=first | exact QV _ | exact pN _ | exact decide_eq_true (by first | omega | (simp only [gh,co,cO,d9,eO,cG,dR,jY];omega))) only [aB,lk hget,eg,aH q1,aH q2,aH q3,aH q4,dC]
def dl (b0 b1 b2 b3 b4 b5 b6 b7:Bool):Nat:=b0.toNat+2 * b1.toNat+4 * b2.toNat+8 * b3.toNat+16 * b4.toNat+32 * b5.toNat+64 * b6.toNat+128 * b7.toNat
abbrev pK (n r:Nat):Bool:=(W .u8 (((BitVec.ofInt (IntKind.bits .u8) (n:Int) &&& BitVec.ofInt (IntKind.bits .u8) (r:Int)).toNat:Int))) != (0:Int)
abbrev oh (n r:Nat):Int:=W .u8 (((BitVec.ofInt (IntKind.bits .u8) (n:Int) ||| BitVec.ofInt (IntKind.bits .u8) (r:Int)).toNat:Int))
theorem acA:∀b0 b1 b2 b3 b4 b5 b6 b7:Bool,
  pK (dl b0 b1 b2 b3 b4 b5 b6 b7) 1=b0/\pK (dl b0 b1 b2 b3 b4 b5 b6 b7) 2=b1/\pK (dl b0 b1 b2 b3 b4 b5 b6 b7) 4=b2/\pK (dl b0 b1 b2 b3 b4 b5 b6 b7) 8=b3 /\
  pK (dl b0 b1 b2 b3 b4 b5 b6 b7) 16=b4/\pK (dl b0 b1 b2 b3 b4 b5 b6 b7) 32=b5/\pK (dl b0 b1 b2 b3 b4 b5 b6 b7) 64=b6/\pK (dl b0 b1 b2 b3 b4 b5 b6 b7) 128=b7:=by decide +kernel
theorem abb:∀b0 b1 b2 b3 b4 b5 b6 b7:Bool,
  oh (dl b0 b1 b2 b3 b4 b5 b6 b7) 1=(dl true b1 b2 b3 b4 b5 b6 b7:Nat)/\oh (dl b0 b1 b2 b3 b4 b5 b6 b7) 2=(dl b0 true b2 b3 b4 b5 b6 b7:Nat)/\oh (dl b0 b1 b2 b3 b4 b5 b6 b7) 4=(dl b0 b1 true b3 b4 b5 b6 b7:Nat)/\oh (dl b0 b1 b2 b3 b4 b5 b6 b7) 8=(dl b0 b1 b2 true b4 b5 b6 b7:Nat) /\
  oh (dl b0 b1 b2 b3 b4 b5 b6 b7) 16=(dl b0 b1 b2 b3 true b5 b6 b7:Nat)/\oh (dl b0 b1 b2 b3 b4 b5 b6 b7) 32=(dl b0 b1 b2 b3 b4 true b6 b7:Nat)/\oh (dl b0 b1 b2 b3 b4 b5 b6 b7) 64=(dl b0 b1 b2 b3 b4 b5 true b7:Nat)/\oh (dl b0 b1 b2 b3 b4 b5 b6 b7) 128=(dl b0 b1 b2 b3 b4 b5 b6 true:Nat):=by decide +kernel
def kY (f:Nat->Bool) (j:Nat):Nat:=dl (f (8 * j)) (f (8 * j+1)) (f (8 * j+2)) (f (8 * j+3)) (f (8 * j+4)) (f (8 * j+5)) (f (8 * j+6)) (f (8 * j+7))
def eY (f:Nat->Bool) (i:Nat) (b:Bool):Nat->Bool:=fun k=>if k=i then b else f k
theorem Gs (i:Nat):∃j k,k < 8/\i=8 * j+k/\i / 8=j/\i % 8=k:=⟨i / 8,i % 8,w8 _ (by omega),by omega,rfl,rfl⟩
theorem B5 {k:Nat} (h:k < 8):k=0∨k=1∨k=2∨k=3∨k=4∨k=5∨k=6∨k=7:=by omega
theorem Sz (f:Nat->Bool) (i:Nat):pK (kY f (i / 8)) (2 ^ (i % 8))=f i:=by
 obtain ⟨j,k,hk,e,e1,e2⟩:=Gs i
 rw [e1,e2,e]
 have h:=acA (f (8 * j)) (f (8 * j+1)) (f (8 * j+2)) (f (8 * j+3)) (f (8 * j+4)) (f (8 * j+5)) (f (8 * j+6)) (f (8 * j+7))
 obtain ⟨h0,h1,h2,h3,h4,h5,h6,h7⟩:=h
 rcases B5 hk with rfl | rfl | rfl | rfl | rfl | rfl | rfl | rfl<;>assumption
theorem Sy (f:Nat->Bool) (i:Nat):oh (kY f (i / 8)) (2 ^ (i % 8))=(kY (eY f i true) (i / 8):Nat):=by
 obtain ⟨j,k,hk,e,e1,e2⟩:=Gs i
 rw [e1,e2,e]
 have h:=abb (f (8 * j)) (f (8 * j+1)) (f (8 * j+2)) (f (8 * j+3)) (f (8 * j+4)) (f (8 * j+5)) (f (8 * j+6)) (f (8 * j+7))
 obtain ⟨h0,h1,h2,h3,h4,h5,h6,h7⟩:=h
 have u:∀m,eY f (8 * j+k) true (8 * j+m)=if m=k then true else f (8 * j+m):=by
  intro m
  unfold eY
  by_cases e:m=k
  ·rw [if_pos (by omega),if_pos e]
  ·rw [if_neg (by omega),if_neg e]
 have u0:=u 0
 rw [d0] at u0
 unfold kY
 rw [u0,u 1,u 2,u 3,u 4,u 5,u 6,u 7]
 rcases B5 hk with rfl | rfl | rfl | rfl | rfl | rfl | rfl | rfl<;>assumption
theorem Sx (f:Nat->Bool) (i j:Nat) (b:Bool) (h:j≠i / 8):kY (eY f i b) j=kY f j:=by
 have:∀k,k < 8->eY f i b (8 * j+k)=f (8 * j+k):=fun k hk=>by unfold eY;rw [if_neg (by omega)]
 unfold kY
 rw [this 1 (by omega),this 2 (by omega),this 3 (by omega),this 4 (by omega),this 5 (by omega),this 6 (by omega),this 7 (by omega)]
 have:=this 0 (by omega)
 rw [d0] at this
 rw [this]
def aR (n:Nat) (f:Nat->Bool):List V:=(dI ((n+7) / 8)).map fun j=>V.int .u8 (kY f j:Nat)
theorem u6 (n:Nat) (f:Nat->Bool):(aR n f).length=(n+7) / 8:=by simp [aR]
theorem u5 {n i:Nat} (f:Nat->Bool) (h:i < n):(aR n f)[i / 8]? = some (.int .u8 (kY f (i / 8):Nat)):=by
 unfold aR
 rw [dQ,sj (by omega)];rfl
theorem JV {n i:Nat} (f:Nat->Bool) (b:Bool) (h:i < n):(aR n f).set (i / 8) (.int .u8 (kY (eY f i b) (i / 8):Nat))=aR n (eY f i b):=by
 apply uE
 intro j
 rw [List.getElem?_set]
 by_cases e:i / 8=j
 ·subst e
  rw [if_pos rfl,if_pos (by rw [u6];omega),u5 _ h]
 ·rw [if_neg e]
  unfold aR
  rw [dQ,dQ]
  cases hj:(dI ((n+7) / 8))[j]? with
  | none=>rfl
  | some k =>
   have:k=j:=by
    have:=bn.1 hj
    obtain ⟨_,h2⟩:=this
    simpa using h2.symm
   subst this
   rw [cB,cB,Sx f i k b (Ne.symm e)]
theorem DZ (i:Nat):bo aA 193 [.int .i64 (i:Int)]=some (.int .u8 ((2 ^ (i % 8):Nat):Int)):=by
 refine Uy _ ?_
 unfold EQ
 have hm:((i:Int)).tmod 8=((i % 8:Nat):Int):=rfl
 have hk:=w8 i (show 0 < 8 by omega)
 rw [hm,aY,aB (decide_eq_true (by omega)),aB (decide_eq_true hk)]
 rcases B5 hk with e | e | e | e | e | e | e | e<;>rw [e]<;>rfl
theorem IH (i:Nat) (h:i < 100000):W .i64 ((i:Int).tdiv 8)=((i / 8:Nat):Int):=by
 rw [show (i:Int).tdiv 8=((i / 8:Nat):Int) from rfl,aU (by omega)]
def mD (n:Nat) (f:Nat->Bool) (i:Int):Bool:=decide (0<=i/\i < (n:Int)) && f i.toNat
theorem vE (n:Nat) (hn:n<=1024) (f:Nat->Bool) (i:Int):bT aA aF 137 [.ptr 0 0 0,.int .i64 i] (bm n (aR n f))=some (mH (bm n (aR n f)) (mD n f i)):=by
 refine Ua _ _ _ (o:=.doneM (.bool (mD n f i)) (bm n (aR n f))) ?_ (.done (by kernel_rfl))
 unfold KW mD
 by_cases h1:i ≥ 0
 case neg=>rw [decide_eq_false h1,cond_false,decide_eq_false (show ¬(0<=i/\i < (n:Int)) by omega)];rfl
 rw [decide_eq_true h1,cond_true]
 by_cases h2:i < (n:Int)
 case neg=>rw [decide_eq_false h2,cond_false,decide_eq_false (show ¬(0<=i/\i < (n:Int)) by omega)];rfl
 rw [decide_eq_true h2,cond_true,decide_eq_true (show 0<=i/\i < (n:Int) by omega),du]
 obtain ⟨k,rfl⟩:∃k:Nat,i=(k:Int):=⟨i.toNat,by omega⟩
 rw [IH k (by omega),aY,aY,aB (decide_eq_true (by omega)),aB (decide_eq_true (by rw [u6];omega)),ew,cQ (u5 f (by omega)),bX,aH (DZ k),bX]
 have:=Sz f k
 rw [<-this]
theorem acd (n:Nat) (hn:n<=1024) (f:Nat->Bool) (i:Nat) (hi:i < n) (hf:f i=false):bT aA aF 180 [.ptr 0 0 0,.int .i64 (i:Int)] (bm n (aR n f))=some (tF (0,n,aR n (eY f i true))):=by
 refine Ux _ _ _ (o:=.doneM (.int .i64 0) (bm n (aR n (eY f i true)))) ?_ (.done (by kernel_rfl))
 unfold K4
 have his:mD n f (i:Int)=false:=by unfold mD;rw [aY,hf,iL]
 rw [decide_eq_true (show (i:Int) ≥ 0 by omega),cond_true,decide_eq_true (show (i:Int) < (n:Int) by omega),bv,cond_false,bR vO (vE n hn f i),bz,his,cond_false,
  IH i (by omega),aY,aB (decide_eq_true (by omega)),aB (decide_eq_true (by rw [u6];omega)),ew,cQ (u5 f (by omega)),bX,aH (DZ i),bX,aB (decide_eq_true (by omega)),aB (decide_eq_true (by rw [u6];omega)),cQ (u5 f (by omega)),bX]
 have:=Sy f i
 simp only [oh] at this
 rw [this,JV f true hi]
def rl (l:List Nat):List V:=l.map fun k=>V.tup [.int .i64 ((k:Nat):Int)]
theorem He (n:Nat) (hn:n<=1024):wi [.ref (.ref (.agg [.unk,.int .i64 (n:Int)]) 0) 0,.ref (.int .i64 0) 0]=some (tZ n 0)/\(tZ n 0).map V.tup=rl (dI n):=by
 refine ⟨if_pos (by omega),?_⟩
 unfold tZ rl
 rw [List.map_map,aY]
 apply List.map_congr_left
 intro k hk
 have hk:k < n:=by simpa using hk
 show V.tup [.int .i64 ((0+(k:Int)) % (n:Int))]=_
 rw [Int.zero_add,Int.emod_eq_of_lt (by omega) (by omega)]
def fo (n:Nat) (f:Nat->Bool):List Int:=((dI n).filter f).map fun k:Nat=>(k:Int)
theorem Qw (n:Nat) (hn:n<=1024) (f:Nat->Bool):∀(l:List Nat) (acc:List Int),(∀k∈l,k < n)->acc.length+l.length<=2000 ->
  Go qk true 2 (fF 90) (.head 0 (xz (rl l) n (aR n f) (aC acc))) (.doneM (.tail 5 0) (bm n (aR n f)++[O.box 135 (V.ptr 0 0 0) false,O.row 3 [] 0,O.box 80 (V.tail 5 0) false,O.row 3 (aC (acc++(l.filter f).map fun k:Nat=>(k:Int))) 0]))
 | [],acc,_,_=>by
  refine Ia _ _ _ _ ?_ (.refl _)
  simp only [List.filter_nil,gM,dH]
  rfl
 | k::l,acc,h,hl=>by
  have hk:=h k (by simp)
  have his:mD n f (k:Int)=f k:=by unfold mD;rw [aY,decide_eq_true (by omega),du]
  have ih:=fun acc' (h':acc'.length+l.length<=2000)=>Qw n hn f l acc' (fun x hx=>h x (by simp [hx])) h'
  simp only [cG] at hl
  cases hf:f k with
  | true =>
   have ih:=ih (acc++[(k:Int)]) (by simp;omega)
   rw [bw] at ih
   rw [Dl hf,di]
   refine Ia _ _ _ _ ?_ ih
   unfold H9
   simp only [rl,di,v8,jp,ju,bX,jw]
   rw [bR vO (vE n hn f k),bz,his,hf,cond_true,aB (decide_eq_true (by rw [co];simp;omega))]
   simp [aC]
  | false =>
   rw [Dk (by rw [hf];decide)]
   refine Ia _ _ _ _ ?_ (ih acc (by omega))
   unfold H9
   simp only [rl,di,v8,jp,ju,bX,jw]
   rw [bR vO (vE n hn f k),bz,his,hf,cond_false]
theorem Qx (n:Nat) (hn:n<=1024) (f:Nat->Bool):bT aA aF 90 [.ptr 0 0 0] (bm n (aR n f))=some (pq (bm n (aR n f)) (aC (fo n f))):=by
 obtain ⟨r1,r2⟩:=He n hn
 refine Vw _ _ ?_ ⟨_,_,Qw n hn f (dI n) [] (fun k hk=>by simpa using hk) (by simp;omega),by kernel_rfl⟩
 unfold Ls
 rw [r1,gw,r2]
 rfl
def Bc (n:Nat) (f:Nat->Bool):Nat:=n - (fo n f).length
theorem Qv (n:Nat) (f:Nat->Bool):(fo n f).length<=n:=by
 unfold fo
 rw [dh]
 have:=Jb f (dI n)
 simpa using this
theorem Wk (n:Nat) (hn:n<=1024) (f:Nat->Bool):bT aA aF 89 [.ptr 0 0 0] (bm n (aR n f))=some (rc (bm n (aR n f)) (Bc n f:Nat)):=by
 refine Vu _ _ (o:=.doneM (.int .i64 (Bc n f:Nat)) (bm n (aR n f))) ?_ (.done (by kernel_rfl))
 unfold Lr
 have:=Qv n f
 rw [bR NF (Qx n hn f),bz,co,aU (by omega)]
 unfold Bc
 rw [show ((n:Int) - ((fo n f).length:Int))=((n - (fo n f).length:Nat):Int) by omega]
def lP (n:Nat) (f:Nat->Bool):Option Nat:=(dI n).find? fun k=>!f k
theorem IG (n:Nat) (hn:n<=1024) (f:Nat->Bool) (k:Nat):∀(l:List Nat),(∀k∈l,k < n)->l.find? (fun k=>!f k)=some k ->
  Go qk true 2 (fF 131) (.head 0 (zV (rl l) n (aR n f))) (.doneM (.tup [.int .i64 (k:Int),.int .i64 0]) (bm n (aR n (eY f k true))++[O.box 135 (V.ptr 0 0 0) false,O.box 3 (V.int .i64 (k:Int)) false,O.box 27 (V.int .i64 0) false]))
 | [],_,h=>by cases h
 | i::l,h,hk=>by
  have hi:=h i (by simp)
  have his:mD n f (i:Int)=f i:=by unfold mD;rw [aY,decide_eq_true (by omega),du]
  rw [List.find?_cons] at hk
  cases hf:f i with
  | false =>
   rw [hf] at hk
   have e:i=k:=by simpa using hk
   rw [<-e]
   refine Pi _ _ _ ?_ (.refl _)
   unfold Hw
   simp only [rl,di,v8,jp,ju,bX,jw]
   rw [bR vO (vE n hn f i),bz,his,hf,gi,cond_true,bW Yu (acd n hn f i hi hf)]
  | true =>
   rw [hf] at hk
   refine Pi _ _ _ ?_ (IG n hn f k l (fun x hx=>h x (by simp [hx])) hk)
   unfold Hw
   simp only [rl,di,v8,jp,ju,bX,jw]
   rw [bR vO (vE n hn f i),bz,his,hf,bv,cond_false]
theorem ace (n:Nat) (hn:n<=1024) (f:Nat->Bool) (k:Nat) (hk:lP n f=some k):bT aA aF 131 [.ptr 0 0 0,.int .i64 0] (bm n (aR n f))=some (pi (k,0,n,aR n (eY f k true))):=by
 obtain ⟨r1,r2⟩:=He n hn
 have hn0:0 < n:=by
  rcases zI n with h | h
  ·subst h;simp [lP] at hk
  ·exact h
 refine T7 _ _ _ ?_ ⟨_,_,IG n hn f k (dI n) (fun k hk=>by simpa using hk) hk,by kernel_rfl⟩
 unfold KT
 rw [decide_eq_true (show (0:Int) ≥ 0 by omega),cond_true,decide_eq_true (show (0:Int) < (n:Int) by omega),bv,cond_false,r1,gw,r2]
end Go.Proofs.YtlphgcjepphhcaaGreat
