/-
  Texts that the last one stands on.
-/
import Derived.Test.YtlphgcjepphhcaaGreatY4
open List renaming mem_cons->bP,replicate->bE,getElem?_eq_getElem->bC,take_add_one->Hm,getElem?_drop->gf,length_map->dO,set_append_right->BO,map_append->gJ,append_assoc->bu,map_cons->dj,map_nil->iW,cons_append->dv,nil_append->dU,getElem?_append_right->cY,drop_eq_nil_iff->BI,length->nY,map_replicate->Hh,take_length->lC,pairwise_cons->gt,mem_of_getElem?->cG,getElem?_eq_none->vS,length_cons->cL,length_take->gq,length_drop->gg,length_set->nZ,length_append->c8,length_nil->fR,zip_cons_cons->Hn,all_cons->yk,take_append_of_le_length->vW,drop_append->rk,drop_eq_nil_of_le->pq,all_eq_true->di,take_append_drop->ig,drop_drop->nW,take_of_length_le->kE,eq_of_mem_replicate->vR,append_nil->dA,mem_append->bp,mem_of_mem_take->mE,mem_of_mem_drop->kD,range->dl,getElem?_map->dB,getElem?_range->rm,ext_getElem?->tK,getElem?_eq_some_iff->bj
open Int renaming natCast_nonneg->G9,fdiv_eq_ediv_of_nonneg->OK,cast_ofNat_Int->G8
open Option renaming map_some->cg,bind_some->aJ,bind_assoc->BP
open Nat renaming sub_self->iX,le_refl->bG,lt_or_ge->jV,zero_le->iE,add_zero->dK,add_assoc->gT,mod_eq_of_lt->yw,zero_add->dZ,eq_zero_or_pos->yv
open Bool renaming false_eq_true->cK,not_true->bR,not_false->jq,true_and->dI,and_false->lB,false_and->mr,true_or->tF,or_false->rh,false_or->iU,true_eq_false->G7,and_eq_true->bv,or_eq_true->mTz,not_eq_true'->iC
namespace Go.Proofs.YtlphgcjepphhcaaGreat
open Go Go.Lite
set_option maxRecDepth 100000
set_option linter.unusedVariables false
def gX (c:V) (d:List UInt8->List UInt8->R): R:=kA c fun a=>bO a fun b a=>kS b fun e=>bO a fun b a=>kS b fun f=>dR a<|(d e f)
@[simp] theorem j9 (x0:List UInt8) (x1:List UInt8) (k:List UInt8->List UInt8->R):gX (.agg [V.str x0,V.str x1]) k=k x0 x1:=rfl
@[congr] theorem aat {v v':V} {k:List UInt8->List UInt8->R} (h:v=v'):gX v k=gX v' k:=by rw [h]
def kf (c:V) (d:List UInt8->Int->R): R:=kT c fun a=>bO a fun b a=>kS b fun e=>bO a fun b a=>kI .i64 b fun f=>dR a (d e f)
@[simp] theorem kZ (x0:List UInt8) (x1:Int) (k:List UInt8->Int->R):kf (.tup [V.str x0,V.int .i64 x1]) k=k x0 x1:=rfl
@[congr] theorem aau {v v':V} {k:List UInt8->Int->R} (h:v=v'):kf v k=kf v' k:=by rw [h]
def iJ (c:V) (d:List UInt8->Int->Int->R): R:=kT c fun a=>bO a fun b a=>kS b fun e=>bO a fun b a=>kI .i64 b fun f=>bO a fun b a=>kI .i64 b fun g=>dR a (d e f g)
@[simp] theorem gw (x0:List UInt8) (x1:Int) (x2:Int) (k:List UInt8->Int->Int->R):iJ (.tup [V.str x0,V.int .i64 x1,V.int .i64 x2]) k=k x0 x1 x2:=rfl
@[congr] theorem aaj {v v':V} {k:List UInt8->Int->Int->R} (h:v=v'):iJ v k=iJ v' k:=by rw [h]
def kY (c:V) (d:Int->Int->R): R:=kT c fun a=>bO a fun b a=>kI .u64 b fun e=>bO a fun b a=>kI .i64 b fun f=>dR a (d e f)
@[simp] theorem iK (x0:Int) (x1:Int) (k:Int->Int->R):kY (.tup [V.int .u64 x0,V.int .i64 x1]) k=k x0 x1:=rfl
@[congr] theorem aar {v v':V} {k:Int->Int->R} (h:v=v'):kY v k=kY v' k:=by rw [h]
def kW (c:V) (d:Int->Bool->R): R:=kT c fun a=>bO a fun b a=>kI .i64 b fun e=>bO a fun b a=>kB b fun f=>dR a (d e f)
@[simp] theorem wJ (x0:Int) (x1:Bool) (k:Int->Bool->R):kW (.tup [V.int .i64 x0,V.bool x1]) k=k x0 x1:=rfl
@[congr] theorem aal {v v':V} {k:Int->Bool->R} (h:v=v'):kW v k=kW v' k:=by rw [h]
def wI (c:V) (d:Int->Int->R): R:=kT c fun a=>bO a fun b a=>kI .i64 b fun e=>bO a fun b a=>kI .i64 b fun f=>dR a (d e f)
@[simp] theorem Is (x0:Int) (x1:Int) (k:Int->Int->R):wI (.tup [V.int .i64 x0,V.int .i64 x1]) k=k x0 x1:=rfl
@[congr] theorem aai {v v':V} {k:Int->Int->R} (h:v=v'):wI v k=wI v' k:=by rw [h]
def zh (d:V) (e:List V->List UInt8->Int->Int->Bool->R): R:=kT d fun b=>bO b fun a b=>kA a fun c=>bO c fun a c=>kL a fun f=>bO c fun a c=>kS a fun g=>bO c fun a c=>kI .i64 a fun h=>dR c<|bO b fun a b=>kI .i64 a fun i=>bO b fun a b=>kB a fun j=>dR b (e f g h i j)
@[simp] theorem Iu (x0:List V) (x1:List UInt8) (x2:Int) (x3:Int) (x4:Bool) (k:List V->List UInt8->Int->Int->Bool->R):zh (.tup [V.agg [V.sl x0,V.str x1,V.int .i64 x2],V.int .i64 x3,V.bool x4]) k=k x0 x1 x2 x3 x4:=rfl
@[congr] theorem aaq {v v':V} {k:List V->List UInt8->Int->Int->Bool->R} (h:v=v'):zh v k=zh v' k:=by rw [h]
def pQ (c:V) (d:Int->List UInt8->List UInt8->Int->R): R:=kA c fun a=>bO a fun b a=>kI .i64 b fun e=>bO a fun b a=>kS b fun f=>bO a fun b a=>kS b fun g=>bO a fun b a=>kI .i64 b fun h=>dR a<|(d e f g h)
@[simp] theorem uz (x0:Int) (x1:List UInt8) (x2:List UInt8) (x3:Int) (k:Int->List UInt8->List UInt8->Int->R):pQ (.agg [V.int .i64 x0,V.str x1,V.str x2,V.int .i64 x3]) k=k x0 x1 x2 x3:=rfl
@[congr] theorem aas {v v':V} {k:Int->List UInt8->List UInt8->Int->R} (h:v=v'):pQ v k=pQ v' k:=by rw [h]
def oo (d:V) (e:List V->List UInt8->Int->Int->R): R:=kT d fun c=>bO c fun a c=>kA a fun b=>bO b fun a b=>kL a fun f=>bO b fun a b=>kS a fun g=>bO b fun a b=>kI .i64 a fun h=>dR b<|bO c fun a c=>kI .i64 a fun i=>dR c (e f g h i)
@[simp] theorem lK (x0:List V) (x1:List UInt8) (x2:Int) (x3:Int) (k:List V->List UInt8->Int->Int->R):oo (.tup [V.agg [V.sl x0,V.str x1,V.int .i64 x2],V.int .i64 x3]) k=k x0 x1 x2 x3:=rfl
@[congr] theorem aak {v v':V} {k:List V->List UInt8->Int->Int->R} (h:v=v'):oo v k=oo v' k:=by rw [h]
def zf (d:V) (e:List V->List UInt8->Int->List V->List UInt8->Int->Int->R): R:=kT d fun c=>bO c fun a c=>kA a fun b=>bO b fun a b=>kL a fun f=>bO b fun a b=>kS a fun g=>bO b fun a b=>kI .i64 a fun h=>dR b<|bO c fun a c=>kA a fun b=>bO b fun a b=>kL a fun i=>bO b fun a b=>kS a fun j=>bO b fun a b=>kI .i64 a fun k=>dR b<|bO c fun a c=>kI .i64 a fun l=>dR c (e f g h i j k l)
@[simp] theorem It (x0:List V) (x1:List UInt8) (x2:Int) (x3:List V) (x4:List UInt8) (x5:Int) (x6:Int) (k:List V->List UInt8->Int->List V->List UInt8->Int->Int->R):zf (.tup [V.agg [V.sl x0,V.str x1,V.int .i64 x2],V.agg [V.sl x3,V.str x4,V.int .i64 x5],V.int .i64 x6]) k=k x0 x1 x2 x3 x4 x5 x6:=rfl
@[congr] theorem aan {v v':V} {k:List V->List UInt8->Int->List V->List UInt8->Int->Int->R} (h:v=v'):zf v k=zf v' k:=by rw [h]
def kX (c:V) (d:Int->List V->List V->List UInt8->Int->Int->R): R:=kA c fun a=>bO a fun b a=>kI .i64 b fun e=>bO a fun b a=>kL b fun f=>bO a fun b a=>kL b fun g=>bO a fun b a=>kS b fun h=>bO a fun b a=>kI .i64 b fun i=>bO a fun b a=>kI .i64 b fun j=>dR a<|(d e f g h i j)
@[simp] theorem lL (x0:Int) (x1:List V) (x2:List V) (x3:List UInt8) (x4:Int) (x5:Int) (k:Int->List V->List V->List UInt8->Int->Int->R):kX (.agg [V.int .i64 x0,V.sl x1,V.sl x2,V.str x3,V.int .i64 x4,V.int .i64 x5]) k=k x0 x1 x2 x3 x4 x5:=rfl
@[congr] theorem aam {v v':V} {k:Int->List V->List V->List UInt8->Int->Int->R} (h:v=v'):kX v k=kX v' k:=by rw [h]
def pP (d:V) (e:List V->List V->List UInt8->Int->Int->R): R:=kT d fun c=>bO c fun a c=>kA a fun b=>bO b fun a b=>kL a fun f=>bO b fun a b=>kL a fun g=>bO b fun a b=>kS a fun h=>bO b fun a b=>kI .i64 a fun i=>dR b<|bO c fun a c=>kI .i64 a fun j=>dR c (e f g h i j)
@[simp] theorem uy (x0:List V) (x1:List V) (x2:List UInt8) (x3:Int) (x4:Int) (k:List V->List V->List UInt8->Int->Int->R):pP (.tup [V.agg [V.sl x0,V.sl x1,V.str x2,V.int .i64 x3],V.int .i64 x4]) k=k x0 x1 x2 x3 x4:=rfl
@[congr] theorem aao {v v':V} {k:List V->List V->List UInt8->Int->Int->R} (h:v=v'):pP v k=pP v' k:=by rw [h]
def zg (d:V) (e:List V->List V->List UInt8->Int->List V->List V->List UInt8->Int->List UInt8->Int->R): R:=kT d fun c=>bO c fun a c=>kA a fun b=>bO b fun a b=>kL a fun f=>bO b fun a b=>kL a fun g=>bO b fun a b=>kS a fun h=>bO b fun a b=>kI .i64 a fun i=>dR b<|bO c fun a c=>kA a fun b=>bO b fun a b=>kL a fun j=>bO b fun a b=>kL a fun k=>bO b fun a b=>kS a fun l=>bO b fun a b=>kI .i64 a fun m=>dR b<|bO c fun a c=>kS a fun n=>bO c fun a c=>kI .i64 a fun o=>dR c (e f g h i j k l m n o)
@[simp] theorem Qy (x0:List V) (x1:List V) (x2:List UInt8) (x3:Int) (x4:List V) (x5:List V) (x6:List UInt8) (x7:Int) (x8:List UInt8) (x9:Int) (k:List V->List V->List UInt8->Int->List V->List V->List UInt8->Int->List UInt8->Int->R):zg (.tup [V.agg [V.sl x0,V.sl x1,V.str x2,V.int .i64 x3],V.agg [V.sl x4,V.sl x5,V.str x6,V.int .i64 x7],V.str x8,V.int .i64 x9]) k=k x0 x1 x2 x3 x4 x5 x6 x7 x8 x9:=rfl
@[congr] theorem aap {v v':V} {k:List V->List V->List UInt8->Int->List V->List V->List UInt8->Int->List UInt8->Int->R} (h:v=v'):zg v k=zg v' k:=by rw [h]
def lw (L:Int × Int × Int × (List (V × V)) × (List V)):V × List O:=(V.tup [V.int .i64 L.1,V.int .i64 L.2.1],(sm L.2.2.1 L.2.2.2.1 L.2.2.2.2))
theorem uZ:∀L L',lw L=lw L'->L=L':=by
 rintro ⟨a0,a1,a2,a3,a4⟩ ⟨b0,b1,b2,b3,b4⟩ h
 cases h;rfl
def eo (L:Int × Int × (List (V × V)) × (List V)):V × List O:=(V.tup [],(tm L.1 L.2.1 L.2.2.1 L.2.2.2))
theorem hX:∀L L',eo L=eo L'->L=L':=by
 rintro ⟨a0,a1,a2,a3⟩ ⟨b0,b1,b2,b3⟩ h
 cases h;rfl
def kw (L:Bool × Int × Int × Int × (List (V × V)) × (List V)):V × List O:=(V.tup [V.bool L.1,V.int .i64 L.2.1],(tm L.2.2.1 L.2.2.2.1 L.2.2.2.2.1 L.2.2.2.2.2))
theorem xm:∀L L',kw L=kw L'->L=L':=by
 rintro ⟨a0,a1,a2,a3,a4,a5⟩ ⟨b0,b1,b2,b3,b4,b5⟩ h
 cases h;rfl
def kx (L:Int × Int × Int × (List (V × V)) × (List V)):V × List O:=(V.int .i64 L.1,(tm L.2.1 L.2.2.1 L.2.2.2.1 L.2.2.2.2))
theorem Ao:∀L L',kx L=kx L'->L=L':=by
 rintro ⟨a0,a1,a2,a3,a4⟩ ⟨b0,b1,b2,b3,b4⟩ h
 cases h;rfl
def lu (M:List O) (L:(List UInt8) × Int):V × List O:=(V.tup [V.str L.1,V.int .i64 L.2],M)
theorem Ln (M:List O):∀L L',lu M L=lu M L'->L=L':=by
 rintro ⟨a0,a1⟩ ⟨b0,b1⟩ h
 simp [lu] at h
 simp [h]
def l9 (M:List O) (L:Int):V × List O:=(V.int .i64 L,M)
theorem EE (M:List O):∀L L',l9 M L=l9 M L'->L=L':=by
 rintro a0 b0 h
 simpa [l9] using h
def qz (M:List O) (L:(List V)):V × List O:=(V.sl L,M)
theorem VW (M:List O):∀L L',qz M L=qz M L'->L=L':=by
 rintro a0 b0 h
 simpa [qz] using h
def nj (M:List O) (L:(List V)):V × List O:=(V.sl L,M)
theorem EG (M:List O):∀L L',nj M L=nj M L'->L=L':=by
 rintro a0 b0 h
 simpa [nj] using h
def qy (M:List O) (L:(List V)):V × List O:=(V.sl L,M)
theorem VV (M:List O):∀L L',qy M L=qy M L'->L=L':=by
 rintro a0 b0 h
 simpa [qy] using h
def ng (M:List O) (L:Int):V × List O:=(V.int .i64 L,M)
theorem EF (M:List O):∀L L',ng M L=ng M L'->L=L':=by
 rintro a0 b0 h
 simpa [ng] using h
def ni (M:List O) (L:Int):V × List O:=(V.int .i64 L,M)
theorem Ap (M:List O):∀L L',ni M L=ni M L'->L=L':=by
 rintro a0 b0 h
 simpa [ni] using h
def oK (M:List O) (L:(List V)):V × List O:=(V.sl L,M)
theorem Lp (M:List O):∀L L',oK M L=oK M L'->L=L':=by
 rintro a0 b0 h
 simpa [oK] using h
def sL (L:Int × (List (V × V)) × (List V) × Int × (List (V × V)) × (List V)):V × List O:=(V.ptr 4 0 0,(sm L.1 L.2.1 L.2.2.1++[O.box 140 (V.agg [V.ptr 5 0 0,V.mp 6]) false,O.box 192 (V.agg [V.tail 7 0,V.int .i64 L.2.2.2.1]) true,O.map L.2.2.2.2.1,O.row 5 L.2.2.2.2.2 0]))
theorem VX:∀L L',sL L=sL L'->L=L':=by
 rintro ⟨a0,a1,a2,a3,a4,a5⟩ ⟨b0,b1,b2,b3,b4,b5⟩ h
 cases h;rfl
def ky (M:List O) (L:(List UInt8) × Int):V × List O:=(V.tup [V.str L.1,V.int .i64 L.2],M)
theorem oL (M:List O):∀L L',ky M L=ky M L'->L=L':=by
 rintro ⟨a0,a1⟩ ⟨b0,b1⟩ h
 simp [ky] at h
 simp [h]
def oI (L:Int × Int × Int × (List V)):V × List O:=(V.tup [V.int .i64 L.1,V.int .i64 L.2.1],(bm L.2.2.1 L.2.2.2))
theorem Ll:∀L L',oI L=oI L'->L=L':=by
 rintro ⟨a0,a1,a2,a3⟩ ⟨b0,b1,b2,b3⟩ h
 cases h;rfl
def qu (L:Int × Int × (List (V × V)) × (List V)):V × List O:=(V.int .i64 L.1,(sm L.2.1 L.2.2.1 L.2.2.2))
theorem Lh:∀L L',qu L=qu L'->L=L':=by
 rintro ⟨a0,a1,a2,a3⟩ ⟨b0,b1,b2,b3⟩ h
 cases h;rfl
def nk (M:List O) (L:(List V) × (List V) × (List UInt8) × Int × Int):V × List O:=(V.tup [V.sl L.1,V.agg [V.sl L.2.1,V.str L.2.2.1,V.int .i64 L.2.2.2.1],V.int .i64 L.2.2.2.2],M)
theorem qA (M:List O):∀L L',nk M L=nk M L'->L=L':=by
 rintro ⟨a0,a1,a2,a3,a4⟩ ⟨b0,b1,b2,b3,b4⟩ h
 simp [nk] at h
 simp [h]
def oM (L:Int × Int × (List (V × V)) × (List V)):V × List O:=(V.tup [],(tm L.1 L.2.1 L.2.2.1 L.2.2.2))
theorem VY:∀L L',oM L=oM L'->L=L':=by
 rintro ⟨a0,a1,a2,a3⟩ ⟨b0,b1,b2,b3⟩ h
 cases h;rfl
def qB (L:Int × Int × (List (V × V)) × (List V)):V × List O:=(V.tup [],(tm L.1 L.2.1 L.2.2.1 L.2.2.2))
theorem VZ:∀L L',qB L=qB L'->L=L':=by
 rintro ⟨a0,a1,a2,a3⟩ ⟨b0,b1,b2,b3⟩ h
 cases h;rfl
def nr (L:Int × Bool × Int × (List (V × V)) × Int × (List (V × V)) × (List V) × (List V) × (List V)):V × List O:=(V.tup [V.int .i64 L.1,V.bool L.2.1],(ln L.2.2.1 9 10 L.2.2.2.1 L.2.2.2.2.1 L.2.2.2.2.2.1 L.2.2.2.2.2.2.1++[O.row 3 L.2.2.2.2.2.2.2.1 0,O.row 9 L.2.2.2.2.2.2.2.2 0]))
theorem Aq:∀L L',nr L=nr L'->L=L':=by
 rintro ⟨a0,a1,a2,a3,a4,a5,a6,a7,a8⟩ ⟨b0,b1,b2,b3,b4,b5,b6,b7,b8⟩ h
 cases h;rfl
def oN (M:List O) (L:(List V)):V × List O:=(V.sl L,M)
theorem Lq (M:List O):∀L L',oN M L=oN M L'->L=L':=by
 rintro a0 b0 h
 simpa [oN] using h
def sN (L:(List V)):V × List O:=(V.tail 0 0,[O.row 3 L 0])
theorem V7:∀L L',sN L=sN L'->L=L':=by
 rintro a0 b0 h
 cases h;rfl
def oO (M:List O) (L:(List V)):V × List O:=(V.sl L,M)
theorem Lr (M:List O):∀L L',oO M L=oO M L'->L=L':=by
 rintro a0 b0 h
 simpa [oO] using h
def fp (M:List O) (L:(List V) × (List UInt8) × Int):V × List O:=(V.ifc 120 (V.agg [V.sl L.1,V.str L.2.1,V.int .i64 L.2.2]),M)
theorem V1 (M:List O):∀L L',fp M L=fp M L'->L=L':=by
 rintro ⟨a0,a1,a2⟩ ⟨b0,b1,b2⟩ h
 simp [fp] at h
 simp [h]
def fq (M:List O) (L:(List V) × (List V) × (List UInt8) × Int):V × List O:=(V.ifc 150 (V.agg [V.sl L.1,V.sl L.2.1,V.str L.2.2.1,V.int .i64 L.2.2.2]),M)
theorem V2 (M:List O):∀L L',fq M L=fq M L'->L=L':=by
 rintro ⟨a0,a1,a2,a3⟩ ⟨b0,b1,b2,b3⟩ h
 simp [fq] at h
 simp [h]
theorem V3 (M:List O):∀L L',fp M L≠fq M L':=by
 intro L L' h
 simp [fp,fq] at h
def fK (M:List O) (L:Unit):V × List O:=(V.nilI,M)
theorem V4 (M:List O):∀L L',fK M L=fK M L'->L=L':=by
 rintro ⟨⟩ ⟨⟩ h
 rfl
theorem V5 (M:List O):∀L L',fp M L≠fK M L':=by
 intro L L' h
 simp [fp,fK] at h
theorem V6 (M:List O):∀L L',fq M L≠fK M L':=by
 intro L L' h
 simp [fq,fK] at h
def qC (M:List O) (L:Int):V × List O:=(V.int .i64 L,M)
theorem V8 (M:List O):∀L L',qC M L=qC M L'->L=L':=by
 rintro a0 b0 h
 simpa [qC] using h
def sO (L:Int × (List V) × Int × (List V)):V × List O:=(V.ptr 2 0 0,(bm L.1 L.2.1++[O.box 192 (V.agg [V.tail 3 0,V.int .i64 L.2.2.1]) true,O.row 5 L.2.2.2 0]))
theorem V9:∀L L',sO L=sO L'->L=L':=by
 rintro ⟨a0,a1,a2,a3⟩ ⟨b0,b1,b2,b3⟩ h
 cases h;rfl
def l8 (M:List O) (L:Bool):V × List O:=(V.bool L,M)
theorem uY (M:List O):∀L L',l8 M L=l8 M L'->L=L':=by
 rintro a0 b0 h
 simpa [l8] using h
def sK (L:Int × Int × (List V)):V × List O:=(V.int .i64 L.1,(bm L.2.1 L.2.2))
theorem VU:∀L L',sK L=sK L'->L=L':=by
 rintro ⟨a0,a1,a2⟩ ⟨b0,b1,b2⟩ h
 cases h;rfl
def nf (L:Int × Int × (List (V × V)) × (List V)):V × List O:=(V.tup [],(tm L.1 L.2.1 L.2.2.1 L.2.2.2))
theorem Li:∀L L',nf L=nf L'->L=L':=by
 rintro ⟨a0,a1,a2,a3⟩ ⟨b0,b1,b2,b3⟩ h
 cases h;rfl
def qv (M:List O) (L:(List V)):V × List O:=(V.sl L,M)
theorem VO (M:List O):∀L L',qv M L=qv M L'->L=L':=by
 rintro a0 b0 h
 simpa [qv] using h
def qw (L:Int × Int × (List (V × V)) × (List V)):V × List O:=(V.int .i64 L.1,(sm L.2.1 L.2.2.1 L.2.2.2))
theorem Lj:∀L L',qw L=qw L'->L=L':=by
 rintro ⟨a0,a1,a2,a3⟩ ⟨b0,b1,b2,b3⟩ h
 cases h;rfl
def sH (L:Int × Int × (List (V × V)) × (List V)):V × List O:=(V.tup [],(tm L.1 L.2.1 L.2.2.1 L.2.2.2))
theorem VP:∀L L',sH L=sH L'->L=L':=by
 rintro ⟨a0,a1,a2,a3⟩ ⟨b0,b1,b2,b3⟩ h
 cases h;rfl
def oJ (L:Bool × (List (V × V)) × (List V) × (List V)):V × List O:=(V.bool L.1,[O.box 144 (V.agg [V.mp 1,V.tail 4 0,V.tail 5 0]) false,O.map L.2.1,O.dead,O.dead,O.row 3 L.2.2.1 0,O.row 9 L.2.2.2 0])
theorem Lm:∀L L',oJ L=oJ L'->L=L':=by
 rintro ⟨a0,a1,a2,a3⟩ ⟨b0,b1,b2,b3⟩ h
 cases h;rfl
def qx (L:(List V) × (List V)):V × List O:=(V.own 1,[O.row 5 L.1 0,O.row 5 L.2 0])
theorem VQ:∀L L',qx L=qx L'->L=L':=by
 rintro ⟨a0,a1⟩ ⟨b0,b1⟩ h
 cases h;rfl
def sI (L:(List V)):V × List O:=(V.tup [],[O.row 3 L 0])
theorem VS:∀L L',sI L=sI L'->L=L':=by
 rintro a0 b0 h
 cases h;rfl
def sJ (L:Int × Int × (List V)):V × List O:=(V.int .i64 L.1,(bm L.2.1 L.2.2))
theorem VT:∀L L',sJ L=sJ L'->L=L':=by
 rintro ⟨a0,a1,a2⟩ ⟨b0,b1,b2⟩ h
 cases h;rfl
noncomputable def Ff (cm:CM) (f:FuncId) (args:List V) (mem:List O) (k:V->List O->R):R:=cond (f==84) (aT aA cm lw f args mem fun L=>k (lw L).1 (lw L).2) (cond (f==78) (aT aA cm eo f args mem fun L=>k (eo L).1 (eo L).2) (cond (f==32) (aT aA cm kw f args mem fun L=>k (kw L).1 (kw L).2) (cond (f==33) (aT aA cm kx f args mem fun L=>k (kx L).1 (kx L).2) (cond (f==39) (aT aA cm (lu mem) f args mem fun L=>k ((lu mem) L).1 ((lu mem) L).2) (cond (f==40) (aT aA cm (l9 mem) f args mem fun L=>k ((l9 mem) L).1 ((l9 mem) L).2) (cond (f==42) (aT aA cm (qz mem) f args mem fun L=>k ((qz mem) L).1 ((qz mem) L).2) (cond (f==50) (aT aA cm (nj mem) f args mem fun L=>k ((nj mem) L).1 ((nj mem) L).2) (cond (f==34) (aT aA cm (qy mem) f args mem fun L=>k ((qy mem) L).1 ((qy mem) L).2) (cond (f==43) (aT aA cm (ng mem) f args mem fun L=>k ((ng mem) L).1 ((ng mem) L).2) (cond (f==44) (aT aA cm (ni mem) f args mem fun L=>k ((ni mem) L).1 ((ni mem) L).2) (cond (f==46) (aT aA cm (oK mem) f args mem fun L=>k ((oK mem) L).1 ((oK mem) L).2) (cond (f==57) (aT aA cm sL f args mem fun L=>k (sL L).1 (sL L).2) (cond (f==58) (aT aA cm (ky mem) f args mem fun L=>k ((ky mem) L).1 ((ky mem) L).2) (cond (f==131) (aT aA cm oI f args mem fun L=>k (oI L).1 (oI L).2) (cond (f==119) (aT aA cm qu f args mem fun L=>k (qu L).1 (qu L).2) (cond (f==75) (aT aA cm (nk mem) f args mem fun L=>k ((nk mem) L).1 ((nk mem) L).2) (cond (f==79) (aT aA cm oM f args mem fun L=>k (oM L).1 (oM L).2) (cond (f==81) (aT aA cm qB f args mem fun L=>k (qB L).1 (qB L).2) (cond (f==85) (aT aA cm nr f args mem fun L=>k (nr L).1 (nr L).2) (cond (f==87) (aT aA cm (oN mem) f args mem fun L=>k ((oN mem) L).1 ((oN mem) L).2) (cond (f==86) (aT aA cm sN f args mem fun L=>k (sN L).1 (sN L).2) (cond (f==90) (aT aA cm (oO mem) f args mem fun L=>k ((oO mem) L).1 ((oO mem) L).2) (cond (f==82) (fV aA cm (fp mem) (fq mem) (fK mem) f args mem (fun L=>k ((fp mem) L).1 ((fp mem) L).2) (fun L=>k ((fq mem) L).1 ((fq mem) L).2) (fun L=>k ((fK mem) L).1 ((fK mem) L).2)) (cond (f==89) (aT aA cm (qC mem) f args mem fun L=>k ((qC mem) L).1 ((qC mem) L).2) (cond (f==96) (aT aA cm sO f args mem fun L=>k (sO L).1 (sO L).2) (cond (f==137) (aT aA cm (l8 mem) f args mem fun L=>k ((l8 mem) L).1 ((l8 mem) L).2) (cond (f==180) (aT aA cm sK f args mem fun L=>k (sK L).1 (sK L).2) (cond (f==123) (aT aA cm nf f args mem fun L=>k (nf L).1 (nf L).2) (cond (f==124) (aT aA cm (qv mem) f args mem fun L=>k ((qv mem) L).1 ((qv mem) L).2) (cond (f==127) (aT aA cm qw f args mem fun L=>k (qw L).1 (qw L).2) (cond (f==128) (aT aA cm sH f args mem fun L=>k (sH L).1 (sH L).2) (cond (f==132) (aT aA cm oJ f args mem fun L=>k (oJ L).1 (oJ L).2) (cond (f==139) (aT aA cm qx f args mem fun L=>k (qx L).1 (qx L).2) (cond (f==169) (aT aA cm sI f args mem fun L=>k (sI L).1 (sI L).2) (cond (f==174) (aT aA cm sJ f args mem fun L=>k (sJ L).1 (sJ L).2) (none))))))))))))))))))))))))))))))))))))
noncomputable def Mo:KC:={ Mn with ck:=Ff }
theorem Xp:ge Mo:=⟨Xq.ik,fun cm f av mem k r h=>by
 change Ff cm f av mem k=some r at h
 unfold Ff at h
 rcases bn h with ⟨_,h⟩ | ⟨_,h⟩
 ·obtain ⟨L,h1,h2⟩:=de h;exact ⟨_,_,h1,h2⟩
 rcases bn h with ⟨_,h⟩ | ⟨_,h⟩
 ·obtain ⟨L,h1,h2⟩:=de h;exact ⟨_,_,h1,h2⟩
 rcases bn h with ⟨_,h⟩ | ⟨_,h⟩
 ·obtain ⟨L,h1,h2⟩:=de h;exact ⟨_,_,h1,h2⟩
 rcases bn h with ⟨_,h⟩ | ⟨_,h⟩
 ·obtain ⟨L,h1,h2⟩:=de h;exact ⟨_,_,h1,h2⟩
 rcases bn h with ⟨_,h⟩ | ⟨_,h⟩
 ·obtain ⟨L,h1,h2⟩:=de h;exact ⟨_,_,h1,h2⟩
 rcases bn h with ⟨_,h⟩ | ⟨_,h⟩
 ·obtain ⟨L,h1,h2⟩:=de h;exact ⟨_,_,h1,h2⟩
 rcases bn h with ⟨_,h⟩ | ⟨_,h⟩
 ·obtain ⟨L,h1,h2⟩:=de h;exact ⟨_,_,h1,h2⟩
 rcases bn h with ⟨_,h⟩ | ⟨_,h⟩
 ·obtain ⟨L,h1,h2⟩:=de h;exact ⟨_,_,h1,h2⟩
 rcases bn h with ⟨_,h⟩ | ⟨_,h⟩
 ·obtain ⟨L,h1,h2⟩:=de h;exact ⟨_,_,h1,h2⟩
 rcases bn h with ⟨_,h⟩ | ⟨_,h⟩
 ·obtain ⟨L,h1,h2⟩:=de h;exact ⟨_,_,h1,h2⟩
 rcases bn h with ⟨_,h⟩ | ⟨_,h⟩
 ·obtain ⟨L,h1,h2⟩:=de h;exact ⟨_,_,h1,h2⟩
 rcases bn h with ⟨_,h⟩ | ⟨_,h⟩
 ·obtain ⟨L,h1,h2⟩:=de h;exact ⟨_,_,h1,h2⟩
 rcases bn h with ⟨_,h⟩ | ⟨_,h⟩
 ·obtain ⟨L,h1,h2⟩:=de h;exact ⟨_,_,h1,h2⟩
 rcases bn h with ⟨_,h⟩ | ⟨_,h⟩
 ·obtain ⟨L,h1,h2⟩:=de h;exact ⟨_,_,h1,h2⟩
 rcases bn h with ⟨_,h⟩ | ⟨_,h⟩
 ·obtain ⟨L,h1,h2⟩:=de h;exact ⟨_,_,h1,h2⟩
 rcases bn h with ⟨_,h⟩ | ⟨_,h⟩
 ·obtain ⟨L,h1,h2⟩:=de h;exact ⟨_,_,h1,h2⟩
 rcases bn h with ⟨_,h⟩ | ⟨_,h⟩
 ·obtain ⟨L,h1,h2⟩:=de h;exact ⟨_,_,h1,h2⟩
 rcases bn h with ⟨_,h⟩ | ⟨_,h⟩
 ·obtain ⟨L,h1,h2⟩:=de h;exact ⟨_,_,h1,h2⟩
 rcases bn h with ⟨_,h⟩ | ⟨_,h⟩
 ·obtain ⟨L,h1,h2⟩:=de h;exact ⟨_,_,h1,h2⟩
 rcases bn h with ⟨_,h⟩ | ⟨_,h⟩
 ·obtain ⟨L,h1,h2⟩:=de h;exact ⟨_,_,h1,h2⟩
 rcases bn h with ⟨_,h⟩ | ⟨_,h⟩
 ·obtain ⟨L,h1,h2⟩:=de h;exact ⟨_,_,h1,h2⟩
 rcases bn h with ⟨_,h⟩ | ⟨_,h⟩
 ·obtain ⟨L,h1,h2⟩:=de h;exact ⟨_,_,h1,h2⟩
 rcases bn h with ⟨_,h⟩ | ⟨_,h⟩
 ·obtain ⟨L,h1,h2⟩:=de h;exact ⟨_,_,h1,h2⟩
 rcases bn h with ⟨_,h⟩ | ⟨_,h⟩
 ·rcases Ug h with ⟨L,h1,h2⟩ | ⟨L,h1,h2⟩ | ⟨L,h1,h2⟩<;>exact ⟨_,_,h1,h2⟩
 rcases bn h with ⟨_,h⟩ | ⟨_,h⟩
 ·obtain ⟨L,h1,h2⟩:=de h;exact ⟨_,_,h1,h2⟩
 rcases bn h with ⟨_,h⟩ | ⟨_,h⟩
 ·obtain ⟨L,h1,h2⟩:=de h;exact ⟨_,_,h1,h2⟩
 rcases bn h with ⟨_,h⟩ | ⟨_,h⟩
 ·obtain ⟨L,h1,h2⟩:=de h;exact ⟨_,_,h1,h2⟩
 rcases bn h with ⟨_,h⟩ | ⟨_,h⟩
 ·obtain ⟨L,h1,h2⟩:=de h;exact ⟨_,_,h1,h2⟩
 rcases bn h with ⟨_,h⟩ | ⟨_,h⟩
 ·obtain ⟨L,h1,h2⟩:=de h;exact ⟨_,_,h1,h2⟩
 rcases bn h with ⟨_,h⟩ | ⟨_,h⟩
 ·obtain ⟨L,h1,h2⟩:=de h;exact ⟨_,_,h1,h2⟩
 rcases bn h with ⟨_,h⟩ | ⟨_,h⟩
 ·obtain ⟨L,h1,h2⟩:=de h;exact ⟨_,_,h1,h2⟩
 rcases bn h with ⟨_,h⟩ | ⟨_,h⟩
 ·obtain ⟨L,h1,h2⟩:=de h;exact ⟨_,_,h1,h2⟩
 rcases bn h with ⟨_,h⟩ | ⟨_,h⟩
 ·obtain ⟨L,h1,h2⟩:=de h;exact ⟨_,_,h1,h2⟩
 rcases bn h with ⟨_,h⟩ | ⟨_,h⟩
 ·obtain ⟨L,h1,h2⟩:=de h;exact ⟨_,_,h1,h2⟩
 rcases bn h with ⟨_,h⟩ | ⟨_,h⟩
 ·obtain ⟨L,h1,h2⟩:=de h;exact ⟨_,_,h1,h2⟩
 rcases bn h with ⟨_,h⟩ | ⟨_,h⟩
 ·obtain ⟨L,h1,h2⟩:=de h;exact ⟨_,_,h1,h2⟩
 cases h⟩
noncomputable def fF (f:Nat):FA:=(fH aA.P (aA.rxf f) f).getD JL
noncomputable def Kj:KC:=Mo.inl [(52,fF 52),(133,fF 133),(98,fF 98),(179,fF 179),(136,fF 136),(83,fF 83),(51,fF 51),(164,fF 164),(177,fF 177),(178,fF 178),(68,fF 68),(18,fF 18)]
theorem T3:ge Kj:=Kt Xp (by
 intro x hx
 simp only [bP,List.not_mem_nil,or_false] at hx
 rcases hx with rfl | rfl | rfl | rfl | rfl | rfl | rfl | rfl | rfl | rfl | rfl | rfl
 ·exact ⟨rfl,im (by kernel_rfl),rfl⟩
 ·exact ⟨rfl,im (by kernel_rfl),rfl⟩
 ·exact ⟨rfl,im (by kernel_rfl),rfl⟩
 ·exact ⟨rfl,im (by kernel_rfl),rfl⟩
 ·exact ⟨rfl,im (by kernel_rfl),rfl⟩
 ·exact ⟨rfl,im (by kernel_rfl),rfl⟩
 ·exact ⟨rfl,im (by kernel_rfl),rfl⟩
 ·exact ⟨rfl,im (by kernel_rfl),rfl⟩
 ·exact ⟨rfl,im (by kernel_rfl),rfl⟩
 ·exact ⟨rfl,im (by kernel_rfl),rfl⟩
 ·exact ⟨rfl,im (by kernel_rfl),rfl⟩
 ·exact ⟨rfl,im (by kernel_rfl),rfl⟩)
noncomputable def qk:KC:=Kj.inl [(36,fF 36),(37,fF 37)]
theorem Fc:ge qk:=Kt T3 (by
 intro x hx
 simp only [bP,List.not_mem_nil,or_false] at hx
 rcases hx with rfl | rfl
 ·exact ⟨rfl,im (by kernel_rfl),rfl⟩
 ·exact ⟨rfl,im (by kernel_rfl),rfl⟩)
abbrev Rd (imp:Bool) (n0 f i:Nat) (t:S) (s:R):Prop:=∀{o o':cW},s=some o->Go qk imp n0 (fF f) o o'->Go qk imp n0 (fF f) (.head i t) o'
theorem rd {imp:Bool} {n0 f i:Nat} {t:S} {s:R} (h:Kb qk imp n0 (fF f) i t=s):Rd imp n0 f i t s:=fun h1 hg=>.step (h.trans h1) hg
abbrev Ep (f:Nat) (as0:List V) (s:R):Prop:=∀{o:cW} {v:V},s=some o->Go qk false 0 (fF f) o (.done v)->bK aA f as0=some v
theorem ep {f:Nat} {as0:List V} {s:R} (hf:(fH aA.P (aA.rxf f) f).isSome=true) (h:k6 qk false (fF f) as0 []=s) (hp:aA.pprim f=none:=by rfl):Ep f as0 s:=fun h1 hg=>nD Fc hp (im hf) (h.trans h1) hg
abbrev Ed (f:Nat) (as0:List V) (s:R):Prop:=∀{v:V},s=some (.done v)->bK aA f as0=some v
theorem ed {f:Nat} {as0:List V} {s:R} (h:Ep f as0 s):Ed f as0 s:=fun h1=>h h1 (.refl _)
abbrev Ei (f n0:Nat) (as0:List V) (mem:List O) (s:R):Prop:=∀{o:cW} {v:V} {m:List O},s=some o->Go qk true n0 (fF f) o (.doneM v m)->lV aA f as0 mem=some (v,m)
theorem ei {f n0:Nat} {as0:List V} {mem:List O} {s:R} (hf:(fH aA.P (aA.rxf f) f).isSome=true) (h:k6 qk true (fF f) as0 mem=s) (hp:aA.iprim f=none:=by rfl) (hn:mem.length=n0:=by rfl):Ei f n0 as0 mem s:=fun h1 hg=>Kl Fc hp (im hf) (h.trans h1) (hn ▸ hg)
abbrev Ec (f n0:Nat) (cm:CM) (as0:List V) (mem:List O) (s:R):Prop:=∀{o:cW} {r:V × List O},s=some o->rj qk n0 (fF f) cm mem o r->bN aA cm f as0 mem=some r
theorem ec {f n0:Nat} {cm:CM} {as0:List V} {mem:List O} {s:R} (hf:(fH aA.P (aA.rxf f) f).isSome=true) (h:k6 qk true (fF f) as0 mem=s) (hp:aA.iprim f=none:=by rfl) (hn:mem.length=n0:=by rfl):Ec f n0 cm as0 mem s:=fun h1 hg=>T9 Fc hp (im hf) (h.trans h1) (hn ▸ hg)
noncomputable def Cw (b:List UInt8) (a:Int): R :=
 cond (decide (a < 0))
 (some (.done (V.int .i64 1)))
 (cond (decide (a > (b.length:Int)))
 (some (.done (V.int .i64 1)))
 (some (.done (V.int .i64 0))))
theorem QW (a b): Ep 113 [V.str a,V.int .i64 b] (Cw a b):=ep (by kernel_rfl) (by kernel_rfl)
theorem QV (a b): Ed 113 [V.str a,V.int .i64 b] (Cw a b):=ed (QW a b)
noncomputable def CW (b:List UInt8) (c a:Int): R :=
 cond (decide (a < 1))
 (some (.done (V.int .i64 1)))
 (cond (decide (a > 8))
 (some (.done (V.int .i64 1)))
 (aE aA 113 [V.str b,V.int .i64 c] fun d =>
  kI .i64 d fun e =>
  cond (e != (0:Int))
 (some (.done (V.int .i64 1)))
 (cond (decide (W .i64 ((b.length:Int) - c) < a))
 (some (.done (V.int .i64 3)))
 (some (.done (V.int .i64 0))))))
theorem R6 (a b c): Ep 208 [V.str a,V.int .i64 b,V.int .i64 c] (CW a b c):=ep (by kernel_rfl) (by kernel_rfl)
theorem R5 (a b c): Ed 208 [V.str a,V.int .i64 b,V.int .i64 c] (CW a b c):=ed (R6 a b c)
def tZ (a:List UInt8) (b c d e:Int): S:=⟨[V.str a,V.int .i64 b]++(JU 4)++[V.int .u64 0,V.int .i64 0,V.junk,V.int .u64 c]++(JU 8)++[V.int .i64 d,V.int .i64 e]++(JU 15),[]⟩
noncomputable def CX (a:List UInt8) (b c:Int): R :=
 aE aA 208 [V.str a,V.int .i64 b,V.int .i64 c] fun e =>
 kI .i64 e fun d =>
 cond (d != (0:Int))
 (some (.done (V.tup [V.int .u64 0,V.int .i64 d])))
 (some (.head 0 (tZ a b 0 c 0)))
theorem I5 (a b c): Ep 214 [V.str a,V.int .i64 b,V.int .i64 c] (CX a b c):=ep (by kernel_rfl) (by kernel_rfl)
noncomputable def FV (c:List UInt8) (b d e a:Int): R :=
 cond (decide (a < e))
 (gd (decide (0<=W .i64 (b+a))) <|
  aY c ((W .i64 (b+a)).toNat) fun f =>
  gd (!decide (W .i64 (8 * a) < 0)) <|
  some (.head 0 (tZ c b (W .u64 (((BitVec.ofInt (IntKind.bits .u64) d ||| BitVec.ofInt (IntKind.bits .u64) (W .u64 (W .u64 ((f.toNat:Int)) * 2 ^ (min (W .i64 (8 * a)).toNat (IntKind.bits .u64))))).toNat:Int))) e (W .i64 (a+1)))))
 (some (.done (V.tup [V.int .u64 d,V.int .i64 0])))
theorem Nc (a b c d e): Rd false 0 214 0 (tZ a b c d e) (FV a b c d e):=rd (by kernel_rfl)
def rp (a:List UInt8) (b c d e:Int) (f:List V): S:=⟨[V.str a,V.int .i64 b,V.junk,V.int .u64 c]++(JU 4)++[V.str [],V.int .i64 0,V.junk,V.own 0]++(JU 19)++[V.int .i64 d,V.int .i64 e]++(JU 15),[O.row 5 f 0]⟩
noncomputable def zt (b:List UInt8) (c a d:Int): R :=
 aE aA 208 [V.str b,V.int .i64 c,V.int .i64 a] fun f =>
 kI .i64 f fun e =>
 cond (e != (0:Int))
 (some (.done (V.tup [V.str [],V.int .i64 e])))
 (cond (decide (a < 8))
 (gd (!decide (W .i64 (8 * a) < 0)) <|
  cond (decide (d.fdiv (2 ^ (min (W .i64 (8 * a)).toNat (IntKind.bits .u64))) > 0))
 (some (.done (V.tup [V.str [],V.int .i64 2])))
 (gd (decide (0<=a)) <|
  gd (decide (a<=a)) <|
  gd (decide (a.toNat<=16777216)) <|
  some (.head 0 (rp b c d a 0 (bE a.toNat (V.int .u8 0))))))
 (gd (decide (0<=a)) <|
  gd (decide (a<=a)) <|
  gd (decide (a.toNat<=16777216)) <|
  some (.head 0 (rp b c d a 0 (bE a.toNat (V.int .u8 0))))))
theorem CJ (a b c d): Ep 161 [V.str a,V.int .i64 b,V.int .i64 c,V.int .u64 d] (zt a b c d):=ep (by kernel_rfl) (by kernel_rfl)
noncomputable def FO (c:List UInt8) (d e f a:Int) (b:List V): R :=
 cond (decide (a < f))
 (gd (!decide (W .i64 (8 * a) < 0)) <|
  gd (decide (0<=a)) <|
  gd (decide (a.toNat < b.length)) <|
  aY b a.toNat fun g =>
  kI .u8 g fun j =>
  some (.head 0 (rp c d e f (W .i64 (a+1)) ((b).set a.toNat (V.int .u8 (W .u8 (e.fdiv (2 ^ (min (W .i64 (8 * a)).toNat (IntKind.bits .u64))))))))))
 (aE aA 209 [V.str c,V.int .i64 d,V.sl b] fun h =>
  kS h fun i =>
  some (.done (V.tup [V.str i,V.int .i64 0])))
theorem MZ (a b c d e f): Rd false 0 161 0 (rp a b c d e f) (FO a b c d e f):=rd (by kernel_rfl)
noncomputable def C3 (b:List UInt8) (a:Int): R :=
 aE aA 113 [V.str b,V.int .i64 a] fun e =>
 kI .i64 e fun d =>
 cond (d != (0:Int))
 (some (.done (V.tup [V.str [],V.int .i64 0,V.int .i64 d])))
 (cond (a==(b.length:Int))
 (some (.done (V.tup [V.str [],V.int .i64 0,V.int .i64 3])))
 (gd (decide (0<=a)) <|
  aY b a.toNat fun f =>
  cond (decide (W .i64 ((W .i64 ((b.length:Int) - a)) - 1) < W .i64 ((f.toNat:Int))))
 (some (.done (V.tup [V.str [],V.int .i64 0,V.int .i64 3])))
 (gd (decide (0<=a)) <|
  aY b a.toNat fun c =>
  gd (decide (0<=W .i64 (a+1))) <|
  gd (decide (0<=W .i64 ((W .i64 (a+1))+(W .i64 ((c.toNat:Int)))))) <|
  gd (decide ((W .i64 (a+1)).toNat<=(W .i64 ((W .i64 (a+1))+(W .i64 ((c.toNat:Int))))).toNat)) <|
  gd (decide ((W .i64 ((W .i64 (a+1))+(W .i64 ((c.toNat:Int))))).toNat<=b.length)) <|
  some (.done (V.tup [V.str ((b.take ((W .i64 ((W .i64 (a+1))+(W .i64 ((c.toNat:Int))))).toNat)).drop ((W .i64 (a+1)).toNat)),V.int .i64 (W .i64 ((W .i64 (a+1))+(W .i64 ((c.toNat:Int))))),V.int .i64 0])))))
theorem Sn (a b): Ep 71 [V.str a,V.int .i64 b] (C3 a b):=ep (by kernel_rfl) (by kernel_rfl)
theorem Sl (a b): Ed 71 [V.str a,V.int .i64 b] (C3 a b):=ed (Sn a b)
noncomputable def CK (c:List UInt8) (b:Int) (a:List UInt8): R :=
 aE aA 113 [V.str c,V.int .i64 b] fun e =>
 kI .i64 e fun d =>
 cond (d != (0:Int))
 (some (.done (V.tup [V.str [],V.int .i64 0,V.int .i64 d])))
 (cond (decide ((a.length:Int) > 255))
 (some (.done (V.tup [V.str [],V.int .i64 0,V.int .i64 2])))
 (cond (decide (W .i64 ((c.length:Int) - b) < W .i64 ((a.length:Int)+1)))
 (some (.done (V.tup [V.str [],V.int .i64 0,V.int .i64 3])))
 (gd (dp 1 (dC a)) <|
  gd (decide (([V.int .u8 (W .u8 ((a.length:Int)))]:List V).length+(dC a).length<=16777216)) <|
  aE aA 209 [V.str c,V.int .i64 b,V.sl ([V.int .u8 (W .u8 ((a.length:Int)))]++(dC a))] fun f =>
  kS f fun g =>
  some (.done (V.tup [V.str g,V.int .i64 (W .i64 ((W .i64 (b+(a.length:Int)))+1)),V.int .i64 0])))))
theorem Rz (a b c): Ep 162 [V.str a,V.int .i64 b,V.str c] (CK a b c):=ep (by kernel_rfl) (by kernel_rfl)
theorem Ry (a b c): Ed 162 [V.str a,V.int .i64 b,V.str c] (CK a b c):=ed (Rz a b c)
noncomputable def CI (a:List UInt8) (b:Int): R :=
 cond (decide (b < 0))
 (some (.done (V.tup [V.str [],V.int .i64 1])))
 (cond (decide (b > 65536))
 (some (.done (V.tup [V.str [],V.int .i64 1])))
 (cond (decide ((a.length:Int) > b))
 (some (.done (V.tup [V.str [],V.int .i64 2])))
 (gd (decide (0<=W .i64 (b - (a.length:Int)))) <|
  gd (decide (W .i64 (b - (a.length:Int))<=W .i64 (b - (a.length:Int)))) <|
  gd (decide ((W .i64 (b - (a.length:Int))).toNat<=16777216)) <|
  bh (fM (bE ((W .i64 (b - (a.length:Int))).toNat) (V.int .u8 0))) fun d =>
  gd (decide (a.length+(d.map fun c=>UInt8.ofNat c.toNat).length<=4611686018427387904)) <|
  some (.done (V.tup [V.str (a++(d.map fun c=>UInt8.ofNat c.toNat)),V.int .i64 0])))))
theorem Rx (a b): Ep 160 [V.str a,V.int .i64 b] (CI a b):=ep (by kernel_rfl) (by kernel_rfl)
theorem Rw (a b): Ed 160 [V.str a,V.int .i64 b] (CI a b):=ed (Rx a b)
def ww (a:List UInt8) (b:Int): S:=⟨[V.str a,V.junk,V.str [],V.int .i64 b]++(JU 16),[]⟩
noncomputable def RL (a:List UInt8): R :=
 some (.head 0 (ww a (a.length:Int)))
theorem RN (a): Ep 176 [V.str a] (RL a):=ep (by kernel_rfl) (by kernel_rfl)
noncomputable def A3 (b:List UInt8) (a:Int): R :=
 cond (decide (a > 0))
 (gd (decide (0<=W .i64 (a - 1))) <|
  aY b ((W .i64 (a - 1)).toNat) fun c =>
  cond ((c.toNat:Int)==(0:Int))
 (some (.head 0 (ww b (W .i64 (a - 1)))))
 (gd (decide (0<=a)) <|
  gd (decide (a.toNat<=b.length)) <|
  some (.done (V.str (b.take a.toNat)))))
 (gd (decide (0<=a)) <|
  gd (decide (a.toNat<=b.length)) <|
  some (.done (V.str (b.take a.toNat))))
theorem FU (a b): Rd false 0 176 0 (ww a b) (A3 a b):=rd (by kernel_rfl)
noncomputable def C4 (a:List UInt8): R :=
 cond (!(a==[]))
 (some (.done (V.bool (decide ((a.length:Int)<=16)))))
 (some (.done (V.bool false)))
theorem Sq (a): Ep 73 [V.str a] (C4 a):=ep (by kernel_rfl) (by kernel_rfl)
theorem Sp (a): Ed 73 [V.str a] (C4 a):=ed (Sq a)
noncomputable def C5 (a:List UInt8): R :=
 some (.done (V.bool (decide ((a.length:Int)<=32))))
theorem Ss (a): Ep 74 [V.str a] (C5 a):=ep (by kernel_rfl) (by kernel_rfl)
theorem Sr (a): Ed 74 [V.str a] (C5 a):=ed (Ss a)
def t6 (a b:List V) (c:Int): S:=⟨[V.sl a,V.sl b,V.junk,V.junk,V.bool false,V.int .i64 c]++(JU 20),[]⟩
noncomputable def C1 (a b:List V): R :=
 cond ((a.length:Int) != (b.length:Int))
 (some (.done (V.bool false)))
 (some (.head 0 (t6 a b 0)))
theorem Jd (a b): Ep 49 [V.sl a,V.sl b] (C1 a b):=ep (by kernel_rfl) (by kernel_rfl)
noncomputable def A6 (b c:List V) (a:Int): R :=
 cond (decide (a < (b.length:Int)))
 (gd (decide (0<=a)) <|
  aY b a.toNat fun d =>
  kI .i64 d fun e =>
  gd (decide (0<=a)) <|
  aY c a.toNat fun f =>
  kI .i64 f fun g =>
  cond (e != g)
 (some (.done (V.bool false)))
 (some (.head 0 (t6 b c (W .i64 (a+1))))))
 (some (.done (V.bool true)))
theorem F2 (a b c): Rd false 0 49 0 (t6 a b c) (A6 a b c):=rd (by kernel_rfl)
noncomputable def CY (a:List UInt8): R :=
 some (.done (V.bool (!(a==a))))
theorem R8 (a): Ep 223 [V.str a] (CY a):=ep (by kernel_rfl) (by kernel_rfl)
theorem R7 (a): Ed 223 [V.str a] (CY a):=ed (R8 a)
noncomputable def CV (a:List UInt8): R :=
 some (.done (V.bool (!(a==a))))
theorem R4 (a): Ep 206 [V.str a] (CV a):=ep (by kernel_rfl) (by kernel_rfl)
theorem R3 (a): Ed 206 [V.str a] (CV a):=ed (R4 a)
noncomputable def CU (a b:List UInt8): R :=
 aE aA 223 [V.str a] fun c =>
 kB c fun d =>
 cond d
 (aE aA 223 [V.str b] fun e =>
  kB e fun f =>
  cond (!f)
 (some (.done (V.bool true)))
 (some (.done (V.bool (Op.bytesLess a b)))))
 (some (.done (V.bool (Op.bytesLess a b))))
theorem R2 (a b): Ep 205 [V.str a,V.str b] (CU a b):=ep (by kernel_rfl) (by kernel_rfl)
theorem RZ (a b): Ed 205 [V.str a,V.str b] (CU a b):=ed (R2 a b)
def pE (a:List V) (b:List UInt8) (c d e:Int): S:=⟨[V.sl a,V.str b,V.junk,V.junk,V.int .i64 0,V.bool false,V.int .i64 c,V.int .i64 d,V.int .i64 e]++(JU 45),[]⟩
noncomputable def IX (a:List V) (b:List UInt8): R :=
 some (.head 0 (pE a b (a.length:Int) 0 (a.length:Int)))
theorem Rq (a b): Ep 155 [V.sl a,V.str b] (IX a b):=ep (by kernel_rfl) (by kernel_rfl)
noncomputable def AY (c:List V) (d:List UInt8) (e a b:Int): R :=
 cond (decide (a < b))
 (gd (decide (0<=W .i64 ((W .u64 (W .i64 (a+b))).fdiv (2 ^ (min 1 (IntKind.bits .u64)))))) <|
  aY c ((W .i64 ((W .u64 (W .i64 (a+b))).fdiv (2 ^ (min 1 (IntKind.bits .u64))))).toNat) fun f =>
  kS f fun g =>
  aE aA 205 [V.str g,V.str d] fun h =>
  kB h fun i =>
  cond i
 (some (.head 0 (pE c d e (W .i64 ((W .i64 ((W .u64 (W .i64 (a+b))).fdiv (2 ^ (min 1 (IntKind.bits .u64)))))+1)) b)))
 (some (.head 0 (pE c d e a (W .i64 ((W .u64 (W .i64 (a+b))).fdiv (2 ^ (min 1 (IntKind.bits .u64)))))))))
 (cond (decide (a < e))
 (gd (decide (0<=a)) <|
  aY c a.toNat fun j =>
  kS j fun k =>
  cond (k==d)
 (some (.done (V.tup [V.int .i64 a,V.bool true])))
 (gd (decide (0<=a)) <|
  aY c a.toNat fun l =>
  kS l fun m =>
  aE aA 206 [V.str m] fun n =>
  kB n fun o =>
  cond o
 (aE aA 206 [V.str d] fun p =>
  kB p fun q =>
  some (.done (V.tup [V.int .i64 a,V.bool q])))
 (some (.done (V.tup [V.int .i64 a,V.bool false])))))
 (some (.done (V.tup [V.int .i64 a,V.bool false]))))
theorem FL (a b c d e): Rd false 0 155 0 (pE a b c d e) (AY a b c d e):=rd (by kernel_rfl)
def pF (a:List V) (b:List UInt8) (c d e:Int): S:=⟨[V.sl a,V.str b,V.fn 157 [],V.junk,V.junk,V.junk,V.int .i64 0,V.bool false,V.int .i64 c,V.int .i64 d,V.int .i64 e]++(JU 38),[]⟩
noncomputable def IY (a:List V) (b:List UInt8): R :=
 some (.head 0 (pF a b (a.length:Int) 0 (a.length:Int)))
theorem Rr (a b): Ep 156 [V.sl a,V.str b,V.fn 157 []] (IY a b):=ep (by kernel_rfl) (by kernel_rfl)
noncomputable def AZ (c:List V) (d:List UInt8) (e a b:Int): R :=
 cond (decide (a < b))
 (gd (decide (0<=W .i64 ((W .u64 (W .i64 (a+b))).fdiv (2 ^ (min 1 (IntKind.bits .u64)))))) <|
  aY c ((W .i64 ((W .u64 (W .i64 (a+b))).fdiv (2 ^ (min 1 (IntKind.bits .u64))))).toNat) fun f =>
  gX f fun g h =>
  aE aA 157 [V.agg [V.str g,V.str h],V.str d] fun i =>
  kI .i64 i fun j =>
  cond (decide (j < 0))
 (some (.head 0 (pF c d e (W .i64 ((W .i64 ((W .u64 (W .i64 (a+b))).fdiv (2 ^ (min 1 (IntKind.bits .u64)))))+1)) b)))
 (some (.head 0 (pF c d e a (W .i64 ((W .u64 (W .i64 (a+b))).fdiv (2 ^ (min 1 (IntKind.bits .u64)))))))))
 (cond (decide (a < e))
 (gd (decide (0<=a)) <|
  aY c a.toNat fun k =>
  gX k fun l m =>
  aE aA 157 [V.agg [V.str l,V.str m],V.str d] fun n =>
  kI .i64 n fun o =>
  some (.done (V.tup [V.int .i64 a,V.bool (o==(0:Int))])))
 (some (.done (V.tup [V.int .i64 a,V.bool false]))))
theorem FM (a b c d e): Rd false 0 156 0 (pF a b c d e) (AZ a b c d e):=rd (by kernel_rfl)
noncomputable def CH (a e b:List UInt8): R :=
 aE aA 158 [V.str a,V.str b] fun c =>
 kI .i64 c fun d =>
 some (.done (V.int .i64 d))
theorem Ru (a b c): Ep 157 [V.agg [V.str a,V.str b],V.str c] (CH a b c):=ep (by kernel_rfl) (by kernel_rfl)
theorem Rt (a b c): Ed 157 [V.agg [V.str a,V.str b],V.str c] (CH a b c):=ed (Ru a b c)
noncomputable def CR (a:Int): R :=
 cond (decide (a ≥ 0))
 (some (.done (V.bool (decide (a < 1024)))))
 (some (.done (V.bool false)))
theorem RU (a): Ep 203 [V.int .i64 a] (CR a):=ep (by kernel_rfl) (by kernel_rfl)
theorem RS (a): Ed 203 [V.int .i64 a] (CR a):=ed (RU a)
def tY (a:Int) (b:List V) (c d:Int): S:=⟨[V.junk,V.junk,V.int .i64 0,V.int .i64 a]++(JU 7)++[V.sl b,V.int .i64 c,V.int .i64 d]++(JU 10),[]⟩
noncomputable def I0 (a c:List V) (b:List UInt8) (d:Int): R :=
 some (.head 0 (tY (W .i64 (7+(b.length:Int))) a (a.length:Int) 0))
theorem RA (a b c d): Ep 163 [V.agg [V.sl a,V.sl b,V.str c,V.int .i64 d]] (I0 a b c d):=ep (by kernel_rfl) (by kernel_rfl)
noncomputable def FP (b:Int) (c:List V) (d a:Int): R :=
 cond (decide (a < d))
 (gd (decide (0<=a)) <|
  aY c a.toNat fun e =>
  kS e fun f =>
  some (.head 0 (tY (W .i64 (b+(W .i64 (3+(f.length:Int))))) c d (W .i64 (a+1)))))
 (some (.done (V.int .i64 b)))
theorem M0 (a b c d): Rd false 0 163 0 (tY a b c d) (FP a b c d):=rd (by kernel_rfl)
noncomputable def CS (b c:List V) (a:List UInt8) (d:Int): R :=
 aE aA 163 [V.agg [V.sl b,V.sl c,V.str a,V.int .i64 d]] fun e =>
 kI .i64 e fun f =>
 some (.done (V.bool (decide (W .i64 ((W .i64 (f - (a.length:Int)))+16)<=252))))
theorem RY (a b c d): Ep 204 [V.agg [V.sl a,V.sl b,V.str c,V.int .i64 d]] (CS a b c d):=ep (by kernel_rfl) (by kernel_rfl)
theorem RX (a b c d): Ed 204 [V.agg [V.sl a,V.sl b,V.str c,V.int .i64 d]] (CS a b c d):=ed (RY a b c d)
def wq (a b c:List V) (d:List UInt8) (e:Int) (f:List UInt8): S:=⟨[V.junk,V.ptr 0 0 0,V.ptr 1 0 0,V.ptr 2 0 0]++(JU 24)++[V.rest [9,3] a]++(JU 45),[O.box 150 (V.agg [V.sl b,V.sl c,V.str d,V.int .i64 e]) false,O.box 4 (V.bool false) false,O.box 9 (V.str f) false]⟩
noncomputable def zr (b a:List V) (c:List UInt8) (d:Int): R :=
 cond ((a.length:Int) != (W .i64 ((b.length:Int)+1)))
 (some (.done (V.bool false)))
 (aY a 0 fun e =>
  kI .i64 e fun f =>
  aE aA 203 [V.int .i64 f] fun g =>
  kB g fun h =>
  cond (!h)
 (some (.done (V.bool false)))
 (gd (dp 1 a) <|
  gd (decide (1<=a.length)) <|
  bh (ut [V.ref (V.sl b) 0,V.ref (V.sl ((a.take a.length).drop 1)) 0]) fun i =>
  some (.head 0 (wq (i.map V.tup) b a c d []))))
theorem CG (a b c d): Ep 154 [V.agg [V.sl a,V.sl b,V.str c,V.int .i64 d]] (zr a b c d):=ep (by kernel_rfl) (by kernel_rfl)
noncomputable def AX (h e f:List V) (b:List UInt8) (a:Int) (g:List UInt8): R :=
 jJ h
 (cond (b==[])
 (cond (decide (a ≥ 0))
 (cond (decide (a<=1024))
 (aE aA 204 [V.agg [V.sl e,V.sl f,V.str b,V.int .i64 a]] fun i =>
  kB i fun j =>
  some (.done (V.bool j)))
 (some (.done (V.bool false))))
 (some (.done (V.bool false))))
 (aE aA 73 [V.str b] fun k =>
  kB k fun l =>
  cond l
 (cond (Op.bytesLess g b)
 (cond (decide (a ≥ 0))
 (cond (decide (a<=1024))
 (aE aA 204 [V.agg [V.sl e,V.sl f,V.str b,V.int .i64 a]] fun m =>
  kB m fun n =>
  some (.done (V.bool n)))
 (some (.done (V.bool false))))
 (some (.done (V.bool false))))
 (some (.done (V.bool false))))
 (some (.done (V.bool false))))) fun o p =>
  kT o fun c=>bO c fun q c=>kS q fun d =>
  bO c fun r c=>kI .i64 r fun s =>
  dR c<|aE aA 73 [V.str d] fun t =>
  kB t fun u =>
  cond (!u)
 (some (.done (V.bool false)))
 (cond (Op.bytesLess d g || d==g)
 (some (.done (V.bool false)))
 (aE aA 203 [V.int .i64 s] fun v =>
  kB v fun w =>
  cond (!w)
 (some (.done (V.bool false)))
 (some (.head 0 (wq p e f b a d)))))
theorem xP (a b c d e f): Rd false 0 154 0 (wq a b c d e f) (AX a b c d e f):=rd (by kernel_rfl)
def we (a:List V) (b:List UInt8) (c:Int): S:=⟨[V.junk,V.junk,V.str [],V.ptr 0 0 0,V.junk,V.ptr 1 0 0]++(JU 57)++[V.rest [9,3] a]++(JU 21),[O.box 9 (V.str b) false,O.box 3 (V.int .i64 c) false]⟩
noncomputable def CC (b a:List V) (c:List UInt8) (d:Int): R :=
 aE aA 154 [V.agg [V.sl b,V.sl a,V.str c,V.int .i64 d]] fun f =>
 kB f fun g =>
 cond (!g)
 (some (.done (V.str [])))
 (aE aA 163 [V.agg [V.sl b,V.sl a,V.str c,V.int .i64 d]] fun h =>
  kI .i64 h fun i =>
  aE aA 160 [V.str [UInt8.ofNat ((78:Int)).toNat],V.int .i64 i] fun j =>
  kf j fun k w =>
  aE aA 161 [V.str k,V.int .i64 1,V.int .i64 1,V.int .u64 (W .u64 ((b.length:Int)))] fun l =>
  kf l fun m x =>
  aE aA 161 [V.str m,V.int .i64 2,V.int .i64 2,V.int .u64 (W .u64 (d))] fun n =>
  kf n fun o y =>
  aE aA 162 [V.str o,V.int .i64 4,V.str c] fun p =>
  iJ p fun q e z =>
  aY a 0 fun r =>
  kI .i64 r fun s =>
  aE aA 161 [V.str q,V.int .i64 e,V.int .i64 2,V.int .u64 (W .u64 (s))] fun t =>
  kf t fun u aa =>
  gd (dp 1 a) <|
  gd (decide (1<=a.length)) <|
  bh (ut [V.ref (V.sl b) 0,V.ref (V.sl ((a.take a.length).drop 1)) 0]) fun v =>
  some (.head 0 (we (v.map V.tup) u (W .i64 (e+2)))))
theorem IK (a b c d): Ep 121 [V.agg [V.sl a,V.sl b,V.str c,V.int .i64 d]] (CC a b c d):=ep (by kernel_rfl) (by kernel_rfl)
noncomputable def FE (d:List V) (b:List UInt8) (e:Int): R :=
 jJ d
 (some (.done (V.str b))) fun f g =>
  kT f fun a=>bO a fun h a=>kS h fun i =>
  bO a fun j a=>kI .i64 j fun k =>
  dR a<|aE aA 162 [V.str b,V.int .i64 e,V.str i] fun l =>
  iJ l fun m c p =>
  aE aA 161 [V.str m,V.int .i64 c,V.int .i64 2,V.int .u64 (W .u64 (k))] fun n =>
  kf n fun o q =>
  some (.head 0 (we g o (W .i64 (c+2))))
theorem MQ (a b c): Rd false 0 121 0 (we a b c) (FE a b c):=rd (by kernel_rfl)
def wj (a b:List UInt8) (c:Int) (d:Bool) (e:List UInt8) (f:Int) (g:List V): S:=⟨[V.str a,V.junk,V.ptr 0 0 0,V.int .i64 0,V.ptr 1 0 0,V.ptr 2 0 0,V.int .i64 0]++(JU 79),[O.box 150 (V.agg [V.tail 3 0,V.tail 4 0,V.str [],V.int .i64 0]) false,O.box 245 (V.agg [V.str b,V.int .i64 c,V.bool d]) false,O.box 150 (V.agg [V.nilS,V.tail 5 0,V.str e,V.int .i64 f]) false,O.row 9 [] 0,O.row 3 [] 0,O.row 3 g 0]⟩
def mI (a:List UInt8) (b:Int) (c:List UInt8) (d:Int) (e:Bool) (f:List UInt8) (g:Int) (h i:List V): S:=⟨[V.str a,V.junk,V.ptr 0 0 0,V.int .i64 0,V.ptr 1 0 0,V.ptr 2 0 0,V.int .i64 b]++(JU 79),[O.box 150 (V.agg [V.tail 3 0,V.tail 4 0,V.str [],V.int .i64 0]) false,O.box 245 (V.agg [V.str c,V.int .i64 d,V.bool e]) false,O.box 150 (V.agg [V.tail 5 0,V.tail 6 0,V.str f,V.int .i64 g]) false,O.row 9 [] 0,O.row 3 [] 0,O.row 9 h 0,O.row 3 i 0]⟩
noncomputable def ot (a:List UInt8): R :=
 cond (decide ((a.length:Int)<=4))
 (some (.done (V.tup [V.agg [V.sl [],V.sl [],V.str [],V.int .i64 0],V.int .i64 4])))
 (cond (decide ((a.length:Int) > 252))
 (some (.done (V.tup [V.agg [V.sl [],V.sl [],V.str [],V.int .i64 0],V.int .i64 4])))
 (aY a 0 fun g =>
  cond ((g.toNat:Int) != (78:Int))
 (some (.done (V.tup [V.agg [V.sl [],V.sl [],V.str [],V.int .i64 0],V.int .i64 4])))
 (aE aA 214 [V.str a,V.int .i64 2,V.int .i64 2] fun h =>
  kY h fun d i =>
  aE aA 71 [V.str a,V.int .i64 4] fun j =>
  iJ j fun e b k =>
  cond (i==(0:Int))
 (aE aA 214 [V.str a,V.int .i64 (if 4 < b then b else 4),V.int .i64 2] fun l =>
  kY l fun c m =>
  cond (k==(0:Int))
 (gd (decide (([V.int .i64 (W .i64 (c))]:List V).length<=16777216)) <|
  some (.head 0 (wj a a (W .i64 ((if 4 < b then b else 4)+2)) (m==(0:Int)) e (W .i64 (d)) [V.int .i64 (W .i64 (c))])))
 (gd (decide (([V.int .i64 (W .i64 (c))]:List V).length<=16777216)) <|
  some (.head 0 (wj a a (W .i64 ((if 4 < b then b else 4)+2)) false e (W .i64 (d)) [V.int .i64 (W .i64 (c))]))))
 (aE aA 214 [V.str a,V.int .i64 (if 4 < b then b else 4),V.int .i64 2] fun n =>
  kY n fun f o =>
  gd (decide (([V.int .i64 (W .i64 (f))]:List V).length<=16777216)) <|
  some (.head 0 (wj a a (W .i64 ((if 4 < b then b else 4)+2)) false e (W .i64 (d)) [V.int .i64 (W .i64 (f))]))))))
theorem uC (a): Ep 130 [V.str a] (ot a):=ep (by kernel_rfl) (by kernel_rfl)
noncomputable def td (b g:List UInt8) (a:Int) (i:Bool) (e:List UInt8) (f:Int) (c:List V): R :=
 cond i
 (aY b 1 fun l =>
  cond (decide (0 < W .i64 ((l.toNat:Int))))
 (aE aA 71 [V.str g,V.int .i64 a] fun m =>
  iJ m fun h d n =>
  cond i
 (gd (decide (([V.str h]:List V).length<=16777216)) <|
  aE aA 214 [V.str g,V.int .i64 (if a < d then d else a),V.int .i64 2] fun o =>
  kY o fun j p =>
  cond (n==(0:Int))
 (gd (decide (c.length+([V.int .i64 (W .i64 (j))]:List V).length<=16777216)) <|
  some (.head 0 (mI b 1 g (W .i64 ((if a < d then d else a)+2)) (p==(0:Int)) e f [V.str h] (c++[V.int .i64 (W .i64 (j))]))))
 (gd (decide (c.length+([V.int .i64 (W .i64 (j))]:List V).length<=16777216)) <|
  some (.head 0 (mI b 1 g (W .i64 ((if a < d then d else a)+2)) false e f [V.str h] (c++[V.int .i64 (W .i64 (j))])))))
 (gd (decide (([V.str h]:List V).length<=16777216)) <|
  aE aA 214 [V.str g,V.int .i64 (if a < d then d else a),V.int .i64 2] fun q =>
  kY q fun k z =>
  gd (decide (c.length+([V.int .i64 (W .i64 (k))]:List V).length<=16777216)) <|
  some (.head 0 (mI b 1 g (W .i64 ((if a < d then d else a)+2)) false e f [V.str h] (c++[V.int .i64 (W .i64 (k))])))))
 (cond (!i)
 (some (.done (V.tup [V.agg [V.sl [],V.sl [],V.str [],V.int .i64 0],V.int .i64 4])))
 (aE aA 154 [V.agg [V.sl [],V.sl c,V.str e,V.int .i64 f]] fun r =>
  kB r fun s =>
  cond (!s)
 (some (.done (V.tup [V.agg [V.sl [],V.sl [],V.str [],V.int .i64 0],V.int .i64 4])))
 (gd (decide (0<=a)) <|
  gd (decide (a.toNat<=b.length)) <|
  aE aA 176 [V.str ((b.take b.length).drop a.toNat)] fun t =>
  kS t fun u =>
  cond (!(u==[]))
 (some (.done (V.tup [V.agg [V.sl [],V.sl [],V.str [],V.int .i64 0],V.int .i64 4])))
 (some (.done (V.tup [V.agg [V.sl [],V.sl c,V.str e,V.int .i64 f],V.int .i64 0])))))))
 (cond (!i)
 (some (.done (V.tup [V.agg [V.sl [],V.sl [],V.str [],V.int .i64 0],V.int .i64 4])))
 (aE aA 154 [V.agg [V.sl [],V.sl c,V.str e,V.int .i64 f]] fun v =>
  kB v fun w =>
  cond (!w)
 (some (.done (V.tup [V.agg [V.sl [],V.sl [],V.str [],V.int .i64 0],V.int .i64 4])))
 (gd (decide (0<=a)) <|
  gd (decide (a.toNat<=b.length)) <|
  aE aA 176 [V.str ((b.take b.length).drop a.toNat)] fun x =>
  kS x fun y =>
  cond (!(y==[]))
 (some (.done (V.tup [V.agg [V.sl [],V.sl [],V.str [],V.int .i64 0],V.int .i64 4])))
 (some (.done (V.tup [V.agg [V.sl [],V.sl c,V.str e,V.int .i64 f],V.int .i64 0]))))))
theorem vu (a b c d e f g): Rd false 0 130 0 (wj a b c d e f g) (td a b c d e f g):=rd (by kernel_rfl)
noncomputable def qO (b:List UInt8) (j:Int) (h:List UInt8) (a:Int) (k:Bool) (f:List UInt8) (g:Int) (e c:List V): R :=
 cond k
 (aY b 1 fun n =>
  cond (decide (j < W .i64 ((n.toNat:Int))))
 (aE aA 71 [V.str h,V.int .i64 a] fun o =>
  iJ o fun i d p =>
  cond k
 (gd (decide (e.length+([V.str i]:List V).length<=16777216)) <|
  aE aA 214 [V.str h,V.int .i64 (if a < d then d else a),V.int .i64 2] fun q =>
  kY q fun l r =>
  cond (p==(0:Int))
 (gd (decide (c.length+([V.int .i64 (W .i64 (l))]:List V).length<=16777216)) <|
  some (.head 0 (mI b (W .i64 (j+1)) h (W .i64 ((if a < d then d else a)+2)) (r==(0:Int)) f g (e++[V.str i]) (c++[V.int .i64 (W .i64 (l))]))))
 (gd (decide (c.length+([V.int .i64 (W .i64 (l))]:List V).length<=16777216)) <|
  some (.head 0 (mI b (W .i64 (j+1)) h (W .i64 ((if a < d then d else a)+2)) false f g (e++[V.str i]) (c++[V.int .i64 (W .i64 (l))])))))
 (gd (decide (e.length+([V.str i]:List V).length<=16777216)) <|
  aE aA 214 [V.str h,V.int .i64 (if a < d then d else a),V.int .i64 2] fun s =>
  kY s fun m ab =>
  gd (decide (c.length+([V.int .i64 (W .i64 (m))]:List V).length<=16777216)) <|
  some (.head 0 (mI b (W .i64 (j+1)) h (W .i64 ((if a < d then d else a)+2)) false f g (e++[V.str i]) (c++[V.int .i64 (W .i64 (m))])))))
 (cond (!k)
 (some (.done (V.tup [V.agg [V.sl [],V.sl [],V.str [],V.int .i64 0],V.int .i64 4])))
 (aE aA 154 [V.agg [V.sl e,V.sl c,V.str f,V.int .i64 g]] fun t =>
  kB t fun u =>
  cond (!u)
 (some (.done (V.tup [V.agg [V.sl [],V.sl [],V.str [],V.int .i64 0],V.int .i64 4])))
 (gd (decide (0<=a)) <|
  gd (decide (a.toNat<=b.length)) <|
  aE aA 176 [V.str ((b.take b.length).drop a.toNat)] fun v =>
  kS v fun w =>
  cond (!(w==[]))
 (some (.done (V.tup [V.agg [V.sl [],V.sl [],V.str [],V.int .i64 0],V.int .i64 4])))
 (some (.done (V.tup [V.agg [V.sl e,V.sl c,V.str f,V.int .i64 g],V.int .i64 0])))))))
 (cond (!k)
 (some (.done (V.tup [V.agg [V.sl [],V.sl [],V.str [],V.int .i64 0],V.int .i64 4])))
 (aE aA 154 [V.agg [V.sl e,V.sl c,V.str f,V.int .i64 g]] fun x =>
  kB x fun y =>
  cond (!y)
 (some (.done (V.tup [V.agg [V.sl [],V.sl [],V.str [],V.int .i64 0],V.int .i64 4])))
 (gd (decide (0<=a)) <|
  gd (decide (a.toNat<=b.length)) <|
  aE aA 176 [V.str ((b.take b.length).drop a.toNat)] fun z =>
  kS z fun aa =>
  cond (!(aa==[]))
 (some (.done (V.tup [V.agg [V.sl [],V.sl [],V.str [],V.int .i64 0],V.int .i64 4])))
 (some (.done (V.tup [V.agg [V.sl e,V.sl c,V.str f,V.int .i64 g],V.int .i64 0]))))))
theorem qP (a b c d e f g h i): Rd false 0 130 0 (mI a b c d e f g h i) (qO a b c d e f g h i):=rd (by kernel_rfl)
noncomputable def Cx (b f:List V) (c:List UInt8) (g:Int) (a:List UInt8): R :=
 aE aA 154 [V.agg [V.sl b,V.sl f,V.str c,V.int .i64 g]] fun h =>
 kB h fun i =>
 cond (!i)
 (some (.done (V.tup [V.int .i64 0,V.int .i64 1])))
 (aE aA 73 [V.str a] fun j =>
  kB j fun k =>
  cond (!k)
 (some (.done (V.tup [V.int .i64 0,V.int .i64 1])))
 (cond (!(c==[]))
 (cond (!Op.bytesLess a c)
 (some (.done (V.tup [V.int .i64 0,V.int .i64 1])))
 (aE aA 155 [V.sl b,V.str a] fun l =>
  kW l fun d m =>
  cond m
 (some (.done (V.tup [V.int .i64 (W .i64 (d+1)),V.int .i64 0])))
 (some (.done (V.tup [V.int .i64 d,V.int .i64 0])))))
 (aE aA 155 [V.sl b,V.str a] fun n =>
  kW n fun e o =>
  cond o
 (some (.done (V.tup [V.int .i64 (W .i64 (e+1)),V.int .i64 0])))
 (some (.done (V.tup [V.int .i64 e,V.int .i64 0]))))))
theorem QY (a b c d e): Ep 114 [V.agg [V.sl a,V.sl b,V.str c,V.int .i64 d],V.str e] (Cx a b c d e):=ep (by kernel_rfl) (by kernel_rfl)
theorem QX (a b c d e): Ed 114 [V.agg [V.sl a,V.sl b,V.str c,V.int .i64 d],V.str e] (Cx a b c d e):=ed (QY a b c d e)
noncomputable def CN (j k:List V) (h:List UInt8) (i:Int) (b:List UInt8) (c:Int): R :=
 aE aA 114 [V.agg [V.sl j,V.sl k,V.str h,V.int .i64 i],V.str b] fun l =>
 wI l fun a m =>
 cond (m != (0:Int))
 (some (.done (V.tup [V.agg [V.sl [],V.sl [],V.str [],V.int .i64 0],V.int .i64 1])))
 (aE aA 203 [V.int .i64 c] fun n =>
  kB n fun o =>
  cond (!o)
 (some (.done (V.tup [V.agg [V.sl [],V.sl [],V.str [],V.int .i64 0],V.int .i64 1])))
 (cond (decide (a > 0))
 (gd (decide (0<=W .i64 (a - 1))) <|
  aY j ((W .i64 (a - 1)).toNat) fun p =>
  kS p fun q =>
  cond (q==b)
 (some (.done (V.tup [V.agg [V.sl [],V.sl [],V.str [],V.int .i64 0],V.int .i64 8])))
 (aE aA 171 [V.sl j] fun r =>
  kF 9 r fun d =>
  gd (decide (0<=a/\a.toNat<=d.length/\d.length+([V.str b]:List V).length<=16777216)) <|
  aE aA 173 [V.sl k] fun s =>
  kF 3 s fun e =>
  gd (decide (0<=W .i64 (a+1)/\(W .i64 (a+1)).toNat<=e.length/\e.length+([V.int .i64 c]:List V).length<=16777216)) <|
  aE aA 204 [V.agg [V.sl (((d.take a.toNat)++[V.str b])++(d.drop a.toNat)),V.sl (((e.take ((W .i64 (a+1)).toNat))++[V.int .i64 c])++(e.drop ((W .i64 (a+1)).toNat))),V.str h,V.int .i64 i]] fun t =>
  kB t fun u =>
  cond (!u)
 (some (.done (V.tup [V.agg [V.sl [],V.sl [],V.str [],V.int .i64 0],V.int .i64 6])))
 (some (.done (V.tup [V.agg [V.sl (((d.take a.toNat)++[V.str b])++(d.drop a.toNat)),V.sl (((e.take ((W .i64 (a+1)).toNat))++[V.int .i64 c])++(e.drop ((W .i64 (a+1)).toNat))),V.str h,V.int .i64 i],V.int .i64 0])))))
 (aE aA 171 [V.sl j] fun v =>
  kF 9 v fun f =>
  gd (decide (0<=a/\a.toNat<=f.length/\f.length+([V.str b]:List V).length<=16777216)) <|
  aE aA 173 [V.sl k] fun w =>
  kF 3 w fun g =>
  gd (decide (0<=W .i64 (a+1)/\(W .i64 (a+1)).toNat<=g.length/\g.length+([V.int .i64 c]:List V).length<=16777216)) <|
  aE aA 204 [V.agg [V.sl (((f.take a.toNat)++[V.str b])++(f.drop a.toNat)),V.sl (((g.take ((W .i64 (a+1)).toNat))++[V.int .i64 c])++(g.drop ((W .i64 (a+1)).toNat))),V.str h,V.int .i64 i]] fun x =>
  kB x fun y =>
  cond (!y)
 (some (.done (V.tup [V.agg [V.sl [],V.sl [],V.str [],V.int .i64 0],V.int .i64 6])))
 (some (.done (V.tup [V.agg [V.sl (((f.take a.toNat)++[V.str b])++(f.drop a.toNat)),V.sl (((g.take ((W .i64 (a+1)).toNat))++[V.int .i64 c])++(g.drop ((W .i64 (a+1)).toNat))),V.str h,V.int .i64 i],V.int .i64 0]))))))
theorem RF (a b c d e f): Ep 167 [V.agg [V.sl a,V.sl b,V.str c,V.int .i64 d],V.str e,V.int .i64 f] (CN a b c d e f):=ep (by kernel_rfl) (by kernel_rfl)
theorem RE (a b c d e f): Ed 167 [V.agg [V.sl a,V.sl b,V.str c,V.int .i64 d],V.str e,V.int .i64 f] (CN a b c d e f):=ed (RF a b c d e f)
noncomputable def CF (e b:List V) (f:List UInt8) (g a:Int): R :=
 aE aA 154 [V.agg [V.sl e,V.sl b,V.str f,V.int .i64 g]] fun h =>
 kB h fun i =>
 cond (!i)
 (some (.done (V.tup [V.agg [V.sl [],V.sl [],V.str [],V.int .i64 0],V.int .i64 1])))
 (cond (decide (a < 0))
 (some (.done (V.tup [V.agg [V.sl [],V.sl [],V.str [],V.int .i64 0],V.int .i64 1])))
 (cond (decide (a ≥ (b.length:Int)))
 (some (.done (V.tup [V.agg [V.sl [],V.sl [],V.str [],V.int .i64 0],V.int .i64 1])))
 (cond ((b.length:Int)==(1:Int))
 (some (.done (V.tup [V.agg [V.sl [],V.sl [],V.str [],V.int .i64 0],V.int .i64 1])))
 (aE aA 171 [V.sl e] fun j =>
  kF 9 j fun c =>
  gd (decide (0<=(if 0 < W .i64 (a - 1) then W .i64 (a - 1) else 0)/\(if 0 < W .i64 (a - 1) then W .i64 (a - 1) else 0)<=W .i64 ((if 0 < W .i64 (a - 1) then W .i64 (a - 1) else 0)+1)/\(W .i64 ((if 0 < W .i64 (a - 1) then W .i64 (a - 1) else 0)+1)).toNat<=c.length/\c.length<=16777216)) <|
  aE aA 173 [V.sl b] fun k =>
  kF 3 k fun d =>
  gd (decide (0<=a/\a<=W .i64 (a+1)/\(W .i64 (a+1)).toNat<=d.length/\d.length<=16777216)) <|
  some (.done (V.tup [V.agg [V.sl ((c.take ((if 0 < W .i64 (a - 1) then W .i64 (a - 1) else 0).toNat))++(c.drop ((W .i64 ((if 0 < W .i64 (a - 1) then W .i64 (a - 1) else 0)+1)).toNat))),V.sl ((d.take a.toNat)++(d.drop ((W .i64 (a+1)).toNat))),V.str f,V.int .i64 g],V.int .i64 0]))))))
theorem Rb (a b c d e): Ep 126 [V.agg [V.sl a,V.sl b,V.str c,V.int .i64 d],V.int .i64 e] (CF a b c d e):=ep (by kernel_rfl) (by kernel_rfl)
theorem Ra (a b c d e): Ed 126 [V.agg [V.sl a,V.sl b,V.str c,V.int .i64 d],V.int .i64 e] (CF a b c d e):=ed (Rb a b c d e)
noncomputable def CO (a b:List V) (c:List UInt8) (d e:Int): R :=
 aE aA 154 [V.agg [V.sl a,V.sl b,V.str c,V.int .i64 d]] fun g =>
 kB g fun h =>
 cond (!h)
 (some (.done (V.tup [V.agg [V.sl [],V.sl [],V.str [],V.int .i64 0],V.agg [V.sl [],V.sl [],V.str [],V.int .i64 0],V.str [],V.int .i64 1])))
 (cond (decide ((b.length:Int) < 3))
 (some (.done (V.tup [V.agg [V.sl [],V.sl [],V.str [],V.int .i64 0],V.agg [V.sl [],V.sl [],V.str [],V.int .i64 0],V.str [],V.int .i64 1])))
 (aE aA 203 [V.int .i64 e] fun i =>
  kB i fun j =>
  cond (!j)
 (some (.done (V.tup [V.agg [V.sl [],V.sl [],V.str [],V.int .i64 0],V.agg [V.sl [],V.sl [],V.str [],V.int .i64 0],V.str [],V.int .i64 1])))
 (gd (decide (0<=W .i64 (((a.length:Int).tdiv 2)))) <|
  aY a ((W .i64 (((a.length:Int).tdiv 2))).toNat) fun k =>
  kS k fun f =>
  gd (dp 1 a) <|
  gd (decide (0<=W .i64 (((a.length:Int).tdiv 2)))) <|
  gd (decide ((W .i64 (((a.length:Int).tdiv 2))).toNat<=a.length)) <|
  aE aA 171 [V.sl (a.take ((W .i64 (((a.length:Int).tdiv 2))).toNat))] fun l =>
  kF 9 l fun m =>
  gd (dp 1 b) <|
  gd (decide (0<=W .i64 ((W .i64 (((a.length:Int).tdiv 2)))+1))) <|
  gd (decide ((W .i64 ((W .i64 (((a.length:Int).tdiv 2)))+1)).toNat<=b.length)) <|
  aE aA 173 [V.sl (b.take ((W .i64 ((W .i64 (((a.length:Int).tdiv 2)))+1)).toNat))] fun n =>
  kF 3 n fun o =>
  gd (dp 1 a) <|
  gd (decide (0<=W .i64 ((W .i64 (((a.length:Int).tdiv 2)))+1))) <|
  gd (decide ((W .i64 ((W .i64 (((a.length:Int).tdiv 2)))+1)).toNat<=a.length)) <|
  aE aA 171 [V.sl ((a.take a.length).drop ((W .i64 ((W .i64 (((a.length:Int).tdiv 2)))+1)).toNat))] fun p =>
  kF 9 p fun q =>
  gd (dp 1 b) <|
  gd (decide (0<=W .i64 ((W .i64 (((a.length:Int).tdiv 2)))+1))) <|
  gd (decide ((W .i64 ((W .i64 (((a.length:Int).tdiv 2)))+1)).toNat<=b.length)) <|
  aE aA 173 [V.sl ((b.take b.length).drop ((W .i64 ((W .i64 (((a.length:Int).tdiv 2)))+1)).toNat))] fun r =>
  kF 3 r fun s =>
  some (.done (V.tup [V.agg [V.sl m,V.sl o,V.str f,V.int .i64 (W .i64 (e+1))],V.agg [V.sl q,V.sl s,V.str c,V.int .i64 d],V.str f,V.int .i64 0])))))
theorem RH (a b c d e): Ep 168 [V.agg [V.sl a,V.sl b,V.str c,V.int .i64 d],V.int .i64 e] (CO a b c d e):=ep (by kernel_rfl) (by kernel_rfl)
theorem RG (a b c d e): Ed 168 [V.agg [V.sl a,V.sl b,V.str c,V.int .i64 d],V.int .i64 e] (CO a b c d e):=ed (RH a b c d e)
noncomputable def CL (a b:List UInt8): R :=
 some (.done (V.int .i64 (W .i64 ((W .i64 (2+(a.length:Int)))+(b.length:Int)))))
theorem RD (a b): Ep 165 [V.agg [V.str a,V.str b]] (CL a b):=ep (by kernel_rfl) (by kernel_rfl)
theorem RB (a b): Ed 165 [V.agg [V.str a,V.str b]] (CL a b):=ed (RD a b)
def tX (a:Int) (b:List V) (c d:Int): S:=⟨[V.junk,V.junk,V.int .i64 0,V.int .i64 a]++(JU 7)++[V.sl b,V.int .i64 c,V.int .i64 d]++(JU 9),[]⟩
noncomputable def IZ (a:List V) (b:List UInt8) (c:Int): R :=
 some (.head 0 (tX (W .i64 (5+(b.length:Int))) a (a.length:Int) 0))
theorem Rv (a b c): Ep 159 [V.agg [V.sl a,V.str b,V.int .i64 c]] (IZ a b c):=ep (by kernel_rfl) (by kernel_rfl)
noncomputable def FN (b:Int) (c:List V) (d a:Int): R :=
 cond (decide (a < d))
 (gd (decide (0<=a)) <|
  aY c a.toNat fun e =>
  gX e fun f g =>
  aE aA 165 [V.agg [V.str f,V.str g]] fun h =>
  kI .i64 h fun i =>
  some (.head 0 (tX (W .i64 (b+i)) c d (W .i64 (a+1)))))
 (some (.done (V.int .i64 b)))
theorem MY (a b c d): Rd false 0 159 0 (tX a b c d) (FN a b c d):=rd (by kernel_rfl)
noncomputable def CB (b:List V) (a:List UInt8) (c:Int): R :=
 aE aA 159 [V.agg [V.sl b,V.str a,V.int .i64 c]] fun d =>
 kI .i64 d fun e =>
 some (.done (V.bool (decide (W .i64 ((W .i64 (e - (a.length:Int)))+16)<=252))))
theorem Q5 (a b c): Ep 118 [V.agg [V.sl a,V.str b,V.int .i64 c]] (CB a b c):=ep (by kernel_rfl) (by kernel_rfl)
theorem Q4 (a b c): Ed 118 [V.agg [V.sl a,V.str b,V.int .i64 c]] (CB a b c):=ed (Q5 a b c)
def v8 (a:List UInt8) (b:List V) (c d:Int) (e:List V) (f:List UInt8) (g:Int): S:=⟨[V.junk,V.ptr 0 0 0,V.bool false,V.str a]++(JU 4)++[V.sl b,V.int .i64 c,V.int .i64 d]++(JU 51),[O.box 120 (V.agg [V.sl e,V.str f,V.int .i64 g]) false]⟩
noncomputable def IH (a:List V) (b:List UInt8) (c:Int): R :=
 some (.head 0 (v8 [] a (a.length:Int) 0 a b c))
theorem QZ (a b c): Ep 115 [V.agg [V.sl a,V.str b,V.int .i64 c]] (IH a b c):=ep (by kernel_rfl) (by kernel_rfl)
noncomputable def AT (e:List UInt8) (g:List V) (h c:Int) (f:List V) (b:List UInt8) (a:Int): R :=
 cond (decide (c < h))
 (gd (decide (0<=c)) <|
  aY g c.toNat fun i =>
  gX i fun d j =>
  aE aA 73 [V.str d] fun k =>
  kB k fun l =>
  cond (!l)
 (some (.done (V.bool false)))
 (aE aA 74 [V.str j] fun m =>
  kB m fun n =>
  cond (!n)
 (some (.done (V.bool false)))
 (cond (Op.bytesLess d e || d==e)
 (some (.done (V.bool false)))
 (some (.head 0 (v8 d g h (W .i64 (c+1)) f b a))))))
 (cond (b==[])
 (cond (decide (a ≥ 0))
 (cond (decide (a<=1024))
 (aE aA 118 [V.agg [V.sl f,V.str b,V.int .i64 a]] fun o =>
  kB o fun p =>
  some (.done (V.bool p)))
 (some (.done (V.bool false))))
 (some (.done (V.bool false))))
 (aE aA 73 [V.str b] fun q =>
  kB q fun r =>
  cond r
 (cond (Op.bytesLess e b)
 (cond (decide (a ≥ 0))
 (cond (decide (a<=1024))
 (aE aA 118 [V.agg [V.sl f,V.str b,V.int .i64 a]] fun s =>
  kB s fun t =>
  some (.done (V.bool t)))
 (some (.done (V.bool false))))
 (some (.done (V.bool false))))
 (some (.done (V.bool false))))
 (some (.done (V.bool false)))))
theorem xI (a b c d e f g): Rd false 0 115 0 (v8 a b c d e f g) (AT a b c d e f g):=rd (by kernel_rfl)
def wb (a:List UInt8) (b:Int) (c:List V) (d e:Int): S:=⟨[V.junk,V.junk,V.str [],V.str a,V.junk,V.int .i64 b]++(JU 40)++[V.sl c,V.int .i64 d,V.int .i64 e]++(JU 23),[]⟩
noncomputable def IJ (a:List V) (b:List UInt8) (c:Int): R :=
 aE aA 115 [V.agg [V.sl a,V.str b,V.int .i64 c]] fun d =>
 kB d fun e =>
 cond (!e)
 (some (.done (V.str [])))
 (aE aA 159 [V.agg [V.sl a,V.str b,V.int .i64 c]] fun f =>
  kI .i64 f fun g =>
  aE aA 160 [V.str [UInt8.ofNat ((76:Int)).toNat],V.int .i64 g] fun h =>
  kf h fun i q =>
  aE aA 161 [V.str i,V.int .i64 1,V.int .i64 1,V.int .u64 (W .u64 ((a.length:Int)))] fun j =>
  kf j fun k r =>
  aE aA 161 [V.str k,V.int .i64 2,V.int .i64 2,V.int .u64 (W .u64 (c))] fun l =>
  kf l fun m s =>
  aE aA 162 [V.str m,V.int .i64 4,V.str b] fun n =>
  iJ n fun o p t =>
  some (.head 0 (wb o p a (a.length:Int) 0)))
theorem Q7 (a b c): Ep 120 [V.agg [V.sl a,V.str b,V.int .i64 c]] (IJ a b c):=ep (by kernel_rfl) (by kernel_rfl)
noncomputable def FD (b:List UInt8) (e:Int) (c:List V) (d a:Int): R :=
 cond (decide (a < d))
 (gd (decide (0<=a)) <|
  aY c a.toNat fun f =>
  gX f fun g h =>
  aE aA 162 [V.str b,V.int .i64 e,V.str g] fun i =>
  iJ i fun j k o =>
  aE aA 162 [V.str j,V.int .i64 k,V.str h] fun l =>
  iJ l fun m n p =>
  some (.head 0 (wb m n c d (W .i64 (a+1)))))
 (some (.done (V.str b)))
theorem MP (a b c d e): Rd false 0 120 0 (wb a b c d e) (FD a b c d e):=rd (by kernel_rfl)
def BR (a:List UInt8) (b c:Int) (d:List UInt8) (e:Int): S:=⟨[V.str a,V.junk,V.ptr 0 0 0,V.int .i64 0,V.bool false,V.int .u64 b]++(JU 4)++[V.int .i64 c,V.junk,V.ptr 1 0 0,V.bool true]++(JU 75),[O.box 120 (V.agg [V.tail 2 0,V.str [],V.int .i64 0]) false,O.box 120 (V.agg [V.nilS,V.str d,V.int .i64 e]) false,O.row 41 [] 0]⟩
def Hy (a:List UInt8) (b c d:Int) (e:List UInt8) (f:Int): S:=⟨[V.str a,V.junk,V.ptr 0 0 0,V.int .i64 0,V.bool false,V.int .u64 b]++(JU 4)++[V.int .i64 c,V.junk,V.ptr 1 0 0,V.bool true]++(JU 42)++[V.int .u64 d,V.int .u64 0]++(JU 31),[O.box 120 (V.agg [V.tail 2 0,V.str [],V.int .i64 0]) false,O.box 120 (V.agg [V.nilS,V.str e,V.int .i64 f]) false,O.row 41 [] 0]⟩
def oa (a:List UInt8) (b c d e:Int) (f:List UInt8) (g:Int) (h i:List UInt8): S:=⟨[V.str a,V.junk,V.ptr 0 0 0,V.int .i64 0,V.bool false,V.int .u64 b]++(JU 4)++[V.int .i64 c,V.junk,V.ptr 1 0 0,V.bool true,V.ptr 2 0 0]++(JU 41)++[V.int .u64 d,V.int .u64 0,V.junk,V.junk,V.junk,V.agg [V.ptr 2 0 0,V.ptr 2 0 1],V.int .i64 e]++(JU 26),[O.box 120 (V.agg [V.tail 3 0,V.str [],V.int .i64 0]) false,O.box 120 (V.agg [V.nilS,V.str f,V.int .i64 g]) false,O.box 41 (V.agg [V.str h,V.str i]) false,O.row 41 [] 0]⟩
def yH (a:List UInt8) (b c d e:Int) (f:List UInt8) (g:Int) (h:List V): S:=⟨[V.str a,V.junk,V.ptr 0 0 0,V.int .i64 0,V.bool false,V.int .u64 b]++(JU 4)++[V.int .i64 c,V.junk,V.ptr 1 0 0,V.bool true]++(JU 42)++[V.int .u64 d,V.int .u64 e]++(JU 31),[O.box 120 (V.agg [V.tail 2 0,V.str [],V.int .i64 0]) false,O.box 120 (V.agg [V.tail 3 0,V.str f,V.int .i64 g]) false,O.row 41 [] 0,O.row 41 h 0]⟩
def oc (a:List UInt8) (b c d e f:Int) (g:List UInt8) (h:Int) (i j:List UInt8) (k:List V): S:=⟨[V.str a,V.junk,V.ptr 0 0 0,V.int .i64 0,V.bool false,V.int .u64 b]++(JU 4)++[V.int .i64 c,V.junk,V.ptr 1 0 0,V.bool true,V.ptr 2 0 0]++(JU 41)++[V.int .u64 d,V.int .u64 e,V.junk,V.junk,V.junk,V.agg [V.ptr 2 0 0,V.ptr 2 0 1],V.int .i64 f]++(JU 26),[O.box 120 (V.agg [V.tail 3 0,V.str [],V.int .i64 0]) false,O.box 120 (V.agg [V.tail 4 0,V.str g,V.int .i64 h]) false,O.box 41 (V.agg [V.str i,V.str j]) false,O.row 41 [] 0,O.row 41 k 0]⟩
noncomputable def CP (a:List UInt8): R :=
 aE aA 214 [V.str a,V.int .i64 1,V.int .i64 1] fun b =>
 kY b fun c d =>
 aE aA 214 [V.str a,V.int .i64 2,V.int .i64 2] fun e =>
 kY e fun f g =>
 aE aA 71 [V.str a,V.int .i64 4] fun h =>
 iJ h fun i j k =>
 cond (d != (0:Int))
 (some (.done (V.tup [V.agg [V.sl [],V.str [],V.int .i64 0],V.int .i64 0,V.bool false])))
 (cond (g != (0:Int))
 (some (.done (V.tup [V.agg [V.sl [],V.str [],V.int .i64 0],V.int .i64 0,V.bool false])))
 (cond (k != (0:Int))
 (some (.done (V.tup [V.agg [V.sl [],V.str [],V.int .i64 0],V.int .i64 0,V.bool false])))
 (aY a 0 fun l =>
  cond ((l.toNat:Int) != (76:Int))
 (some (.done (V.tup [V.agg [V.sl [],V.str [],V.int .i64 0],V.int .i64 0,V.bool false])))
 (some (.head 0 (BR a c j i (W .i64 (f))))))))
theorem I3 (a): Ep 175 [V.str a] (CP a):=ep (by kernel_rfl) (by kernel_rfl)
noncomputable def Yc (b:List UInt8) (a c:Int) (d:List UInt8) (e:Int): R :=
 some (.head 1 (Hy b a c a d e))
theorem Yd (a b c d e): Rd false 0 175 0 (BR a b c d e) (Yc a b c d e):=rd (by kernel_rfl)
noncomputable def FS (e:List UInt8) (f a b:Int) (c:List UInt8) (d:Int): R :=
 cond (decide (0 < b))
 (some (.head 2 (oa e f a b 0 c d [] [])))
 (some (.done (V.tup [V.agg [V.sl [],V.str c,V.int .i64 d],V.int .i64 a,V.bool true])))
theorem M4 (a b c d e f): Rd false 0 175 1 (Hy a b c d e f) (FS a b c d e f):=rd (by kernel_rfl)
noncomputable def M6 (a:List UInt8) (e b f:Int) (c:List UInt8) (d:Int) (l g:List UInt8): R :=
 aE aA 71 [V.str a,V.int .i64 b] fun h =>
 iJ h fun i j k =>
 cond (k != (0:Int))
 (some (.done (V.tup [V.agg [V.sl [],V.str c,V.int .i64 d],V.int .i64 b,V.bool false])))
 (some (.head 2 (oa a e j f 1 c d i g)))
theorem Ye (a b c d e f g h): Rd false 0 175 2 (oa a b c d 0 e f g h) (M6 a b c d e f g h):=rd (by kernel_rfl)
noncomputable def M7 (a:List UInt8) (e b f:Int) (c:List UInt8) (d:Int) (g l:List UInt8): R :=
 aE aA 71 [V.str a,V.int .i64 b] fun h =>
 iJ h fun i j k =>
 cond (k != (0:Int))
 (some (.done (V.tup [V.agg [V.sl [],V.str c,V.int .i64 d],V.int .i64 b,V.bool false])))
 (some (.head 2 (oa a e j f 2 c d g i)))
theorem Yf (a b c d e f g h): Rd false 0 175 2 (oa a b c d 1 e f g h) (M7 a b c d e f g h):=rd (by kernel_rfl)
noncomputable def M8 (c:List UInt8) (d e f:Int) (g:List UInt8) (h:Int) (a b:List UInt8): R :=
 gd (decide (([V.agg [V.str a,V.str b]]:List V).length<=16777216)) <|
 some (.head 1 (yH c d e f (W .u64 (0+1)) g h [V.agg [V.str a,V.str b]]))
theorem Yg (a b c d e f g h): Rd false 0 175 2 (oa a b c d 2 e f g h) (M8 a b c d e f g h):=rd (by kernel_rfl)
noncomputable def FT (g:List UInt8) (h a b c:Int) (d:List UInt8) (e:Int) (f:List V): R :=
 cond (decide (c < b))
 (some (.head 2 (oc g h a b c 0 d e [] [] f)))
 (some (.done (V.tup [V.agg [V.sl f,V.str d,V.int .i64 e],V.int .i64 a,V.bool true])))
theorem M5 (a b c d e f g h): Rd false 0 175 1 (yH a b c d e f g h) (FT a b c d e f g h):=rd (by kernel_rfl)
noncomputable def M9 (a:List UInt8) (f b g h:Int) (c:List UInt8) (d:Int) (n i:List UInt8) (e:List V): R :=
 aE aA 71 [V.str a,V.int .i64 b] fun j =>
 iJ j fun k l m =>
 cond (m != (0:Int))
 (some (.done (V.tup [V.agg [V.sl e,V.str c,V.int .i64 d],V.int .i64 b,V.bool false])))
 (some (.head 2 (oc a f l g h 1 c d k i e)))
theorem Yh (a b c d e f g h i j): Rd false 0 175 2 (oc a b c d e 0 f g h i j) (M9 a b c d e f g h i j):=rd (by kernel_rfl)
noncomputable def Na (a:List UInt8) (f b g h:Int) (c:List UInt8) (d:Int) (i n:List UInt8) (e:List V): R :=
 aE aA 71 [V.str a,V.int .i64 b] fun j =>
 iJ j fun k l m =>
 cond (m != (0:Int))
 (some (.done (V.tup [V.agg [V.sl e,V.str c,V.int .i64 d],V.int .i64 b,V.bool false])))
 (some (.head 2 (oc a f l g h 2 c d i k e)))
theorem Yi (a b c d e f g h i j): Rd false 0 175 2 (oc a b c d e 1 f g h i j) (Na a b c d e f g h i j):=rd (by kernel_rfl)
noncomputable def Nb (d:List UInt8) (e f g h:Int) (i:List UInt8) (j:Int) (a b:List UInt8) (c:List V): R :=
 gd (decide (c.length+([V.agg [V.str a,V.str b]]:List V).length<=16777216)) <|
 some (.head 1 (yH d e f g (W .u64 (h+1)) i j (c++[V.agg [V.str a,V.str b]])))
theorem Yj (a b c d e f g h i j): Rd false 0 175 2 (oc a b c d e 2 f g h i j) (Nb a b c d e f g h i j):=rd (by kernel_rfl)
noncomputable def zq (a:List UInt8): R :=
 cond (decide ((a.length:Int) > 252))
 (some (.done (V.tup [V.agg [V.sl [],V.str [],V.int .i64 0],V.int .i64 4])))
 (aE aA 175 [V.str a] fun f =>
  zh f fun c d e b g =>
  cond (!g)
 (some (.done (V.tup [V.agg [V.sl [],V.str [],V.int .i64 0],V.int .i64 4])))
 (aE aA 115 [V.agg [V.sl c,V.str d,V.int .i64 e]] fun h =>
  kB h fun i =>
  cond (!i)
 (some (.done (V.tup [V.agg [V.sl [],V.str [],V.int .i64 0],V.int .i64 4])))
 (gd (decide (0<=b)) <|
  gd (decide (b.toNat<=a.length)) <|
  aE aA 176 [V.str ((a.take a.length).drop b.toNat)] fun j =>
  kS j fun k =>
  cond (!(k==[]))
 (some (.done (V.tup [V.agg [V.sl [],V.str [],V.int .i64 0],V.int .i64 4])))
 (some (.done (V.tup [V.agg [V.sl c,V.str d,V.int .i64 e],V.int .i64 0]))))))
theorem Rh (a): Ep 129 [V.str a] (zq a):=ep (by kernel_rfl) (by kernel_rfl)
theorem IR (a): Ed 129 [V.str a] (zq a):=ed (Rh a)
noncomputable def Cy (a:List V) (f:List UInt8) (g:Int) (b:List UInt8): R :=
 aE aA 156 [V.sl a,V.str b,V.fn 157 []] fun c =>
 kW c fun d e =>
 some (.done (V.tup [V.int .i64 d,V.bool e]))
theorem Q1 (a b c d): Ep 116 [V.agg [V.sl a,V.str b,V.int .i64 c],V.str d] (Cy a b c d):=ep (by kernel_rfl) (by kernel_rfl)
theorem Q0 (a b c d): Ed 116 [V.agg [V.sl a,V.str b,V.int .i64 c],V.str d] (Cy a b c d):=ed (Q1 a b c d)
noncomputable def Cz (b:List V) (a d:Int) (c:List V): R :=
 gd (decide (0<=a)) <|
 gd (decide (a<=W .i64 ((b.length:Int)+(c.length:Int)))) <|
 gd (decide ((W .i64 ((b.length:Int)+(c.length:Int))).toNat<=16777216)) <|
 gd (dp 2 b) <|
 gd (decide (0<=a)) <|
 gd (decide (a.toNat<=b.length)) <|
 gd (dp 2 (b.take a.toNat)) <|
 gd (decide (0+((bE a.toNat (V.agg [V.str [],V.str []])).length)<=(bE a.toNat (V.agg [V.str [],V.str []])).length)) <|
 gd (dp 2 c) <|
 gd (decide (((bE a.toNat (V.agg [V.str [],V.str []])).take 0++(b.take a.toNat).take (min (b.take a.toNat).length ((bE a.toNat (V.agg [V.str [],V.str []])).length))++(bE a.toNat (V.agg [V.str [],V.str []])).drop (0+min (b.take a.toNat).length ((bE a.toNat (V.agg [V.str [],V.str []])).length))).length+c.length<=16777216)) <|
 gd (dp 2 b) <|
 gd (decide (0<=d)) <|
 gd (decide (d.toNat<=b.length)) <|
 gd (dp 2 ((b.take b.length).drop d.toNat)) <|
 gd (decide ((((bE a.toNat (V.agg [V.str [],V.str []])).take 0++(b.take a.toNat).take (min (b.take a.toNat).length ((bE a.toNat (V.agg [V.str [],V.str []])).length))++(bE a.toNat (V.agg [V.str [],V.str []])).drop (0+min (b.take a.toNat).length ((bE a.toNat (V.agg [V.str [],V.str []])).length)))++c).length+((b.take b.length).drop d.toNat).length<=16777216)) <|
 gd (((((bE a.toNat (V.agg [V.str [],V.str []])).take 0++(b.take a.toNat).take (min (b.take a.toNat).length ((bE a.toNat (V.agg [V.str [],V.str []])).length))++(bE a.toNat (V.agg [V.str [],V.str []])).drop (0+min (b.take a.toNat).length ((bE a.toNat (V.agg [V.str [],V.str []])).length)))++c)++((b.take b.length).drop d.toNat):List V).all fun e=>e.cells.all V.flat1) <|
 some (.done (V.fr 41 ((((bE a.toNat (V.agg [V.str [],V.str []])).take 0++(b.take a.toNat).take (min (b.take a.toNat).length ((bE a.toNat (V.agg [V.str [],V.str []])).length))++(bE a.toNat (V.agg [V.str [],V.str []])).drop (0+min (b.take a.toNat).length ((bE a.toNat (V.agg [V.str [],V.str []])).length)))++c)++((b.take b.length).drop d.toNat))))
theorem Q3 (a b c d): Ep 117 [V.sl a,V.int .i64 b,V.int .i64 c,V.sl d] (Cz a b c d):=ep (by kernel_rfl) (by kernel_rfl)
theorem Q2 (a b c d): Ed 117 [V.sl a,V.int .i64 b,V.int .i64 c,V.sl d] (Cz a b c d):=ed (Q3 a b c d)
noncomputable def C6 (a:List V) (b:List UInt8) (c:Int) (e:List UInt8): R :=
 aE aA 115 [V.agg [V.sl a,V.str b,V.int .i64 c]] fun f =>
 kB f fun g =>
 cond (!g)
 (some (.done (V.tup [V.str [],V.int .i64 1])))
 (aE aA 116 [V.agg [V.sl a,V.str b,V.int .i64 c],V.str e] fun h =>
  kW h fun d i =>
  cond (!i)
 (some (.done (V.tup [V.str [],V.int .i64 7])))
 (gd (decide (0<=d)) <|
  aY a d.toNat fun j =>
  gX j fun l k =>
  some (.done (V.tup [V.str k,V.int .i64 0]))))
theorem Sy (a b c d): Ep 76 [V.agg [V.sl a,V.str b,V.int .i64 c],V.str d] (C6 a b c d):=ep (by kernel_rfl) (by kernel_rfl)
theorem Sx (a b c d): Ed 76 [V.agg [V.sl a,V.str b,V.int .i64 c],V.str d] (C6 a b c d):=ed (Sy a b c d)
noncomputable def C7 (d:List V) (a:List UInt8) (b:Int) (c e:List UInt8): R :=
 aE aA 115 [V.agg [V.sl d,V.str a,V.int .i64 b]] fun l =>
 kB l fun m =>
 cond (!m)
 (some (.done (V.tup [V.agg [V.sl [],V.str [],V.int .i64 0],V.int .i64 1])))
 (aE aA 73 [V.str c] fun n =>
  kB n fun o =>
  cond (!o)
 (some (.done (V.tup [V.agg [V.sl [],V.str [],V.int .i64 0],V.int .i64 1])))
 (aE aA 74 [V.str e] fun p =>
  kB p fun q =>
  cond (!q)
 (some (.done (V.tup [V.agg [V.sl [],V.str [],V.int .i64 0],V.int .i64 1])))
 (cond (!(a==[]))
 (cond (!Op.bytesLess c a)
 (some (.done (V.tup [V.agg [V.sl [],V.str [],V.int .i64 0],V.int .i64 1])))
 (aE aA 116 [V.agg [V.sl d,V.str a,V.int .i64 b],V.str c] fun r =>
  kW r fun f s =>
  cond s
 (aE aA 117 [V.sl d,V.int .i64 f,V.int .i64 (W .i64 (f+1)),V.sl [V.agg [V.str c,V.str e]]] fun t =>
  kF 41 t fun h =>
  aE aA 118 [V.agg [V.sl h,V.str a,V.int .i64 b]] fun u =>
  kB u fun v =>
  cond (!v)
 (some (.done (V.tup [V.agg [V.sl [],V.str [],V.int .i64 0],V.int .i64 6])))
 (some (.done (V.tup [V.agg [V.sl h,V.str a,V.int .i64 b],V.int .i64 0]))))
 (aE aA 117 [V.sl d,V.int .i64 f,V.int .i64 f,V.sl [V.agg [V.str c,V.str e]]] fun w =>
  kF 41 w fun i =>
  aE aA 118 [V.agg [V.sl i,V.str a,V.int .i64 b]] fun x =>
  kB x fun y =>
  cond (!y)
 (some (.done (V.tup [V.agg [V.sl [],V.str [],V.int .i64 0],V.int .i64 6])))
 (some (.done (V.tup [V.agg [V.sl i,V.str a,V.int .i64 b],V.int .i64 0]))))))
 (aE aA 116 [V.agg [V.sl d,V.str a,V.int .i64 b],V.str c] fun z =>
  kW z fun g aa =>
  cond aa
 (aE aA 117 [V.sl d,V.int .i64 g,V.int .i64 (W .i64 (g+1)),V.sl [V.agg [V.str c,V.str e]]] fun ab =>
  kF 41 ab fun j =>
  aE aA 118 [V.agg [V.sl j,V.str a,V.int .i64 b]] fun ac =>
  kB ac fun ad =>
  cond (!ad)
 (some (.done (V.tup [V.agg [V.sl [],V.str [],V.int .i64 0],V.int .i64 6])))
 (some (.done (V.tup [V.agg [V.sl j,V.str a,V.int .i64 b],V.int .i64 0]))))
 (aE aA 117 [V.sl d,V.int .i64 g,V.int .i64 g,V.sl [V.agg [V.str c,V.str e]]] fun ae =>
  kF 41 ae fun k =>
  aE aA 118 [V.agg [V.sl k,V.str a,V.int .i64 b]] fun af =>
  kB af fun ag =>
  cond (!ag)
 (some (.done (V.tup [V.agg [V.sl [],V.str [],V.int .i64 0],V.int .i64 6])))
 (some (.done (V.tup [V.agg [V.sl k,V.str a,V.int .i64 b],V.int .i64 0]))))))))
theorem SA (a b c d e): Ep 77 [V.agg [V.sl a,V.str b,V.int .i64 c],V.str d,V.str e] (C7 a b c d e):=ep (by kernel_rfl) (by kernel_rfl)
theorem Sz (a b c d e): Ed 77 [V.agg [V.sl a,V.str b,V.int .i64 c],V.str d,V.str e] (C7 a b c d e):=ed (SA a b c d e)
noncomputable def C8 (a:List V) (b:List UInt8) (c:Int) (e:List UInt8): R :=
 aE aA 115 [V.agg [V.sl a,V.str b,V.int .i64 c]] fun f =>
 kB f fun g =>
 cond (!g)
 (some (.done (V.tup [V.agg [V.sl [],V.str [],V.int .i64 0],V.int .i64 1])))
 (aE aA 116 [V.agg [V.sl a,V.str b,V.int .i64 c],V.str e] fun h =>
  kW h fun d i =>
  cond (!i)
 (some (.done (V.tup [V.agg [V.sl [],V.str [],V.int .i64 0],V.int .i64 7])))
 (aE aA 117 [V.sl a,V.int .i64 d,V.int .i64 (W .i64 (d+1)),V.sl []] fun j =>
  kF 41 j fun k =>
  some (.done (V.tup [V.agg [V.sl k,V.str b,V.int .i64 c],V.int .i64 0]))))
theorem SF (a b c d): Ep 80 [V.agg [V.sl a,V.str b,V.int .i64 c],V.str d] (C8 a b c d):=ep (by kernel_rfl) (by kernel_rfl)
theorem SE (a b c d): Ed 80 [V.agg [V.sl a,V.str b,V.int .i64 c],V.str d] (C8 a b c d):=ed (SF a b c d)
def pD (a b c d:Int) (e:List V) (f:List UInt8) (g:Int): S:=⟨[V.junk,V.int .i64 a,V.ptr 0 0 0,V.junk,V.ptr 1 0 0,V.ptr 2 0 0,V.int .i64 0,V.int .i64 b,V.int .i64 c,V.int .i64 d]++(JU 82),[O.box 120 (V.agg [V.sl e,V.str f,V.int .i64 g]) false,O.box 120 (V.agg [V.tail 3 0,V.str [],V.int .i64 0]) false,O.box 120 (V.agg [V.tail 4 0,V.str [],V.int .i64 0]) false,O.row 41 [] 0,O.row 41 [] 0]⟩
noncomputable def IM (a:List V) (b:List UInt8) (c d:Int): R :=
 aE aA 115 [V.agg [V.sl a,V.str b,V.int .i64 c]] fun e =>
 kB e fun f =>
 cond (!f)
 (some (.done (V.tup [V.agg [V.sl [],V.str [],V.int .i64 0],V.agg [V.sl [],V.str [],V.int .i64 0],V.int .i64 1])))
 (cond (decide ((a.length:Int) < 2))
 (some (.done (V.tup [V.agg [V.sl [],V.str [],V.int .i64 0],V.agg [V.sl [],V.str [],V.int .i64 0],V.int .i64 1])))
 (cond (decide (d < 0))
 (some (.done (V.tup [V.agg [V.sl [],V.str [],V.int .i64 0],V.agg [V.sl [],V.str [],V.int .i64 0],V.int .i64 1])))
 (cond (decide (d ≥ 1024))
 (some (.done (V.tup [V.agg [V.sl [],V.str [],V.int .i64 0],V.agg [V.sl [],V.str [],V.int .i64 0],V.int .i64 1])))
 (aE aA 159 [V.agg [V.sl a,V.str b,V.int .i64 c]] fun g =>
  kI .i64 g fun h =>
  some (.head 0 (pD d (W .i64 ((W .i64 ((W .i64 (h - 4)) - 1)) - (b.length:Int))) 0 0 a b c))))))
theorem Q8 (a b c d): Ep 122 [V.agg [V.sl a,V.str b,V.int .i64 c],V.int .i64 d] (IM a b c d):=ep (by kernel_rfl) (by kernel_rfl)
noncomputable def xJ (c f a g:Int) (b:List V) (d:List UInt8) (e:Int): R :=
 cond (decide (a < W .i64 ((b.length:Int) - 1)))
 (cond (a==(0:Int))
 (gd (decide (0<=a)) <|
  aY b a.toNat fun h =>
  gX h fun i j =>
  aE aA 165 [V.agg [V.str i,V.str j]] fun k =>
  kI .i64 k fun l =>
  some (.head 0 (pD c f (W .i64 (a+1)) (W .i64 (g+l)) b d e)))
 (cond (decide (W .i64 (2 * g) < f))
 (gd (decide (0<=a)) <|
  aY b a.toNat fun m =>
  gX m fun n o =>
  aE aA 165 [V.agg [V.str n,V.str o]] fun p =>
  kI .i64 p fun q =>
  some (.head 0 (pD c f (W .i64 (a+1)) (W .i64 (g+q)) b d e)))
 (aE aA 117 [V.sl b,V.int .i64 a,V.int .i64 (b.length:Int),V.sl []] fun r =>
  kF 41 r fun s =>
  gd (decide (0<=a)) <|
  aY b a.toNat fun t =>
  gX t fun u ad =>
  aE aA 117 [V.sl b,V.int .i64 0,V.int .i64 a,V.sl []] fun v =>
  kF 41 v fun w =>
  some (.done (V.tup [V.agg [V.sl s,V.str u,V.int .i64 (W .i64 (c+1))],V.agg [V.sl w,V.str d,V.int .i64 e],V.int .i64 0])))))
 (aE aA 117 [V.sl b,V.int .i64 a,V.int .i64 (b.length:Int),V.sl []] fun x =>
  kF 41 x fun y =>
  gd (decide (0<=a)) <|
  aY b a.toNat fun z =>
  gX z fun aa ae =>
  aE aA 117 [V.sl b,V.int .i64 0,V.int .i64 a,V.sl []] fun ab =>
  kF 41 ab fun ac =>
  some (.done (V.tup [V.agg [V.sl y,V.str aa,V.int .i64 (W .i64 (c+1))],V.agg [V.sl ac,V.str d,V.int .i64 e],V.int .i64 0])))
theorem AU (a b c d e f g): Rd false 0 122 0 (pD a b c d e f g) (xJ a b c d e f g):=rd (by kernel_rfl)
noncomputable def CQ (a:Int): R :=
 gd (decide (0<=a.tmod 8)) <|
 gd (decide ((a.tmod 8).toNat < 8)) <|
 aY [V.int .u8 1,V.int .u8 2,V.int .u8 4,V.int .u8 8,V.int .u8 16,V.int .u8 32,V.int .u8 64,V.int .u8 128] ((a.tmod 8).toNat) fun b =>
 kI .u8 b fun c =>
 some (.done (V.int .u8 c))
theorem RQ (a): Ep 193 [V.int .i64 a] (CQ a):=ep (by kernel_rfl) (by kernel_rfl)
theorem RP (a): Ed 193 [V.int .i64 a] (CQ a):=ed (RQ a)
def yG (a:List V) (b c:Int) (d:List V): S:=⟨[V.sl a,V.int .i64 b,V.junk,V.junk,V.own 0,V.own 1,V.int .i64 c]++(JU 38),[O.row 38 [] 0,O.row 38 d 0]⟩
noncomputable def Ro (a:List V) (b:Int): R :=
 some (.head 0 (yG a b 0 []))
theorem Rp (a b): Ep 14 [V.sl a,V.int .i64 b] (Ro a b):=ep (by kernel_rfl) (by kernel_rfl)
noncomputable def FK (e:List V) (g d:Int) (c:List V): R :=
 cond (decide (d < (e.length:Int)))
 (cond (decide (d < g))
 (gd (decide (0<=d)) <|
  aY e d.toNat fun j =>
  pQ j fun h a b i =>
  gd (decide (0<=(if 20 < (a.length:Int) then 20 else (a.length:Int)))) <|
  gd (decide ((if 20 < (a.length:Int) then 20 else (a.length:Int)).toNat<=a.length)) <|
  gd (decide (0<=(if 40 < (b.length:Int) then 40 else (b.length:Int)))) <|
  gd (decide ((if 40 < (b.length:Int) then 40 else (b.length:Int)).toNat<=b.length)) <|
  gd (decide (c.length+([V.agg [V.int .i64 h,V.str (a.take ((if 20 < (a.length:Int) then 20 else (a.length:Int)).toNat)),V.str (b.take ((if 40 < (b.length:Int) then 40 else (b.length:Int)).toNat)),V.int .i64 i]]:List V).length<=16777216)) <|
  some (.head 0 (yG e g (W .i64 (d+1)) (c++[V.agg [V.int .i64 h,V.str (a.take ((if 20 < (a.length:Int) then 20 else (a.length:Int)).toNat)),V.str (b.take ((if 40 < (b.length:Int) then 40 else (b.length:Int)).toNat)),V.int .i64 i]]))))
 (gd ((c:List V).all fun f=>f.cells.all V.flat1) <|
  some (.done (V.fr 38 c))))
 (gd ((c:List V).all fun f=>f.cells.all V.flat1) <|
  some (.done (V.fr 38 c)))
theorem MX (a b c d): Rd false 0 14 0 (yG a b c d) (FK a b c d):=rd (by kernel_rfl)
noncomputable def Jl (c:Int) (b:List (V × V)) (d:List V): R :=
 aT aA aH oI 131 [V.ptr 0 0 0,V.int .i64 0] (bm c d) fun a =>
 cond (a.2.1==(0:Int))
 (bh (ix b (V.int .i64 a.1) (V.str [])) fun e =>
  some (.doneM (V.tup [V.int .i64 a.1,V.int .i64 a.2.1]) (sm a.2.2.1 e a.2.2.2)))
 (some (.doneM (V.tup [V.int .i64 a.1,V.int .i64 a.2.1]) (sm a.2.2.1 b a.2.2.2)))
theorem SH (a b c): Ec 84 4 aH [V.ptr 0 0 0] (sm a b c) (Jl a b c):=ec (by kernel_rfl) (by kernel_rfl)
noncomputable def Jm (c:Int) (b:List (V × V)) (d:List V): R :=
 aT aA aH oI 131 [V.ptr 0 0 0,V.int .i64 0] [O.box 192 (V.agg [V.tail 1 0,V.int .i64 c]) false,O.row 5 d 0] fun a =>
 cond (a.2.1==(0:Int))
 (bh (ix b (V.int .i64 a.1) (V.str [])) fun e =>
  some (.doneM (V.tup [V.int .i64 a.1,V.int .i64 a.2.1]) (sm a.2.2.1 e a.2.2.2)))
 (some (.doneM (V.tup [V.int .i64 a.1,V.int .i64 a.2.1]) (sm a.2.2.1 b a.2.2.2)))
theorem SI (a b c): Ec 84 4 aH [V.ptr 0 0 0] [O.box 140 (V.agg [V.ptr 1 0 0,V.mp 2]) false,O.box 192 (V.agg [V.tail 3 0,V.int .i64 a]) false,O.map b,O.row 5 c 0] (Jm a b c):=ec (by kernel_rfl) (by kernel_rfl)
noncomputable def Ji (e:Int) (b:List V) (c:List UInt8) (d f g:Int) (h:List (V × V)) (i:List V): R :=
 aE aA 120 [V.agg [V.sl b,V.str c,V.int .i64 d]] fun j =>
 kS j fun k =>
 aT aA aH qu 119 [V.ptr 0 0 0,V.int .i64 e,V.str k] (sm g h i) fun a =>
 some (.doneM (V.tup []) (tm f a.2.1 a.2.2.1 a.2.2.2++[O.row 41 [] 0,O.box 120 (V.agg [V.sl b,V.str c,V.int .i64 d]) false]))
theorem SB (a b c d e f g h): Ec 78 5 aH [V.ptr 0 0 0,V.int .i64 a,V.ifc 120 (V.agg [V.sl b,V.str c,V.int .i64 d])] (tm e f g h) (Ji a b c d e f g h):=ec (by kernel_rfl) (by kernel_rfl)
noncomputable def uD (f l:List UInt8) (e b:Int) (c:List (V × V)) (d:List V): R :=
 aE aA 73 [V.str f] fun n =>
 kB n fun o =>
 cond (!o)
 (some (.doneM (V.tup [V.bool false,V.int .i64 1]) (tm e b c d)))
 (aE aA 74 [V.str l] fun p =>
  kB p fun q =>
  cond (!q)
 (some (.doneM (V.tup [V.bool false,V.int .i64 1]) (tm e b c d)))
 (c7 aA aH nk 75 [V.ptr 0 0 0,V.str f] (tm e b c d) fun a =>
  bT (tm e b c d) <|
  aE aA 76 [V.agg [V.sl a.2.1,V.str a.2.2.1,V.int .i64 a.2.2.2.1],V.str f] fun r =>
  kf r fun v m =>
  aE aA 77 [V.agg [V.sl a.2.1,V.str a.2.2.1,V.int .i64 a.2.2.2.1],V.str f,V.str l] fun s =>
  oo s fun g h i t =>
  cond (t==(0:Int))
 (aT aA aH eo 78 [V.ptr 0 0 0,V.int .i64 a.2.2.2.2,V.ifc 120 (V.agg [V.sl g,V.str h,V.int .i64 i])] (tm e b c d) fun j =>
  some (.doneM (V.tup [V.bool (m != (0:Int)),V.int .i64 0]) (tm j.1 j.2.1 j.2.2.1 j.2.2.2++[O.row 41 [] 0,O.box 120 (V.agg [V.sl a.2.1,V.str a.2.2.1,V.int .i64 a.2.2.2.1]) false,O.row 41 [] 0,O.box 120 (V.agg [V.sl g,V.str h,V.int .i64 i]) false])))
 (c7 aA aH ni 44 [V.ptr 0 0 0] (sm b c d) fun u =>
  bT (tm e b c d++[O.row 41 [] 0,O.box 120 (V.agg [V.sl a.2.1,V.str a.2.2.1,V.int .i64 a.2.2.2.1]) false,O.row 41 [] 0,O.box 120 (V.agg [V.sl g,V.str h,V.int .i64 i]) false]) <|
  cond (decide (u < W .i64 ((W .i64 ((a.1.length:Int)+1))+1)))
 (some (.doneM (V.tup [V.bool false,V.int .i64 6]) (tm e b c d++[O.row 41 [] 0,O.box 120 (V.agg [V.sl a.2.1,V.str a.2.2.1,V.int .i64 a.2.2.2.1]) false,O.row 41 [] 0,O.box 120 (V.agg [V.sl g,V.str h,V.int .i64 i]) false])))
 (aT aA aH oM 79 [V.ptr 0 0 0,V.sl a.1,V.agg [V.sl a.2.1,V.str a.2.2.1,V.int .i64 a.2.2.2.1],V.int .i64 a.2.2.2.2,V.agg [V.str f,V.str l]] (tm e b c d) fun k =>
  some (.doneM (V.tup [V.bool (m != (0:Int)),V.int .i64 0]) (tm k.1 k.2.1 k.2.2.1 k.2.2.2++[O.row 41 [] 0,O.box 120 (V.agg [V.sl a.2.1,V.str a.2.2.1,V.int .i64 a.2.2.2.1]) false,O.row 41 [] 0,O.box 120 (V.agg [V.sl g,V.str h,V.int .i64 i]) false]))))))
theorem R9 (a b c d e f): Ec 32 5 aH [V.ptr 0 0 0,V.str a,V.str b] (tm c d e f) (uD a b c d e f):=ec (by kernel_rfl) (by kernel_rfl)
noncomputable def rN (l:List UInt8) (b c:Int) (d:List (V × V)) (e:List V): R :=
 aE aA 73 [V.str l] fun n =>
 kB n fun o =>
 cond (!o)
 (some (.doneM (V.int .i64 1) (tm b c d e)))
 (c7 aA aH nk 75 [V.ptr 0 0 0,V.str l] (tm b c d e) fun a =>
  bT (tm b c d e) <|
  aE aA 80 [V.agg [V.sl a.2.1,V.str a.2.2.1,V.int .i64 a.2.2.2.1],V.str l] fun p =>
  oo p fun f g h m =>
  cond (m != (0:Int))
 (some (.doneM (V.int .i64 m) (tm b c d e++[O.row 41 [] 0,O.box 120 (V.agg [V.sl a.2.1,V.str a.2.2.1,V.int .i64 a.2.2.2.1]) false,O.row 41 [] 0,O.box 120 (V.agg [V.sl f,V.str g,V.int .i64 h]) false])))
 (cond (decide ((f.length:Int) > 0))
 (aT aA aH eo 78 [V.ptr 0 0 0,V.int .i64 a.2.2.2.2,V.ifc 120 (V.agg [V.sl f,V.str g,V.int .i64 h])] (tm b c d e) fun i =>
  some (.doneM (V.int .i64 0) (tm i.1 i.2.1 i.2.2.1 i.2.2.2++[O.row 41 [] 0,O.box 120 (V.agg [V.sl a.2.1,V.str a.2.2.1,V.int .i64 a.2.2.2.1]) false,O.row 41 [] 0,O.box 120 (V.agg [V.sl f,V.str g,V.int .i64 h]) false])))
 (cond ((a.1.length:Int)==(0:Int))
 (aT aA aH eo 78 [V.ptr 0 0 0,V.int .i64 a.2.2.2.2,V.ifc 120 (V.agg [V.sl f,V.str g,V.int .i64 h])] (tm b c d e) fun j =>
  some (.doneM (V.int .i64 0) (tm j.1 j.2.1 j.2.2.1 j.2.2.2++[O.row 41 [] 0,O.box 120 (V.agg [V.sl a.2.1,V.str a.2.2.1,V.int .i64 a.2.2.2.1]) false,O.row 41 [] 0,O.box 120 (V.agg [V.sl f,V.str g,V.int .i64 h]) false])))
 (aT aA aH qB 81 [V.ptr 0 0 0,V.sl a.1,V.int .i64 a.2.2.2.2] (tm b c d e) fun k =>
  some (.doneM (V.int .i64 0) (tm k.1 k.2.1 k.2.2.1 k.2.2.2++[O.row 41 [] 0,O.box 120 (V.agg [V.sl a.2.1,V.str a.2.2.1,V.int .i64 a.2.2.2.1]) false,O.row 41 [] 0,O.box 120 (V.agg [V.sl f,V.str g,V.int .i64 h]) false]))))))
theorem Sa (a b c d e): Ec 33 5 aH [V.ptr 0 0 0,V.str a] (tm b c d e) (rN a b c d e):=ec (by kernel_rfl) (by kernel_rfl)
noncomputable def CZ (f:List UInt8) (b c:Int) (d:List (V × V)) (e:List V): R :=
 aE aA 73 [V.str f] fun g =>
 kB g fun h =>
 cond (!h)
 (some (.doneM (V.tup [V.str [],V.int .i64 1]) (tm b c d e)))
 (c7 aA aH nk 75 [V.ptr 0 0 0,V.str f] (tm b c d e) fun a =>
  bT (tm b c d e) <|
  aE aA 76 [V.agg [V.sl a.2.1,V.str a.2.2.1,V.int .i64 a.2.2.2.1],V.str f] fun i =>
  kf i fun j k =>
  some (.doneM (V.tup [V.str j,V.int .i64 k]) (tm b c d e++[O.row 41 [] 0,O.box 120 (V.agg [V.sl a.2.1,V.str a.2.2.1,V.int .i64 a.2.2.2.1]) false])))
theorem I7 (a b c d e): Ec 39 5 aH [V.ptr 0 0 0,V.str a] (tm b c d e) (CZ a b c d e):=ec (by kernel_rfl) (by kernel_rfl)
def ru (a:Bool) (b c d e:Int) (f:List (V × V)) (g h:List V): S:=⟨[V.junk,V.junk,V.int .i64 0,V.junk,V.junk,V.bool a]++(JU 18)++[V.tail 5 0,V.int .i64 b,V.int .i64 c]++(JU 11),(tm d e f g++[O.row 3 h 0])⟩
noncomputable def C0 (b c:Int) (d:List (V × V)) (e:List V): R :=
 aT aA ⟨true,false,true,[3,9]⟩ nr 85 [V.ptr 0 0 0,V.ptr 1 0 0,V.int .i64 b,V.str [],V.str []] (lm b [] [] [] c d e) fun a =>
 some (.head 0 (ru a.2.1 (a.2.2.2.2.2.2.2.1.length:Int) 0 a.2.2.1 a.2.2.2.2.1 a.2.2.2.2.2.1 a.2.2.2.2.2.2.1 a.2.2.2.2.2.2.2.1))
theorem I8 (a b c d): Ec 40 5 aH [V.ptr 0 0 0] (tm a b c d) (C0 a b c d):=ec (by kernel_rfl) (by kernel_rfl)
noncomputable def A5 (h:Bool) (g a c d:Int) (e:List (V × V)) (f b:List V): R :=
 cond (decide (a < g))
 (gd (decide (0<=a)) <|
  gd (decide (a.toNat < b.length)) <|
  aY b (0+a.toNat) fun i =>
  kI .i64 i fun j =>
  cond h
 (some (.head 0 (ru (j==(0:Int)) g (W .i64 (a+1)) c d e f b)))
 (some (.head 0 (ru false g (W .i64 (a+1)) c d e f b))))
 (cond (!h)
 (some (.doneM (V.int .i64 4) (tm c d e f++[O.row 3 b 0])))
 (some (.doneM (V.int .i64 0) (tm c d e f++[O.row 3 b 0]))))
theorem FX (a b c d e f g h): Rd true 5 40 0 (ru a b c d e f g h) (A5 a b c d e f g h):=rd (by kernel_rfl)
noncomputable def I9 (a b:Int) (c:List (V × V)) (d:List V): R :=
 c7 aA aH oN 87 [V.ptr 0 0 0] (tm a b c d) fun f =>
 bT (tm a b c d++[O.row 3 [] 0]) <|
 aT aA ⟨true,false,false,[]⟩ sN 86 [V.sl f] [] fun e =>
 gd (decide (e.length<=16777216)) <|
 bh (qd e) fun g =>
 some (.doneM (V.tail 6 0) (tm a b c d++[O.row 3 [] 0,O.row 3 ((srt g).map iV) 0]))
theorem Sc (a b c d): Ec 42 5 aH [V.ptr 0 0 0] (tm a b c d) (I9 a b c d):=ec (by kernel_rfl) (by kernel_rfl)
noncomputable def Je (a:Int) (c:List (V × V)) (b:List V): R :=
 c7 aA aH oO 90 [V.ptr 0 0 0] (bm a b) fun d =>
 bT (sm a c b++[O.row 3 [] 0]) <|
 some (.doneM (V.sl d) (sm a c b++[O.row 3 [] 0]))
theorem Sj (a b c): Ec 50 4 aH [V.ptr 0 0 0] (sm a b c) (Je a b c):=ec (by kernel_rfl) (by kernel_rfl)
def wx (a:List UInt8) (b:Int) (c:List V) (d e f g:Int) (h:List (V × V)) (i j:List V): S:=⟨[V.ptr 0 0 0,V.str a,V.int .i64 b,V.junk,V.junk,V.junk,V.own 5,V.own 6]++(JU 7)++[V.sl c,V.int .i64 d,V.int .i64 e]++(JU 34),(tm f g h i++[O.row 41 [] 0,O.row 41 j 0])⟩
def rq (a:List UInt8) (b:Int) (c:List V) (d e:Int) (f:List V) (g h i j:Int) (k:List (V × V)) (l m:List V): S:=⟨[V.ptr 0 0 0,V.str a,V.int .i64 b,V.junk,V.junk,V.junk,V.own 5,V.own 6]++(JU 7)++[V.sl c,V.int .i64 d,V.int .i64 e]++(JU 11)++[V.sl f,V.int .i64 g,V.int .i64 h]++(JU 20),(tm i j k l++[O.row 41 [] 0,O.row 41 m 0])⟩
def Hz (a:List UInt8) (b:Int) (c:List V) (d e f g:Int) (h:List (V × V)) (i j:List V): S:=⟨[V.ptr 0 0 0,V.str a,V.int .i64 b,V.junk,V.junk,V.junk,V.own 5,V.own 6]++(JU 7)++[V.sl c,V.int .i64 d,V.int .i64 e]++(JU 11)++[V.nilS,V.int .i64 0,V.int .i64 0]++(JU 20),(tm f g h i++[O.row 41 [] 0,O.row 41 j 0])⟩
noncomputable def I6 (f:List UInt8) (g a b:Int) (c:List (V × V)) (d:List V): R :=
 c7 aA aH oK 46 [V.ptr 0 0 0] (tm a b c d) fun e =>
 bT (tm a b c d++[O.row 41 [] 0,O.row 41 [] 0]) <|
 some (.head 0 (wx f g e (e.length:Int) 0 a b c d []))
theorem Sb (a b c d e f): Ec 34 5 aH [V.ptr 0 0 0,V.str a,V.int .i64 b] (tm c d e f) (I6 a b c d e f):=ec (by kernel_rfl) (by kernel_rfl)
noncomputable def FW (i:List UInt8) (j:Int) (g:List V) (h f a b:Int) (c:List (V × V)) (d e:List V): R :=
 cond (decide (f < h))
 (gd (decide (0<=f)) <|
  aY g f.toNat fun l =>
  kI .i64 l fun m =>
  fV aA aH (fp (tm a b c d)) (fq (tm a b c d)) (fK (tm a b c d)) 82 [V.ptr 0 0 0,V.int .i64 m] (tm a b c d)
 (fun k =>
  bT (tm a b c d++[O.row 41 [] 0,O.row 41 e 0]) <|
  some (.head 1 (rq i j g h f k.1 (k.1.length:Int) 0 a b c d e)))
 (fun n =>
  bT (tm a b c d++[O.row 41 [] 0,O.row 41 e 0]) <|
  some (.head 1 (Hz i j g h f a b c d e)))
 (fun o =>
  bT (tm a b c d++[O.row 41 [] 0,O.row 41 e 0]) <|
  some (.head 1 (Hz i j g h f a b c d e))))
 (some (.doneM (V.own 6) (tm a b c d++[O.row 41 [] 0,O.row 41 e 0])))
theorem Nf (a b c d e f g h i j): Rd true 5 34 0 (wx a b c d e f g h i j) (FW a b c d e f g h i j):=rd (by kernel_rfl)
noncomputable def A4 (c:List UInt8) (d:Int) (e:List V) (f g:Int) (h:List V) (i a j k:Int) (l:List (V × V)) (m b:List V): R :=
 cond (decide (a < i))
 (gd (decide (0<=a)) <|
  aY h a.toNat fun p =>
  gX p fun n o =>
  cond (!Op.bytesLess n c)
 (cond (decide ((b.length:Int) < d))
 (gd (decide (b.length+([V.agg [V.str n,V.str o]]:List V).length<=16777216)) <|
  some (.head 1 (rq c d e f g h i (W .i64 (a+1)) j k l m (b++[V.agg [V.str n,V.str o]]))))
 (some (.head 1 (rq c d e f g h i (W .i64 (a+1)) j k l m b))))
 (some (.head 1 (rq c d e f g h i (W .i64 (a+1)) j k l m b))))
 (some (.head 0 (wx c d e f (W .i64 (g+1)) j k l m b)))
theorem Ng (a b c d e f g h i j k l m): Rd true 5 34 1 (rq a b c d e f g h i j k l m) (A4 a b c d e f g h i j k l m):=rd (by kernel_rfl)
def yI (a b c d:Int) (e:List (V × V)) (f:List V): S:=⟨[V.ptr 0 0 0,V.junk,V.int .i64 0,V.int .i64 a,V.int .i64 b]++(JU 22),(tm c d e f)⟩
noncomputable def Sd (a b:Int) (c:List (V × V)) (d:List V): R :=
 some (.head 0 (yI 0 a a b c d))
theorem Se (a b c d): Ec 43 5 aH [V.ptr 0 0 0] (tm a b c d) (Sd a b c d):=ec (by kernel_rfl) (by kernel_rfl)
noncomputable def FY (e f a b:Int) (c:List (V × V)) (d:List V): R :=
 fV aA aH (fp (tm a b c d)) (fq (tm a b c d)) (fK (tm a b c d)) 82 [V.ptr 0 0 0,V.int .i64 f] (tm a b c d)
 (fun j =>
  bT (tm a b c d) <|
  some (.doneM (V.int .i64 e) (tm a b c d)))
 (fun g =>
  bT (tm a b c d) <|
  aY g.2.1 0 fun h =>
  kI .i64 h fun i =>
  some (.head 0 (yI (W .i64 (e+1)) i a b c d)))
 (fun k =>
  bT (tm a b c d) <|
  some (.doneM (V.int .i64 e) (tm a b c d)))
theorem Nh (a b c d e f): Rd true 5 43 0 (yI a b c d e f) (FY a b c d e f):=rd (by kernel_rfl)
noncomputable def Ja (a:Int) (c:List (V × V)) (b:List V): R :=
 c7 aA aH qC 89 [V.ptr 0 0 0] (bm a b) fun d =>
 bT (sm a c b) <|
 some (.doneM (V.int .i64 d) (sm a c b))
theorem Sf (a b c): Ec 44 4 aH [V.ptr 0 0 0] (sm a b c) (Ja a b c):=ec (by kernel_rfl) (by kernel_rfl)
noncomputable def Jc (a b:Int) (c:List (V × V)) (d:List V): R :=
 c7 aA aH oN 87 [V.ptr 0 0 0] (tm a b c d) fun e =>
 bT (tm a b c d++[O.row 3 [] 0]) <|
 gd (decide (0<=W .i64 ((e.length:Int) - 1))) <|
 aY e ((W .i64 ((e.length:Int) - 1)).toNat) fun f =>
 kL f fun g =>
 some (.doneM (V.sl g) (tm a b c d++[O.row 3 [] 0]))
theorem Si (a b c d): Ec 46 5 aH [V.ptr 0 0 0] (tm a b c d) (Jc a b c d):=ec (by kernel_rfl) (by kernel_rfl)
noncomputable def Jg (c:Int) (b:List (V × V)) (d:List V): R :=
 aT aA ⟨true,false,true,[1000192]⟩ sO 96 [V.ptr 0 0 0] (bm c d) fun a =>
 some (.doneM (V.ptr 7 0 0) (sm a.1 b a.2.1++[O.box 192 (V.agg [V.tail 5 0,V.int .i64 a.2.2.1]) true,O.row 5 a.2.2.2 0,O.map b,O.box 140 (V.agg [V.ptr 4 0 0,V.mp 6]) false]))
theorem Sk (a b c): Ec 57 4 aH [V.ptr 0 0 0] (sm a b c) (Jg a b c):=ec (by kernel_rfl) (by kernel_rfl)
noncomputable def C2 (d a:Int) (b:List (V × V)) (c:List V): R :=
 cond (decide (d < 0))
 (some (.doneM (V.tup [V.str [],V.int .i64 1]) (sm a b c)))
 (cond (decide (d ≥ a))
 (some (.doneM (V.tup [V.str [],V.int .i64 1]) (sm a b c)))
 (kv b (V.int .i64 d)
 (some (.doneM (V.tup [V.str [],V.int .i64 7]) (sm a b c))) fun e =>
  kS e fun f =>
  some (.doneM (V.tup [V.str f,V.int .i64 0]) (sm a b c))))
theorem Jh (a b c d): Ec 58 4 aH [V.ptr 0 0 0,V.int .i64 a] (sm b c d) (C2 a b c d):=ec (by kernel_rfl) (by kernel_rfl)
def yE (a:List V) (b:Int) (c:List V): S:=⟨[V.junk,V.junk,V.ptr 2 0 0,V.junk,V.ptr 3 0 0,V.ptr 4 0 0]++(JU 7)++[V.rest [3] a]++(JU 9),(bm b c++[O.box 135 (V.ptr 0 0 0) false,O.box 3 (V.int .i64 0) false,O.box 27 (V.int .i64 0) false])⟩
noncomputable def IT (b a:Int) (c:List V): R :=
 cond (decide (b ≥ 0))
 (cond (!(decide (b < a)))
 (some (.doneM (V.tup [V.int .i64 0,V.int .i64 1]) (bm a c++[O.box 135 (V.ptr 0 0 0) false,O.box 3 (V.int .i64 0) false,O.box 27 (V.int .i64 1) false])))
 (bh (vq [V.ref (V.ref (V.agg [V.unk,V.int .i64 a]) 0) 0,V.ref (V.int .i64 b) 0]) fun d =>
  some (.head 0 (yE (d.map V.tup) a c))))
 (some (.doneM (V.tup [V.int .i64 0,V.int .i64 1]) (bm a c++[O.box 135 (V.ptr 0 0 0) false,O.box 3 (V.int .i64 0) false,O.box 27 (V.int .i64 1) false])))
theorem Ri (a b c): Ec 131 2 aH [V.ptr 0 0 0,V.int .i64 a] (bm b c) (IT a b c):=ec (by kernel_rfl) (by kernel_rfl)
noncomputable def FH (f:List V) (a:Int) (b:List V): R :=
 jJ f
 (some (.doneM (V.tup [V.int .i64 0,V.int .i64 6]) (bm a b++[O.box 135 (V.ptr 0 0 0) false,O.box 3 (V.int .i64 0) false,O.box 27 (V.int .i64 6) false]))) fun g h =>
  kT g fun e=>bO e fun i e=>kI .i64 i fun c =>
  dR e<|c7 aA aH l8 137 [V.ptr 0 0 0,V.int .i64 c] (bm a b) fun j =>
  bT (bm a b++[O.box 135 (V.ptr 0 0 0) false,O.box 3 (V.int .i64 0) false,O.box 27 (V.int .i64 0) false]) <|
  cond (!j)
 (aT aA aH sK 180 [V.ptr 0 0 0,V.int .i64 c] (bm a b) fun d =>
  some (.doneM (V.tup [V.int .i64 c,V.int .i64 d.1]) (bm d.2.1 d.2.2++[O.box 135 (V.ptr 0 0 0) false,O.box 3 (V.int .i64 c) false,O.box 27 (V.int .i64 d.1) false])))
 (some (.head 0 (yE h a b)))
theorem MU (a b c): Rd true 2 131 0 (yE a b c) (FH a b c):=rd (by kernel_rfl)
def OW (a:List V) (b:Int) (c:List V): S:=⟨[V.junk,V.junk,V.ptr 2 0 0,V.junk,V.ptr 3 0 0,V.ptr 4 0 0]++(JU 7)++[V.rest [3] a]++(JU 9),(bm b c++[O.box 135 (V.ptr 0 0 0) false,O.box 3 (V.int .i64 0) false,O.box 27 (V.int .i64 0) false])⟩
noncomputable def IU (b a:Int) (c:List V): R :=
 cond (decide (b ≥ 0))
 (cond (!(decide (b < a)))
 (some (.doneM (V.tup [V.int .i64 0,V.int .i64 1]) [O.box 192 (V.agg [V.tail 1 0,V.int .i64 a]) false,O.row 5 c 0,O.box 135 (V.ptr 0 0 0) false,O.box 3 (V.int .i64 0) false,O.box 27 (V.int .i64 1) false]))
 (bh (vq [V.ref (V.ref (V.agg [V.unk,V.int .i64 a]) 0) 0,V.ref (V.int .i64 b) 0]) fun d =>
  some (.head 0 (OW (d.map V.tup) a c))))
 (some (.doneM (V.tup [V.int .i64 0,V.int .i64 1]) [O.box 192 (V.agg [V.tail 1 0,V.int .i64 a]) false,O.row 5 c 0,O.box 135 (V.ptr 0 0 0) false,O.box 3 (V.int .i64 0) false,O.box 27 (V.int .i64 1) false]))
theorem Rj (a b c): Ec 131 2 aH [V.ptr 0 0 0,V.int .i64 a] [O.box 192 (V.agg [V.tail 1 0,V.int .i64 b]) false,O.row 5 c 0] (IU a b c):=ec (by kernel_rfl) (by kernel_rfl)
noncomputable def II (d:Int) (e:List UInt8) (a:Int) (b:List (V × V)) (c:List V): R :=
 c7 aA aH ky 58 [V.ptr 0 0 0,V.int .i64 d] (sm a b c) fun f =>
 bT (sm a b c) <|
 cond (f.2 != (0:Int))
 (some (.doneM (V.int .i64 f.2) (sm a b c)))
 (cond (decide ((e.length:Int) > 252))
 (some (.doneM (V.int .i64 2) (sm a b c)))
 (bh (ix b (V.int .i64 d) (V.str e)) fun g =>
  some (.doneM (V.int .i64 0) (sm a g c))))
theorem Q6 (a b c d e): Ec 119 4 aH [V.ptr 0 0 0,V.int .i64 a,V.str b] (sm c d e) (II a b c d e):=ec (by kernel_rfl) (by kernel_rfl)
def yL (a:List UInt8) (b c d:Int) (e:List (V × V)) (f g:List V): S:=⟨[V.ptr 0 0 0,V.str a,V.junk,V.junk,V.own 5,V.ptr 6 0 0,V.int .i64 0,V.own 7,V.int .i64 b]++(JU 43),(tm c d e f++[O.row 176 [] 0,O.box 120 (V.agg [V.tail 8 0,V.str [],V.int .i64 0]) false,O.row 176 g 0,O.row 41 [] 0])⟩
noncomputable def Sv (b:List UInt8) (a c:Int) (d:List (V × V)) (e:List V): R :=
 some (.head 0 (yL b a a c d e []))
theorem Sw (a b c d e): Ec 75 5 aH [V.ptr 0 0 0,V.str a] (tm b c d e) (Sv a b c d e):=ec (by kernel_rfl) (by kernel_rfl)
noncomputable def F3 (j:List UInt8) (g b c:Int) (d:List (V × V)) (e f:List V): R :=
 fV aA aH (fp (tm b c d e)) (fq (tm b c d e)) (fK (tm b c d e)) 82 [V.ptr 0 0 0,V.int .i64 g] (tm b c d e)
 (fun h =>
  bT (tm b c d e++[O.row 176 [] 0,O.box 120 (V.agg [V.tail 8 0,V.str [],V.int .i64 0]) false,O.row 176 f 0,O.row 41 [] 0]) <|
  some (.doneM (V.tup [V.own 5,V.agg [V.sl h.1,V.str h.2.1,V.int .i64 h.2.2],V.int .i64 g]) (tm b c d e++[O.row 176 f 0,O.box 120 (V.agg [V.sl h.1,V.str h.2.1,V.int .i64 h.2.2]) false])))
 (fun a =>
  bT (tm b c d e++[O.row 176 [] 0,O.box 120 (V.agg [V.tail 8 0,V.str [],V.int .i64 0]) false,O.row 176 f 0,O.row 41 [] 0]) <|
  aE aA 114 [V.agg [V.sl a.1,V.sl a.2.1,V.str a.2.2.1,V.int .i64 a.2.2.2],V.str j] fun k =>
  wI k fun i l =>
  cond (l != (0:Int))
 (some (.doneM (V.tup [V.own 5,V.agg [V.nilS,V.str [],V.int .i64 0],V.int .i64 g]) (tm b c d e++[O.row 176 f 0,O.box 120 (V.agg [V.nilS,V.str [],V.int .i64 0]) false])))
 (gd (decide (f.length+([V.agg [V.int .i64 g,V.sl a.1,V.sl a.2.1,V.str a.2.2.1,V.int .i64 a.2.2.2,V.int .i64 i]]:List V).length<=16777216)) <|
  gd (decide (0<=i)) <|
  aY a.2.1 i.toNat fun m =>
  kI .i64 m fun n =>
  some (.head 0 (yL j n b c d e (f++[V.agg [V.int .i64 g,V.sl a.1,V.sl a.2.1,V.str a.2.2.1,V.int .i64 a.2.2.2,V.int .i64 i]])))))
 (fun o =>
  bT (tm b c d e++[O.row 176 [] 0,O.box 120 (V.agg [V.tail 8 0,V.str [],V.int .i64 0]) false,O.row 176 f 0,O.row 41 [] 0]) <|
  some (.doneM (V.tup [V.own 5,V.agg [V.nilS,V.str [],V.int .i64 0],V.int .i64 g]) (tm b c d e++[O.row 176 f 0,O.box 120 (V.agg [V.nilS,V.str [],V.int .i64 0]) false])))
theorem Nk (a b c d e f g): Rd true 5 75 0 (yL a b c d e f g) (F3 a b c d e f g):=rd (by kernel_rfl)
noncomputable def zu (u l:List V) (m:List UInt8) (n d:Int) (b e:List UInt8) (v ab:Int) (ac:List (V × V)) (ad:List V): R :=
 aT aA aH lw 84 [V.ptr 0 0 0] (sm ab ac ad) fun a =>
 aE aA 122 [V.agg [V.sl l,V.str m,V.int .i64 n],V.int .i64 a.1] fun ae =>
 zf ae fun o c p q r s ah =>
 cond (Op.bytesLess b c)
 (aE aA 77 [V.agg [V.sl o,V.str c,V.int .i64 p],V.str b,V.str e] fun af =>
  oo af fun w t x ai =>
  aT aA aH eo 78 [V.ptr 0 0 0,V.int .i64 d,V.ifc 120 (V.agg [V.sl w,V.str t,V.int .i64 x])] (tm v a.2.2.1 a.2.2.2.1 a.2.2.2.2) fun f =>
  aT aA aH eo 78 [V.ptr 0 0 0,V.int .i64 a.1,V.ifc 120 (V.agg [V.sl q,V.str r,V.int .i64 s])] (tm f.1 f.2.1 f.2.2.1 f.2.2.2) fun g =>
  aT aA aH nf 123 [V.ptr 0 0 0,V.sl u,V.str t,V.int .i64 d,V.int .i64 a.1] (tm g.1 g.2.1 g.2.2.1 g.2.2.2) fun h =>
  some (.doneM (V.tup []) (tm h.1 h.2.1 h.2.2.1 h.2.2.2++[O.box 120 (V.agg [V.sl l,V.str m,V.int .i64 n]) false,O.box 41 (V.agg [V.str b,V.str e]) false,O.row 41 [] 0,O.box 120 (V.agg [V.sl w,V.str t,V.int .i64 x]) false,O.row 41 [] 0,O.box 120 (V.agg [V.sl q,V.str r,V.int .i64 s]) false])))
 (aE aA 77 [V.agg [V.sl q,V.str r,V.int .i64 s],V.str b,V.str e] fun ag =>
  oo ag fun y z aa aj =>
  aT aA aH eo 78 [V.ptr 0 0 0,V.int .i64 d,V.ifc 120 (V.agg [V.sl o,V.str c,V.int .i64 p])] (tm v a.2.2.1 a.2.2.2.1 a.2.2.2.2) fun i =>
  aT aA aH eo 78 [V.ptr 0 0 0,V.int .i64 a.1,V.ifc 120 (V.agg [V.sl y,V.str z,V.int .i64 aa])] (tm i.1 i.2.1 i.2.2.1 i.2.2.2) fun j =>
  aT aA aH nf 123 [V.ptr 0 0 0,V.sl u,V.str c,V.int .i64 d,V.int .i64 a.1] (tm j.1 j.2.1 j.2.2.1 j.2.2.2) fun k =>
  some (.doneM (V.tup []) (tm k.1 k.2.1 k.2.2.1 k.2.2.2++[O.box 120 (V.agg [V.sl l,V.str m,V.int .i64 n]) false,O.box 41 (V.agg [V.str b,V.str e]) false,O.row 41 [] 0,O.box 120 (V.agg [V.sl o,V.str c,V.int .i64 p]) false,O.row 41 [] 0,O.box 120 (V.agg [V.sl y,V.str z,V.int .i64 aa]) false])))
theorem SD (a b c d e f g h i j k): Ec 79 5 aH [V.ptr 0 0 0,V.sl a,V.agg [V.sl b,V.str c,V.int .i64 d],V.int .i64 e,V.agg [V.str f,V.str g]] (tm h i j k) (zu a b c d e f g h i j k):=ec (by kernel_rfl) (by kernel_rfl)
def wy (a:List V) (b c d:Int) (e:List (V × V)) (f g:List V): S:=⟨[V.ptr 0 0 0,V.sl a]++(JU 4)++[V.own 5,V.int .i64 b]++(JU 91),(tm c d e f++[O.row 3 g 0])⟩
def mK (a:List V) (b c d e:Int) (f:List (V × V)) (g h:List V) (i:Int) (j k:List V) (l:List UInt8) (m n:Int): S:=⟨[V.ptr 0 0 0]++(JU 5)++[V.own 5,V.junk,V.ptr 6 0 0]++(JU 37)++[V.sl a,V.int .i64 b,V.int .i64 c]++(JU 50),(tm d e f g++[O.row 3 h 0,O.box 176 (V.agg [V.int .i64 i,V.sl j,V.sl k,V.str l,V.int .i64 m,V.int .i64 n]) false])⟩
def t7 (a b c d:Int) (e:List (V × V)) (f g:List V): S:=⟨[V.ptr 0 0 0]++(JU 83)++[V.own 5,V.int .i64 a,V.int .i64 b]++(JU 12),(tm c d e f++[O.row 3 g 0])⟩
noncomputable def Jk (a:List V) (b c d:Int) (e:List (V × V)) (f:List V): R :=
 some (.head 0 (wy a (W .i64 ((a.length:Int) - 1)) c d e f [V.int .i64 b]))
theorem SG (a b c d e f): Ec 81 5 aH [V.ptr 0 0 0,V.sl a,V.int .i64 b] (tm c d e f) (Jk a b c d e f):=ec (by kernel_rfl) (by kernel_rfl)
noncomputable def F4 (b:List V) (a d e:Int) (f:List (V × V)) (g c:List V): R :=
 gd (decide (0<=a)) <|
 aY b a.toNat fun p =>
 kX p fun t u q v w x =>
 cond ((q.length:Int)==(1:Int))
 (gd (decide (0<=a)) <|
  aY b a.toNat fun r =>
  kX r fun h y z aa ab ac =>
  gd (decide (c.length+([V.int .i64 h]:List V).length<=16777216)) <|
  some (.head 0 (wy b (W .i64 (a - 1)) d e f g (c++[V.int .i64 h]))))
 (gd (decide (0<=a)) <|
  aY b a.toNat fun s =>
  kX s fun i j k l m n =>
  c7 aA aH qv 124 [V.ptr 0 0 0,V.sl b,V.int .i64 (c.length:Int)] (tm d e f g) fun o =>
  bT (tm d e f g++[O.row 3 c 0,O.box 176 (V.agg [V.int .i64 i,V.sl j,V.sl k,V.str l,V.int .i64 m,V.int .i64 n]) false]) <|
  some (.head 1 (mK o (o.length:Int) 0 d e f g c i j k l m n)))
theorem Nm (a b c d e f g): Rd true 5 81 0 (wy a b c d e f g) (F4 a b c d e f g):=rd (by kernel_rfl)
noncomputable def A7 (n:List V) (o l a b:Int) (c:List (V × V)) (d e:List V) (g:Int) (h i:List V) (j:List UInt8) (k f:Int): R :=
 cond (decide (l < o))
 (gd (decide (0<=l)) <|
  aY n l.toNat fun aa =>
  kI .i64 aa fun p =>
  fV aA aH (fp (tm a b c d)) (fq (tm a b c d)) (fK (tm a b c d)) 82 [V.ptr 0 0 0,V.int .i64 p] (tm a b c d)
 (fun q =>
  bT (tm a b c d++[O.row 3 e 0,O.box 176 (V.agg [V.int .i64 g,V.sl h,V.sl i,V.str j,V.int .i64 k,V.int .i64 f]) false]) <|
  gd (decide (0<=l)) <|
  gd (decide (l.toNat < e.length)) <|
  aY e l.toNat fun ab =>
  kI .i64 ab fun ac =>
  fV aA aH (fp (tm a b c d)) (fq (tm a b c d)) (fK (tm a b c d)) 82 [V.ptr 0 0 0,V.int .i64 ac] (tm a b c d)
 (fun w =>
  bT (tm a b c d++[O.row 3 e 0,O.box 176 (V.agg [V.int .i64 g,V.sl h,V.sl i,V.str j,V.int .i64 k,V.int .i64 f]) false]) <|
  aT aA aH eo 78 [V.ptr 0 0 0,V.int .i64 p,V.ifc 120 (V.agg [V.sl q.1,V.str (cond (decide (f > 0)) w.2.1 q.2.1),V.int .i64 w.2.2])] (tm a b c d) fun r =>
  some (.head 1 (mK n o (W .i64 (l+1)) r.1 r.2.1 r.2.2.1 r.2.2.2 e g h i j k f)))
 (fun x =>
  bT (tm a b c d++[O.row 3 e 0,O.box 176 (V.agg [V.int .i64 g,V.sl h,V.sl i,V.str j,V.int .i64 k,V.int .i64 f]) false]) <|
  aT aA aH eo 78 [V.ptr 0 0 0,V.int .i64 p,V.ifc 120 (V.agg [V.sl q.1,V.str (cond (decide (f > 0)) x.2.2.1 q.2.1),V.int .i64 x.2.2.2])] (tm a b c d) fun s =>
  some (.head 1 (mK n o (W .i64 (l+1)) s.1 s.2.1 s.2.2.1 s.2.2.2 e g h i j k f)))
 (fun am =>
  bT (tm a b c d++[O.row 3 e 0,O.box 176 (V.agg [V.int .i64 g,V.sl h,V.sl i,V.str j,V.int .i64 k,V.int .i64 f]) false]) <|
  none))
 (fun m =>
  bT (tm a b c d++[O.row 3 e 0,O.box 176 (V.agg [V.int .i64 g,V.sl h,V.sl i,V.str j,V.int .i64 k,V.int .i64 f]) false]) <|
  gd (decide (0<=l)) <|
  gd (decide (l.toNat < e.length)) <|
  aY e l.toNat fun ad =>
  kI .i64 ad fun ae =>
  fV aA aH (fp (tm a b c d)) (fq (tm a b c d)) (fK (tm a b c d)) 82 [V.ptr 0 0 0,V.int .i64 ae] (tm a b c d)
 (fun y =>
  bT (tm a b c d++[O.row 3 e 0,O.box 176 (V.agg [V.int .i64 g,V.sl h,V.sl i,V.str j,V.int .i64 k,V.int .i64 f]) false]) <|
  aT aA aH eo 78 [V.ptr 0 0 0,V.int .i64 p,V.ifc 150 (V.agg [V.sl m.1,V.sl m.2.1,V.str (cond (decide (f > 0)) y.2.1 m.2.2.1),V.int .i64 y.2.2])] (tm a b c d) fun t =>
  some (.head 1 (mK n o (W .i64 (l+1)) t.1 t.2.1 t.2.2.1 t.2.2.2 e g h i j k f)))
 (fun z =>
  bT (tm a b c d++[O.row 3 e 0,O.box 176 (V.agg [V.int .i64 g,V.sl h,V.sl i,V.str j,V.int .i64 k,V.int .i64 f]) false]) <|
  aT aA aH eo 78 [V.ptr 0 0 0,V.int .i64 p,V.ifc 150 (V.agg [V.sl m.1,V.sl m.2.1,V.str (cond (decide (f > 0)) z.2.2.1 m.2.2.1),V.int .i64 z.2.2.2])] (tm a b c d) fun u =>
  some (.head 1 (mK n o (W .i64 (l+1)) u.1 u.2.1 u.2.2.1 u.2.2.2 e g h i j k f)))
 (fun an =>
  bT (tm a b c d++[O.row 3 e 0,O.box 176 (V.agg [V.int .i64 g,V.sl h,V.sl i,V.str j,V.int .i64 k,V.int .i64 f]) false]) <|
  none))
 (fun ao =>
  bT (tm a b c d++[O.row 3 e 0,O.box 176 (V.agg [V.int .i64 g,V.sl h,V.sl i,V.str j,V.int .i64 k,V.int .i64 f]) false]) <|
  gd (decide (0<=l)) <|
  gd (decide (l.toNat < e.length)) <|
  aY e l.toNat fun af =>
  kI .i64 af fun ag =>
  fV aA aH (fp (tm a b c d)) (fq (tm a b c d)) (fK (tm a b c d)) 82 [V.ptr 0 0 0,V.int .i64 ag] (tm a b c d)
 (fun ap =>
  bT (tm a b c d++[O.row 3 e 0,O.box 176 (V.agg [V.int .i64 g,V.sl h,V.sl i,V.str j,V.int .i64 k,V.int .i64 f]) false]) <|
  none)
 (fun aq =>
  bT (tm a b c d++[O.row 3 e 0,O.box 176 (V.agg [V.int .i64 g,V.sl h,V.sl i,V.str j,V.int .i64 k,V.int .i64 f]) false]) <|
  none)
 (fun ar =>
  bT (tm a b c d++[O.row 3 e 0,O.box 176 (V.agg [V.int .i64 g,V.sl h,V.sl i,V.str j,V.int .i64 k,V.int .i64 f]) false]) <|
  none)))
 (aE aA 126 [V.agg [V.sl h,V.sl i,V.str j,V.int .i64 k],V.int .i64 f] fun ah =>
  pP ah fun ai aj ak al au =>
  aT aA aH eo 78 [V.ptr 0 0 0,V.int .i64 g,V.ifc 150 (V.agg [V.sl ai,V.sl aj,V.str ak,V.int .i64 al])] (tm a b c d) fun v =>
  some (.head 2 (t7 (e.length:Int) 0 v.1 v.2.1 v.2.2.1 v.2.2.2 e)))
theorem F5 (a b c d e f g h i j k l m n): Rd true 5 81 1 (mK a b c d e f g h i j k l m n) (A7 a b c d e f g h i j k l m n):=rd (by kernel_rfl)
noncomputable def F6 (e a f g:Int) (h:List (V × V)) (i b:List V): R :=
 cond (decide (a < e))
 (gd (decide (0<=a)) <|
  gd (decide (a.toNat < b.length)) <|
  aY b a.toNat fun j =>
  kI .i64 j fun k =>
  aT aA aH qw 127 [V.ptr 0 0 0,V.int .i64 k] (sm g h i) fun d =>
  some (.head 2 (t7 e (W .i64 (a+1)) f d.2.1 d.2.2.1 d.2.2.2 b)))
 (aT aA aH sH 128 [V.ptr 0 0 0] (tm f g h i) fun c =>
  some (.doneM (V.tup []) (tm c.1 c.2.1 c.2.2.1 c.2.2.2++[O.row 3 b 0])))
theorem Nn (a b c d e f g): Rd true 5 81 2 (t7 a b c d e f g) (F6 a b c d e f g):=rd (by kernel_rfl)
noncomputable def Jj (f:Int) (b c:List V) (d:List UInt8) (e g h:Int) (i:List (V × V)) (j:List V): R :=
 aE aA 121 [V.agg [V.sl b,V.sl c,V.str d,V.int .i64 e]] fun k =>
 kS k fun l =>
 aT aA aH qu 119 [V.ptr 0 0 0,V.int .i64 f,V.str l] (sm h i j) fun a =>
 some (.doneM (V.tup []) (tm g a.2.1 a.2.2.1 a.2.2.2++[O.row 9 [] 0,O.row 3 [] 0,O.box 150 (V.agg [V.sl b,V.sl c,V.str d,V.int .i64 e]) false]))
theorem SC (a b c d e f g h i): Ec 78 5 aH [V.ptr 0 0 0,V.int .i64 a,V.ifc 150 (V.agg [V.sl b,V.sl c,V.str d,V.int .i64 e])] (tm f g h i) (Jj a b c d e f g h i):=ec (by kernel_rfl) (by kernel_rfl)
def t8 (a:Int) (b c:List UInt8) (d:Int) (e:List (V × V)) (f g:List V) (h:Int) (i:List (V × V)) (j:List V): S:=⟨[V.ptr 0 0 0,V.ptr 1 0 0,V.int .i64 a,V.str b,V.str c]++(JU 5)++[V.int .i64 0,V.bool false]++(JU 200),(lm d e f g h i j)⟩
def od (a:Int) (b:List UInt8) (c:Bool) (d:Int) (e:List (V × V)) (f g:List V) (h:Int) (i:List (V × V)) (j k:List V) (l:List UInt8) (m:Int): S:=⟨[V.junk,V.ptr 1 0 0,V.int .i64 a,V.str b]++(JU 6)++[V.int .i64 0,V.bool false,V.junk,V.junk,V.ptr 9 0 0,V.bool c]++(JU 196),(lm d e f g h i j++[O.box 120 (V.agg [V.sl k,V.str l,V.int .i64 m]) false])⟩
def ug (a:Int) (b c:List UInt8) (d:Bool) (e:Int) (f:List (V × V)) (g h:List V) (i:Int) (j:List (V × V)) (k l m:List V) (n:List UInt8) (o:Int): S:=⟨[V.ptr 0 0 0,V.ptr 1 0 0,V.int .i64 a,V.str b,V.str c]++(JU 5)++[V.int .i64 0,V.bool false]++(JU 4)++[V.ptr 9 0 0,V.bool d]++(JU 194),(lm e f g h i j k++[O.box 150 (V.agg [V.sl l,V.sl m,V.str n,V.int .i64 o]) false])⟩
def yM (a:Int) (b c:List UInt8) (d:Bool) (e:List V) (f g:Int) (h:List (V × V)) (i j:List V) (k:Int) (l:List (V × V)) (m n o:List V) (p:List UInt8) (q:Int): S:=⟨[V.ptr 0 0 0,V.ptr 1 0 0,V.int .i64 a,V.str b,V.str c]++(JU 5)++[V.int .i64 0,V.bool false]++(JU 4)++[V.ptr 9 0 0,V.bool d,V.int .i64 0,V.bool true]++(JU 110)++[V.sl e,V.int .i64 f,V.int .i64 0]++(JU 79),(lm g h i j k l m++[O.box 150 (V.agg [V.sl n,V.sl o,V.str p,V.int .i64 q]) false])⟩
def BS (a:Int) (b c:List UInt8) (d:Bool) (e:Int) (f g:List UInt8) (h:List V) (i j:Int) (k:List (V × V)) (l m:List V) (n:Int) (o:List (V × V)) (p q r:List V) (s:List UInt8) (t:Int): S:=⟨[V.ptr 0 0 0,V.ptr 1 0 0,V.int .i64 a,V.str b,V.str c]++(JU 5)++[V.int .i64 0,V.bool false]++(JU 4)++[V.ptr 9 0 0,V.bool d,V.int .i64 0,V.bool true,V.int .i64 0,V.int .i64 e,V.str f,V.str g]++(JU 106)++[V.sl h,V.int .i64 i,V.int .i64 0]++(JU 79),(lm j k l m n o p++[O.box 150 (V.agg [V.sl q,V.sl r,V.str s,V.int .i64 t]) false])⟩
def yO (a:Int) (b c:List UInt8) (d:Bool) (e:Int) (f g:List UInt8) (h:List V) (i j:Int) (k:List (V × V)) (l m:List V) (n:Int) (o:List (V × V)) (p q r:List V) (s:List UInt8) (t:Int): S:=⟨[V.ptr 0 0 0,V.ptr 1 0 0,V.int .i64 a,V.str b,V.str c]++(JU 5)++[V.int .i64 0,V.bool false]++(JU 4)++[V.ptr 9 0 0,V.bool d,V.int .i64 0,V.bool true,V.int .i64 0,V.int .i64 e,V.str f,V.str g]++(JU 106)++[V.sl h,V.int .i64 i,V.int .i64 0]++(JU 79),(lm j k l m n o p++[O.box 150 (V.agg [V.sl q,V.sl r,V.str s,V.int .i64 t]) false])⟩
def rv (a:Int) (b c:List UInt8) (d:Bool) (e:Int) (f:Bool) (g:List V) (h i j:Int) (k:List (V × V)) (l:Int) (m:List (V × V)) (n o p:List V) (q:List UInt8) (r:Int) (s t:List V): S:=⟨[V.ptr 0 0 0,V.ptr 1 0 0,V.int .i64 a,V.str b,V.str c]++(JU 5)++[V.int .i64 0,V.bool false]++(JU 4)++[V.ptr 9 0 0,V.bool d,V.int .i64 e,V.bool f]++(JU 110)++[V.sl g,V.int .i64 h,V.int .i64 i]++(JU 79),(ln j 10 11 k l m n++[O.box 150 (V.agg [V.sl o,V.sl p,V.str q,V.int .i64 r]) false,O.row 3 s 0,O.row 9 t 0])⟩
def yN (a:Int) (b c:List UInt8) (d:Bool) (e:Int) (f:Bool) (g h:Int) (i j:List UInt8) (k:List V) (l m n:Int) (o:List (V × V)) (p:Int) (q:List (V × V)) (r s t:List V) (u:List UInt8) (v:Int) (w x:List V): S:=⟨[V.ptr 0 0 0,V.ptr 1 0 0,V.int .i64 a,V.str b,V.str c]++(JU 5)++[V.int .i64 0,V.bool false]++(JU 4)++[V.ptr 9 0 0,V.bool d,V.int .i64 e,V.bool f,V.int .i64 g,V.int .i64 h,V.str i,V.str j]++(JU 106)++[V.sl k,V.int .i64 l,V.int .i64 m]++(JU 79),(ln n 10 11 o p q r++[O.box 150 (V.agg [V.sl s,V.sl t,V.str u,V.int .i64 v]) false,O.row 3 w 0,O.row 9 x 0])⟩
def yP (a:Int) (b c:List UInt8) (d:Bool) (e:Int) (f:Bool) (g h:Int) (i j:List UInt8) (k:List V) (l m n:Int) (o:List (V × V)) (p:Int) (q:List (V × V)) (r s t:List V) (u:List UInt8) (v:Int) (w x:List V): S:=⟨[V.ptr 0 0 0,V.ptr 1 0 0,V.int .i64 a,V.str b,V.str c]++(JU 5)++[V.int .i64 0,V.bool false]++(JU 4)++[V.ptr 9 0 0,V.bool d,V.int .i64 e,V.bool f,V.int .i64 g,V.int .i64 h,V.str i,V.str j]++(JU 106)++[V.sl k,V.int .i64 l,V.int .i64 m]++(JU 79),(ln n 10 11 o p q r++[O.box 150 (V.agg [V.sl s,V.sl t,V.str u,V.int .i64 v]) false,O.row 3 w 0,O.row 9 x 0])⟩
noncomputable def zx (b:Int) (i j:List UInt8) (c:Int) (a:List (V × V)) (d e:List V) (f:Int) (g:List (V × V)) (h:List V): R :=
 kv a (V.int .i64 b)
 (some (.head 0 (t8 b i j c a d e f g h))) fun k =>
  kB k fun l =>
  cond l
 (some (.doneM (V.tup [V.int .i64 0,V.bool false]) (lm c a d e f g h)))
 (some (.head 0 (t8 b i j c a d e f g h)))
theorem Da (a b c d e f g h i j): Ec 85 9 ⟨true,false,true,[3,9]⟩ [V.ptr 0 0 0,V.ptr 1 0 0,V.int .i64 a,V.str b,V.str c] (lm d e f g h i j) (zx a b c d e f g h i j):=ec (by kernel_rfl) (by kernel_rfl)
noncomputable def tg (g:Int) (k l:List UInt8) (c:Int) (o:List (V × V)) (h i:List V) (d:Int) (e:List (V × V)) (f:List V): R :=
 bh (ix o (V.int .i64 g) (V.bool true)) fun j =>
 c7 aA aH ky 58 [V.ptr 0 0 0,V.int .i64 g] (sm d e f) fun m =>
 bT (lm c j h i d e f) <|
 fV aA aH (fp (tm c d e f)) (fq (tm c d e f)) (fK (tm c d e f)) 82 [V.ptr 0 0 0,V.int .i64 g] (tm c d e f)
 (fun a =>
  bT (lm c j h i d e f) <|
  aE aA 120 [V.agg [V.sl a.1,V.str a.2.1,V.int .i64 a.2.2]] fun p =>
  kS p fun q =>
  cond (m.1==q)
 (cond (a.2.1==l)
 (cond ((a.1.length:Int)==(0:Int))
 (cond (decide ((a.1.length:Int) > 0))
 (some (.head 1 (od g k true c j h i d e f a.1 a.2.1 a.2.2)))
 (some (.head 1 (od g k (g==c) c j h i d e f a.1 a.2.1 a.2.2))))
 (aY a.1 0 fun r =>
  gX r fun s w =>
  cond (!Op.bytesLess s k)
 (cond (decide ((a.1.length:Int) > 0))
 (some (.head 1 (od g k true c j h i d e f a.1 a.2.1 a.2.2)))
 (some (.head 1 (od g k (g==c) c j h i d e f a.1 a.2.1 a.2.2))))
 (some (.head 1 (od g k false c j h i d e f a.1 a.2.1 a.2.2)))))
 (some (.head 1 (od g k false c j h i d e f a.1 a.2.1 a.2.2))))
 (some (.head 1 (od g k false c j h i d e f a.1 a.2.1 a.2.2))))
 (fun b =>
  bT (lm c j h i d e f) <|
  aE aA 121 [V.agg [V.sl b.1,V.sl b.2.1,V.str b.2.2.1,V.int .i64 b.2.2.2]] fun t =>
  kS t fun u =>
  cond (m.1==u)
 (cond (b.2.2.1==l)
 (cond ((b.1.length:Int)==(0:Int))
 (some (.head 2 (ug g k l true c j h i d e f b.1 b.2.1 b.2.2.1 b.2.2.2)))
 (aY b.1 0 fun v =>
  kS v fun n =>
  some (.head 2 (ug g k l (!(Op.bytesLess n k || n==k)) c j h i d e f b.1 b.2.1 b.2.2.1 b.2.2.2))))
 (some (.head 2 (ug g k l false c j h i d e f b.1 b.2.1 b.2.2.1 b.2.2.2))))
 (some (.head 2 (ug g k l false c j h i d e f b.1 b.2.1 b.2.2.1 b.2.2.2))))
 (fun x =>
  bT (lm c j h i d e f) <|
  some (.doneM (V.tup [V.int .i64 0,V.bool false]) (lm c j h i d e f)))
theorem F7 (a b c d e f g h i j): Rd true 9 85 0 (t8 a b c d e f g h i j) (tg a b c d e f g h i j):=rd (by kernel_rfl)
noncomputable def F8 (l:Int) (m:List UInt8) (n:Bool) (d:Int) (e:List (V × V)) (f g:List V) (h:Int) (i:List (V × V)) (j k:List V) (b:List UInt8) (c:Int): R :=
 cond n
 (aT aA ⟨true,false,true,[3,9]⟩ oJ 132 [V.ptr 0 0 0,V.int .i64 0,V.int .i64 l,V.str m,V.str b,V.int .i64 c] (fm e f g) fun a =>
  some (.doneM (V.tup [V.int .i64 0,V.bool a.1]) (ln d 10 11 a.2.1 h i j++[O.box 120 (V.agg [V.sl k,V.str b,V.int .i64 c]) false,O.row 3 a.2.2.1 0,O.row 9 a.2.2.2 0])))
 (some (.doneM (V.tup [V.int .i64 0,V.bool false]) (lm d e f g h i j++[O.box 120 (V.agg [V.sl k,V.str b,V.int .i64 c]) false])))
theorem Yk (a b c d e f g h i j k l m): Rd true 9 85 1 (od a b c d e f g h i j k l m) (F8 a b c d e f g h i j k l m):=rd (by kernel_rfl)
noncomputable def F9 (b:Int) (c d:List UInt8) (e:Bool) (f:Int) (g:List (V × V)) (h i:List V) (j:Int) (k:List (V × V)) (l m a:List V) (n:List UInt8) (o:Int): R :=
 some (.head 3 (yM b c d e a (a.length:Int) f g h i j k l m a n o))
theorem Yl (a b c d e f g h i j k l m n o): Rd true 9 85 2 (ug a b c d e f g h i j k l m n o) (F9 a b c d e f g h i j k l m n o):=rd (by kernel_rfl)
noncomputable def Ga (j:Int) (k o:List UInt8) (p:Bool) (q:List V) (r b:Int) (l:List (V × V)) (m n:List V) (f:Int) (g:List (V × V)) (h i c:List V) (d:List UInt8) (e:Int): R :=
 cond (decide (0 < r))
 (aY q 0 fun s =>
  kI .i64 s fun t =>
  some (.head 4 (BS j k o p t k o q r b l m n f g h i c d e)))
 (cond p
 (aT aA ⟨true,false,true,[3,9]⟩ oJ 132 [V.ptr 0 0 0,V.int .i64 1,V.int .i64 j,V.str k,V.str d,V.int .i64 e] (fm l m n) fun a =>
  cond a.1
 (cond (j != b)
 (some (.doneM (V.tup [V.int .i64 1,V.bool true]) (ln b 10 11 a.2.1 f g h++[O.box 150 (V.agg [V.sl i,V.sl c,V.str d,V.int .i64 e]) false,O.row 3 a.2.2.1 0,O.row 9 a.2.2.2 0])))
 (some (.doneM (V.tup [V.int .i64 1,V.bool (decide ((c.length:Int) > 1))]) (ln b 10 11 a.2.1 f g h++[O.box 150 (V.agg [V.sl i,V.sl c,V.str d,V.int .i64 e]) false,O.row 3 a.2.2.1 0,O.row 9 a.2.2.2 0]))))
 (some (.doneM (V.tup [V.int .i64 1,V.bool false]) (ln b 10 11 a.2.1 f g h++[O.box 150 (V.agg [V.sl i,V.sl c,V.str d,V.int .i64 e]) false,O.row 3 a.2.2.1 0,O.row 9 a.2.2.2 0]))))
 (some (.doneM (V.tup [V.int .i64 1,V.bool false]) (lm b l m n f g h++[O.box 150 (V.agg [V.sl i,V.sl c,V.str d,V.int .i64 e]) false]))))
theorem Ym (a b c d e f g h i j k l m n o p q): Rd true 9 85 3 (yM a b c d e f g h i j k l m n o p q) (Ga a b c d e f g h i j k l m n o p q):=rd (by kernel_rfl)
noncomputable def Gb (b:Int) (c d:List UInt8) (e:Bool) (f:Int) (g t:List UInt8) (h:List V) (i j:Int) (k:List (V × V)) (l m:List V) (n:Int) (o:List (V × V)) (p a q:List V) (r:List UInt8) (s:Int): R :=
 cond (decide (0 < (a.length:Int)))
 (aY a 0 fun u =>
  kS u fun v =>
  some (.head 5 (yO b c d e f g v h i j k l m n o p a q r s)))
 (some (.head 5 (yO b c d e f g t h i j k l m n o p a q r s)))
theorem Yn (a b c d e f g h i j k l m n o p q r s t): Rd true 9 85 4 (BS a b c d e f g h i j k l m n o p q r s t) (Gb a b c d e f g h i j k l m n o p q r s t):=rd (by kernel_rfl)
noncomputable def Np (f:Int) (g h:List UInt8) (i:Bool) (j:Int) (k l:List UInt8) (m:List V) (n o:Int) (p:List (V × V)) (q r:List V) (s:Int) (t:List (V × V)) (u b c:List V) (d:List UInt8) (e:Int): R :=
 aT aA ⟨true,false,true,[3,9]⟩ nr 85 [V.ptr 0 0 0,V.ptr 1 0 0,V.int .i64 j,V.str k,V.str l] (lm o p q r s t u) fun a =>
 cond a.2.1
 (some (.head 3 (rv f g h i a.1 true m n 1 a.2.2.1 a.2.2.2.1 a.2.2.2.2.1 a.2.2.2.2.2.1 a.2.2.2.2.2.2.1 b c d e a.2.2.2.2.2.2.2.1 a.2.2.2.2.2.2.2.2)))
 (some (.doneM (V.tup [V.int .i64 0,V.bool false]) (ln a.2.2.1 10 11 a.2.2.2.1 a.2.2.2.2.1 a.2.2.2.2.2.1 a.2.2.2.2.2.2.1++[O.box 150 (V.agg [V.sl b,V.sl c,V.str d,V.int .i64 e]) false,O.row 3 a.2.2.2.2.2.2.2.1 0,O.row 9 a.2.2.2.2.2.2.2.2 0])))
theorem Yp (a b c d e f g h i j k l m n o p q r s t): Rd true 9 85 5 (yO a b c d e f g h i j k l m n o p q r s t) (Np a b c d e f g h i j k l m n o p q r s t):=rd (by kernel_rfl)
noncomputable def xQ (l:Int) (m n:List UInt8) (r:Bool) (c:Int) (u:Bool) (s:List V) (t a d:Int) (o:List (V × V)) (i:Int) (j:List (V × V)) (k e f:List V) (g:List UInt8) (h:Int) (p q:List V): R :=
 cond (decide (a < t))
 (gd (decide (0<=a)) <|
  aY s a.toNat fun w =>
  kI .i64 w fun v =>
  cond (decide (a > 0))
 (gd (decide (0<=W .i64 (a - 1))) <|
  aY e ((W .i64 (a - 1)).toNat) fun x =>
  kS x fun y =>
  some (.head 4 (yN l m n r c u a v y n s t a d o i j k e f g h p q)))
 (some (.head 4 (yN l m n r c u a v m n s t a d o i j k e f g h p q))))
 (cond r
 (aT aA ⟨true,false,true,[3,9]⟩ oJ 132 [V.ptr 0 0 0,V.int .i64 (W .i64 (c+1)),V.int .i64 l,V.str m,V.str g,V.int .i64 h] (fm o p q) fun b =>
  cond b.1
 (cond (l != d)
 (some (.doneM (V.tup [V.int .i64 (W .i64 (c+1)),V.bool true]) (ln d 12 13 b.2.1 i j k++[O.box 150 (V.agg [V.sl e,V.sl f,V.str g,V.int .i64 h]) false,O.dead,O.dead,O.row 3 b.2.2.1 0,O.row 9 b.2.2.2 0])))
 (some (.doneM (V.tup [V.int .i64 (W .i64 (c+1)),V.bool (decide ((f.length:Int) > 1))]) (ln d 12 13 b.2.1 i j k++[O.box 150 (V.agg [V.sl e,V.sl f,V.str g,V.int .i64 h]) false,O.dead,O.dead,O.row 3 b.2.2.1 0,O.row 9 b.2.2.2 0]))))
 (some (.doneM (V.tup [V.int .i64 (W .i64 (c+1)),V.bool false]) (ln d 12 13 b.2.1 i j k++[O.box 150 (V.agg [V.sl e,V.sl f,V.str g,V.int .i64 h]) false,O.dead,O.dead,O.row 3 b.2.2.1 0,O.row 9 b.2.2.2 0]))))
 (some (.doneM (V.tup [V.int .i64 (W .i64 (c+1)),V.bool false]) (ln d 10 11 o i j k++[O.box 150 (V.agg [V.sl e,V.sl f,V.str g,V.int .i64 h]) false,O.row 3 p 0,O.row 9 q 0]))))
theorem No (a b c d e f g h i j k l m n o p q r s t): Rd true 9 85 3 (rv a b c d e f g h i j k l m n o p q r s t) (xQ a b c d e f g h i j k l m n o p q r s t):=rd (by kernel_rfl)
noncomputable def Gc (c:Int) (d e:List UInt8) (f:Bool) (g:Int) (h:Bool) (a i:Int) (j x:List UInt8) (k:List V) (l m n:Int) (o:List (V × V)) (p:Int) (q:List (V × V)) (r b s:List V) (t:List UInt8) (u:Int) (v w:List V): R :=
 cond (decide (a < (b.length:Int)))
 (gd (decide (0<=a)) <|
  aY b a.toNat fun y =>
  kS y fun z =>
  some (.head 5 (yP c d e f g h a i j z k l m n o p q r b s t u v w)))
 (some (.head 5 (yP c d e f g h a i j x k l m n o p q r b s t u v w)))
theorem Yo (a b c d e f g h i j k l m n o p q r s t u v w x): Rd true 9 85 4 (yN a b c d e f g h i j k l m n o p q r s t u v w x) (Gc a b c d e f g h i j k l m n o p q r s t u v w x):=rd (by kernel_rfl)
noncomputable def Nq (f:Int) (g h:List UInt8) (i:Bool) (j:Int) (n:Bool) (o p:Int) (q r:List UInt8) (k:List V) (l m s:Int) (t:List (V × V)) (u:Int) (v:List (V × V)) (w b c:List V) (d:List UInt8) (e:Int) (x y:List V): R :=
 aT aA ⟨true,false,true,[3,9]⟩ nr 85 [V.ptr 0 0 0,V.ptr 1 0 0,V.int .i64 p,V.str q,V.str r] (lm s t x y u v w) fun a =>
 cond n
 (cond a.2.1
 (cond (o==(0:Int))
 (some (.head 3 (rv f g h i a.1 true k l (W .i64 (m+1)) a.2.2.1 a.2.2.2.1 a.2.2.2.2.1 a.2.2.2.2.2.1 a.2.2.2.2.2.2.1 b c d e a.2.2.2.2.2.2.2.1 a.2.2.2.2.2.2.2.2)))
 (cond (!(a.1==j))
 (some (.doneM (V.tup [V.int .i64 0,V.bool false]) (ln a.2.2.1 10 11 a.2.2.2.1 a.2.2.2.2.1 a.2.2.2.2.2.1 a.2.2.2.2.2.2.1++[O.box 150 (V.agg [V.sl b,V.sl c,V.str d,V.int .i64 e]) false,O.row 3 a.2.2.2.2.2.2.2.1 0,O.row 9 a.2.2.2.2.2.2.2.2 0])))
 (some (.head 3 (rv f g h i a.1 (a.1==j) k l (W .i64 (m+1)) a.2.2.1 a.2.2.2.1 a.2.2.2.2.1 a.2.2.2.2.2.1 a.2.2.2.2.2.2.1 b c d e a.2.2.2.2.2.2.2.1 a.2.2.2.2.2.2.2.2)))))
 (some (.doneM (V.tup [V.int .i64 0,V.bool false]) (ln a.2.2.1 10 11 a.2.2.2.1 a.2.2.2.2.1 a.2.2.2.2.2.1 a.2.2.2.2.2.2.1++[O.box 150 (V.agg [V.sl b,V.sl c,V.str d,V.int .i64 e]) false,O.row 3 a.2.2.2.2.2.2.2.1 0,O.row 9 a.2.2.2.2.2.2.2.2 0]))))
 (some (.doneM (V.tup [V.int .i64 0,V.bool false]) (ln a.2.2.1 10 11 a.2.2.2.1 a.2.2.2.2.1 a.2.2.2.2.2.1 a.2.2.2.2.2.2.1++[O.box 150 (V.agg [V.sl b,V.sl c,V.str d,V.int .i64 e]) false,O.row 3 a.2.2.2.2.2.2.2.1 0,O.row 9 a.2.2.2.2.2.2.2.2 0])))
theorem Yq (a b c d e f g h i j k l m n o p q r s t u v w x): Rd true 9 85 5 (yP a b c d e f g h i j k l m n o p q r s t u v w x) (Nq a b c d e f g h i j k l m n o p q r s t u v w x):=rd (by kernel_rfl)
def wA (a b:Int) (c:List (V × V)) (d e:List V): S:=⟨[V.ptr 0 0 0,V.junk,V.own 5,V.own 6]++(JU 43),(tm a b c d++[O.row 80 [] 0,O.row 80 e 0])⟩
def kJ (a:List V) (b c d e:Int) (f:List (V × V)) (g h i:List V): S:=⟨[V.ptr 0 0 0,V.junk,V.own 5,V.own 6,V.own 7]++(JU 15)++[V.sl a,V.int .i64 b,V.int .i64 c]++(JU 24),(tm d e f g++[O.row 80 [] 0,O.row 80 h 0,O.row 3 i 0])⟩
noncomputable def SK (a b:Int) (c:List (V × V)) (d:List V): R :=
 some (.head 0 (wA a b c d [V.sl [V.int .i64 a]]))
theorem SL (a b c d): Ec 87 5 aH [V.ptr 0 0 0] (tm a b c d) (SK a b c d):=ec (by kernel_rfl) (by kernel_rfl)
noncomputable def Nt (c d:Int) (e:List (V × V)) (f a:List V): R :=
 gd (decide (0<=W .i64 ((a.length:Int) - 1))) <|
 gd (decide ((W .i64 ((a.length:Int) - 1)).toNat < a.length)) <|
 aY a ((W .i64 ((a.length:Int) - 1)).toNat) fun g =>
 kL g fun b =>
 some (.head 1 (kJ b (b.length:Int) 0 c d e f a []))
theorem Ys (a b c d e): Rd true 5 87 0 (wA a b c d e) (Nt a b c d e):=rd (by kernel_rfl)
noncomputable def xR (h:List V) (i g a b:Int) (c:List (V × V)) (d f e:List V): R :=
 cond (decide (g < i))
 (gd (decide (0<=g)) <|
  aY h g.toNat fun k =>
  kI .i64 k fun l =>
  fV aA aH (fp (tm a b c d)) (fq (tm a b c d)) (fK (tm a b c d)) 82 [V.ptr 0 0 0,V.int .i64 l] (tm a b c d)
 (fun m =>
  bT (tm a b c d++[O.row 80 [] 0,O.row 80 f 0,O.row 3 e 0]) <|
  some (.head 1 (kJ h i (W .i64 (g+1)) a b c d f e)))
 (fun j =>
  bT (tm a b c d++[O.row 80 [] 0,O.row 80 f 0,O.row 3 e 0]) <|
  gd (dp 1 j.2.1) <|
  gd (decide (e.length+j.2.1.length<=16777216)) <|
  some (.head 1 (kJ h i (W .i64 (g+1)) a b c d f (e++j.2.1))))
 (fun n =>
  bT (tm a b c d++[O.row 80 [] 0,O.row 80 f 0,O.row 3 e 0]) <|
  some (.head 1 (kJ h i (W .i64 (g+1)) a b c d f e))))
 (cond ((e.length:Int)==(0:Int))
 (some (.doneM (V.own 5) (tm a b c d++[O.row 80 f 0])))
 (gd (decide (f.length+([V.sl e]:List V).length<=16777216)) <|
  some (.head 0 (wA a b c d (f++[V.sl e])))))
theorem A9 (a b c d e f g h i): Rd true 5 87 1 (kJ a b c d e f g h i) (xR a b c d e f g h i):=rd (by kernel_rfl)
def uh (a:List V) (b:Int) (c:List V) (d e:Int): S:=⟨[V.sl a,V.junk,V.own 0,V.int .i64 b]++(JU 5)++[V.sl c,V.int .i64 d,V.int .i64 e]++(JU 24),[O.row 3 [] 0]⟩
def BU (a:Nat) (b:List V) (c:Int) (d:List V): S:=⟨[V.junk,V.junk,V.own 0,V.junk,V.junk,V.junk,V.win 1 0 a]++(JU 18)++[V.sl b,V.int .i64 c,V.int .i64 0]++(JU 8),[O.row 3 [] 0,O.row 3 d 0]⟩
def OY (a:List V) (b c:Int) (d:List V): S:=⟨[V.junk,V.junk,V.own 0,V.junk,V.junk,V.junk,V.own 1]++(JU 18)++[V.sl a,V.int .i64 b,V.int .i64 c]++(JU 8),[O.row 3 [] 0,O.row 3 d 0]⟩
def wz (a:List V) (b c:Int) (d:List V): S:=⟨[V.junk,V.junk,V.own 0,V.junk,V.junk,V.junk,V.tail 1 0]++(JU 18)++[V.sl a,V.int .i64 b,V.int .i64 c]++(JU 8),[O.row 3 [] 0,O.row 3 d 0]⟩
noncomputable def Jn (a:List V): R :=
 some (.head 0 (uh a 0 a (a.length:Int) 0))
theorem SJ (a): Ec 86 0 ⟨true,false,false,[]⟩ [V.sl a] [] (Jn a):=ec (by kernel_rfl) (by kernel_rfl)
noncomputable def A8 (b:List V) (a:Int) (d:List V) (e c:Int): R :=
 cond (decide (c < e))
 (gd (decide (0<=c)) <|
  aY d c.toNat fun g =>
  kL g fun f =>
  cond (decide (W .i64 (a+(f.length:Int)) < 0))
 (none)
 (some (.head 0 (uh b (W .i64 (a+(f.length:Int))) d e (W .i64 (c+1))))))
 (cond (decide (a < 0))
 (none)
 (cond (decide (W .i64 (a - 0) > 0))
 (gd (decide (0 < W .i64 (a - 0))) <|
  gd (decide (Int.toNat (W .i64 (a - 0))<=16777216)) <|
  gd (dp 1 (bE (Int.toNat (W .i64 (a - 0))) (V.int .i64 0))) <|
  some (.head 1 (BU (0 - 0) b (b.length:Int) (bE (Int.toNat (W .i64 (a - 0))) (V.int .i64 0)))))
 (some (.head 1 (OY b (b.length:Int) 0 [])))))
theorem Nr (a b c d e): Rd true 0 86 0 (uh a b c d e) (A8 a b c d e):=rd (by kernel_rfl)
noncomputable def Gd (a:Nat) (d:List V) (e:Int) (b:List V): R :=
 cond (decide (0 < e))
 (aY d 0 fun f =>
  kL f fun c =>
  gd (dp 1 c) <|
  gd (decide (0+a<=b.length)) <|
  gd (decide (a+c.length<=16777216)) <|
  some (.head 1 (wz d e 1 (((b.drop 0).take a)++c))))
 (some (.doneM (V.win 1 0 a) [O.row 3 [] 0,O.row 3 b 0]))
theorem Yr (a b c d): Rd true 0 86 1 (BU a b c d) (Gd a b c d):=rd (by kernel_rfl)
noncomputable def Ge (d:List V) (e a:Int) (b:List V): R :=
 cond (decide (a < e))
 (gd (decide (0<=a)) <|
  aY d a.toNat fun f =>
  kL f fun c =>
  gd (dp 1 c) <|
  gd (decide (b.length+c.length<=16777216)) <|
  some (.head 1 (wz d e (W .i64 (a+1)) (b++c))))
 (some (.doneM (V.tail 1 0) [O.row 3 [] 0,O.row 3 b 0]))
theorem Ns (a b c d): Rd true 0 86 1 (wz a b c d) (Ge a b c d):=rd (by kernel_rfl)
def wB (a:List V) (b:Int) (c d:List V): S:=⟨[V.junk,V.ptr 2 0 0,V.own 3,V.ptr 4 0 0,V.junk,V.junk,V.rest [3] a]++(JU 9),(bm b c++[O.box 135 (V.ptr 0 0 0) false,O.row 3 [] 0,O.box 80 (V.tail 5 0) false,O.row 3 d 0])⟩
noncomputable def Jp (a:Int) (b:List V): R :=
 bh (vq [V.ref (V.ref (V.agg [V.unk,V.int .i64 a]) 0) 0,V.ref (V.int .i64 0) 0]) fun c =>
 some (.head 0 (wB (c.map V.tup) a b []))
theorem SO (a b): Ec 90 2 aH [V.ptr 0 0 0] (bm a b) (Jp a b):=ec (by kernel_rfl) (by kernel_rfl)
noncomputable def Gf (g:List V) (a:Int) (b c:List V): R :=
 jJ g
 (some (.doneM (V.tail 5 0) (bm a b++[O.box 135 (V.ptr 0 0 0) false,O.row 3 [] 0,O.box 80 (V.tail 5 0) false,O.row 3 c 0]))) fun h f =>
  kT h fun d=>bO d fun i d=>kI .i64 i fun e =>
  dR d<|c7 aA aH l8 137 [V.ptr 0 0 0,V.int .i64 e] (bm a b) fun j =>
  bT (bm a b++[O.box 135 (V.ptr 0 0 0) false,O.row 3 [] 0,O.box 80 (V.tail 5 0) false,O.row 3 c 0]) <|
  cond j
 (gd (decide (c.length+([V.int .i64 e]:List V).length<=16777216)) <|
  some (.head 0 (wB f a b (c++[V.int .i64 e]))))
 (some (.head 0 (wB f a b c)))
theorem Gg (a b c d): Rd true 2 90 0 (wB a b c d) (Gf a b c d):=rd (by kernel_rfl)
noncomputable def zw (m d a:Int) (b:List (V × V)) (c:List V): R :=
 c7 aA aH ky 58 [V.ptr 0 0 0,V.int .i64 m] (sm a b c) fun h =>
 bT (tm d a b c) <|
 cond (h.2 != (0:Int))
 (some (.doneM (V.nilI) (tm d a b c)))
 (aE aA 129 [V.str h.1] fun n =>
  oo n fun e f g o =>
  cond (o==(0:Int))
 (some (.doneM (V.ifc 120 (V.agg [V.sl e,V.str f,V.int .i64 g])) (tm d a b c++[O.row 41 [] 0,O.box 120 (V.agg [V.sl e,V.str f,V.int .i64 g]) false])))
 (aE aA 130 [V.str h.1] fun p =>
  pP p fun i j k l q =>
  cond (q==(0:Int))
 (some (.doneM (V.ifc 150 (V.agg [V.sl i,V.sl j,V.str k,V.int .i64 l])) (tm d a b c++[O.row 41 [] 0,O.box 120 (V.agg [V.sl e,V.str f,V.int .i64 g]) false,O.row 9 [] 0,O.row 3 [] 0,O.box 150 (V.agg [V.sl i,V.sl j,V.str k,V.int .i64 l]) false])))
 (some (.doneM (V.nilI) (tm d a b c++[O.row 41 [] 0,O.box 120 (V.agg [V.sl e,V.str f,V.int .i64 g]) false,O.row 9 [] 0,O.row 3 [] 0,O.box 150 (V.agg [V.sl i,V.sl j,V.str k,V.int .i64 l]) false])))))
theorem C9 (a b c d e): Ec 82 5 aH [V.ptr 0 0 0,V.int .i64 a] (tm b c d e) (zw a b c d e):=ec (by kernel_rfl) (by kernel_rfl)
noncomputable def Jo (a:Int) (b:List V): R :=
 c7 aA aH oO 90 [V.ptr 0 0 0] (bm a b) fun c =>
 bT (bm a b) <|
 some (.doneM (V.int .i64 (W .i64 (a - (c.length:Int)))) (bm a b))
theorem SN (a b): Ec 89 2 aH [V.ptr 0 0 0] (bm a b) (Jo a b):=ec (by kernel_rfl) (by kernel_rfl)
noncomputable def Jq (a:Int) (c:List V): R :=
 aT aA ⟨true,false,false,[]⟩ qx 139 [V.tail 0 0] [O.row 5 c 0] fun b =>
 some (.doneM (V.ptr 3 0 0) (bm a b.1++[O.row 5 b.2 0,O.box 192 (V.agg [V.tail 2 0,V.int .i64 a]) false]))
theorem SP (a b): Ec 96 2 ⟨true,false,true,[1000192]⟩ [V.ptr 0 0 0] (bm a b) (Jq a b):=ec (by kernel_rfl) (by kernel_rfl)
noncomputable def IW (a c:Int) (b:List V): R :=
 cond (decide (a ≥ 0))
 (cond (decide (a < c))
 (gd (decide (0<=W .i64 ((a.tdiv 8)))) <|
  gd (decide ((W .i64 ((a.tdiv 8))).toNat < b.length)) <|
  aY b (0+((W .i64 ((a.tdiv 8))).toNat)) fun d =>
  kI .u8 d fun e =>
  aE aA 193 [V.int .i64 a] fun f =>
  kI .u8 f fun g =>
  some (.doneM (V.bool ((W .u8 (((BitVec.ofInt (IntKind.bits .u8) e &&& BitVec.ofInt (IntKind.bits .u8) g).toNat:Int))) != (0:Int))) (bm c b)))
 (some (.doneM (V.bool false) (bm c b))))
 (some (.doneM (V.bool false) (bm c b)))
theorem Rl (a b c): Ec 137 2 aH [V.ptr 0 0 0,V.int .i64 a] (bm b c) (IW a b c):=ec (by kernel_rfl) (by kernel_rfl)
noncomputable def I4 (a c:Int) (b:List V): R :=
 cond (decide (a ≥ 0))
 (cond (!(decide (a < c)))
 (some (.doneM (V.int .i64 1) (bm c b)))
 (c7 aA aH l8 137 [V.ptr 0 0 0,V.int .i64 a] (bm c b) fun d =>
  bT (bm c b) <|
  cond d
 (some (.doneM (V.int .i64 8) (bm c b)))
 (gd (decide (0<=W .i64 ((a.tdiv 8)))) <|
  gd (decide ((W .i64 ((a.tdiv 8))).toNat < b.length)) <|
  aY b (0+((W .i64 ((a.tdiv 8))).toNat)) fun e =>
  kI .u8 e fun f =>
  aE aA 193 [V.int .i64 a] fun g =>
  kI .u8 g fun h =>
  gd (decide (0<=W .i64 ((a.tdiv 8)))) <|
  gd (decide ((W .i64 ((a.tdiv 8))).toNat < b.length)) <|
  aY b (0+((W .i64 ((a.tdiv 8))).toNat)) fun i =>
  kI .u8 i fun j =>
  some (.doneM (V.int .i64 0) (bm c (((b).set (0+((W .i64 ((a.tdiv 8))).toNat)) (V.int .u8 (W .u8 (((BitVec.ofInt (IntKind.bits .u8) f ||| BitVec.ofInt (IntKind.bits .u8) h).toNat:Int)))))))))))
 (some (.doneM (V.int .i64 1) (bm c b)))
theorem RO (a b c): Ec 180 2 aH [V.ptr 0 0 0,V.int .i64 a] (bm b c) (I4 a b c):=ec (by kernel_rfl) (by kernel_rfl)
def wh (a:List V) (b c:Int) (d:List (V × V)) (e:List V) (f:List UInt8) (g h:Int): S:=⟨(JU 5)++[V.ptr 5 0 0,V.junk,V.ptr 6 0 0,V.ptr 7 0 0,V.ptr 8 0 0]++(JU 11)++[V.rest [3,176] a]++(JU 91),(tm b c d e++[O.box 24 (V.ptr 0 0 0) false,O.box 9 (V.str f) false,O.box 3 (V.int .i64 g) false,O.box 3 (V.int .i64 h) false])⟩
noncomputable def IN (a:List V) (b:List UInt8) (c d e f:Int) (g:List (V × V)) (h:List V): R :=
 bh (yV [V.ref (V.sl a) 0]) fun i =>
 some (.head 0 (wh (i.map V.tup) e f g h b c d))
theorem Q9 (a b c d e f g h): Ec 123 5 aH [V.ptr 0 0 0,V.sl a,V.str b,V.int .i64 c,V.int .i64 d] (tm e f g h) (IN a b c d e f g h):=ec (by kernel_rfl) (by kernel_rfl)
noncomputable def xK (af:List V) (m n:Int) (o:List (V × V)) (p:List V) (b:List UInt8) (q c:Int): R :=
 jJ af
 (aT aA aH lw 84 [V.ptr 0 0 0] (sm n o p) fun d =>
  aT aA aH eo 78 [V.ptr 0 0 0,V.int .i64 d.1,V.ifc 150 (V.agg [V.sl [V.str b],V.sl [V.int .i64 q,V.int .i64 c],V.str [],V.int .i64 0])] (tm d.1 d.2.2.1 d.2.2.2.1 d.2.2.2.2) fun g =>
  some (.doneM (V.tup []) (tm g.1 g.2.1 g.2.2.1 g.2.2.2++[O.box 24 (V.ptr 0 0 0) false,O.box 9 (V.str b) false,O.box 3 (V.int .i64 q) false,O.box 3 (V.int .i64 c) false]))) fun ag s =>
  kT ag fun e=>bO e fun ah e=>kI .i64 ah fun a2 =>
  bO e fun ai e=>kX ai fun f t u v w a3 =>
  dR e<|aE aA 167 [V.agg [V.sl t,V.sl u,V.str v,V.int .i64 w],V.str b,V.int .i64 c] fun aj =>
  pP aj fun ak al am an ao =>
  cond (ao==(0:Int))
 (aT aA aH eo 78 [V.ptr 0 0 0,V.int .i64 f,V.ifc 150 (V.agg [V.sl ak,V.sl al,V.str am,V.int .i64 an])] (tm m n o p) fun h =>
  some (.doneM (V.tup []) (tm h.1 h.2.1 h.2.2.1 h.2.2.2++[O.box 24 (V.ptr 0 0 0) false,O.box 9 (V.str b) false,O.box 3 (V.int .i64 q) false,O.box 3 (V.int .i64 c) false])))
 (aT aA aH lw 84 [V.ptr 0 0 0] (sm n o p) fun a =>
  aE aA 168 [V.agg [V.sl t,V.sl u,V.str v,V.int .i64 w],V.int .i64 a.1] fun ap =>
  zg ap fun x y z aa ab ac ad ae r a4 =>
  cond (Op.bytesLess b r)
 (aE aA 167 [V.agg [V.sl x,V.sl y,V.str z,V.int .i64 aa],V.str b,V.int .i64 c] fun aq =>
  pP aq fun ar au av aw a5 =>
  aT aA aH eo 78 [V.ptr 0 0 0,V.int .i64 f,V.ifc 150 (V.agg [V.sl ar,V.sl au,V.str av,V.int .i64 aw])] (tm m a.2.2.1 a.2.2.2.1 a.2.2.2.2) fun i =>
  aT aA aH eo 78 [V.ptr 0 0 0,V.int .i64 a.1,V.ifc 150 (V.agg [V.sl ab,V.sl ac,V.str ad,V.int .i64 ae])] (tm i.1 i.2.1 i.2.2.1 i.2.2.2) fun j =>
  some (.head 0 (wh s j.1 j.2.1 j.2.2.1 j.2.2.2 r f a.1)))
 (aE aA 167 [V.agg [V.sl ab,V.sl ac,V.str ad,V.int .i64 ae],V.str b,V.int .i64 c] fun ax =>
  pP ax fun ay az a0 a1 a6 =>
  aT aA aH eo 78 [V.ptr 0 0 0,V.int .i64 f,V.ifc 150 (V.agg [V.sl x,V.sl y,V.str z,V.int .i64 aa])] (tm m a.2.2.1 a.2.2.2.1 a.2.2.2.2) fun k =>
  aT aA aH eo 78 [V.ptr 0 0 0,V.int .i64 a.1,V.ifc 150 (V.agg [V.sl ay,V.sl az,V.str a0,V.int .i64 a1])] (tm k.1 k.2.1 k.2.2.1 k.2.2.2) fun l =>
  some (.head 0 (wh s l.1 l.2.1 l.2.2.1 l.2.2.2 r f a.1))))
theorem MR (a b c d e f g h): Rd true 5 123 0 (wh a b c d e f g h) (xK a b c d e f g h):=rd (by kernel_rfl)
def wi (a:List V) (b c d e:Int) (f:List (V × V)) (g:List V): S:=⟨[V.ptr 0 0 0,V.sl a,V.int .i64 b,V.junk,V.junk,V.junk,V.own 5,V.int .i64 c]++(JU 72),(tm d e f g++[O.row 3 [] 0])⟩
def tW (a b c d e f:Int) (g:List (V × V)) (h i:List V): S:=⟨[V.ptr 0 0 0,V.junk,V.int .i64 a,V.junk,V.junk,V.junk,V.own 5,V.junk,V.int .i64 b,V.own 6]++(JU 39)++[V.int .i64 c,V.int .i64 d]++(JU 29),(tm e f g h++[O.row 3 [] 0,O.row 3 i 0])⟩
noncomputable def CE (a:List V) (b c d:Int) (e:List (V × V)) (f:List V): R :=
 some (.head 0 (wi a b (W .i64 ((a.length:Int) - 1)) c d e f))
theorem IP (a b c d e f): Ec 124 5 aH [V.ptr 0 0 0,V.sl a,V.int .i64 b] (tm c d e f) (CE a b c d e f):=ec (by kernel_rfl) (by kernel_rfl)
noncomputable def xL (b:List V) (g a c d:Int) (e:List (V × V)) (f:List V): R :=
 cond (decide (a ≥ 0))
 (gd (decide (0<=a)) <|
  aY b a.toNat fun l =>
  kX l fun v w x y z m =>
  cond (m==(0:Int))
 (some (.head 0 (wi b g (W .i64 (a - 1)) c d e f)))
 (cond (decide (a < 0))
 (some (.doneM (V.own 6) (tm c d e f++[O.row 3 [] 0,O.row 3 [] 0])))
 (gd (decide (0<=a)) <|
  aY b a.toNat fun n =>
  kX n fun aa ab o ac ad ae =>
  gd (decide (0<=a)) <|
  aY b a.toNat fun p =>
  kX p fun af ag ah ai aj h =>
  gd (decide (0<=W .i64 (h - 1))) <|
  aY o ((W .i64 (h - 1)).toNat) fun q =>
  kI .i64 q fun i =>
  some (.head 1 (tW g i (W .i64 ((W .i64 ((b.length:Int) - 1)) - a)) 0 c d e f [V.int .i64 i])))))
 (cond (decide (a < 0))
 (some (.doneM (V.own 6) (tm c d e f++[O.row 3 [] 0,O.row 3 [] 0])))
 (gd (decide (0<=a)) <|
  aY b a.toNat fun r =>
  kX r fun ak al s am an ao =>
  gd (decide (0<=a)) <|
  aY b a.toNat fun t =>
  kX t fun ap aq ar au av j =>
  gd (decide (0<=W .i64 (j - 1))) <|
  aY s ((W .i64 (j - 1)).toNat) fun u =>
  kI .i64 u fun k =>
  some (.head 1 (tW g k (W .i64 ((W .i64 ((b.length:Int) - 1)) - a)) 0 c d e f [V.int .i64 k]))))
theorem AV (a b c d e f g): Rd true 5 124 0 (wi a b c d e f g) (xL a b c d e f g):=rd (by kernel_rfl)
noncomputable def FF (f l j k a b:Int) (c:List (V × V)) (d g:List V): R :=
 cond (decide (k < j))
 (fV aA aH (fp (tm a b c d)) (fq (tm a b c d)) (fK (tm a b c d)) 82 [V.ptr 0 0 0,V.int .i64 l] (tm a b c d)
 (fun n =>
  bT (tm a b c d++[O.row 3 [] 0,O.row 3 g 0]) <|
  none)
 (fun h =>
  bT (tm a b c d++[O.row 3 [] 0,O.row 3 g 0]) <|
  gd (decide (0<=W .i64 ((h.2.1.length:Int) - 1))) <|
  aY h.2.1 ((W .i64 ((h.2.1.length:Int) - 1)).toNat) fun m =>
  kI .i64 m fun i =>
  gd (decide (g.length+([V.int .i64 i]:List V).length<=16777216)) <|
  some (.head 1 (tW f i j (W .i64 (k+1)) a b c d (g++[V.int .i64 i]))))
 (fun o =>
  bT (tm a b c d++[O.row 3 [] 0,O.row 3 g 0]) <|
  none))
 (aT aA aH sI 169 [V.own 0] [O.row 3 g 0] fun e =>
  gd (dp 1 e) <|
  gd (decide (0<=(if (e.length:Int) < f then (e.length:Int) else f))) <|
  gd (decide ((if (e.length:Int) < f then (e.length:Int) else f).toNat<=e.length)) <|
  some (.doneM (V.win 6 0 (((if (e.length:Int) < f then (e.length:Int) else f).toNat) - 0)) (tm a b c d++[O.row 3 [] 0,O.row 3 e 0])))
theorem MS (a b c d e f g h i): Rd true 5 124 1 (tW a b c d e f g h i) (FF a b c d e f g h i):=rd (by kernel_rfl)
noncomputable def IQ (b d:Int) (c:List (V × V)) (e:List V): R :=
 aT aA aH sJ 174 [V.ptr 0 0 0,V.int .i64 b] (bm d e) fun a =>
 cond (a.1==(0:Int))
 (bh (lr c (V.int .i64 b)) fun f =>
  some (.doneM (V.int .i64 a.1) (sm a.2.1 f a.2.2)))
 (some (.doneM (V.int .i64 a.1) (sm a.2.1 c a.2.2)))
theorem Rc (a b c d): Ec 127 4 aH [V.ptr 0 0 0,V.int .i64 a] (sm b c d) (IQ a b c d):=ec (by kernel_rfl) (by kernel_rfl)
def yD (a b:Int) (c:List (V × V)) (d:List V): S:=⟨[V.ptr 0 0 0]++(JU 37),(tm a b c d)⟩
noncomputable def Re (a b:Int) (c:List (V × V)) (d:List V): R :=
 some (.head 0 (yD a b c d))
theorem Rf (a b c d): Ec 128 5 aH [V.ptr 0 0 0] (tm a b c d) (Re a b c d):=ec (by kernel_rfl) (by kernel_rfl)
noncomputable def AW (a b:Int) (c:List (V × V)) (d:List V): R :=
 fV aA aH (fp (tm a b c d)) (fq (tm a b c d)) (fK (tm a b c d)) 82 [V.ptr 0 0 0,V.int .i64 a] (tm a b c d)
 (fun i =>
  bT (tm a b c d) <|
  some (.doneM (V.tup []) (tm a b c d)))
 (fun f =>
  bT (tm a b c d) <|
  cond (decide ((f.2.1.length:Int) > 1))
 (some (.doneM (V.tup []) (tm a b c d)))
 (aT aA aH qw 127 [V.ptr 0 0 0,V.int .i64 a] (sm b c d) fun e =>
  aY f.2.1 0 fun g =>
  kI .i64 g fun h =>
  some (.head 0 (yD h e.2.1 e.2.2.1 e.2.2.2))))
 (fun j =>
  bT (tm a b c d) <|
  some (.doneM (V.tup []) (tm a b c d)))
theorem FG (a b c d): Rd true 5 128 0 (yD a b c d) (AW a b c d):=rd (by kernel_rfl)
def Hw (a b:Int) (c d:List UInt8) (e:Int) (f:List (V × V)) (g h:List V): S:=⟨[V.ptr 0 0 0,V.int .i64 a,V.int .i64 b,V.str c,V.str d,V.int .i64 e]++(JU 6)++[V.bool false]++(JU 65),(fm f g h)⟩
def yF (a b:Int) (c d:List UInt8) (e:Int) (f:List (V × V)) (g h:List V): S:=⟨[V.ptr 0 0 0,V.int .i64 a,V.int .i64 b,V.str c,V.str d,V.int .i64 e]++(JU 6)++[V.bool false]++(JU 65),[O.box 144 (V.agg [V.mp 1,V.tail 4 0,V.tail 5 0]) false,O.map f,O.dead,O.dead,O.row 3 g 0,O.row 9 h 0]⟩
noncomputable def Rk (a b:Int) (c d:List UInt8) (e:Int) (f:List (V × V)) (g h:List V): R :=
 some (.head 0 (Hw a b c d e f g h))
theorem IV (a b c d e f g h): Ec 132 4 ⟨true,false,true,[3,9]⟩ [V.ptr 0 0 0,V.int .i64 a,V.int .i64 b,V.str c,V.str d,V.int .i64 e] (fm f g h) (Rk a b c d e f g h):=ec (by kernel_rfl) (by kernel_rfl)
noncomputable def xM (a d:Int) (e f:List UInt8) (g:Int) (h:List (V × V)) (b c:List V): R :=
 cond (decide ((b.length:Int)<=a))
 (gd (decide (b.length+([V.int .i64 (W .i64 (d+1))]:List V).length<=16777216)) <|
  gd (decide (c.length+([V.str e]:List V).length<=16777216)) <|
  some (.head 0 (yF a d e f g h (b++[V.int .i64 (W .i64 (d+1))]) (c++[V.str e]))))
 (gd (decide (0<=a)) <|
  gd (decide (a.toNat < b.length)) <|
  aY b (0+a.toNat) fun i =>
  kI .i64 i fun j =>
  cond (j==(W .i64 (d+1)))
 (gd (decide (0<=a)) <|
  gd (decide (a.toNat < c.length)) <|
  aY c (0+a.toNat) fun k =>
  kS k fun l =>
  gd (decide (0<=a)) <|
  gd (decide (a.toNat < b.length)) <|
  aY b (0+a.toNat) fun m =>
  kI .i64 m fun q =>
  gd (decide (0<=a)) <|
  gd (decide (a.toNat < c.length)) <|
  aY c (0+a.toNat) fun n =>
  kS n fun r =>
  some (.doneM (V.bool (l==e)) (fm h (((b).set (0+a.toNat) (V.int .i64 g))) (((c).set (0+a.toNat) (V.str f))))))
 (gd (decide (0<=a)) <|
  gd (decide (a.toNat < b.length)) <|
  aY b (0+a.toNat) fun o =>
  kI .i64 o fun s =>
  gd (decide (0<=a)) <|
  gd (decide (a.toNat < c.length)) <|
  aY c (0+a.toNat) fun p =>
  kS p fun t =>
  some (.doneM (V.bool false) (fm h (((b).set (0+a.toNat) (V.int .i64 g))) (((c).set (0+a.toNat) (V.str f)))))))
theorem MV (a b c d e f g h): Rd true 4 132 0 (Hw a b c d e f g h) (xM a b c d e f g h):=rd (by kernel_rfl)
noncomputable def FI (a d:Int) (e f:List UInt8) (g:Int) (h:List (V × V)) (b c:List V): R :=
 cond (decide ((b.length:Int)<=a))
 (gd (decide (b.length+([V.int .i64 (W .i64 (d+1))]:List V).length<=16777216)) <|
  gd (decide (c.length+([V.str e]:List V).length<=16777216)) <|
  some (.head 0 (yF a d e f g h (b++[V.int .i64 (W .i64 (d+1))]) (c++[V.str e]))))
 (gd (decide (0<=a)) <|
  gd (decide (a.toNat < b.length)) <|
  aY b (0+a.toNat) fun i =>
  kI .i64 i fun j =>
  cond (j==(W .i64 (d+1)))
 (gd (decide (0<=a)) <|
  gd (decide (a.toNat < c.length)) <|
  aY c (0+a.toNat) fun k =>
  kS k fun l =>
  gd (decide (0<=a)) <|
  gd (decide (a.toNat < b.length)) <|
  aY b (0+a.toNat) fun m =>
  kI .i64 m fun q =>
  gd (decide (0<=a)) <|
  gd (decide (a.toNat < c.length)) <|
  aY c (0+a.toNat) fun n =>
  kS n fun r =>
  some (.doneM (V.bool (l==e)) [O.box 144 (V.agg [V.mp 1,V.tail 4 0,V.tail 5 0]) false,O.map h,O.dead,O.dead,O.row 3 ((b).set (0+a.toNat) (V.int .i64 g)) 0,O.row 9 ((c).set (0+a.toNat) (V.str f)) 0]))
 (gd (decide (0<=a)) <|
  gd (decide (a.toNat < b.length)) <|
  aY b (0+a.toNat) fun o =>
  kI .i64 o fun s =>
  gd (decide (0<=a)) <|
  gd (decide (a.toNat < c.length)) <|
  aY c (0+a.toNat) fun p =>
  kS p fun t =>
  some (.doneM (V.bool false) [O.box 144 (V.agg [V.mp 1,V.tail 4 0,V.tail 5 0]) false,O.map h,O.dead,O.dead,O.row 3 ((b).set (0+a.toNat) (V.int .i64 g)) 0,O.row 9 ((c).set (0+a.toNat) (V.str f)) 0])))
theorem Yb (a b c d e f g h): Rd true 4 132 0 (yF a b c d e f g h) (FI a b c d e f g h):=rd (by kernel_rfl)
def wu (a b:Int) (c:List V): S:=⟨[V.own 0,V.junk,V.int .i64 a,V.int .i64 b]++(JU 24),[O.row 3 c 0]⟩
noncomputable def I1 (a:List V): R :=
 some (.head 0 (wu 0 (W .i64 ((a.length:Int) - 1)) a))
theorem RI (a): Ec 169 1 aH [V.own 0] [O.row 3 a 0] (I1 a):=ec (by kernel_rfl) (by kernel_rfl)
noncomputable def FQ (a c:Int) (b:List V): R :=
 cond (decide (a < c))
 (gd (decide (0<=c)) <|
  gd (decide (c.toNat < b.length)) <|
  aY b c.toNat fun e =>
  kI .i64 e fun d =>
  gd (decide (0<=a)) <|
  gd (decide (a.toNat < b.length)) <|
  aY b a.toNat fun f =>
  kI .i64 f fun g =>
  gd (decide (0<=a)) <|
  gd (decide (a.toNat < b.length)) <|
  aY b a.toNat fun h =>
  kI .i64 h fun j =>
  gd (decide (0<=c)) <|
  gd (decide (c.toNat < ((b).set a.toNat (V.int .i64 d)).length)) <|
  aY ((b).set a.toNat (V.int .i64 d)) c.toNat fun i =>
  kI .i64 i fun k =>
  some (.head 0 (wu (W .i64 (a+1)) (W .i64 (c - 1)) (((b).set a.toNat (V.int .i64 d)).set c.toNat (V.int .i64 g)))))
 (some (.doneM (V.tup []) [O.row 3 b 0]))
theorem M3 (a b c): Rd true 1 169 0 (wu a b c) (FQ a b c):=rd (by kernel_rfl)
noncomputable def I2 (a c:Int) (b:List V): R :=
 cond (decide (a ≥ 0))
 (cond (!(decide (a < c)))
 (some (.doneM (V.int .i64 1) (bm c b)))
 (c7 aA aH l8 137 [V.ptr 0 0 0,V.int .i64 a] (bm c b) fun d =>
  bT (bm c b) <|
  cond (!d)
 (some (.doneM (V.int .i64 7) (bm c b)))
 (gd (decide (0<=W .i64 ((a.tdiv 8)))) <|
  gd (decide ((W .i64 ((a.tdiv 8))).toNat < b.length)) <|
  aY b (0+((W .i64 ((a.tdiv 8))).toNat)) fun e =>
  kI .u8 e fun f =>
  aE aA 193 [V.int .i64 a] fun g =>
  kI .u8 g fun h =>
  gd (decide (0<=W .i64 ((a.tdiv 8)))) <|
  gd (decide ((W .i64 ((a.tdiv 8))).toNat < b.length)) <|
  aY b (0+((W .i64 ((a.tdiv 8))).toNat)) fun i =>
  kI .u8 i fun j =>
  some (.doneM (V.int .i64 0) (bm c (((b).set (0+((W .i64 ((a.tdiv 8))).toNat)) (V.int .u8 (W .u8 (((BitVec.ofInt (IntKind.bits .u8) f &&& ~~~(BitVec.ofInt (IntKind.bits .u8) h)).toNat:Int)))))))))))
 (some (.doneM (V.int .i64 1) (bm c b)))
theorem RJ (a b c): Ec 174 2 aH [V.ptr 0 0 0,V.int .i64 a] (bm b c) (I2 a b c):=ec (by kernel_rfl) (by kernel_rfl)
set_option linter.unusedSimpArgs false
abbrev cT (s:Bs):Prop:=s.length < 4294967296
def xt (s:Bs) (n:Int):Int:=if 0<=n/\n<=(s.length:Int) then 0 else 1
def jL (s:Bs) (n size:Int):Int:=if size < 1∨8 < size∨¬(0<=n/\n<=(s.length:Int)) then 1 else if (s.length:Int) - n < size then 3 else 0
theorem Mv {s:Bs} {n size:Int} (h:jL s n size=0):1<=size/\size<=8/\0<=n/\n+size<=(s.length:Int):=by
 unfold jL at h
 split at h
 ·cases h
 ·split at h
  ·cases h
  ·omega
theorem xF {s:Bs} {n size:Int} (h1:1<=size) (h2:size<=8) (h3:0<=n) (h4:n+size<=(s.length:Int)):jL s n size=0:=by
 unfold jL
 rw [if_neg (by omega),if_neg (by omega)]
theorem EW (s:Bs) (n:Int):bK aA 113 [.str s,.int .i64 n]=some (.int .i64 (xt s n)):=by
 refine QV _ _ ?_
 unfold Cw xt
 by_cases h1:n < 0
 ·rw [decide_eq_true h1,if_neg (by omega)];rfl
 ·rw [decide_eq_false h1]
  by_cases h2:n > (s.length:Int)
  ·rw [decide_eq_true h2,if_neg (by omega)];rfl
  ·rw [decide_eq_false h2,if_pos (by omega)];rfl
theorem xG (s:Bs) (n size:Int) (hs:cT s):bK aA 208 [.str s,.int .i64 n,.int .i64 size]=some (.int .i64 (jL s n size)):=by
 refine R5 _ _ _ ?_
 unfold CW jL
 rw [aK (EW s n),bU]
 by_cases h1:size < 1
 ·rw [decide_eq_true h1,if_pos (.inl h1)];rfl
 rw [decide_eq_false h1,cond_false]
 by_cases h2:size > 8
 ·rw [decide_eq_true h2,if_pos (.inr (.inl h2))];rfl
 rw [decide_eq_false h2,cond_false]
 unfold xt
 by_cases h3:0<=n/\n<=(s.length:Int)
 ·rw [if_pos h3,if_neg (by omega),aX (by omega)]
  by_cases h4:(s.length:Int) - n < size
  ·rw [decide_eq_true h4,if_pos h4];rfl
  ·rw [decide_eq_false h4,if_neg h4];rfl
 ·rw [if_neg h3,if_pos (.inr (.inr h3))];rfl
def fI (s:Bs) (n size:Int):Int × Int:=if jL s n size=0 then (((dH ((s.drop n.toNat).take size.toNat):Nat):Int),0) else (0,jL s n size)
theorem TQ (s:Bs) (n k:Nat) (hk:k<=8) (hl:n+k<=s.length) (hs:cT s):∀d i,i+d=k ->
  Go qk false 0 (fF 214) (.head 0 (tZ s (n:Int) ((dH ((s.drop n).take i):Nat):Int) (k:Int) (i:Int))) (.done (.tup [.int .u64 ((dH ((s.drop n).take k):Nat):Int),.int .i64 0])):=by
 intro d
 induction d with
 | zero =>
  intro i hi
  have:i=k:=by omega
  subst this
  refine Nc _ _ _ _ _ ?_ (.refl _)
  unfold FV
  rw [decide_eq_false (by omega)]
  rfl
 | succ d ih =>
  intro i hi
  have hsl:=hs
  have aC:n+i < s.length:=by omega
  obtain ⟨c,hc⟩:∃c,s[n+i]? = some c:=⟨_,bC aC⟩
  have hlen:((s.drop n).take i).length=i:=by simp;omega
  have e1:(s.drop n).take (i+1)=(s.drop n).take i++[c]:=by
   rw [Hm,gf,hc];rfl
  have hx:dH ((s.drop n).take i) < 256 ^ i:=by have:=Br ((s.drop n).take i);rwa [hlen] at this
  refine Nc _ _ _ _ _ (o:=.head 0 (tZ s (n:Int) ((dH ((s.drop n).take (i+1)):Nat):Int) (k:Int) ((i+1:Nat):Int))) ?_ (ih (i+1) (by omega))
  unfold FV
  have w1:W .i64 ((n:Int)+(i:Int))=((n+i:Nat):Int):=by rw [aX (by omega)];omega
  have w2:W .i64 (8 * (i:Int))=8 * (i:Int):=aX (by omega)
  have w3:W .i64 ((i:Int)+1)=((i+1:Nat):Int):=by rw [aX (by omega)];omega
  rw [decide_eq_true (by omega),cond_true,w1,aG (by simp;omega),bl,dk hc,Wz hx c.toNat_lt (by omega),w2,aG (by simp;omega),w3,e1,Oi,hlen]
theorem TS (s:Bs) (n size:Int) (hs:cT s):bK aA 214 [.str s,.int .i64 n,.int .i64 size]=some (.tup [.int .u64 (fI s n size).1,.int .i64 (fI s n size).2]):=by
 by_cases h:jL s n size=0
 ·obtain ⟨h1,h2,h3,h4⟩:=Mv h
  obtain ⟨k,rfl⟩:∃k:Nat,size=(k:Int):=⟨size.toNat,by omega⟩
  obtain ⟨m,rfl⟩:∃m:Nat,n=(m:Int):=⟨n.toNat,by omega⟩
  have hl:=TQ s m k (by omega) (by omega) hs k 0 (by omega)
  refine I5 _ _ _ ?_ (o:=.head 0 (tZ s (m:Int) 0 (k:Int) 0)) ?_
  ·unfold CX
   rw [aK (xG s _ _ hs),bU,h];rfl
  ·unfold fI
   rw [if_pos h]
   simpa [dH] using hl
 ·refine I5 _ _ _ ?_ (.refl _)
  unfold CX fI
  rw [aK (xG s _ _ hs),bU,if_neg h,lU h];rfl
def sY (s:Bs) (n size:Int) (x:Nat):Bs × Int:=if jL s n size=0 then (if x < 256 ^ size.toNat then (oR s n.toNat (bW size.toNat x),0) else ([],2)) else ([],jL s n size)
theorem WH {av:List V} {v:V} (h:u9 av=some v):bK aA 209 av=some v:=AD (g:=u9) rfl h
theorem LV (s:Bs) (n:Nat) (t:Bs) (h:n+t.length<=s.length) (l:List V) (ns:List Int) (hl:fM l=some ns) (ht:(ns.map fun x=>UInt8.ofNat x.toNat)=t) :
  bK aA 209 [.str s,.int .i64 (n:Int),.sl l]=some (.str (oR s n t)):=by
 apply WH
 have e:l.length=t.length:=by rw [<-ht,dO,(EM hl).1]
 simp only [u9,bl]
 rw [if_pos ⟨G9 _,by omega⟩,hl,cg,ht]
def putRow (x k i:Nat):List V:=(bW i x).map (fun b=>V.int .u8 (b.toNat:Int))++bE (k - i) (V.int .u8 0)
theorem Xf {x k i:Nat} (h:i<=k):(putRow x k i).length=k:=by simp [putRow,d5];omega
theorem Xi {x k i:Nat} (h:i < k):(putRow x k i).set i (V.int .u8 ((x / 256 ^ i % 256:Nat):Int))=putRow x k (i+1):=by
 unfold putRow
 rw [BO _ _ (by simp [d5])]
 simp only [dO,d5,iX]
 rw [show k - i=(k - (i+1))+1 by omega,List.replicate_succ,List.set_cons_zero,KH,gJ,bu]
 congr 1
 simp only [dj,iW,dv,dU,List.cons.injEq,V.int.injEq,true_and,and_true]
 simp
theorem Xl (s:Bs) (n k x:Nat) (hk:k<=8) (h1:1<=k) (hl:n+k<=s.length) (hs:cT s):∀d i,i+d=k ->
  Go qk false 0 (fF 161) (.head 0 (rp s (n:Int) (x:Int) (k:Int) (i:Int) (putRow x k i))) (.done (.tup [.str (oR s n (bW k x)),.int .i64 0])):=by
 intro d
 induction d with
 | zero =>
  intro i hi
  have:i=k:=by omega
  subst this
  refine MZ _ _ _ _ _ _ ?_ (.refl _)
  unfold FO
  have hrow:putRow x i i=dC (bW i x):=by simp [putRow,dC]
  rw [decide_eq_false (by omega),cond_false,aK (LV s n (bW i x) (by rw [d5];exact hl) _ _ (by rw [hrow];exact Av _) (Aw _)),eO]
 | succ d ih =>
  intro i hi
  have hsl:=hs
  refine MZ _ _ _ _ _ _ (o:=.head 0 (rp s (n:Int) (x:Int) (k:Int) ((i+1:Nat):Int) (putRow x k (i+1)))) ?_ (ih (i+1) (by omega))
  unfold FO
  have w2:W .i64 (8 * (i:Int))=8 * (i:Int):=aX (by omega)
  have w3:W .i64 ((i:Int)+1)=((i+1:Nat):Int):=by rw [aX (by omega)];omega
  have hget:(putRow x k i)[i]? = some (V.int .u8 0):=by
   unfold putRow
   rw [cY (by simp [d5])]
   simp only [dO,d5,iX]
   rw [List.getElem?_replicate,if_pos (by omega)]
  rw [Gl (by omega),HD]
  rw [decide_eq_true (by omega),cond_true,w2,aG (by simp;omega),aG (by simp),bl,aG (by rw [Xf (by omega)];simp;omega),dk hget,bU,Xi (by omega),w3]
theorem Xm (s:Bs) (n size:Int) (x:Nat) (hx:x < 18446744073709551616) (hs:cT s):bK aA 161 [.str s,.int .i64 n,.int .i64 size,.int .u64 (x:Int)]=some (.tup [.str (sY s n size x).1,.int .i64 (sY s n size x).2]):=by
 by_cases h:jL s n size=0
 ·obtain ⟨h1,h2,h3,h4⟩:=Mv h
  obtain ⟨k,rfl⟩:∃k:Nat,size=(k:Int):=⟨size.toNat,by omega⟩
  obtain ⟨m,rfl⟩:∃m:Nat,n=(m:Int):=⟨n.toNat,by omega⟩
  have w2:W .i64 (8 * (k:Int))=8 * (k:Int):=aX (by omega)
  have hfits:x < 256 ^ k↔x / 256 ^ k=0:=by rw [Nat.div_eq_zero_iff];constructor
                                           ·exact .inr
                                           ·rintro (h | h)
                                            ·exact absurd h (by have:=Nat.pow_pos (n:=k) (show 0 < 256 by decide);omega)
                                            ·exact h
  unfold sY
  rw [if_pos h,bl,bl]
  by_cases hb:x < 256 ^ k
  ·rw [if_pos hb]
   have hl:=Xl s m k x (by omega) (by omega) (by omega) hs k 0 (by omega)
   have hrow:putRow x k 0=bE k (V.int .u8 0):=by simp [putRow,bW]
   rw [hrow] at hl
   refine CJ _ _ _ _ ?_ (o:=.head 0 (rp s (m:Int) (x:Int) (k:Int) 0 (bE k (V.int .u8 0)))) (by simpa using hl)
   unfold zt
   rw [aK (xG s _ _ hs),bU,h]
   rw [Gl (by omega),hfits.1 hb,w2,bl]
   by_cases h8:(k:Int) < 8
   ·simp [h8,show ¬(8 * (k:Int) < 0) by omega]
    omega
   ·simp [h8]
    omega
  ·rw [if_neg hb]
   have h8:(k:Int) < 8:=by
    have:¬k=8:=by
     rintro rfl
     exact hb hx
    omega
   refine CJ _ _ _ _ ?_ (.refl _)
   unfold zt
   rw [aK (xG s _ _ hs),bU,h]
   rw [Gl (by omega),w2]
   have:0 < x / 256 ^ k:=Nat.pos_of_ne_zero fun e=>hb (hfits.2 e)
   have hp:(((x / 256 ^ k:Nat):Int) > 0):=by omega
   rw [decide_eq_true h8,decide_eq_true hp,decide_eq_false (show ¬(8 * (k:Int) < 0) by omega)]
   rfl
 ·refine CJ _ _ _ _ ?_ (.refl _)
  unfold zt sY
  rw [aK (xG s _ _ hs),bU,if_neg h,lU h];rfl
def f9 (s:Bs) (n:Int):Bs × Int × Int :=
 if 0<=n/\n<=(s.length:Int) then
  match s.drop n.toNat with
  | []=>([],0,3)
  | c::r=>if r.length < c.toNat then ([],0,3) else (r.take c.toNat,n+1+c.toNat,0)
 else ([],0,1)
theorem ZG (s:Bs) (n:Int) (hs:cT s):bK aA 71 [.str s,.int .i64 n]=some (.tup [.str (f9 s n).1,.int .i64 (f9 s n).2.1,.int .i64 (f9 s n).2.2]):=by
 refine Sl _ _ ?_
 have hsl:=hs
 unfold C3 f9
 rw [aK (EW s n),bU]
 unfold xt
 by_cases h:0<=n/\n<=(s.length:Int)
 ·rw [if_pos h,if_pos h]
  obtain ⟨m,rfl⟩:∃m:Nat,n=(m:Int):=⟨n.toNat,by omega⟩
  rw [bl]
  cases hd:s.drop m with
  | nil =>
   have:s.length<=m:=BI.1 hd
   rw [dV (show (m:Int)=(s.length:Int) by omega)]
   rfl
  | cons c r =>
   obtain ⟨h1,h2,h3⟩:=gl hd
   have hrl:r.length+m+1=s.length:=by
    have:=congrArg nY hd
    simp at this
    omega
   have hcl:=c.toNat_lt
   have w1:W .i64 (c.toNat:Int)=(c.toNat:Int):=aX (by omega)
   have w2:W .i64 (W .i64 ((s.length:Int) - (m:Int)) - 1)=(r.length:Int):=by
    rw [aX (n:=(s.length:Int) - (m:Int)) (by omega),aX (by omega)];omega
   have w3:W .i64 ((m:Int)+1)=((m+1:Nat):Int):=by rw [aX (by omega)];omega
   have w4:W .i64 (((m+1:Nat):Int)+(c.toNat:Int))=((m+1+c.toNat:Nat):Int):=by rw [aX (by omega)];omega
   rw [eK (show (m:Int)≠(s.length:Int) by omega)]
   simp only [dk h1,w1,w2,w3,w4,bl]
   by_cases hb:r.length < c.toNat
   ·rw [if_pos hb,decide_eq_true (show (r.length:Int) < (c.toNat:Int) by omega)]
    simp
   ·rw [if_neg hb,decide_eq_false (show ¬(r.length:Int) < (c.toNat:Int) by omega)]
    have e1:(s.take (m+1+c.toNat)).drop (m+1)=r.take c.toNat:=by
     rw [List.drop_take,show m+1+c.toNat - (m+1)=c.toNat by omega]
     congr 1
    rw [e1]
    simp
    omega
 ·rw [if_neg h,if_neg h];rfl
def sZ (s:Bs) (n:Int) (t:Bs):Bs × Int × Int :=
 if 0<=n/\n<=(s.length:Int) then
  if 255 < t.length then ([],0,2) else
  if (s.length:Int) - n < (t.length:Int)+1 then ([],0,3) else (oR s n.toNat (UInt8.ofNat t.length::t),n+t.length+1,0)
 else ([],0,1)
theorem Xj (s:Bs) (n:Int) (t:Bs) (hs:cT s) (ht:cT t) :
  bK aA 162 [.str s,.int .i64 n,.str t]=some (.tup [.str (sZ s n t).1,.int .i64 (sZ s n t).2.1,.int .i64 (sZ s n t).2.2]):=by
 refine Ry _ _ _ ?_
 have hsl:=hs
 have htl:=ht
 unfold CK sZ
 rw [aK (EW s n),bU]
 unfold xt
 by_cases h:0<=n/\n<=(s.length:Int)
 ·rw [if_pos h,if_pos h]
  obtain ⟨m,rfl⟩:∃m:Nat,n=(m:Int):=⟨n.toNat,by omega⟩
  rw [bl]
  have w1:W .i64 ((s.length:Int) - (m:Int))=(s.length:Int) - (m:Int):=aX (by omega)
  have w2:W .i64 ((t.length:Int)+1)=(t.length:Int)+1:=aX (by omega)
  rw [w1,w2,d0 rfl,cond_false]
  by_cases h2:255 < t.length
  ·rw [if_pos h2,decide_eq_true (show (t.length:Int) > 255 by omega)];rfl
  rw [if_neg h2,decide_eq_false (show ¬(t.length:Int) > 255 by omega),cond_false]
  by_cases h3:(s.length:Int) - (m:Int) < (t.length:Int)+1
  ·rw [if_pos h3,decide_eq_true h3];rfl
  rw [if_neg h3,decide_eq_false h3,cond_false]
  have w3:W .u8 ((t.length:Int))=((t.length:Nat):Int):=by rw [HD];omega
  have w4:W .i64 ((m:Int)+(t.length:Int))=(m:Int)+(t.length:Int):=aX (by omega)
  have w5:W .i64 ((m:Int)+(t.length:Int)+1)=(m:Int)+(t.length:Int)+1:=aX (by omega)
  have e1:fM ([V.int .u8 ((t.length:Nat):Int)]++dC t)=some (((t.length:Nat):Int)::t.map fun b=>(b.toNat:Int)):=by
   simp only [dv,dU,fM,Av,cg]
  have e2:((((t.length:Nat):Int)::t.map fun b=>(b.toNat:Int)).map fun x=>UInt8.ofNat x.toNat)=UInt8.ofNat t.length::t:=by
   rw [dj,Aw,bl]
  rw [w3,w4,w5,aG (Z8 t),aG (by simp [B9];omega),aK (LV s m (UInt8.ofNat t.length::t) (by simp;omega) _ _ e1 e2),eO]
 ·rw [if_neg h,if_neg h];rfl
def qF (s:Bs) (n:Int):Bs × Int:=if n < 0∨65536 < n then ([],1) else if n < (s.length:Int) then ([],2) else (s++bE (n.toNat - s.length) 0,0)
theorem Wl (k:Nat):fM (bE k (V.int .u8 0))=some (bE k 0):=by
 have:=Wk (bE k 0)
 rwa [Hh] at this
theorem WK (s:Bs) (n:Int) (hs:cT s):bK aA 160 [.str s,.int .i64 n]=some (.tup [.str (qF s n).1,.int .i64 (qF s n).2]):=by
 refine Rw _ _ ?_
 have hsl:=hs
 unfold CI qF
 by_cases h1:n < 0
 ·rw [decide_eq_true h1,if_pos (.inl h1)];rfl
 rw [decide_eq_false h1,cond_false]
 by_cases h2:n > 65536
 ·rw [decide_eq_true h2,if_pos (.inr h2)];rfl
 rw [decide_eq_false h2,cond_false,if_neg (by omega)]
 by_cases h3:(s.length:Int) > n
 ·rw [decide_eq_true h3,if_pos h3];rfl
 rw [decide_eq_false h3,cond_false,if_neg h3]
 obtain ⟨k,rfl⟩:∃k:Nat,n=((s.length+k:Nat):Int):=⟨(n - s.length).toNat,by omega⟩
 have w:W .i64 (((s.length+k:Nat):Int) - (s.length:Int))=(k:Int):=by rw [aX (by omega)];omega
 rw [w,bl,bl,aG (by simp),aG (by simp),aG (by simp;omega),Wl,iy,Hh,show s.length+k - s.length=k by omega]
 rw [aG (by simp;omega)]
 rfl
def lH (s:Bs):Bs:=(s.reverse.dropWhile fun b=>b==0).reverse
theorem Pu (s:Bs):lH (s++[0])=lH s:=by simp [lH]
theorem Pq (s:Bs) {c:UInt8} (h:c≠0):lH (s++[c])=s++[c]:=by simp [lH,h]
theorem Ps (s:Bs) (hs:cT s):∀n,n<=s.length->Go qk false 0 (fF 176) (.head 0 (ww s (n:Int))) (.done (.str (lH (s.take n)))):=by
 intro n
 have hsl:=hs
 induction n with
 | zero =>
  intro _
  refine FU _ _ ?_ (.refl _)
  unfold A3
  rw [decide_eq_false (by omega),cond_false,aG (by simp),aG (by simp)]
  rfl
 | succ n ih =>
  intro hn
  have aC:n < s.length:=by omega
  have hc:s[n]? = some s[n]:=bC aC
  have e1:s.take (n+1)=s.take n++[s[n]]:=by rw [Hm,hc];rfl
  have w:W .i64 (((n+1:Nat):Int) - 1)=(n:Int):=by rw [aX (by omega)];omega
  by_cases hz:s[n]=0
  ·refine FU _ _ (o:=.head 0 (ww s (n:Int))) ?_ ?_
   ·unfold A3
    rw [decide_eq_true (by omega),cond_true,w,aG (by simp),bl,dk hc,hz]
    rfl
   ·have:=ih (by omega)
    rw [e1,hz,Pu]
    exact this
  ·refine FU _ _ ?_ (.refl _)
   unfold A3
   have hz2:¬((s[n].toNat:Int)=0):=by
    intro e
    exact hz (UInt8.toNat_inj.1 (by simpa using e))
   rw [decide_eq_true (by omega),cond_true,w,aG (by simp),bl,dk hc,eK hz2,cond_false,aG (by simp;omega),bl,aG (by simp;omega),e1,Pq _ hz]
theorem HW (s:Bs) (hs:cT s):bK aA 176 [.str s]=some (.str (lH s)):=by
 have:=Ps s hs s.length (bG _)
 rw [lC] at this
 exact RN _ rfl this
def bF (s:Bs):Bool:=!(s==[]) && decide (s.length<=16)
theorem iv (s:Bs):bK aA 73 [.str s]=some (.bool (bF s)):=by
 refine Sp _ ?_
 unfold C4 bF
 cases h:s==[] with
 | true=>rfl
 | false =>
  rw [decide_eq_decide.2 (show ((s.length:Int)<=16)↔(s.length<=16) by omega)];rfl
def aV (l:List Bs):List V:=l.map V.str
def aB (l:List Int):List V:=l.map (V.int .i64)
theorem fP (l:List Bs):(aV l).length=l.length:=by simp [aV]
theorem bZ (l:List Int):(aB l).length=l.length:=by simp [aB]
theorem ku {l:List Bs} {n:Nat} {x:Bs} {k:V->R} (h:l[n]? = some x):aY (aV l) n k=k (.str x):=D6 h
theorem eg {l:List Int} {n:Nat} {x:Int} {k:V->R} (h:l[n]? = some x):aY (aB l) n k=k (.int .i64 x):=D6 h
theorem UB (a b:List Int) (hab:a.length=b.length) (hl:a.length < 4294967296):∀(r s:List Int) (k:Nat),a.drop k=r->b.drop k=s ->
  Go qk false 0 (fF 49) (.head 0 (t6 (aB a) (aB b) (k:Int))) (.done (.bool (r==s))):=by
 intro r
 induction r with
 | nil =>
  intro s k hr hs
  have h1:=drop_nil hr
  have:s=[]:=by rw [<-hs];exact BI.2 (by omega)
  subst this
  refine F2 _ _ _ ?_ (.refl _)
  unfold A6
  rw [decide_eq_false (by first | omega | (simp only [bZ];omega))]
  rfl
 | cons x r ih =>
  intro s k hr hs
  obtain ⟨h1,h2,h3⟩:=gl hr
  cases s with
  | nil=>have:=drop_nil hs;omega
  | cons y s =>
   obtain ⟨h4,h5,h6⟩:=gl hs
   have w:W .i64 ((k:Int)+1)=((k+1:Nat):Int):=by rw [aX (by omega)];omega
   by_cases e:x=y
   ·subst e
    refine F2 _ _ _ (o:=.head 0 (t6 (aB a) (aB b) ((k+1:Nat):Int))) ?_ ?_
    ·unfold A6
     rw [decide_eq_true (by first | omega | (simp only [bZ];omega)),cond_true,aG (by simp),bl,eg h1,bU,aG (by simp),eg h4,bU,w]
     simp
    ·have:=ih s (k+1) h2 h5
     simpa using this
   ·refine F2 _ _ _ ?_ (.refl _)
    have e2:((x::r)==(y::s))=false:=by
     simp [e]
    unfold A6
    rw [decide_eq_true (by first | omega | (simp only [bZ];omega)),cond_true,aG (by simp),bl,eg h1,bU,aG (by simp),eg h4,bU,(show (x != y)=true by simpa using e),e2]
    rfl
theorem UC (a b:List Int) (hl:a.length < 4294967296):bK aA 49 [.sl (aB a),.sl (aB b)]=some (.bool (a==b)):=by
 by_cases h:a.length=b.length
 ·refine Jd _ _ (o:=.head 0 (t6 (aB a) (aB b) ((0:Nat):Int))) ?_ (UB a b h hl a b 0 rfl rfl)
  unfold C1
  rw [bZ,bZ,d0 (by omega)]
  rfl
 ·refine Jd _ _ ?_ (.refl _)
  unfold C1
  have:(a==b)=false:=by
   simp only [beq_eq_false_iff_ne,ne_eq]
   rintro rfl
   exact h rfl
  rw [bZ,bZ,lU (by omega),this]
  rfl
def iZ (l:List Bs):Prop:=l.Pairwise fun p q=>lt p q=true
def bI (m:List Bs) (k:Bs):Nat:=(m.takeWhile fun p=>lt p k).length
def co (m:List Bs) (k:Bs):Bool:=match m[bI m k]? with | some p=>p==k | none=>false
theorem xj (m:List Bs) (k:Bs):bI m k<=m.length:=(List.takeWhile_sublist _).length_le
theorem Ae (p:Bs) (m:List Bs) (k:Bs):bI (p::m) k=if lt p k then bI m k+1 else 0:=by
 unfold bI
 rw [List.takeWhile_cons]
 split<;>simp_all
theorem Af {m:List Bs} (hs:iZ m) (k:Bs):∀{i:Nat} {p:Bs},m[i]? = some p->(lt p k=true↔i < bI m k):=by
 induction m with
 | nil=>intro i p h;simp at h
 | cons x m ih =>
  intro i p h
  rw [Ae]
  have hx:=gt.1 hs
  cases i with
  | zero =>
   simp at h;subst h
   cases hl:lt x k<;>simp
  | succ i =>
   simp at h
   have hp:=hx.1 p (cG h)
   cases hl:lt x k with
   | true =>
    have:=ih hx.2 h
    simp only [if_true,this]
    omega
   | false =>
    simp only [cK,if_false]
    constructor
    ·intro h2;rw [lt_trans hp h2] at hl;cases hl
    ·intro h2;omega
theorem Kf {i j:Nat} (h:i+j < 4611686018427387904):W .i64 ((W .u64 (W .i64 ((i:Int)+(j:Int)))).fdiv (2 ^ (min 1 (IntKind.bits .u64))))=((i+j) / 2:Nat):=by
 rw [aX (n:=(i:Int)+(j:Int)) (by omega),lG (by omega)]
 have e:(2:Int) ^ (min 1 (IntKind.bits .u64))=2:=rfl
 rw [e,OK _ (by omega)]
 have e2:((i:Int)+(j:Int)) / 2=((i+j) / 2:Nat):=by omega
 rw [e2]
 exact aX (by omega)
theorem UG (s:Bs):bK aA 223 [.str s]=some (.bool false):=R7 _ (by unfold CY;simp)
theorem UF (s:Bs):bK aA 206 [.str s]=some (.bool false):=R3 _ (by unfold CV;simp)
theorem KR (a b:Bs):bK aA 205 [.str a,.str b]=some (.bool (lt a b)):=by
 refine RZ _ _ ?_
 unfold CU
 rw [aK (UG a)]
 rfl
theorem Yx (m:List Bs) (hs:iZ m) (k:Bs) (hl:m.length<=1000000):∀(d i j:Nat),j - i<=d->i<=bI m k->bI m k<=j->j<=m.length ->
  Go qk false 0 (fF 155) (.head 0 (pE (aV m) k m.length i j)) (.done (.tup [.int .i64 (bI m k),.bool (co m k)])):=by
 intro d
 induction d with
 | zero =>
  intro i j hd hi hj hn
  have e:i=bI m k:=by omega
  refine FL _ _ _ _ _ ?_ (.refl _)
  unfold AY
  rw [decide_eq_false (by omega),cond_false]
  by_cases aC:i < m.length
  ·have h1:m[i]? = some m[i]:=bC aC
   have e2:co m k=(m[i]==k):=by unfold co;rw [<-e,h1]
   rw [<-e,decide_eq_true (by omega),cond_true,aG (by simp),bl,ku h1,eO,e2]
   cases hx:m[i]==k with
   | true=>rfl
   | false =>
    rw [cond_false,aG (by simp),ku h1,eO,aK (UF _),cR]
    rfl
  ·have e2:co m k=false:=by unfold co;rw [<-e,vS (by omega)]
   rw [<-e,e2,decide_eq_false (by omega)]
   rfl
 | succ d ih =>
  intro i j hd hi hj hn
  by_cases hij:i < j
  ·have hh:=Kf (i:=i) (j:=j) (by omega)
   generalize hg:(i+j) / 2=h at hh
   have hb:i<=h/\h < j:=by omega
   have h1:m[h]? = some m[h]:=bC (by omega)
   have hlb:=Af hs k h1
   have w:W .i64 ((h:Int)+1)=((h+1:Nat):Int):=by rw [aX (by omega)];omega
   cases hx:lt m[h] k with
   | true =>
    refine FL _ _ _ _ _ (o:=.head 0 (pE (aV m) k m.length ((h+1:Nat):Int) j)) ?_ (ih (h+1) j (by omega) (by have:=hlb.1 hx;omega) hj hn)
    unfold AY
    rw [decide_eq_true (by omega),cond_true,hh,aG (by simp),bl,ku h1,eO,aK (KR _ _),cR,hx,cond_true,w]
   | false =>
    have hge:bI m k<=h:=by
     rcases jV h (bI m k) with q | q
     ·rw [hlb.2 q] at hx;cases hx
     ·exact q
    refine FL _ _ _ _ _ (o:=.head 0 (pE (aV m) k m.length i h)) ?_ (ih i h (by omega) hi hge (by omega))
    unfold AY
    rw [decide_eq_true (by omega),cond_true,hh,aG (by simp),bl,ku h1,eO,aK (KR _ _),cR,hx,cond_false]
  ·exact ih i j (by omega) hi hj hn
theorem Yy (m:List Bs) (hs:iZ m) (k:Bs) (hl:m.length<=1000000):bK aA 155 [.sl (aV m),.str k]=some (.tup [.int .i64 (bI m k),.bool (co m k)]):=by
 refine Rq _ _ (o:=.head 0 (pE (aV m) k m.length ((0:Nat):Int) m.length)) ?_ (Yx m hs k hl _ 0 m.length (bG _) (iE _) (xj m k) (bG _))
 unfold IX
 rw [fP]
 rfl
structure bJ where
 seps:List Bs
 kids:List Int
 high:Bs
 next:Int
abbrev eI (n:bJ):V:=.agg [.sl (aV n.seps),.sl (aB n.kids),.str n.high,.int .i64 n.next]
structure Sm (n:bJ):Prop where
 seps:n.seps.length<=1000
 sep:∀s∈n.seps,s.length<=1000
 kids:n.kids.length<=1000
 high:n.high.length<=1000
def cA:List Bs->Nat
 | []=>0
 | s::r=>3+s.length+cA r
theorem NS:∀{l:List Bs},(∀s∈l,s.length<=1000)->cA l<=1003 * l.length
 | [],_=>bG _
 | s::r,h=>by
  have h1:=h s (by simp)
  have h2:=NS (l:=r) fun x hx=>h x (by simp [hx])
  simp only [cA,cL]
  omega
def jm (n:bJ):Nat:=7+n.high.length+cA n.seps
theorem YO {n:bJ} (h:Sm n):jm n<=1100000:=by
 have h1:=NS h.sep
 have h2:=h.seps
 have h3:=h.high
 unfold jm
 omega
theorem YP (l:List Bs) (hl:l.length<=1000) (hs:∀s∈l,s.length<=1000):∀(r:List Bs) (k a:Nat),l.drop k=r->a<=2000+1003 * k ->
  Go qk false 0 (fF 163) (.head 0 (tY (a:Int) (aV l) (l.length:Int) (k:Int))) (.done (.int .i64 ((a+cA r:Nat):Int))):=by
 intro r
 induction r with
 | nil =>
  intro k a hr ha
  have h1:=drop_nil hr
  refine M0 _ _ _ _ ?_ (.refl _)
  simp (disch:=omega) only [FP,cA,dK,cond_true,cond_false,decide_true,decide_false,DF,cR,bU,eO,qe,El,lY,jC,mj,mn,iy,decide_eq_true,decide_eq_false,dV,eK,lU,d0,bl,GN,GM,aX,gq,gg,nZ,dO,c8,cL,fR,bR,jq,Bool.and_true,dI,lB,mr,Bool.or_true,tF,rh,iU,cK,G7,beq_self_eq_true,Bool.true_beq,Bool.false_beq,Int.natCast_add,Int.natCast_one,Int.natCast_zero,Int.toNat_zero,G8,gJ,dj,iW,bu,dU,dv,if_true,if_false,if_pos,if_neg]
 | cons x r ih =>
  intro k a hr ha
  obtain ⟨h1,h2,h3⟩:=gl hr
  have hx:=hs x (cG h1)
  refine M0 _ _ _ _ (o:=.head 0 (tY ((a+(3+x.length):Nat):Int) (aV l) (l.length:Int) ((k+1:Nat):Int))) ?_ ?_
  ·simp (disch:=omega) only [FP,ku h1,cond_true,cond_false,decide_true,decide_false,DF,cR,bU,eO,qe,El,lY,jC,mj,mn,iy,decide_eq_true,decide_eq_false,dV,eK,lU,d0,bl,GN,GM,aX,gq,gg,nZ,dO,c8,cL,fR,bR,jq,Bool.and_true,dI,lB,mr,Bool.or_true,tF,rh,iU,cK,G7,beq_self_eq_true,Bool.true_beq,Bool.false_beq,Int.natCast_add,Int.natCast_one,Int.natCast_zero,Int.toNat_zero,G8,gJ,dj,iW,bu,dU,dv,if_true,if_false,if_pos,if_neg]
  ·have:=ih (k+1) (a+(3+x.length)) h2 (by omega)
   rw [cA,<-gT a (3+x.length)]
   exact this
theorem NG (n:bJ) (h:Sm n):bK aA 163 [eI n]=some (.int .i64 (jm n:Int)):=by
 have hh:=h.high
 refine RA _ _ _ _ (o:=.head 0 (tY ((7+n.high.length:Nat):Int) (aV n.seps) (n.seps.length:Int) ((0:Nat):Int))) ?_ (YP n.seps h.seps h.sep n.seps 0 _ rfl (by omega))
 simp (disch:=omega) only [I0,fP,cond_true,cond_false,decide_true,decide_false,DF,cR,bU,eO,qe,El,lY,jC,mj,mn,iy,decide_eq_true,decide_eq_false,dV,eK,lU,d0,bl,GN,GM,aX,gq,gg,nZ,dO,c8,cL,fR,bR,jq,Bool.and_true,dI,lB,mr,Bool.or_true,tF,rh,iU,cK,G7,beq_self_eq_true,Bool.true_beq,Bool.false_beq,Int.natCast_add,Int.natCast_one,Int.natCast_zero,Int.toNat_zero,G8,gJ,dj,iW,bu,dU,dv,if_true,if_false,if_pos,if_neg]
def dE (n:Int):Bool:=decide (0<=n) && decide (n < 1024)
theorem xr (n:Int):bK aA 203 [.int .i64 n]=some (.bool (dE n)):=by
 refine RS _ ?_
 unfold CR dE
 by_cases h:0<=n
 ·rw [decide_eq_true h];rfl
 ·rw [decide_eq_false h];rfl
def k9 (n:bJ):Bool:=decide (16+7+cA n.seps<=252)
theorem JV (n:bJ) (h:Sm n):bK aA 204 [eI n]=some (.bool (k9 n)):=by
 refine RX _ _ _ _ ?_
 have h1:=YO h
 have h2:=h.high
 unfold CS
 rw [aK (NG n h),bU,aX (n:=(jm n:Int) - (n.high.length:Int)) (by omega),aX (by omega)]
 unfold k9
 rw [decide_eq_decide.2 (show (jm n:Int) - (n.high.length:Int)+16<=252↔16+7+cA n.seps<=252 by unfold jm;omega)]
def d7 (p:Bs):List Bs->Bool
 | []=>true
 | s::r=>bF s && lt p s && d7 s r
def eJ (p:Bs) (high:Bs):Bool:=high==[] || bF high && lt p high
def pU (n:bJ):Bool:=decide (0<=n.next) && decide (n.next<=1024) && k9 n
def bL (n:bJ):Bool:=decide (n.kids.length=n.seps.length+1) && n.kids.all dE && d7 [] n.seps && eJ (n.seps.getLastD []) n.high && pU n
abbrev eT (p:Bs × Int):V:=.tup [.str p.1,.int .i64 p.2]
theorem HZ (a:List Bs) (b:List Int):((List.zipWith (fun x y=>[x,y]) (aV a) (aB b)).map V.tup)=(a.zip b).map eT:=by
 induction a generalizing b with
 | nil=>rfl
 | cons x a ih =>
  cases b with
  | nil=>rfl
  | cons y b =>
   have:=ih b
   simp only [aV,aB,dj,List.zipWith_cons_cons,Hn] at this |-
   rw [this]
def mq (n:bJ):Bs->List (Bs × Int)->Bool
 | p,[]=>eJ p n.high && pU n
 | p,(s,k)::r=>bF s && lt p s && dE k && mq n s r
theorem XJ (n:bJ) (h:Sm n):∀(l:List (Bs × Int)) (p:Bs),
  Go qk false 0 (fF 154) (.head 0 (wq (l.map eT) (aV n.seps) (aB n.kids) n.high n.next p)) (.done (.bool (mq n p l))):=by
 intro l
 induction l with
 | nil =>
  intro p
  refine xP _ _ _ _ _ _ ?_ (.refl _)
  unfold AX
  simp only [iW,jJ,aK (JV n h),cR,aK (iv n.high),mq,eJ,pU]
  cases n.high==[] with
  | true =>
   by_cases h1:0<=n.next
   ·rw [decide_eq_true h1]
    cases decide (n.next<=1024)<;>rfl
   ·rw [decide_eq_false h1]
    rfl
  | false =>
   cases bF n.high with
   | false=>rfl
   | true =>
    show (cond (lt p n.high) _ _)=_
    cases lt p n.high with
    | false=>rfl
    | true =>
     by_cases h1:0<=n.next
     ·rw [decide_eq_true h1]
      cases decide (n.next<=1024)<;>rfl
     ·rw [decide_eq_false h1]
      rfl
 | cons x l ih =>
  obtain ⟨s,k⟩:=x
  intro p
  have e0:AX (((s,k)::l).map eT) (aV n.seps) (aB n.kids) n.high n.next p=cond (!bF s) (some (.done (V.bool false))) (cond (Op.bytesLess s p || s==p) (some (.done (V.bool false))) (cond (!dE k) (some (.done (V.bool false))) (some (.head 0 (wq (l.map eT) (aV n.seps) (aB n.kids) n.high n.next s))))):=by
   unfold AX
   simp only [dj,jJ,lY,mj,eO,bU,mn,aK (iv s),cR,aK (xr k)]
  rw [KL s p] at e0
  cases h1:bF s with
  | false =>
   refine xP _ _ _ _ _ _ (e0.trans ?_) (.refl _)
   rw [h1,mq,h1]
   rfl
  | true =>
   rw [h1] at e0
   cases h2:lt p s with
   | false =>
    refine xP _ _ _ _ _ _ (e0.trans ?_) (.refl _)
    rw [h2,mq,h1,h2]
    rfl
   | true =>
    rw [h2] at e0
    cases h3:dE k with
    | false =>
     refine xP _ _ _ _ _ _ (e0.trans ?_) (.refl _)
     rw [h3,mq,h1,h2,h3]
     rfl
    | true =>
     rw [h3] at e0
     refine xP _ _ _ _ _ _ e0 ?_
     rw [mq,h1,h2,h3]
     exact ih s
theorem OF (n:bJ):∀(a:List Bs) (b:List Int) (p:Bs),b.length=a.length->mq n p (a.zip b)=(b.all dE && d7 p a && eJ (a.getLastD p) n.high && pU n)
 | [],b,p,h=>by
  have:b=[]:=by simpa using h
  subst this
  simp [mq,d7]
 | s::a,[],p,h=>by simp at h
 | s::a,k::b,p,h=>by
  have ih:=OF n a b s (by simpa using h)
  have e:(s::a).getLastD p=a.getLastD s:=by
   cases a with
   | nil=>rfl
   | cons y a=>simp [List.getLastD]
  rw [Hn,mq,ih,e,d7,yk]
  cases bF s<;>cases lt p s<;>cases dE k<;>cases b.all dE<;>rfl
theorem NP (l:List Bs):(aV l).all V.one=true:=by simp [aV,V.one]
theorem Ky (l:List Int):(aB l).all V.one=true:=by simp [aB,V.one]
theorem o9 (l:List Int):dp 1 (aB l)=true:=Bv fun _=>rfl
theorem Ot (l:List Bs):dp 1 (aV l)=true:=Bv fun _=>rfl
theorem vo (n:bJ) (h:Sm n):bK aA 154 [eI n]=some (.bool (bL n)):=by
 have hl:=h.seps
 have hk:=h.kids
 have w:W .i64 ((n.seps.length:Int)+1)=((n.seps.length+1:Nat):Int):=by rw [aX (by omega)];omega
 by_cases h1:n.kids.length=n.seps.length+1
 ·cases hn:n.kids with
  | nil=>rw [hn] at h1;simp at h1
  | cons k ks =>
   have h0:n.kids[0]? = some k:=by rw [hn];rfl
   have hd:n.kids.drop 1=ks:=by rw [hn];rfl
   cases hp:dE k with
   | false =>
    refine CG _ _ _ _ ?_ (.refl _)
    unfold zr
    rw [fP,bZ,w,d0 (by omega),cond_false,eg h0,bU,aK (xr k),cR,hp]
    have:bL n=false:=by
     unfold bL
     rw [hn,yk,hp]
     cases decide ((k::ks).length=n.seps.length+1)<;>rfl
    rw [this]
    rfl
   | true =>
    have hz:=OF n n.seps ks [] (by rw [hn] at h1;simpa using h1)
    have e1:mq n [] (n.seps.zip ks)=bL n:=by
     rw [hz]
     unfold bL
     rw [decide_eq_true h1,hn,yk,hp]
     rfl
    rw [<-e1]
    refine CG _ _ _ _ ?_ (XJ n h (n.seps.zip ks) [])
    unfold zr
    have e2:((aB n.kids).take (aB n.kids).length).drop 1=aB ks:=by rw [lC,hn];rfl
    rw [d0 (by rw [fP,bZ,w];omega),cond_false,eg h0,bU,aK (xr k),cR,hp,bR,cond_false,aG (o9 _),aG (by rw [bZ,hn];simp),e2]
    simp only [ut,if_pos (show (aV n.seps).length<=16777216/\(aV n.seps).all V.one=true/\(aB ks).all V.one=true from ⟨by rw [fP];omega,NP _,Ky _⟩),iy,HZ]
 ·refine CG _ _ _ _ ?_ (.refl _)
  unfold zr
  have:bL n=false:=by unfold bL;rw [decide_eq_false h1];rfl
  rw [fP,bZ,w,lU (by omega),this]
  rfl
theorem qg {s:Bs} (h:bF s=true):lt [] s=true:=by
 cases s with
 | nil=>cases h
 | cons c s=>rfl
theorem Mu:∀(l:List Bs) (p:Bs),d7 p l=true->(∀s∈l,lt p s=true)/\iZ l
 | [],p,_=>⟨fun s h=>by simp at h,List.Pairwise.nil⟩
 | s::r,p,h=>by
  simp only [d7,bv] at h
  obtain ⟨h1,h2⟩:=Mu r s h.2
  refine ⟨fun x hx=>?_,gt.2 ⟨h1,h2⟩⟩
  rcases bP.1 hx with rfl | hx
  ·exact h.1.2
  ·exact lt_trans h.1.2 (h1 x hx)
theorem XK {n:bJ} (h:bL n=true):iZ n.seps:=by
 unfold bL at h
 simp only [bv] at h
 exact (Mu _ _ h.1.1.2).2
def eC (l:List Bs) (key:Bs):Nat:=(l.takeWhile fun s=>!(lt key s)).length
theorem HQ (l:List Bs) (key:Bs):eC l key<=l.length:=(List.takeWhile_sublist _).length_le
theorem rD (s:Bs) (l:List Bs) (key:Bs):eC (s::l) key=if lt key s then 0 else eC l key+1:=by
 unfold eC
 rw [List.takeWhile_cons]
 cases lt key s<;>simp
theorem U6 {l:List Bs} (h:iZ l) (key:Bs):eC l key=bI l key+(if co l key then 1 else 0):=by
 induction l with
 | nil=>rfl
 | cons s l ih =>
  have hx:=gt.1 h
  have ih:=ih hx.2
  rw [rD,Ae]
  cases h1:lt s key with
  | true =>
   rw [l7 h1]
   have e:co (s::l) key=co l key:=by
    unfold co
    rw [Ae,h1]
    rfl
   rw [e,ih]
   simp
   omega
  | false =>
   have e:co (s::l) key=(s==key):=by
    unfold co
    rw [Ae,h1]
    rfl
   rw [e]
   by_cases hk:s=key
   ·subst hk
    rw [iw]
    have:eC l s=0:=by
     cases l with
     | nil=>rfl
     | cons y l=>rw [rD,hx.1 y (by simp)];rfl
    simp [this]
   ·rw [m9 h1 hk]
    simp [hk]
def i9 (n:bJ) (key:Bs):Int × Int :=
 if bL n && bF key && (n.high==[] || lt key n.high) then ((eC n.seps key:Nat),0) else (0,1)
theorem JR (n:bJ) (key:Bs) (h:Sm n):bK aA 114 [eI n,.str key]=some (.tup [.int .i64 (i9 n key).1,.int .i64 (i9 n key).2]):=by
 refine QX _ _ _ _ _ ?_
 have hl:=h.seps
 unfold Cx i9
 rw [aK (vo n h),cR]
 cases hr:bL n with
 | false=>rfl
 | true =>
  rw [bR,cond_false,aK (iv key),cR]
  cases bF key with
  | false=>rfl
  | true =>
   rw [bR,cond_false,dI,dI]
   have hs:=XK hr
   have hle:=xj n.seps key
   have w:W .i64 ((bI n.seps key:Int)+1)=((bI n.seps key+1:Nat):Int):=by rw [aX (by omega)];omega
   have e1:=U6 hs key
   have fin:(aE aA 155 [V.sl (aV n.seps),V.str key] fun r_3=>kW r_3 fun a b=>cond b (some (.done (V.tup [V.int .i64 (W .i64 (a+1)),V.int .i64 0]))) (some (.done (V.tup [V.int .i64 a,V.int .i64 0]))))=some (.done (.tup [.int .i64 (eC n.seps key:Nat),.int .i64 0])):=by
    rw [aK (Yy n.seps hs key (by omega)),wJ,e1]
    cases co n.seps key with
    | false=>rfl
    | true=>rw [w];rfl
   cases hh:n.high==[] with
   | true =>
    rw [bR,cond_false,tF,fin]
    rfl
   | false =>
    rw [jq,cond_true,iU]
    show cond (!(lt key n.high)) _ _=_
    cases lt key n.high with
    | false=>rfl
    | true =>
     rw [bR,cond_false,fin]
     rfl
abbrev eV (m:Nat):Bs:=bE m 0
theorem aad (m k:Nat):(eV m).drop k=eV (m - k):=by simp [eV]
theorem LU (d t:Bs) (m:Nat) (h:t.length<=m):oR (d++eV m) d.length t=d++t++eV (m - t.length):=by
 unfold oR
 rw [vW (bG _),lC,rk,pq (by omega),dU,show d.length+t.length - d.length=t.length by omega,aad]
theorem vi (d:Bs) (m k x:Nat) (n kk:Int) (hkk:kk=(k:Int)) (hn:n=(d.length:Int)) (h1:1<=k) (h8:k<=8) (hm:k<=m) (hx:x < 256 ^ k):sY (d++eV m) n kk x=(d++bW k x++eV (m - k),0):=by
 subst hkk
 unfold sY
 rw [if_pos (xF (by omega) (by omega) (by omega) (by simp;omega)),bl,if_pos hx,hn,bl,LU _ _ _ (by rw [d5];exact hm),d5]
theorem xx (d t:Bs) (m:Nat) (n:Int) (hn:n=(d.length:Int)) (hl:t.length<=255) (hm:t.length+1<=m) :
  sZ (d++eV m) n t=(d++(UInt8.ofNat t.length::t)++eV (m - (t.length+1)),n+t.length+1,0):=by
 unfold sZ
 rw [if_pos (by simp;omega),if_neg (by omega),if_neg (by simp;omega),hn,bl,LU _ _ _ (by simpa using hm)]
 simp
theorem vj {s t:Bs} {n size e:Int} {x:Nat} (h:sY s n size x=(t,e)) (hx:x < 18446744073709551616) (hs:cT s):bK aA 161 [.str s,.int .i64 n,.int .i64 size,.int .u64 (x:Int)]=some (.tup [.str t,.int .i64 e]):=by
 rw [Xm s n size x hx hs,h]
theorem xy {s t u:Bs} {n m e:Int} (h:sZ s n t=(u,m,e)) (hs:cT s) (ht:cT t):bK aA 162 [.str s,.int .i64 n,.str t]=some (.tup [.str u,.int .i64 m,.int .i64 e]):=by
 rw [Xj s n t hs ht,h]
theorem LY {s t:Bs} {n e:Int} (h:qF s n=(t,e)) (hs:cT s):bK aA 160 [.str s,.int .i64 n]=some (.tup [.str t,.int .i64 e]):=by
 rw [WK s n hs,h]
abbrev cx (s:Bs):Bs:=UInt8.ofNat s.length::s
def fg:List (Bs × Int)->Bs
 | []=>[]
 |(s,k)::r=>cx s++bW 2 k.toNat++fg r
def zP (n:bJ):Bs:=UInt8.ofNat n.seps.length::(bW 2 n.next.toNat++(cx n.high++bW 2 (n.kids.headD 0).toNat))
def yW (n:bJ):Bs:=zP n++fg (n.seps.zip n.kids.tail)
def cD (n:bJ):Bs:=if bL n then 78::yW n else []
theorem Fw:∀(a:List Bs) (b:List Int),b.length=a.length->(fg (a.zip b)).length=cA a
 | [],b,h=>by
  have:b=[]:=by simpa using h
  subst this;rfl
 | s::a,[],h=>by simp at h
 | s::a,k::b,h=>by
  have ih:=Fw a b (by simpa using h)
  rw [Hn,fg,cA]
  simp [d5,ih]
  omega
theorem nJ {n:bJ} (h:bL n=true):n.kids.length=n.seps.length+1/\(∀k∈n.kids,dE k=true)/\(∀s∈n.seps,bF s=true)/\n.high.length<=16/\0<=n.next/\n.next<=1024/\23+cA n.seps<=252:=by
 have h2:∀(l:List Bs) (p:Bs),d7 p l=true->∀s∈l,bF s=true:=by
  intro l
  induction l with
  | nil=>intro p _ s hs;simp at hs
  | cons x l ih =>
   intro p hp s hs
   simp only [d7,bv] at hp
   rcases bP.1 hs with rfl | hs
   ·exact hp.1.1
   ·exact ih _ hp.2 s hs
 unfold bL pU k9 eJ at h
 simp only [bv,decide_eq_true_eq,mTz,beq_iff_eq,di] at h
 obtain ⟨⟨⟨⟨h1,hk⟩,hr⟩,hh⟩,⟨hn1,hn2⟩,hf⟩:=h
 refine ⟨h1,hk,h2 _ _ hr,?_,hn1,hn2,by omega⟩
 rcases hh with hh | ⟨hh,_⟩
 ·rw [hh];simp
 ·unfold bF at hh
  simp only [bv,decide_eq_true_eq] at hh
  exact hh.2
theorem gZ {s:Bs} (h:bF s=true):1<=s.length/\s.length<=16:=by
 unfold bF at h
 simp only [bv,decide_eq_true_eq,iC,beq_eq_false_iff_ne] at h
 refine ⟨?_,h.2⟩
 cases s with
 | nil=>exact (h.1 rfl).elim
 | cons c s=>simp
theorem ve {k:Int} (h:dE k=true):0<=k/\k < 1024:=by
 unfold dE at h
 simpa using h
theorem qV:∀{l:List Bs},(∀s∈l,bF s=true)->4 * l.length<=cA l
 | [],_=>bG _
 | s::r,h=>by
  have h1:=(gZ (h s (by simp))).1
  have h2:=qV (l:=r) fun x hx=>h x (by simp [hx])
  simp only [cA,cL]
  omega
theorem me {n:bJ} (h:bL n=true):Sm n:=by
 obtain ⟨h1,h2,h3,h4,h5,h6,h7⟩:=nJ h
 have:=qV h3
 exact ⟨by omega,fun s hs=>by have:=(gZ (h3 s hs)).2;omega,by omega,by omega⟩
theorem Dd {n:bJ} (h:bL n=true):(cD n).length=jm n:=by
 obtain ⟨h1,_⟩:=nJ h
 unfold cD yW zP jm
 rw [if_pos h]
 have:=Fw n.seps n.kids.tail (by simp;omega)
 simp [d5,this]
 omega
theorem SZ:∀(l:List (Bs × Int)) (d:Bs),(∀x∈l,x.1.length<=255/\dE x.2=true)->d.length+(fg l).length<=100000 ->
  Go qk false 0 (fF 121) (.head 0 (we (l.map eT) (d++eV (fg l).length) (d.length:Int))) (.done (.str (d++fg l))):=by
 intro l
 induction l with
 | nil =>
  intro d _ _
  refine MQ _ _ _ ?_ (.refl _)
  unfold FE
  simp [jJ,fg]
 | cons x l ih =>
  obtain ⟨s,k⟩:=x
  intro d h hd
  obtain ⟨hs,hk⟩:=h (s,k) (by simp)
  simp only at hs hk
  have hk2:=ve hk
  obtain ⟨kn,rfl⟩:∃kn:Nat,k=(kn:Int):=⟨k.toNat,by omega⟩
  have hlen:(fg ((s,(kn:Int))::l)).length=s.length+1+2+(fg l).length:=by
   rw [fg];simp [d5];omega
  rw [hlen] at hd |-
  have e1:=xx d s (s.length+1+2+(fg l).length) (d.length:Int) rfl hs (by omega)
  have e2:=vi (d++cx s) (2+(fg l).length) 2 kn ((d.length:Int)+s.length+1) 2 rfl (by simp;omega) (by omega) (by omega) (by omega) (by omega)
  rw [show s.length+1+2+(fg l).length - (s.length+1)=2+(fg l).length by omega] at e1
  rw [show 2+(fg l).length - 2=(fg l).length by omega] at e2
  have w:W .u64 (kn:Int)=(kn:Int):=lG (by omega)
  have w2:W .i64 ((d.length:Int)+s.length+1+2)=(((d++cx s++bW 2 kn).length:Nat):Int):=by
   rw [aX (by omega)];simp [d5];omega
  refine MQ _ _ _ (o:=.head 0 (we (l.map eT) (d++cx s++bW 2 kn++eV (fg l).length) (((d++cx s++bW 2 kn).length:Nat):Int))) ?_ ?_
  ·unfold FE
   simp only [dj,jJ,lY,mj,eO,bU,mn]
   rw [aK (xy e1 (by simp [cT];omega) (by simp only [cT];omega)),gw,w,aK (vj e2 (by omega) (by simp [cT];omega)),kZ,w2]
  ·have:=ih (d++cx s++bW 2 kn) (fun x hx=>h x (by simp [hx])) (by simp [d5];omega)
   rw [fg,bl]
   simpa [bu] using this
theorem OE {n:bJ} (h:bL n=true):∀x∈n.seps.zip n.kids.tail,x.1.length<=255/\dE x.2=true:=by
 obtain ⟨h1,h2,h3,_⟩:=nJ h
 intro x hx
 have hz:=List.of_mem_zip hx
 have:=(gZ (h3 _ hz.1)).2
 exact ⟨by omega,h2 _ (List.mem_of_mem_tail hz.2)⟩
theorem JA (n:bJ) (h:Sm n):bK aA 121 [eI n]=some (.str (cD n)):=by
 cases hr:bL n with
 | false =>
  refine IK _ _ _ _ ?_ (.refl _)
  unfold CC cD
  rw [aK (vo n h),cR,hr]
  rfl
 | true =>
  obtain ⟨h1,h2,h3,h4,h5,h6,h7⟩:=nJ hr
  have hg:=qV h3
  obtain ⟨k,ks,hks⟩:∃k ks,n.kids=k::ks:=by
   cases hk:n.kids with
   | nil=>rw [hk] at h1;simp at h1
   | cons k ks=>exact ⟨k,ks,rfl⟩
  have hk:=ve (h2 k (by rw [hks];simp))
  obtain ⟨kn,rfl⟩:∃kn:Nat,k=(kn:Int):=⟨k.toNat,by omega⟩
  obtain ⟨nn,hnn⟩:∃nn:Nat,n.next=(nn:Int):=⟨n.next.toNat,by omega⟩
  have hkl:ks.length=n.seps.length:=by rw [hks] at h1;simpa using h1
  have hrl:=Fw n.seps ks hkl
  obtain ⟨R,hR⟩:∃R,R=fg (n.seps.zip ks):=⟨_,rfl⟩
  have hRl:R.length=cA n.seps:=by rw [hR,hrl]
  obtain ⟨c,hc⟩:∃c:UInt8,c=UInt8.ofNat n.seps.length:=⟨_,rfl⟩
  have e0:qF [78] ((jm n:Nat):Int)=([78]++eV (1+(2+(n.high.length+1+(2+R.length)))),0):=by
   have hz:jm n=1+(1+(2+(n.high.length+1+(2+R.length)))):=by unfold jm;omega
   unfold qF
   rw [if_neg (by omega),if_neg (by simp;omega),bl,hz]
   congr 3
   simp
  have e1:=vi [78] (1+(2+(n.high.length+1+(2+R.length)))) 1 n.seps.length 1 1 rfl rfl (by omega) (by omega) (by omega) (by omega)
  have f1:bW 1 n.seps.length=[c]:=by
   rw [hc]
   show [UInt8.ofNat (n.seps.length % 256)]=_
   rw [yw (by omega)]
  rw [f1,show 1+(2+(n.high.length+1+(2+R.length))) - 1=2+(n.high.length+1+(2+R.length)) by omega] at e1
  have e2:=vi ([78]++[c]) (2+(n.high.length+1+(2+R.length))) 2 nn 2 2 rfl rfl (by omega) (by omega) (by omega) (by omega)
  rw [show 2+(n.high.length+1+(2+R.length)) - 2=n.high.length+1+(2+R.length) by omega] at e2
  have e3:=xx ([78]++[c]++bW 2 nn) n.high (n.high.length+1+(2+R.length)) 4 (by simp [d5]) (by omega) (by omega)
  rw [show n.high.length+1+(2+R.length) - (n.high.length+1)=2+R.length by omega] at e3
  have e4:=vi ([78]++[c]++bW 2 nn++cx n.high) (2+R.length) 2 kn (4+n.high.length+1) 2 rfl (by simp [d5];omega) (by omega) (by omega) (by omega) (by omega)
  rw [show 2+R.length - 2=R.length by omega] at e4
  have hd:([78]++[c]++bW 2 nn++cx n.high++bW 2 kn).length=4+n.high.length+1+2:=by simp [d5];omega
  have hm:∀x∈n.seps.zip ks,x.1.length<=255/\dE x.2=true:=by
   have:=OE hr
   rw [hks] at this
   exact this
  have hl:=SZ (n.seps.zip ks) ([78]++[c]++bW 2 nn++cx n.high++bW 2 kn) hm (by rw [hd,<-hR];omega)
  have hfin:[78]++[c]++bW 2 nn++cx n.high++bW 2 kn++fg (n.seps.zip ks)=cD n:=by
   unfold cD yW zP
   rw [if_pos hr,hks,hnn,hc]
   simp
  rw [hfin,<-hR] at hl
  have w0:W .u64 (n.seps.length:Int)=(n.seps.length:Int):=lG (by omega)
  have w1:W .u64 (nn:Int)=(nn:Int):=lG (by omega)
  have w2:W .u64 (kn:Int)=(kn:Int):=lG (by omega)
  have w3:W .i64 (4+(n.high.length:Int)+1+2)=((([78]++[c]++bW 2 nn++cx n.high++bW 2 kn).length:Nat):Int):=by rw [aX (by omega),hd];omega
  have g0:n.kids[0]? = some (kn:Int):=by rw [hks];rfl
  refine IK _ _ _ _ ?_ hl
  unfold CC
  have s78:[UInt8.ofNat ((78:Int)).toNat]=([78]:Bs):=rfl
  rw [aK (vo n h),cR,hr,bR,cond_false,aK (NG n h),bU,s78,aK (LY e0 (by decide)),kZ,fP,w0]
  rw [aK (vj e1 (by omega) (by simp [cT];omega))]
  rw [kZ,hnn,w1,aK (vj e2 (by omega) (by simp [cT];omega))]
  rw [kZ,aK (xy e3 (by simp [cT,d5];omega) (by simp only [cT];omega)),gw,eg g0,bU,w2,aK (vj e4 (by omega) (by simp [cT,d5];omega))]
  rw [kZ,aG (o9 _),aG (by rw [bZ,hks];simp)]
  have e5:((aB n.kids).take (aB n.kids).length).drop 1=aB ks:=by rw [lC,hks];rfl
  rw [e5,w3]
  simp only [ut,if_pos (show (aV n.seps).length<=16777216/\(aV n.seps).all V.one=true/\(aB ks).all V.one=true from ⟨by rw [fP];omega,NP _,Ky _⟩),iy,HZ]
theorem jo {s t:Bs} {n m e:Int} (h:f9 s n=(t,m,e)) (hs:cT s):bK aA 71 [.str s,.int .i64 n]=some (.tup [.str t,.int .i64 m,.int .i64 e]):=by
 rw [ZG s n hs,h]
theorem iN {s:Bs} {n size x e:Int} (h:fI s n size=(x,e)) (hs:cT s):bK aA 214 [.str s,.int .i64 n,.int .i64 size]=some (.tup [.int .u64 x,.int .i64 e]):=by
 rw [TS s n size hs,h]
theorem TN (s:Bs) (n:Int):0<=(fI s n 2).1/\(fI s n 2).1 < 65536:=by
 unfold fI
 split
 ·have h1:=Br ((s.drop n.toNat).take (2:Int).toNat)
  have h2:((s.drop n.toNat).take (2:Int).toNat).length<=2:=by rw [gq];exact Nat.min_le_left _ _
  have h3:256 ^ ((s.drop n.toNat).take (2:Int).toNat).length<=256 ^ 2:=Nat.pow_le_pow_right (by decide) h2
  have h4:(256:Nat) ^ 2=65536:=by decide
  constructor
  ·exact G9 _
  ·show ((dH _:Nat):Int) < 65536
   omega
 ·simp
def jG (r:Bs):Option ((Bs × Int) × Bs) :=
 match r with
 | []=>none
 | c::r=>if r.length < c.toNat+2 then none else some ((r.take c.toNat,((dH ((r.drop c.toNat).take 2):Nat):Int)),r.drop (c.toNat+2))
def jh:Nat->Bs->Option (List (Bs × Int) × Bs)
 | 0,r=>some ([],r)
 | j+1,r=>(jG r).bind fun x=>(jh j x.2).map fun y=>(x.1::y.1,y.2)
theorem ZW {l:Bs} (h:l.length=2):bW 2 (dH l)=l:=by
 have:=KJ l
 rwa [h] at this
theorem EU {r r':Bs} {t:Bs} {k:Int} (h:jG r=some ((t,k),r')):r=cx t++bW 2 k.toNat++r'/\t.length<=255/\0<=k/\k < 65536:=by
 unfold jG at h
 cases r with
 | nil=>cases h
 | cons c r =>
  simp only at h
  split at h
  ·cases h
  rename_i hl
  have hl:c.toNat+2<=r.length:=by omega
  simp only [Option.some.injEq,Prod.mk.injEq] at h
  obtain ⟨⟨rfl,rfl⟩,rfl⟩:=h
  have hc:=c.toNat_lt
  have h2:((r.drop c.toNat).take 2).length=2:=by simp;omega
  have hu:=Br ((r.drop c.toNat).take 2)
  rw [h2] at hu
  have h256:(256:Nat) ^ 2=65536:=by decide
  have ht:(r.take c.toNat).length=c.toNat:=by simp;omega
  refine ⟨?_,by rw [ht];omega,by omega,by omega⟩
  rw [bl,ZW h2]
  unfold cx
  rw [ht,UInt8.ofNat_toNat]
  simp only [dv,bu,List.cons.injEq,true_and]
  have e1:=ig c.toNat r
  have e2:=ig 2 (r.drop c.toNat)
  rw [nW] at e2
  rw [e2,e1]
theorem LW {t r':Bs} {k:Nat} (ht:t.length<=255) (hk:k < 65536):jG (cx t++bW 2 k++r')=some ((t,(k:Int)),r'):=by
 have e:(UInt8.ofNat t.length).toNat=t.length:=by simp;omega
 have hl2:=d5 2 k
 unfold jG
 simp only [dv,bu,e]
 rw [if_neg (by first | (simp [hl2];done) | (simp [hl2];omega))]
 have e1:(t++(bW 2 k++r')).take t.length=t:=by simp
 have e2:(t++(bW 2 k++r')).drop t.length=bW 2 k++r':=by simp
 have e3:(bW 2 k++r').take 2=bW 2 k:=by
  rw [vW (by omega),kE (by omega)]
 have e4:(t++(bW 2 k++r')).drop (t.length+2)=r':=by
  rw [<-nW,e2,rk,pq (by omega),hl2]
  first | done | simp
 rw [e1,e2,e3,e4,Bq 2 k (by have:(256:Nat) ^ 2=65536:=by decide
                            omega)]
theorem LX:∀(l:List (Bs × Int)) (r':Bs),(∀x∈l,x.1.length<=255/\dE x.2=true)->jh l.length (fg l++r')=some (l,r')
 | [],r',_=>rfl
 |(t,k)::l,r',h=>by
  obtain ⟨h1,h2⟩:=h (t,k) (by simp)
  simp only at h1 h2
  have h3:=ve h2
  obtain ⟨kn,rfl⟩:∃kn:Nat,k=(kn:Int):=⟨k.toNat,by omega⟩
  have ih:=LX l r' fun x hx=>h x (by simp [hx])
  rw [cL,jh,fg,bl,bu (cx t++bW 2 kn),LW h1 (by omega),aJ,ih]
  rfl
theorem Gz {s:Bs} {m:Nat} {t:Bs} {k:Int} {r':Bs} (h:jG (s.drop m)=some ((t,k),r')) :
  f9 s (m:Int)=(t,(m:Int)+1+t.length,0)/\fI s ((m:Int)+1+t.length) 2=(k,0)/\s.drop (m+1+t.length+2)=r'/\m+1+t.length+2<=s.length:=by
 unfold jG at h
 cases hd:s.drop m with
 | nil=>rw [hd] at h;cases h
 | cons c r =>
  rw [hd] at h
  simp only at h
  split at h
  ·cases h
  rename_i hl
  simp only [Option.some.injEq,Prod.mk.injEq] at h
  obtain ⟨⟨rfl,rfl⟩,rfl⟩:=h
  obtain ⟨h1,h2,h3⟩:=gl hd
  have hrl:r.length+m+1=s.length:=by
   have:=congrArg nY hd
   simp at this
   omega
  have ht:(r.take c.toNat).length=c.toNat:=by simp;omega
  have hdr:s.drop (m+1+c.toNat)=r.drop c.toNat:=by rw [<-nW,h2]
  rw [ht]
  refine ⟨?_,?_,?_,by omega⟩
  ·unfold f9
   rw [if_pos (by omega),bl,hd]
   simp only
   rw [if_neg (by omega)]
  ·unfold fI
   rw [if_pos (xF (by omega) (by omega) (by omega) (by omega))]
   rw [show ((m:Int)+1+(c.toNat:Int)).toNat=m+1+c.toNat by omega,hdr]
   rfl
  ·rw [<-h2,nW]
   congr 1
theorem Gx {s:Bs} {m:Nat} (hm:m<=s.length) (h:jG (s.drop m)=none):∀{t:Bs} {to e:Int},f9 s (m:Int)=(t,to,e)->(e≠0/\t=[]/\to=0)∨(e=0/\t.length<=255/\to=(m:Int)+1+t.length/\(s.length:Int) < to+2/\to<=(s.length:Int)/\(fI s to 2)=(0,3)):=by
 intro t to e he
 unfold jG at h
 unfold f9 at he
 rw [if_pos (by omega),bl] at he
 cases hd:s.drop m with
 | nil=>rw [hd] at he;simp only [Prod.mk.injEq] at he;exact .inl ⟨by omega,he.1.symm,he.2.1.symm⟩
 | cons c r =>
  rw [hd] at h he
  obtain ⟨h1,h2,h3⟩:=gl hd
  have hrl:r.length+m+1=s.length:=by
   have:=congrArg nY hd
   simp at this
   omega
  have hcl:=c.toNat_lt
  simp only at h he
  split at he
  ·simp only [Prod.mk.injEq] at he;exact .inl ⟨by omega,he.1.symm,he.2.1.symm⟩
  rename_i hx
  simp only [Prod.mk.injEq] at he
  obtain ⟨rfl,rfl,rfl⟩:=he
  split at h
  ·rename_i hy
   have ht:(r.take c.toNat).length=c.toNat:=by simp;omega
   refine .inr ⟨rfl,by omega,by rw [ht],by omega,by omega,?_⟩
   have:jL s ((m:Int)+1+(c.toNat:Int)) 2=3:=by
    unfold jL
    rw [if_neg (by omega),if_pos (by omega)]
   unfold fI
   rw [if_neg (by rw [this];decide),this]
  ·cases h
def ox (n:bJ) (rest:Bs):Option bJ:=if bL n && lH rest==[] then some n else none
def qG (s:Bs):Option bJ :=
 if s.length<=4∨252 < s.length∨s.head?≠some 78 then none else
 (jG (s.drop 4)).bind fun x=>(jh (s.getD 1 0).toNat x.2).bind fun y =>
  ox ⟨y.1.map (·.1),x.1.2::y.1.map (·.2),x.1.1,((dH ((s.drop 2).take 2):Nat):Int)⟩ y.2
abbrev jD:bJ:=⟨[],[],[],0⟩
def wK:Option bJ->V
 | some n=>.tup [eI n,.int .i64 0]
 | none=>.tup [eI jD,.int .i64 4]
theorem Cv {α:Type} {p:α->Bool}:∀{l:List α},l.dropWhile p=[]↔∀x∈l,p x=true
 | []=>by simp
 | x::l=>by
  rw [List.dropWhile_cons]
  cases h:p x with
  | true=>simp only [if_true];rw [Cv];simp [h]
  | false=>simp [h]
theorem Pt {r:Bs}:lH r=[]↔r=eV r.length:=by
 unfold lH
 rw [List.reverse_eq_nil_iff]
 constructor
 ·intro h
  have h2:∀x∈r,x=0:=by
   intro x hx
   have:=Cv.1 h x (List.mem_reverse.2 hx)
   simpa using this
  exact List.eq_replicate_iff.2 ⟨rfl,h2⟩
 ·intro h
  rw [Cv]
  intro x hx
  have:=List.mem_reverse.1 hx
  rw [h] at this
  simpa using vR this
abbrev JI:V:=.tup [.agg [.sl [],.sl [],.str [],.int .i64 0],.int .i64 4]
noncomputable def JB (s:Bs) (m:Int) (n:bJ):R :=
 aE aA 154 [eI n] fun r_3=>kB r_3 fun r13=>cond (!r13) (some (.done JI))
  (gd (decide (0<=m))<|gd (decide (m.toNat<=s.length))<|aE aA 176 [V.str ((s.take s.length).drop m.toNat)] fun r_4=>kS r_4 fun r37=>cond (!(r37==[])) (some (.done JI)) (some (.done (V.tup [eI n,V.int .i64 0]))))
theorem JC (s:Bs) (hs:cT s) (m:Nat) (hm:m<=s.length) (n:bJ) (hn:Sm n):JB s (m:Int) n=some (.done (wK (ox n (s.drop m)))):=by
 unfold JB ox
 have hsl:=hs
 rw [aK (vo n hn),cR]
 cases bL n with
 | false=>rfl
 | true =>
  rw [bR,cond_false,aG (by simp),bl,aG (by simpa using hm),lC,aK (HW (s.drop m) (by simp only [cT,gg];omega)),eO,dI]
  cases lH (s.drop m)==[]<;>rfl
theorem zi {s:Bs} {i m nx:Int} {hi:Bs} {a b:List V}:qO s i s m false hi nx a b=some (.done (wK none)):=rfl
theorem QD (hi:Bs) (nx:Int) (hh:hi.length<=255) {s:Bs} (hs:s.length<=252) {c:UInt8} (hc:s[1]? = some c):∀(j m i:Nat) (seps:List Bs) (kids:List Int),i+j=c.toNat->m<=s.length->seps.length=i->kids.length=i+1->(∀x∈seps,x.length<=255) ->
  Go qk false 0 (fF 130) (.head 0 (mI s (i:Int) s (m:Int) true hi nx (aV seps) (aB kids))) (.done (wK ((jh j (s.drop m)).bind fun y=>ox ⟨seps++y.1.map (·.1),kids++y.1.map (·.2),hi,nx⟩ y.2))):=by
 intro j
 have hcl:=c.toNat_lt
 have hss:cT s:=by simp only [cT];omega
 have wc:W .i64 (c.toNat:Int)=(c.toNat:Int):=aX (by omega)
 induction j with
 | zero =>
  intro m i seps kids hij hm hsl hkl hse
  have hn:Sm ⟨seps,kids,hi,nx⟩:=⟨by simp only;omega,fun x hx=>by have:=hse x hx;omega,by simp only;omega,by simp only;omega⟩
  refine qP _ _ _ _ _ _ _ _ _ ?_ (.refl _)
  unfold qO
  rw [cond_true,dk hc,wc,decide_eq_false (by omega),cond_false,bR,cond_false]
  have:=JC s hss m hm _ hn
  simp only [jh,aJ,iW,dA]
  exact this
 | succ j ih =>
  intro m i seps kids hij hm hsl hkl hse
  cases hp:jG (s.drop m) with
  | some x =>
   obtain ⟨⟨t,k⟩,r'⟩:=x
   obtain ⟨h1,h2,h3,hle⟩:=Gz hp
   obtain ⟨_,htl,hk0,hk1⟩:=EU hp
   have wk:W .i64 k=k:=aX (by omega)
   have wn:W .i64 ((m:Int)+1+t.length+2)=((m+1+t.length+2:Nat):Int):=by rw [aX (by omega)];omega
   refine qP _ _ _ _ _ _ _ _ _ (o:=.head 0 (mI s ((i+1:Nat):Int) s ((m+1+t.length+2:Nat):Int) true hi nx (aV (seps++[t])) (aB (kids++[k])))) ?_ ?_
   ·unfold qO
    rw [cond_true,dk hc,wc,decide_eq_true (by omega),cond_true,aK (jo h1 hss),gw,cond_true,aG (by simp [fP];omega),if_pos (by omega),aK (iN h2 hss),iK,dV rfl,cond_true,aG (by simp [bZ];omega),wn,wk]
    rw [aX (n:=(i:Int)+1) (by omega)]
    simp [aV,aB]
   ·have:=(ih (m+1+t.length+2) (i+1) (seps++[t]) (kids++[k]) (by omega) hle (by simp;omega) (by simp;omega) (by intro x hx;rcases bp.1 hx with hx | hx;exact hse x hx;simp at hx;rw [hx];exact htl))
    rw [h3] at this
    simp only [jh,hp,aJ,Option.map_eq_bind,BP]
    simpa [BP,Function.comp_def] using this
  | none =>
   have hnone:((jh (j+1) (s.drop m)).bind fun y=>ox ⟨seps++y.1.map (·.1),kids++y.1.map (·.2),hi,nx⟩ y.2)=none:=by
    simp only [jh,hp,Option.bind_none]
   rw [hnone]
   obtain ⟨t,to,e,he⟩:∃t to e,f9 s (m:Int)=(t,to,e):=⟨_,_,_,rfl⟩
   have hb:=Gx hm hp he
   rcases hb with ⟨hb,_,_⟩ | ⟨rfl,_,hto,h4,h5,h6⟩
   ·obtain ⟨x,e2,hx⟩:∃x e2,fI s (if (m:Int) < to then to else m) 2=(x,e2):=⟨_,_,rfl⟩
    have hq:=Eq.refl (qO s (i:Int) s (m:Int) true hi nx (aV seps) (aB kids))
    conv at hq =>
     rhs
     unfold qO
     rw [cond_true,dk hc,wc,decide_eq_true (by omega),cond_true,aK (jo he hss),gw,cond_true,aG (by simp [fP];omega),aK (iN hx hss),iK,eK hb,cond_false,aG (by simp [bZ];omega)]
    exact qP _ _ _ _ _ _ _ _ _ hq (qP _ _ _ _ _ _ _ _ _ zi (.refl _))
   ·have hif:(if (m:Int) < to then to else m)=to:=if_pos (by omega)
    have hq:=Eq.refl (qO s (i:Int) s (m:Int) true hi nx (aV seps) (aB kids))
    conv at hq =>
     rhs
     unfold qO
     rw [cond_true,dk hc,wc,decide_eq_true (by omega),cond_true,aK (jo he hss),gw,cond_true,aG (by simp [fP];omega),hif,aK (iN h6 hss),iK,dV rfl,cond_true,aG (by simp [bZ];omega),eK (by decide)]
    exact qP _ _ _ _ _ _ _ _ _ hq (qP _ _ _ _ _ _ _ _ _ zi (.refl _))
theorem QC (hi:Bs) (nx:Int) (hh:hi.length<=255) {s:Bs} (hs:s.length<=252) {c:UInt8} (hc:s[1]? = some c):∀(j m:Nat) (kids:List Int),j=c.toNat->m<=s.length->kids.length=1 ->
  Go qk false 0 (fF 130) (.head 0 (wj s s (m:Int) true hi nx (aB kids))) (.done (wK ((jh j (s.drop m)).bind fun y=>ox ⟨y.1.map (·.1),kids++y.1.map (·.2),hi,nx⟩ y.2))):=by
 intro j
 have hcl:=c.toNat_lt
 have hss:cT s:=by simp only [cT];omega
 have wc:W .i64 (c.toNat:Int)=(c.toNat:Int):=aX (by omega)
 have seps:List Bs:=[]
 cases j with
 | zero =>
  intro m kids hij hm hkl
  have hn:Sm ⟨[],kids,hi,nx⟩:=⟨by simp only [fR];omega,fun x hx=>by simp at hx,by simp only;omega,by simp only;omega⟩
  refine vu _ _ _ _ _ _ _ ?_ (.refl _)
  unfold td
  rw [cond_true,dk hc,wc,decide_eq_false (by omega),cond_false,bR,cond_false]
  have:=JC s hss m hm _ hn
  simp only [jh,aJ,iW,dA]
  exact this
 | succ j =>
  intro m kids hij hm hkl
  cases hp:jG (s.drop m) with
  | some x =>
   obtain ⟨⟨t,k⟩,r'⟩:=x
   obtain ⟨h1,h2,h3,hle⟩:=Gz hp
   obtain ⟨_,htl,hk0,hk1⟩:=EU hp
   have wk:W .i64 k=k:=aX (by omega)
   have wn:W .i64 ((m:Int)+1+t.length+2)=((m+1+t.length+2:Nat):Int):=by rw [aX (by omega)];omega
   refine vu _ _ _ _ _ _ _ (o:=.head 0 (mI s ((1:Nat):Int) s ((m+1+t.length+2:Nat):Int) true hi nx (aV [t]) (aB (kids++[k])))) ?_ ?_
   ·unfold td
    rw [cond_true,dk hc,wc,decide_eq_true (by omega),cond_true,aK (jo h1 hss),gw,cond_true,aG (by simp),if_pos (by omega),aK (iN h2 hss),iK,dV rfl,cond_true,aG (by simp [bZ];omega),wn,wk]
    simp [aV,aB]
   ·have:=(QD hi nx hh hs hc j (m+1+t.length+2) 1 [t] (kids++[k]) (by omega) hle rfl (by simp;omega) (by simpa using htl))
    rw [h3] at this
    simp only [jh,hp,aJ,Option.map_eq_bind,BP]
    simpa [BP,Function.comp_def] using this
  | none =>
   have hnone:((jh (j+1) (s.drop m)).bind fun y=>ox ⟨y.1.map (·.1),kids++y.1.map (·.2),hi,nx⟩ y.2)=none:=by
    simp only [jh,hp,Option.bind_none]
   rw [hnone]
   obtain ⟨t,to,e,he⟩:∃t to e,f9 s (m:Int)=(t,to,e):=⟨_,_,_,rfl⟩
   have hb:=Gx hm hp he
   rcases hb with ⟨hb,_,_⟩ | ⟨rfl,_,hto,h4,h5,h6⟩
   ·obtain ⟨x,e2,hx⟩:∃x e2,fI s (if (m:Int) < to then to else m) 2=(x,e2):=⟨_,_,rfl⟩
    have hq:=Eq.refl (td s s (m:Int) true hi nx (aB kids))
    conv at hq =>
     rhs
     unfold td
     rw [cond_true,dk hc,wc,decide_eq_true (by omega),cond_true,aK (jo he hss),gw,cond_true,aG (by simp),aK (iN hx hss),iK,eK hb,cond_false,aG (by simp [bZ];omega)]
    exact vu _ _ _ _ _ _ _ hq (qP _ _ _ _ _ _ _ _ _ zi (.refl _))
   ·have hif:(if (m:Int) < to then to else m)=to:=if_pos (by omega)
    have hq:=Eq.refl (td s s (m:Int) true hi nx (aB kids))
    conv at hq =>
     rhs
     unfold td
     rw [cond_true,dk hc,wc,decide_eq_true (by omega),cond_true,aK (jo he hss),gw,cond_true,aG (by simp),hif,aK (iN h6 hss),iK,dV rfl,cond_true,aG (by simp [bZ];omega),eK (by decide)]
    exact vu _ _ _ _ _ _ _ hq (qP _ _ _ _ _ _ _ _ _ zi (.refl _))
theorem TP {s:Bs} {c:UInt8} (h:s[1]? = some c):s.getD 1 0=c:=by
 simp [List.getD,h]
theorem QE (s:Bs) (hss:cT s):bK aA 130 [.str s]=some (wK (qG s)):=by
 have hsl:=hss
 by_cases h1:s.length<=4
 ·refine uC _ ?_ (.refl _)
  unfold ot qG
  rw [decide_eq_true (by omega),if_pos (.inl h1)]
  rfl
 by_cases h2:252 < s.length
 ·refine uC _ ?_ (.refl _)
  unfold ot qG
  rw [decide_eq_false (by omega),cond_false,decide_eq_true (by omega),if_pos (.inr (.inl h2))]
  rfl
 have hs:s.length<=252:=by omega
 obtain ⟨c0,hc0⟩:∃c,s[0]? = some c:=⟨_,bC (by omega)⟩
 obtain ⟨c,hc⟩:∃c,s[1]? = some c:=⟨_,bC (by omega)⟩
 have hh:s.head? = some c0:=by rw [<-hc0];exact List.head?_eq_getElem?
 by_cases h3:c0=78
 rotate_left
 ·refine uC _ ?_ (.refl _)
  have h4:((c0.toNat:Int))≠78:=by
   intro e
   have h78:(78:UInt8).toNat=78:=rfl
   exact h3 (UInt8.toNat_inj.1 (by omega))
  unfold ot qG
  rw [decide_eq_false (by omega),cond_false,decide_eq_false (by omega),cond_false,dk hc0,lU h4,if_pos (.inr (.inr (by rw [hh];simpa using h3)))]
  rfl
 subst h3
 have hg2:fI s 2 2=(((dH ((s.drop 2).take 2):Nat):Int),0):=by
  unfold fI
  rw [if_pos (xF (by omega) (by omega) (by omega) (by omega))]
  rfl
 have hn2:=TN s 2
 rw [hg2] at hn2
 simp only at hn2
 have wn2:W .i64 ((dH ((s.drop 2).take 2):Nat):Int)=((dH ((s.drop 2).take 2):Nat):Int):=aX (by omega)
 have hparse:qG s=(jG (s.drop 4)).bind fun x=>(jh c.toNat x.2).bind fun y=>ox ⟨y.1.map (·.1),x.1.2::y.1.map (·.2),x.1.1,((dH ((s.drop 2).take 2):Nat):Int)⟩ y.2:=by
  unfold qG
  rw [if_neg (by rw [hh];simp;omega),TP hc]
 rw [hparse]
 cases hp:jG (s.drop 4) with
 | some x =>
  obtain ⟨⟨hi,k⟩,r'⟩:=x
  obtain ⟨g1,g2,g3,hle⟩:=Gz hp
  obtain ⟨_,htl,hk0,hk1⟩:=EU hp
  have wk:W .i64 k=k:=aX (by omega)
  have wn:W .i64 (((4:Nat):Int)+1+hi.length+2)=((4+1+hi.length+2:Nat):Int):=by rw [aX (by omega)];omega
  have:=QC hi ((dH ((s.drop 2).take 2):Nat):Int) htl hs hc c.toNat (4+1+hi.length+2) [k] rfl hle rfl
  rw [g3] at this
  refine uC _ ?_ this
  unfold ot
  have g1:f9 s 4=(hi,((4:Nat):Int)+1+hi.length,0):=g1
  rw [decide_eq_false (by omega),cond_false,decide_eq_false (by omega),cond_false,dk hc0,d0 (by decide),cond_false,aK (iN hg2 hss),iK,aK (jo g1 hss),gw,dV rfl,cond_true,if_pos (by omega),aK (iN g2 hss),iK,dV rfl,cond_true,aG (by simp),wn,wk,wn2]
  rfl
 | none =>
  obtain ⟨t,to,e,he⟩:∃t to e,f9 s ((4:Nat):Int)=(t,to,e):=⟨_,_,_,rfl⟩
  have hb:=Gx (by omega) hp he
  have he:f9 s 4=(t,to,e):=he
  rcases hb with ⟨hb,_,_⟩ | ⟨rfl,_,hto,h4,h5,h6⟩
  ·obtain ⟨x,e2,hx⟩:∃x e2,fI s (if (4:Int) < to then to else 4) 2=(x,e2):=⟨_,_,rfl⟩
   have hq:=Eq.refl (ot s)
   conv at hq =>
    rhs
    unfold ot
    rw [decide_eq_false (by omega),cond_false,decide_eq_false (by omega),cond_false,dk hc0,d0 (by decide),cond_false,aK (iN hg2 hss),iK,aK (jo he hss),gw,dV rfl,cond_true,aK (iN hx hss),iK,eK hb,cond_false,aG (by simp)]
   exact uC _ hq (vu _ _ _ _ _ _ _ rfl (.refl _))
  ·have hif:(if (4:Int) < to then to else 4)=to:=if_pos (by omega)
   have hq:=Eq.refl (ot s)
   conv at hq =>
    rhs
    unfold ot
    rw [decide_eq_false (by omega),cond_false,decide_eq_false (by omega),cond_false,dk hc0,d0 (by decide),cond_false,aK (iN hg2 hss),iK,aK (jo he hss),gw,dV rfl,cond_true,hif,aK (iN h6 hss),iK,cond_true,aG (by simp),eK (by decide)]
   exact uC _ hq (vu _ _ _ _ _ _ _ rfl (.refl _))
theorem zb (l:List Bs) (h:l.length<=1000000):bK aA 171 [.sl (aV l)]=some (.fr 9 (aV l)):=by
 refine AD (g:=kQ 9 1) rfl ?_
 show (if dp 1 (aV l)=true/\((aV l).all fun x=>x.cells.all V.flat1)=true/\(aV l).length<=16777216 then some (V.fr 9 (aV l)) else none)=_
 rw [if_pos ⟨Ot l,JZ fun _=>rfl,by rw [fP];omega⟩]
theorem y9 (l:List Int) (h:l.length<=1000000):bK aA 173 [.sl (aB l)]=some (.fr 3 (aB l)):=by
 refine AD (g:=kQ 3 1) rfl ?_
 show (if dp 1 (aB l)=true/\((aB l).all fun x=>x.cells.all V.flat1)=true/\(aB l).length<=16777216 then some (V.fr 3 (aB l)) else none)=_
 rw [if_pos ⟨o9 l,JZ fun _=>rfl,by rw [bZ];omega⟩]
theorem GG (l:List Bs) (k:Nat):(aV l).take k=aV (l.take k):=by simp [aV]
theorem GF (l:List Bs) (k:Nat):(aV l).drop k=aV (l.drop k):=by simp [aV]
theorem GD (a b:List Bs):aV a++aV b=aV (a++b):=by simp [aV]
theorem Zq (a:Bs):[V.str a]=aV [a]:=rfl
theorem Eg (l:List Int) (k:Nat):(aB l).take k=aB (l.take k):=by simp [aB]
theorem Ee (l:List Int) (k:Nat):(aB l).drop k=aB (l.drop k):=by simp [aB]
theorem xe (a b:List Int):aB a++aB b=aB (a++b):=by simp [aB]
theorem UD (a:Int):[V.int .i64 a]=aB [a]:=rfl
theorem z7 (l:List Int) (k:Nat) (a:Int):(aB l).set k (V.int .i64 a)=aB (l.set k a):=by simp [aB,List.map_set]
abbrev ER (p:bJ × Int):V:=.tup [eI p.1,.int .i64 p.2]
abbrev ly (n:bJ) (key:Bs) (kid:Int) (i:Nat):bJ:=⟨n.seps.take i++[key]++n.seps.drop i,n.kids.take (i+1)++[kid]++n.kids.drop (i+1),n.high,n.next⟩
def mc (n:bJ) (key:Bs) (kid:Int):bJ × Int :=
 if (i9 n key).2=0/\dE kid=true then
  if 0 < eC n.seps key/\n.seps[eC n.seps key - 1]? = some key then (jD,8) else
  if k9 (ly n key kid (eC n.seps key)) then (ly n key kid (eC n.seps key),0) else (jD,6)
 else (jD,1)
theorem Xe {n:bJ} (h:Sm n) (hl:n.seps.length<=900) (hk:n.kids.length<=900) {key:Bs} (hkey:key.length<=1000) {kid:Int} {i:Nat}:Sm (ly n key kid i):=by
 refine ⟨by simp;omega,?_,by simp;omega,h.high⟩
 intro s hs
 rcases bp.1 hs with hs | hs
 ·rcases bp.1 hs with hs | hs
  ·exact h.sep s (mE hs)
  ·simp at hs;rw [hs];exact hkey
 ·exact h.sep s (kD hs)
theorem Tg {n:bJ} {key:Bs} (h:(i9 n key).2=0):i9 n key=(((eC n.seps key:Nat):Int),0)/\bL n=true:=by
 unfold i9 at h |-
 split at h
 ·rename_i hc
  rw [if_pos hc]
  simp only [bv] at hc
  exact ⟨rfl,hc.1.1⟩
 ·cases h
theorem Ti {n:bJ} {key:Bs} (h:(i9 n key).2≠0):i9 n key=(0,1):=by
 unfold i9 at h |-
 split
 ·rename_i hc;rw [if_pos hc] at h;exact (h rfl).elim
 ·rfl
noncomputable def NW (n:bJ) (key:Bs) (kid i:Int):R :=
 aE aA 171 [V.sl (aV n.seps)] fun r_2=>kF 9 r_2 fun r57 =>
 gd (decide (0<=i/\i.toNat<=r57.length/\r57.length+([V.str key]:List V).length<=16777216)) <|
 aE aA 173 [V.sl (aB n.kids)] fun r_3=>kF 3 r_3 fun r59 =>
 gd (decide (0<=W .i64 (i+1)/\(W .i64 (i+1)).toNat<=r59.length/\r59.length+([V.int .i64 kid]:List V).length<=16777216)) <|
 aE aA 204 [V.agg [V.sl (((r57.take i.toNat)++[V.str key])++(r57.drop i.toNat)),V.sl (((r59.take ((W .i64 (i+1)).toNat))++[V.int .i64 kid])++(r59.drop ((W .i64 (i+1)).toNat))),V.str n.high,V.int .i64 n.next]] fun r_4 =>
 kB r_4 fun r43=>cond (!r43) (some (.done (V.tup [V.agg [V.sl [],V.sl [],V.str [],V.int .i64 0],V.int .i64 6])))
  (some (.done (V.tup [V.agg [V.sl (((r57.take i.toNat)++[V.str key])++(r57.drop i.toNat)),V.sl (((r59.take ((W .i64 (i+1)).toNat))++[V.int .i64 kid])++(r59.drop ((W .i64 (i+1)).toNat))),V.str n.high,V.int .i64 n.next],V.int .i64 0])))
theorem Zy (n:bJ) (key:Bs) (kid:Int) (i:Nat) (h:Sm n) (hl:n.seps.length<=900) (hk:n.kids.length<=900) (hkey:key.length<=1000) (hi:i<=n.seps.length) (hik:i+1<=n.kids.length) :
  NW n key kid (i:Int)=some (.done (ER (if k9 (ly n key kid i) then (ly n key kid i,0) else (jD,6)))):=by
 have w:W .i64 ((i:Int)+1)=((i+1:Nat):Int):=by rw [aX (by omega)];omega
 unfold NW
 rw [w,bl,bl,aK (zb n.seps (by omega)),jC,aG (by rw [fP];simp;omega),aK (y9 n.kids (by omega)),jC,aG (by rw [bZ];simp;omega)]
 rw [Zq,UD,GG,GF,GD,GD,Eg,Ee,xe,xe,aK (JV (ly n key kid i) (Xe h hl hk hkey)),cR]
 cases k9 (ly n key kid i)<;>rfl
theorem AG (n:bJ) (key:Bs) (kid:Int) (h:Sm n) (hkey:key.length<=1000):bK aA 167 [eI n,.str key,.int .i64 kid]=some (ER (mc n key kid)):=by
 refine RE _ _ _ _ _ _ ?_
 unfold CN mc
 rw [aK (JR n key h),Is]
 by_cases hf:(i9 n key).2=0
 rotate_left
 ·rw [Ti hf,lU (by decide),if_neg (by rintro ⟨hq,_⟩;cases hq)];rfl
 obtain ⟨hfa,hr⟩:=Tg hf
 obtain ⟨h1,_,h3,_,_,_,h7⟩:=nJ hr
 have hg:=qV h3
 have hle:=HQ n.seps key
 rw [hfa,d0 rfl,cond_false,aK (xr kid),cR]
 cases hp:dE kid with
 | false=>rw [if_neg (by rintro ⟨_,hq⟩;cases hq)];rfl
 | true =>
  rw [bR,cond_false,if_pos ⟨rfl,rfl⟩]
  generalize hi:eC n.seps key=i at hle
  have ht:=Zy n key kid i h (by omega) (by omega) hkey hle (by omega)
  by_cases h0:0 < i
  ·have w1:W .i64 ((i:Int) - 1)=((i - 1:Nat):Int):=by rw [aX (by omega)];omega
   have aC:i - 1 < n.seps.length:=by omega
   have hget:n.seps[i - 1]? = some n.seps[i - 1]:=bC aC
   rw [decide_eq_true (show (i:Int) > 0 by omega),cond_true,w1,aG (by simp),bl,ku hget,eO]
   by_cases he:n.seps[i - 1]=key
   ·rw [he,beq_self_eq_true,if_pos ⟨h0,by rw [hget,he]⟩];rfl
   ·have he2:(n.seps[i - 1]==key)=false:=by simpa using he
    rw [he2,cond_false,if_neg (by rintro ⟨_,hq⟩;rw [hget] at hq;exact he (Option.some.inj hq))]
    exact ht
  ·rw [decide_eq_false (show ¬(i:Int) > 0 by omega),cond_false,if_neg (by rintro ⟨hq,_⟩;exact h0 hq)]
   exact ht
abbrev rL (n:bJ) (i:Nat):bJ:=⟨n.seps.take (i - 1)++n.seps.drop (i - 1+1),n.kids.take i++n.kids.drop (i+1),n.high,n.next⟩
def kg (n:bJ) (i:Int):bJ × Int:=if bL n=true/\0<=i/\i < (n.kids.length:Int)/\2<=n.kids.length then (rL n i.toNat,0) else (jD,1)
theorem QF (n:bJ) (i:Int) (h:Sm n):bK aA 126 [eI n,.int .i64 i]=some (ER (kg n i)):=by
 refine Ra _ _ _ _ _ ?_
 unfold CF
 rw [aK (vo n h),cR,bZ]
 cases hr:bL n with
 | false =>
  have hd:kg n i=(jD,1):=by unfold kg;exact if_neg (by rw [hr];rintro ⟨hq,_⟩;cases hq)
  rw [hd];rfl
 | true =>
  obtain ⟨h1,_,h3,_,_,_,h7⟩:=nJ hr
  have hg:=qV h3
  rw [bR,cond_false]
  by_cases g1:i < 0
  ·have hd:kg n i=(jD,1):=by unfold kg;exact if_neg (by omega)
   rw [hd,decide_eq_true g1];rfl
  rw [decide_eq_false g1,cond_false]
  by_cases g2:i ≥ (n.kids.length:Int)
  ·have hd:kg n i=(jD,1):=by unfold kg;exact if_neg (by omega)
   rw [hd,decide_eq_true g2];rfl
  rw [decide_eq_false g2,cond_false]
  by_cases g3:n.kids.length=1
  ·have hd:kg n i=(jD,1):=by unfold kg;exact if_neg (by omega)
   rw [hd,dV (by omega)];rfl
  rw [eK (by omega),cond_false]
  have hd:kg n i=(rL n i.toNat,0):=by unfold kg;exact if_pos ⟨hr,by omega,by omega,by omega⟩
  rw [hd]
  obtain ⟨k,rfl⟩:∃k:Nat,i=(k:Int):=⟨i.toNat,by omega⟩
  have w1:W .i64 ((k:Int) - 1)=(k:Int) - 1:=aX (by omega)
  have w2:W .i64 ((k:Int)+1)=((k+1:Nat):Int):=by rw [aX (by omega)];omega
  have hm:(if 0 < (k:Int) - 1 then (k:Int) - 1 else 0)=((k - 1:Nat):Int):=by split<;>omega
  have w3:W .i64 (((k - 1:Nat):Int)+1)=((k - 1+1:Nat):Int):=by rw [aX (by omega)];omega
  rw [w1,w2,hm,w3,bl,bl,bl,bl,aK (zb n.seps (by omega)),jC,aG (by rw [fP];simp;omega),aK (y9 n.kids (by omega)),jC,aG (by rw [bZ];simp;omega)]
  rw [GG,GF,GD,Eg,Ee,xe]
abbrev tu (n:bJ) (to:Int):bJ:=⟨n.seps.take (n.seps.length / 2),n.kids.take (n.seps.length / 2+1),n.seps.getD (n.seps.length / 2) [],to+1⟩
abbrev tv (n:bJ):bJ:=⟨n.seps.drop (n.seps.length / 2+1),n.kids.drop (n.seps.length / 2+1),n.high,n.next⟩
def vC (n:bJ) (to:Int):bJ × bJ × Bs × Int :=
 if bL n=true/\3<=n.kids.length/\dE to=true then (tu n to,tv n,n.seps.getD (n.seps.length / 2) [],0) else (jD,jD,[],1)
abbrev WE (p:bJ × bJ × Bs × Int):V:=.tup [eI p.1,eI p.2.1,.str p.2.2.1,.int .i64 p.2.2.2]
theorem Y8 (n:bJ) (to:Int) (h:Sm n):bK aA 168 [eI n,.int .i64 to]=some (WE (vC n to)):=by
 refine RG _ _ _ _ _ ?_
 have hs:=h.seps
 have hk:=h.kids
 unfold CO vC
 rw [aK (vo n h),cR,bZ,fP]
 cases hr:bL n with
 | false=>rw [if_neg (by rintro ⟨hq,_⟩;cases hq)];rfl
 | true =>
  obtain ⟨h1,_⟩:=nJ hr
  rw [bR,cond_false]
  by_cases g1:(n.kids.length:Int) < 3
  ·rw [decide_eq_true g1,if_neg (by omega)];rfl
  rw [decide_eq_false g1,cond_false,aK (xr to),cR]
  cases hp:dE to with
  | false=>rw [if_neg (by rintro ⟨_,_,hq⟩;cases hq)];rfl
  | true =>
   have hto:=ve hp
   rw [bR,cond_false,if_pos ⟨rfl,by omega,rfl⟩]
   have wd:W .i64 ((n.seps.length:Int).tdiv 2)=((n.seps.length / 2:Nat):Int):=by
    rw [show ((n.seps.length:Int)).tdiv 2=((n.seps.length / 2:Nat):Int) from rfl]
    exact aX (by omega)
   rw [wd]
   obtain ⟨m,hm⟩:∃m,n.seps.length / 2=m:=⟨_,rfl⟩
   have hm2:m < n.seps.length:=by omega
   rw [hm]
   have w1:W .i64 ((m:Int)+1)=((m+1:Nat):Int):=by rw [aX (by omega)];omega
   have w2:W .i64 (to+1)=to+1:=aX (by omega)
   have hget:n.seps[m]? = some n.seps[m]:=bC hm2
   have hd:n.seps.getD m []=n.seps[m]:=by simp [List.getD,hget]
   have e1:tu n to=⟨n.seps.take m,n.kids.take (m+1),n.seps[m],to+1⟩:=by unfold tu;rw [hm,hd]
   have e2:tv n=⟨n.seps.drop (m+1),n.kids.drop (m+1),n.high,n.next⟩:=by unfold tv;rw [hm]
   rw [e1,e2]
   have et:(aB n.kids).take n.kids.length=aB n.kids:=by rw [<-bZ,lC]
   have es:(aV n.seps).take n.seps.length=aV n.seps:=by rw [<-fP,lC]
   rw [hd,w1,w2,bl,bl,et,es,GG,GF,Eg,Ee]
   have q1:=zb (n.seps.take m) (by simp;omega)
   have q2:=zb (n.seps.drop (m+1)) (by simp;omega)
   have q3:=y9 (n.kids.take (m+1)) (by simp;omega)
   have q4:=y9 (n.kids.drop (m+1)) (by simp;omega)
   simp (disch:=first | exact Ot _ | exact o9 _ | exact decide_eq_true (by first | omega | (simp only [fP,bZ,c8,gq,gg,cL,fR,nZ];omega))) only [aG,ku hget,eO,aK q1,aK q2,aK q3,aK q4,jC]
def c9 (b0 b1 b2 b3 b4 b5 b6 b7:Bool):Nat:=b0.toNat+2 * b1.toNat+4 * b2.toNat+8 * b3.toNat+16 * b4.toNat+32 * b5.toNat+64 * b6.toNat+128 * b7.toNat
abbrev o6 (n r:Nat):Bool:=(W .u8 (((BitVec.ofInt (IntKind.bits .u8) (n:Int) &&& BitVec.ofInt (IntKind.bits .u8) (r:Int)).toNat:Int))) != (0:Int)
abbrev nL (n r:Nat):Int:=W .u8 (((BitVec.ofInt (IntKind.bits .u8) (n:Int) ||| BitVec.ofInt (IntKind.bits .u8) (r:Int)).toNat:Int))
theorem ZQ:∀b0 b1 b2 b3 b4 b5 b6 b7:Bool,
  o6 (c9 b0 b1 b2 b3 b4 b5 b6 b7) 1=b0/\o6 (c9 b0 b1 b2 b3 b4 b5 b6 b7) 2=b1/\o6 (c9 b0 b1 b2 b3 b4 b5 b6 b7) 4=b2/\o6 (c9 b0 b1 b2 b3 b4 b5 b6 b7) 8=b3 /\
  o6 (c9 b0 b1 b2 b3 b4 b5 b6 b7) 16=b4/\o6 (c9 b0 b1 b2 b3 b4 b5 b6 b7) 32=b5/\o6 (c9 b0 b1 b2 b3 b4 b5 b6 b7) 64=b6/\o6 (c9 b0 b1 b2 b3 b4 b5 b6 b7) 128=b7:=by decide +kernel
theorem YD:∀b0 b1 b2 b3 b4 b5 b6 b7:Bool,
  nL (c9 b0 b1 b2 b3 b4 b5 b6 b7) 1=(c9 true b1 b2 b3 b4 b5 b6 b7:Nat)/\nL (c9 b0 b1 b2 b3 b4 b5 b6 b7) 2=(c9 b0 true b2 b3 b4 b5 b6 b7:Nat)/\nL (c9 b0 b1 b2 b3 b4 b5 b6 b7) 4=(c9 b0 b1 true b3 b4 b5 b6 b7:Nat)/\nL (c9 b0 b1 b2 b3 b4 b5 b6 b7) 8=(c9 b0 b1 b2 true b4 b5 b6 b7:Nat) /\
  nL (c9 b0 b1 b2 b3 b4 b5 b6 b7) 16=(c9 b0 b1 b2 b3 true b5 b6 b7:Nat)/\nL (c9 b0 b1 b2 b3 b4 b5 b6 b7) 32=(c9 b0 b1 b2 b3 b4 true b6 b7:Nat)/\nL (c9 b0 b1 b2 b3 b4 b5 b6 b7) 64=(c9 b0 b1 b2 b3 b4 b5 true b7:Nat)/\nL (c9 b0 b1 b2 b3 b4 b5 b6 b7) 128=(c9 b0 b1 b2 b3 b4 b5 b6 true:Nat):=by decide +kernel
def j7 (f:Nat->Bool) (j:Nat):Nat:=c9 (f (8 * j)) (f (8 * j+1)) (f (8 * j+2)) (f (8 * j+3)) (f (8 * j+4)) (f (8 * j+5)) (f (8 * j+6)) (f (8 * j+7))
def eA (f:Nat->Bool) (i:Nat) (b:Bool):Nat->Bool:=fun k=>if k=i then b else f k
theorem EH (i:Nat):∃j k,k < 8/\i=8 * j+k/\i / 8=j/\i % 8=k:=⟨i / 8,i % 8,Nat.mod_lt _ (by omega),by omega,rfl,rfl⟩
theorem AF {k:Nat} (h:k < 8):k=0∨k=1∨k=2∨k=3∨k=4∨k=5∨k=6∨k=7:=by omega
theorem PQ (f:Nat->Bool) (i:Nat):o6 (j7 f (i / 8)) (2 ^ (i % 8))=f i:=by
 obtain ⟨j,k,hk,e,e1,e2⟩:=EH i
 rw [e1,e2,e]
 have h:=ZQ (f (8 * j)) (f (8 * j+1)) (f (8 * j+2)) (f (8 * j+3)) (f (8 * j+4)) (f (8 * j+5)) (f (8 * j+6)) (f (8 * j+7))
 obtain ⟨h0,h1,h2,h3,h4,h5,h6,h7⟩:=h
 rcases AF hk with rfl | rfl | rfl | rfl | rfl | rfl | rfl | rfl<;>assumption
theorem PP (f:Nat->Bool) (i:Nat):nL (j7 f (i / 8)) (2 ^ (i % 8))=(j7 (eA f i true) (i / 8):Nat):=by
 obtain ⟨j,k,hk,e,e1,e2⟩:=EH i
 rw [e1,e2,e]
 have h:=YD (f (8 * j)) (f (8 * j+1)) (f (8 * j+2)) (f (8 * j+3)) (f (8 * j+4)) (f (8 * j+5)) (f (8 * j+6)) (f (8 * j+7))
 obtain ⟨h0,h1,h2,h3,h4,h5,h6,h7⟩:=h
 have u:∀m,eA f (8 * j+k) true (8 * j+m)=if m=k then true else f (8 * j+m):=by
  intro m
  unfold eA
  by_cases e:m=k
  ·rw [if_pos (by omega),if_pos e]
  ·rw [if_neg (by omega),if_neg e]
 have u0:=u 0
 rw [dK] at u0
 unfold j7
 rw [u0,u 1,u 2,u 3,u 4,u 5,u 6,u 7]
 rcases AF hk with rfl | rfl | rfl | rfl | rfl | rfl | rfl | rfl<;>assumption
theorem PO (f:Nat->Bool) (i j:Nat) (b:Bool) (h:j≠i / 8):j7 (eA f i b) j=j7 f j:=by
 have:∀k,k < 8->eA f i b (8 * j+k)=f (8 * j+k):=fun k hk=>by unfold eA;rw [if_neg (by omega)]
 unfold j7
 rw [this 1 (by omega),this 2 (by omega),this 3 (by omega),this 4 (by omega),this 5 (by omega),this 6 (by omega),this 7 (by omega)]
 have:=this 0 (by omega)
 rw [dK] at this
 rw [this]
def aL (n:Nat) (f:Nat->Bool):List V:=(dl ((n+7) / 8)).map fun j=>V.int .u8 (j7 f j:Nat)
theorem uq (n:Nat) (f:Nat->Bool):(aL n f).length=(n+7) / 8:=by simp [aL]
theorem uo {n i:Nat} (f:Nat->Bool) (h:i < n):(aL n f)[i / 8]? = some (.int .u8 (j7 f (i / 8):Nat)):=by
 unfold aL
 rw [dB,rm (by omega)];rfl
theorem HX {n i:Nat} (f:Nat->Bool) (b:Bool) (h:i < n):(aL n f).set (i / 8) (.int .u8 (j7 (eA f i b) (i / 8):Nat))=aL n (eA f i b):=by
 apply tK
 intro j
 rw [List.getElem?_set]
 by_cases e:i / 8=j
 ·subst e
  rw [if_pos rfl,if_pos (by rw [uq];omega),uo _ h]
 ·rw [if_neg e]
  unfold aL
  rw [dB,dB]
  cases hj:(dl ((n+7) / 8))[j]? with
  | none=>rfl
  | some k =>
   have:k=j:=by
    have:=bj.1 hj
    obtain ⟨_,h2⟩:=this
    simpa using h2.symm
   subst this
   rw [cg,cg,PO f i k b (Ne.symm e)]
theorem B5 (i:Nat):bK aA 193 [.int .i64 (i:Int)]=some (.int .u8 ((2 ^ (i % 8):Nat):Int)):=by
 refine RP _ ?_
 unfold CQ
 have hm:((i:Int)).tmod 8=((i % 8:Nat):Int):=rfl
 have hk:=Nat.mod_lt i (show 0 < 8 by omega)
 rw [hm,bl,aG (decide_eq_true (by omega)),aG (decide_eq_true hk)]
 rcases AF hk with e | e | e | e | e | e | e | e<;>rw [e]<;>rfl
theorem GK (i:Nat) (h:i < 100000):W .i64 ((i:Int).tdiv 8)=((i / 8:Nat):Int):=by
 rw [show (i:Int).tdiv 8=((i / 8:Nat):Int) from rfl,aX (by omega)]
def lX (n:Nat) (f:Nat->Bool) (i:Int):Bool:=decide (0<=i/\i < (n:Int)) && f i.toNat
theorem uP (n:Nat) (hn:n<=1024) (f:Nat->Bool) (i:Int):bN aA aH 137 [.ptr 0 0 0,.int .i64 i] (bm n (aL n f))=some (l8 (bm n (aL n f)) (lX n f i)):=by
 refine Rl _ _ _ (o:=.doneM (.bool (lX n f i)) (bm n (aL n f))) ?_ (.done (by kernel_rfl))
 unfold IW lX
 by_cases h1:i ≥ 0
 case neg=>rw [decide_eq_false h1,cond_false,decide_eq_false (show ¬(0<=i/\i < (n:Int)) by omega)];rfl
 rw [decide_eq_true h1,cond_true]
 by_cases h2:i < (n:Int)
 case neg=>rw [decide_eq_false h2,cond_false,decide_eq_false (show ¬(0<=i/\i < (n:Int)) by omega)];rfl
 rw [decide_eq_true h2,cond_true,decide_eq_true (show 0<=i/\i < (n:Int) by omega),dI]
 obtain ⟨k,rfl⟩:∃k:Nat,i=(k:Int):=⟨i.toNat,by omega⟩
 rw [GK k (by omega),bl,bl,aG (decide_eq_true (by omega)),aG (decide_eq_true (by rw [uq];omega)),dZ,dk (uo f (by omega)),bU,aK (B5 k),bU]
 have:=PQ f k
 rw [<-this]
theorem ZC (n:Nat) (hn:n<=1024) (f:Nat->Bool) (i:Nat) (hi:i < n) (hf:f i=false):bN aA aH 180 [.ptr 0 0 0,.int .i64 (i:Int)] (bm n (aL n f))=some (sK (0,n,aL n (eA f i true))):=by
 refine RO _ _ _ (o:=.doneM (.int .i64 0) (bm n (aL n (eA f i true)))) ?_ (.done (by kernel_rfl))
 unfold I4
 have his:lX n f (i:Int)=false:=by unfold lX;rw [bl,hf,lB]
 rw [decide_eq_true (show (i:Int) ≥ 0 by omega),cond_true,decide_eq_true (show (i:Int) < (n:Int) by omega),bR,cond_false,cU uY (uP n hn f i),bY,his,cond_false,
  GK i (by omega),bl,aG (decide_eq_true (by omega)),aG (decide_eq_true (by rw [uq];omega)),dZ,dk (uo f (by omega)),bU,aK (B5 i),bU,aG (decide_eq_true (by omega)),aG (decide_eq_true (by rw [uq];omega)),dk (uo f (by omega)),bU]
 have:=PP f i
 simp only [nL] at this
 rw [this,HX f true hi]
def qH (l:List Nat):List V:=l.map fun k=>V.tup [.int .i64 ((k:Nat):Int)]
theorem Fu (n:Nat) (hn:n<=1024):vq [.ref (.ref (.agg [.unk,.int .i64 (n:Int)]) 0) 0,.ref (.int .i64 0) 0]=some (tc n 0)/\(tc n 0).map V.tup=qH (dl n):=by
 refine ⟨if_pos (by omega),?_⟩
 unfold tc qH
 rw [List.map_map,bl]
 apply List.map_congr_left
 intro k hk
 have hk:k < n:=by simpa using hk
 show V.tup [.int .i64 ((0+(k:Int)) % (n:Int))]=_
 rw [Int.zero_add,Int.emod_eq_of_lt (by omega) (by omega)]
def ew (n:Nat) (f:Nat->Bool):List Int:=((dl n).filter f).map fun k:Nat=>(k:Int)
theorem N4 (n:Nat) (hn:n<=1024) (f:Nat->Bool):∀(l:List Nat) (acc:List Int),(∀k∈l,k < n)->acc.length+l.length<=2000 ->
  Go qk true 2 (fF 90) (.head 0 (wB (qH l) n (aL n f) (aB acc))) (.doneM (.tail 5 0) (bm n (aL n f)++[O.box 135 (V.ptr 0 0 0) false,O.row 3 [] 0,O.box 80 (V.tail 5 0) false,O.row 3 (aB (acc++(l.filter f).map fun k:Nat=>(k:Int))) 0]))
 | [],acc,_,_=>by
  refine Gg _ _ _ _ ?_ (.refl _)
  simp only [List.filter_nil,iW,dA]
  rfl
 | k::l,acc,h,hl=>by
  have hk:=h k (by simp)
  have his:lX n f (k:Int)=f k:=by unfold lX;rw [bl,decide_eq_true (by omega),dI]
  have ih:=fun acc' (h':acc'.length+l.length<=2000)=>N4 n hn f l acc' (fun x hx=>h x (by simp [hx])) h'
  simp only [cL] at hl
  cases hf:f k with
  | true =>
   have ih:=ih (acc++[(k:Int)]) (by simp;omega)
   rw [bu] at ih
   rw [List.filter_cons_of_pos hf,dj]
   refine Gg _ _ _ _ ?_ ih
   unfold Gf
   simp only [qH,dj,vm,lY,mj,bU,mn]
   rw [cU uY (uP n hn f k),bY,his,hf,cond_true,aG (decide_eq_true (by rw [bZ];simp;omega))]
   simp [aB]
  | false =>
   rw [List.filter_cons_of_neg (by rw [hf];decide)]
   refine Gg _ _ _ _ ?_ (ih acc (by omega))
   unfold Gf
   simp only [qH,dj,vm,lY,mj,bU,mn]
   rw [cU uY (uP n hn f k),bY,his,hf,cond_false]
theorem N5 (n:Nat) (hn:n<=1024) (f:Nat->Bool):bN aA aH 90 [.ptr 0 0 0] (bm n (aL n f))=some (oO (bm n (aL n f)) (aB (ew n f))):=by
 obtain ⟨r1,r2⟩:=Fu n hn
 refine SO _ _ ?_ ⟨_,_,N4 n hn f (dl n) [] (fun k hk=>by simpa using hk) (by simp;omega),by kernel_rfl⟩
 unfold Jp
 rw [r1,iy,r2]
 rfl
def zJ (n:Nat) (f:Nat->Bool):Nat:=n - (ew n f).length
theorem N3 (n:Nat) (f:Nat->Bool):(ew n f).length<=n:=by
 unfold ew
 rw [dO]
 have:=List.length_filter_le f (dl n)
 simpa using this
theorem TE (n:Nat) (hn:n<=1024) (f:Nat->Bool):bN aA aH 89 [.ptr 0 0 0] (bm n (aL n f))=some (qC (bm n (aL n f)) (zJ n f:Nat)):=by
 refine SN _ _ (o:=.doneM (.int .i64 (zJ n f:Nat)) (bm n (aL n f))) ?_ (.done (by kernel_rfl))
 unfold Jo
 have:=N3 n f
 rw [cU Lr (N5 n hn f),bY,bZ,aX (by omega)]
 unfold zJ
 rw [show ((n:Int) - ((ew n f).length:Int))=((n - (ew n f).length:Nat):Int) by omega]
def k8 (n:Nat) (f:Nat->Bool):Option Nat:=(dl n).find? fun k=>!f k
theorem GI (n:Nat) (hn:n<=1024) (f:Nat->Bool) (k:Nat):∀(l:List Nat),(∀k∈l,k < n)->l.find? (fun k=>!f k)=some k ->
  Go qk true 2 (fF 131) (.head 0 (yE (qH l) n (aL n f))) (.doneM (.tup [.int .i64 (k:Int),.int .i64 0]) (bm n (aL n (eA f k true))++[O.box 135 (V.ptr 0 0 0) false,O.box 3 (V.int .i64 (k:Int)) false,O.box 27 (V.int .i64 0) false]))
 | [],_,h=>by cases h
 | i::l,h,hk=>by
  have hi:=h i (by simp)
  have his:lX n f (i:Int)=f i:=by unfold lX;rw [bl,decide_eq_true (by omega),dI]
  rw [List.find?_cons] at hk
  cases hf:f i with
  | false =>
   rw [hf] at hk
   have e:i=k:=by simpa using hk
   rw [<-e]
   refine MU _ _ _ ?_ (.refl _)
   unfold FH
   simp only [qH,dj,vm,lY,mj,bU,mn]
   rw [cU uY (uP n hn f i),bY,his,hf,jq,cond_true,cz VU (ZC n hn f i hi hf)]
  | true =>
   rw [hf] at hk
   refine MU _ _ _ ?_ (GI n hn f k l (fun x hx=>h x (by simp [hx])) hk)
   unfold FH
   simp only [qH,dj,vm,lY,mj,bU,mn]
   rw [cU uY (uP n hn f i),bY,his,hf,bR,cond_false]
theorem ZD (n:Nat) (hn:n<=1024) (f:Nat->Bool) (k:Nat) (hk:k8 n f=some k):bN aA aH 131 [.ptr 0 0 0,.int .i64 0] (bm n (aL n f))=some (oI (k,0,n,aL n (eA f k true))):=by
 obtain ⟨r1,r2⟩:=Fu n hn
 have hn0:0 < n:=by
  rcases yv n with h | h
  ·subst h;simp [k8] at hk
  ·exact h
 refine Ri _ _ _ ?_ ⟨_,_,GI n hn f k (dl n) (fun k hk=>by simpa using hk) hk,by kernel_rfl⟩
 unfold IT
 rw [decide_eq_true (show (0:Int) ≥ 0 by omega),cond_true,decide_eq_true (show (0:Int) < (n:Int) by omega),bR,cond_false,r1,iy,r2]
set_option maxRecDepth 10000
abbrev Pr:=Bs × Bs
structure Lf where
 prs:List Pr
 high:Bs
 next:Int
abbrev pV (p:Pr):V:=.agg [.str p.1,.str p.2]
def bq (l:List Pr):List V:=l.map pV
abbrev eL (l:Lf):V:=.agg [.sl (bq l.prs),.str l.high,.int .i64 l.next]
theorem fN (l:List Pr):(bq l).length=l.length:=by simp [bq]
theorem li {l:List Pr} {n:Nat} {x:Pr} {k:V->R} (h:l[n]? = some x):aY (bq l) n k=k (pV x):=D6 h
structure pB (l:Lf):Prop where
 prs:l.prs.length<=1000
 pr:∀p∈l.prs,p.1.length<=1000/\p.2.length<=1000
 high:l.high.length<=1000
def aS:List Pr->Nat
 | []=>0
 | p::r=>2+p.1.length+p.2.length+aS r
theorem OA:∀{l:List Pr},(∀p∈l,p.1.length<=1000/\p.2.length<=1000)->aS l<=2002 * l.length
 | [],_=>bG _
 | p::r,h=>by
  have h1:=h p (by simp)
  have h2:=OA (l:=r) fun x hx=>h x (by simp [hx])
  simp only [aS,cL]
  omega
def gQ (l:Lf):Nat:=5+l.high.length+aS l.prs
theorem YM {l:Lf} (h:pB l):gQ l<=2100000:=by
 have h1:=OA h.pr
 have h2:=h.prs
 have h3:=h.high
 unfold gQ
 omega
theorem GU (p:Pr) (h1:p.1.length<=1000) (h2:p.2.length<=1000):bK aA 165 [pV p]=some (.int .i64 ((2+p.1.length+p.2.length:Nat):Int)):=by
 refine RB _ _ ?_
 unfold CL
 rw [aX (n:=2+(p.1.length:Int)) (by omega),aX (by omega)]
 simp
theorem YN (l:List Pr) (hl:l.length<=1000) (hs:∀p∈l,p.1.length<=1000/\p.2.length<=1000):∀(r:List Pr) (k a:Nat),l.drop k=r->a<=2000+2002 * k ->
  Go qk false 0 (fF 159) (.head 0 (tX (a:Int) (bq l) (l.length:Int) (k:Int))) (.done (.int .i64 ((a+aS r:Nat):Int))):=by
 intro r
 induction r with
 | nil =>
  intro k a hr ha
  have h1:=drop_nil hr
  refine MY _ _ _ _ ?_ (.refl _)
  unfold FN
  rw [decide_eq_false (by omega)];rfl
 | cons x r ih =>
  intro k a hr ha
  obtain ⟨h1,h2,h3⟩:=gl hr
  have hx:=hs x (cG h1)
  refine MY _ _ _ _ (o:=.head 0 (tX ((a+(2+x.1.length+x.2.length):Nat):Int) (bq l) (l.length:Int) ((k+1:Nat):Int))) ?_ ?_
  ·unfold FN
   rw [decide_eq_true (by omega),cond_true,aG (by simp),bl,li h1]
   show (aE aA _ [pV x] _)=_
   rw [aK (GU x hx.1 hx.2),bU,aX (by omega),aX (by omega)]
   simp
  ·have:=ih (k+1) (a+(2+x.1.length+x.2.length)) h2 (by omega)
   rw [aS,show a+(2+x.1.length+x.2.length+aS r)=a+(2+x.1.length+x.2.length)+aS r from by omega]
   exact this
theorem Gm (l:Lf) (h:pB l):bK aA 159 [eL l]=some (.int .i64 (gQ l:Int)):=by
 have hh:=h.high
 refine Rv _ _ _ (o:=.head 0 (tX ((5+l.high.length:Nat):Int) (bq l.prs) (l.prs.length:Int) ((0:Nat):Int))) ?_ (YN l.prs h.prs h.pr l.prs 0 _ rfl (by omega))
 unfold IZ
 rw [fN,aX (by omega)]
 simp
def uI (l:Lf):Bool:=decide (21+aS l.prs<=252)
theorem Dq (l:Lf) (h:pB l):bK aA 118 [eL l]=some (.bool (uI l)):=by
 refine Q4 _ _ _ ?_
 have h1:=YM h
 have h2:=h.high
 unfold CB
 rw [aK (Gm l h),bU,aX (n:=(gQ l:Int) - (l.high.length:Int)) (by omega),aX (by omega)]
 unfold uI
 rw [decide_eq_decide.2 (show (gQ l:Int) - (l.high.length:Int)+16<=252↔21+aS l.prs<=252 by unfold gQ;omega)]
def dS (s:Bs):Bool:=decide (s.length<=32)
theorem vL (s:Bs):bK aA 74 [.str s]=some (.bool (dS s)):=by
 refine Sr _ ?_
 unfold C5 dS
 rw [decide_eq_decide.2 (show (s.length:Int)<=32↔s.length<=32 by omega)]
def jK (p:Bs):List Pr->Bool
 | []=>true
 | x::r=>bF x.1 && dS x.2 && lt p x.1 && jK x.1 r
def ll (p:Bs) (l:List Pr):Bs:=(l.map (·.1)).getLastD p
def rP (l:Lf):Bool:=decide (0<=l.next) && decide (l.next<=1024) && uI l
def cE (l:Lf):Bool:=jK [] l.prs && eJ (ll [] l.prs) l.high && rP l
theorem XH (l:Lf) (h:pB l):∀(r:List Pr) (k:Nat) (p:Bs),l.prs.drop k=r ->
  Go qk false 0 (fF 115) (.head 0 (v8 p (bq l.prs) (l.prs.length:Int) (k:Int) (bq l.prs) l.high l.next)) (.done (.bool (jK p r && eJ (ll p r) l.high && rP l))):=by
 have hl:=h.prs
 intro r
 induction r with
 | nil =>
  intro k p hr
  have h1:=drop_nil hr
  refine xI _ _ _ _ _ _ _ ?_ (.refl _)
  unfold AT
  rw [decide_eq_false (by omega),cond_false]
  simp only [aK (Dq l h),cR,aK (iv l.high),jK,dI,ll,iW,List.getLastD_nil,eJ,rP]
  cases l.high==[] with
  | true =>
   by_cases h1:0<=l.next
   ·rw [decide_eq_true h1]
    cases decide (l.next<=1024)<;>rfl
   ·rw [decide_eq_false h1]
    rfl
  | false =>
   cases bF l.high with
   | false=>rfl
   | true =>
    show (cond (lt p l.high) _ _)=_
    cases lt p l.high with
    | false=>rfl
    | true =>
     by_cases h1:0<=l.next
     ·rw [decide_eq_true h1]
      cases decide (l.next<=1024)<;>rfl
     ·rw [decide_eq_false h1]
      rfl
 | cons x r ih =>
  intro k p hr
  obtain ⟨h1,h2,h3⟩:=gl hr
  have w:W .i64 ((k:Int)+1)=((k+1:Nat):Int):=by rw [aX (by omega)];omega
  have e0:AT p (bq l.prs) (l.prs.length:Int) (k:Int) (bq l.prs) l.high l.next=cond (!bF x.1) (some (.done (V.bool false))) (cond (!dS x.2) (some (.done (V.bool false))) (cond (!lt p x.1) (some (.done (V.bool false))) (some (.head 0 (v8 x.1 (bq l.prs) (l.prs.length:Int) ((k+1:Nat):Int) (bq l.prs) l.high l.next))))):=by
   unfold AT
   rw [decide_eq_true (by omega),cond_true,aG (by simp),bl,li h1,j9,aK (iv x.1),cR,aK (vL x.2),cR,KL x.1 p,w]
  have e1:(jK p (x::r) && eJ (ll p (x::r)) l.high && rP l)=(bF x.1 && (dS x.2 && (lt p x.1 && (jK x.1 r && eJ (ll x.1 r) l.high && rP l)))):=by
   unfold ll
   rw [jK,dj,List.getLastD_cons]
   simp only [Bool.and_assoc]
  rw [e1]
  cases q1:bF x.1 with
  | false=>exact xI _ _ _ _ _ _ _ (e0.trans (by rw [q1];rfl)) (.refl _)
  | true =>
   cases q2:dS x.2 with
   | false=>exact xI _ _ _ _ _ _ _ (e0.trans (by rw [q1,q2];rfl)) (.refl _)
   | true =>
    cases q3:lt p x.1 with
    | false=>exact xI _ _ _ _ _ _ _ (e0.trans (by rw [q1,q2,q3];rfl)) (.refl _)
    | true =>
     refine xI _ _ _ _ _ _ _ (e0.trans (by rw [q1,q2,q3];rfl)) ?_
     simp only [dI]
     exact ih (k+1) x.1 h2
theorem vn (l:Lf) (h:pB l):bK aA 115 [eL l]=some (.bool (cE l)):=by
 refine QZ _ _ _ ?_ (XH l h l.prs 0 [] rfl)
 unfold IH
 rw [fN]
 rfl
theorem xD:∀{l:List Pr} {p:Bs},jK p l=true->∀x∈l,bF x.1=true/\dS x.2=true
 | [],_,_,x,hx=>by cases hx
 | y::l,p,h,x,hx=>by
  simp only [jK,bv] at h
  rcases bP.1 hx with rfl | hx
  ·exact h.1.1
  ·exact xD h.2 x hx
theorem yd:∀{l:List Pr},(∀x∈l,bF x.1=true)->3 * l.length<=aS l
 | [],_=>bG _
 | x::l,h=>by
  have h1:=(gZ (h x (by simp))).1
  have h2:=yd (l:=l) fun y hy=>h y (by simp [hy])
  simp only [aS,cL]
  omega
theorem S0 {l:Lf}:rP l=true↔0<=l.next/\l.next<=1024/\aS l.prs<=231:=by
 unfold rP uI
 simp only [bv,decide_eq_true_eq]
 constructor
 ·rintro ⟨⟨a,b⟩,c⟩;exact ⟨a,b,by omega⟩
 ·rintro ⟨a,b,c⟩;exact ⟨⟨a,b⟩,by omega⟩
theorem qL {l:Lf}:cE l=true↔jK [] l.prs=true/\eJ (ll [] l.prs) l.high=true/\0<=l.next/\l.next<=1024/\aS l.prs<=231:=by
 unfold cE
 rw [bv,bv,S0,and_assoc]
theorem w8 {p h:Bs} (e:eJ p h=true):h.length<=16:=by
 unfold eJ at e
 simp only [mTz,bv,beq_iff_eq] at e
 rcases e with rfl | ⟨e,_⟩
 ·simp
 ·exact (gZ e).2
theorem AO {l:Lf} (h:cE l=true):pB l:=by
 obtain ⟨h1,h2,_,_,h3⟩:=qL.1 h
 have hm:=xD h1
 have hg:=yd fun x hx=>(hm x hx).1
 have hh:=w8 h2
 refine ⟨by omega,fun p hp=>?_,by omega⟩
 have q1:=(gZ (hm p hp).1).2
 have q2:=(hm p hp).2
 simp only [dS,decide_eq_true_eq] at q2
 omega
def f0:List Pr->Bs
 | []=>[]
 | p::r=>cx p.1++cx p.2++f0 r
theorem ME:∀l:List Pr,(f0 l).length=aS l
 | []=>rfl
 | p::l=>by rw [f0,aS];simp [ME l];omega
def yX (l:Lf):Bs:=UInt8.ofNat l.prs.length::(bW 2 l.next.toNat++(cx l.high++f0 l.prs))
def bA (l:Lf):Bs:=76::yX l
theorem Dc (l:Lf):(bA l).length=gQ l:=by
 unfold bA yX gQ
 simp [d5,ME]
 omega
theorem SY (l:List Pr) (hll:l.length<=1000):∀(r:List Pr) (k:Nat) (d:Bs),l.drop k=r->(∀x∈r,x.1.length<=255/\x.2.length<=255)->d.length+aS r<=100000 ->
  Go qk false 0 (fF 120) (.head 0 (wb (d++eV (aS r)) (d.length:Int) (bq l) (l.length:Int) (k:Int))) (.done (.str (d++f0 r))):=by
 intro r
 induction r with
 | nil =>
  intro k d hr _ _
  have h1:=drop_nil hr
  refine MP _ _ _ _ _ ?_ (.refl _)
  unfold FD
  rw [decide_eq_false (by omega)]
  simp [aS,f0]
 | cons x r ih =>
  intro k d hr h hd
  obtain ⟨h1,h2,h3⟩:=gl hr
  obtain ⟨hx1,hx2⟩:=h x (by simp)
  have w:W .i64 ((k:Int)+1)=((k+1:Nat):Int):=by rw [aX (by omega)];omega
  have hw:aS (x::r)=x.1.length+1+(x.2.length+1+aS r):=by rw [aS];omega
  rw [hw] at hd |-
  have e1:=xx d x.1 (x.1.length+1+(x.2.length+1+aS r)) (d.length:Int) rfl hx1 (by omega)
  rw [show x.1.length+1+(x.2.length+1+aS r) - (x.1.length+1)=x.2.length+1+aS r by omega] at e1
  have e2:=xx (d++cx x.1) x.2 (x.2.length+1+aS r) ((d.length:Int)+x.1.length+1) (by simp;omega) hx2 (by omega)
  rw [show x.2.length+1+aS r - (x.2.length+1)=aS r by omega] at e2
  refine MP _ _ _ _ _ (o:=.head 0 (wb (d++cx x.1++cx x.2++eV (aS r)) ((d++cx x.1++cx x.2).length:Int) (bq l) (l.length:Int) ((k+1:Nat):Int))) ?_ ?_
  ·unfold FD
   rw [decide_eq_true (by omega),cond_true,aG (by simp),bl,li h1,j9,aK (xy e1 (by simp [cT];omega) (by simp only [cT];omega)),gw,
    aK (xy e2 (by simp [cT];omega) (by simp only [cT];omega)),gw,w]
   have:(d.length:Int)+x.1.length+1+x.2.length+1=((d++cx x.1++cx x.2).length:Int):=by simp;omega
   rw [this]
  ·have:=ih (k+1) (d++cx x.1++cx x.2) h2 (fun y hy=>h y (by simp [hy])) (by simp;omega)
   rw [f0]
   simpa [bu] using this
theorem Jy (l:Lf) (h:cE l=true):bK aA 120 [eL l]=some (.str (bA l)):=by
 have hsm:=AO h
 obtain ⟨h1,h2,h3,h4,h5⟩:=qL.1 h
 have hm:=xD h1
 have hg:=yd fun x hx=>(hm x hx).1
 have hh:=w8 h2
 obtain ⟨nn,hnn⟩:∃nn:Nat,l.next=(nn:Int):=⟨l.next.toNat,by omega⟩
 obtain ⟨c,hc⟩:∃c:UInt8,c=UInt8.ofNat l.prs.length:=⟨_,rfl⟩
 have e0:qF [76] ((gQ l:Nat):Int)=([76]++eV (1+(2+(l.high.length+1+aS l.prs))),0):=by
  have hz:gQ l=1+(1+(2+(l.high.length+1+aS l.prs))):=by unfold gQ;omega
  unfold qF
  rw [if_neg (by omega),if_neg (by simp;omega),bl,hz]
  congr 3
  simp
 have e1:=vi [76] (1+(2+(l.high.length+1+aS l.prs))) 1 l.prs.length 1 1 rfl rfl (by omega) (by omega) (by omega) (by omega)
 have f1:bW 1 l.prs.length=[c]:=by
  rw [hc]
  show [UInt8.ofNat (l.prs.length % 256)]=_
  rw [yw (by omega)]
 rw [f1,show 1+(2+(l.high.length+1+aS l.prs)) - 1=2+(l.high.length+1+aS l.prs) by omega] at e1
 have e2:=vi ([76]++[c]) (2+(l.high.length+1+aS l.prs)) 2 nn 2 2 rfl rfl (by omega) (by omega) (by omega) (by omega)
 rw [show 2+(l.high.length+1+aS l.prs) - 2=l.high.length+1+aS l.prs by omega] at e2
 have e3:=xx ([76]++[c]++bW 2 nn) l.high (l.high.length+1+aS l.prs) 4 (by simp [d5]) (by omega) (by omega)
 rw [show l.high.length+1+aS l.prs - (l.high.length+1)=aS l.prs by omega] at e3
 have hd:([76]++[c]++bW 2 nn++cx l.high).length=4+l.high.length+1:=by simp [d5];omega
 have hl:=SY l.prs hsm.prs l.prs 0 ([76]++[c]++bW 2 nn++cx l.high) rfl (fun x hx=>by
  have q1:=(gZ (hm x hx).1).2
  have q2:=(hm x hx).2
  simp only [dS,decide_eq_true_eq] at q2
  omega) (by rw [hd];omega)
 have hfin:[76]++[c]++bW 2 nn++cx l.high++f0 l.prs=bA l:=by
  unfold bA yX
  rw [hnn,hc]
  simp
 rw [hfin] at hl
 have w0:W .u64 (l.prs.length:Int)=(l.prs.length:Int):=lG (by omega)
 have w1:W .u64 (nn:Int)=(nn:Int):=lG (by omega)
 have hat:(4:Int)+(l.high.length:Int)+1=(([76]++[c]++bW 2 nn++cx l.high).length:Nat):=by rw [hd];omega
 refine Q7 _ _ _ ?_ hl
 unfold IJ
 have s76:[UInt8.ofNat ((76:Int)).toNat]=([76]:Bs):=rfl
 rw [aK (vn l hsm),cR,h,bR,cond_false,aK (Gm l hsm),bU,s76,aK (LY e0 (by decide)),kZ,fN,w0,
  aK (vj e1 (by omega) (by simp [cT];omega)),kZ,hnn,w1,aK (vj e2 (by omega) (by simp [cT];omega)),kZ,
  aK (xy e3 (by simp [cT,d5];omega) (by simp only [cT];omega)),gw,hat]
 rfl
end Go.Proofs.YtlphgcjepphhcaaGreat
