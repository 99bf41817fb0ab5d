/-
  Texts that the last one stands on.
-/
import Derived.Test.YtlphgcjepphhcaaGreatY4
open List renaming mem_cons->bw,replicate->bl,getElem?_eq_getElem->bj,take_add_one->G9,getElem?_drop->fN,length_map->dA,set_append_right->Bu,map_append->gv,append_assoc->bc,map_cons->cU,map_nil->iH,cons_append->c8,nil_append->dB,getElem?_append_right->cJ,drop_eq_nil_iff->Bn,length->nL,map_replicate->G5,take_length->lc,pairwise_cons->fP,mem_of_getElem?->cf,getElem?_eq_none->vy,length_cons->cw,length_take->fX,length_drop->fO,length_set->nN,length_append->cL,length_nil->fc,zip_cons_cons->Ha,all_cons->xQ,take_append_of_le_length->vC,drop_append->qL,drop_eq_nil_of_le->o7,all_eq_true->cT,take_append_drop->gP,drop_drop->nJ,take_of_length_le->jI,eq_of_mem_replicate->vx,append_nil->c7,mem_append->aV,mem_of_mem_take->mg,mem_of_mem_drop->kg
open Int renaming natCast_nonneg->GX,fdiv_eq_ediv_of_nonneg->Ov,cast_ofNat_Int->GV
open Option renaming map_some->bS,bind_some->ap,bind_assoc->Bv
open Nat renaming sub_self->iI,le_refl->bq,lt_or_ge->jK,zero_le->il,add_zero->dv,add_assoc->gG,mod_eq_of_lt->ya
open Bool renaming false_eq_true->cv,not_true->bA,not_false->i9,true_and->dq,and_false->j8,false_and->l8,true_or->sY,or_false->qJ,false_or->iG,true_eq_false->GR,and_eq_true->bd,or_eq_true->l9,not_eq_true'->ig
namespace Go.Proofs.YtlphgcjepphhcaaGreat
open Go Go.Lite
set_option maxRecDepth 100000
set_option linter.unusedVariables false
def f9 (v:V) (k:List UInt8->List UInt8->R):R:=kA v fun cs=>bz cs fun c cs=>kS c fun x0=>bz cs fun c cs=>kS c fun x1=>dD cs<|(k x0 x1)
@[simp] theorem iN (x0:List UInt8) (x1:List UInt8) (k:List UInt8->List UInt8->R):f9 (.agg [V.str x0,V.str x1]) k=k x0 x1:=rfl
@[congr] theorem ZN {v v':V} {k:List UInt8->List UInt8->R} (h:v=v'):f9 v k=f9 v' k:=by rw [h]
def jU (v:V) (k:List UInt8->Int->R):R:=kT v fun vs=>bz vs fun c vs=>kS c fun x0=>bz vs fun c vs=>kI .i64 c fun x1=>dD vs (k x0 x1)
@[simp] theorem kD (x0:List UInt8) (x1:Int) (k:List UInt8->Int->R):jU (.tup [V.str x0,V.int .i64 x1]) k=k x0 x1:=rfl
@[congr] theorem ZO {v v':V} {k:List UInt8->Int->R} (h:v=v'):jU v k=jU v' k:=by rw [h]
def iv (v:V) (k:List UInt8->Int->Int->R):R:=kT v fun vs=>bz vs fun c vs=>kS c fun x0=>bz vs fun c vs=>kI .i64 c fun x1=>bz vs fun c vs=>kI .i64 c fun x2=>dD vs (k x0 x1 x2)
@[simp] theorem f0 (x0:List UInt8) (x1:Int) (x2:Int) (k:List UInt8->Int->Int->R):iv (.tup [V.str x0,V.int .i64 x1,V.int .i64 x2]) k=k x0 x1 x2:=rfl
@[congr] theorem ZD {v v':V} {k:List UInt8->Int->Int->R} (h:v=v'):iv v k=iv v' k:=by rw [h]
def kC (v:V) (k:Int->Int->R):R:=kT v fun vs=>bz vs fun c vs=>kI .u64 c fun x0=>bz vs fun c vs=>kI .i64 c fun x1=>dD vs (k x0 x1)
@[simp] theorem iw (x0:Int) (x1:Int) (k:Int->Int->R):kC (.tup [V.int .u64 x0,V.int .i64 x1]) k=k x0 x1:=rfl
@[congr] theorem ZL {v v':V} {k:Int->Int->R} (h:v=v'):kC v k=kC v' k:=by rw [h]
def ky (v:V) (k:Int->Bool->R):R:=kT v fun vs=>bz vs fun c vs=>kI .i64 c fun x0=>bz vs fun c vs=>kB c fun x1=>dD vs (k x0 x1)
@[simp] theorem v8 (x0:Int) (x1:Bool) (k:Int->Bool->R):ky (.tup [V.int .i64 x0,V.bool x1]) k=k x0 x1:=rfl
@[congr] theorem ZF {v v':V} {k:Int->Bool->R} (h:v=v'):ky v k=ky v' k:=by rw [h]
def v7 (v:V) (k:Int->Int->R):R:=kT v fun vs=>bz vs fun c vs=>kI .i64 c fun x0=>bz vs fun c vs=>kI .i64 c fun x1=>dD vs (k x0 x1)
@[simp] theorem Ih (x0:Int) (x1:Int) (k:Int->Int->R):v7 (.tup [V.int .i64 x0,V.int .i64 x1]) k=k x0 x1:=rfl
@[congr] theorem ZC {v v':V} {k:Int->Int->R} (h:v=v'):v7 v k=v7 v' k:=by rw [h]
def yT (v:V) (k:List V->List UInt8->Int->Int->Bool->R):R:=kT v fun vs=>bz vs fun c vs=>kA c fun cs=>bz cs fun c cs=>kL c fun x0=>bz cs fun c cs=>kS c fun x1=>bz cs fun c cs=>kI .i64 c fun x2=>dD cs<|bz vs fun c vs=>kI .i64 c fun x3=>bz vs fun c vs=>kB c fun x4=>dD vs (k x0 x1 x2 x3 x4)
@[simp] theorem Ij (x0:List V) (x1:List UInt8) (x2:Int) (x3:Int) (x4:Bool) (k:List V->List UInt8->Int->Int->Bool->R):yT (.tup [V.agg [V.sl x0,V.str x1,V.int .i64 x2],V.int .i64 x3,V.bool x4]) k=k x0 x1 x2 x3 x4:=rfl
@[congr] theorem ZK {v v':V} {k:List V->List UInt8->Int->Int->Bool->R} (h:v=v'):yT v k=yT v' k:=by rw [h]
def lr (v:V) (k:Int->List UInt8->List UInt8->Int->R):R:=kA v fun cs=>bz cs fun c cs=>kI .i64 c fun x0=>bz cs fun c cs=>kS c fun x1=>bz cs fun c cs=>kS c fun x2=>bz cs fun c cs=>kI .i64 c fun x3=>dD cs<|(k x0 x1 x2 x3)
@[simp] theorem mD (x0:Int) (x1:List UInt8) (x2:List UInt8) (x3:Int) (k:Int->List UInt8->List UInt8->Int->R):lr (.agg [V.int .i64 x0,V.str x1,V.str x2,V.int .i64 x3]) k=k x0 x1 x2 x3:=rfl
@[congr] theorem ZM {v v':V} {k:Int->List UInt8->List UInt8->Int->R} (h:v=v'):lr v k=lr v' k:=by rw [h]
def n6 (v:V) (k:List V->List UInt8->Int->Int->R):R:=kT v fun vs=>bz vs fun c vs=>kA c fun cs=>bz cs fun c cs=>kL c fun x0=>bz cs fun c cs=>kS c fun x1=>bz cs fun c cs=>kI .i64 c fun x2=>dD cs<|bz vs fun c vs=>kI .i64 c fun x3=>dD vs (k x0 x1 x2 x3)
@[simp] theorem lp (x0:List V) (x1:List UInt8) (x2:Int) (x3:Int) (k:List V->List UInt8->Int->Int->R):n6 (.tup [V.agg [V.sl x0,V.str x1,V.int .i64 x2],V.int .i64 x3]) k=k x0 x1 x2 x3:=rfl
@[congr] theorem ZE {v v':V} {k:List V->List UInt8->Int->Int->R} (h:v=v'):n6 v k=n6 v' k:=by rw [h]
def yR (v:V) (k:List V->List UInt8->Int->List V->List UInt8->Int->Int->R):R:=kT v fun vs=>bz vs fun c vs=>kA c fun cs=>bz cs fun c cs=>kL c fun x0=>bz cs fun c cs=>kS c fun x1=>bz cs fun c cs=>kI .i64 c fun x2=>dD cs<|bz vs fun c vs=>kA c fun cs=>bz cs fun c cs=>kL c fun x3=>bz cs fun c cs=>kS c fun x4=>bz cs fun c cs=>kI .i64 c fun x5=>dD cs<|bz vs fun c vs=>kI .i64 c fun x6=>dD vs (k x0 x1 x2 x3 x4 x5 x6)
@[simp] theorem Ii (x0:List V) (x1:List UInt8) (x2:Int) (x3:List V) (x4:List UInt8) (x5:Int) (x6:Int) (k:List V->List UInt8->Int->List V->List UInt8->Int->Int->R):yR (.tup [V.agg [V.sl x0,V.str x1,V.int .i64 x2],V.agg [V.sl x3,V.str x4,V.int .i64 x5],V.int .i64 x6]) k=k x0 x1 x2 x3 x4 x5 x6:=rfl
@[congr] theorem ZH {v v':V} {k:List V->List UInt8->Int->List V->List UInt8->Int->Int->R} (h:v=v'):yR v k=yR v' k:=by rw [h]
def kz (v:V) (k:Int->List V->List V->List UInt8->Int->Int->R):R:=kA v fun cs=>bz cs fun c cs=>kI .i64 c fun x0=>bz cs fun c cs=>kL c fun x1=>bz cs fun c cs=>kL c fun x2=>bz cs fun c cs=>kS c fun x3=>bz cs fun c cs=>kI .i64 c fun x4=>bz cs fun c cs=>kI .i64 c fun x5=>dD cs<|(k x0 x1 x2 x3 x4 x5)
@[simp] theorem lq (x0:Int) (x1:List V) (x2:List V) (x3:List UInt8) (x4:Int) (x5:Int) (k:Int->List V->List V->List UInt8->Int->Int->R):kz (.agg [V.int .i64 x0,V.sl x1,V.sl x2,V.str x3,V.int .i64 x4,V.int .i64 x5]) k=k x0 x1 x2 x3 x4 x5:=rfl
@[congr] theorem ZG {v v':V} {k:Int->List V->List V->List UInt8->Int->Int->R} (h:v=v'):kz v k=kz v' k:=by rw [h]
def pB (v:V) (k:List V->List V->List UInt8->Int->Int->R):R:=kT v fun vs=>bz vs fun c vs=>kA c fun cs=>bz cs fun c cs=>kL c fun x0=>bz cs fun c cs=>kL c fun x1=>bz cs fun c cs=>kS c fun x2=>bz cs fun c cs=>kI .i64 c fun x3=>dD cs<|bz vs fun c vs=>kI .i64 c fun x4=>dD vs (k x0 x1 x2 x3 x4)
@[simp] theorem tT (x0:List V) (x1:List V) (x2:List UInt8) (x3:Int) (x4:Int) (k:List V->List V->List UInt8->Int->Int->R):pB (.tup [V.agg [V.sl x0,V.sl x1,V.str x2,V.int .i64 x3],V.int .i64 x4]) k=k x0 x1 x2 x3 x4:=rfl
@[congr] theorem ZI {v v':V} {k:List V->List V->List UInt8->Int->Int->R} (h:v=v'):pB v k=pB v' k:=by rw [h]
def yS (v:V) (k:List V->List V->List UInt8->Int->List V->List V->List UInt8->Int->List UInt8->Int->R):R:=kT v fun vs=>bz vs fun c vs=>kA c fun cs=>bz cs fun c cs=>kL c fun x0=>bz cs fun c cs=>kL c fun x1=>bz cs fun c cs=>kS c fun x2=>bz cs fun c cs=>kI .i64 c fun x3=>dD cs<|bz vs fun c vs=>kA c fun cs=>bz cs fun c cs=>kL c fun x4=>bz cs fun c cs=>kL c fun x5=>bz cs fun c cs=>kS c fun x6=>bz cs fun c cs=>kI .i64 c fun x7=>dD cs<|bz vs fun c vs=>kS c fun x8=>bz vs fun c vs=>kI .i64 c fun x9=>dD vs (k x0 x1 x2 x3 x4 x5 x6 x7 x8 x9)
@[simp] theorem Qa (x0:List V) (x1:List V) (x2:List UInt8) (x3:Int) (x4:List V) (x5:List V) (x6:List UInt8) (x7:Int) (x8:List UInt8) (x9:Int) (k:List V->List V->List UInt8->Int->List V->List V->List UInt8->Int->List UInt8->Int->R):yS (.tup [V.agg [V.sl x0,V.sl x1,V.str x2,V.int .i64 x3],V.agg [V.sl x4,V.sl x5,V.str x6,V.int .i64 x7],V.str x8,V.int .i64 x9]) k=k x0 x1 x2 x3 x4 x5 x6 x7 x8 x9:=rfl
@[congr] theorem ZJ {v v':V} {k:List V->List V->List UInt8->Int->List V->List V->List UInt8->Int->List UInt8->Int->R} (h:v=v'):yS v k=yS v' k:=by rw [h]
def kZ (L:Int × Int × Int × (List (V × V)) × (List V)):V × List O:=(V.tup [V.int .i64 L.1,V.int .i64 L.2.1],(sm L.2.2.1 L.2.2.2.1 L.2.2.2.2))
theorem uG:∀L L',kZ L=kZ L'->L=L':=by
 rintro ⟨a0,a1,a2,a3,a4⟩ ⟨b0,b1,b2,b3,b4⟩ h
 cases h;rfl
def dV (L:Int × Int × (List (V × V)) × (List V)):V × List O:=(V.tup [],(tm L.1 L.2.1 L.2.2.1 L.2.2.2))
theorem gL:∀L L',dV L=dV L'->L=L':=by
 rintro ⟨a0,a1,a2,a3⟩ ⟨b0,b1,b2,b3⟩ h
 cases h;rfl
def j7 (L:Bool × Int × Int × Int × (List (V × V)) × (List V)):V × List O:=(V.tup [V.bool L.1,V.int .i64 L.2.1],(tm L.2.2.1 L.2.2.2.1 L.2.2.2.2.1 L.2.2.2.2.2))
theorem wT:∀L L',j7 L=j7 L'->L=L':=by
 rintro ⟨a0,a1,a2,a3,a4,a5⟩ ⟨b0,b1,b2,b3,b4,b5⟩ h
 cases h;rfl
def jp (L:Int × Int × Int × (List (V × V)) × (List V)):V × List O:=(V.int .i64 L.1,(tm L.2.1 L.2.2.1 L.2.2.2.1 L.2.2.2.2))
theorem zT:∀L L',jp L=jp L'->L=L':=by
 rintro ⟨a0,a1,a2,a3,a4⟩ ⟨b0,b1,b2,b3,b4⟩ h
 cases h;rfl
def jq (M:List O) (L:(List UInt8) × Int):V × List O:=(V.tup [V.str L.1,V.int .i64 L.2],M)
theorem Ek (M:List O):∀L L',jq M L=jq M L'->L=L':=by
 rintro ⟨a0,a1⟩ ⟨b0,b1⟩ h
 simp [jq] at h
 simp [h]
def kY (M:List O) (L:Int):V × List O:=(V.int .i64 L,M)
theorem zU (M:List O):∀L L',kY M L=kY M L'->L=L':=by
 rintro a0 b0 h
 simpa [kY] using h
def mS (M:List O) (L:(List V)):V × List O:=(V.sl L,M)
theorem El (M:List O):∀L L',mS M L=mS M L'->L=L':=by
 rintro a0 b0 h
 simpa [mS] using h
def En (M:List O) (L:(List V)):V × List O:=(V.sl L,M)
def mR (M:List O) (L:(List V)):V × List O:=(V.sl L,M)
theorem Ej (M:List O):∀L L',mR M L=mR M L'->L=L':=by
 rintro a0 b0 h
 simpa [mR] using h
def lN (M:List O) (L:Int):V × List O:=(V.int .i64 L,M)
theorem zV (M:List O):∀L L',lN M L=lN M L'->L=L':=by
 rintro a0 b0 h
 simpa [lN] using h
def oz (M:List O) (L:Int):V × List O:=(V.int .i64 L,M)
theorem Em (M:List O):∀L L',oz M L=oz M L'->L=L':=by
 rintro a0 b0 h
 simpa [oz] using h
def lO (M:List O) (L:(List V)):V × List O:=(V.sl L,M)
theorem zX (M:List O):∀L L',lO M L=lO M L'->L=L':=by
 rintro a0 b0 h
 simpa [lO] using h
def ox (L:Int × Int × Int × (List V)):V × List O:=(V.tup [V.int .i64 L.1,V.int .i64 L.2.1],(bm L.2.2.1 L.2.2.2))
theorem K6:∀L L',ox L=ox L'->L=L':=by
 rintro ⟨a0,a1,a2,a3⟩ ⟨b0,b1,b2,b3⟩ h
 cases h;rfl
def p9 (L:Int × Int × (List (V × V)) × (List V)):V × List O:=(V.int .i64 L.1,(sm L.2.1 L.2.2.1 L.2.2.2))
theorem K3:∀L L',p9 L=p9 L'->L=L':=by
 rintro ⟨a0,a1,a2,a3⟩ ⟨b0,b1,b2,b3⟩ h
 cases h;rfl
def mT (M:List O) (L:(List V) × (List V) × (List UInt8) × Int × Int):V × List O:=(V.tup [V.sl L.1,V.agg [V.sl L.2.1,V.str L.2.2.1,V.int .i64 L.2.2.2.1],V.int .i64 L.2.2.2.2],M)
theorem qc (M:List O):∀L L',mT M L=mT M L'->L=L':=by
 rintro ⟨a0,a1,a2,a3,a4⟩ ⟨b0,b1,b2,b3,b4⟩ h
 simp [mT] at h
 simp [h]
def oC (L:Int × Int × (List (V × V)) × (List V)):V × List O:=(V.tup [],(tm L.1 L.2.1 L.2.2.1 L.2.2.2))
theorem Vk:∀L L',oC L=oC L'->L=L':=by
 rintro ⟨a0,a1,a2,a3⟩ ⟨b0,b1,b2,b3⟩ h
 cases h;rfl
def qd (L:Int × Int × (List (V × V)) × (List V)):V × List O:=(V.tup [],(tm L.1 L.2.1 L.2.2.1 L.2.2.2))
theorem Vl:∀L L',qd L=qd L'->L=L':=by
 rintro ⟨a0,a1,a2,a3⟩ ⟨b0,b1,b2,b3⟩ h
 cases h;rfl
def mU (L:Int × Bool × Int × (List (V × V)) × Int × (List (V × V)) × (List V) × (List V) × (List V)):V × List O:=(V.tup [V.int .i64 L.1,V.bool L.2.1],(ln L.2.2.1 9 10 L.2.2.2.1 L.2.2.2.2.1 L.2.2.2.2.2.1 L.2.2.2.2.2.2.1++[O.row 3 L.2.2.2.2.2.2.2.1 0,O.row 9 L.2.2.2.2.2.2.2.2 0]))
theorem zY:∀L L',mU L=mU L'->L=L':=by
 rintro ⟨a0,a1,a2,a3,a4,a5,a6,a7,a8⟩ ⟨b0,b1,b2,b3,b4,b5,b6,b7,b8⟩ h
 cases h;rfl
def oD (M:List O) (L:(List V)):V × List O:=(V.sl L,M)
theorem K8 (M:List O):∀L L',oD M L=oD M L'->L=L':=by
 rintro a0 b0 h
 simpa [oD] using h
def se (L:(List V)):V × List O:=(V.tail 0 0,[O.row 3 L 0])
theorem Vs:∀L L',se L=se L'->L=L':=by
 rintro a0 b0 h
 cases h;rfl
def qf (M:List O) (L:(List V)):V × List O:=(V.sl L,M)
theorem Vu (M:List O):∀L L',qf M L=qf M L'->L=L':=by
 rintro a0 b0 h
 simpa [qf] using h
def eU (M:List O) (L:(List V) × (List UInt8) × Int):V × List O:=(V.ifc 120 (V.agg [V.sl L.1,V.str L.2.1,V.int .i64 L.2.2]),M)
theorem Vm (M:List O):∀L L',eU M L=eU M L'->L=L':=by
 rintro ⟨a0,a1,a2⟩ ⟨b0,b1,b2⟩ h
 simp [eU] at h
 simp [h]
def eV (M:List O) (L:(List V) × (List V) × (List UInt8) × Int):V × List O:=(V.ifc 150 (V.agg [V.sl L.1,V.sl L.2.1,V.str L.2.2.1,V.int .i64 L.2.2.2]),M)
theorem Vn (M:List O):∀L L',eV M L=eV M L'->L=L':=by
 rintro ⟨a0,a1,a2,a3⟩ ⟨b0,b1,b2,b3⟩ h
 simp [eV] at h
 simp [h]
theorem Vo (M:List O):∀L L',eU M L≠eV M L':=by
 intro L L' h
 simp [eU,eV] at h
def fh (M:List O) (L:Unit):V × List O:=(V.nilI,M)
theorem Vp (M:List O):∀L L',fh M L=fh M L'->L=L':=by
 rintro ⟨⟩ ⟨⟩ h
 rfl
theorem Vq (M:List O):∀L L',eU M L≠fh M L':=by
 intro L L' h
 simp [eU,fh] at h
theorem Vr (M:List O):∀L L',eV M L≠fh M L':=by
 intro L L' h
 simp [eV,fh] at h
def qe (M:List O) (L:Int):V × List O:=(V.int .i64 L,M)
theorem Vt (M:List O):∀L L',qe M L=qe M L'->L=L':=by
 rintro a0 b0 h
 simpa [qe] using h
def lL (M:List O) (L:Bool):V × List O:=(V.bool L,M)
theorem uF (M:List O):∀L L',lL M L=lL M L'->L=L':=by
 rintro a0 b0 h
 simpa [lL] using h
def rZ (L:Int × Int × (List V)):V × List O:=(V.int .i64 L.1,(bm L.2.1 L.2.2))
theorem Vj:∀L L',rZ L=rZ L'->L=L':=by
 rintro ⟨a0,a1,a2⟩ ⟨b0,b1,b2⟩ h
 cases h;rfl
def lP (M:List O) (L:(List UInt8) × Int):V × List O:=(V.tup [V.str L.1,V.int .i64 L.2],M)
theorem sd (M:List O):∀L L',lP M L=lP M L'->L=L':=by
 rintro ⟨a0,a1⟩ ⟨b0,b1⟩ h
 simp [lP] at h
 simp [h]
def mQ (L:Int × Int × (List (V × V)) × (List V)):V × List O:=(V.tup [],(tm L.1 L.2.1 L.2.2.1 L.2.2.2))
theorem K4:∀L L',mQ L=mQ L'->L=L':=by
 rintro ⟨a0,a1,a2,a3⟩ ⟨b0,b1,b2,b3⟩ h
 cases h;rfl
def qa (M:List O) (L:(List V)):V × List O:=(V.sl L,M)
theorem Vf (M:List O):∀L L',qa M L=qa M L'->L=L':=by
 rintro a0 b0 h
 simpa [qa] using h
def qb (L:Int × Int × (List (V × V)) × (List V)):V × List O:=(V.int .i64 L.1,(sm L.2.1 L.2.2.1 L.2.2.2))
theorem K5:∀L L',qb L=qb L'->L=L':=by
 rintro ⟨a0,a1,a2,a3⟩ ⟨b0,b1,b2,b3⟩ h
 cases h;rfl
def rV (L:Int × Int × (List (V × V)) × (List V)):V × List O:=(V.tup [],(tm L.1 L.2.1 L.2.2.1 L.2.2.2))
theorem Vg:∀L L',rV L=rV L'->L=L':=by
 rintro ⟨a0,a1,a2,a3⟩ ⟨b0,b1,b2,b3⟩ h
 cases h;rfl
def oy (L:Bool × (List (V × V)) × (List V) × (List V)):V × List O:=(V.bool L.1,[O.box 144 (V.agg [V.mp 1,V.tail 4 0,V.tail 5 0]) false,O.map L.2.1,O.dead,O.dead,O.row 3 L.2.2.1 0,O.row 9 L.2.2.2 0])
theorem K7:∀L L',oy L=oy L'->L=L':=by
 rintro ⟨a0,a1,a2,a3⟩ ⟨b0,b1,b2,b3⟩ h
 cases h;rfl
def rW (L:(List V)):V × List O:=(V.tup [],[O.row 3 L 0])
theorem Vh:∀L L',rW L=rW L'->L=L':=by
 rintro a0 b0 h
 cases h;rfl
def rY (L:Int × Int × (List V)):V × List O:=(V.int .i64 L.1,(bm L.2.1 L.2.2))
theorem Vi:∀L L',rY L=rY L'->L=L':=by
 rintro ⟨a0,a1,a2⟩ ⟨b0,b1,b2⟩ h
 cases h;rfl
noncomputable def EZ (cm:CM) (f:FuncId) (args:List V) (mem:List O) (k:V->List O->R):R:=cond (f==84) (aI aa cm kZ f args mem fun L=>k (kZ L).1 (kZ L).2) (cond (f==78) (aI aa cm dV f args mem fun L=>k (dV L).1 (dV L).2) (cond (f==32) (aI aa cm j7 f args mem fun L=>k (j7 L).1 (j7 L).2) (cond (f==33) (aI aa cm jp f args mem fun L=>k (jp L).1 (jp L).2) (cond (f==39) (aI aa cm (jq mem) f args mem fun L=>k ((jq mem) L).1 ((jq mem) L).2) (cond (f==40) (aI aa cm (kY mem) f args mem fun L=>k ((kY mem) L).1 ((kY mem) L).2) (cond (f==42) (aI aa cm (mS mem) f args mem fun L=>k ((mS mem) L).1 ((mS mem) L).2) (cond (f==50) (aI aa cm (En mem) f args mem fun L=>k ((En mem) L).1 ((En mem) L).2) (cond (f==34) (aI aa cm (mR mem) f args mem fun L=>k ((mR mem) L).1 ((mR mem) L).2) (cond (f==43) (aI aa cm (lN mem) f args mem fun L=>k ((lN mem) L).1 ((lN mem) L).2) (cond (f==44) (aI aa cm (oz mem) f args mem fun L=>k ((oz mem) L).1 ((oz mem) L).2) (cond (f==46) (aI aa cm (lO mem) f args mem fun L=>k ((lO mem) L).1 ((lO mem) L).2) (cond (f==131) (aI aa cm ox f args mem fun L=>k (ox L).1 (ox L).2) (cond (f==119) (aI aa cm p9 f args mem fun L=>k (p9 L).1 (p9 L).2) (cond (f==75) (aI aa cm (mT mem) f args mem fun L=>k ((mT mem) L).1 ((mT mem) L).2) (cond (f==79) (aI aa cm oC f args mem fun L=>k (oC L).1 (oC L).2) (cond (f==81) (aI aa cm qd f args mem fun L=>k (qd L).1 (qd L).2) (cond (f==85) (aI aa cm mU f args mem fun L=>k (mU L).1 (mU L).2) (cond (f==87) (aI aa cm (oD mem) f args mem fun L=>k ((oD mem) L).1 ((oD mem) L).2) (cond (f==86) (aI aa cm se f args mem fun L=>k (se L).1 (se L).2) (cond (f==90) (aI aa cm (qf mem) f args mem fun L=>k ((qf mem) L).1 ((qf mem) L).2) (cond (f==82) (fE aa cm (eU mem) (eV mem) (fh mem) f args mem (fun L=>k ((eU mem) L).1 ((eU mem) L).2) (fun L=>k ((eV mem) L).1 ((eV mem) L).2) (fun L=>k ((fh mem) L).1 ((fh mem) L).2)) (cond (f==89) (aI aa cm (qe mem) f args mem fun L=>k ((qe mem) L).1 ((qe mem) L).2) (cond (f==137) (aI aa cm (lL mem) f args mem fun L=>k ((lL mem) L).1 ((lL mem) L).2) (cond (f==180) (aI aa cm rZ f args mem fun L=>k (rZ L).1 (rZ L).2) (cond (f==58) (aI aa cm (lP mem) f args mem fun L=>k ((lP mem) L).1 ((lP mem) L).2) (cond (f==123) (aI aa cm mQ f args mem fun L=>k (mQ L).1 (mQ L).2) (cond (f==124) (aI aa cm (qa mem) f args mem fun L=>k ((qa mem) L).1 ((qa mem) L).2) (cond (f==127) (aI aa cm qb f args mem fun L=>k (qb L).1 (qb L).2) (cond (f==128) (aI aa cm rV f args mem fun L=>k (rV L).1 (rV L).2) (cond (f==132) (aI aa cm oy f args mem fun L=>k (oy L).1 (oy L).2) (cond (f==169) (aI aa cm rW f args mem fun L=>k (rW L).1 (rW L).2) (cond (f==174) (aI aa cm rY f args mem fun L=>k (rY L).1 (rY L).2) (none)))))))))))))))))))))))))))))))))
noncomputable def L8:KC:={ L6 with ck:=EZ }
theorem WJ:fM L8:=⟨WK.ik,fun cm f av mem k r h=>by
 change EZ cm f av mem k=some r at h
 unfold EZ at h
 rcases aY h with ⟨_,h⟩ | ⟨_,h⟩
 ·obtain ⟨L,h1,h2⟩:=cY h;exact ⟨_,_,h1,h2⟩
 rcases aY h with ⟨_,h⟩ | ⟨_,h⟩
 ·obtain ⟨L,h1,h2⟩:=cY h;exact ⟨_,_,h1,h2⟩
 rcases aY h with ⟨_,h⟩ | ⟨_,h⟩
 ·obtain ⟨L,h1,h2⟩:=cY h;exact ⟨_,_,h1,h2⟩
 rcases aY h with ⟨_,h⟩ | ⟨_,h⟩
 ·obtain ⟨L,h1,h2⟩:=cY h;exact ⟨_,_,h1,h2⟩
 rcases aY h with ⟨_,h⟩ | ⟨_,h⟩
 ·obtain ⟨L,h1,h2⟩:=cY h;exact ⟨_,_,h1,h2⟩
 rcases aY h with ⟨_,h⟩ | ⟨_,h⟩
 ·obtain ⟨L,h1,h2⟩:=cY h;exact ⟨_,_,h1,h2⟩
 rcases aY h with ⟨_,h⟩ | ⟨_,h⟩
 ·obtain ⟨L,h1,h2⟩:=cY h;exact ⟨_,_,h1,h2⟩
 rcases aY h with ⟨_,h⟩ | ⟨_,h⟩
 ·obtain ⟨L,h1,h2⟩:=cY h;exact ⟨_,_,h1,h2⟩
 rcases aY h with ⟨_,h⟩ | ⟨_,h⟩
 ·obtain ⟨L,h1,h2⟩:=cY h;exact ⟨_,_,h1,h2⟩
 rcases aY h with ⟨_,h⟩ | ⟨_,h⟩
 ·obtain ⟨L,h1,h2⟩:=cY h;exact ⟨_,_,h1,h2⟩
 rcases aY h with ⟨_,h⟩ | ⟨_,h⟩
 ·obtain ⟨L,h1,h2⟩:=cY h;exact ⟨_,_,h1,h2⟩
 rcases aY h with ⟨_,h⟩ | ⟨_,h⟩
 ·obtain ⟨L,h1,h2⟩:=cY h;exact ⟨_,_,h1,h2⟩
 rcases aY h with ⟨_,h⟩ | ⟨_,h⟩
 ·obtain ⟨L,h1,h2⟩:=cY h;exact ⟨_,_,h1,h2⟩
 rcases aY h with ⟨_,h⟩ | ⟨_,h⟩
 ·obtain ⟨L,h1,h2⟩:=cY h;exact ⟨_,_,h1,h2⟩
 rcases aY h with ⟨_,h⟩ | ⟨_,h⟩
 ·obtain ⟨L,h1,h2⟩:=cY h;exact ⟨_,_,h1,h2⟩
 rcases aY h with ⟨_,h⟩ | ⟨_,h⟩
 ·obtain ⟨L,h1,h2⟩:=cY h;exact ⟨_,_,h1,h2⟩
 rcases aY h with ⟨_,h⟩ | ⟨_,h⟩
 ·obtain ⟨L,h1,h2⟩:=cY h;exact ⟨_,_,h1,h2⟩
 rcases aY h with ⟨_,h⟩ | ⟨_,h⟩
 ·obtain ⟨L,h1,h2⟩:=cY h;exact ⟨_,_,h1,h2⟩
 rcases aY h with ⟨_,h⟩ | ⟨_,h⟩
 ·obtain ⟨L,h1,h2⟩:=cY h;exact ⟨_,_,h1,h2⟩
 rcases aY h with ⟨_,h⟩ | ⟨_,h⟩
 ·obtain ⟨L,h1,h2⟩:=cY h;exact ⟨_,_,h1,h2⟩
 rcases aY h with ⟨_,h⟩ | ⟨_,h⟩
 ·obtain ⟨L,h1,h2⟩:=cY h;exact ⟨_,_,h1,h2⟩
 rcases aY h with ⟨_,h⟩ | ⟨_,h⟩
 ·rcases TN h with ⟨L,h1,h2⟩ | ⟨L,h1,h2⟩ | ⟨L,h1,h2⟩<;>exact ⟨_,_,h1,h2⟩
 rcases aY h with ⟨_,h⟩ | ⟨_,h⟩
 ·obtain ⟨L,h1,h2⟩:=cY h;exact ⟨_,_,h1,h2⟩
 rcases aY h with ⟨_,h⟩ | ⟨_,h⟩
 ·obtain ⟨L,h1,h2⟩:=cY h;exact ⟨_,_,h1,h2⟩
 rcases aY h with ⟨_,h⟩ | ⟨_,h⟩
 ·obtain ⟨L,h1,h2⟩:=cY h;exact ⟨_,_,h1,h2⟩
 rcases aY h with ⟨_,h⟩ | ⟨_,h⟩
 ·obtain ⟨L,h1,h2⟩:=cY h;exact ⟨_,_,h1,h2⟩
 rcases aY h with ⟨_,h⟩ | ⟨_,h⟩
 ·obtain ⟨L,h1,h2⟩:=cY h;exact ⟨_,_,h1,h2⟩
 rcases aY h with ⟨_,h⟩ | ⟨_,h⟩
 ·obtain ⟨L,h1,h2⟩:=cY h;exact ⟨_,_,h1,h2⟩
 rcases aY h with ⟨_,h⟩ | ⟨_,h⟩
 ·obtain ⟨L,h1,h2⟩:=cY h;exact ⟨_,_,h1,h2⟩
 rcases aY h with ⟨_,h⟩ | ⟨_,h⟩
 ·obtain ⟨L,h1,h2⟩:=cY h;exact ⟨_,_,h1,h2⟩
 rcases aY h with ⟨_,h⟩ | ⟨_,h⟩
 ·obtain ⟨L,h1,h2⟩:=cY h;exact ⟨_,_,h1,h2⟩
 rcases aY h with ⟨_,h⟩ | ⟨_,h⟩
 ·obtain ⟨L,h1,h2⟩:=cY h;exact ⟨_,_,h1,h2⟩
 rcases aY h with ⟨_,h⟩ | ⟨_,h⟩
 ·obtain ⟨L,h1,h2⟩:=cY h;exact ⟨_,_,h1,h2⟩
 cases h⟩
noncomputable def fF (f:Nat):FA:=(fe aa.P (aa.rxf f) f).getD Jx
noncomputable def J6:KC:=L8.inl [(52,fF 52),(133,fF 133),(98,fF 98),(179,fF 179),(136,fF 136),(83,fF 83),(51,fF 51),(164,fF 164),(177,fF 177),(178,fF 178),(68,fF 68),(18,fF 18)]
theorem TA:fM J6:=Kg WJ (by
 intro x hx
 simp only [bw,List.not_mem_nil,or_false] at hx
 rcases hx with rfl | rfl | rfl | rfl | rfl | rfl | rfl | rfl | rfl | rfl | rfl | rfl
 ·exact ⟨rfl,gU (by kernel_rfl),rfl⟩
 ·exact ⟨rfl,gU (by kernel_rfl),rfl⟩
 ·exact ⟨rfl,gU (by kernel_rfl),rfl⟩
 ·exact ⟨rfl,gU (by kernel_rfl),rfl⟩
 ·exact ⟨rfl,gU (by kernel_rfl),rfl⟩
 ·exact ⟨rfl,gU (by kernel_rfl),rfl⟩
 ·exact ⟨rfl,gU (by kernel_rfl),rfl⟩
 ·exact ⟨rfl,gU (by kernel_rfl),rfl⟩
 ·exact ⟨rfl,gU (by kernel_rfl),rfl⟩
 ·exact ⟨rfl,gU (by kernel_rfl),rfl⟩
 ·exact ⟨rfl,gU (by kernel_rfl),rfl⟩
 ·exact ⟨rfl,gU (by kernel_rfl),rfl⟩)
noncomputable def qk:KC:=J6.inl [(36,fF 36),(37,fF 37)]
theorem EX:fM qk:=Kg TA (by
 intro x hx
 simp only [bw,List.not_mem_nil,or_false] at hx
 rcases hx with rfl | rfl
 ·exact ⟨rfl,gU (by kernel_rfl),rfl⟩
 ·exact ⟨rfl,gU (by kernel_rfl),rfl⟩)
abbrev Rd (imp:Bool) (n0 f i:Nat) (t:S) (s:R):Prop:=∀{o o':cI},s=some o->Go qk imp n0 (fF f) o o'->Go qk imp n0 (fF f) (.head i t) o'
theorem rd {imp:Bool} {n0 f i:Nat} {t:S} {s:R} (h:JY qk imp n0 (fF f) i t=s):Rd imp n0 f i t s:=fun h1 hg=>.step (h.trans h1) hg
abbrev Ep (f:Nat) (as0:List V) (s:R):Prop:=∀{o:cI} {v:V},s=some o->Go qk false 0 (fF f) o (.done v)->bu aa f as0=some v
theorem ep {f:Nat} {as0:List V} {s:R} (hf:(fe aa.P (aa.rxf f) f).isSome=true) (h:kE qk false (fF f) as0 []=s) (hp:aa.pprim f=none:=by rfl):Ep f as0 s:=fun h1 hg=>nc EX hp (gU hf) (h.trans h1) hg
abbrev Ed (f:Nat) (as0:List V) (s:R):Prop:=∀{v:V},s=some (.done v)->bu aa f as0=some v
theorem ed {f:Nat} {as0:List V} {s:R} (h:Ep f as0 s):Ed f as0 s:=fun h1=>h h1 (.refl _)
abbrev Ei (f n0:Nat) (as0:List V) (mem:List O) (s:R):Prop:=∀{o:cI} {v:V} {m:List O},s=some o->Go qk true n0 (fF f) o (.doneM v m)->lE aa f as0 mem=some (v,m)
theorem ei {f n0:Nat} {as0:List V} {mem:List O} {s:R} (hf:(fe aa.P (aa.rxf f) f).isSome=true) (h:kE qk true (fF f) as0 mem=s) (hp:aa.iprim f=none:=by rfl) (hn:mem.length=n0:=by rfl):Ei f n0 as0 mem s:=fun h1 hg=>J8 EX hp (gU hf) (h.trans h1) (hn ▸ hg)
abbrev Ec (f n0:Nat) (cm:CM) (as0:List V) (mem:List O) (s:R):Prop:=∀{o:cI} {r:V × List O},s=some o->qK qk n0 (fF f) cm mem o r->bB aa cm f as0 mem=some r
theorem ec {f n0:Nat} {cm:CM} {as0:List V} {mem:List O} {s:R} (hf:(fe aa.P (aa.rxf f) f).isSome=true) (h:kE qk true (fF f) as0 mem=s) (hp:aa.iprim f=none:=by rfl) (hn:mem.length=n0:=by rfl):Ec f n0 cm as0 mem s:=fun h1 hg=>TG EX hp (gU hf) (h.trans h1) (hn ▸ hg)
noncomputable def Cc (a0:List UInt8) (a1:Int):R :=
 cond (decide (a1 < 0))
 (some (.done (V.int .i64 1)))
 (cond (decide (a1 > (a0.length:Int)))
 (some (.done (V.int .i64 1)))
 (some (.done (V.int .i64 0))))
theorem Qz (a0:List UInt8) (a1:Int):Ep 113 [V.str a0,V.int .i64 a1] (Cc a0 a1):=ep (by kernel_rfl) (by kernel_rfl)
theorem Qy (a0:List UInt8) (a1:Int):Ed 113 [V.str a0,V.int .i64 a1] (Cc a0 a1):=ed (Qz a0 a1)
noncomputable def Cy (a0:List UInt8) (a1 a2:Int):R :=
 cond (decide (a2 < 1))
 (some (.done (V.int .i64 1)))
 (cond (decide (a2 > 8))
 (some (.done (V.int .i64 1)))
 (ai aa 113 [V.str a0,V.int .i64 a1] fun r =>
  kI .i64 r fun r113 =>
  cond (r113 != (0:Int))
 (some (.done (V.int .i64 1)))
 (cond (decide (W .i64 ((a0.length:Int) - a1) < a2))
 (some (.done (V.int .i64 3)))
 (some (.done (V.int .i64 0))))))
theorem RA (a0:List UInt8) (a1 a2:Int):Ep 208 [V.str a0,V.int .i64 a1,V.int .i64 a2] (Cy a0 a1 a2):=ep (by kernel_rfl) (by kernel_rfl)
theorem Rz (a0:List UInt8) (a1 a2:Int):Ed 208 [V.str a0,V.int .i64 a1,V.int .i64 a2] (Cy a0 a1 a2):=ed (RA a0 a1 a2)
def tD (x0:List UInt8) (x1 x9:Int) (x18 x19:Int):S:=⟨[V.str x0,V.int .i64 x1]++(JU 4)++[V.int .u64 0,V.int .i64 0,V.junk,V.int .u64 x9]++(JU 8)++[V.int .i64 x18,V.int .i64 x19]++(JU 15),[]⟩
noncomputable def Cz (a0:List UInt8) (a1 a2:Int):R :=
 ai aa 208 [V.str a0,V.int .i64 a1,V.int .i64 a2] fun r =>
 kI .i64 r fun r208 =>
 cond (r208 != (0:Int))
 (some (.done (V.tup [V.int .u64 0,V.int .i64 r208])))
 (some (.head 0 (tD a0 a1 0 a2 0)))
theorem IV (a0:List UInt8) (a1 a2:Int):Ep 214 [V.str a0,V.int .i64 a1,V.int .i64 a2] (Cz a0 a1 a2):=ep (by kernel_rfl) (by kernel_rfl)
noncomputable def FG (x0:List UInt8) (x1 x9:Int) (x18 x19:Int):R :=
 cond (decide (x19 < x18))
 (gd (decide (0<=W .i64 (x1+x19))) <|
  aH x0 ((W .i64 (x1+x19)).toNat) fun c =>
  gd (!decide (W .i64 (8 * x19) < 0)) <|
  some (.head 0 (tD x0 x1 (W .u64 (((BitVec.ofInt (IntKind.bits .u64) x9 ||| BitVec.ofInt (IntKind.bits .u64) (W .u64 (W .u64 ((c.toNat:Int)) * 2 ^ (min (W .i64 (8 * x19)).toNat (IntKind.bits .u64))))).toNat:Int))) x18 (W .i64 (x19+1)))))
 (some (.done (V.tup [V.int .u64 x9,V.int .i64 0])))
theorem MV (x0:List UInt8) (x1 x9:Int) (x18 x19:Int):Rd false 0 214 0 (tD x0 x1 x9 x18 x19) (FG x0 x1 x9 x18 x19):=rd (by kernel_rfl)
def qS (x0:List UInt8) (x1 x3:Int) (x31 x32:Int) (m0:List V):S:=⟨[V.str x0,V.int .i64 x1,V.junk,V.int .u64 x3]++(JU 4)++[V.str [],V.int .i64 0,V.junk,V.own 0]++(JU 19)++[V.int .i64 x31,V.int .i64 x32]++(JU 15),[O.row 5 m0 0]⟩
noncomputable def y6 (a0:List UInt8) (a1 a2 a3:Int):R :=
 ai aa 208 [V.str a0,V.int .i64 a1,V.int .i64 a2] fun r =>
 kI .i64 r fun r208 =>
 cond (r208 != (0:Int))
 (some (.done (V.tup [V.str [],V.int .i64 r208])))
 (cond (decide (a2 < 8))
 (gd (!decide (W .i64 (8 * a2) < 0)) <|
  cond (decide (a3.fdiv (2 ^ (min (W .i64 (8 * a2)).toNat (IntKind.bits .u64))) > 0))
 (some (.done (V.tup [V.str [],V.int .i64 2])))
 (gd (decide (0<=a2)) <|
  gd (decide (a2<=a2)) <|
  gd (decide (a2.toNat<=16777216)) <|
  some (.head 0 (qS a0 a1 a3 a2 0 (bl a2.toNat (V.int .u8 0))))))
 (gd (decide (0<=a2)) <|
  gd (decide (a2<=a2)) <|
  gd (decide (a2.toNat<=16777216)) <|
  some (.head 0 (qS a0 a1 a3 a2 0 (bl a2.toNat (V.int .u8 0))))))
theorem Cn (a0:List UInt8) (a1 a2 a3:Int):Ep 161 [V.str a0,V.int .i64 a1,V.int .i64 a2,V.int .u64 a3] (y6 a0 a1 a2 a3):=ep (by kernel_rfl) (by kernel_rfl)
noncomputable def Fy (x0:List UInt8) (x1 x3:Int) (x31 x32:Int) (m0:List V):R :=
 cond (decide (x32 < x31))
 (gd (!decide (W .i64 (8 * x32) < 0)) <|
  gd (decide (0<=x32)) <|
  gd (decide (x32.toNat < m0.length)) <|
  aH m0 x32.toNat fun v =>
  kI .u8 v fun n =>
  some (.head 0 (qS x0 x1 x3 x31 (W .i64 (x32+1)) ((m0).set x32.toNat (V.int .u8 (W .u8 (x3.fdiv (2 ^ (min (W .i64 (8 * x32)).toNat (IntKind.bits .u64))))))))))
 (ai aa 209 [V.str x0,V.int .i64 x1,V.sl m0] fun r =>
  kS r fun r209 =>
  some (.done (V.tup [V.str r209,V.int .i64 0])))
theorem MI (x0:List UInt8) (x1 x3:Int) (x31 x32:Int) (m0:List V):Rd false 0 161 0 (qS x0 x1 x3 x31 x32 m0) (Fy x0 x1 x3 x31 x32 m0):=rd (by kernel_rfl)
noncomputable def CH (a0:List UInt8) (a1:Int):R :=
 ai aa 113 [V.str a0,V.int .i64 a1] fun r =>
 kI .i64 r fun r113 =>
 cond (r113 != (0:Int))
 (some (.done (V.tup [V.str [],V.int .i64 0,V.int .i64 r113])))
 (cond (a1==(a0.length:Int))
 (some (.done (V.tup [V.str [],V.int .i64 0,V.int .i64 3])))
 (gd (decide (0<=a1)) <|
  aH a0 a1.toNat fun c =>
  cond (decide (W .i64 ((W .i64 ((a0.length:Int) - a1)) - 1) < W .i64 ((c.toNat:Int))))
 (some (.done (V.tup [V.str [],V.int .i64 0,V.int .i64 3])))
 (gd (decide (0<=a1)) <|
  aH a0 a1.toNat fun c_1 =>
  gd (decide (0<=W .i64 (a1+1))) <|
  gd (decide (0<=W .i64 ((W .i64 (a1+1))+(W .i64 ((c_1.toNat:Int)))))) <|
  gd (decide ((W .i64 (a1+1)).toNat<=(W .i64 ((W .i64 (a1+1))+(W .i64 ((c_1.toNat:Int))))).toNat)) <|
  gd (decide ((W .i64 ((W .i64 (a1+1))+(W .i64 ((c_1.toNat:Int))))).toNat<=a0.length)) <|
  some (.done (V.tup [V.str ((a0.take ((W .i64 ((W .i64 (a1+1))+(W .i64 ((c_1.toNat:Int))))).toNat)).drop ((W .i64 (a1+1)).toNat)),V.int .i64 (W .i64 ((W .i64 (a1+1))+(W .i64 ((c_1.toNat:Int))))),V.int .i64 0])))))
theorem RQ (a0:List UInt8) (a1:Int):Ep 71 [V.str a0,V.int .i64 a1] (CH a0 a1):=ep (by kernel_rfl) (by kernel_rfl)
theorem RP (a0:List UInt8) (a1:Int):Ed 71 [V.str a0,V.int .i64 a1] (CH a0 a1):=ed (RQ a0 a1)
noncomputable def Co (a0:List UInt8) (a1:Int) (a2:List UInt8):R :=
 ai aa 113 [V.str a0,V.int .i64 a1] fun r =>
 kI .i64 r fun r113 =>
 cond (r113 != (0:Int))
 (some (.done (V.tup [V.str [],V.int .i64 0,V.int .i64 r113])))
 (cond (decide ((a2.length:Int) > 255))
 (some (.done (V.tup [V.str [],V.int .i64 0,V.int .i64 2])))
 (cond (decide (W .i64 ((a0.length:Int) - a1) < W .i64 ((a2.length:Int)+1)))
 (some (.done (V.tup [V.str [],V.int .i64 0,V.int .i64 3])))
 (gd (df 1 (di a2)) <|
  gd (decide (([V.int .u8 (W .u8 ((a2.length:Int)))]:List V).length+(di a2).length<=16777216)) <|
  ai aa 209 [V.str a0,V.int .i64 a1,V.sl ([V.int .u8 (W .u8 ((a2.length:Int)))]++(di a2))] fun r_1 =>
  kS r_1 fun r209 =>
  some (.done (V.tup [V.str r209,V.int .i64 (W .i64 ((W .i64 (a1+(a2.length:Int)))+1)),V.int .i64 0])))))
theorem Q8 (a0:List UInt8) (a1:Int) (a2:List UInt8):Ep 162 [V.str a0,V.int .i64 a1,V.str a2] (Co a0 a1 a2):=ep (by kernel_rfl) (by kernel_rfl)
theorem Q7 (a0:List UInt8) (a1:Int) (a2:List UInt8):Ed 162 [V.str a0,V.int .i64 a1,V.str a2] (Co a0 a1 a2):=ed (Q8 a0 a1 a2)
noncomputable def Cm (a0:List UInt8) (a1:Int):R :=
 cond (decide (a1 < 0))
 (some (.done (V.tup [V.str [],V.int .i64 1])))
 (cond (decide (a1 > 65536))
 (some (.done (V.tup [V.str [],V.int .i64 1])))
 (cond (decide ((a0.length:Int) > a1))
 (some (.done (V.tup [V.str [],V.int .i64 2])))
 (gd (decide (0<=W .i64 (a1 - (a0.length:Int)))) <|
  gd (decide (W .i64 (a1 - (a0.length:Int))<=W .i64 (a1 - (a0.length:Int)))) <|
  gd (decide ((W .i64 (a1 - (a0.length:Int))).toNat<=16777216)) <|
  aQ (fj (bl ((W .i64 (a1 - (a0.length:Int))).toNat) (V.int .u8 0))) fun ns =>
  gd (decide (a0.length+(ns.map fun n=>UInt8.ofNat n.toNat).length<=4611686018427387904)) <|
  some (.done (V.tup [V.str (a0++(ns.map fun n=>UInt8.ofNat n.toNat)),V.int .i64 0])))))
theorem Q6 (a0:List UInt8) (a1:Int):Ep 160 [V.str a0,V.int .i64 a1] (Cm a0 a1):=ep (by kernel_rfl) (by kernel_rfl)
theorem Q5 (a0:List UInt8) (a1:Int):Ed 160 [V.str a0,V.int .i64 a1] (Cm a0 a1):=ed (Q6 a0 a1)
def vP (x0:List UInt8) (x3:Int):S:=⟨[V.str x0,V.junk,V.str [],V.int .i64 x3]++(JU 16),[]⟩
noncomputable def Rk (a0:List UInt8):R :=
 some (.head 0 (vP a0 (a0.length:Int)))
theorem Rl (a0:List UInt8):Ep 176 [V.str a0] (Rk a0):=ep (by kernel_rfl) (by kernel_rfl)
noncomputable def AI (x0:List UInt8) (x3:Int):R :=
 cond (decide (x3 > 0))
 (gd (decide (0<=W .i64 (x3 - 1))) <|
  aH x0 ((W .i64 (x3 - 1)).toNat) fun c =>
  cond ((c.toNat:Int)==(0:Int))
 (some (.head 0 (vP x0 (W .i64 (x3 - 1)))))
 (gd (decide (0<=x3)) <|
  gd (decide (x3.toNat<=x0.length)) <|
  some (.done (V.str (x0.take x3.toNat)))))
 (gd (decide (0<=x3)) <|
  gd (decide (x3.toNat<=x0.length)) <|
  some (.done (V.str (x0.take x3.toNat))))
theorem FF (x0:List UInt8) (x3:Int):Rd false 0 176 0 (vP x0 x3) (AI x0 x3):=rd (by kernel_rfl)
noncomputable def CI (a0:List UInt8):R :=
 cond (!(a0==[]))
 (some (.done (V.bool (decide ((a0.length:Int)<=16)))))
 (some (.done (V.bool false)))
theorem RU (a0:List UInt8):Ep 73 [V.str a0] (CI a0):=ep (by kernel_rfl) (by kernel_rfl)
theorem RS (a0:List UInt8):Ed 73 [V.str a0] (CI a0):=ed (RU a0)
noncomputable def CJ (a0:List UInt8):R :=
 some (.done (V.bool (decide ((a0.length:Int)<=32))))
theorem RY (a0:List UInt8):Ep 74 [V.str a0] (CJ a0):=ep (by kernel_rfl) (by kernel_rfl)
theorem RX (a0:List UInt8):Ed 74 [V.str a0] (CJ a0):=ed (RY a0)
def tE (x0 x1:List V) (x5:Int):S:=⟨[V.sl x0,V.sl x1,V.junk,V.junk,V.bool false,V.int .i64 x5]++(JU 20),[]⟩
noncomputable def CF (a0 a1:List V):R :=
 cond ((a0.length:Int) != (a1.length:Int))
 (some (.done (V.bool false)))
 (some (.head 0 (tE a0 a1 0)))
theorem I3 (a0 a1:List V):Ep 49 [V.sl a0,V.sl a1] (CF a0 a1):=ep (by kernel_rfl) (by kernel_rfl)
noncomputable def AL (x0 x1:List V) (x5:Int):R :=
 cond (decide (x5 < (x0.length:Int)))
 (gd (decide (0<=x5)) <|
  aH x0 x5.toNat fun v =>
  kI .i64 v fun n =>
  gd (decide (0<=x5)) <|
  aH x1 x5.toNat fun v_1 =>
  kI .i64 v_1 fun n_1 =>
  cond (n != n_1)
 (some (.done (V.bool false)))
 (some (.head 0 (tE x0 x1 (W .i64 (x5+1))))))
 (some (.done (V.bool true)))
theorem FM (x0 x1:List V) (x5:Int):Rd false 0 49 0 (tE x0 x1 x5) (AL x0 x1 x5):=rd (by kernel_rfl)
noncomputable def CB (a0:List UInt8):R :=
 some (.done (V.bool (!(a0==a0))))
theorem RD (a0:List UInt8):Ep 223 [V.str a0] (CB a0):=ep (by kernel_rfl) (by kernel_rfl)
theorem RB (a0:List UInt8):Ed 223 [V.str a0] (CB a0):=ed (RD a0)
noncomputable def Cx (a0:List UInt8):R :=
 some (.done (V.bool (!(a0==a0))))
theorem Ry (a0:List UInt8):Ep 206 [V.str a0] (Cx a0):=ep (by kernel_rfl) (by kernel_rfl)
theorem Rx (a0:List UInt8):Ed 206 [V.str a0] (Cx a0):=ed (Ry a0)
noncomputable def Cw (a0 a1:List UInt8):R :=
 ai aa 223 [V.str a0] fun r =>
 kB r fun r223 =>
 cond r223
 (ai aa 223 [V.str a1] fun r_1 =>
  kB r_1 fun r223_1 =>
  cond (!r223_1)
 (some (.done (V.bool true)))
 (some (.done (V.bool (Op.bytesLess a0 a1)))))
 (some (.done (V.bool (Op.bytesLess a0 a1))))
theorem Rw (a0 a1:List UInt8):Ep 205 [V.str a0,V.str a1] (Cw a0 a1):=ep (by kernel_rfl) (by kernel_rfl)
theorem Rv (a0 a1:List UInt8):Ed 205 [V.str a0,V.str a1] (Cw a0 a1):=ed (Rw a0 a1)
def pk (x0:List V) (x1:List UInt8) (x6 x7 x8:Int):S:=⟨[V.sl x0,V.str x1,V.junk,V.junk,V.int .i64 0,V.bool false,V.int .i64 x6,V.int .i64 x7,V.int .i64 x8]++(JU 45),[]⟩
noncomputable def IM (a0:List V) (a1:List UInt8):R :=
 some (.head 0 (pk a0 a1 (a0.length:Int) 0 (a0.length:Int)))
theorem Q0 (a0:List V) (a1:List UInt8):Ep 155 [V.sl a0,V.str a1] (IM a0 a1):=ep (by kernel_rfl) (by kernel_rfl)
noncomputable def AG (x0:List V) (x1:List UInt8) (x6 x7 x8:Int):R :=
 cond (decide (x7 < x8))
 (gd (decide (0<=W .i64 ((W .u64 (W .i64 (x7+x8))).fdiv (2 ^ (min 1 (IntKind.bits .u64)))))) <|
  aH x0 ((W .i64 ((W .u64 (W .i64 (x7+x8))).fdiv (2 ^ (min 1 (IntKind.bits .u64))))).toNat) fun v =>
  kS v fun s =>
  ai aa 205 [V.str s,V.str x1] fun r =>
  kB r fun r205 =>
  cond r205
 (some (.head 0 (pk x0 x1 x6 (W .i64 ((W .i64 ((W .u64 (W .i64 (x7+x8))).fdiv (2 ^ (min 1 (IntKind.bits .u64)))))+1)) x8)))
 (some (.head 0 (pk x0 x1 x6 x7 (W .i64 ((W .u64 (W .i64 (x7+x8))).fdiv (2 ^ (min 1 (IntKind.bits .u64)))))))))
 (cond (decide (x7 < x6))
 (gd (decide (0<=x7)) <|
  aH x0 x7.toNat fun v_1 =>
  kS v_1 fun s_1 =>
  cond (s_1==x1)
 (some (.done (V.tup [V.int .i64 x7,V.bool true])))
 (gd (decide (0<=x7)) <|
  aH x0 x7.toNat fun v_2 =>
  kS v_2 fun s_2 =>
  ai aa 206 [V.str s_2] fun r_1 =>
  kB r_1 fun r206 =>
  cond r206
 (ai aa 206 [V.str x1] fun r_2 =>
  kB r_2 fun r206_1 =>
  some (.done (V.tup [V.int .i64 x7,V.bool r206_1])))
 (some (.done (V.tup [V.int .i64 x7,V.bool false])))))
 (some (.done (V.tup [V.int .i64 x7,V.bool false]))))
theorem Fv (x0:List V) (x1:List UInt8) (x6 x7 x8:Int):Rd false 0 155 0 (pk x0 x1 x6 x7 x8) (AG x0 x1 x6 x7 x8):=rd (by kernel_rfl)
def pm (x0:List V) (x1:List UInt8) (x8 x9 x10:Int):S:=⟨[V.sl x0,V.str x1,V.fn 157 [],V.junk,V.junk,V.junk,V.int .i64 0,V.bool false,V.int .i64 x8,V.int .i64 x9,V.int .i64 x10]++(JU 38),[]⟩
noncomputable def IN (a0:List V) (a1:List UInt8):R :=
 some (.head 0 (pm a0 a1 (a0.length:Int) 0 (a0.length:Int)))
theorem Q1 (a0:List V) (a1:List UInt8):Ep 156 [V.sl a0,V.str a1,V.fn 157 []] (IN a0 a1):=ep (by kernel_rfl) (by kernel_rfl)
noncomputable def AH (x0:List V) (x1:List UInt8) (x8 x9 x10:Int):R :=
 cond (decide (x9 < x10))
 (gd (decide (0<=W .i64 ((W .u64 (W .i64 (x9+x10))).fdiv (2 ^ (min 1 (IntKind.bits .u64)))))) <|
  aH x0 ((W .i64 ((W .u64 (W .i64 (x9+x10))).fdiv (2 ^ (min 1 (IntKind.bits .u64))))).toNat) fun v =>
  f9 v fun key value =>
  ai aa 157 [V.agg [V.str key,V.str value],V.str x1] fun r =>
  kI .i64 r fun r157 =>
  cond (decide (r157 < 0))
 (some (.head 0 (pm x0 x1 x8 (W .i64 ((W .i64 ((W .u64 (W .i64 (x9+x10))).fdiv (2 ^ (min 1 (IntKind.bits .u64)))))+1)) x10)))
 (some (.head 0 (pm x0 x1 x8 x9 (W .i64 ((W .u64 (W .i64 (x9+x10))).fdiv (2 ^ (min 1 (IntKind.bits .u64)))))))))
 (cond (decide (x9 < x8))
 (gd (decide (0<=x9)) <|
  aH x0 x9.toNat fun v_1 =>
  f9 v_1 fun key_1 value_1 =>
  ai aa 157 [V.agg [V.str key_1,V.str value_1],V.str x1] fun r_1 =>
  kI .i64 r_1 fun r157_1 =>
  some (.done (V.tup [V.int .i64 x9,V.bool (r157_1==(0:Int))])))
 (some (.done (V.tup [V.int .i64 x9,V.bool false]))))
theorem Fw (x0:List V) (x1:List UInt8) (x8 x9 x10:Int):Rd false 0 156 0 (pm x0 x1 x8 x9 x10) (AH x0 x1 x8 x9 x10):=rd (by kernel_rfl)
noncomputable def Cl (a0Key a0Value a1:List UInt8):R :=
 ai aa 158 [V.str a0Key,V.str a1] fun r =>
 kI .i64 r fun r158 =>
 some (.done (V.int .i64 r158))
theorem Q3 (a0Key a0Value a1:List UInt8):Ep 157 [V.agg [V.str a0Key,V.str a0Value],V.str a1] (Cl a0Key a0Value a1):=ep (by kernel_rfl) (by kernel_rfl)
theorem Q2 (a0Key a0Value a1:List UInt8):Ed 157 [V.agg [V.str a0Key,V.str a0Value],V.str a1] (Cl a0Key a0Value a1):=ed (Q3 a0Key a0Value a1)
noncomputable def Cu (a0:Int):R :=
 cond (decide (a0 ≥ 0))
 (some (.done (V.bool (decide (a0 < 1024)))))
 (some (.done (V.bool false)))
theorem Rr (a0:Int):Ep 203 [V.int .i64 a0] (Cu a0):=ep (by kernel_rfl) (by kernel_rfl)
theorem Rq (a0:Int):Ed 203 [V.int .i64 a0] (Cu a0):=ed (Rr a0)
def tC (x3:Int) (x11:List V) (x12 x13:Int):S:=⟨[V.junk,V.junk,V.int .i64 0,V.int .i64 x3]++(JU 7)++[V.sl x11,V.int .i64 x12,V.int .i64 x13]++(JU 10),[]⟩
noncomputable def IQ (a0Seps a0Kids:List V) (a0High:List UInt8) (a0Next:Int):R :=
 some (.head 0 (tC (W .i64 (7+(a0High.length:Int))) a0Seps (a0Seps.length:Int) 0))
theorem Q9 (a0Seps a0Kids:List V) (a0High:List UInt8) (a0Next:Int):Ep 163 [V.agg [V.sl a0Seps,V.sl a0Kids,V.str a0High,V.int .i64 a0Next]] (IQ a0Seps a0Kids a0High a0Next):=ep (by kernel_rfl) (by kernel_rfl)
noncomputable def FB (x3:Int) (x11:List V) (x12 x13:Int):R :=
 cond (decide (x13 < x12))
 (gd (decide (0<=x13)) <|
  aH x11 x13.toNat fun v =>
  kS v fun s =>
  some (.head 0 (tC (W .i64 (x3+(W .i64 (3+(s.length:Int))))) x11 x12 (W .i64 (x13+1)))))
 (some (.done (V.int .i64 x3)))
theorem MJ (x3:Int) (x11:List V) (x12 x13:Int):Rd false 0 163 0 (tC x3 x11 x12 x13) (FB x3 x11 x12 x13):=rd (by kernel_rfl)
noncomputable def Cv (a0Seps a0Kids:List V) (a0High:List UInt8) (a0Next:Int):R :=
 ai aa 163 [V.agg [V.sl a0Seps,V.sl a0Kids,V.str a0High,V.int .i64 a0Next]] fun r =>
 kI .i64 r fun r163 =>
 some (.done (V.bool (decide (W .i64 ((W .i64 (r163 - (a0High.length:Int)))+16)<=252))))
theorem Ru (a0Seps a0Kids:List V) (a0High:List UInt8) (a0Next:Int):Ep 204 [V.agg [V.sl a0Seps,V.sl a0Kids,V.str a0High,V.int .i64 a0Next]] (Cv a0Seps a0Kids a0High a0Next):=ep (by kernel_rfl) (by kernel_rfl)
theorem Rt (a0Seps a0Kids:List V) (a0High:List UInt8) (a0Next:Int):Ed 204 [V.agg [V.sl a0Seps,V.sl a0Kids,V.str a0High,V.int .i64 a0Next]] (Cv a0Seps a0Kids a0High a0Next):=ed (Ru a0Seps a0Kids a0High a0Next)
def vN (x28 m0_0 m0_1:List V) (m0_2:List UInt8) (m0_3:Int) (m2:List UInt8):S:=⟨[V.junk,V.ptr 0 0 0,V.ptr 1 0 0,V.ptr 2 0 0]++(JU 24)++[V.rest [9,3] x28]++(JU 45),[O.box 150 (V.agg [V.sl m0_0,V.sl m0_1,V.str m0_2,V.int .i64 m0_3]) false,O.box 4 (V.bool false) false,O.box 9 (V.str m2) false]⟩
noncomputable def y5 (a0Seps a0Kids:List V) (a0High:List UInt8) (a0Next:Int):R :=
 cond ((a0Kids.length:Int) != (W .i64 ((a0Seps.length:Int)+1)))
 (some (.done (V.bool false)))
 (aH a0Kids 0 fun v =>
  kI .i64 v fun n =>
  ai aa 203 [V.int .i64 n] fun r =>
  kB r fun r203 =>
  cond (!r203)
 (some (.done (V.bool false)))
 (gd (df 1 a0Kids) <|
  gd (decide (1<=a0Kids.length)) <|
  aQ (tO [V.ref (V.sl a0Seps) 0,V.ref (V.sl ((a0Kids.take a0Kids.length).drop 1)) 0]) fun rs =>
  some (.head 0 (vN (rs.map V.tup) a0Seps a0Kids a0High a0Next []))))
theorem Ck (a0Seps a0Kids:List V) (a0High:List UInt8) (a0Next:Int):Ep 154 [V.agg [V.sl a0Seps,V.sl a0Kids,V.str a0High,V.int .i64 a0Next]] (y5 a0Seps a0Kids a0High a0Next):=ep (by kernel_rfl) (by kernel_rfl)
noncomputable def AF (x28 m0_0 m0_1:List V) (m0_2:List UInt8) (m0_3:Int) (m2:List UInt8):R :=
 jz x28
 (cond (m0_2==[])
 (cond (decide (m0_3 ≥ 0))
 (cond (decide (m0_3<=1024))
 (ai aa 204 [V.agg [V.sl m0_0,V.sl m0_1,V.str m0_2,V.int .i64 m0_3]] fun r =>
  kB r fun r204 =>
  some (.done (V.bool r204)))
 (some (.done (V.bool false))))
 (some (.done (V.bool false))))
 (ai aa 73 [V.str m0_2] fun r_1 =>
  kB r_1 fun r73 =>
  cond r73
 (cond (Op.bytesLess m2 m0_2)
 (cond (decide (m0_3 ≥ 0))
 (cond (decide (m0_3<=1024))
 (ai aa 204 [V.agg [V.sl m0_0,V.sl m0_1,V.str m0_2,V.int .i64 m0_3]] fun r_2 =>
  kB r_2 fun r204_1 =>
  some (.done (V.bool r204_1)))
 (some (.done (V.bool false))))
 (some (.done (V.bool false))))
 (some (.done (V.bool false))))
 (some (.done (V.bool false))))) fun x0 l =>
  kT x0 fun vs=>bz vs fun c vs=>kS c fun s =>
  bz vs fun c_1 vs=>kI .i64 c_1 fun n =>
  dD vs<|ai aa 73 [V.str s] fun r_3 =>
  kB r_3 fun r73_1 =>
  cond (!r73_1)
 (some (.done (V.bool false)))
 (cond (Op.bytesLess s m2 || s==m2)
 (some (.done (V.bool false)))
 (ai aa 203 [V.int .i64 n] fun r_4 =>
  kB r_4 fun r203 =>
  cond (!r203)
 (some (.done (V.bool false)))
 (some (.head 0 (vN l m0_0 m0_1 m0_2 m0_3 s)))))
theorem xw (x28 m0_0 m0_1:List V) (m0_2:List UInt8) (m0_3:Int) (m2:List UInt8):Rd false 0 154 0 (vN x28 m0_0 m0_1 m0_2 m0_3 m2) (AF x28 m0_0 m0_1 m0_2 m0_3 m2):=rd (by kernel_rfl)
def vJ (x63:List V) (m0:List UInt8) (m1:Int):S:=⟨[V.junk,V.junk,V.str [],V.ptr 0 0 0,V.junk,V.ptr 1 0 0]++(JU 57)++[V.rest [9,3] x63]++(JU 21),[O.box 9 (V.str m0) false,O.box 3 (V.int .i64 m1) false]⟩
noncomputable def Ch (a0Seps a0Kids:List V) (a0High:List UInt8) (a0Next:Int):R :=
 ai aa 154 [V.agg [V.sl a0Seps,V.sl a0Kids,V.str a0High,V.int .i64 a0Next]] fun r =>
 kB r fun r154 =>
 cond (!r154)
 (some (.done (V.str [])))
 (ai aa 163 [V.agg [V.sl a0Seps,V.sl a0Kids,V.str a0High,V.int .i64 a0Next]] fun r_1 =>
  kI .i64 r_1 fun r163 =>
  ai aa 160 [V.str [UInt8.ofNat ((78:Int)).toNat],V.int .i64 r163] fun r_2 =>
  jU r_2 fun r160_0 r160_1 =>
  ai aa 161 [V.str r160_0,V.int .i64 1,V.int .i64 1,V.int .u64 (W .u64 ((a0Seps.length:Int)))] fun r_3 =>
  jU r_3 fun r161_0 r161_1 =>
  ai aa 161 [V.str r161_0,V.int .i64 2,V.int .i64 2,V.int .u64 (W .u64 (a0Next))] fun r_4 =>
  jU r_4 fun r161_0_1 r161_1_1 =>
  ai aa 162 [V.str r161_0_1,V.int .i64 4,V.str a0High] fun r_5 =>
  iv r_5 fun r162_0 r162_1 r162_2 =>
  aH a0Kids 0 fun v =>
  kI .i64 v fun n =>
  ai aa 161 [V.str r162_0,V.int .i64 r162_1,V.int .i64 2,V.int .u64 (W .u64 (n))] fun r_6 =>
  jU r_6 fun r161_0_2 r161_1_2 =>
  gd (df 1 a0Kids) <|
  gd (decide (1<=a0Kids.length)) <|
  aQ (tO [V.ref (V.sl a0Seps) 0,V.ref (V.sl ((a0Kids.take a0Kids.length).drop 1)) 0]) fun rs =>
  some (.head 0 (vJ (rs.map V.tup) r161_0_2 (W .i64 (r162_1+2)))))
theorem IB (a0Seps a0Kids:List V) (a0High:List UInt8) (a0Next:Int):Ep 121 [V.agg [V.sl a0Seps,V.sl a0Kids,V.str a0High,V.int .i64 a0Next]] (Ch a0Seps a0Kids a0High a0Next):=ep (by kernel_rfl) (by kernel_rfl)
noncomputable def Fl (x63:List V) (m0:List UInt8) (m1:Int):R :=
 jz x63
 (some (.done (V.str m0))) fun x0 l =>
  kT x0 fun vs=>bz vs fun c vs=>kS c fun s =>
  bz vs fun c_1 vs=>kI .i64 c_1 fun n =>
  dD vs<|ai aa 162 [V.str m0,V.int .i64 m1,V.str s] fun r =>
  iv r fun r162_0 r162_1 r162_2 =>
  ai aa 161 [V.str r162_0,V.int .i64 r162_1,V.int .i64 2,V.int .u64 (W .u64 (n))] fun r_1 =>
  jU r_1 fun r161_0 r161_1 =>
  some (.head 0 (vJ l r161_0 (W .i64 (r162_1+2))))
theorem MA (x63:List V) (m0:List UInt8) (m1:Int):Rd false 0 121 0 (vJ x63 m0 m1) (Fl x63 m0 m1):=rd (by kernel_rfl)
def vM (x0 m1_0:List UInt8) (m1_1:Int) (m1_2:Bool) (m2_2:List UInt8) (m2_3:Int) (m5:List V):S:=⟨[V.str x0,V.junk,V.ptr 0 0 0,V.int .i64 0,V.ptr 1 0 0,V.ptr 2 0 0,V.int .i64 0]++(JU 79),[O.box 150 (V.agg [V.tail 3 0,V.tail 4 0,V.str [],V.int .i64 0]) false,O.box 245 (V.agg [V.str m1_0,V.int .i64 m1_1,V.bool m1_2]) false,O.box 150 (V.agg [V.nilS,V.tail 5 0,V.str m2_2,V.int .i64 m2_3]) false,O.row 9 [] 0,O.row 3 [] 0,O.row 3 m5 0]⟩
def mn (x0:List UInt8) (x6:Int) (m1_0:List UInt8) (m1_1:Int) (m1_2:Bool) (m2_2:List UInt8) (m2_3:Int) (m5 m6:List V):S:=⟨[V.str x0,V.junk,V.ptr 0 0 0,V.int .i64 0,V.ptr 1 0 0,V.ptr 2 0 0,V.int .i64 x6]++(JU 79),[O.box 150 (V.agg [V.tail 3 0,V.tail 4 0,V.str [],V.int .i64 0]) false,O.box 245 (V.agg [V.str m1_0,V.int .i64 m1_1,V.bool m1_2]) false,O.box 150 (V.agg [V.tail 5 0,V.tail 6 0,V.str m2_2,V.int .i64 m2_3]) false,O.row 9 [] 0,O.row 3 [] 0,O.row 9 m5 0,O.row 3 m6 0]⟩
noncomputable def n8 (a0:List UInt8):R :=
 cond (decide ((a0.length:Int)<=4))
 (some (.done (V.tup [V.agg [V.sl [],V.sl [],V.str [],V.int .i64 0],V.int .i64 4])))
 (cond (decide ((a0.length:Int) > 252))
 (some (.done (V.tup [V.agg [V.sl [],V.sl [],V.str [],V.int .i64 0],V.int .i64 4])))
 (aH a0 0 fun c =>
  cond ((c.toNat:Int) != (78:Int))
 (some (.done (V.tup [V.agg [V.sl [],V.sl [],V.str [],V.int .i64 0],V.int .i64 4])))
 (ai aa 214 [V.str a0,V.int .i64 2,V.int .i64 2] fun r =>
  kC r fun r214_0 r214_1 =>
  ai aa 71 [V.str a0,V.int .i64 4] fun r_1 =>
  iv r_1 fun r71_0 r71_1 r71_2 =>
  cond (r214_1==(0:Int))
 (ai aa 214 [V.str a0,V.int .i64 (if 4 < r71_1 then r71_1 else 4),V.int .i64 2] fun r_2 =>
  kC r_2 fun r214_0_1 r214_1_1 =>
  cond (r71_2==(0:Int))
 (gd (decide (([V.int .i64 (W .i64 (r214_0_1))]:List V).length<=16777216)) <|
  some (.head 0 (vM a0 a0 (W .i64 ((if 4 < r71_1 then r71_1 else 4)+2)) (r214_1_1==(0:Int)) r71_0 (W .i64 (r214_0)) [V.int .i64 (W .i64 (r214_0_1))])))
 (gd (decide (([V.int .i64 (W .i64 (r214_0_1))]:List V).length<=16777216)) <|
  some (.head 0 (vM a0 a0 (W .i64 ((if 4 < r71_1 then r71_1 else 4)+2)) false r71_0 (W .i64 (r214_0)) [V.int .i64 (W .i64 (r214_0_1))]))))
 (ai aa 214 [V.str a0,V.int .i64 (if 4 < r71_1 then r71_1 else 4),V.int .i64 2] fun r_3 =>
  kC r_3 fun r214_0_2 r214_1_2 =>
  gd (decide (([V.int .i64 (W .i64 (r214_0_2))]:List V).length<=16777216)) <|
  some (.head 0 (vM a0 a0 (W .i64 ((if 4 < r71_1 then r71_1 else 4)+2)) false r71_0 (W .i64 (r214_0)) [V.int .i64 (W .i64 (r214_0_2))]))))))
theorem tW (a0:List UInt8):Ep 130 [V.str a0] (n8 a0):=ep (by kernel_rfl) (by kernel_rfl)
noncomputable def sH (x0 m1_0:List UInt8) (m1_1:Int) (m1_2:Bool) (m2_2:List UInt8) (m2_3:Int) (m5:List V):R :=
 cond m1_2
 (aH x0 1 fun c =>
  cond (decide (0 < W .i64 ((c.toNat:Int))))
 (ai aa 71 [V.str m1_0,V.int .i64 m1_1] fun r =>
  iv r fun r71_0 r71_1 r71_2 =>
  cond m1_2
 (gd (decide (([V.str r71_0]:List V).length<=16777216)) <|
  ai aa 214 [V.str m1_0,V.int .i64 (if m1_1 < r71_1 then r71_1 else m1_1),V.int .i64 2] fun r_1 =>
  kC r_1 fun r214_0 r214_1 =>
  cond (r71_2==(0:Int))
 (gd (decide (m5.length+([V.int .i64 (W .i64 (r214_0))]:List V).length<=16777216)) <|
  some (.head 0 (mn x0 1 m1_0 (W .i64 ((if m1_1 < r71_1 then r71_1 else m1_1)+2)) (r214_1==(0:Int)) m2_2 m2_3 [V.str r71_0] (m5++[V.int .i64 (W .i64 (r214_0))]))))
 (gd (decide (m5.length+([V.int .i64 (W .i64 (r214_0))]:List V).length<=16777216)) <|
  some (.head 0 (mn x0 1 m1_0 (W .i64 ((if m1_1 < r71_1 then r71_1 else m1_1)+2)) false m2_2 m2_3 [V.str r71_0] (m5++[V.int .i64 (W .i64 (r214_0))])))))
 (gd (decide (([V.str r71_0]:List V).length<=16777216)) <|
  ai aa 214 [V.str m1_0,V.int .i64 (if m1_1 < r71_1 then r71_1 else m1_1),V.int .i64 2] fun r_2 =>
  kC r_2 fun r214_0_1 r214_1_1 =>
  gd (decide (m5.length+([V.int .i64 (W .i64 (r214_0_1))]:List V).length<=16777216)) <|
  some (.head 0 (mn x0 1 m1_0 (W .i64 ((if m1_1 < r71_1 then r71_1 else m1_1)+2)) false m2_2 m2_3 [V.str r71_0] (m5++[V.int .i64 (W .i64 (r214_0_1))])))))
 (cond (!m1_2)
 (some (.done (V.tup [V.agg [V.sl [],V.sl [],V.str [],V.int .i64 0],V.int .i64 4])))
 (ai aa 154 [V.agg [V.sl [],V.sl m5,V.str m2_2,V.int .i64 m2_3]] fun r_3 =>
  kB r_3 fun r154 =>
  cond (!r154)
 (some (.done (V.tup [V.agg [V.sl [],V.sl [],V.str [],V.int .i64 0],V.int .i64 4])))
 (gd (decide (0<=m1_1)) <|
  gd (decide (m1_1.toNat<=x0.length)) <|
  ai aa 176 [V.str ((x0.take x0.length).drop m1_1.toNat)] fun r_4 =>
  kS r_4 fun r176 =>
  cond (!(r176==[]))
 (some (.done (V.tup [V.agg [V.sl [],V.sl [],V.str [],V.int .i64 0],V.int .i64 4])))
 (some (.done (V.tup [V.agg [V.sl [],V.sl m5,V.str m2_2,V.int .i64 m2_3],V.int .i64 0])))))))
 (cond (!m1_2)
 (some (.done (V.tup [V.agg [V.sl [],V.sl [],V.str [],V.int .i64 0],V.int .i64 4])))
 (ai aa 154 [V.agg [V.sl [],V.sl m5,V.str m2_2,V.int .i64 m2_3]] fun r_5 =>
  kB r_5 fun r154_1 =>
  cond (!r154_1)
 (some (.done (V.tup [V.agg [V.sl [],V.sl [],V.str [],V.int .i64 0],V.int .i64 4])))
 (gd (decide (0<=m1_1)) <|
  gd (decide (m1_1.toNat<=x0.length)) <|
  ai aa 176 [V.str ((x0.take x0.length).drop m1_1.toNat)] fun r_6 =>
  kS r_6 fun r176_1 =>
  cond (!(r176_1==[]))
 (some (.done (V.tup [V.agg [V.sl [],V.sl [],V.str [],V.int .i64 0],V.int .i64 4])))
 (some (.done (V.tup [V.agg [V.sl [],V.sl m5,V.str m2_2,V.int .i64 m2_3],V.int .i64 0]))))))
theorem uY (x0 m1_0:List UInt8) (m1_1:Int) (m1_2:Bool) (m2_2:List UInt8) (m2_3:Int) (m5:List V):Rd false 0 130 0 (vM x0 m1_0 m1_1 m1_2 m2_2 m2_3 m5) (sH x0 m1_0 m1_1 m1_2 m2_2 m2_3 m5):=rd (by kernel_rfl)
noncomputable def qv (x0:List UInt8) (x6:Int) (m1_0:List UInt8) (m1_1:Int) (m1_2:Bool) (m2_2:List UInt8) (m2_3:Int) (m5 m6:List V):R :=
 cond m1_2
 (aH x0 1 fun c =>
  cond (decide (x6 < W .i64 ((c.toNat:Int))))
 (ai aa 71 [V.str m1_0,V.int .i64 m1_1] fun r =>
  iv r fun r71_0 r71_1 r71_2 =>
  cond m1_2
 (gd (decide (m5.length+([V.str r71_0]:List V).length<=16777216)) <|
  ai aa 214 [V.str m1_0,V.int .i64 (if m1_1 < r71_1 then r71_1 else m1_1),V.int .i64 2] fun r_1 =>
  kC r_1 fun r214_0 r214_1 =>
  cond (r71_2==(0:Int))
 (gd (decide (m6.length+([V.int .i64 (W .i64 (r214_0))]:List V).length<=16777216)) <|
  some (.head 0 (mn x0 (W .i64 (x6+1)) m1_0 (W .i64 ((if m1_1 < r71_1 then r71_1 else m1_1)+2)) (r214_1==(0:Int)) m2_2 m2_3 (m5++[V.str r71_0]) (m6++[V.int .i64 (W .i64 (r214_0))]))))
 (gd (decide (m6.length+([V.int .i64 (W .i64 (r214_0))]:List V).length<=16777216)) <|
  some (.head 0 (mn x0 (W .i64 (x6+1)) m1_0 (W .i64 ((if m1_1 < r71_1 then r71_1 else m1_1)+2)) false m2_2 m2_3 (m5++[V.str r71_0]) (m6++[V.int .i64 (W .i64 (r214_0))])))))
 (gd (decide (m5.length+([V.str r71_0]:List V).length<=16777216)) <|
  ai aa 214 [V.str m1_0,V.int .i64 (if m1_1 < r71_1 then r71_1 else m1_1),V.int .i64 2] fun r_2 =>
  kC r_2 fun r214_0_1 r214_1_1 =>
  gd (decide (m6.length+([V.int .i64 (W .i64 (r214_0_1))]:List V).length<=16777216)) <|
  some (.head 0 (mn x0 (W .i64 (x6+1)) m1_0 (W .i64 ((if m1_1 < r71_1 then r71_1 else m1_1)+2)) false m2_2 m2_3 (m5++[V.str r71_0]) (m6++[V.int .i64 (W .i64 (r214_0_1))])))))
 (cond (!m1_2)
 (some (.done (V.tup [V.agg [V.sl [],V.sl [],V.str [],V.int .i64 0],V.int .i64 4])))
 (ai aa 154 [V.agg [V.sl m5,V.sl m6,V.str m2_2,V.int .i64 m2_3]] fun r_3 =>
  kB r_3 fun r154 =>
  cond (!r154)
 (some (.done (V.tup [V.agg [V.sl [],V.sl [],V.str [],V.int .i64 0],V.int .i64 4])))
 (gd (decide (0<=m1_1)) <|
  gd (decide (m1_1.toNat<=x0.length)) <|
  ai aa 176 [V.str ((x0.take x0.length).drop m1_1.toNat)] fun r_4 =>
  kS r_4 fun r176 =>
  cond (!(r176==[]))
 (some (.done (V.tup [V.agg [V.sl [],V.sl [],V.str [],V.int .i64 0],V.int .i64 4])))
 (some (.done (V.tup [V.agg [V.sl m5,V.sl m6,V.str m2_2,V.int .i64 m2_3],V.int .i64 0])))))))
 (cond (!m1_2)
 (some (.done (V.tup [V.agg [V.sl [],V.sl [],V.str [],V.int .i64 0],V.int .i64 4])))
 (ai aa 154 [V.agg [V.sl m5,V.sl m6,V.str m2_2,V.int .i64 m2_3]] fun r_5 =>
  kB r_5 fun r154_1 =>
  cond (!r154_1)
 (some (.done (V.tup [V.agg [V.sl [],V.sl [],V.str [],V.int .i64 0],V.int .i64 4])))
 (gd (decide (0<=m1_1)) <|
  gd (decide (m1_1.toNat<=x0.length)) <|
  ai aa 176 [V.str ((x0.take x0.length).drop m1_1.toNat)] fun r_6 =>
  kS r_6 fun r176_1 =>
  cond (!(r176_1==[]))
 (some (.done (V.tup [V.agg [V.sl [],V.sl [],V.str [],V.int .i64 0],V.int .i64 4])))
 (some (.done (V.tup [V.agg [V.sl m5,V.sl m6,V.str m2_2,V.int .i64 m2_3],V.int .i64 0]))))))
theorem qw (x0:List UInt8) (x6:Int) (m1_0:List UInt8) (m1_1:Int) (m1_2:Bool) (m2_2:List UInt8) (m2_3:Int) (m5 m6:List V):Rd false 0 130 0 (mn x0 x6 m1_0 m1_1 m1_2 m2_2 m2_3 m5 m6) (qv x0 x6 m1_0 m1_1 m1_2 m2_2 m2_3 m5 m6):=rd (by kernel_rfl)
noncomputable def Cd (a0Seps a0Kids:List V) (a0High:List UInt8) (a0Next:Int) (a1:List UInt8):R :=
 ai aa 154 [V.agg [V.sl a0Seps,V.sl a0Kids,V.str a0High,V.int .i64 a0Next]] fun r =>
 kB r fun r154 =>
 cond (!r154)
 (some (.done (V.tup [V.int .i64 0,V.int .i64 1])))
 (ai aa 73 [V.str a1] fun r_1 =>
  kB r_1 fun r73 =>
  cond (!r73)
 (some (.done (V.tup [V.int .i64 0,V.int .i64 1])))
 (cond (!(a0High==[]))
 (cond (!Op.bytesLess a1 a0High)
 (some (.done (V.tup [V.int .i64 0,V.int .i64 1])))
 (ai aa 155 [V.sl a0Seps,V.str a1] fun r_2 =>
  ky r_2 fun r155_0 r155_1 =>
  cond r155_1
 (some (.done (V.tup [V.int .i64 (W .i64 (r155_0+1)),V.int .i64 0])))
 (some (.done (V.tup [V.int .i64 r155_0,V.int .i64 0])))))
 (ai aa 155 [V.sl a0Seps,V.str a1] fun r_3 =>
  ky r_3 fun r155_0_1 r155_1_1 =>
  cond r155_1_1
 (some (.done (V.tup [V.int .i64 (W .i64 (r155_0_1+1)),V.int .i64 0])))
 (some (.done (V.tup [V.int .i64 r155_0_1,V.int .i64 0]))))))
theorem QB (a0Seps a0Kids:List V) (a0High:List UInt8) (a0Next:Int) (a1:List UInt8):Ep 114 [V.agg [V.sl a0Seps,V.sl a0Kids,V.str a0High,V.int .i64 a0Next],V.str a1] (Cd a0Seps a0Kids a0High a0Next a1):=ep (by kernel_rfl) (by kernel_rfl)
theorem QA (a0Seps a0Kids:List V) (a0High:List UInt8) (a0Next:Int) (a1:List UInt8):Ed 114 [V.agg [V.sl a0Seps,V.sl a0Kids,V.str a0High,V.int .i64 a0Next],V.str a1] (Cd a0Seps a0Kids a0High a0Next a1):=ed (QB a0Seps a0Kids a0High a0Next a1)
noncomputable def Cq (a0Seps a0Kids:List V) (a0High:List UInt8) (a0Next:Int) (a1:List UInt8) (a2:Int):R :=
 ai aa 114 [V.agg [V.sl a0Seps,V.sl a0Kids,V.str a0High,V.int .i64 a0Next],V.str a1] fun r =>
 v7 r fun r114_0 r114_1 =>
 cond (r114_1 != (0:Int))
 (some (.done (V.tup [V.agg [V.sl [],V.sl [],V.str [],V.int .i64 0],V.int .i64 1])))
 (ai aa 203 [V.int .i64 a2] fun r_1 =>
  kB r_1 fun r203 =>
  cond (!r203)
 (some (.done (V.tup [V.agg [V.sl [],V.sl [],V.str [],V.int .i64 0],V.int .i64 1])))
 (cond (decide (r114_0 > 0))
 (gd (decide (0<=W .i64 (r114_0 - 1))) <|
  aH a0Seps ((W .i64 (r114_0 - 1)).toNat) fun v =>
  kS v fun s =>
  cond (s==a1)
 (some (.done (V.tup [V.agg [V.sl [],V.sl [],V.str [],V.int .i64 0],V.int .i64 8])))
 (ai aa 171 [V.sl a0Seps] fun r_2 =>
  kF 9 r_2 fun r171 =>
  gd (decide (0<=r114_0/\r114_0.toNat<=r171.length/\r171.length+([V.str a1]:List V).length<=16777216)) <|
  ai aa 173 [V.sl a0Kids] fun r_3 =>
  kF 3 r_3 fun r173 =>
  gd (decide (0<=W .i64 (r114_0+1)/\(W .i64 (r114_0+1)).toNat<=r173.length/\r173.length+([V.int .i64 a2]:List V).length<=16777216)) <|
  ai aa 204 [V.agg [V.sl (((r171.take r114_0.toNat)++[V.str a1])++(r171.drop r114_0.toNat)),V.sl (((r173.take ((W .i64 (r114_0+1)).toNat))++[V.int .i64 a2])++(r173.drop ((W .i64 (r114_0+1)).toNat))),V.str a0High,V.int .i64 a0Next]] fun r_4 =>
  kB r_4 fun r204 =>
  cond (!r204)
 (some (.done (V.tup [V.agg [V.sl [],V.sl [],V.str [],V.int .i64 0],V.int .i64 6])))
 (some (.done (V.tup [V.agg [V.sl (((r171.take r114_0.toNat)++[V.str a1])++(r171.drop r114_0.toNat)),V.sl (((r173.take ((W .i64 (r114_0+1)).toNat))++[V.int .i64 a2])++(r173.drop ((W .i64 (r114_0+1)).toNat))),V.str a0High,V.int .i64 a0Next],V.int .i64 0])))))
 (ai aa 171 [V.sl a0Seps] fun r_5 =>
  kF 9 r_5 fun r171_1 =>
  gd (decide (0<=r114_0/\r114_0.toNat<=r171_1.length/\r171_1.length+([V.str a1]:List V).length<=16777216)) <|
  ai aa 173 [V.sl a0Kids] fun r_6 =>
  kF 3 r_6 fun r173_1 =>
  gd (decide (0<=W .i64 (r114_0+1)/\(W .i64 (r114_0+1)).toNat<=r173_1.length/\r173_1.length+([V.int .i64 a2]:List V).length<=16777216)) <|
  ai aa 204 [V.agg [V.sl (((r171_1.take r114_0.toNat)++[V.str a1])++(r171_1.drop r114_0.toNat)),V.sl (((r173_1.take ((W .i64 (r114_0+1)).toNat))++[V.int .i64 a2])++(r173_1.drop ((W .i64 (r114_0+1)).toNat))),V.str a0High,V.int .i64 a0Next]] fun r_7 =>
  kB r_7 fun r204_1 =>
  cond (!r204_1)
 (some (.done (V.tup [V.agg [V.sl [],V.sl [],V.str [],V.int .i64 0],V.int .i64 6])))
 (some (.done (V.tup [V.agg [V.sl (((r171_1.take r114_0.toNat)++[V.str a1])++(r171_1.drop r114_0.toNat)),V.sl (((r173_1.take ((W .i64 (r114_0+1)).toNat))++[V.int .i64 a2])++(r173_1.drop ((W .i64 (r114_0+1)).toNat))),V.str a0High,V.int .i64 a0Next],V.int .i64 0]))))))
theorem Re (a0Seps a0Kids:List V) (a0High:List UInt8) (a0Next:Int) (a1:List UInt8) (a2:Int):Ep 167 [V.agg [V.sl a0Seps,V.sl a0Kids,V.str a0High,V.int .i64 a0Next],V.str a1,V.int .i64 a2] (Cq a0Seps a0Kids a0High a0Next a1 a2):=ep (by kernel_rfl) (by kernel_rfl)
theorem Rc (a0Seps a0Kids:List V) (a0High:List UInt8) (a0Next:Int) (a1:List UInt8) (a2:Int):Ed 167 [V.agg [V.sl a0Seps,V.sl a0Kids,V.str a0High,V.int .i64 a0Next],V.str a1,V.int .i64 a2] (Cq a0Seps a0Kids a0High a0Next a1 a2):=ed (Re a0Seps a0Kids a0High a0Next a1 a2)
noncomputable def Cj (a0Seps a0Kids:List V) (a0High:List UInt8) (a0Next a1:Int):R :=
 ai aa 154 [V.agg [V.sl a0Seps,V.sl a0Kids,V.str a0High,V.int .i64 a0Next]] fun r =>
 kB r fun r154 =>
 cond (!r154)
 (some (.done (V.tup [V.agg [V.sl [],V.sl [],V.str [],V.int .i64 0],V.int .i64 1])))
 (cond (decide (a1 < 0))
 (some (.done (V.tup [V.agg [V.sl [],V.sl [],V.str [],V.int .i64 0],V.int .i64 1])))
 (cond (decide (a1 ≥ (a0Kids.length:Int)))
 (some (.done (V.tup [V.agg [V.sl [],V.sl [],V.str [],V.int .i64 0],V.int .i64 1])))
 (cond ((a0Kids.length:Int)==(1:Int))
 (some (.done (V.tup [V.agg [V.sl [],V.sl [],V.str [],V.int .i64 0],V.int .i64 1])))
 (ai aa 171 [V.sl a0Seps] fun r_1 =>
  kF 9 r_1 fun r171 =>
  gd (decide (0<=(if 0 < W .i64 (a1 - 1) then W .i64 (a1 - 1) else 0)/\(if 0 < W .i64 (a1 - 1) then W .i64 (a1 - 1) else 0)<=W .i64 ((if 0 < W .i64 (a1 - 1) then W .i64 (a1 - 1) else 0)+1)/\(W .i64 ((if 0 < W .i64 (a1 - 1) then W .i64 (a1 - 1) else 0)+1)).toNat<=r171.length/\r171.length<=16777216)) <|
  ai aa 173 [V.sl a0Kids] fun r_2 =>
  kF 3 r_2 fun r173 =>
  gd (decide (0<=a1/\a1<=W .i64 (a1+1)/\(W .i64 (a1+1)).toNat<=r173.length/\r173.length<=16777216)) <|
  some (.done (V.tup [V.agg [V.sl ((r171.take ((if 0 < W .i64 (a1 - 1) then W .i64 (a1 - 1) else 0).toNat))++(r171.drop ((W .i64 ((if 0 < W .i64 (a1 - 1) then W .i64 (a1 - 1) else 0)+1)).toNat))),V.sl ((r173.take a1.toNat)++(r173.drop ((W .i64 (a1+1)).toNat))),V.str a0High,V.int .i64 a0Next],V.int .i64 0]))))))
theorem QP (a0Seps a0Kids:List V) (a0High:List UInt8) (a0Next a1:Int):Ep 126 [V.agg [V.sl a0Seps,V.sl a0Kids,V.str a0High,V.int .i64 a0Next],V.int .i64 a1] (Cj a0Seps a0Kids a0High a0Next a1):=ep (by kernel_rfl) (by kernel_rfl)
theorem QO (a0Seps a0Kids:List V) (a0High:List UInt8) (a0Next a1:Int):Ed 126 [V.agg [V.sl a0Seps,V.sl a0Kids,V.str a0High,V.int .i64 a0Next],V.int .i64 a1] (Cj a0Seps a0Kids a0High a0Next a1):=ed (QP a0Seps a0Kids a0High a0Next a1)
noncomputable def Cr (a0Seps a0Kids:List V) (a0High:List UInt8) (a0Next a1:Int):R :=
 ai aa 154 [V.agg [V.sl a0Seps,V.sl a0Kids,V.str a0High,V.int .i64 a0Next]] fun r =>
 kB r fun r154 =>
 cond (!r154)
 (some (.done (V.tup [V.agg [V.sl [],V.sl [],V.str [],V.int .i64 0],V.agg [V.sl [],V.sl [],V.str [],V.int .i64 0],V.str [],V.int .i64 1])))
 (cond (decide ((a0Kids.length:Int) < 3))
 (some (.done (V.tup [V.agg [V.sl [],V.sl [],V.str [],V.int .i64 0],V.agg [V.sl [],V.sl [],V.str [],V.int .i64 0],V.str [],V.int .i64 1])))
 (ai aa 203 [V.int .i64 a1] fun r_1 =>
  kB r_1 fun r203 =>
  cond (!r203)
 (some (.done (V.tup [V.agg [V.sl [],V.sl [],V.str [],V.int .i64 0],V.agg [V.sl [],V.sl [],V.str [],V.int .i64 0],V.str [],V.int .i64 1])))
 (gd (decide (0<=W .i64 (((a0Seps.length:Int).tdiv 2)))) <|
  aH a0Seps ((W .i64 (((a0Seps.length:Int).tdiv 2))).toNat) fun v =>
  kS v fun s =>
  gd (df 1 a0Seps) <|
  gd (decide (0<=W .i64 (((a0Seps.length:Int).tdiv 2)))) <|
  gd (decide ((W .i64 (((a0Seps.length:Int).tdiv 2))).toNat<=a0Seps.length)) <|
  ai aa 171 [V.sl (a0Seps.take ((W .i64 (((a0Seps.length:Int).tdiv 2))).toNat))] fun r_2 =>
  kF 9 r_2 fun r171 =>
  gd (df 1 a0Kids) <|
  gd (decide (0<=W .i64 ((W .i64 (((a0Seps.length:Int).tdiv 2)))+1))) <|
  gd (decide ((W .i64 ((W .i64 (((a0Seps.length:Int).tdiv 2)))+1)).toNat<=a0Kids.length)) <|
  ai aa 173 [V.sl (a0Kids.take ((W .i64 ((W .i64 (((a0Seps.length:Int).tdiv 2)))+1)).toNat))] fun r_3 =>
  kF 3 r_3 fun r173 =>
  gd (df 1 a0Seps) <|
  gd (decide (0<=W .i64 ((W .i64 (((a0Seps.length:Int).tdiv 2)))+1))) <|
  gd (decide ((W .i64 ((W .i64 (((a0Seps.length:Int).tdiv 2)))+1)).toNat<=a0Seps.length)) <|
  ai aa 171 [V.sl ((a0Seps.take a0Seps.length).drop ((W .i64 ((W .i64 (((a0Seps.length:Int).tdiv 2)))+1)).toNat))] fun r_4 =>
  kF 9 r_4 fun r171_1 =>
  gd (df 1 a0Kids) <|
  gd (decide (0<=W .i64 ((W .i64 (((a0Seps.length:Int).tdiv 2)))+1))) <|
  gd (decide ((W .i64 ((W .i64 (((a0Seps.length:Int).tdiv 2)))+1)).toNat<=a0Kids.length)) <|
  ai aa 173 [V.sl ((a0Kids.take a0Kids.length).drop ((W .i64 ((W .i64 (((a0Seps.length:Int).tdiv 2)))+1)).toNat))] fun r_5 =>
  kF 3 r_5 fun r173_1 =>
  some (.done (V.tup [V.agg [V.sl r171,V.sl r173,V.str s,V.int .i64 (W .i64 (a1+1))],V.agg [V.sl r171_1,V.sl r173_1,V.str a0High,V.int .i64 a0Next],V.str s,V.int .i64 0])))))
theorem Rh (a0Seps a0Kids:List V) (a0High:List UInt8) (a0Next a1:Int):Ep 168 [V.agg [V.sl a0Seps,V.sl a0Kids,V.str a0High,V.int .i64 a0Next],V.int .i64 a1] (Cr a0Seps a0Kids a0High a0Next a1):=ep (by kernel_rfl) (by kernel_rfl)
theorem Rf (a0Seps a0Kids:List V) (a0High:List UInt8) (a0Next a1:Int):Ed 168 [V.agg [V.sl a0Seps,V.sl a0Kids,V.str a0High,V.int .i64 a0Next],V.int .i64 a1] (Cr a0Seps a0Kids a0High a0Next a1):=ed (Rh a0Seps a0Kids a0High a0Next a1)
noncomputable def Cp (a0Key a0Value:List UInt8):R :=
 some (.done (V.int .i64 (W .i64 ((W .i64 (2+(a0Key.length:Int)))+(a0Value.length:Int)))))
theorem Rb (a0Key a0Value:List UInt8):Ep 165 [V.agg [V.str a0Key,V.str a0Value]] (Cp a0Key a0Value):=ep (by kernel_rfl) (by kernel_rfl)
theorem Ra (a0Key a0Value:List UInt8):Ed 165 [V.agg [V.str a0Key,V.str a0Value]] (Cp a0Key a0Value):=ed (Rb a0Key a0Value)
def tB (x3:Int) (x11:List V) (x12 x13:Int):S:=⟨[V.junk,V.junk,V.int .i64 0,V.int .i64 x3]++(JU 7)++[V.sl x11,V.int .i64 x12,V.int .i64 x13]++(JU 9),[]⟩
noncomputable def IP (a0Pairs:List V) (a0High:List UInt8) (a0Next:Int):R :=
 some (.head 0 (tB (W .i64 (5+(a0High.length:Int))) a0Pairs (a0Pairs.length:Int) 0))
theorem Q4 (a0Pairs:List V) (a0High:List UInt8) (a0Next:Int):Ep 159 [V.agg [V.sl a0Pairs,V.str a0High,V.int .i64 a0Next]] (IP a0Pairs a0High a0Next):=ep (by kernel_rfl) (by kernel_rfl)
noncomputable def Fx (x3:Int) (x11:List V) (x12 x13:Int):R :=
 cond (decide (x13 < x12))
 (gd (decide (0<=x13)) <|
  aH x11 x13.toNat fun v =>
  f9 v fun key value =>
  ai aa 165 [V.agg [V.str key,V.str value]] fun r =>
  kI .i64 r fun r165 =>
  some (.head 0 (tB (W .i64 (x3+r165)) x11 x12 (W .i64 (x13+1)))))
 (some (.done (V.int .i64 x3)))
theorem MH (x3:Int) (x11:List V) (x12 x13:Int):Rd false 0 159 0 (tB x3 x11 x12 x13) (Fx x3 x11 x12 x13):=rd (by kernel_rfl)
noncomputable def Cg (a0Pairs:List V) (a0High:List UInt8) (a0Next:Int):R :=
 ai aa 159 [V.agg [V.sl a0Pairs,V.str a0High,V.int .i64 a0Next]] fun r =>
 kI .i64 r fun r159 =>
 some (.done (V.bool (decide (W .i64 ((W .i64 (r159 - (a0High.length:Int)))+16)<=252))))
theorem QI (a0Pairs:List V) (a0High:List UInt8) (a0Next:Int):Ep 118 [V.agg [V.sl a0Pairs,V.str a0High,V.int .i64 a0Next]] (Cg a0Pairs a0High a0Next):=ep (by kernel_rfl) (by kernel_rfl)
theorem QH (a0Pairs:List V) (a0High:List UInt8) (a0Next:Int):Ed 118 [V.agg [V.sl a0Pairs,V.str a0High,V.int .i64 a0Next]] (Cg a0Pairs a0High a0Next):=ed (QI a0Pairs a0High a0Next)
def vH (x3:List UInt8) (x8:List V) (x9 x10:Int) (m0_0:List V) (m0_1:List UInt8) (m0_2:Int):S:=⟨[V.junk,V.ptr 0 0 0,V.bool false,V.str x3]++(JU 4)++[V.sl x8,V.int .i64 x9,V.int .i64 x10]++(JU 51),[O.box 120 (V.agg [V.sl m0_0,V.str m0_1,V.int .i64 m0_2]) false]⟩
noncomputable def Iy (a0Pairs:List V) (a0High:List UInt8) (a0Next:Int):R :=
 some (.head 0 (vH [] a0Pairs (a0Pairs.length:Int) 0 a0Pairs a0High a0Next))
theorem QC (a0Pairs:List V) (a0High:List UInt8) (a0Next:Int):Ep 115 [V.agg [V.sl a0Pairs,V.str a0High,V.int .i64 a0Next]] (Iy a0Pairs a0High a0Next):=ep (by kernel_rfl) (by kernel_rfl)
noncomputable def AA (x3:List UInt8) (x8:List V) (x9 x10:Int) (m0_0:List V) (m0_1:List UInt8) (m0_2:Int):R :=
 cond (decide (x10 < x9))
 (gd (decide (0<=x10)) <|
  aH x8 x10.toNat fun v =>
  f9 v fun key value =>
  ai aa 73 [V.str key] fun r =>
  kB r fun r73 =>
  cond (!r73)
 (some (.done (V.bool false)))
 (ai aa 74 [V.str value] fun r_1 =>
  kB r_1 fun r74 =>
  cond (!r74)
 (some (.done (V.bool false)))
 (cond (Op.bytesLess key x3 || key==x3)
 (some (.done (V.bool false)))
 (some (.head 0 (vH key x8 x9 (W .i64 (x10+1)) m0_0 m0_1 m0_2))))))
 (cond (m0_1==[])
 (cond (decide (m0_2 ≥ 0))
 (cond (decide (m0_2<=1024))
 (ai aa 118 [V.agg [V.sl m0_0,V.str m0_1,V.int .i64 m0_2]] fun r_2 =>
  kB r_2 fun r118 =>
  some (.done (V.bool r118)))
 (some (.done (V.bool false))))
 (some (.done (V.bool false))))
 (ai aa 73 [V.str m0_1] fun r_3 =>
  kB r_3 fun r73_1 =>
  cond r73_1
 (cond (Op.bytesLess x3 m0_1)
 (cond (decide (m0_2 ≥ 0))
 (cond (decide (m0_2<=1024))
 (ai aa 118 [V.agg [V.sl m0_0,V.str m0_1,V.int .i64 m0_2]] fun r_4 =>
  kB r_4 fun r118_1 =>
  some (.done (V.bool r118_1)))
 (some (.done (V.bool false))))
 (some (.done (V.bool false))))
 (some (.done (V.bool false))))
 (some (.done (V.bool false)))))
theorem xp (x3:List UInt8) (x8:List V) (x9 x10:Int) (m0_0:List V) (m0_1:List UInt8) (m0_2:Int):Rd false 0 115 0 (vH x3 x8 x9 x10 m0_0 m0_1 m0_2) (AA x3 x8 x9 x10 m0_0 m0_1 m0_2):=rd (by kernel_rfl)
def vI (x3:List UInt8) (x5:Int) (x46:List V) (x47 x48:Int):S:=⟨[V.junk,V.junk,V.str [],V.str x3,V.junk,V.int .i64 x5]++(JU 40)++[V.sl x46,V.int .i64 x47,V.int .i64 x48]++(JU 23),[]⟩
noncomputable def IA (a0Pairs:List V) (a0High:List UInt8) (a0Next:Int):R :=
 ai aa 115 [V.agg [V.sl a0Pairs,V.str a0High,V.int .i64 a0Next]] fun r =>
 kB r fun r115 =>
 cond (!r115)
 (some (.done (V.str [])))
 (ai aa 159 [V.agg [V.sl a0Pairs,V.str a0High,V.int .i64 a0Next]] fun r_1 =>
  kI .i64 r_1 fun r159 =>
  ai aa 160 [V.str [UInt8.ofNat ((76:Int)).toNat],V.int .i64 r159] fun r_2 =>
  jU r_2 fun r160_0 r160_1 =>
  ai aa 161 [V.str r160_0,V.int .i64 1,V.int .i64 1,V.int .u64 (W .u64 ((a0Pairs.length:Int)))] fun r_3 =>
  jU r_3 fun r161_0 r161_1 =>
  ai aa 161 [V.str r161_0,V.int .i64 2,V.int .i64 2,V.int .u64 (W .u64 (a0Next))] fun r_4 =>
  jU r_4 fun r161_0_1 r161_1_1 =>
  ai aa 162 [V.str r161_0_1,V.int .i64 4,V.str a0High] fun r_5 =>
  iv r_5 fun r162_0 r162_1 r162_2 =>
  some (.head 0 (vI r162_0 r162_1 a0Pairs (a0Pairs.length:Int) 0)))
theorem QL (a0Pairs:List V) (a0High:List UInt8) (a0Next:Int):Ep 120 [V.agg [V.sl a0Pairs,V.str a0High,V.int .i64 a0Next]] (IA a0Pairs a0High a0Next):=ep (by kernel_rfl) (by kernel_rfl)
noncomputable def Fj (x3:List UInt8) (x5:Int) (x46:List V) (x47 x48:Int):R :=
 cond (decide (x48 < x47))
 (gd (decide (0<=x48)) <|
  aH x46 x48.toNat fun v =>
  f9 v fun key value =>
  ai aa 162 [V.str x3,V.int .i64 x5,V.str key] fun r =>
  iv r fun r162_0 r162_1 r162_2 =>
  ai aa 162 [V.str r162_0,V.int .i64 r162_1,V.str value] fun r_1 =>
  iv r_1 fun r162_0_1 r162_1_1 r162_2_1 =>
  some (.head 0 (vI r162_0_1 r162_1_1 x46 x47 (W .i64 (x48+1)))))
 (some (.done (V.str x3)))
theorem Mz (x3:List UInt8) (x5:Int) (x46:List V) (x47 x48:Int):Rd false 0 120 0 (vI x3 x5 x46 x47 x48) (Fj x3 x5 x46 x47 x48):=rd (by kernel_rfl)
def By (x0:List UInt8) (x5 x10:Int) (m1_1:List UInt8) (m1_2:Int):S:=⟨[V.str x0,V.junk,V.ptr 0 0 0,V.int .i64 0,V.bool false,V.int .u64 x5]++(JU 4)++[V.int .i64 x10,V.junk,V.ptr 1 0 0,V.bool true]++(JU 75),[O.box 120 (V.agg [V.tail 2 0,V.str [],V.int .i64 0]) false,O.box 120 (V.agg [V.nilS,V.str m1_1,V.int .i64 m1_2]) false,O.row 41 [] 0]⟩
def Hm (x0:List UInt8) (x5 x10 x56:Int) (m1_1:List UInt8) (m1_2:Int):S:=⟨[V.str x0,V.junk,V.ptr 0 0 0,V.int .i64 0,V.bool false,V.int .u64 x5]++(JU 4)++[V.int .i64 x10,V.junk,V.ptr 1 0 0,V.bool true]++(JU 42)++[V.int .u64 x56,V.int .u64 0]++(JU 31),[O.box 120 (V.agg [V.tail 2 0,V.str [],V.int .i64 0]) false,O.box 120 (V.agg [V.nilS,V.str m1_1,V.int .i64 m1_2]) false,O.row 41 [] 0]⟩
def nV (x0:List UInt8) (x5 x10:Int) (x56 x62:Int) (m1_1:List UInt8) (m1_2:Int) (m2_0 m2_1:List UInt8):S:=⟨[V.str x0,V.junk,V.ptr 0 0 0,V.int .i64 0,V.bool false,V.int .u64 x5]++(JU 4)++[V.int .i64 x10,V.junk,V.ptr 1 0 0,V.bool true,V.ptr 2 0 0]++(JU 41)++[V.int .u64 x56,V.int .u64 0,V.junk,V.junk,V.junk,V.agg [V.ptr 2 0 0,V.ptr 2 0 1],V.int .i64 x62]++(JU 26),[O.box 120 (V.agg [V.tail 3 0,V.str [],V.int .i64 0]) false,O.box 120 (V.agg [V.nilS,V.str m1_1,V.int .i64 m1_2]) false,O.box 41 (V.agg [V.str m2_0,V.str m2_1]) false,O.row 41 [] 0]⟩
def ym (x0:List UInt8) (x5 x10:Int) (x56 x57:Int) (m1_1:List UInt8) (m1_2:Int) (m3:List V):S:=⟨[V.str x0,V.junk,V.ptr 0 0 0,V.int .i64 0,V.bool false,V.int .u64 x5]++(JU 4)++[V.int .i64 x10,V.junk,V.ptr 1 0 0,V.bool true]++(JU 42)++[V.int .u64 x56,V.int .u64 x57]++(JU 31),[O.box 120 (V.agg [V.tail 2 0,V.str [],V.int .i64 0]) false,O.box 120 (V.agg [V.tail 3 0,V.str m1_1,V.int .i64 m1_2]) false,O.row 41 [] 0,O.row 41 m3 0]⟩
def nW (x0:List UInt8) (x5 x10:Int) (x56 x57 x62:Int) (m1_1:List UInt8) (m1_2:Int) (m2_0 m2_1:List UInt8) (m4:List V):S:=⟨[V.str x0,V.junk,V.ptr 0 0 0,V.int .i64 0,V.bool false,V.int .u64 x5]++(JU 4)++[V.int .i64 x10,V.junk,V.ptr 1 0 0,V.bool true,V.ptr 2 0 0]++(JU 41)++[V.int .u64 x56,V.int .u64 x57,V.junk,V.junk,V.junk,V.agg [V.ptr 2 0 0,V.ptr 2 0 1],V.int .i64 x62]++(JU 26),[O.box 120 (V.agg [V.tail 3 0,V.str [],V.int .i64 0]) false,O.box 120 (V.agg [V.tail 4 0,V.str m1_1,V.int .i64 m1_2]) false,O.box 41 (V.agg [V.str m2_0,V.str m2_1]) false,O.row 41 [] 0,O.row 41 m4 0]⟩
noncomputable def Cs (a0:List UInt8):R :=
 ai aa 214 [V.str a0,V.int .i64 1,V.int .i64 1] fun r =>
 kC r fun r214_0 r214_1 =>
 ai aa 214 [V.str a0,V.int .i64 2,V.int .i64 2] fun r_1 =>
 kC r_1 fun r214_0_1 r214_1_1 =>
 ai aa 71 [V.str a0,V.int .i64 4] fun r_2 =>
 iv r_2 fun r71_0 r71_1 r71_2 =>
 cond (r214_1 != (0:Int))
 (some (.done (V.tup [V.agg [V.sl [],V.str [],V.int .i64 0],V.int .i64 0,V.bool false])))
 (cond (r214_1_1 != (0:Int))
 (some (.done (V.tup [V.agg [V.sl [],V.str [],V.int .i64 0],V.int .i64 0,V.bool false])))
 (cond (r71_2 != (0:Int))
 (some (.done (V.tup [V.agg [V.sl [],V.str [],V.int .i64 0],V.int .i64 0,V.bool false])))
 (aH a0 0 fun c =>
  cond ((c.toNat:Int) != (76:Int))
 (some (.done (V.tup [V.agg [V.sl [],V.str [],V.int .i64 0],V.int .i64 0,V.bool false])))
 (some (.head 0 (By a0 r214_0 r71_1 r71_0 (W .i64 (r214_0_1))))))))
theorem IT (a0:List UInt8):Ep 175 [V.str a0] (Cs a0):=ep (by kernel_rfl) (by kernel_rfl)
noncomputable def XB (x0:List UInt8) (x5 x10:Int) (m1_1:List UInt8) (m1_2:Int):R :=
 some (.head 1 (Hm x0 x5 x10 x5 m1_1 m1_2))
theorem XC (x0:List UInt8) (x5 x10:Int) (m1_1:List UInt8) (m1_2:Int):Rd false 0 175 0 (By x0 x5 x10 m1_1 m1_2) (XB x0 x5 x10 m1_1 m1_2):=rd (by kernel_rfl)
noncomputable def FD (x0:List UInt8) (x5 x10 x56:Int) (m1_1:List UInt8) (m1_2:Int):R :=
 cond (decide (0 < x56))
 (some (.head 2 (nV x0 x5 x10 x56 0 m1_1 m1_2 [] [])))
 (some (.done (V.tup [V.agg [V.sl [],V.str m1_1,V.int .i64 m1_2],V.int .i64 x10,V.bool true])))
theorem MM (x0:List UInt8) (x5 x10 x56:Int) (m1_1:List UInt8) (m1_2:Int):Rd false 0 175 1 (Hm x0 x5 x10 x56 m1_1 m1_2) (FD x0 x5 x10 x56 m1_1 m1_2):=rd (by kernel_rfl)
noncomputable def MO (x0:List UInt8) (x5 x10 x56:Int) (m1_1:List UInt8) (m1_2:Int) (m2_0 m2_1:List UInt8):R :=
 ai aa 71 [V.str x0,V.int .i64 x10] fun r =>
 iv r fun r71_0 r71_1 r71_2 =>
 cond (r71_2 != (0:Int))
 (some (.done (V.tup [V.agg [V.sl [],V.str m1_1,V.int .i64 m1_2],V.int .i64 x10,V.bool false])))
 (some (.head 2 (nV x0 x5 r71_1 x56 1 m1_1 m1_2 r71_0 m2_1)))
theorem XD (x0:List UInt8) (x5 x10 x56:Int) (m1_1:List UInt8) (m1_2:Int) (m2_0 m2_1:List UInt8):Rd false 0 175 2 (nV x0 x5 x10 x56 0 m1_1 m1_2 m2_0 m2_1) (MO x0 x5 x10 x56 m1_1 m1_2 m2_0 m2_1):=rd (by kernel_rfl)
noncomputable def MP (x0:List UInt8) (x5 x10 x56:Int) (m1_1:List UInt8) (m1_2:Int) (m2_0 m2_1:List UInt8):R :=
 ai aa 71 [V.str x0,V.int .i64 x10] fun r =>
 iv r fun r71_0 r71_1 r71_2 =>
 cond (r71_2 != (0:Int))
 (some (.done (V.tup [V.agg [V.sl [],V.str m1_1,V.int .i64 m1_2],V.int .i64 x10,V.bool false])))
 (some (.head 2 (nV x0 x5 r71_1 x56 2 m1_1 m1_2 m2_0 r71_0)))
theorem XE (x0:List UInt8) (x5 x10 x56:Int) (m1_1:List UInt8) (m1_2:Int) (m2_0 m2_1:List UInt8):Rd false 0 175 2 (nV x0 x5 x10 x56 1 m1_1 m1_2 m2_0 m2_1) (MP x0 x5 x10 x56 m1_1 m1_2 m2_0 m2_1):=rd (by kernel_rfl)
noncomputable def MQ (x0:List UInt8) (x5 x10 x56:Int) (m1_1:List UInt8) (m1_2:Int) (m2_0 m2_1:List UInt8):R :=
 gd (decide (([V.agg [V.str m2_0,V.str m2_1]]:List V).length<=16777216)) <|
 some (.head 1 (ym x0 x5 x10 x56 (W .u64 (0+1)) m1_1 m1_2 [V.agg [V.str m2_0,V.str m2_1]]))
theorem XF (x0:List UInt8) (x5 x10 x56:Int) (m1_1:List UInt8) (m1_2:Int) (m2_0 m2_1:List UInt8):Rd false 0 175 2 (nV x0 x5 x10 x56 2 m1_1 m1_2 m2_0 m2_1) (MQ x0 x5 x10 x56 m1_1 m1_2 m2_0 m2_1):=rd (by kernel_rfl)
noncomputable def FE (x0:List UInt8) (x5 x10:Int) (x56 x57:Int) (m1_1:List UInt8) (m1_2:Int) (m3:List V):R :=
 cond (decide (x57 < x56))
 (some (.head 2 (nW x0 x5 x10 x56 x57 0 m1_1 m1_2 [] [] m3)))
 (some (.done (V.tup [V.agg [V.sl m3,V.str m1_1,V.int .i64 m1_2],V.int .i64 x10,V.bool true])))
theorem MN (x0:List UInt8) (x5 x10:Int) (x56 x57:Int) (m1_1:List UInt8) (m1_2:Int) (m3:List V):Rd false 0 175 1 (ym x0 x5 x10 x56 x57 m1_1 m1_2 m3) (FE x0 x5 x10 x56 x57 m1_1 m1_2 m3):=rd (by kernel_rfl)
noncomputable def MR (x0:List UInt8) (x5 x10:Int) (x56 x57:Int) (m1_1:List UInt8) (m1_2:Int) (m2_0 m2_1:List UInt8) (m4:List V):R :=
 ai aa 71 [V.str x0,V.int .i64 x10] fun r =>
 iv r fun r71_0 r71_1 r71_2 =>
 cond (r71_2 != (0:Int))
 (some (.done (V.tup [V.agg [V.sl m4,V.str m1_1,V.int .i64 m1_2],V.int .i64 x10,V.bool false])))
 (some (.head 2 (nW x0 x5 r71_1 x56 x57 1 m1_1 m1_2 r71_0 m2_1 m4)))
theorem XG (x0:List UInt8) (x5 x10:Int) (x56 x57:Int) (m1_1:List UInt8) (m1_2:Int) (m2_0 m2_1:List UInt8) (m4:List V):Rd false 0 175 2 (nW x0 x5 x10 x56 x57 0 m1_1 m1_2 m2_0 m2_1 m4) (MR x0 x5 x10 x56 x57 m1_1 m1_2 m2_0 m2_1 m4):=rd (by kernel_rfl)
noncomputable def MS (x0:List UInt8) (x5 x10:Int) (x56 x57:Int) (m1_1:List UInt8) (m1_2:Int) (m2_0 m2_1:List UInt8) (m4:List V):R :=
 ai aa 71 [V.str x0,V.int .i64 x10] fun r =>
 iv r fun r71_0 r71_1 r71_2 =>
 cond (r71_2 != (0:Int))
 (some (.done (V.tup [V.agg [V.sl m4,V.str m1_1,V.int .i64 m1_2],V.int .i64 x10,V.bool false])))
 (some (.head 2 (nW x0 x5 r71_1 x56 x57 2 m1_1 m1_2 m2_0 r71_0 m4)))
theorem XH (x0:List UInt8) (x5 x10:Int) (x56 x57:Int) (m1_1:List UInt8) (m1_2:Int) (m2_0 m2_1:List UInt8) (m4:List V):Rd false 0 175 2 (nW x0 x5 x10 x56 x57 1 m1_1 m1_2 m2_0 m2_1 m4) (MS x0 x5 x10 x56 x57 m1_1 m1_2 m2_0 m2_1 m4):=rd (by kernel_rfl)
noncomputable def MU (x0:List UInt8) (x5 x10:Int) (x56 x57:Int) (m1_1:List UInt8) (m1_2:Int) (m2_0 m2_1:List UInt8) (m4:List V):R :=
 gd (decide (m4.length+([V.agg [V.str m2_0,V.str m2_1]]:List V).length<=16777216)) <|
 some (.head 1 (ym x0 x5 x10 x56 (W .u64 (x57+1)) m1_1 m1_2 (m4++[V.agg [V.str m2_0,V.str m2_1]])))
theorem XI (x0:List UInt8) (x5 x10:Int) (x56 x57:Int) (m1_1:List UInt8) (m1_2:Int) (m2_0 m2_1:List UInt8) (m4:List V):Rd false 0 175 2 (nW x0 x5 x10 x56 x57 2 m1_1 m1_2 m2_0 m2_1 m4) (MU x0 x5 x10 x56 x57 m1_1 m1_2 m2_0 m2_1 m4):=rd (by kernel_rfl)
noncomputable def y4 (a0:List UInt8):R :=
 cond (decide ((a0.length:Int) > 252))
 (some (.done (V.tup [V.agg [V.sl [],V.str [],V.int .i64 0],V.int .i64 4])))
 (ai aa 175 [V.str a0] fun r =>
  yT r fun r175_0 r175_1 r175_2 r175_3 r175_4 =>
  cond (!r175_4)
 (some (.done (V.tup [V.agg [V.sl [],V.str [],V.int .i64 0],V.int .i64 4])))
 (ai aa 115 [V.agg [V.sl r175_0,V.str r175_1,V.int .i64 r175_2]] fun r_1 =>
  kB r_1 fun r115 =>
  cond (!r115)
 (some (.done (V.tup [V.agg [V.sl [],V.str [],V.int .i64 0],V.int .i64 4])))
 (gd (decide (0<=r175_3)) <|
  gd (decide (r175_3.toNat<=a0.length)) <|
  ai aa 176 [V.str ((a0.take a0.length).drop r175_3.toNat)] fun r_2 =>
  kS r_2 fun r176 =>
  cond (!(r176==[]))
 (some (.done (V.tup [V.agg [V.sl [],V.str [],V.int .i64 0],V.int .i64 4])))
 (some (.done (V.tup [V.agg [V.sl r175_0,V.str r175_1,V.int .i64 r175_2],V.int .i64 0]))))))
theorem QT (a0:List UInt8):Ep 129 [V.str a0] (y4 a0):=ep (by kernel_rfl) (by kernel_rfl)
theorem IG (a0:List UInt8):Ed 129 [V.str a0] (y4 a0):=ed (QT a0)
noncomputable def Ce (a0Pairs:List V) (a0High:List UInt8) (a0Next:Int) (a1:List UInt8):R :=
 ai aa 156 [V.sl a0Pairs,V.str a1,V.fn 157 []] fun r =>
 ky r fun r156_0 r156_1 =>
 some (.done (V.tup [V.int .i64 r156_0,V.bool r156_1]))
theorem QE (a0Pairs:List V) (a0High:List UInt8) (a0Next:Int) (a1:List UInt8):Ep 116 [V.agg [V.sl a0Pairs,V.str a0High,V.int .i64 a0Next],V.str a1] (Ce a0Pairs a0High a0Next a1):=ep (by kernel_rfl) (by kernel_rfl)
theorem QD (a0Pairs:List V) (a0High:List UInt8) (a0Next:Int) (a1:List UInt8):Ed 116 [V.agg [V.sl a0Pairs,V.str a0High,V.int .i64 a0Next],V.str a1] (Ce a0Pairs a0High a0Next a1):=ed (QE a0Pairs a0High a0Next a1)
noncomputable def Cf (a0:List V) (a1 a2:Int) (a3:List V):R :=
 gd (decide (0<=a1)) <|
 gd (decide (a1<=W .i64 ((a0.length:Int)+(a3.length:Int)))) <|
 gd (decide ((W .i64 ((a0.length:Int)+(a3.length:Int))).toNat<=16777216)) <|
 gd (df 2 a0) <|
 gd (decide (0<=a1)) <|
 gd (decide (a1.toNat<=a0.length)) <|
 gd (df 2 (a0.take a1.toNat)) <|
 gd (decide (0+((bl a1.toNat (V.agg [V.str [],V.str []])).length)<=(bl a1.toNat (V.agg [V.str [],V.str []])).length)) <|
 gd (df 2 a3) <|
 gd (decide (((bl a1.toNat (V.agg [V.str [],V.str []])).take 0++(a0.take a1.toNat).take (min (a0.take a1.toNat).length ((bl a1.toNat (V.agg [V.str [],V.str []])).length))++(bl a1.toNat (V.agg [V.str [],V.str []])).drop (0+min (a0.take a1.toNat).length ((bl a1.toNat (V.agg [V.str [],V.str []])).length))).length+a3.length<=16777216)) <|
 gd (df 2 a0) <|
 gd (decide (0<=a2)) <|
 gd (decide (a2.toNat<=a0.length)) <|
 gd (df 2 ((a0.take a0.length).drop a2.toNat)) <|
 gd (decide ((((bl a1.toNat (V.agg [V.str [],V.str []])).take 0++(a0.take a1.toNat).take (min (a0.take a1.toNat).length ((bl a1.toNat (V.agg [V.str [],V.str []])).length))++(bl a1.toNat (V.agg [V.str [],V.str []])).drop (0+min (a0.take a1.toNat).length ((bl a1.toNat (V.agg [V.str [],V.str []])).length)))++a3).length+((a0.take a0.length).drop a2.toNat).length<=16777216)) <|
 gd (((((bl a1.toNat (V.agg [V.str [],V.str []])).take 0++(a0.take a1.toNat).take (min (a0.take a1.toNat).length ((bl a1.toNat (V.agg [V.str [],V.str []])).length))++(bl a1.toNat (V.agg [V.str [],V.str []])).drop (0+min (a0.take a1.toNat).length ((bl a1.toNat (V.agg [V.str [],V.str []])).length)))++a3)++((a0.take a0.length).drop a2.toNat):List V).all fun x=>x.cells.all V.flat1) <|
 some (.done (V.fr 41 ((((bl a1.toNat (V.agg [V.str [],V.str []])).take 0++(a0.take a1.toNat).take (min (a0.take a1.toNat).length ((bl a1.toNat (V.agg [V.str [],V.str []])).length))++(bl a1.toNat (V.agg [V.str [],V.str []])).drop (0+min (a0.take a1.toNat).length ((bl a1.toNat (V.agg [V.str [],V.str []])).length)))++a3)++((a0.take a0.length).drop a2.toNat))))
theorem QG (a0:List V) (a1 a2:Int) (a3:List V):Ep 117 [V.sl a0,V.int .i64 a1,V.int .i64 a2,V.sl a3] (Cf a0 a1 a2 a3):=ep (by kernel_rfl) (by kernel_rfl)
theorem QF (a0:List V) (a1 a2:Int) (a3:List V):Ed 117 [V.sl a0,V.int .i64 a1,V.int .i64 a2,V.sl a3] (Cf a0 a1 a2 a3):=ed (QG a0 a1 a2 a3)
noncomputable def CK (a0Pairs:List V) (a0High:List UInt8) (a0Next:Int) (a1:List UInt8):R :=
 ai aa 115 [V.agg [V.sl a0Pairs,V.str a0High,V.int .i64 a0Next]] fun r =>
 kB r fun r115 =>
 cond (!r115)
 (some (.done (V.tup [V.str [],V.int .i64 1])))
 (ai aa 116 [V.agg [V.sl a0Pairs,V.str a0High,V.int .i64 a0Next],V.str a1] fun r_1 =>
  ky r_1 fun r116_0 r116_1 =>
  cond (!r116_1)
 (some (.done (V.tup [V.str [],V.int .i64 7])))
 (gd (decide (0<=r116_0)) <|
  aH a0Pairs r116_0.toNat fun v =>
  f9 v fun key value =>
  some (.done (V.tup [V.str value,V.int .i64 0]))))
theorem R4 (a0Pairs:List V) (a0High:List UInt8) (a0Next:Int) (a1:List UInt8):Ep 76 [V.agg [V.sl a0Pairs,V.str a0High,V.int .i64 a0Next],V.str a1] (CK a0Pairs a0High a0Next a1):=ep (by kernel_rfl) (by kernel_rfl)
theorem R3 (a0Pairs:List V) (a0High:List UInt8) (a0Next:Int) (a1:List UInt8):Ed 76 [V.agg [V.sl a0Pairs,V.str a0High,V.int .i64 a0Next],V.str a1] (CK a0Pairs a0High a0Next a1):=ed (R4 a0Pairs a0High a0Next a1)
noncomputable def CL (a0Pairs:List V) (a0High:List UInt8) (a0Next:Int) (a1 a2:List UInt8):R :=
 ai aa 115 [V.agg [V.sl a0Pairs,V.str a0High,V.int .i64 a0Next]] fun r =>
 kB r fun r115 =>
 cond (!r115)
 (some (.done (V.tup [V.agg [V.sl [],V.str [],V.int .i64 0],V.int .i64 1])))
 (ai aa 73 [V.str a1] fun r_1 =>
  kB r_1 fun r73 =>
  cond (!r73)
 (some (.done (V.tup [V.agg [V.sl [],V.str [],V.int .i64 0],V.int .i64 1])))
 (ai aa 74 [V.str a2] fun r_2 =>
  kB r_2 fun r74 =>
  cond (!r74)
 (some (.done (V.tup [V.agg [V.sl [],V.str [],V.int .i64 0],V.int .i64 1])))
 (cond (!(a0High==[]))
 (cond (!Op.bytesLess a1 a0High)
 (some (.done (V.tup [V.agg [V.sl [],V.str [],V.int .i64 0],V.int .i64 1])))
 (ai aa 116 [V.agg [V.sl a0Pairs,V.str a0High,V.int .i64 a0Next],V.str a1] fun r_3 =>
  ky r_3 fun r116_0 r116_1 =>
  cond r116_1
 (ai aa 117 [V.sl a0Pairs,V.int .i64 r116_0,V.int .i64 (W .i64 (r116_0+1)),V.sl [V.agg [V.str a1,V.str a2]]] fun r_4 =>
  kF 41 r_4 fun r117 =>
  ai aa 118 [V.agg [V.sl r117,V.str a0High,V.int .i64 a0Next]] fun r_5 =>
  kB r_5 fun r118 =>
  cond (!r118)
 (some (.done (V.tup [V.agg [V.sl [],V.str [],V.int .i64 0],V.int .i64 6])))
 (some (.done (V.tup [V.agg [V.sl r117,V.str a0High,V.int .i64 a0Next],V.int .i64 0]))))
 (ai aa 117 [V.sl a0Pairs,V.int .i64 r116_0,V.int .i64 r116_0,V.sl [V.agg [V.str a1,V.str a2]]] fun r_6 =>
  kF 41 r_6 fun r117_1 =>
  ai aa 118 [V.agg [V.sl r117_1,V.str a0High,V.int .i64 a0Next]] fun r_7 =>
  kB r_7 fun r118_1 =>
  cond (!r118_1)
 (some (.done (V.tup [V.agg [V.sl [],V.str [],V.int .i64 0],V.int .i64 6])))
 (some (.done (V.tup [V.agg [V.sl r117_1,V.str a0High,V.int .i64 a0Next],V.int .i64 0]))))))
 (ai aa 116 [V.agg [V.sl a0Pairs,V.str a0High,V.int .i64 a0Next],V.str a1] fun r_8 =>
  ky r_8 fun r116_0_1 r116_1_1 =>
  cond r116_1_1
 (ai aa 117 [V.sl a0Pairs,V.int .i64 r116_0_1,V.int .i64 (W .i64 (r116_0_1+1)),V.sl [V.agg [V.str a1,V.str a2]]] fun r_9 =>
  kF 41 r_9 fun r117_2 =>
  ai aa 118 [V.agg [V.sl r117_2,V.str a0High,V.int .i64 a0Next]] fun r_10 =>
  kB r_10 fun r118_2 =>
  cond (!r118_2)
 (some (.done (V.tup [V.agg [V.sl [],V.str [],V.int .i64 0],V.int .i64 6])))
 (some (.done (V.tup [V.agg [V.sl r117_2,V.str a0High,V.int .i64 a0Next],V.int .i64 0]))))
 (ai aa 117 [V.sl a0Pairs,V.int .i64 r116_0_1,V.int .i64 r116_0_1,V.sl [V.agg [V.str a1,V.str a2]]] fun r_11 =>
  kF 41 r_11 fun r117_3 =>
  ai aa 118 [V.agg [V.sl r117_3,V.str a0High,V.int .i64 a0Next]] fun r_12 =>
  kB r_12 fun r118_3 =>
  cond (!r118_3)
 (some (.done (V.tup [V.agg [V.sl [],V.str [],V.int .i64 0],V.int .i64 6])))
 (some (.done (V.tup [V.agg [V.sl r117_3,V.str a0High,V.int .i64 a0Next],V.int .i64 0]))))))))
theorem R6 (a0Pairs:List V) (a0High:List UInt8) (a0Next:Int) (a1 a2:List UInt8):Ep 77 [V.agg [V.sl a0Pairs,V.str a0High,V.int .i64 a0Next],V.str a1,V.str a2] (CL a0Pairs a0High a0Next a1 a2):=ep (by kernel_rfl) (by kernel_rfl)
theorem R5 (a0Pairs:List V) (a0High:List UInt8) (a0Next:Int) (a1 a2:List UInt8):Ed 77 [V.agg [V.sl a0Pairs,V.str a0High,V.int .i64 a0Next],V.str a1,V.str a2] (CL a0Pairs a0High a0Next a1 a2):=ed (R6 a0Pairs a0High a0Next a1 a2)
noncomputable def CN (a0Pairs:List V) (a0High:List UInt8) (a0Next:Int) (a1:List UInt8):R :=
 ai aa 115 [V.agg [V.sl a0Pairs,V.str a0High,V.int .i64 a0Next]] fun r =>
 kB r fun r115 =>
 cond (!r115)
 (some (.done (V.tup [V.agg [V.sl [],V.str [],V.int .i64 0],V.int .i64 1])))
 (ai aa 116 [V.agg [V.sl a0Pairs,V.str a0High,V.int .i64 a0Next],V.str a1] fun r_1 =>
  ky r_1 fun r116_0 r116_1 =>
  cond (!r116_1)
 (some (.done (V.tup [V.agg [V.sl [],V.str [],V.int .i64 0],V.int .i64 7])))
 (ai aa 117 [V.sl a0Pairs,V.int .i64 r116_0,V.int .i64 (W .i64 (r116_0+1)),V.sl []] fun r_2 =>
  kF 41 r_2 fun r117 =>
  some (.done (V.tup [V.agg [V.sl r117,V.str a0High,V.int .i64 a0Next],V.int .i64 0]))))
theorem Sb (a0Pairs:List V) (a0High:List UInt8) (a0Next:Int) (a1:List UInt8):Ep 80 [V.agg [V.sl a0Pairs,V.str a0High,V.int .i64 a0Next],V.str a1] (CN a0Pairs a0High a0Next a1):=ep (by kernel_rfl) (by kernel_rfl)
theorem Sa (a0Pairs:List V) (a0High:List UInt8) (a0Next:Int) (a1:List UInt8):Ed 80 [V.agg [V.sl a0Pairs,V.str a0High,V.int .i64 a0Next],V.str a1] (CN a0Pairs a0High a0Next a1):=ed (Sb a0Pairs a0High a0Next a1)
def pj (x1 x7:Int) (x8 x9:Int) (m0_0:List V) (m0_1:List UInt8) (m0_2:Int):S:=⟨[V.junk,V.int .i64 x1,V.ptr 0 0 0,V.junk,V.ptr 1 0 0,V.ptr 2 0 0,V.int .i64 0,V.int .i64 x7,V.int .i64 x8,V.int .i64 x9]++(JU 82),[O.box 120 (V.agg [V.sl m0_0,V.str m0_1,V.int .i64 m0_2]) false,O.box 120 (V.agg [V.tail 3 0,V.str [],V.int .i64 0]) false,O.box 120 (V.agg [V.tail 4 0,V.str [],V.int .i64 0]) false,O.row 41 [] 0,O.row 41 [] 0]⟩
noncomputable def IC (a0Pairs:List V) (a0High:List UInt8) (a0Next a1:Int):R :=
 ai aa 115 [V.agg [V.sl a0Pairs,V.str a0High,V.int .i64 a0Next]] fun r =>
 kB r fun r115 =>
 cond (!r115)
 (some (.done (V.tup [V.agg [V.sl [],V.str [],V.int .i64 0],V.agg [V.sl [],V.str [],V.int .i64 0],V.int .i64 1])))
 (cond (decide ((a0Pairs.length:Int) < 2))
 (some (.done (V.tup [V.agg [V.sl [],V.str [],V.int .i64 0],V.agg [V.sl [],V.str [],V.int .i64 0],V.int .i64 1])))
 (cond (decide (a1 < 0))
 (some (.done (V.tup [V.agg [V.sl [],V.str [],V.int .i64 0],V.agg [V.sl [],V.str [],V.int .i64 0],V.int .i64 1])))
 (cond (decide (a1 ≥ 1024))
 (some (.done (V.tup [V.agg [V.sl [],V.str [],V.int .i64 0],V.agg [V.sl [],V.str [],V.int .i64 0],V.int .i64 1])))
 (ai aa 159 [V.agg [V.sl a0Pairs,V.str a0High,V.int .i64 a0Next]] fun r_1 =>
  kI .i64 r_1 fun r159 =>
  some (.head 0 (pj a1 (W .i64 ((W .i64 ((W .i64 (r159 - 4)) - 1)) - (a0High.length:Int))) 0 0 a0Pairs a0High a0Next))))))
theorem QM (a0Pairs:List V) (a0High:List UInt8) (a0Next a1:Int):Ep 122 [V.agg [V.sl a0Pairs,V.str a0High,V.int .i64 a0Next],V.int .i64 a1] (IC a0Pairs a0High a0Next a1):=ep (by kernel_rfl) (by kernel_rfl)
noncomputable def xr (x1 x7:Int) (x8 x9:Int) (m0_0:List V) (m0_1:List UInt8) (m0_2:Int):R :=
 cond (decide (x8 < W .i64 ((m0_0.length:Int) - 1)))
 (cond (x8==(0:Int))
 (gd (decide (0<=x8)) <|
  aH m0_0 x8.toNat fun v =>
  f9 v fun key value =>
  ai aa 165 [V.agg [V.str key,V.str value]] fun r =>
  kI .i64 r fun r165 =>
  some (.head 0 (pj x1 x7 (W .i64 (x8+1)) (W .i64 (x9+r165)) m0_0 m0_1 m0_2)))
 (cond (decide (W .i64 (2 * x9) < x7))
 (gd (decide (0<=x8)) <|
  aH m0_0 x8.toNat fun v_1 =>
  f9 v_1 fun key_1 value_1 =>
  ai aa 165 [V.agg [V.str key_1,V.str value_1]] fun r_1 =>
  kI .i64 r_1 fun r165_1 =>
  some (.head 0 (pj x1 x7 (W .i64 (x8+1)) (W .i64 (x9+r165_1)) m0_0 m0_1 m0_2)))
 (ai aa 117 [V.sl m0_0,V.int .i64 x8,V.int .i64 (m0_0.length:Int),V.sl []] fun r_2 =>
  kF 41 r_2 fun r117 =>
  gd (decide (0<=x8)) <|
  aH m0_0 x8.toNat fun v_2 =>
  f9 v_2 fun key_2 value_2 =>
  ai aa 117 [V.sl m0_0,V.int .i64 0,V.int .i64 x8,V.sl []] fun r_3 =>
  kF 41 r_3 fun r117_1 =>
  some (.done (V.tup [V.agg [V.sl r117,V.str key_2,V.int .i64 (W .i64 (x1+1))],V.agg [V.sl r117_1,V.str m0_1,V.int .i64 m0_2],V.int .i64 0])))))
 (ai aa 117 [V.sl m0_0,V.int .i64 x8,V.int .i64 (m0_0.length:Int),V.sl []] fun r_4 =>
  kF 41 r_4 fun r117_2 =>
  gd (decide (0<=x8)) <|
  aH m0_0 x8.toNat fun v_3 =>
  f9 v_3 fun key_3 value_3 =>
  ai aa 117 [V.sl m0_0,V.int .i64 0,V.int .i64 x8,V.sl []] fun r_5 =>
  kF 41 r_5 fun r117_3 =>
  some (.done (V.tup [V.agg [V.sl r117_2,V.str key_3,V.int .i64 (W .i64 (x1+1))],V.agg [V.sl r117_3,V.str m0_1,V.int .i64 m0_2],V.int .i64 0])))
theorem AC (x1 x7:Int) (x8 x9:Int) (m0_0:List V) (m0_1:List UInt8) (m0_2:Int):Rd false 0 122 0 (pj x1 x7 x8 x9 m0_0 m0_1 m0_2) (xr x1 x7 x8 x9 m0_0 m0_1 m0_2):=rd (by kernel_rfl)
noncomputable def Ct (a0:Int):R :=
 gd (decide (0<=a0.tmod 8)) <|
 gd (decide ((a0.tmod 8).toNat < 8)) <|
 aH [V.int .u8 1,V.int .u8 2,V.int .u8 4,V.int .u8 8,V.int .u8 16,V.int .u8 32,V.int .u8 64,V.int .u8 128] ((a0.tmod 8).toNat) fun v =>
 kI .u8 v fun n =>
 some (.done (V.int .u8 n))
theorem Rp (a0:Int):Ep 193 [V.int .i64 a0] (Ct a0):=ep (by kernel_rfl) (by kernel_rfl)
theorem Ro (a0:Int):Ed 193 [V.int .i64 a0] (Ct a0):=ed (Rp a0)
def yl (x0:List V) (x1 x6:Int) (m1:List V):S:=⟨[V.sl x0,V.int .i64 x1,V.junk,V.junk,V.own 0,V.own 1,V.int .i64 x6]++(JU 38),[O.row 38 [] 0,O.row 38 m1 0]⟩
noncomputable def QY (a0:List V) (a1:Int):R :=
 some (.head 0 (yl a0 a1 0 []))
theorem QZ (a0:List V) (a1:Int):Ep 14 [V.sl a0,V.int .i64 a1] (QY a0 a1):=ep (by kernel_rfl) (by kernel_rfl)
noncomputable def Fu (x0:List V) (x1 x6:Int) (m1:List V):R :=
 cond (decide (x6 < (x0.length:Int)))
 (cond (decide (x6 < x1))
 (gd (decide (0<=x6)) <|
  aH x0 x6.toNat fun v =>
  lr v fun kind0 key value n =>
  gd (decide (0<=(if 20 < (key.length:Int) then 20 else (key.length:Int)))) <|
  gd (decide ((if 20 < (key.length:Int) then 20 else (key.length:Int)).toNat<=key.length)) <|
  gd (decide (0<=(if 40 < (value.length:Int) then 40 else (value.length:Int)))) <|
  gd (decide ((if 40 < (value.length:Int) then 40 else (value.length:Int)).toNat<=value.length)) <|
  gd (decide (m1.length+([V.agg [V.int .i64 kind0,V.str (key.take ((if 20 < (key.length:Int) then 20 else (key.length:Int)).toNat)),V.str (value.take ((if 40 < (value.length:Int) then 40 else (value.length:Int)).toNat)),V.int .i64 n]]:List V).length<=16777216)) <|
  some (.head 0 (yl x0 x1 (W .i64 (x6+1)) (m1++[V.agg [V.int .i64 kind0,V.str (key.take ((if 20 < (key.length:Int) then 20 else (key.length:Int)).toNat)),V.str (value.take ((if 40 < (value.length:Int) then 40 else (value.length:Int)).toNat)),V.int .i64 n]]))))
 (gd ((m1:List V).all fun x=>x.cells.all V.flat1) <|
  some (.done (V.fr 38 m1))))
 (gd ((m1:List V).all fun x=>x.cells.all V.flat1) <|
  some (.done (V.fr 38 m1)))
theorem MG (x0:List V) (x1 x6:Int) (m1:List V):Rd false 0 14 0 (yl x0 x1 x6 m1) (Fu x0 x1 x6 m1):=rd (by kernel_rfl)
noncomputable def I8 (m1_1:Int) (m2:List (V × V)) (m3:List V):R :=
 aI aa al ox 131 [V.ptr 0 0 0,V.int .i64 0] (bm m1_1 m3) fun L =>
 cond (L.2.1==(0:Int))
 (aQ (gZ m2 (V.int .i64 L.1) (V.str [])) fun es =>
  some (.doneM (V.tup [V.int .i64 L.1,V.int .i64 L.2.1]) (sm L.2.2.1 es L.2.2.2)))
 (some (.doneM (V.tup [V.int .i64 L.1,V.int .i64 L.2.1]) (sm L.2.2.1 m2 L.2.2.2)))
theorem Sd (m1_1:Int) (m2:List (V × V)) (m3:List V):Ec 84 4 al [V.ptr 0 0 0] (sm m1_1 m2 m3) (I8 m1_1 m2 m3):=ec (by kernel_rfl) (by kernel_rfl)
noncomputable def I9 (m1_1:Int) (m2:List (V × V)) (m3:List V):R :=
 aI aa al ox 131 [V.ptr 0 0 0,V.int .i64 0] [O.box 192 (V.agg [V.tail 1 0,V.int .i64 m1_1]) false,O.row 5 m3 0] fun L =>
 cond (L.2.1==(0:Int))
 (aQ (gZ m2 (V.int .i64 L.1) (V.str [])) fun es =>
  some (.doneM (V.tup [V.int .i64 L.1,V.int .i64 L.2.1]) (sm L.2.2.1 es L.2.2.2)))
 (some (.doneM (V.tup [V.int .i64 L.1,V.int .i64 L.2.1]) (sm L.2.2.1 m2 L.2.2.2)))
theorem Se (m1_1:Int) (m2:List (V × V)) (m3:List V):Ec 84 4 al [V.ptr 0 0 0] [O.box 140 (V.agg [V.ptr 1 0 0,V.mp 2]) false,O.box 192 (V.agg [V.tail 3 0,V.int .i64 m1_1]) false,O.map m2,O.row 5 m3 0] (I9 m1_1 m2 m3):=ec (by kernel_rfl) (by kernel_rfl)
noncomputable def I5 (x1:Int) (x2_0:List V) (x2_1:List UInt8) (x2_2 m0_1 m2_1:Int) (m3:List (V × V)) (m4:List V):R :=
 ai aa 120 [V.agg [V.sl x2_0,V.str x2_1,V.int .i64 x2_2]] fun r =>
 kS r fun r120 =>
 aI aa al p9 119 [V.ptr 0 0 0,V.int .i64 x1,V.str r120] (sm m2_1 m3 m4) fun L =>
 some (.doneM (V.tup []) (tm m0_1 L.2.1 L.2.2.1 L.2.2.2++[O.row 41 [] 0,O.box 120 (V.agg [V.sl x2_0,V.str x2_1,V.int .i64 x2_2]) false]))
theorem R7 (x1:Int) (x2_0:List V) (x2_1:List UInt8) (x2_2 m0_1 m2_1:Int) (m3:List (V × V)) (m4:List V):Ec 78 5 al [V.ptr 0 0 0,V.int .i64 x1,V.ifc 120 (V.agg [V.sl x2_0,V.str x2_1,V.int .i64 x2_2])] (tm m0_1 m2_1 m3 m4) (I5 x1 x2_0 x2_1 x2_2 m0_1 m2_1 m3 m4):=ec (by kernel_rfl) (by kernel_rfl)
noncomputable def tX (x1 x2:List UInt8) (m0_1 m2_1:Int) (m3:List (V × V)) (m4:List V):R :=
 ai aa 73 [V.str x1] fun r =>
 kB r fun r73 =>
 cond (!r73)
 (some (.doneM (V.tup [V.bool false,V.int .i64 1]) (tm m0_1 m2_1 m3 m4)))
 (ai aa 74 [V.str x2] fun r_1 =>
  kB r_1 fun r74 =>
  cond (!r74)
 (some (.doneM (V.tup [V.bool false,V.int .i64 1]) (tm m0_1 m2_1 m3 m4)))
 (cN aa al mT 75 [V.ptr 0 0 0,V.str x1] (tm m0_1 m2_1 m3 m4) fun L =>
  bD (tm m0_1 m2_1 m3 m4) <|
  ai aa 76 [V.agg [V.sl L.2.1,V.str L.2.2.1,V.int .i64 L.2.2.2.1],V.str x1] fun r_2 =>
  jU r_2 fun r76_0 r76_1 =>
  ai aa 77 [V.agg [V.sl L.2.1,V.str L.2.2.1,V.int .i64 L.2.2.2.1],V.str x1,V.str x2] fun r_3 =>
  n6 r_3 fun r77_0 r77_1 r77_2 r77_3 =>
  cond (r77_3==(0:Int))
 (aI aa al dV 78 [V.ptr 0 0 0,V.int .i64 L.2.2.2.2,V.ifc 120 (V.agg [V.sl r77_0,V.str r77_1,V.int .i64 r77_2])] (tm m0_1 m2_1 m3 m4) fun L_1 =>
  some (.doneM (V.tup [V.bool (r76_1 != (0:Int)),V.int .i64 0]) (tm L_1.1 L_1.2.1 L_1.2.2.1 L_1.2.2.2++[O.row 41 [] 0,O.box 120 (V.agg [V.sl L.2.1,V.str L.2.2.1,V.int .i64 L.2.2.2.1]) false,O.row 41 [] 0,O.box 120 (V.agg [V.sl r77_0,V.str r77_1,V.int .i64 r77_2]) false])))
 (cN aa al oz 44 [V.ptr 0 0 0] (sm m2_1 m3 m4) fun L_2 =>
  bD (tm m0_1 m2_1 m3 m4++[O.row 41 [] 0,O.box 120 (V.agg [V.sl L.2.1,V.str L.2.2.1,V.int .i64 L.2.2.2.1]) false,O.row 41 [] 0,O.box 120 (V.agg [V.sl r77_0,V.str r77_1,V.int .i64 r77_2]) false]) <|
  cond (decide (L_2 < W .i64 ((W .i64 ((L.1.length:Int)+1))+1)))
 (some (.doneM (V.tup [V.bool false,V.int .i64 6]) (tm m0_1 m2_1 m3 m4++[O.row 41 [] 0,O.box 120 (V.agg [V.sl L.2.1,V.str L.2.2.1,V.int .i64 L.2.2.2.1]) false,O.row 41 [] 0,O.box 120 (V.agg [V.sl r77_0,V.str r77_1,V.int .i64 r77_2]) false])))
 (aI aa al oC 79 [V.ptr 0 0 0,V.sl L.1,V.agg [V.sl L.2.1,V.str L.2.2.1,V.int .i64 L.2.2.2.1],V.int .i64 L.2.2.2.2,V.agg [V.str x1,V.str x2]] (tm m0_1 m2_1 m3 m4) fun L_3 =>
  some (.doneM (V.tup [V.bool (r76_1 != (0:Int)),V.int .i64 0]) (tm L_3.1 L_3.2.1 L_3.2.2.1 L_3.2.2.2++[O.row 41 [] 0,O.box 120 (V.agg [V.sl L.2.1,V.str L.2.2.1,V.int .i64 L.2.2.2.1]) false,O.row 41 [] 0,O.box 120 (V.agg [V.sl r77_0,V.str r77_1,V.int .i64 r77_2]) false]))))))
theorem RE (x1 x2:List UInt8) (m0_1 m2_1:Int) (m3:List (V × V)) (m4:List V):Ec 32 5 al [V.ptr 0 0 0,V.str x1,V.str x2] (tm m0_1 m2_1 m3 m4) (tX x1 x2 m0_1 m2_1 m3 m4):=ec (by kernel_rfl) (by kernel_rfl)
noncomputable def rp (x1:List UInt8) (m0_1 m2_1:Int) (m3:List (V × V)) (m4:List V):R :=
 ai aa 73 [V.str x1] fun r =>
 kB r fun r73 =>
 cond (!r73)
 (some (.doneM (V.int .i64 1) (tm m0_1 m2_1 m3 m4)))
 (cN aa al mT 75 [V.ptr 0 0 0,V.str x1] (tm m0_1 m2_1 m3 m4) fun L =>
  bD (tm m0_1 m2_1 m3 m4) <|
  ai aa 80 [V.agg [V.sl L.2.1,V.str L.2.2.1,V.int .i64 L.2.2.2.1],V.str x1] fun r_1 =>
  n6 r_1 fun r80_0 r80_1 r80_2 r80_3 =>
  cond (r80_3 != (0:Int))
 (some (.doneM (V.int .i64 r80_3) (tm m0_1 m2_1 m3 m4++[O.row 41 [] 0,O.box 120 (V.agg [V.sl L.2.1,V.str L.2.2.1,V.int .i64 L.2.2.2.1]) false,O.row 41 [] 0,O.box 120 (V.agg [V.sl r80_0,V.str r80_1,V.int .i64 r80_2]) false])))
 (cond (decide ((r80_0.length:Int) > 0))
 (aI aa al dV 78 [V.ptr 0 0 0,V.int .i64 L.2.2.2.2,V.ifc 120 (V.agg [V.sl r80_0,V.str r80_1,V.int .i64 r80_2])] (tm m0_1 m2_1 m3 m4) fun L_1 =>
  some (.doneM (V.int .i64 0) (tm L_1.1 L_1.2.1 L_1.2.2.1 L_1.2.2.2++[O.row 41 [] 0,O.box 120 (V.agg [V.sl L.2.1,V.str L.2.2.1,V.int .i64 L.2.2.2.1]) false,O.row 41 [] 0,O.box 120 (V.agg [V.sl r80_0,V.str r80_1,V.int .i64 r80_2]) false])))
 (cond ((L.1.length:Int)==(0:Int))
 (aI aa al dV 78 [V.ptr 0 0 0,V.int .i64 L.2.2.2.2,V.ifc 120 (V.agg [V.sl r80_0,V.str r80_1,V.int .i64 r80_2])] (tm m0_1 m2_1 m3 m4) fun L_2 =>
  some (.doneM (V.int .i64 0) (tm L_2.1 L_2.2.1 L_2.2.2.1 L_2.2.2.2++[O.row 41 [] 0,O.box 120 (V.agg [V.sl L.2.1,V.str L.2.2.1,V.int .i64 L.2.2.2.1]) false,O.row 41 [] 0,O.box 120 (V.agg [V.sl r80_0,V.str r80_1,V.int .i64 r80_2]) false])))
 (aI aa al qd 81 [V.ptr 0 0 0,V.sl L.1,V.int .i64 L.2.2.2.2] (tm m0_1 m2_1 m3 m4) fun L_3 =>
  some (.doneM (V.int .i64 0) (tm L_3.1 L_3.2.1 L_3.2.2.1 L_3.2.2.2++[O.row 41 [] 0,O.box 120 (V.agg [V.sl L.2.1,V.str L.2.2.1,V.int .i64 L.2.2.2.1]) false,O.row 41 [] 0,O.box 120 (V.agg [V.sl r80_0,V.str r80_1,V.int .i64 r80_2]) false]))))))
theorem RF (x1:List UInt8) (m0_1 m2_1:Int) (m3:List (V × V)) (m4:List V):Ec 33 5 al [V.ptr 0 0 0,V.str x1] (tm m0_1 m2_1 m3 m4) (rp x1 m0_1 m2_1 m3 m4):=ec (by kernel_rfl) (by kernel_rfl)
noncomputable def CC (x1:List UInt8) (m0_1 m2_1:Int) (m3:List (V × V)) (m4:List V):R :=
 ai aa 73 [V.str x1] fun r =>
 kB r fun r73 =>
 cond (!r73)
 (some (.doneM (V.tup [V.str [],V.int .i64 1]) (tm m0_1 m2_1 m3 m4)))
 (cN aa al mT 75 [V.ptr 0 0 0,V.str x1] (tm m0_1 m2_1 m3 m4) fun L =>
  bD (tm m0_1 m2_1 m3 m4) <|
  ai aa 76 [V.agg [V.sl L.2.1,V.str L.2.2.1,V.int .i64 L.2.2.2.1],V.str x1] fun r_1 =>
  jU r_1 fun r76_0 r76_1 =>
  some (.doneM (V.tup [V.str r76_0,V.int .i64 r76_1]) (tm m0_1 m2_1 m3 m4++[O.row 41 [] 0,O.box 120 (V.agg [V.sl L.2.1,V.str L.2.2.1,V.int .i64 L.2.2.2.1]) false])))
theorem IX (x1:List UInt8) (m0_1 m2_1:Int) (m3:List (V × V)) (m4:List V):Ec 39 5 al [V.ptr 0 0 0,V.str x1] (tm m0_1 m2_1 m3 m4) (CC x1 m0_1 m2_1 m3 m4):=ec (by kernel_rfl) (by kernel_rfl)
def qU (x5:Bool) (x25 x26:Int) (m0_1 m2_1:Int) (m3:List (V × V)) (m4 m5:List V):S:=⟨[V.junk,V.junk,V.int .i64 0,V.junk,V.junk,V.bool x5]++(JU 18)++[V.tail 5 0,V.int .i64 x25,V.int .i64 x26]++(JU 11),(tm m0_1 m2_1 m3 m4++[O.row 3 m5 0])⟩
noncomputable def CE (m0_1 m2_1:Int) (m3:List (V × V)) (m4:List V):R :=
 aI aa ⟨true,false,true,[3,9]⟩ mU 85 [V.ptr 0 0 0,V.ptr 1 0 0,V.int .i64 m0_1,V.str [],V.str []] (lm m0_1 [] [] [] m2_1 m3 m4) fun L =>
 some (.head 0 (qU L.2.1 (L.2.2.2.2.2.2.2.1.length:Int) 0 L.2.2.1 L.2.2.2.2.1 L.2.2.2.2.2.1 L.2.2.2.2.2.2.1 L.2.2.2.2.2.2.2.1))
theorem IY (m0_1 m2_1:Int) (m3:List (V × V)) (m4:List V):Ec 40 5 al [V.ptr 0 0 0] (tm m0_1 m2_1 m3 m4) (CE m0_1 m2_1 m3 m4):=ec (by kernel_rfl) (by kernel_rfl)
noncomputable def AK (x5:Bool) (x25 x26:Int) (m0_1 m2_1:Int) (m3:List (V × V)) (m4 m5:List V):R :=
 cond (decide (x26 < x25))
 (gd (decide (0<=x26)) <|
  gd (decide (x26.toNat < m5.length)) <|
  aH m5 (0+x26.toNat) fun v =>
  kI .i64 v fun n =>
  cond x5
 (some (.head 0 (qU (n==(0:Int)) x25 (W .i64 (x26+1)) m0_1 m2_1 m3 m4 m5)))
 (some (.head 0 (qU false x25 (W .i64 (x26+1)) m0_1 m2_1 m3 m4 m5))))
 (cond (!x5)
 (some (.doneM (V.int .i64 4) (tm m0_1 m2_1 m3 m4++[O.row 3 m5 0])))
 (some (.doneM (V.int .i64 0) (tm m0_1 m2_1 m3 m4++[O.row 3 m5 0]))))
theorem FI (x5:Bool) (x25 x26:Int) (m0_1 m2_1:Int) (m3:List (V × V)) (m4 m5:List V):Rd true 5 40 0 (qU x5 x25 x26 m0_1 m2_1 m3 m4 m5) (AK x5 x25 x26 m0_1 m2_1 m3 m4 m5):=rd (by kernel_rfl)
noncomputable def IZ (m0_1 m2_1:Int) (m3:List (V × V)) (m4:List V):R :=
 cN aa al oD 87 [V.ptr 0 0 0] (tm m0_1 m2_1 m3 m4) fun L =>
 bD (tm m0_1 m2_1 m3 m4++[O.row 3 [] 0]) <|
 aI aa ⟨true,false,false,[]⟩ se 86 [V.sl L] [] fun L_1 =>
 gd (decide (L_1.length<=16777216)) <|
 aQ (pP L_1) fun xs =>
 some (.doneM (V.tail 6 0) (tm m0_1 m2_1 m3 m4++[O.row 3 [] 0,O.row 3 ((srt xs).map iV) 0]))
theorem RH (m0_1 m2_1:Int) (m3:List (V × V)) (m4:List V):Ec 42 5 al [V.ptr 0 0 0] (tm m0_1 m2_1 m3 m4) (IZ m0_1 m2_1 m3 m4):=ec (by kernel_rfl) (by kernel_rfl)
def vQ (x1:List UInt8) (x2:Int) (x15:List V) (x16 x17:Int) (m0_1 m2_1:Int) (m3:List (V × V)) (m4 m6:List V):S:=⟨[V.ptr 0 0 0,V.str x1,V.int .i64 x2,V.junk,V.junk,V.junk,V.own 5,V.own 6]++(JU 7)++[V.sl x15,V.int .i64 x16,V.int .i64 x17]++(JU 34),(tm m0_1 m2_1 m3 m4++[O.row 41 [] 0,O.row 41 m6 0])⟩
def qT (x1:List UInt8) (x2:Int) (x15:List V) (x16 x17:Int) (x29:List V) (x30 x31:Int) (m0_1 m2_1:Int) (m3:List (V × V)) (m4 m6:List V):S:=⟨[V.ptr 0 0 0,V.str x1,V.int .i64 x2,V.junk,V.junk,V.junk,V.own 5,V.own 6]++(JU 7)++[V.sl x15,V.int .i64 x16,V.int .i64 x17]++(JU 11)++[V.sl x29,V.int .i64 x30,V.int .i64 x31]++(JU 20),(tm m0_1 m2_1 m3 m4++[O.row 41 [] 0,O.row 41 m6 0])⟩
def Hn (x1:List UInt8) (x2:Int) (x15:List V) (x16 x17:Int) (m0_1 m2_1:Int) (m3:List (V × V)) (m4 m6:List V):S:=⟨[V.ptr 0 0 0,V.str x1,V.int .i64 x2,V.junk,V.junk,V.junk,V.own 5,V.own 6]++(JU 7)++[V.sl x15,V.int .i64 x16,V.int .i64 x17]++(JU 11)++[V.nilS,V.int .i64 0,V.int .i64 0]++(JU 20),(tm m0_1 m2_1 m3 m4++[O.row 41 [] 0,O.row 41 m6 0])⟩
noncomputable def IW (x1:List UInt8) (x2 m0_1 m2_1:Int) (m3:List (V × V)) (m4:List V):R :=
 cN aa al lO 46 [V.ptr 0 0 0] (tm m0_1 m2_1 m3 m4) fun L =>
 bD (tm m0_1 m2_1 m3 m4++[O.row 41 [] 0,O.row 41 [] 0]) <|
 some (.head 0 (vQ x1 x2 L (L.length:Int) 0 m0_1 m2_1 m3 m4 []))
theorem RG (x1:List UInt8) (x2 m0_1 m2_1:Int) (m3:List (V × V)) (m4:List V):Ec 34 5 al [V.ptr 0 0 0,V.str x1,V.int .i64 x2] (tm m0_1 m2_1 m3 m4) (IW x1 x2 m0_1 m2_1 m3 m4):=ec (by kernel_rfl) (by kernel_rfl)
noncomputable def FH (x1:List UInt8) (x2:Int) (x15:List V) (x16 x17:Int) (m0_1 m2_1:Int) (m3:List (V × V)) (m4 m6:List V):R :=
 cond (decide (x17 < x16))
 (gd (decide (0<=x17)) <|
  aH x15 x17.toNat fun v =>
  kI .i64 v fun n =>
  fE aa al (eU (tm m0_1 m2_1 m3 m4)) (eV (tm m0_1 m2_1 m3 m4)) (fh (tm m0_1 m2_1 m3 m4)) 82 [V.ptr 0 0 0,V.int .i64 n] (tm m0_1 m2_1 m3 m4)
 (fun L =>
  bD (tm m0_1 m2_1 m3 m4++[O.row 41 [] 0,O.row 41 m6 0]) <|
  some (.head 1 (qT x1 x2 x15 x16 x17 L.1 (L.1.length:Int) 0 m0_1 m2_1 m3 m4 m6)))
 (fun L_1 =>
  bD (tm m0_1 m2_1 m3 m4++[O.row 41 [] 0,O.row 41 m6 0]) <|
  some (.head 1 (Hn x1 x2 x15 x16 x17 m0_1 m2_1 m3 m4 m6)))
 (fun L_2 =>
  bD (tm m0_1 m2_1 m3 m4++[O.row 41 [] 0,O.row 41 m6 0]) <|
  some (.head 1 (Hn x1 x2 x15 x16 x17 m0_1 m2_1 m3 m4 m6))))
 (some (.doneM (V.own 6) (tm m0_1 m2_1 m3 m4++[O.row 41 [] 0,O.row 41 m6 0])))
theorem MW (x1:List UInt8) (x2:Int) (x15:List V) (x16 x17:Int) (m0_1 m2_1:Int) (m3:List (V × V)) (m4 m6:List V):Rd true 5 34 0 (vQ x1 x2 x15 x16 x17 m0_1 m2_1 m3 m4 m6) (FH x1 x2 x15 x16 x17 m0_1 m2_1 m3 m4 m6):=rd (by kernel_rfl)
noncomputable def AJ (x1:List UInt8) (x2:Int) (x15:List V) (x16 x17:Int) (x29:List V) (x30 x31:Int) (m0_1 m2_1:Int) (m3:List (V × V)) (m4 m6:List V):R :=
 cond (decide (x31 < x30))
 (gd (decide (0<=x31)) <|
  aH x29 x31.toNat fun v =>
  f9 v fun key value =>
  cond (!Op.bytesLess key x1)
 (cond (decide ((m6.length:Int) < x2))
 (gd (decide (m6.length+([V.agg [V.str key,V.str value]]:List V).length<=16777216)) <|
  some (.head 1 (qT x1 x2 x15 x16 x17 x29 x30 (W .i64 (x31+1)) m0_1 m2_1 m3 m4 (m6++[V.agg [V.str key,V.str value]]))))
 (some (.head 1 (qT x1 x2 x15 x16 x17 x29 x30 (W .i64 (x31+1)) m0_1 m2_1 m3 m4 m6))))
 (some (.head 1 (qT x1 x2 x15 x16 x17 x29 x30 (W .i64 (x31+1)) m0_1 m2_1 m3 m4 m6))))
 (some (.head 0 (vQ x1 x2 x15 x16 (W .i64 (x17+1)) m0_1 m2_1 m3 m4 m6)))
theorem MX (x1:List UInt8) (x2:Int) (x15:List V) (x16 x17:Int) (x29:List V) (x30 x31:Int) (m0_1 m2_1:Int) (m3:List (V × V)) (m4 m6:List V):Rd true 5 34 1 (qT x1 x2 x15 x16 x17 x29 x30 x31 m0_1 m2_1 m3 m4 m6) (AJ x1 x2 x15 x16 x17 x29 x30 x31 m0_1 m2_1 m3 m4 m6):=rd (by kernel_rfl)
def yn (x3 x4:Int) (m0_1 m2_1:Int) (m3:List (V × V)) (m4:List V):S:=⟨[V.ptr 0 0 0,V.junk,V.int .i64 0,V.int .i64 x3,V.int .i64 x4]++(JU 22),(tm m0_1 m2_1 m3 m4)⟩
noncomputable def RI (m0_1 m2_1:Int) (m3:List (V × V)) (m4:List V):R :=
 some (.head 0 (yn 0 m0_1 m0_1 m2_1 m3 m4))
theorem RJ (m0_1 m2_1:Int) (m3:List (V × V)) (m4:List V):Ec 43 5 al [V.ptr 0 0 0] (tm m0_1 m2_1 m3 m4) (RI m0_1 m2_1 m3 m4):=ec (by kernel_rfl) (by kernel_rfl)
noncomputable def FJ (x3 x4:Int) (m0_1 m2_1:Int) (m3:List (V × V)) (m4:List V):R :=
 fE aa al (eU (tm m0_1 m2_1 m3 m4)) (eV (tm m0_1 m2_1 m3 m4)) (fh (tm m0_1 m2_1 m3 m4)) 82 [V.ptr 0 0 0,V.int .i64 x4] (tm m0_1 m2_1 m3 m4)
 (fun L =>
  bD (tm m0_1 m2_1 m3 m4) <|
  some (.doneM (V.int .i64 x3) (tm m0_1 m2_1 m3 m4)))
 (fun L_1 =>
  bD (tm m0_1 m2_1 m3 m4) <|
  aH L_1.2.1 0 fun v =>
  kI .i64 v fun n =>
  some (.head 0 (yn (W .i64 (x3+1)) n m0_1 m2_1 m3 m4)))
 (fun L_2 =>
  bD (tm m0_1 m2_1 m3 m4) <|
  some (.doneM (V.int .i64 x3) (tm m0_1 m2_1 m3 m4)))
theorem MY (x3 x4:Int) (m0_1 m2_1:Int) (m3:List (V × V)) (m4:List V):Rd true 5 43 0 (yn x3 x4 m0_1 m2_1 m3 m4) (FJ x3 x4 m0_1 m2_1 m3 m4):=rd (by kernel_rfl)
noncomputable def I0 (m1_1:Int) (m2:List (V × V)) (m3:List V):R :=
 cN aa al qe 89 [V.ptr 0 0 0] (bm m1_1 m3) fun L =>
 bD (sm m1_1 m2 m3) <|
 some (.doneM (V.int .i64 L) (sm m1_1 m2 m3))
theorem RL (m1_1:Int) (m2:List (V × V)) (m3:List V):Ec 44 4 al [V.ptr 0 0 0] (sm m1_1 m2 m3) (I0 m1_1 m2 m3):=ec (by kernel_rfl) (by kernel_rfl)
noncomputable def I2 (m0_1 m2_1:Int) (m3:List (V × V)) (m4:List V):R :=
 cN aa al oD 87 [V.ptr 0 0 0] (tm m0_1 m2_1 m3 m4) fun L =>
 bD (tm m0_1 m2_1 m3 m4++[O.row 3 [] 0]) <|
 gd (decide (0<=W .i64 ((L.length:Int) - 1))) <|
 aH L ((W .i64 ((L.length:Int) - 1)).toNat) fun v =>
 kL v fun l =>
 some (.doneM (V.sl l) (tm m0_1 m2_1 m3 m4++[O.row 3 [] 0]))
theorem RO (m0_1 m2_1:Int) (m3:List (V × V)) (m4:List V):Ec 46 5 al [V.ptr 0 0 0] (tm m0_1 m2_1 m3 m4) (I2 m0_1 m2_1 m3 m4):=ec (by kernel_rfl) (by kernel_rfl)
def yj (x13:List V) (m0_1:Int) (m1:List V):S:=⟨[V.junk,V.junk,V.ptr 2 0 0,V.junk,V.ptr 3 0 0,V.ptr 4 0 0]++(JU 7)++[V.rest [3] x13]++(JU 9),(bm m0_1 m1++[O.box 135 (V.ptr 0 0 0) false,O.box 3 (V.int .i64 0) false,O.box 27 (V.int .i64 0) false])⟩
noncomputable def IH (x1 m0_1:Int) (m1:List V):R :=
 cond (decide (x1 ≥ 0))
 (cond (!(decide (x1 < m0_1)))
 (some (.doneM (V.tup [V.int .i64 0,V.int .i64 1]) (bm m0_1 m1++[O.box 135 (V.ptr 0 0 0) false,O.box 3 (V.int .i64 0) false,O.box 27 (V.int .i64 1) false])))
 (aQ (uX [V.ref (V.ref (V.agg [V.unk,V.int .i64 m0_1]) 0) 0,V.ref (V.int .i64 x1) 0]) fun rs =>
  some (.head 0 (yj (rs.map V.tup) m0_1 m1))))
 (some (.doneM (V.tup [V.int .i64 0,V.int .i64 1]) (bm m0_1 m1++[O.box 135 (V.ptr 0 0 0) false,O.box 3 (V.int .i64 0) false,O.box 27 (V.int .i64 1) false])))
theorem QU (x1 m0_1:Int) (m1:List V):Ec 131 2 al [V.ptr 0 0 0,V.int .i64 x1] (bm m0_1 m1) (IH x1 m0_1 m1):=ec (by kernel_rfl) (by kernel_rfl)
noncomputable def Fq (x13:List V) (m0_1:Int) (m1:List V):R :=
 jz x13
 (some (.doneM (V.tup [V.int .i64 0,V.int .i64 6]) (bm m0_1 m1++[O.box 135 (V.ptr 0 0 0) false,O.box 3 (V.int .i64 0) false,O.box 27 (V.int .i64 6) false]))) fun x0 l =>
  kT x0 fun vs=>bz vs fun c vs=>kI .i64 c fun n =>
  dD vs<|cN aa al lL 137 [V.ptr 0 0 0,V.int .i64 n] (bm m0_1 m1) fun L =>
  bD (bm m0_1 m1++[O.box 135 (V.ptr 0 0 0) false,O.box 3 (V.int .i64 0) false,O.box 27 (V.int .i64 0) false]) <|
  cond (!L)
 (aI aa al rZ 180 [V.ptr 0 0 0,V.int .i64 n] (bm m0_1 m1) fun L_1 =>
  some (.doneM (V.tup [V.int .i64 n,V.int .i64 L_1.1]) (bm L_1.2.1 L_1.2.2++[O.box 135 (V.ptr 0 0 0) false,O.box 3 (V.int .i64 n) false,O.box 27 (V.int .i64 L_1.1) false])))
 (some (.head 0 (yj l m0_1 m1)))
theorem MD (x13:List V) (m0_1:Int) (m1:List V):Rd true 2 131 0 (yj x13 m0_1 m1) (Fq x13 m0_1 m1):=rd (by kernel_rfl)
def OF (x13:List V) (m0_1:Int) (m1:List V):S:=⟨[V.junk,V.junk,V.ptr 2 0 0,V.junk,V.ptr 3 0 0,V.ptr 4 0 0]++(JU 7)++[V.rest [3] x13]++(JU 9),(bm m0_1 m1++[O.box 135 (V.ptr 0 0 0) false,O.box 3 (V.int .i64 0) false,O.box 27 (V.int .i64 0) false])⟩
noncomputable def II (x1 m0_1:Int) (m1:List V):R :=
 cond (decide (x1 ≥ 0))
 (cond (!(decide (x1 < m0_1)))
 (some (.doneM (V.tup [V.int .i64 0,V.int .i64 1]) [O.box 192 (V.agg [V.tail 1 0,V.int .i64 m0_1]) false,O.row 5 m1 0,O.box 135 (V.ptr 0 0 0) false,O.box 3 (V.int .i64 0) false,O.box 27 (V.int .i64 1) false]))
 (aQ (uX [V.ref (V.ref (V.agg [V.unk,V.int .i64 m0_1]) 0) 0,V.ref (V.int .i64 x1) 0]) fun rs =>
  some (.head 0 (OF (rs.map V.tup) m0_1 m1))))
 (some (.doneM (V.tup [V.int .i64 0,V.int .i64 1]) [O.box 192 (V.agg [V.tail 1 0,V.int .i64 m0_1]) false,O.row 5 m1 0,O.box 135 (V.ptr 0 0 0) false,O.box 3 (V.int .i64 0) false,O.box 27 (V.int .i64 1) false]))
theorem QV (x1 m0_1:Int) (m1:List V):Ec 131 2 al [V.ptr 0 0 0,V.int .i64 x1] [O.box 192 (V.agg [V.tail 1 0,V.int .i64 m0_1]) false,O.row 5 m1 0] (II x1 m0_1 m1):=ec (by kernel_rfl) (by kernel_rfl)
noncomputable def Iz (x1:Int) (x2:List UInt8) (m1_1:Int) (m2:List (V × V)) (m3:List V):R :=
 cN aa al lP 58 [V.ptr 0 0 0,V.int .i64 x1] (sm m1_1 m2 m3) fun L =>
 bD (sm m1_1 m2 m3) <|
 cond (L.2 != (0:Int))
 (some (.doneM (V.int .i64 L.2) (sm m1_1 m2 m3)))
 (cond (decide ((x2.length:Int) > 252))
 (some (.doneM (V.int .i64 2) (sm m1_1 m2 m3)))
 (aQ (gZ m2 (V.int .i64 x1) (V.str x2)) fun es =>
  some (.doneM (V.int .i64 0) (sm m1_1 es m3))))
theorem QJ (x1:Int) (x2:List UInt8) (m1_1:Int) (m2:List (V × V)) (m3:List V):Ec 119 4 al [V.ptr 0 0 0,V.int .i64 x1,V.str x2] (sm m1_1 m2 m3) (Iz x1 x2 m1_1 m2 m3):=ec (by kernel_rfl) (by kernel_rfl)
def yq (x1:List UInt8) (x8 m0_1 m2_1:Int) (m3:List (V × V)) (m4 m7:List V):S:=⟨[V.ptr 0 0 0,V.str x1,V.junk,V.junk,V.own 5,V.ptr 6 0 0,V.int .i64 0,V.own 7,V.int .i64 x8]++(JU 43),(tm m0_1 m2_1 m3 m4++[O.row 176 [] 0,O.box 120 (V.agg [V.tail 8 0,V.str [],V.int .i64 0]) false,O.row 176 m7 0,O.row 41 [] 0])⟩
noncomputable def RZ (x1:List UInt8) (m0_1 m2_1:Int) (m3:List (V × V)) (m4:List V):R :=
 some (.head 0 (yq x1 m0_1 m0_1 m2_1 m3 m4 []))
theorem R2 (x1:List UInt8) (m0_1 m2_1:Int) (m3:List (V × V)) (m4:List V):Ec 75 5 al [V.ptr 0 0 0,V.str x1] (tm m0_1 m2_1 m3 m4) (RZ x1 m0_1 m2_1 m3 m4):=ec (by kernel_rfl) (by kernel_rfl)
noncomputable def FN (x1:List UInt8) (x8 m0_1 m2_1:Int) (m3:List (V × V)) (m4 m7:List V):R :=
 fE aa al (eU (tm m0_1 m2_1 m3 m4)) (eV (tm m0_1 m2_1 m3 m4)) (fh (tm m0_1 m2_1 m3 m4)) 82 [V.ptr 0 0 0,V.int .i64 x8] (tm m0_1 m2_1 m3 m4)
 (fun L =>
  bD (tm m0_1 m2_1 m3 m4++[O.row 176 [] 0,O.box 120 (V.agg [V.tail 8 0,V.str [],V.int .i64 0]) false,O.row 176 m7 0,O.row 41 [] 0]) <|
  some (.doneM (V.tup [V.own 5,V.agg [V.sl L.1,V.str L.2.1,V.int .i64 L.2.2],V.int .i64 x8]) (tm m0_1 m2_1 m3 m4++[O.row 176 m7 0,O.box 120 (V.agg [V.sl L.1,V.str L.2.1,V.int .i64 L.2.2]) false])))
 (fun L_1 =>
  bD (tm m0_1 m2_1 m3 m4++[O.row 176 [] 0,O.box 120 (V.agg [V.tail 8 0,V.str [],V.int .i64 0]) false,O.row 176 m7 0,O.row 41 [] 0]) <|
  ai aa 114 [V.agg [V.sl L_1.1,V.sl L_1.2.1,V.str L_1.2.2.1,V.int .i64 L_1.2.2.2],V.str x1] fun r =>
  v7 r fun r114_0 r114_1 =>
  cond (r114_1 != (0:Int))
 (some (.doneM (V.tup [V.own 5,V.agg [V.nilS,V.str [],V.int .i64 0],V.int .i64 x8]) (tm m0_1 m2_1 m3 m4++[O.row 176 m7 0,O.box 120 (V.agg [V.nilS,V.str [],V.int .i64 0]) false])))
 (gd (decide (m7.length+([V.agg [V.int .i64 x8,V.sl L_1.1,V.sl L_1.2.1,V.str L_1.2.2.1,V.int .i64 L_1.2.2.2,V.int .i64 r114_0]]:List V).length<=16777216)) <|
  gd (decide (0<=r114_0)) <|
  aH L_1.2.1 r114_0.toNat fun v =>
  kI .i64 v fun n =>
  some (.head 0 (yq x1 n m0_1 m2_1 m3 m4 (m7++[V.agg [V.int .i64 x8,V.sl L_1.1,V.sl L_1.2.1,V.str L_1.2.2.1,V.int .i64 L_1.2.2.2,V.int .i64 r114_0]])))))
 (fun L_2 =>
  bD (tm m0_1 m2_1 m3 m4++[O.row 176 [] 0,O.box 120 (V.agg [V.tail 8 0,V.str [],V.int .i64 0]) false,O.row 176 m7 0,O.row 41 [] 0]) <|
  some (.doneM (V.tup [V.own 5,V.agg [V.nilS,V.str [],V.int .i64 0],V.int .i64 x8]) (tm m0_1 m2_1 m3 m4++[O.row 176 m7 0,O.box 120 (V.agg [V.nilS,V.str [],V.int .i64 0]) false])))
theorem M3 (x1:List UInt8) (x8 m0_1 m2_1:Int) (m3:List (V × V)) (m4 m7:List V):Rd true 5 75 0 (yq x1 x8 m0_1 m2_1 m3 m4 m7) (FN x1 x8 m0_1 m2_1 m3 m4 m7):=rd (by kernel_rfl)
noncomputable def y7 (x1 x2_0:List V) (x2_1:List UInt8) (x2_2 x3:Int) (x4_0 x4_1:List UInt8) (m0_1 m2_1:Int) (m3:List (V × V)) (m4:List V):R :=
 aI aa al kZ 84 [V.ptr 0 0 0] (sm m2_1 m3 m4) fun L =>
 ai aa 122 [V.agg [V.sl x2_0,V.str x2_1,V.int .i64 x2_2],V.int .i64 L.1] fun r =>
 yR r fun r122_0 r122_1 r122_2 r122_3 r122_4 r122_5 r122_6 =>
 cond (Op.bytesLess x4_0 r122_1)
 (ai aa 77 [V.agg [V.sl r122_0,V.str r122_1,V.int .i64 r122_2],V.str x4_0,V.str x4_1] fun r_1 =>
  n6 r_1 fun r77_0 r77_1 r77_2 r77_3 =>
  aI aa al dV 78 [V.ptr 0 0 0,V.int .i64 x3,V.ifc 120 (V.agg [V.sl r77_0,V.str r77_1,V.int .i64 r77_2])] (tm m0_1 L.2.2.1 L.2.2.2.1 L.2.2.2.2) fun L_1 =>
  aI aa al dV 78 [V.ptr 0 0 0,V.int .i64 L.1,V.ifc 120 (V.agg [V.sl r122_3,V.str r122_4,V.int .i64 r122_5])] (tm L_1.1 L_1.2.1 L_1.2.2.1 L_1.2.2.2) fun L_2 =>
  aI aa al mQ 123 [V.ptr 0 0 0,V.sl x1,V.str r77_1,V.int .i64 x3,V.int .i64 L.1] (tm L_2.1 L_2.2.1 L_2.2.2.1 L_2.2.2.2) fun L_3 =>
  some (.doneM (V.tup []) (tm L_3.1 L_3.2.1 L_3.2.2.1 L_3.2.2.2++[O.box 120 (V.agg [V.sl x2_0,V.str x2_1,V.int .i64 x2_2]) false,O.box 41 (V.agg [V.str x4_0,V.str x4_1]) false,O.row 41 [] 0,O.box 120 (V.agg [V.sl r77_0,V.str r77_1,V.int .i64 r77_2]) false,O.row 41 [] 0,O.box 120 (V.agg [V.sl r122_3,V.str r122_4,V.int .i64 r122_5]) false])))
 (ai aa 77 [V.agg [V.sl r122_3,V.str r122_4,V.int .i64 r122_5],V.str x4_0,V.str x4_1] fun r_2 =>
  n6 r_2 fun r77_0_1 r77_1_1 r77_2_1 r77_3_1 =>
  aI aa al dV 78 [V.ptr 0 0 0,V.int .i64 x3,V.ifc 120 (V.agg [V.sl r122_0,V.str r122_1,V.int .i64 r122_2])] (tm m0_1 L.2.2.1 L.2.2.2.1 L.2.2.2.2) fun L_4 =>
  aI aa al dV 78 [V.ptr 0 0 0,V.int .i64 L.1,V.ifc 120 (V.agg [V.sl r77_0_1,V.str r77_1_1,V.int .i64 r77_2_1])] (tm L_4.1 L_4.2.1 L_4.2.2.1 L_4.2.2.2) fun L_5 =>
  aI aa al mQ 123 [V.ptr 0 0 0,V.sl x1,V.str r122_1,V.int .i64 x3,V.int .i64 L.1] (tm L_5.1 L_5.2.1 L_5.2.2.1 L_5.2.2.2) fun L_6 =>
  some (.doneM (V.tup []) (tm L_6.1 L_6.2.1 L_6.2.2.1 L_6.2.2.2++[O.box 120 (V.agg [V.sl x2_0,V.str x2_1,V.int .i64 x2_2]) false,O.box 41 (V.agg [V.str x4_0,V.str x4_1]) false,O.row 41 [] 0,O.box 120 (V.agg [V.sl r122_0,V.str r122_1,V.int .i64 r122_2]) false,O.row 41 [] 0,O.box 120 (V.agg [V.sl r77_0_1,V.str r77_1_1,V.int .i64 r77_2_1]) false])))
theorem R9 (x1 x2_0:List V) (x2_1:List UInt8) (x2_2 x3:Int) (x4_0 x4_1:List UInt8) (m0_1 m2_1:Int) (m3:List (V × V)) (m4:List V):Ec 79 5 al [V.ptr 0 0 0,V.sl x1,V.agg [V.sl x2_0,V.str x2_1,V.int .i64 x2_2],V.int .i64 x3,V.agg [V.str x4_0,V.str x4_1]] (tm m0_1 m2_1 m3 m4) (y7 x1 x2_0 x2_1 x2_2 x3 x4_0 x4_1 m0_1 m2_1 m3 m4):=ec (by kernel_rfl) (by kernel_rfl)
def vR (x1:List V) (x7 m0_1 m2_1:Int) (m3:List (V × V)) (m4 m5:List V):S:=⟨[V.ptr 0 0 0,V.sl x1]++(JU 4)++[V.own 5,V.int .i64 x7]++(JU 91),(tm m0_1 m2_1 m3 m4++[O.row 3 m5 0])⟩
def mo (x46:List V) (x47 x48:Int) (m0_1 m2_1:Int) (m3:List (V × V)) (m4 m5:List V) (m6_0:Int) (m6_1 m6_2:List V) (m6_3:List UInt8) (m6_4 m6_5:Int):S:=⟨[V.ptr 0 0 0]++(JU 5)++[V.own 5,V.junk,V.ptr 6 0 0]++(JU 37)++[V.sl x46,V.int .i64 x47,V.int .i64 x48]++(JU 50),(tm m0_1 m2_1 m3 m4++[O.row 3 m5 0,O.box 176 (V.agg [V.int .i64 m6_0,V.sl m6_1,V.sl m6_2,V.str m6_3,V.int .i64 m6_4,V.int .i64 m6_5]) false])⟩
def tF (x85 x86:Int) (m0_1 m2_1:Int) (m3:List (V × V)) (m4 m5:List V):S:=⟨[V.ptr 0 0 0]++(JU 83)++[V.own 5,V.int .i64 x85,V.int .i64 x86]++(JU 12),(tm m0_1 m2_1 m3 m4++[O.row 3 m5 0])⟩
noncomputable def I7 (x1:List V) (x2 m0_1 m2_1:Int) (m3:List (V × V)) (m4:List V):R :=
 some (.head 0 (vR x1 (W .i64 ((x1.length:Int) - 1)) m0_1 m2_1 m3 m4 [V.int .i64 x2]))
theorem Sc (x1:List V) (x2 m0_1 m2_1:Int) (m3:List (V × V)) (m4:List V):Ec 81 5 al [V.ptr 0 0 0,V.sl x1,V.int .i64 x2] (tm m0_1 m2_1 m3 m4) (I7 x1 x2 m0_1 m2_1 m3 m4):=ec (by kernel_rfl) (by kernel_rfl)
noncomputable def FO (x1:List V) (x7 m0_1 m2_1:Int) (m3:List (V × V)) (m4 m5:List V):R :=
 gd (decide (0<=x7)) <|
 aH x1 x7.toNat fun v =>
 kz v fun page nSeps nKids nHigh nNext kid =>
 cond ((nKids.length:Int)==(1:Int))
 (gd (decide (0<=x7)) <|
  aH x1 x7.toNat fun v_1 =>
  kz v_1 fun page_1 nSeps_1 nKids_1 nHigh_1 nNext_1 kid_1 =>
  gd (decide (m5.length+([V.int .i64 page_1]:List V).length<=16777216)) <|
  some (.head 0 (vR x1 (W .i64 (x7 - 1)) m0_1 m2_1 m3 m4 (m5++[V.int .i64 page_1]))))
 (gd (decide (0<=x7)) <|
  aH x1 x7.toNat fun v_2 =>
  kz v_2 fun page_2 nSeps_2 nKids_2 nHigh_2 nNext_2 kid_2 =>
  cN aa al qa 124 [V.ptr 0 0 0,V.sl x1,V.int .i64 (m5.length:Int)] (tm m0_1 m2_1 m3 m4) fun L =>
  bD (tm m0_1 m2_1 m3 m4++[O.row 3 m5 0,O.box 176 (V.agg [V.int .i64 page_2,V.sl nSeps_2,V.sl nKids_2,V.str nHigh_2,V.int .i64 nNext_2,V.int .i64 kid_2]) false]) <|
  some (.head 1 (mo L (L.length:Int) 0 m0_1 m2_1 m3 m4 m5 page_2 nSeps_2 nKids_2 nHigh_2 nNext_2 kid_2)))
theorem M4 (x1:List V) (x7 m0_1 m2_1:Int) (m3:List (V × V)) (m4 m5:List V):Rd true 5 81 0 (vR x1 x7 m0_1 m2_1 m3 m4 m5) (FO x1 x7 m0_1 m2_1 m3 m4 m5):=rd (by kernel_rfl)
noncomputable def AM (x46:List V) (x47 x48:Int) (m0_1 m2_1:Int) (m3:List (V × V)) (m4 m5:List V) (m6_0:Int) (m6_1 m6_2:List V) (m6_3:List UInt8) (m6_4 m6_5:Int):R :=
 cond (decide (x48 < x47))
 (gd (decide (0<=x48)) <|
  aH x46 x48.toNat fun v =>
  kI .i64 v fun n =>
  fE aa al (eU (tm m0_1 m2_1 m3 m4)) (eV (tm m0_1 m2_1 m3 m4)) (fh (tm m0_1 m2_1 m3 m4)) 82 [V.ptr 0 0 0,V.int .i64 n] (tm m0_1 m2_1 m3 m4)
 (fun L =>
  bD (tm m0_1 m2_1 m3 m4++[O.row 3 m5 0,O.box 176 (V.agg [V.int .i64 m6_0,V.sl m6_1,V.sl m6_2,V.str m6_3,V.int .i64 m6_4,V.int .i64 m6_5]) false]) <|
  gd (decide (0<=x48)) <|
  gd (decide (x48.toNat < m5.length)) <|
  aH m5 x48.toNat fun v_1 =>
  kI .i64 v_1 fun n_1 =>
  fE aa al (eU (tm m0_1 m2_1 m3 m4)) (eV (tm m0_1 m2_1 m3 m4)) (fh (tm m0_1 m2_1 m3 m4)) 82 [V.ptr 0 0 0,V.int .i64 n_1] (tm m0_1 m2_1 m3 m4)
 (fun L_1 =>
  bD (tm m0_1 m2_1 m3 m4++[O.row 3 m5 0,O.box 176 (V.agg [V.int .i64 m6_0,V.sl m6_1,V.sl m6_2,V.str m6_3,V.int .i64 m6_4,V.int .i64 m6_5]) false]) <|
  aI aa al dV 78 [V.ptr 0 0 0,V.int .i64 n,V.ifc 120 (V.agg [V.sl L.1,V.str (cond (decide (m6_5 > 0)) L_1.2.1 L.2.1),V.int .i64 L_1.2.2])] (tm m0_1 m2_1 m3 m4) fun L_2 =>
  some (.head 1 (mo x46 x47 (W .i64 (x48+1)) L_2.1 L_2.2.1 L_2.2.2.1 L_2.2.2.2 m5 m6_0 m6_1 m6_2 m6_3 m6_4 m6_5)))
 (fun L_3 =>
  bD (tm m0_1 m2_1 m3 m4++[O.row 3 m5 0,O.box 176 (V.agg [V.int .i64 m6_0,V.sl m6_1,V.sl m6_2,V.str m6_3,V.int .i64 m6_4,V.int .i64 m6_5]) false]) <|
  aI aa al dV 78 [V.ptr 0 0 0,V.int .i64 n,V.ifc 120 (V.agg [V.sl L.1,V.str (cond (decide (m6_5 > 0)) L_3.2.2.1 L.2.1),V.int .i64 L_3.2.2.2])] (tm m0_1 m2_1 m3 m4) fun L_4 =>
  some (.head 1 (mo x46 x47 (W .i64 (x48+1)) L_4.1 L_4.2.1 L_4.2.2.1 L_4.2.2.2 m5 m6_0 m6_1 m6_2 m6_3 m6_4 m6_5)))
 (fun L_5 =>
  bD (tm m0_1 m2_1 m3 m4++[O.row 3 m5 0,O.box 176 (V.agg [V.int .i64 m6_0,V.sl m6_1,V.sl m6_2,V.str m6_3,V.int .i64 m6_4,V.int .i64 m6_5]) false]) <|
  none))
 (fun L_6 =>
  bD (tm m0_1 m2_1 m3 m4++[O.row 3 m5 0,O.box 176 (V.agg [V.int .i64 m6_0,V.sl m6_1,V.sl m6_2,V.str m6_3,V.int .i64 m6_4,V.int .i64 m6_5]) false]) <|
  gd (decide (0<=x48)) <|
  gd (decide (x48.toNat < m5.length)) <|
  aH m5 x48.toNat fun v_2 =>
  kI .i64 v_2 fun n_2 =>
  fE aa al (eU (tm m0_1 m2_1 m3 m4)) (eV (tm m0_1 m2_1 m3 m4)) (fh (tm m0_1 m2_1 m3 m4)) 82 [V.ptr 0 0 0,V.int .i64 n_2] (tm m0_1 m2_1 m3 m4)
 (fun L_7 =>
  bD (tm m0_1 m2_1 m3 m4++[O.row 3 m5 0,O.box 176 (V.agg [V.int .i64 m6_0,V.sl m6_1,V.sl m6_2,V.str m6_3,V.int .i64 m6_4,V.int .i64 m6_5]) false]) <|
  aI aa al dV 78 [V.ptr 0 0 0,V.int .i64 n,V.ifc 150 (V.agg [V.sl L_6.1,V.sl L_6.2.1,V.str (cond (decide (m6_5 > 0)) L_7.2.1 L_6.2.2.1),V.int .i64 L_7.2.2])] (tm m0_1 m2_1 m3 m4) fun L_8 =>
  some (.head 1 (mo x46 x47 (W .i64 (x48+1)) L_8.1 L_8.2.1 L_8.2.2.1 L_8.2.2.2 m5 m6_0 m6_1 m6_2 m6_3 m6_4 m6_5)))
 (fun L_9 =>
  bD (tm m0_1 m2_1 m3 m4++[O.row 3 m5 0,O.box 176 (V.agg [V.int .i64 m6_0,V.sl m6_1,V.sl m6_2,V.str m6_3,V.int .i64 m6_4,V.int .i64 m6_5]) false]) <|
  aI aa al dV 78 [V.ptr 0 0 0,V.int .i64 n,V.ifc 150 (V.agg [V.sl L_6.1,V.sl L_6.2.1,V.str (cond (decide (m6_5 > 0)) L_9.2.2.1 L_6.2.2.1),V.int .i64 L_9.2.2.2])] (tm m0_1 m2_1 m3 m4) fun L_10 =>
  some (.head 1 (mo x46 x47 (W .i64 (x48+1)) L_10.1 L_10.2.1 L_10.2.2.1 L_10.2.2.2 m5 m6_0 m6_1 m6_2 m6_3 m6_4 m6_5)))
 (fun L_11 =>
  bD (tm m0_1 m2_1 m3 m4++[O.row 3 m5 0,O.box 176 (V.agg [V.int .i64 m6_0,V.sl m6_1,V.sl m6_2,V.str m6_3,V.int .i64 m6_4,V.int .i64 m6_5]) false]) <|
  none))
 (fun L_12 =>
  bD (tm m0_1 m2_1 m3 m4++[O.row 3 m5 0,O.box 176 (V.agg [V.int .i64 m6_0,V.sl m6_1,V.sl m6_2,V.str m6_3,V.int .i64 m6_4,V.int .i64 m6_5]) false]) <|
  gd (decide (0<=x48)) <|
  gd (decide (x48.toNat < m5.length)) <|
  aH m5 x48.toNat fun v_3 =>
  kI .i64 v_3 fun n_3 =>
  fE aa al (eU (tm m0_1 m2_1 m3 m4)) (eV (tm m0_1 m2_1 m3 m4)) (fh (tm m0_1 m2_1 m3 m4)) 82 [V.ptr 0 0 0,V.int .i64 n_3] (tm m0_1 m2_1 m3 m4)
 (fun L_13 =>
  bD (tm m0_1 m2_1 m3 m4++[O.row 3 m5 0,O.box 176 (V.agg [V.int .i64 m6_0,V.sl m6_1,V.sl m6_2,V.str m6_3,V.int .i64 m6_4,V.int .i64 m6_5]) false]) <|
  none)
 (fun L_14 =>
  bD (tm m0_1 m2_1 m3 m4++[O.row 3 m5 0,O.box 176 (V.agg [V.int .i64 m6_0,V.sl m6_1,V.sl m6_2,V.str m6_3,V.int .i64 m6_4,V.int .i64 m6_5]) false]) <|
  none)
 (fun L_15 =>
  bD (tm m0_1 m2_1 m3 m4++[O.row 3 m5 0,O.box 176 (V.agg [V.int .i64 m6_0,V.sl m6_1,V.sl m6_2,V.str m6_3,V.int .i64 m6_4,V.int .i64 m6_5]) false]) <|
  none)))
 (ai aa 126 [V.agg [V.sl m6_1,V.sl m6_2,V.str m6_3,V.int .i64 m6_4],V.int .i64 m6_5] fun r =>
  pB r fun r126_0 r126_1 r126_2 r126_3 r126_4 =>
  aI aa al dV 78 [V.ptr 0 0 0,V.int .i64 m6_0,V.ifc 150 (V.agg [V.sl r126_0,V.sl r126_1,V.str r126_2,V.int .i64 r126_3])] (tm m0_1 m2_1 m3 m4) fun L_16 =>
  some (.head 2 (tF (m5.length:Int) 0 L_16.1 L_16.2.1 L_16.2.2.1 L_16.2.2.2 m5)))
theorem FP (x46:List V) (x47 x48:Int) (m0_1 m2_1:Int) (m3:List (V × V)) (m4 m5:List V) (m6_0:Int) (m6_1 m6_2:List V) (m6_3:List UInt8) (m6_4 m6_5:Int):Rd true 5 81 1 (mo x46 x47 x48 m0_1 m2_1 m3 m4 m5 m6_0 m6_1 m6_2 m6_3 m6_4 m6_5) (AM x46 x47 x48 m0_1 m2_1 m3 m4 m5 m6_0 m6_1 m6_2 m6_3 m6_4 m6_5):=rd (by kernel_rfl)
noncomputable def FQ (x85 x86:Int) (m0_1 m2_1:Int) (m3:List (V × V)) (m4 m5:List V):R :=
 cond (decide (x86 < x85))
 (gd (decide (0<=x86)) <|
  gd (decide (x86.toNat < m5.length)) <|
  aH m5 x86.toNat fun v =>
  kI .i64 v fun n =>
  aI aa al qb 127 [V.ptr 0 0 0,V.int .i64 n] (sm m2_1 m3 m4) fun L =>
  some (.head 2 (tF x85 (W .i64 (x86+1)) m0_1 L.2.1 L.2.2.1 L.2.2.2 m5)))
 (aI aa al rV 128 [V.ptr 0 0 0] (tm m0_1 m2_1 m3 m4) fun L_1 =>
  some (.doneM (V.tup []) (tm L_1.1 L_1.2.1 L_1.2.2.1 L_1.2.2.2++[O.row 3 m5 0])))
theorem M5 (x85 x86:Int) (m0_1 m2_1:Int) (m3:List (V × V)) (m4 m5:List V):Rd true 5 81 2 (tF x85 x86 m0_1 m2_1 m3 m4 m5) (FQ x85 x86 m0_1 m2_1 m3 m4 m5):=rd (by kernel_rfl)
noncomputable def I6 (x1:Int) (x2_0 x2_1:List V) (x2_2:List UInt8) (x2_3 m0_1 m2_1:Int) (m3:List (V × V)) (m4:List V):R :=
 ai aa 121 [V.agg [V.sl x2_0,V.sl x2_1,V.str x2_2,V.int .i64 x2_3]] fun r =>
 kS r fun r121 =>
 aI aa al p9 119 [V.ptr 0 0 0,V.int .i64 x1,V.str r121] (sm m2_1 m3 m4) fun L =>
 some (.doneM (V.tup []) (tm m0_1 L.2.1 L.2.2.1 L.2.2.2++[O.row 9 [] 0,O.row 3 [] 0,O.box 150 (V.agg [V.sl x2_0,V.sl x2_1,V.str x2_2,V.int .i64 x2_3]) false]))
theorem R8 (x1:Int) (x2_0 x2_1:List V) (x2_2:List UInt8) (x2_3 m0_1 m2_1:Int) (m3:List (V × V)) (m4:List V):Ec 78 5 al [V.ptr 0 0 0,V.int .i64 x1,V.ifc 150 (V.agg [V.sl x2_0,V.sl x2_1,V.str x2_2,V.int .i64 x2_3])] (tm m0_1 m2_1 m3 m4) (I6 x1 x2_0 x2_1 x2_2 x2_3 m0_1 m2_1 m3 m4):=ec (by kernel_rfl) (by kernel_rfl)
def tG (x2:Int) (x3 x4:List UInt8) (m0_1:Int) (m3:List (V × V)) (m4 m5:List V) (m6_1:Int) (m7:List (V × V)) (m8:List V):S:=⟨[V.ptr 0 0 0,V.ptr 1 0 0,V.int .i64 x2,V.str x3,V.str x4]++(JU 5)++[V.int .i64 0,V.bool false]++(JU 200),(lm m0_1 m3 m4 m5 m6_1 m7 m8)⟩
def nX (x2:Int) (x3:List UInt8) (x15:Bool) (m0_1:Int) (m3:List (V × V)) (m4 m5:List V) (m6_1:Int) (m7:List (V × V)) (m8 m9_0:List V) (m9_1:List UInt8) (m9_2:Int):S:=⟨[V.junk,V.ptr 1 0 0,V.int .i64 x2,V.str x3]++(JU 6)++[V.int .i64 0,V.bool false,V.junk,V.junk,V.ptr 9 0 0,V.bool x15]++(JU 196),(lm m0_1 m3 m4 m5 m6_1 m7 m8++[O.box 120 (V.agg [V.sl m9_0,V.str m9_1,V.int .i64 m9_2]) false])⟩
def tH (x2:Int) (x3 x4:List UInt8) (x17:Bool) (m0_1:Int) (m3:List (V × V)) (m4 m5:List V) (m6_1:Int) (m7:List (V × V)) (m8 m9_0 m9_1:List V) (m9_2:List UInt8) (m9_3:Int):S:=⟨[V.ptr 0 0 0,V.ptr 1 0 0,V.int .i64 x2,V.str x3,V.str x4]++(JU 5)++[V.int .i64 0,V.bool false]++(JU 4)++[V.ptr 9 0 0,V.bool x17]++(JU 194),(lm m0_1 m3 m4 m5 m6_1 m7 m8++[O.box 150 (V.agg [V.sl m9_0,V.sl m9_1,V.str m9_2,V.int .i64 m9_3]) false])⟩
def yr (x2:Int) (x3 x4:List UInt8) (x17:Bool) (x130:List V) (x131 m0_1:Int) (m3:List (V × V)) (m4 m5:List V) (m6_1:Int) (m7:List (V × V)) (m8 m9_0 m9_1:List V) (m9_2:List UInt8) (m9_3:Int):S:=⟨[V.ptr 0 0 0,V.ptr 1 0 0,V.int .i64 x2,V.str x3,V.str x4]++(JU 5)++[V.int .i64 0,V.bool false]++(JU 4)++[V.ptr 9 0 0,V.bool x17,V.int .i64 0,V.bool true]++(JU 110)++[V.sl x130,V.int .i64 x131,V.int .i64 0]++(JU 79),(lm m0_1 m3 m4 m5 m6_1 m7 m8++[O.box 150 (V.agg [V.sl m9_0,V.sl m9_1,V.str m9_2,V.int .i64 m9_3]) false])⟩
def Bz (x2:Int) (x3 x4:List UInt8) (x17:Bool) (x21:Int) (x22 x23:List UInt8) (x130:List V) (x131 m0_1:Int) (m3:List (V × V)) (m4 m5:List V) (m6_1:Int) (m7:List (V × V)) (m8 m9_0 m9_1:List V) (m9_2:List UInt8) (m9_3:Int):S:=⟨[V.ptr 0 0 0,V.ptr 1 0 0,V.int .i64 x2,V.str x3,V.str x4]++(JU 5)++[V.int .i64 0,V.bool false]++(JU 4)++[V.ptr 9 0 0,V.bool x17,V.int .i64 0,V.bool true,V.int .i64 0,V.int .i64 x21,V.str x22,V.str x23]++(JU 106)++[V.sl x130,V.int .i64 x131,V.int .i64 0]++(JU 79),(lm m0_1 m3 m4 m5 m6_1 m7 m8++[O.box 150 (V.agg [V.sl m9_0,V.sl m9_1,V.str m9_2,V.int .i64 m9_3]) false])⟩
def yv (x2:Int) (x3 x4:List UInt8) (x17:Bool) (x21:Int) (x22 x23:List UInt8) (x130:List V) (x131 m0_1:Int) (m3:List (V × V)) (m4 m5:List V) (m6_1:Int) (m7:List (V × V)) (m8 m9_0 m9_1:List V) (m9_2:List UInt8) (m9_3:Int):S:=⟨[V.ptr 0 0 0,V.ptr 1 0 0,V.int .i64 x2,V.str x3,V.str x4]++(JU 5)++[V.int .i64 0,V.bool false]++(JU 4)++[V.ptr 9 0 0,V.bool x17,V.int .i64 0,V.bool true,V.int .i64 0,V.int .i64 x21,V.str x22,V.str x23]++(JU 106)++[V.sl x130,V.int .i64 x131,V.int .i64 0]++(JU 79),(lm m0_1 m3 m4 m5 m6_1 m7 m8++[O.box 150 (V.agg [V.sl m9_0,V.sl m9_1,V.str m9_2,V.int .i64 m9_3]) false])⟩
def qV (x2:Int) (x3 x4:List UInt8) (x17:Bool) (x18:Int) (x19:Bool) (x130:List V) (x131 x132 m0_1:Int) (m3:List (V × V)) (m6_1:Int) (m7:List (V × V)) (m8 m9_0 m9_1:List V) (m9_2:List UInt8) (m9_3:Int) (m10 m11:List V):S:=⟨[V.ptr 0 0 0,V.ptr 1 0 0,V.int .i64 x2,V.str x3,V.str x4]++(JU 5)++[V.int .i64 0,V.bool false]++(JU 4)++[V.ptr 9 0 0,V.bool x17,V.int .i64 x18,V.bool x19]++(JU 110)++[V.sl x130,V.int .i64 x131,V.int .i64 x132]++(JU 79),(ln m0_1 10 11 m3 m6_1 m7 m8++[O.box 150 (V.agg [V.sl m9_0,V.sl m9_1,V.str m9_2,V.int .i64 m9_3]) false,O.row 3 m10 0,O.row 9 m11 0])⟩
def yu (x2:Int) (x3 x4:List UInt8) (x17:Bool) (x18:Int) (x19:Bool) (x20 x21:Int) (x22 x23:List UInt8) (x130:List V) (x131 x132 m0_1:Int) (m3:List (V × V)) (m6_1:Int) (m7:List (V × V)) (m8 m9_0 m9_1:List V) (m9_2:List UInt8) (m9_3:Int) (m10 m11:List V):S:=⟨[V.ptr 0 0 0,V.ptr 1 0 0,V.int .i64 x2,V.str x3,V.str x4]++(JU 5)++[V.int .i64 0,V.bool false]++(JU 4)++[V.ptr 9 0 0,V.bool x17,V.int .i64 x18,V.bool x19,V.int .i64 x20,V.int .i64 x21,V.str x22,V.str x23]++(JU 106)++[V.sl x130,V.int .i64 x131,V.int .i64 x132]++(JU 79),(ln m0_1 10 11 m3 m6_1 m7 m8++[O.box 150 (V.agg [V.sl m9_0,V.sl m9_1,V.str m9_2,V.int .i64 m9_3]) false,O.row 3 m10 0,O.row 9 m11 0])⟩
def yw (x2:Int) (x3 x4:List UInt8) (x17:Bool) (x18:Int) (x19:Bool) (x20 x21:Int) (x22 x23:List UInt8) (x130:List V) (x131 x132 m0_1:Int) (m3:List (V × V)) (m6_1:Int) (m7:List (V × V)) (m8 m9_0 m9_1:List V) (m9_2:List UInt8) (m9_3:Int) (m10 m11:List V):S:=⟨[V.ptr 0 0 0,V.ptr 1 0 0,V.int .i64 x2,V.str x3,V.str x4]++(JU 5)++[V.int .i64 0,V.bool false]++(JU 4)++[V.ptr 9 0 0,V.bool x17,V.int .i64 x18,V.bool x19,V.int .i64 x20,V.int .i64 x21,V.str x22,V.str x23]++(JU 106)++[V.sl x130,V.int .i64 x131,V.int .i64 x132]++(JU 79),(ln m0_1 10 11 m3 m6_1 m7 m8++[O.box 150 (V.agg [V.sl m9_0,V.sl m9_1,V.str m9_2,V.int .i64 m9_3]) false,O.row 3 m10 0,O.row 9 m11 0])⟩
noncomputable def y9 (x2:Int) (x3 x4:List UInt8) (m0_1:Int) (m3:List (V × V)) (m4 m5:List V) (m6_1:Int) (m7:List (V × V)) (m8:List V):R :=
 j6 m3 (V.int .i64 x2)
 (some (.head 0 (tG x2 x3 x4 m0_1 m3 m4 m5 m6_1 m7 m8))) fun r =>
  kB r fun b =>
  cond b
 (some (.doneM (V.tup [V.int .i64 0,V.bool false]) (lm m0_1 m3 m4 m5 m6_1 m7 m8)))
 (some (.head 0 (tG x2 x3 x4 m0_1 m3 m4 m5 m6_1 m7 m8)))
theorem CP (x2:Int) (x3 x4:List UInt8) (m0_1:Int) (m3:List (V × V)) (m4 m5:List V) (m6_1:Int) (m7:List (V × V)) (m8:List V):Ec 85 9 ⟨true,false,true,[3,9]⟩ [V.ptr 0 0 0,V.ptr 1 0 0,V.int .i64 x2,V.str x3,V.str x4] (lm m0_1 m3 m4 m5 m6_1 m7 m8) (y9 x2 x3 x4 m0_1 m3 m4 m5 m6_1 m7 m8):=ec (by kernel_rfl) (by kernel_rfl)
noncomputable def sI (x2:Int) (x3 x4:List UInt8) (m0_1:Int) (m3:List (V × V)) (m4 m5:List V) (m6_1:Int) (m7:List (V × V)) (m8:List V):R :=
 aQ (gZ m3 (V.int .i64 x2) (V.bool true)) fun es =>
 cN aa al lP 58 [V.ptr 0 0 0,V.int .i64 x2] (sm m6_1 m7 m8) fun L =>
 bD (lm m0_1 es m4 m5 m6_1 m7 m8) <|
 fE aa al (eU (tm m0_1 m6_1 m7 m8)) (eV (tm m0_1 m6_1 m7 m8)) (fh (tm m0_1 m6_1 m7 m8)) 82 [V.ptr 0 0 0,V.int .i64 x2] (tm m0_1 m6_1 m7 m8)
 (fun L_1 =>
  bD (lm m0_1 es m4 m5 m6_1 m7 m8) <|
  ai aa 120 [V.agg [V.sl L_1.1,V.str L_1.2.1,V.int .i64 L_1.2.2]] fun r =>
  kS r fun r120 =>
  cond (L.1==r120)
 (cond (L_1.2.1==x4)
 (cond ((L_1.1.length:Int)==(0:Int))
 (cond (decide ((L_1.1.length:Int) > 0))
 (some (.head 1 (nX x2 x3 true m0_1 es m4 m5 m6_1 m7 m8 L_1.1 L_1.2.1 L_1.2.2)))
 (some (.head 1 (nX x2 x3 (x2==m0_1) m0_1 es m4 m5 m6_1 m7 m8 L_1.1 L_1.2.1 L_1.2.2))))
 (aH L_1.1 0 fun v =>
  f9 v fun key value =>
  cond (!Op.bytesLess key x3)
 (cond (decide ((L_1.1.length:Int) > 0))
 (some (.head 1 (nX x2 x3 true m0_1 es m4 m5 m6_1 m7 m8 L_1.1 L_1.2.1 L_1.2.2)))
 (some (.head 1 (nX x2 x3 (x2==m0_1) m0_1 es m4 m5 m6_1 m7 m8 L_1.1 L_1.2.1 L_1.2.2))))
 (some (.head 1 (nX x2 x3 false m0_1 es m4 m5 m6_1 m7 m8 L_1.1 L_1.2.1 L_1.2.2)))))
 (some (.head 1 (nX x2 x3 false m0_1 es m4 m5 m6_1 m7 m8 L_1.1 L_1.2.1 L_1.2.2))))
 (some (.head 1 (nX x2 x3 false m0_1 es m4 m5 m6_1 m7 m8 L_1.1 L_1.2.1 L_1.2.2))))
 (fun L_2 =>
  bD (lm m0_1 es m4 m5 m6_1 m7 m8) <|
  ai aa 121 [V.agg [V.sl L_2.1,V.sl L_2.2.1,V.str L_2.2.2.1,V.int .i64 L_2.2.2.2]] fun r_1 =>
  kS r_1 fun r121 =>
  cond (L.1==r121)
 (cond (L_2.2.2.1==x4)
 (cond ((L_2.1.length:Int)==(0:Int))
 (some (.head 2 (tH x2 x3 x4 true m0_1 es m4 m5 m6_1 m7 m8 L_2.1 L_2.2.1 L_2.2.2.1 L_2.2.2.2)))
 (aH L_2.1 0 fun v_1 =>
  kS v_1 fun s =>
  some (.head 2 (tH x2 x3 x4 (!(Op.bytesLess s x3 || s==x3)) m0_1 es m4 m5 m6_1 m7 m8 L_2.1 L_2.2.1 L_2.2.2.1 L_2.2.2.2))))
 (some (.head 2 (tH x2 x3 x4 false m0_1 es m4 m5 m6_1 m7 m8 L_2.1 L_2.2.1 L_2.2.2.1 L_2.2.2.2))))
 (some (.head 2 (tH x2 x3 x4 false m0_1 es m4 m5 m6_1 m7 m8 L_2.1 L_2.2.1 L_2.2.2.1 L_2.2.2.2))))
 (fun L_3 =>
  bD (lm m0_1 es m4 m5 m6_1 m7 m8) <|
  some (.doneM (V.tup [V.int .i64 0,V.bool false]) (lm m0_1 es m4 m5 m6_1 m7 m8)))
theorem FS (x2:Int) (x3 x4:List UInt8) (m0_1:Int) (m3:List (V × V)) (m4 m5:List V) (m6_1:Int) (m7:List (V × V)) (m8:List V):Rd true 9 85 0 (tG x2 x3 x4 m0_1 m3 m4 m5 m6_1 m7 m8) (sI x2 x3 x4 m0_1 m3 m4 m5 m6_1 m7 m8):=rd (by kernel_rfl)
noncomputable def FT (x2:Int) (x3:List UInt8) (x15:Bool) (m0_1:Int) (m3:List (V × V)) (m4 m5:List V) (m6_1:Int) (m7:List (V × V)) (m8 m9_0:List V) (m9_1:List UInt8) (m9_2:Int):R :=
 cond x15
 (aI aa ⟨true,false,true,[3,9]⟩ oy 132 [V.ptr 0 0 0,V.int .i64 0,V.int .i64 x2,V.str x3,V.str m9_1,V.int .i64 m9_2] (fm m3 m4 m5) fun L =>
  some (.doneM (V.tup [V.int .i64 0,V.bool L.1]) (ln m0_1 10 11 L.2.1 m6_1 m7 m8++[O.box 120 (V.agg [V.sl m9_0,V.str m9_1,V.int .i64 m9_2]) false,O.row 3 L.2.2.1 0,O.row 9 L.2.2.2 0])))
 (some (.doneM (V.tup [V.int .i64 0,V.bool false]) (lm m0_1 m3 m4 m5 m6_1 m7 m8++[O.box 120 (V.agg [V.sl m9_0,V.str m9_1,V.int .i64 m9_2]) false])))
theorem XJ (x2:Int) (x3:List UInt8) (x15:Bool) (m0_1:Int) (m3:List (V × V)) (m4 m5:List V) (m6_1:Int) (m7:List (V × V)) (m8 m9_0:List V) (m9_1:List UInt8) (m9_2:Int):Rd true 9 85 1 (nX x2 x3 x15 m0_1 m3 m4 m5 m6_1 m7 m8 m9_0 m9_1 m9_2) (FT x2 x3 x15 m0_1 m3 m4 m5 m6_1 m7 m8 m9_0 m9_1 m9_2):=rd (by kernel_rfl)
noncomputable def FU (x2:Int) (x3 x4:List UInt8) (x17:Bool) (m0_1:Int) (m3:List (V × V)) (m4 m5:List V) (m6_1:Int) (m7:List (V × V)) (m8 m9_0 m9_1:List V) (m9_2:List UInt8) (m9_3:Int):R :=
 some (.head 3 (yr x2 x3 x4 x17 m9_1 (m9_1.length:Int) m0_1 m3 m4 m5 m6_1 m7 m8 m9_0 m9_1 m9_2 m9_3))
theorem XK (x2:Int) (x3 x4:List UInt8) (x17:Bool) (m0_1:Int) (m3:List (V × V)) (m4 m5:List V) (m6_1:Int) (m7:List (V × V)) (m8 m9_0 m9_1:List V) (m9_2:List UInt8) (m9_3:Int):Rd true 9 85 2 (tH x2 x3 x4 x17 m0_1 m3 m4 m5 m6_1 m7 m8 m9_0 m9_1 m9_2 m9_3) (FU x2 x3 x4 x17 m0_1 m3 m4 m5 m6_1 m7 m8 m9_0 m9_1 m9_2 m9_3):=rd (by kernel_rfl)
noncomputable def FV (x2:Int) (x3 x4:List UInt8) (x17:Bool) (x130:List V) (x131 m0_1:Int) (m3:List (V × V)) (m4 m5:List V) (m6_1:Int) (m7:List (V × V)) (m8 m9_0 m9_1:List V) (m9_2:List UInt8) (m9_3:Int):R :=
 cond (decide (0 < x131))
 (aH x130 0 fun v =>
  kI .i64 v fun n =>
  some (.head 4 (Bz x2 x3 x4 x17 n x3 x4 x130 x131 m0_1 m3 m4 m5 m6_1 m7 m8 m9_0 m9_1 m9_2 m9_3)))
 (cond x17
 (aI aa ⟨true,false,true,[3,9]⟩ oy 132 [V.ptr 0 0 0,V.int .i64 1,V.int .i64 x2,V.str x3,V.str m9_2,V.int .i64 m9_3] (fm m3 m4 m5) fun L =>
  cond L.1
 (cond (x2 != m0_1)
 (some (.doneM (V.tup [V.int .i64 1,V.bool true]) (ln m0_1 10 11 L.2.1 m6_1 m7 m8++[O.box 150 (V.agg [V.sl m9_0,V.sl m9_1,V.str m9_2,V.int .i64 m9_3]) false,O.row 3 L.2.2.1 0,O.row 9 L.2.2.2 0])))
 (some (.doneM (V.tup [V.int .i64 1,V.bool (decide ((m9_1.length:Int) > 1))]) (ln m0_1 10 11 L.2.1 m6_1 m7 m8++[O.box 150 (V.agg [V.sl m9_0,V.sl m9_1,V.str m9_2,V.int .i64 m9_3]) false,O.row 3 L.2.2.1 0,O.row 9 L.2.2.2 0]))))
 (some (.doneM (V.tup [V.int .i64 1,V.bool false]) (ln m0_1 10 11 L.2.1 m6_1 m7 m8++[O.box 150 (V.agg [V.sl m9_0,V.sl m9_1,V.str m9_2,V.int .i64 m9_3]) false,O.row 3 L.2.2.1 0,O.row 9 L.2.2.2 0]))))
 (some (.doneM (V.tup [V.int .i64 1,V.bool false]) (lm m0_1 m3 m4 m5 m6_1 m7 m8++[O.box 150 (V.agg [V.sl m9_0,V.sl m9_1,V.str m9_2,V.int .i64 m9_3]) false]))))
theorem XL (x2:Int) (x3 x4:List UInt8) (x17:Bool) (x130:List V) (x131 m0_1:Int) (m3:List (V × V)) (m4 m5:List V) (m6_1:Int) (m7:List (V × V)) (m8 m9_0 m9_1:List V) (m9_2:List UInt8) (m9_3:Int):Rd true 9 85 3 (yr x2 x3 x4 x17 x130 x131 m0_1 m3 m4 m5 m6_1 m7 m8 m9_0 m9_1 m9_2 m9_3) (FV x2 x3 x4 x17 x130 x131 m0_1 m3 m4 m5 m6_1 m7 m8 m9_0 m9_1 m9_2 m9_3):=rd (by kernel_rfl)
noncomputable def FW (x2:Int) (x3 x4:List UInt8) (x17:Bool) (x21:Int) (x22 x23:List UInt8) (x130:List V) (x131 m0_1:Int) (m3:List (V × V)) (m4 m5:List V) (m6_1:Int) (m7:List (V × V)) (m8 m9_0 m9_1:List V) (m9_2:List UInt8) (m9_3:Int):R :=
 cond (decide (0 < (m9_0.length:Int)))
 (aH m9_0 0 fun v =>
  kS v fun s =>
  some (.head 5 (yv x2 x3 x4 x17 x21 x22 s x130 x131 m0_1 m3 m4 m5 m6_1 m7 m8 m9_0 m9_1 m9_2 m9_3)))
 (some (.head 5 (yv x2 x3 x4 x17 x21 x22 x23 x130 x131 m0_1 m3 m4 m5 m6_1 m7 m8 m9_0 m9_1 m9_2 m9_3)))
theorem XM (x2:Int) (x3 x4:List UInt8) (x17:Bool) (x21:Int) (x22 x23:List UInt8) (x130:List V) (x131 m0_1:Int) (m3:List (V × V)) (m4 m5:List V) (m6_1:Int) (m7:List (V × V)) (m8 m9_0 m9_1:List V) (m9_2:List UInt8) (m9_3:Int):Rd true 9 85 4 (Bz x2 x3 x4 x17 x21 x22 x23 x130 x131 m0_1 m3 m4 m5 m6_1 m7 m8 m9_0 m9_1 m9_2 m9_3) (FW x2 x3 x4 x17 x21 x22 x23 x130 x131 m0_1 m3 m4 m5 m6_1 m7 m8 m9_0 m9_1 m9_2 m9_3):=rd (by kernel_rfl)
noncomputable def M7 (x2:Int) (x3 x4:List UInt8) (x17:Bool) (x21:Int) (x22 x23:List UInt8) (x130:List V) (x131 m0_1:Int) (m3:List (V × V)) (m4 m5:List V) (m6_1:Int) (m7:List (V × V)) (m8 m9_0 m9_1:List V) (m9_2:List UInt8) (m9_3:Int):R :=
 aI aa ⟨true,false,true,[3,9]⟩ mU 85 [V.ptr 0 0 0,V.ptr 1 0 0,V.int .i64 x21,V.str x22,V.str x23] (lm m0_1 m3 m4 m5 m6_1 m7 m8) fun L =>
 cond L.2.1
 (some (.head 3 (qV x2 x3 x4 x17 L.1 true x130 x131 1 L.2.2.1 L.2.2.2.1 L.2.2.2.2.1 L.2.2.2.2.2.1 L.2.2.2.2.2.2.1 m9_0 m9_1 m9_2 m9_3 L.2.2.2.2.2.2.2.1 L.2.2.2.2.2.2.2.2)))
 (some (.doneM (V.tup [V.int .i64 0,V.bool false]) (ln L.2.2.1 10 11 L.2.2.2.1 L.2.2.2.2.1 L.2.2.2.2.2.1 L.2.2.2.2.2.2.1++[O.box 150 (V.agg [V.sl m9_0,V.sl m9_1,V.str m9_2,V.int .i64 m9_3]) false,O.row 3 L.2.2.2.2.2.2.2.1 0,O.row 9 L.2.2.2.2.2.2.2.2 0])))
theorem XO (x2:Int) (x3 x4:List UInt8) (x17:Bool) (x21:Int) (x22 x23:List UInt8) (x130:List V) (x131 m0_1:Int) (m3:List (V × V)) (m4 m5:List V) (m6_1:Int) (m7:List (V × V)) (m8 m9_0 m9_1:List V) (m9_2:List UInt8) (m9_3:Int):Rd true 9 85 5 (yv x2 x3 x4 x17 x21 x22 x23 x130 x131 m0_1 m3 m4 m5 m6_1 m7 m8 m9_0 m9_1 m9_2 m9_3) (M7 x2 x3 x4 x17 x21 x22 x23 x130 x131 m0_1 m3 m4 m5 m6_1 m7 m8 m9_0 m9_1 m9_2 m9_3):=rd (by kernel_rfl)
noncomputable def xx (x2:Int) (x3 x4:List UInt8) (x17:Bool) (x18:Int) (x19:Bool) (x130:List V) (x131 x132 m0_1:Int) (m3:List (V × V)) (m6_1:Int) (m7:List (V × V)) (m8 m9_0 m9_1:List V) (m9_2:List UInt8) (m9_3:Int) (m10 m11:List V):R :=
 cond (decide (x132 < x131))
 (gd (decide (0<=x132)) <|
  aH x130 x132.toNat fun v =>
  kI .i64 v fun n =>
  cond (decide (x132 > 0))
 (gd (decide (0<=W .i64 (x132 - 1))) <|
  aH m9_0 ((W .i64 (x132 - 1)).toNat) fun v_1 =>
  kS v_1 fun s =>
  some (.head 4 (yu x2 x3 x4 x17 x18 x19 x132 n s x4 x130 x131 x132 m0_1 m3 m6_1 m7 m8 m9_0 m9_1 m9_2 m9_3 m10 m11)))
 (some (.head 4 (yu x2 x3 x4 x17 x18 x19 x132 n x3 x4 x130 x131 x132 m0_1 m3 m6_1 m7 m8 m9_0 m9_1 m9_2 m9_3 m10 m11))))
 (cond x17
 (aI aa ⟨true,false,true,[3,9]⟩ oy 132 [V.ptr 0 0 0,V.int .i64 (W .i64 (x18+1)),V.int .i64 x2,V.str x3,V.str m9_2,V.int .i64 m9_3] (fm m3 m10 m11) fun L =>
  cond L.1
 (cond (x2 != m0_1)
 (some (.doneM (V.tup [V.int .i64 (W .i64 (x18+1)),V.bool true]) (ln m0_1 12 13 L.2.1 m6_1 m7 m8++[O.box 150 (V.agg [V.sl m9_0,V.sl m9_1,V.str m9_2,V.int .i64 m9_3]) false,O.dead,O.dead,O.row 3 L.2.2.1 0,O.row 9 L.2.2.2 0])))
 (some (.doneM (V.tup [V.int .i64 (W .i64 (x18+1)),V.bool (decide ((m9_1.length:Int) > 1))]) (ln m0_1 12 13 L.2.1 m6_1 m7 m8++[O.box 150 (V.agg [V.sl m9_0,V.sl m9_1,V.str m9_2,V.int .i64 m9_3]) false,O.dead,O.dead,O.row 3 L.2.2.1 0,O.row 9 L.2.2.2 0]))))
 (some (.doneM (V.tup [V.int .i64 (W .i64 (x18+1)),V.bool false]) (ln m0_1 12 13 L.2.1 m6_1 m7 m8++[O.box 150 (V.agg [V.sl m9_0,V.sl m9_1,V.str m9_2,V.int .i64 m9_3]) false,O.dead,O.dead,O.row 3 L.2.2.1 0,O.row 9 L.2.2.2 0]))))
 (some (.doneM (V.tup [V.int .i64 (W .i64 (x18+1)),V.bool false]) (ln m0_1 10 11 m3 m6_1 m7 m8++[O.box 150 (V.agg [V.sl m9_0,V.sl m9_1,V.str m9_2,V.int .i64 m9_3]) false,O.row 3 m10 0,O.row 9 m11 0]))))
theorem M6 (x2:Int) (x3 x4:List UInt8) (x17:Bool) (x18:Int) (x19:Bool) (x130:List V) (x131 x132 m0_1:Int) (m3:List (V × V)) (m6_1:Int) (m7:List (V × V)) (m8 m9_0 m9_1:List V) (m9_2:List UInt8) (m9_3:Int) (m10 m11:List V):Rd true 9 85 3 (qV x2 x3 x4 x17 x18 x19 x130 x131 x132 m0_1 m3 m6_1 m7 m8 m9_0 m9_1 m9_2 m9_3 m10 m11) (xx x2 x3 x4 x17 x18 x19 x130 x131 x132 m0_1 m3 m6_1 m7 m8 m9_0 m9_1 m9_2 m9_3 m10 m11):=rd (by kernel_rfl)
noncomputable def FX (x2:Int) (x3 x4:List UInt8) (x17:Bool) (x18:Int) (x19:Bool) (x20 x21:Int) (x22 x23:List UInt8) (x130:List V) (x131 x132 m0_1:Int) (m3:List (V × V)) (m6_1:Int) (m7:List (V × V)) (m8 m9_0 m9_1:List V) (m9_2:List UInt8) (m9_3:Int) (m10 m11:List V):R :=
 cond (decide (x20 < (m9_0.length:Int)))
 (gd (decide (0<=x20)) <|
  aH m9_0 x20.toNat fun v =>
  kS v fun s =>
  some (.head 5 (yw x2 x3 x4 x17 x18 x19 x20 x21 x22 s x130 x131 x132 m0_1 m3 m6_1 m7 m8 m9_0 m9_1 m9_2 m9_3 m10 m11)))
 (some (.head 5 (yw x2 x3 x4 x17 x18 x19 x20 x21 x22 x23 x130 x131 x132 m0_1 m3 m6_1 m7 m8 m9_0 m9_1 m9_2 m9_3 m10 m11)))
theorem XN (x2:Int) (x3 x4:List UInt8) (x17:Bool) (x18:Int) (x19:Bool) (x20 x21:Int) (x22 x23:List UInt8) (x130:List V) (x131 x132 m0_1:Int) (m3:List (V × V)) (m6_1:Int) (m7:List (V × V)) (m8 m9_0 m9_1:List V) (m9_2:List UInt8) (m9_3:Int) (m10 m11:List V):Rd true 9 85 4 (yu x2 x3 x4 x17 x18 x19 x20 x21 x22 x23 x130 x131 x132 m0_1 m3 m6_1 m7 m8 m9_0 m9_1 m9_2 m9_3 m10 m11) (FX x2 x3 x4 x17 x18 x19 x20 x21 x22 x23 x130 x131 x132 m0_1 m3 m6_1 m7 m8 m9_0 m9_1 m9_2 m9_3 m10 m11):=rd (by kernel_rfl)
noncomputable def M8 (x2:Int) (x3 x4:List UInt8) (x17:Bool) (x18:Int) (x19:Bool) (x20 x21:Int) (x22 x23:List UInt8) (x130:List V) (x131 x132 m0_1:Int) (m3:List (V × V)) (m6_1:Int) (m7:List (V × V)) (m8 m9_0 m9_1:List V) (m9_2:List UInt8) (m9_3:Int) (m10 m11:List V):R :=
 aI aa ⟨true,false,true,[3,9]⟩ mU 85 [V.ptr 0 0 0,V.ptr 1 0 0,V.int .i64 x21,V.str x22,V.str x23] (lm m0_1 m3 m10 m11 m6_1 m7 m8) fun L =>
 cond x19
 (cond L.2.1
 (cond (x20==(0:Int))
 (some (.head 3 (qV x2 x3 x4 x17 L.1 true x130 x131 (W .i64 (x132+1)) L.2.2.1 L.2.2.2.1 L.2.2.2.2.1 L.2.2.2.2.2.1 L.2.2.2.2.2.2.1 m9_0 m9_1 m9_2 m9_3 L.2.2.2.2.2.2.2.1 L.2.2.2.2.2.2.2.2)))
 (cond (!(L.1==x18))
 (some (.doneM (V.tup [V.int .i64 0,V.bool false]) (ln L.2.2.1 10 11 L.2.2.2.1 L.2.2.2.2.1 L.2.2.2.2.2.1 L.2.2.2.2.2.2.1++[O.box 150 (V.agg [V.sl m9_0,V.sl m9_1,V.str m9_2,V.int .i64 m9_3]) false,O.row 3 L.2.2.2.2.2.2.2.1 0,O.row 9 L.2.2.2.2.2.2.2.2 0])))
 (some (.head 3 (qV x2 x3 x4 x17 L.1 (L.1==x18) x130 x131 (W .i64 (x132+1)) L.2.2.1 L.2.2.2.1 L.2.2.2.2.1 L.2.2.2.2.2.1 L.2.2.2.2.2.2.1 m9_0 m9_1 m9_2 m9_3 L.2.2.2.2.2.2.2.1 L.2.2.2.2.2.2.2.2)))))
 (some (.doneM (V.tup [V.int .i64 0,V.bool false]) (ln L.2.2.1 10 11 L.2.2.2.1 L.2.2.2.2.1 L.2.2.2.2.2.1 L.2.2.2.2.2.2.1++[O.box 150 (V.agg [V.sl m9_0,V.sl m9_1,V.str m9_2,V.int .i64 m9_3]) false,O.row 3 L.2.2.2.2.2.2.2.1 0,O.row 9 L.2.2.2.2.2.2.2.2 0]))))
 (some (.doneM (V.tup [V.int .i64 0,V.bool false]) (ln L.2.2.1 10 11 L.2.2.2.1 L.2.2.2.2.1 L.2.2.2.2.2.1 L.2.2.2.2.2.2.1++[O.box 150 (V.agg [V.sl m9_0,V.sl m9_1,V.str m9_2,V.int .i64 m9_3]) false,O.row 3 L.2.2.2.2.2.2.2.1 0,O.row 9 L.2.2.2.2.2.2.2.2 0])))
theorem XP (x2:Int) (x3 x4:List UInt8) (x17:Bool) (x18:Int) (x19:Bool) (x20 x21:Int) (x22 x23:List UInt8) (x130:List V) (x131 x132 m0_1:Int) (m3:List (V × V)) (m6_1:Int) (m7:List (V × V)) (m8 m9_0 m9_1:List V) (m9_2:List UInt8) (m9_3:Int) (m10 m11:List V):Rd true 9 85 5 (yw x2 x3 x4 x17 x18 x19 x20 x21 x22 x23 x130 x131 x132 m0_1 m3 m6_1 m7 m8 m9_0 m9_1 m9_2 m9_3 m10 m11) (M8 x2 x3 x4 x17 x18 x19 x20 x21 x22 x23 x130 x131 x132 m0_1 m3 m6_1 m7 m8 m9_0 m9_1 m9_2 m9_3 m10 m11):=rd (by kernel_rfl)
def vT (m0_1 m2_1:Int) (m3:List (V × V)) (m4 m6:List V):S:=⟨[V.ptr 0 0 0,V.junk,V.own 5,V.own 6]++(JU 43),(tm m0_1 m2_1 m3 m4++[O.row 80 [] 0,O.row 80 m6 0])⟩
def ko (x20:List V) (x21 x22:Int) (m0_1 m2_1:Int) (m3:List (V × V)) (m4 m6 m7:List V):S:=⟨[V.ptr 0 0 0,V.junk,V.own 5,V.own 6,V.own 7]++(JU 15)++[V.sl x20,V.int .i64 x21,V.int .i64 x22]++(JU 24),(tm m0_1 m2_1 m3 m4++[O.row 80 [] 0,O.row 80 m6 0,O.row 3 m7 0])⟩
noncomputable def Sg (m0_1 m2_1:Int) (m3:List (V × V)) (m4:List V):R :=
 some (.head 0 (vT m0_1 m2_1 m3 m4 [V.sl [V.int .i64 m0_1]]))
theorem Si (m0_1 m2_1:Int) (m3:List (V × V)) (m4:List V):Ec 87 5 al [V.ptr 0 0 0] (tm m0_1 m2_1 m3 m4) (Sg m0_1 m2_1 m3 m4):=ec (by kernel_rfl) (by kernel_rfl)
noncomputable def Nb (m0_1 m2_1:Int) (m3:List (V × V)) (m4 m6:List V):R :=
 gd (decide (0<=W .i64 ((m6.length:Int) - 1))) <|
 gd (decide ((W .i64 ((m6.length:Int) - 1)).toNat < m6.length)) <|
 aH m6 ((W .i64 ((m6.length:Int) - 1)).toNat) fun v =>
 kL v fun l =>
 some (.head 1 (ko l (l.length:Int) 0 m0_1 m2_1 m3 m4 m6 []))
theorem XR (m0_1 m2_1:Int) (m3:List (V × V)) (m4 m6:List V):Rd true 5 87 0 (vT m0_1 m2_1 m3 m4 m6) (Nb m0_1 m2_1 m3 m4 m6):=rd (by kernel_rfl)
noncomputable def xy (x20:List V) (x21 x22:Int) (m0_1 m2_1:Int) (m3:List (V × V)) (m4 m6 m7:List V):R :=
 cond (decide (x22 < x21))
 (gd (decide (0<=x22)) <|
  aH x20 x22.toNat fun v =>
  kI .i64 v fun n =>
  fE aa al (eU (tm m0_1 m2_1 m3 m4)) (eV (tm m0_1 m2_1 m3 m4)) (fh (tm m0_1 m2_1 m3 m4)) 82 [V.ptr 0 0 0,V.int .i64 n] (tm m0_1 m2_1 m3 m4)
 (fun L =>
  bD (tm m0_1 m2_1 m3 m4++[O.row 80 [] 0,O.row 80 m6 0,O.row 3 m7 0]) <|
  some (.head 1 (ko x20 x21 (W .i64 (x22+1)) m0_1 m2_1 m3 m4 m6 m7)))
 (fun L_1 =>
  bD (tm m0_1 m2_1 m3 m4++[O.row 80 [] 0,O.row 80 m6 0,O.row 3 m7 0]) <|
  gd (df 1 L_1.2.1) <|
  gd (decide (m7.length+L_1.2.1.length<=16777216)) <|
  some (.head 1 (ko x20 x21 (W .i64 (x22+1)) m0_1 m2_1 m3 m4 m6 (m7++L_1.2.1))))
 (fun L_2 =>
  bD (tm m0_1 m2_1 m3 m4++[O.row 80 [] 0,O.row 80 m6 0,O.row 3 m7 0]) <|
  some (.head 1 (ko x20 x21 (W .i64 (x22+1)) m0_1 m2_1 m3 m4 m6 m7))))
 (cond ((m7.length:Int)==(0:Int))
 (some (.doneM (V.own 5) (tm m0_1 m2_1 m3 m4++[O.row 80 m6 0])))
 (gd (decide (m6.length+([V.sl m7]:List V).length<=16777216)) <|
  some (.head 0 (vT m0_1 m2_1 m3 m4 (m6++[V.sl m7])))))
theorem AO (x20:List V) (x21 x22:Int) (m0_1 m2_1:Int) (m3:List (V × V)) (m4 m6 m7:List V):Rd true 5 87 1 (ko x20 x21 x22 m0_1 m2_1 m3 m4 m6 m7) (xy x20 x21 x22 m0_1 m2_1 m3 m4 m6 m7):=rd (by kernel_rfl)
def tI (x0:List V) (x3:Int) (x9:List V) (x10 x11:Int):S:=⟨[V.sl x0,V.junk,V.own 0,V.int .i64 x3]++(JU 5)++[V.sl x9,V.int .i64 x10,V.int .i64 x11]++(JU 24),[O.row 3 [] 0]⟩
def BA (x6:Nat) (x25:List V) (x26:Int) (m1:List V):S:=⟨[V.junk,V.junk,V.own 0,V.junk,V.junk,V.junk,V.win 1 0 x6]++(JU 18)++[V.sl x25,V.int .i64 x26,V.int .i64 0]++(JU 8),[O.row 3 [] 0,O.row 3 m1 0]⟩
def OG (x25:List V) (x26 x27:Int) (m1:List V):S:=⟨[V.junk,V.junk,V.own 0,V.junk,V.junk,V.junk,V.own 1]++(JU 18)++[V.sl x25,V.int .i64 x26,V.int .i64 x27]++(JU 8),[O.row 3 [] 0,O.row 3 m1 0]⟩
def vS (x25:List V) (x26 x27:Int) (m1:List V):S:=⟨[V.junk,V.junk,V.own 0,V.junk,V.junk,V.junk,V.tail 1 0]++(JU 18)++[V.sl x25,V.int .i64 x26,V.int .i64 x27]++(JU 8),[O.row 3 [] 0,O.row 3 m1 0]⟩
noncomputable def Ja (x0:List V):R :=
 some (.head 0 (tI x0 0 x0 (x0.length:Int) 0))
theorem Sf (x0:List V):Ec 86 0 ⟨true,false,false,[]⟩ [V.sl x0] [] (Ja x0):=ec (by kernel_rfl) (by kernel_rfl)
noncomputable def AN (x0:List V) (x3:Int) (x9:List V) (x10 x11:Int):R :=
 cond (decide (x11 < x10))
 (gd (decide (0<=x11)) <|
  aH x9 x11.toNat fun v =>
  kL v fun l =>
  cond (decide (W .i64 (x3+(l.length:Int)) < 0))
 (none)
 (some (.head 0 (tI x0 (W .i64 (x3+(l.length:Int))) x9 x10 (W .i64 (x11+1))))))
 (cond (decide (x3 < 0))
 (none)
 (cond (decide (W .i64 (x3 - 0) > 0))
 (gd (decide (0 < W .i64 (x3 - 0))) <|
  gd (decide (Int.toNat (W .i64 (x3 - 0))<=16777216)) <|
  gd (df 1 (bl (Int.toNat (W .i64 (x3 - 0))) (V.int .i64 0))) <|
  some (.head 1 (BA (0 - 0) x0 (x0.length:Int) (bl (Int.toNat (W .i64 (x3 - 0))) (V.int .i64 0)))))
 (some (.head 1 (OG x0 (x0.length:Int) 0 [])))))
theorem M9 (x0:List V) (x3:Int) (x9:List V) (x10 x11:Int):Rd true 0 86 0 (tI x0 x3 x9 x10 x11) (AN x0 x3 x9 x10 x11):=rd (by kernel_rfl)
noncomputable def FY (x6:Nat) (x25:List V) (x26:Int) (m1:List V):R :=
 cond (decide (0 < x26))
 (aH x25 0 fun v =>
  kL v fun l =>
  gd (df 1 l) <|
  gd (decide (0+x6<=m1.length)) <|
  gd (decide (x6+l.length<=16777216)) <|
  some (.head 1 (vS x25 x26 1 (((m1.drop 0).take x6)++l))))
 (some (.doneM (V.win 1 0 x6) [O.row 3 [] 0,O.row 3 m1 0]))
theorem XQ (x6:Nat) (x25:List V) (x26:Int) (m1:List V):Rd true 0 86 1 (BA x6 x25 x26 m1) (FY x6 x25 x26 m1):=rd (by kernel_rfl)
noncomputable def FZ (x25:List V) (x26 x27:Int) (m1:List V):R :=
 cond (decide (x27 < x26))
 (gd (decide (0<=x27)) <|
  aH x25 x27.toNat fun v =>
  kL v fun l =>
  gd (df 1 l) <|
  gd (decide (m1.length+l.length<=16777216)) <|
  some (.head 1 (vS x25 x26 (W .i64 (x27+1)) (m1++l))))
 (some (.doneM (V.tail 1 0) [O.row 3 [] 0,O.row 3 m1 0]))
theorem Na (x25:List V) (x26 x27:Int) (m1:List V):Rd true 0 86 1 (vS x25 x26 x27 m1) (FZ x25 x26 x27 m1):=rd (by kernel_rfl)
def vU (x6:List V) (m0_1:Int) (m1 m5:List V):S:=⟨[V.junk,V.ptr 2 0 0,V.own 3,V.ptr 4 0 0,V.junk,V.junk,V.rest [3] x6]++(JU 9),(bm m0_1 m1++[O.box 135 (V.ptr 0 0 0) false,O.row 3 [] 0,O.box 80 (V.tail 5 0) false,O.row 3 m5 0])⟩
noncomputable def Jc (m0_1:Int) (m1:List V):R :=
 aQ (uX [V.ref (V.ref (V.agg [V.unk,V.int .i64 m0_1]) 0) 0,V.ref (V.int .i64 0) 0]) fun rs =>
 some (.head 0 (vU (rs.map V.tup) m0_1 m1 []))
theorem Sk (m0_1:Int) (m1:List V):Ec 90 2 al [V.ptr 0 0 0] (bm m0_1 m1) (Jc m0_1 m1):=ec (by kernel_rfl) (by kernel_rfl)
noncomputable def F0 (x6:List V) (m0_1:Int) (m1 m5:List V):R :=
 jz x6
 (some (.doneM (V.tail 5 0) (bm m0_1 m1++[O.box 135 (V.ptr 0 0 0) false,O.row 3 [] 0,O.box 80 (V.tail 5 0) false,O.row 3 m5 0]))) fun x0 l =>
  kT x0 fun vs=>bz vs fun c vs=>kI .i64 c fun n =>
  dD vs<|cN aa al lL 137 [V.ptr 0 0 0,V.int .i64 n] (bm m0_1 m1) fun L =>
  bD (bm m0_1 m1++[O.box 135 (V.ptr 0 0 0) false,O.row 3 [] 0,O.box 80 (V.tail 5 0) false,O.row 3 m5 0]) <|
  cond L
 (gd (decide (m5.length+([V.int .i64 n]:List V).length<=16777216)) <|
  some (.head 0 (vU l m0_1 m1 (m5++[V.int .i64 n]))))
 (some (.head 0 (vU l m0_1 m1 m5)))
theorem F2 (x6:List V) (m0_1:Int) (m1 m5:List V):Rd true 2 90 0 (vU x6 m0_1 m1 m5) (F0 x6 m0_1 m1 m5):=rd (by kernel_rfl)
noncomputable def y8 (x1 m0_1 m2_1:Int) (m3:List (V × V)) (m4:List V):R :=
 cN aa al lP 58 [V.ptr 0 0 0,V.int .i64 x1] (sm m2_1 m3 m4) fun L =>
 bD (tm m0_1 m2_1 m3 m4) <|
 cond (L.2 != (0:Int))
 (some (.doneM (V.nilI) (tm m0_1 m2_1 m3 m4)))
 (ai aa 129 [V.str L.1] fun r =>
  n6 r fun r129_0 r129_1 r129_2 r129_3 =>
  cond (r129_3==(0:Int))
 (some (.doneM (V.ifc 120 (V.agg [V.sl r129_0,V.str r129_1,V.int .i64 r129_2])) (tm m0_1 m2_1 m3 m4++[O.row 41 [] 0,O.box 120 (V.agg [V.sl r129_0,V.str r129_1,V.int .i64 r129_2]) false])))
 (ai aa 130 [V.str L.1] fun r_1 =>
  pB r_1 fun r130_0 r130_1 r130_2 r130_3 r130_4 =>
  cond (r130_4==(0:Int))
 (some (.doneM (V.ifc 150 (V.agg [V.sl r130_0,V.sl r130_1,V.str r130_2,V.int .i64 r130_3])) (tm m0_1 m2_1 m3 m4++[O.row 41 [] 0,O.box 120 (V.agg [V.sl r129_0,V.str r129_1,V.int .i64 r129_2]) false,O.row 9 [] 0,O.row 3 [] 0,O.box 150 (V.agg [V.sl r130_0,V.sl r130_1,V.str r130_2,V.int .i64 r130_3]) false])))
 (some (.doneM (V.nilI) (tm m0_1 m2_1 m3 m4++[O.row 41 [] 0,O.box 120 (V.agg [V.sl r129_0,V.str r129_1,V.int .i64 r129_2]) false,O.row 9 [] 0,O.row 3 [] 0,O.box 150 (V.agg [V.sl r130_0,V.sl r130_1,V.str r130_2,V.int .i64 r130_3]) false])))))
theorem CO (x1 m0_1 m2_1:Int) (m3:List (V × V)) (m4:List V):Ec 82 5 al [V.ptr 0 0 0,V.int .i64 x1] (tm m0_1 m2_1 m3 m4) (y8 x1 m0_1 m2_1 m3 m4):=ec (by kernel_rfl) (by kernel_rfl)
noncomputable def Jb (m0_1:Int) (m1:List V):R :=
 cN aa al qf 90 [V.ptr 0 0 0] (bm m0_1 m1) fun L =>
 bD (bm m0_1 m1) <|
 some (.doneM (V.int .i64 (W .i64 (m0_1 - (L.length:Int)))) (bm m0_1 m1))
theorem Sj (m0_1:Int) (m1:List V):Ec 89 2 al [V.ptr 0 0 0] (bm m0_1 m1) (Jb m0_1 m1):=ec (by kernel_rfl) (by kernel_rfl)
noncomputable def IK (x1 m0_1:Int) (m1:List V):R :=
 cond (decide (x1 ≥ 0))
 (cond (decide (x1 < m0_1))
 (gd (decide (0<=W .i64 ((x1.tdiv 8)))) <|
  gd (decide ((W .i64 ((x1.tdiv 8))).toNat < m1.length)) <|
  aH m1 (0+((W .i64 ((x1.tdiv 8))).toNat)) fun v =>
  kI .u8 v fun n =>
  ai aa 193 [V.int .i64 x1] fun r =>
  kI .u8 r fun r193 =>
  some (.doneM (V.bool ((W .u8 (((BitVec.ofInt (IntKind.bits .u8) n &&& BitVec.ofInt (IntKind.bits .u8) r193).toNat:Int))) != (0:Int))) (bm m0_1 m1)))
 (some (.doneM (V.bool false) (bm m0_1 m1))))
 (some (.doneM (V.bool false) (bm m0_1 m1)))
theorem QX (x1 m0_1:Int) (m1:List V):Ec 137 2 al [V.ptr 0 0 0,V.int .i64 x1] (bm m0_1 m1) (IK x1 m0_1 m1):=ec (by kernel_rfl) (by kernel_rfl)
noncomputable def IU (x1 m0_1:Int) (m1:List V):R :=
 cond (decide (x1 ≥ 0))
 (cond (!(decide (x1 < m0_1)))
 (some (.doneM (V.int .i64 1) (bm m0_1 m1)))
 (cN aa al lL 137 [V.ptr 0 0 0,V.int .i64 x1] (bm m0_1 m1) fun L =>
  bD (bm m0_1 m1) <|
  cond L
 (some (.doneM (V.int .i64 8) (bm m0_1 m1)))
 (gd (decide (0<=W .i64 ((x1.tdiv 8)))) <|
  gd (decide ((W .i64 ((x1.tdiv 8))).toNat < m1.length)) <|
  aH m1 (0+((W .i64 ((x1.tdiv 8))).toNat)) fun v =>
  kI .u8 v fun n =>
  ai aa 193 [V.int .i64 x1] fun r =>
  kI .u8 r fun r193 =>
  gd (decide (0<=W .i64 ((x1.tdiv 8)))) <|
  gd (decide ((W .i64 ((x1.tdiv 8))).toNat < m1.length)) <|
  aH m1 (0+((W .i64 ((x1.tdiv 8))).toNat)) fun v_1 =>
  kI .u8 v_1 fun n_1 =>
  some (.doneM (V.int .i64 0) (bm m0_1 (((m1).set (0+((W .i64 ((x1.tdiv 8))).toNat)) (V.int .u8 (W .u8 (((BitVec.ofInt (IntKind.bits .u8) n ||| BitVec.ofInt (IntKind.bits .u8) r193).toNat:Int)))))))))))
 (some (.doneM (V.int .i64 1) (bm m0_1 m1)))
theorem Rn (x1 m0_1:Int) (m1:List V):Ec 180 2 al [V.ptr 0 0 0,V.int .i64 x1] (bm m0_1 m1) (IU x1 m0_1 m1):=ec (by kernel_rfl) (by kernel_rfl)
noncomputable def CG (x1 m1_1:Int) (m2:List (V × V)) (m3:List V):R :=
 cond (decide (x1 < 0))
 (some (.doneM (V.tup [V.str [],V.int .i64 1]) (sm m1_1 m2 m3)))
 (cond (decide (x1 ≥ m1_1))
 (some (.doneM (V.tup [V.str [],V.int .i64 1]) (sm m1_1 m2 m3)))
 (j6 m2 (V.int .i64 x1)
 (some (.doneM (V.tup [V.str [],V.int .i64 7]) (sm m1_1 m2 m3))) fun r =>
  kS r fun s =>
  some (.doneM (V.tup [V.str s,V.int .i64 0]) (sm m1_1 m2 m3))))
theorem I4 (x1 m1_1:Int) (m2:List (V × V)) (m3:List V):Ec 58 4 al [V.ptr 0 0 0,V.int .i64 x1] (sm m1_1 m2 m3) (CG x1 m1_1 m2 m3):=ec (by kernel_rfl) (by kernel_rfl)
def vK (x21:List V) (m0_1 m2_1:Int) (m3:List (V × V)) (m4:List V) (m6:List UInt8) (m7 m8:Int):S:=⟨(JU 5)++[V.ptr 5 0 0,V.junk,V.ptr 6 0 0,V.ptr 7 0 0,V.ptr 8 0 0]++(JU 11)++[V.rest [3,176] x21]++(JU 91),(tm m0_1 m2_1 m3 m4++[O.box 24 (V.ptr 0 0 0) false,O.box 9 (V.str m6) false,O.box 3 (V.int .i64 m7) false,O.box 3 (V.int .i64 m8) false])⟩
noncomputable def ID (x1:List V) (x2:List UInt8) (x3 x4:Int) (m0_1 m2_1:Int) (m3:List (V × V)) (m4:List V):R :=
 aQ (yC [V.ref (V.sl x1) 0]) fun rs =>
 some (.head 0 (vK (rs.map V.tup) m0_1 m2_1 m3 m4 x2 x3 x4))
theorem QN (x1:List V) (x2:List UInt8) (x3 x4:Int) (m0_1 m2_1:Int) (m3:List (V × V)) (m4:List V):Ec 123 5 al [V.ptr 0 0 0,V.sl x1,V.str x2,V.int .i64 x3,V.int .i64 x4] (tm m0_1 m2_1 m3 m4) (ID x1 x2 x3 x4 m0_1 m2_1 m3 m4):=ec (by kernel_rfl) (by kernel_rfl)
noncomputable def xt (x21:List V) (m0_1 m2_1:Int) (m3:List (V × V)) (m4:List V) (m6:List UInt8) (m7 m8:Int):R :=
 jz x21
 (aI aa al kZ 84 [V.ptr 0 0 0] (sm m2_1 m3 m4) fun L =>
  aI aa al dV 78 [V.ptr 0 0 0,V.int .i64 L.1,V.ifc 150 (V.agg [V.sl [V.str m6],V.sl [V.int .i64 m7,V.int .i64 m8],V.str [],V.int .i64 0])] (tm L.1 L.2.2.1 L.2.2.2.1 L.2.2.2.2) fun L_1 =>
  some (.doneM (V.tup []) (tm L_1.1 L_1.2.1 L_1.2.2.1 L_1.2.2.2++[O.box 24 (V.ptr 0 0 0) false,O.box 9 (V.str m6) false,O.box 3 (V.int .i64 m7) false,O.box 3 (V.int .i64 m8) false]))) fun x0 l =>
  kT x0 fun vs=>bz vs fun c vs=>kI .i64 c fun n =>
  bz vs fun c_1 vs=>kz c_1 fun page nSeps nKids nHigh nNext kid =>
  dD vs<|ai aa 167 [V.agg [V.sl nSeps,V.sl nKids,V.str nHigh,V.int .i64 nNext],V.str m6,V.int .i64 m8] fun r =>
  pB r fun r167_0 r167_1 r167_2 r167_3 r167_4 =>
  cond (r167_4==(0:Int))
 (aI aa al dV 78 [V.ptr 0 0 0,V.int .i64 page,V.ifc 150 (V.agg [V.sl r167_0,V.sl r167_1,V.str r167_2,V.int .i64 r167_3])] (tm m0_1 m2_1 m3 m4) fun L_2 =>
  some (.doneM (V.tup []) (tm L_2.1 L_2.2.1 L_2.2.2.1 L_2.2.2.2++[O.box 24 (V.ptr 0 0 0) false,O.box 9 (V.str m6) false,O.box 3 (V.int .i64 m7) false,O.box 3 (V.int .i64 m8) false])))
 (aI aa al kZ 84 [V.ptr 0 0 0] (sm m2_1 m3 m4) fun L_3 =>
  ai aa 168 [V.agg [V.sl nSeps,V.sl nKids,V.str nHigh,V.int .i64 nNext],V.int .i64 L_3.1] fun r_1 =>
  yS r_1 fun r168_0 r168_1 r168_2 r168_3 r168_4 r168_5 r168_6 r168_7 r168_8 r168_9 =>
  cond (Op.bytesLess m6 r168_8)
 (ai aa 167 [V.agg [V.sl r168_0,V.sl r168_1,V.str r168_2,V.int .i64 r168_3],V.str m6,V.int .i64 m8] fun r_2 =>
  pB r_2 fun r167_0_1 r167_1_1 r167_2_1 r167_3_1 r167_4_1 =>
  aI aa al dV 78 [V.ptr 0 0 0,V.int .i64 page,V.ifc 150 (V.agg [V.sl r167_0_1,V.sl r167_1_1,V.str r167_2_1,V.int .i64 r167_3_1])] (tm m0_1 L_3.2.2.1 L_3.2.2.2.1 L_3.2.2.2.2) fun L_4 =>
  aI aa al dV 78 [V.ptr 0 0 0,V.int .i64 L_3.1,V.ifc 150 (V.agg [V.sl r168_4,V.sl r168_5,V.str r168_6,V.int .i64 r168_7])] (tm L_4.1 L_4.2.1 L_4.2.2.1 L_4.2.2.2) fun L_5 =>
  some (.head 0 (vK l L_5.1 L_5.2.1 L_5.2.2.1 L_5.2.2.2 r168_8 page L_3.1)))
 (ai aa 167 [V.agg [V.sl r168_4,V.sl r168_5,V.str r168_6,V.int .i64 r168_7],V.str m6,V.int .i64 m8] fun r_3 =>
  pB r_3 fun r167_0_2 r167_1_2 r167_2_2 r167_3_2 r167_4_2 =>
  aI aa al dV 78 [V.ptr 0 0 0,V.int .i64 page,V.ifc 150 (V.agg [V.sl r168_0,V.sl r168_1,V.str r168_2,V.int .i64 r168_3])] (tm m0_1 L_3.2.2.1 L_3.2.2.2.1 L_3.2.2.2.2) fun L_6 =>
  aI aa al dV 78 [V.ptr 0 0 0,V.int .i64 L_3.1,V.ifc 150 (V.agg [V.sl r167_0_2,V.sl r167_1_2,V.str r167_2_2,V.int .i64 r167_3_2])] (tm L_6.1 L_6.2.1 L_6.2.2.1 L_6.2.2.2) fun L_7 =>
  some (.head 0 (vK l L_7.1 L_7.2.1 L_7.2.2.1 L_7.2.2.2 r168_8 page L_3.1))))
theorem MB (x21:List V) (m0_1 m2_1:Int) (m3:List (V × V)) (m4:List V) (m6:List UInt8) (m7 m8:Int):Rd true 5 123 0 (vK x21 m0_1 m2_1 m3 m4 m6 m7 m8) (xt x21 m0_1 m2_1 m3 m4 m6 m7 m8):=rd (by kernel_rfl)
def vL (x1:List V) (x2 x7:Int) (m0_1 m2_1:Int) (m3:List (V × V)) (m4:List V):S:=⟨[V.ptr 0 0 0,V.sl x1,V.int .i64 x2,V.junk,V.junk,V.junk,V.own 5,V.int .i64 x7]++(JU 72),(tm m0_1 m2_1 m3 m4++[O.row 3 [] 0])⟩
def tA (x2 x8:Int) (x49 x50:Int) (m0_1 m2_1:Int) (m3:List (V × V)) (m4 m6:List V):S:=⟨[V.ptr 0 0 0,V.junk,V.int .i64 x2,V.junk,V.junk,V.junk,V.own 5,V.junk,V.int .i64 x8,V.own 6]++(JU 39)++[V.int .i64 x49,V.int .i64 x50]++(JU 29),(tm m0_1 m2_1 m3 m4++[O.row 3 [] 0,O.row 3 m6 0])⟩
noncomputable def Ci (x1:List V) (x2 m0_1 m2_1:Int) (m3:List (V × V)) (m4:List V):R :=
 some (.head 0 (vL x1 x2 (W .i64 ((x1.length:Int) - 1)) m0_1 m2_1 m3 m4))
theorem IE (x1:List V) (x2 m0_1 m2_1:Int) (m3:List (V × V)) (m4:List V):Ec 124 5 al [V.ptr 0 0 0,V.sl x1,V.int .i64 x2] (tm m0_1 m2_1 m3 m4) (Ci x1 x2 m0_1 m2_1 m3 m4):=ec (by kernel_rfl) (by kernel_rfl)
noncomputable def xu (x1:List V) (x2 x7:Int) (m0_1 m2_1:Int) (m3:List (V × V)) (m4:List V):R :=
 cond (decide (x7 ≥ 0))
 (gd (decide (0<=x7)) <|
  aH x1 x7.toNat fun v =>
  kz v fun page nSeps nKids nHigh nNext kid =>
  cond (kid==(0:Int))
 (some (.head 0 (vL x1 x2 (W .i64 (x7 - 1)) m0_1 m2_1 m3 m4)))
 (cond (decide (x7 < 0))
 (some (.doneM (V.own 6) (tm m0_1 m2_1 m3 m4++[O.row 3 [] 0,O.row 3 [] 0])))
 (gd (decide (0<=x7)) <|
  aH x1 x7.toNat fun v_1 =>
  kz v_1 fun page_1 nSeps_1 nKids_1 nHigh_1 nNext_1 kid_1 =>
  gd (decide (0<=x7)) <|
  aH x1 x7.toNat fun v_2 =>
  kz v_2 fun page_2 nSeps_2 nKids_2 nHigh_2 nNext_2 kid_2 =>
  gd (decide (0<=W .i64 (kid_2 - 1))) <|
  aH nKids_1 ((W .i64 (kid_2 - 1)).toNat) fun v_3 =>
  kI .i64 v_3 fun n =>
  some (.head 1 (tA x2 n (W .i64 ((W .i64 ((x1.length:Int) - 1)) - x7)) 0 m0_1 m2_1 m3 m4 [V.int .i64 n])))))
 (cond (decide (x7 < 0))
 (some (.doneM (V.own 6) (tm m0_1 m2_1 m3 m4++[O.row 3 [] 0,O.row 3 [] 0])))
 (gd (decide (0<=x7)) <|
  aH x1 x7.toNat fun v_4 =>
  kz v_4 fun page_3 nSeps_3 nKids_3 nHigh_3 nNext_3 kid_3 =>
  gd (decide (0<=x7)) <|
  aH x1 x7.toNat fun v_5 =>
  kz v_5 fun page_4 nSeps_4 nKids_4 nHigh_4 nNext_4 kid_4 =>
  gd (decide (0<=W .i64 (kid_4 - 1))) <|
  aH nKids_3 ((W .i64 (kid_4 - 1)).toNat) fun v_6 =>
  kI .i64 v_6 fun n_1 =>
  some (.head 1 (tA x2 n_1 (W .i64 ((W .i64 ((x1.length:Int) - 1)) - x7)) 0 m0_1 m2_1 m3 m4 [V.int .i64 n_1]))))
theorem AD (x1:List V) (x2 x7:Int) (m0_1 m2_1:Int) (m3:List (V × V)) (m4:List V):Rd true 5 124 0 (vL x1 x2 x7 m0_1 m2_1 m3 m4) (xu x1 x2 x7 m0_1 m2_1 m3 m4):=rd (by kernel_rfl)
noncomputable def Fo (x2 x8:Int) (x49 x50:Int) (m0_1 m2_1:Int) (m3:List (V × V)) (m4 m6:List V):R :=
 cond (decide (x50 < x49))
 (fE aa al (eU (tm m0_1 m2_1 m3 m4)) (eV (tm m0_1 m2_1 m3 m4)) (fh (tm m0_1 m2_1 m3 m4)) 82 [V.ptr 0 0 0,V.int .i64 x8] (tm m0_1 m2_1 m3 m4)
 (fun L =>
  bD (tm m0_1 m2_1 m3 m4++[O.row 3 [] 0,O.row 3 m6 0]) <|
  none)
 (fun L_1 =>
  bD (tm m0_1 m2_1 m3 m4++[O.row 3 [] 0,O.row 3 m6 0]) <|
  gd (decide (0<=W .i64 ((L_1.2.1.length:Int) - 1))) <|
  aH L_1.2.1 ((W .i64 ((L_1.2.1.length:Int) - 1)).toNat) fun v =>
  kI .i64 v fun n =>
  gd (decide (m6.length+([V.int .i64 n]:List V).length<=16777216)) <|
  some (.head 1 (tA x2 n x49 (W .i64 (x50+1)) m0_1 m2_1 m3 m4 (m6++[V.int .i64 n]))))
 (fun L_2 =>
  bD (tm m0_1 m2_1 m3 m4++[O.row 3 [] 0,O.row 3 m6 0]) <|
  none))
 (aI aa al rW 169 [V.own 0] [O.row 3 m6 0] fun L_3 =>
  gd (df 1 L_3) <|
  gd (decide (0<=(if (L_3.length:Int) < x2 then (L_3.length:Int) else x2))) <|
  gd (decide ((if (L_3.length:Int) < x2 then (L_3.length:Int) else x2).toNat<=L_3.length)) <|
  some (.doneM (V.win 6 0 (((if (L_3.length:Int) < x2 then (L_3.length:Int) else x2).toNat) - 0)) (tm m0_1 m2_1 m3 m4++[O.row 3 [] 0,O.row 3 L_3 0])))
theorem MC (x2 x8:Int) (x49 x50:Int) (m0_1 m2_1:Int) (m3:List (V × V)) (m4 m6:List V):Rd true 5 124 1 (tA x2 x8 x49 x50 m0_1 m2_1 m3 m4 m6) (Fo x2 x8 x49 x50 m0_1 m2_1 m3 m4 m6):=rd (by kernel_rfl)
noncomputable def IF (x1 m1_1:Int) (m2:List (V × V)) (m3:List V):R :=
 aI aa al rY 174 [V.ptr 0 0 0,V.int .i64 x1] (bm m1_1 m3) fun L =>
 cond (L.1==(0:Int))
 (aQ (kX m2 (V.int .i64 x1)) fun es =>
  some (.doneM (V.int .i64 L.1) (sm L.2.1 es L.2.2)))
 (some (.doneM (V.int .i64 L.1) (sm L.2.1 m2 L.2.2)))
theorem QQ (x1 m1_1:Int) (m2:List (V × V)) (m3:List V):Ec 127 4 al [V.ptr 0 0 0,V.int .i64 x1] (sm m1_1 m2 m3) (IF x1 m1_1 m2 m3):=ec (by kernel_rfl) (by kernel_rfl)
def yi (m0_1 m2_1:Int) (m3:List (V × V)) (m4:List V):S:=⟨[V.ptr 0 0 0]++(JU 37),(tm m0_1 m2_1 m3 m4)⟩
noncomputable def QR (m0_1 m2_1:Int) (m3:List (V × V)) (m4:List V):R :=
 some (.head 0 (yi m0_1 m2_1 m3 m4))
theorem QS (m0_1 m2_1:Int) (m3:List (V × V)) (m4:List V):Ec 128 5 al [V.ptr 0 0 0] (tm m0_1 m2_1 m3 m4) (QR m0_1 m2_1 m3 m4):=ec (by kernel_rfl) (by kernel_rfl)
noncomputable def AE (m0_1 m2_1:Int) (m3:List (V × V)) (m4:List V):R :=
 fE aa al (eU (tm m0_1 m2_1 m3 m4)) (eV (tm m0_1 m2_1 m3 m4)) (fh (tm m0_1 m2_1 m3 m4)) 82 [V.ptr 0 0 0,V.int .i64 m0_1] (tm m0_1 m2_1 m3 m4)
 (fun L =>
  bD (tm m0_1 m2_1 m3 m4) <|
  some (.doneM (V.tup []) (tm m0_1 m2_1 m3 m4)))
 (fun L_1 =>
  bD (tm m0_1 m2_1 m3 m4) <|
  cond (decide ((L_1.2.1.length:Int) > 1))
 (some (.doneM (V.tup []) (tm m0_1 m2_1 m3 m4)))
 (aI aa al qb 127 [V.ptr 0 0 0,V.int .i64 m0_1] (sm m2_1 m3 m4) fun L_2 =>
  aH L_1.2.1 0 fun v =>
  kI .i64 v fun n =>
  some (.head 0 (yi n L_2.2.1 L_2.2.2.1 L_2.2.2.2))))
 (fun L_3 =>
  bD (tm m0_1 m2_1 m3 m4) <|
  some (.doneM (V.tup []) (tm m0_1 m2_1 m3 m4)))
theorem Fp (m0_1 m2_1:Int) (m3:List (V × V)) (m4:List V):Rd true 5 128 0 (yi m0_1 m2_1 m3 m4) (AE m0_1 m2_1 m3 m4):=rd (by kernel_rfl)
def Hl (x1 x2:Int) (x3 x4:List UInt8) (x5:Int) (m1:List (V × V)) (m2 m3:List V):S:=⟨[V.ptr 0 0 0,V.int .i64 x1,V.int .i64 x2,V.str x3,V.str x4,V.int .i64 x5]++(JU 6)++[V.bool false]++(JU 65),(fm m1 m2 m3)⟩
def yk (x1 x2:Int) (x3 x4:List UInt8) (x5:Int) (m1:List (V × V)) (m4 m5:List V):S:=⟨[V.ptr 0 0 0,V.int .i64 x1,V.int .i64 x2,V.str x3,V.str x4,V.int .i64 x5]++(JU 6)++[V.bool false]++(JU 65),[O.box 144 (V.agg [V.mp 1,V.tail 4 0,V.tail 5 0]) false,O.map m1,O.dead,O.dead,O.row 3 m4 0,O.row 9 m5 0]⟩
noncomputable def QW (x1 x2:Int) (x3 x4:List UInt8) (x5:Int) (m1:List (V × V)) (m2 m3:List V):R :=
 some (.head 0 (Hl x1 x2 x3 x4 x5 m1 m2 m3))
theorem IJ (x1 x2:Int) (x3 x4:List UInt8) (x5:Int) (m1:List (V × V)) (m2 m3:List V):Ec 132 4 ⟨true,false,true,[3,9]⟩ [V.ptr 0 0 0,V.int .i64 x1,V.int .i64 x2,V.str x3,V.str x4,V.int .i64 x5] (fm m1 m2 m3) (QW x1 x2 x3 x4 x5 m1 m2 m3):=ec (by kernel_rfl) (by kernel_rfl)
noncomputable def xv (x1 x2:Int) (x3 x4:List UInt8) (x5:Int) (m1:List (V × V)) (m2 m3:List V):R :=
 cond (decide ((m2.length:Int)<=x1))
 (gd (decide (m2.length+([V.int .i64 (W .i64 (x2+1))]:List V).length<=16777216)) <|
  gd (decide (m3.length+([V.str x3]:List V).length<=16777216)) <|
  some (.head 0 (yk x1 x2 x3 x4 x5 m1 (m2++[V.int .i64 (W .i64 (x2+1))]) (m3++[V.str x3]))))
 (gd (decide (0<=x1)) <|
  gd (decide (x1.toNat < m2.length)) <|
  aH m2 (0+x1.toNat) fun v =>
  kI .i64 v fun n =>
  cond (n==(W .i64 (x2+1)))
 (gd (decide (0<=x1)) <|
  gd (decide (x1.toNat < m3.length)) <|
  aH m3 (0+x1.toNat) fun v_1 =>
  kS v_1 fun s =>
  gd (decide (0<=x1)) <|
  gd (decide (x1.toNat < m2.length)) <|
  aH m2 (0+x1.toNat) fun v_2 =>
  kI .i64 v_2 fun n_1 =>
  gd (decide (0<=x1)) <|
  gd (decide (x1.toNat < m3.length)) <|
  aH m3 (0+x1.toNat) fun v_3 =>
  kS v_3 fun s_1 =>
  some (.doneM (V.bool (s==x3)) (fm m1 (((m2).set (0+x1.toNat) (V.int .i64 x5))) (((m3).set (0+x1.toNat) (V.str x4))))))
 (gd (decide (0<=x1)) <|
  gd (decide (x1.toNat < m2.length)) <|
  aH m2 (0+x1.toNat) fun v_4 =>
  kI .i64 v_4 fun n_2 =>
  gd (decide (0<=x1)) <|
  gd (decide (x1.toNat < m3.length)) <|
  aH m3 (0+x1.toNat) fun v_5 =>
  kS v_5 fun s_2 =>
  some (.doneM (V.bool false) (fm m1 (((m2).set (0+x1.toNat) (V.int .i64 x5))) (((m3).set (0+x1.toNat) (V.str x4)))))))
theorem ME (x1 x2:Int) (x3 x4:List UInt8) (x5:Int) (m1:List (V × V)) (m2 m3:List V):Rd true 4 132 0 (Hl x1 x2 x3 x4 x5 m1 m2 m3) (xv x1 x2 x3 x4 x5 m1 m2 m3):=rd (by kernel_rfl)
noncomputable def Fs (x1 x2:Int) (x3 x4:List UInt8) (x5:Int) (m1:List (V × V)) (m4 m5:List V):R :=
 cond (decide ((m4.length:Int)<=x1))
 (gd (decide (m4.length+([V.int .i64 (W .i64 (x2+1))]:List V).length<=16777216)) <|
  gd (decide (m5.length+([V.str x3]:List V).length<=16777216)) <|
  some (.head 0 (yk x1 x2 x3 x4 x5 m1 (m4++[V.int .i64 (W .i64 (x2+1))]) (m5++[V.str x3]))))
 (gd (decide (0<=x1)) <|
  gd (decide (x1.toNat < m4.length)) <|
  aH m4 (0+x1.toNat) fun v =>
  kI .i64 v fun n =>
  cond (n==(W .i64 (x2+1)))
 (gd (decide (0<=x1)) <|
  gd (decide (x1.toNat < m5.length)) <|
  aH m5 (0+x1.toNat) fun v_1 =>
  kS v_1 fun s =>
  gd (decide (0<=x1)) <|
  gd (decide (x1.toNat < m4.length)) <|
  aH m4 (0+x1.toNat) fun v_2 =>
  kI .i64 v_2 fun n_1 =>
  gd (decide (0<=x1)) <|
  gd (decide (x1.toNat < m5.length)) <|
  aH m5 (0+x1.toNat) fun v_3 =>
  kS v_3 fun s_1 =>
  some (.doneM (V.bool (s==x3)) [O.box 144 (V.agg [V.mp 1,V.tail 4 0,V.tail 5 0]) false,O.map m1,O.dead,O.dead,O.row 3 ((m4).set (0+x1.toNat) (V.int .i64 x5)) 0,O.row 9 ((m5).set (0+x1.toNat) (V.str x4)) 0]))
 (gd (decide (0<=x1)) <|
  gd (decide (x1.toNat < m4.length)) <|
  aH m4 (0+x1.toNat) fun v_4 =>
  kI .i64 v_4 fun n_2 =>
  gd (decide (0<=x1)) <|
  gd (decide (x1.toNat < m5.length)) <|
  aH m5 (0+x1.toNat) fun v_5 =>
  kS v_5 fun s_2 =>
  some (.doneM (V.bool false) [O.box 144 (V.agg [V.mp 1,V.tail 4 0,V.tail 5 0]) false,O.map m1,O.dead,O.dead,O.row 3 ((m4).set (0+x1.toNat) (V.int .i64 x5)) 0,O.row 9 ((m5).set (0+x1.toNat) (V.str x4)) 0])))
theorem XA (x1 x2:Int) (x3 x4:List UInt8) (x5:Int) (m1:List (V × V)) (m4 m5:List V):Rd true 4 132 0 (yk x1 x2 x3 x4 x5 m1 m4 m5) (Fs x1 x2 x3 x4 x5 m1 m4 m5):=rd (by kernel_rfl)
def vO (x2 x3:Int) (m0:List V):S:=⟨[V.own 0,V.junk,V.int .i64 x2,V.int .i64 x3]++(JU 24),[O.row 3 m0 0]⟩
noncomputable def IR (m0:List V):R :=
 some (.head 0 (vO 0 (W .i64 ((m0.length:Int) - 1)) m0))
theorem Ri (m0:List V):Ec 169 1 al [V.own 0] [O.row 3 m0 0] (IR m0):=ec (by kernel_rfl) (by kernel_rfl)
noncomputable def FC (x2 x3:Int) (m0:List V):R :=
 cond (decide (x2 < x3))
 (gd (decide (0<=x3)) <|
  gd (decide (x3.toNat < m0.length)) <|
  aH m0 x3.toNat fun v =>
  kI .i64 v fun n =>
  gd (decide (0<=x2)) <|
  gd (decide (x2.toNat < m0.length)) <|
  aH m0 x2.toNat fun v_1 =>
  kI .i64 v_1 fun n_1 =>
  gd (decide (0<=x2)) <|
  gd (decide (x2.toNat < m0.length)) <|
  aH m0 x2.toNat fun v_2 =>
  kI .i64 v_2 fun n_2 =>
  gd (decide (0<=x3)) <|
  gd (decide (x3.toNat < ((m0).set x2.toNat (V.int .i64 n)).length)) <|
  aH ((m0).set x2.toNat (V.int .i64 n)) x3.toNat fun v_3 =>
  kI .i64 v_3 fun n_3 =>
  some (.head 0 (vO (W .i64 (x2+1)) (W .i64 (x3 - 1)) (((m0).set x2.toNat (V.int .i64 n)).set x3.toNat (V.int .i64 n_1)))))
 (some (.doneM (V.tup []) [O.row 3 m0 0]))
theorem MK (x2 x3:Int) (m0:List V):Rd true 1 169 0 (vO x2 x3 m0) (FC x2 x3 m0):=rd (by kernel_rfl)
noncomputable def IS (x1 m0_1:Int) (m1:List V):R :=
 cond (decide (x1 ≥ 0))
 (cond (!(decide (x1 < m0_1)))
 (some (.doneM (V.int .i64 1) (bm m0_1 m1)))
 (cN aa al lL 137 [V.ptr 0 0 0,V.int .i64 x1] (bm m0_1 m1) fun L =>
  bD (bm m0_1 m1) <|
  cond (!L)
 (some (.doneM (V.int .i64 7) (bm m0_1 m1)))
 (gd (decide (0<=W .i64 ((x1.tdiv 8)))) <|
  gd (decide ((W .i64 ((x1.tdiv 8))).toNat < m1.length)) <|
  aH m1 (0+((W .i64 ((x1.tdiv 8))).toNat)) fun v =>
  kI .u8 v fun n =>
  ai aa 193 [V.int .i64 x1] fun r =>
  kI .u8 r fun r193 =>
  gd (decide (0<=W .i64 ((x1.tdiv 8)))) <|
  gd (decide ((W .i64 ((x1.tdiv 8))).toNat < m1.length)) <|
  aH m1 (0+((W .i64 ((x1.tdiv 8))).toNat)) fun v_1 =>
  kI .u8 v_1 fun n_1 =>
  some (.doneM (V.int .i64 0) (bm m0_1 (((m1).set (0+((W .i64 ((x1.tdiv 8))).toNat)) (V.int .u8 (W .u8 (((BitVec.ofInt (IntKind.bits .u8) n &&& ~~~(BitVec.ofInt (IntKind.bits .u8) r193)).toNat:Int)))))))))))
 (some (.doneM (V.int .i64 1) (bm m0_1 m1)))
theorem Rj (x1 m0_1:Int) (m1:List V):Ec 174 2 al [V.ptr 0 0 0,V.int .i64 x1] (bm m0_1 m1) (IS x1 m0_1 m1):=ec (by kernel_rfl) (by kernel_rfl)
set_option linter.unusedSimpArgs false
abbrev cE (s:Bs):Prop:=s.length < 4294967296
def wY (s:Bs) (n:Int):Int:=if 0<=n/\n<=(s.length:Int) then 0 else 1
def jB (s:Bs) (n size:Int):Int:=if size < 1∨8 < size∨¬(0<=n/\n<=(s.length:Int)) then 1 else if (s.length:Int) - n < size then 3 else 0
theorem Mf {s:Bs} {n size:Int} (h:jB s n size=0):1<=size/\size<=8/\0<=n/\n+size<=(s.length:Int):=by
 unfold jB at h
 split at h
 ·cases h
 ·split at h
  ·cases h
  ·omega
theorem xk {s:Bs} {n size:Int} (h1:1<=size) (h2:size<=8) (h3:0<=n) (h4:n+size<=(s.length:Int)):jB s n size=0:=by
 unfold jB
 rw [if_neg (by omega),if_neg (by omega)]
theorem EG (s:Bs) (n:Int):bu aa 113 [.str s,.int .i64 n]=some (.int .i64 (wY s n)):=by
 refine Qy _ _ ?_
 unfold Cc wY
 by_cases h1:n < 0
 ·rw [decide_eq_true h1,if_neg (by omega)];rfl
 ·rw [decide_eq_false h1]
  by_cases h2:n > (s.length:Int)
  ·rw [decide_eq_true h2,if_neg (by omega)];rfl
  ·rw [decide_eq_false h2,if_pos (by omega)];rfl
theorem xl (s:Bs) (n size:Int) (hs:cE s):bu aa 208 [.str s,.int .i64 n,.int .i64 size]=some (.int .i64 (jB s n size)):=by
 refine Rz _ _ _ ?_
 unfold Cy jB
 rw [au (EG s n),bH]
 by_cases h1:size < 1
 ·rw [decide_eq_true h1,if_pos (.inl h1)];rfl
 rw [decide_eq_false h1,cond_false]
 by_cases h2:size > 8
 ·rw [decide_eq_true h2,if_pos (.inr (.inl h2))];rfl
 rw [decide_eq_false h2,cond_false]
 unfold wY
 by_cases h3:0<=n/\n<=(s.length:Int)
 ·rw [if_pos h3,if_neg (by omega),aK (by omega)]
  by_cases h4:(s.length:Int) - n < size
  ·rw [decide_eq_true h4,if_pos h4];rfl
  ·rw [decide_eq_false h4,if_neg h4];rfl
 ·rw [if_neg h3,if_pos (.inr (.inr h3))];rfl
def ff (s:Bs) (n size:Int):Int × Int:=if jB s n size=0 then (((dp ((s.drop n.toNat).take size.toNat):Nat):Int),0) else (0,jB s n size)
theorem Tn (s:Bs) (n k:Nat) (hk:k<=8) (hl:n+k<=s.length) (hs:cE s):∀d i,i+d=k ->
  Go qk false 0 (fF 214) (.head 0 (tD s (n:Int) ((dp ((s.drop n).take i):Nat):Int) (k:Int) (i:Int))) (.done (.tup [.int .u64 ((dp ((s.drop n).take k):Nat):Int),.int .i64 0])):=by
 intro d
 induction d with
 | zero =>
  intro i hi
  have:i=k:=by omega
  subst this
  refine MV _ _ _ _ _ ?_ (.refl _)
  unfold FG
  rw [decide_eq_false (by omega)]
  rfl
 | succ d ih =>
  intro i hi
  have hsl:=hs
  have af:n+i < s.length:=by omega
  obtain ⟨c,hc⟩:∃c,s[n+i]? = some c:=⟨_,bj af⟩
  have hlen:((s.drop n).take i).length=i:=by simp;omega
  have e1:(s.drop n).take (i+1)=(s.drop n).take i++[c]:=by
   rw [G9,fN,hc];rfl
  have hx:dp ((s.drop n).take i) < 256 ^ i:=by have:=A8 ((s.drop n).take i);rwa [hlen] at this
  refine MV _ _ _ _ _ (o:=.head 0 (tD s (n:Int) ((dp ((s.drop n).take (i+1)):Nat):Int) (k:Int) ((i+1:Nat):Int))) ?_ (ih (i+1) (by omega))
  unfold FG
  have w1:W .i64 ((n:Int)+(i:Int))=((n+i:Nat):Int):=by rw [aK (by omega)];omega
  have w2:W .i64 (8 * (i:Int))=8 * (i:Int):=aK (by omega)
  have w3:W .i64 ((i:Int)+1)=((i+1:Nat):Int):=by rw [aK (by omega)];omega
  rw [decide_eq_true (by omega),cond_true,w1,ak (by simp;omega),aU,cO hc,VU hx c.toNat_lt (by omega),w2,ak (by simp;omega),w3,e1,N4,hlen]
theorem Tq (s:Bs) (n size:Int) (hs:cE s):bu aa 214 [.str s,.int .i64 n,.int .i64 size]=some (.tup [.int .u64 (ff s n size).1,.int .i64 (ff s n size).2]):=by
 by_cases h:jB s n size=0
 ·obtain ⟨h1,h2,h3,h4⟩:=Mf h
  obtain ⟨k,rfl⟩:∃k:Nat,size=(k:Int):=⟨size.toNat,by omega⟩
  obtain ⟨m,rfl⟩:∃m:Nat,n=(m:Int):=⟨n.toNat,by omega⟩
  have hl:=Tn s m k (by omega) (by omega) hs k 0 (by omega)
  refine IV _ _ _ ?_ (o:=.head 0 (tD s (m:Int) 0 (k:Int) 0)) ?_
  ·unfold Cz
   rw [au (xl s _ _ hs),bH,h];rfl
  ·unfold ff
   rw [if_pos h]
   simpa [dp] using hl
 ·refine IV _ _ _ ?_ (.refl _)
  unfold Cz ff
  rw [au (xl s _ _ hs),bH,if_neg h,lD h];rfl
def sB (s:Bs) (n size:Int) (x:Nat):Bs × Int:=if jB s n size=0 then (if x < 256 ^ size.toNat then (oH s n.toNat (bI size.toNat x),0) else ([],2)) else ([],jB s n size)
theorem V2 {av:List V} {v:V} (h:uK av=some v):bu aa 209 av=some v:=Aj (g:=uK) rfl h
theorem LC (s:Bs) (n:Nat) (t:Bs) (h:n+t.length<=s.length) (l:List V) (ns:List Int) (hl:fj l=some ns) (ht:(ns.map fun x=>UInt8.ofNat x.toNat)=t) :
  bu aa 209 [.str s,.int .i64 (n:Int),.sl l]=some (.str (oH s n t)):=by
 apply V2
 have e:l.length=t.length:=by rw [<-ht,dA,(Ev hl).1]
 simp only [uK,aU]
 rw [if_pos ⟨GX _,by omega⟩,hl,bS,ht]
def putRow (x k i:Nat):List V:=(bI i x).map (fun b=>V.int .u8 (b.toNat:Int))++bl (k - i) (V.int .u8 0)
theorem Wx {x k i:Nat} (h:i<=k):(putRow x k i).length=k:=by simp [putRow,dK];omega
theorem WA {x k i:Nat} (h:i < k):(putRow x k i).set i (V.int .u8 ((x / 256 ^ i % 256:Nat):Int))=putRow x k (i+1):=by
 unfold putRow
 rw [Bu _ _ (by simp [dK])]
 simp only [dA,dK,iI]
 rw [show k - i=(k - (i+1))+1 by omega,List.replicate_succ,List.set_cons_zero,Ku,gv,bc]
 congr 1
 simp only [cU,iH,c8,dB,List.cons.injEq,V.int.injEq,true_and,and_true]
 simp
theorem WE (s:Bs) (n k x:Nat) (hk:k<=8) (h1:1<=k) (hl:n+k<=s.length) (hs:cE s):∀d i,i+d=k ->
  Go qk false 0 (fF 161) (.head 0 (qS s (n:Int) (x:Int) (k:Int) (i:Int) (putRow x k i))) (.done (.tup [.str (oH s n (bI k x)),.int .i64 0])):=by
 intro d
 induction d with
 | zero =>
  intro i hi
  have:i=k:=by omega
  subst this
  refine MI _ _ _ _ _ _ ?_ (.refl _)
  unfold Fy
  have hrow:putRow x i i=di (bI i x):=by simp [putRow,di]
  rw [decide_eq_false (by omega),cond_false,au (LC s n (bI i x) (by rw [dK];exact hl) _ _ (by rw [hrow];exact z8 _) (Aa _)),ef]
 | succ d ih =>
  intro i hi
  have hsl:=hs
  refine MI _ _ _ _ _ _ (o:=.head 0 (qS s (n:Int) (x:Int) (k:Int) ((i+1:Nat):Int) (putRow x k (i+1)))) ?_ (ih (i+1) (by omega))
  unfold Fy
  have w2:W .i64 (8 * (i:Int))=8 * (i:Int):=aK (by omega)
  have w3:W .i64 ((i:Int)+1)=((i+1:Nat):Int):=by rw [aK (by omega)];omega
  have hget:(putRow x k i)[i]? = some (V.int .u8 0):=by
   unfold putRow
   rw [cJ (by simp [dK])]
   simp only [dA,dK,iI]
   rw [List.getElem?_replicate,if_pos (by omega)]
  rw [F9 (by omega),Hr]
  rw [decide_eq_true (by omega),cond_true,w2,ak (by simp;omega),ak (by simp),aU,ak (by rw [Wx (by omega)];simp;omega),cO hget,bH,WA (by omega),w3]
theorem WG (s:Bs) (n size:Int) (x:Nat) (hx:x < 18446744073709551616) (hs:cE s):bu aa 161 [.str s,.int .i64 n,.int .i64 size,.int .u64 (x:Int)]=some (.tup [.str (sB s n size x).1,.int .i64 (sB s n size x).2]):=by
 by_cases h:jB s n size=0
 ·obtain ⟨h1,h2,h3,h4⟩:=Mf h
  obtain ⟨k,rfl⟩:∃k:Nat,size=(k:Int):=⟨size.toNat,by omega⟩
  obtain ⟨m,rfl⟩:∃m:Nat,n=(m:Int):=⟨n.toNat,by omega⟩
  have w2:W .i64 (8 * (k:Int))=8 * (k:Int):=aK (by omega)
  have hfits:x < 256 ^ k↔x / 256 ^ k=0:=by rw [Nat.div_eq_zero_iff];constructor
                                           ·exact .inr
                                           ·rintro (h | h)
                                            ·exact absurd h (by have:=Nat.pow_pos (n:=k) (show 0 < 256 by decide);omega)
                                            ·exact h
  unfold sB
  rw [if_pos h,aU,aU]
  by_cases hb:x < 256 ^ k
  ·rw [if_pos hb]
   have hl:=WE s m k x (by omega) (by omega) (by omega) hs k 0 (by omega)
   have hrow:putRow x k 0=bl k (V.int .u8 0):=by simp [putRow,bI]
   rw [hrow] at hl
   refine Cn _ _ _ _ ?_ (o:=.head 0 (qS s (m:Int) (x:Int) (k:Int) 0 (bl k (V.int .u8 0)))) (by simpa using hl)
   unfold y6
   rw [au (xl s _ _ hs),bH,h]
   rw [F9 (by omega),hfits.1 hb,w2,aU]
   by_cases h8:(k:Int) < 8
   ·simp [h8,show ¬(8 * (k:Int) < 0) by omega]
    omega
   ·simp [h8]
    omega
  ·rw [if_neg hb]
   have h8:(k:Int) < 8:=by
    have:¬k=8:=by
     rintro rfl
     exact hb hx
    omega
   refine Cn _ _ _ _ ?_ (.refl _)
   unfold y6
   rw [au (xl s _ _ hs),bH,h]
   rw [F9 (by omega),w2]
   have:0 < x / 256 ^ k:=Nat.pos_of_ne_zero fun e=>hb (hfits.2 e)
   have hp:(((x / 256 ^ k:Nat):Int) > 0):=by omega
   rw [decide_eq_true h8,decide_eq_true hp,decide_eq_false (show ¬(8 * (k:Int) < 0) by omega)]
   rfl
 ·refine Cn _ _ _ _ ?_ (.refl _)
  unfold y6 sB
  rw [au (xl s _ _ hs),bH,if_neg h,lD h];rfl
def fK (s:Bs) (n:Int):Bs × Int × Int :=
 if 0<=n/\n<=(s.length:Int) then
  match s.drop n.toNat with
  | []=>([],0,3)
  | c::r=>if r.length < c.toNat then ([],0,3) else (r.take c.toNat,n+1+c.toNat,0)
 else ([],0,1)
theorem Y3 (s:Bs) (n:Int) (hs:cE s):bu aa 71 [.str s,.int .i64 n]=some (.tup [.str (fK s n).1,.int .i64 (fK s n).2.1,.int .i64 (fK s n).2.2]):=by
 refine RP _ _ ?_
 have hsl:=hs
 unfold CH fK
 rw [au (EG s n),bH]
 unfold wY
 by_cases h:0<=n/\n<=(s.length:Int)
 ·rw [if_pos h,if_pos h]
  obtain ⟨m,rfl⟩:∃m:Nat,n=(m:Int):=⟨n.toNat,by omega⟩
  rw [aU]
  cases hd:s.drop m with
  | nil =>
   have:s.length<=m:=Bn.1 hd
   rw [dx (show (m:Int)=(s.length:Int) by omega)]
   rfl
  | cons c r =>
   obtain ⟨h1,h2,h3⟩:=fT hd
   have hrl:r.length+m+1=s.length:=by
    have:=congrArg nL hd
    simp at this
    omega
   have hcl:=c.toNat_lt
   have w1:W .i64 (c.toNat:Int)=(c.toNat:Int):=aK (by omega)
   have w2:W .i64 (W .i64 ((s.length:Int) - (m:Int)) - 1)=(r.length:Int):=by
    rw [aK (n:=(s.length:Int) - (m:Int)) (by omega),aK (by omega)];omega
   have w3:W .i64 ((m:Int)+1)=((m+1:Nat):Int):=by rw [aK (by omega)];omega
   have w4:W .i64 (((m+1:Nat):Int)+(c.toNat:Int))=((m+1+c.toNat:Nat):Int):=by rw [aK (by omega)];omega
   rw [dJ (show (m:Int)≠(s.length:Int) by omega)]
   simp only [cO h1,w1,w2,w3,w4,aU]
   by_cases hb:r.length < c.toNat
   ·rw [if_pos hb,decide_eq_true (show (r.length:Int) < (c.toNat:Int) by omega)]
    simp
   ·rw [if_neg hb,decide_eq_false (show ¬(r.length:Int) < (c.toNat:Int) by omega)]
    have e1:(s.take (m+1+c.toNat)).drop (m+1)=r.take c.toNat:=by
     rw [List.drop_take,show m+1+c.toNat - (m+1)=c.toNat by omega]
     congr 1
    rw [e1]
    simp
    omega
 ·rw [if_neg h,if_neg h];rfl
def sC (s:Bs) (n:Int) (t:Bs):Bs × Int × Int :=
 if 0<=n/\n<=(s.length:Int) then
  if 255 < t.length then ([],0,2) else
  if (s.length:Int) - n < (t.length:Int)+1 then ([],0,3) else (oH s n.toNat (UInt8.ofNat t.length::t),n+t.length+1,0)
 else ([],0,1)
theorem WB (s:Bs) (n:Int) (t:Bs) (hs:cE s) (ht:cE t) :
  bu aa 162 [.str s,.int .i64 n,.str t]=some (.tup [.str (sC s n t).1,.int .i64 (sC s n t).2.1,.int .i64 (sC s n t).2.2]):=by
 refine Q7 _ _ _ ?_
 have hsl:=hs
 have htl:=ht
 unfold Co sC
 rw [au (EG s n),bH]
 unfold wY
 by_cases h:0<=n/\n<=(s.length:Int)
 ·rw [if_pos h,if_pos h]
  obtain ⟨m,rfl⟩:∃m:Nat,n=(m:Int):=⟨n.toNat,by omega⟩
  rw [aU]
  have w1:W .i64 ((s.length:Int) - (m:Int))=(s.length:Int) - (m:Int):=aK (by omega)
  have w2:W .i64 ((t.length:Int)+1)=(t.length:Int)+1:=aK (by omega)
  rw [w1,w2,dG rfl,cond_false]
  by_cases h2:255 < t.length
  ·rw [if_pos h2,decide_eq_true (show (t.length:Int) > 255 by omega)];rfl
  rw [if_neg h2,decide_eq_false (show ¬(t.length:Int) > 255 by omega),cond_false]
  by_cases h3:(s.length:Int) - (m:Int) < (t.length:Int)+1
  ·rw [if_pos h3,decide_eq_true h3];rfl
  rw [if_neg h3,decide_eq_false h3,cond_false]
  have w3:W .u8 ((t.length:Int))=((t.length:Nat):Int):=by rw [Hr];omega
  have w4:W .i64 ((m:Int)+(t.length:Int))=(m:Int)+(t.length:Int):=aK (by omega)
  have w5:W .i64 ((m:Int)+(t.length:Int)+1)=(m:Int)+(t.length:Int)+1:=aK (by omega)
  have e1:fj ([V.int .u8 ((t.length:Nat):Int)]++di t)=some (((t.length:Nat):Int)::t.map fun b=>(b.toNat:Int)):=by
   simp only [c8,dB,fj,z8,bS]
  have e2:((((t.length:Nat):Int)::t.map fun b=>(b.toNat:Int)).map fun x=>UInt8.ofNat x.toNat)=UInt8.ofNat t.length::t:=by
   rw [cU,Aa,aU]
  rw [w3,w4,w5,ak (Zr t),ak (by simp [BN];omega),au (LC s m (UInt8.ofNat t.length::t) (by simp;omega) _ _ e1 e2),ef]
 ·rw [if_neg h,if_neg h];rfl
def qi (s:Bs) (n:Int):Bs × Int:=if n < 0∨65536 < n then ([],1) else if n < (s.length:Int) then ([],2) else (s++bl (n.toNat - s.length) 0,0)
theorem VF (k:Nat):fj (bl k (V.int .u8 0))=some (bl k 0):=by
 have:=VE (bl k 0)
 rwa [G5] at this
theorem V5 (s:Bs) (n:Int) (hs:cE s):bu aa 160 [.str s,.int .i64 n]=some (.tup [.str (qi s n).1,.int .i64 (qi s n).2]):=by
 refine Q5 _ _ ?_
 have hsl:=hs
 unfold Cm qi
 by_cases h1:n < 0
 ·rw [decide_eq_true h1,if_pos (.inl h1)];rfl
 rw [decide_eq_false h1,cond_false]
 by_cases h2:n > 65536
 ·rw [decide_eq_true h2,if_pos (.inr h2)];rfl
 rw [decide_eq_false h2,cond_false,if_neg (by omega)]
 by_cases h3:(s.length:Int) > n
 ·rw [decide_eq_true h3,if_pos h3];rfl
 rw [decide_eq_false h3,cond_false,if_neg h3]
 obtain ⟨k,rfl⟩:∃k:Nat,n=((s.length+k:Nat):Int):=⟨(n - s.length).toNat,by omega⟩
 have w:W .i64 (((s.length+k:Nat):Int) - (s.length:Int))=(k:Int):=by rw [aK (by omega)];omega
 rw [w,aU,aU,ak (by simp),ak (by simp),ak (by simp;omega),VF,hJ,G5,show s.length+k - s.length=k by omega]
 rw [ak (by simp;omega)]
 rfl
def lj (s:Bs):Bs:=(s.reverse.dropWhile fun b=>b==0).reverse
theorem O9 (s:Bs):lj (s++[0])=lj s:=by simp [lj]
theorem O6 (s:Bs) {c:UInt8} (h:c≠0):lj (s++[c])=s++[c]:=by simp [lj,h]
theorem O7 (s:Bs) (hs:cE s):∀n,n<=s.length->Go qk false 0 (fF 176) (.head 0 (vP s (n:Int))) (.done (.str (lj (s.take n)))):=by
 intro n
 have hsl:=hs
 induction n with
 | zero =>
  intro _
  refine FF _ _ ?_ (.refl _)
  unfold AI
  rw [decide_eq_false (by omega),cond_false,ak (by simp),ak (by simp)]
  rfl
 | succ n ih =>
  intro hn
  have af:n < s.length:=by omega
  have hc:s[n]? = some s[n]:=bj af
  have e1:s.take (n+1)=s.take n++[s[n]]:=by rw [G9,hc];rfl
  have w:W .i64 (((n+1:Nat):Int) - 1)=(n:Int):=by rw [aK (by omega)];omega
  by_cases hz:s[n]=0
  ·refine FF _ _ (o:=.head 0 (vP s (n:Int))) ?_ ?_
   ·unfold AI
    rw [decide_eq_true (by omega),cond_true,w,ak (by simp),aU,cO hc,hz]
    rfl
   ·have:=ih (by omega)
    rw [e1,hz,O9]
    exact this
  ·refine FF _ _ ?_ (.refl _)
   unfold AI
   have hz2:¬((s[n].toNat:Int)=0):=by
    intro e
    exact hz (UInt8.toNat_inj.1 (by simpa using e))
   rw [decide_eq_true (by omega),cond_true,w,ak (by simp),aU,cO hc,dJ hz2,cond_false,ak (by simp;omega),aU,ak (by simp;omega),e1,O6 _ hz]
theorem HL (s:Bs) (hs:cE s):bu aa 176 [.str s]=some (.str (lj s)):=by
 have:=O7 s hs s.length (bq _)
 rw [lc] at this
 exact Rl _ rfl this
def bi (s:Bs):Bool:=!(s==[]) && decide (s.length<=16)
theorem gY (s:Bs):bu aa 73 [.str s]=some (.bool (bi s)):=by
 refine RS _ ?_
 unfold CI bi
 cases h:s==[] with
 | true=>rfl
 | false =>
  rw [decide_eq_decide.2 (show ((s.length:Int)<=16)↔(s.length<=16) by omega)];rfl
def aE (l:List Bs):List V:=l.map V.str
def ae (l:List Int):List V:=l.map (V.int .i64)
theorem fp (l:List Bs):(aE l).length=l.length:=by simp [aE]
theorem bO (l:List Int):(ae l).length=l.length:=by simp [ae]
theorem j5 {l:List Bs} {n:Nat} {x:Bs} {k:V->R} (h:l[n]? = some x):aH (aE l) n k=k (.str x):=DG h
theorem d9 {l:List Int} {n:Nat} {x:Int} {k:V->R} (h:l[n]? = some x):aH (ae l) n k=k (.int .i64 x):=DG h
theorem Ua (a b:List Int) (hab:a.length=b.length) (hl:a.length < 4294967296):∀(r s:List Int) (k:Nat),a.drop k=r->b.drop k=s ->
  Go qk false 0 (fF 49) (.head 0 (tE (ae a) (ae b) (k:Int))) (.done (.bool (r==s))):=by
 intro r
 induction r with
 | nil =>
  intro s k hr hs
  have h1:=drop_nil hr
  have:s=[]:=by rw [<-hs];exact Bn.2 (by omega)
  subst this
  refine FM _ _ _ ?_ (.refl _)
  unfold AL
  rw [decide_eq_false (by first | omega | (simp only [bO];omega))]
  rfl
 | cons x r ih =>
  intro s k hr hs
  obtain ⟨h1,h2,h3⟩:=fT hr
  cases s with
  | nil=>have:=drop_nil hs;omega
  | cons y s =>
   obtain ⟨h4,h5,h6⟩:=fT hs
   have w:W .i64 ((k:Int)+1)=((k+1:Nat):Int):=by rw [aK (by omega)];omega
   by_cases e:x=y
   ·subst e
    refine FM _ _ _ (o:=.head 0 (tE (ae a) (ae b) ((k+1:Nat):Int))) ?_ ?_
    ·unfold AL
     rw [decide_eq_true (by first | omega | (simp only [bO];omega)),cond_true,ak (by simp),aU,d9 h1,bH,ak (by simp),d9 h4,bH,w]
     simp
    ·have:=ih s (k+1) h2 h5
     simpa using this
   ·refine FM _ _ _ ?_ (.refl _)
    have e2:((x::r)==(y::s))=false:=by
     simp [e]
    unfold AL
    rw [decide_eq_true (by first | omega | (simp only [bO];omega)),cond_true,ak (by simp),aU,d9 h1,bH,ak (by simp),d9 h4,bH,(show (x != y)=true by simpa using e),e2]
    rfl
theorem Kl (a b:List Int) (hl:a.length < 4294967296):bu aa 49 [.sl (ae a),.sl (ae b)]=some (.bool (a==b)):=by
 by_cases h:a.length=b.length
 ·refine I3 _ _ (o:=.head 0 (tE (ae a) (ae b) ((0:Nat):Int))) ?_ (Ua a b h hl a b 0 rfl rfl)
  unfold CF
  rw [bO,bO,dG (by omega)]
  rfl
 ·refine I3 _ _ ?_ (.refl _)
  unfold CF
  have:(a==b)=false:=by
   simp only [beq_eq_false_iff_ne,ne_eq]
   rintro rfl
   exact h rfl
  rw [bO,bO,lD (by omega),this]
  rfl
def iK (l:List Bs):Prop:=l.Pairwise fun p q=>lt p q=true
def bp (m:List Bs) (k:Bs):Nat:=(m.takeWhile fun p=>lt p k).length
def bQ (m:List Bs) (k:Bs):Bool:=match m[bp m k]? with | some p=>p==k | none=>false
theorem wQ (m:List Bs) (k:Bs):bp m k<=m.length:=(List.takeWhile_sublist _).length_le
theorem zJ (p:Bs) (m:List Bs) (k:Bs):bp (p::m) k=if lt p k then bp m k+1 else 0:=by
 unfold bp
 rw [List.takeWhile_cons]
 split<;>simp_all
theorem zK {m:List Bs} (hs:iK m) (k:Bs):∀{i:Nat} {p:Bs},m[i]? = some p->(lt p k=true↔i < bp m k):=by
 induction m with
 | nil=>intro i p h;simp at h
 | cons x m ih =>
  intro i p h
  rw [zJ]
  have hx:=fP.1 hs
  cases i with
  | zero =>
   simp at h;subst h
   cases hl:lt x k<;>simp
  | succ i =>
   simp at h
   have hp:=hx.1 p (cf h)
   cases hl:lt x k with
   | true =>
    have:=ih hx.2 h
    simp only [if_true,this]
    omega
   | false =>
    simp only [cv,if_false]
    constructor
    ·intro h2;rw [lt_trans hp h2] at hl;cases hl
    ·intro h2;omega
theorem J2 {i j:Nat} (h:i+j < 4611686018427387904):W .i64 ((W .u64 (W .i64 ((i:Int)+(j:Int)))).fdiv (2 ^ (min 1 (IntKind.bits .u64))))=((i+j) / 2:Nat):=by
 rw [aK (n:=(i:Int)+(j:Int)) (by omega),li (by omega)]
 have e:(2:Int) ^ (min 1 (IntKind.bits .u64))=2:=rfl
 rw [e,Ov _ (by omega)]
 have e2:((i:Int)+(j:Int)) / 2=((i+j) / 2:Nat):=by omega
 rw [e2]
 exact aK (by omega)
theorem Ue (s:Bs):bu aa 223 [.str s]=some (.bool false):=RB _ (by unfold CB;simp)
theorem Ud (s:Bs):bu aa 206 [.str s]=some (.bool false):=Rx _ (by unfold Cx;simp)
theorem KA (a b:Bs):bu aa 205 [.str a,.str b]=some (.bool (lt a b)):=by
 refine Rv _ _ ?_
 unfold Cw
 rw [au (Ue a)]
 rfl
theorem XV (m:List Bs) (hs:iK m) (k:Bs) (hl:m.length<=1000000):∀(d i j:Nat),j - i<=d->i<=bp m k->bp m k<=j->j<=m.length ->
  Go qk false 0 (fF 155) (.head 0 (pk (aE m) k m.length i j)) (.done (.tup [.int .i64 (bp m k),.bool (bQ m k)])):=by
 intro d
 induction d with
 | zero =>
  intro i j hd hi hj hn
  have e:i=bp m k:=by omega
  refine Fv _ _ _ _ _ ?_ (.refl _)
  unfold AG
  rw [decide_eq_false (by omega),cond_false]
  by_cases af:i < m.length
  ·have h1:m[i]? = some m[i]:=bj af
   have e2:bQ m k=(m[i]==k):=by unfold bQ;rw [<-e,h1]
   rw [<-e,decide_eq_true (by omega),cond_true,ak (by simp),aU,j5 h1,ef,e2]
   cases hx:m[i]==k with
   | true=>rfl
   | false =>
    rw [cond_false,ak (by simp),j5 h1,ef,au (Ud _),cy]
    rfl
  ·have e2:bQ m k=false:=by unfold bQ;rw [<-e,vy (by omega)]
   rw [<-e,e2,decide_eq_false (by omega)]
   rfl
 | succ d ih =>
  intro i j hd hi hj hn
  by_cases hij:i < j
  ·have hh:=J2 (i:=i) (j:=j) (by omega)
   generalize hg:(i+j) / 2=h at hh
   have hb:i<=h/\h < j:=by omega
   have h1:m[h]? = some m[h]:=bj (by omega)
   have hlb:=zK hs k h1
   have w:W .i64 ((h:Int)+1)=((h+1:Nat):Int):=by rw [aK (by omega)];omega
   cases hx:lt m[h] k with
   | true =>
    refine Fv _ _ _ _ _ (o:=.head 0 (pk (aE m) k m.length ((h+1:Nat):Int) j)) ?_ (ih (h+1) j (by omega) (by have:=hlb.1 hx;omega) hj hn)
    unfold AG
    rw [decide_eq_true (by omega),cond_true,hh,ak (by simp),aU,j5 h1,ef,au (KA _ _),cy,hx,cond_true,w]
   | false =>
    have hge:bp m k<=h:=by
     rcases jK h (bp m k) with q | q
     ·rw [hlb.2 q] at hx;cases hx
     ·exact q
    refine Fv _ _ _ _ _ (o:=.head 0 (pk (aE m) k m.length i h)) ?_ (ih i h (by omega) hi hge (by omega))
    unfold AG
    rw [decide_eq_true (by omega),cond_true,hh,ak (by simp),aU,j5 h1,ef,au (KA _ _),cy,hx,cond_false]
  ·exact ih i j (by omega) hi hj hn
theorem XW (m:List Bs) (hs:iK m) (k:Bs) (hl:m.length<=1000000):bu aa 155 [.sl (aE m),.str k]=some (.tup [.int .i64 (bp m k),.bool (bQ m k)]):=by
 refine Q0 _ _ (o:=.head 0 (pk (aE m) k m.length ((0:Nat):Int) m.length)) ?_ (XV m hs k hl _ 0 m.length (bq _) (il _) (wQ m k) (bq _))
 unfold IM
 rw [fp]
 rfl
structure br where
 seps:List Bs
 kids:List Int
 high:Bs
 next:Int
abbrev eI (n:br):V:=.agg [.sl (aE n.seps),.sl (ae n.kids),.str n.high,.int .i64 n.next]
structure Sm (n:br):Prop where
 seps:n.seps.length<=1000
 sep:∀s∈n.seps,s.length<=1000
 kids:n.kids.length<=1000
 high:n.high.length<=1000
def bU:List Bs->Nat
 | []=>0
 | s::r=>3+s.length+bU r
theorem NF:∀{l:List Bs},(∀s∈l,s.length<=1000)->bU l<=1003 * l.length
 | [],_=>bq _
 | s::r,h=>by
  have h1:=h s (by simp)
  have h2:=NF (l:=r) fun x hx=>h x (by simp [hx])
  simp only [bU,cw]
  omega
def i4 (n:br):Nat:=7+n.high.length+bU n.seps
theorem Yc {n:br} (h:Sm n):i4 n<=1100000:=by
 have h1:=NF h.sep
 have h2:=h.seps
 have h3:=h.high
 unfold i4
 omega
theorem Yd (l:List Bs) (hl:l.length<=1000) (hs:∀s∈l,s.length<=1000):∀(r:List Bs) (k a:Nat),l.drop k=r->a<=2000+1003 * k ->
  Go qk false 0 (fF 163) (.head 0 (tC (a:Int) (aE l) (l.length:Int) (k:Int))) (.done (.int .i64 ((a+bU r:Nat):Int))):=by
 intro r
 induction r with
 | nil =>
  intro k a hr ha
  have h1:=drop_nil hr
  refine MJ _ _ _ _ ?_ (.refl _)
  simp (disch:=omega) only [FB,bU,dv,cond_true,cond_false,decide_true,decide_false,Dh,cy,bH,ef,pQ,DX,lH,jo,lY,l6,hJ,decide_eq_true,decide_eq_false,dx,dJ,lD,dG,aU,Gy,Gx,aK,fX,fO,nN,dA,cL,cw,fc,bA,i9,Bool.and_true,dq,j8,l8,Bool.or_true,sY,qJ,iG,cv,GR,beq_self_eq_true,Bool.true_beq,Bool.false_beq,Int.natCast_add,Int.natCast_one,Int.natCast_zero,Int.toNat_zero,GV,gv,cU,iH,bc,dB,c8,if_true,if_false,if_pos,if_neg]
 | cons x r ih =>
  intro k a hr ha
  obtain ⟨h1,h2,h3⟩:=fT hr
  have hx:=hs x (cf h1)
  refine MJ _ _ _ _ (o:=.head 0 (tC ((a+(3+x.length):Nat):Int) (aE l) (l.length:Int) ((k+1:Nat):Int))) ?_ ?_
  ·simp (disch:=omega) only [FB,j5 h1,cond_true,cond_false,decide_true,decide_false,Dh,cy,bH,ef,pQ,DX,lH,jo,lY,l6,hJ,decide_eq_true,decide_eq_false,dx,dJ,lD,dG,aU,Gy,Gx,aK,fX,fO,nN,dA,cL,cw,fc,bA,i9,Bool.and_true,dq,j8,l8,Bool.or_true,sY,qJ,iG,cv,GR,beq_self_eq_true,Bool.true_beq,Bool.false_beq,Int.natCast_add,Int.natCast_one,Int.natCast_zero,Int.toNat_zero,GV,gv,cU,iH,bc,dB,c8,if_true,if_false,if_pos,if_neg]
  ·have:=ih (k+1) (a+(3+x.length)) h2 (by omega)
   rw [bU,<-gG a (3+x.length)]
   exact this
theorem Nt (n:br) (h:Sm n):bu aa 163 [eI n]=some (.int .i64 (i4 n:Int)):=by
 have hh:=h.high
 refine Q9 _ _ _ _ (o:=.head 0 (tC ((7+n.high.length:Nat):Int) (aE n.seps) (n.seps.length:Int) ((0:Nat):Int))) ?_ (Yd n.seps h.seps h.sep n.seps 0 _ rfl (by omega))
 simp (disch:=omega) only [IQ,fp,cond_true,cond_false,decide_true,decide_false,Dh,cy,bH,ef,pQ,DX,lH,jo,lY,l6,hJ,decide_eq_true,decide_eq_false,dx,dJ,lD,dG,aU,Gy,Gx,aK,fX,fO,nN,dA,cL,cw,fc,bA,i9,Bool.and_true,dq,j8,l8,Bool.or_true,sY,qJ,iG,cv,GR,beq_self_eq_true,Bool.true_beq,Bool.false_beq,Int.natCast_add,Int.natCast_one,Int.natCast_zero,Int.toNat_zero,GV,gv,cU,iH,bc,dB,c8,if_true,if_false,if_pos,if_neg]
def dk (n:Int):Bool:=decide (0<=n) && decide (n < 1024)
theorem wX (n:Int):bu aa 203 [.int .i64 n]=some (.bool (dk n)):=by
 refine Rq _ ?_
 unfold Cu dk
 by_cases h:0<=n
 ·rw [decide_eq_true h];rfl
 ·rw [decide_eq_false h];rfl
def kJ (n:br):Bool:=decide (16+7+bU n.seps<=252)
theorem JF (n:br) (h:Sm n):bu aa 204 [eI n]=some (.bool (kJ n)):=by
 refine Rt _ _ _ _ ?_
 have h1:=Yc h
 have h2:=h.high
 unfold Cv
 rw [au (Nt n h),bH,aK (n:=(i4 n:Int) - (n.high.length:Int)) (by omega),aK (by omega)]
 unfold kJ
 rw [decide_eq_decide.2 (show (i4 n:Int) - (n.high.length:Int)+16<=252↔16+7+bU n.seps<=252 by unfold i4;omega)]
def dN (p:Bs):List Bs->Bool
 | []=>true
 | s::r=>bi s && lt p s && dN s r
def d8 (p:Bs) (high:Bs):Bool:=high==[] || bi high && lt p high
def pF (n:br):Bool:=decide (0<=n.next) && decide (n.next<=1024) && kJ n
def bv (n:br):Bool:=decide (n.kids.length=n.seps.length+1) && n.kids.all dk && dN [] n.seps && d8 (n.seps.getLastD []) n.high && pF n
abbrev eT (p:Bs × Int):V:=.tup [.str p.1,.int .i64 p.2]
theorem HO (a:List Bs) (b:List Int):((List.zipWith (fun x y=>[x,y]) (aE a) (ae b)).map V.tup)=(a.zip b).map eT:=by
 induction a generalizing b with
 | nil=>rfl
 | cons x a ih =>
  cases b with
  | nil=>rfl
  | cons y b =>
   have:=ih b
   simp only [aE,ae,cU,List.zipWith_cons_cons,Ha] at this |-
   rw [this]
def l7 (n:br):Bs->List (Bs × Int)->Bool
 | p,[]=>d8 p n.high && pF n
 | p,(s,k)::r=>bi s && lt p s && dk k && l7 n s r
theorem W7 (n:br) (h:Sm n):∀(l:List (Bs × Int)) (p:Bs),
  Go qk false 0 (fF 154) (.head 0 (vN (l.map eT) (aE n.seps) (ae n.kids) n.high n.next p)) (.done (.bool (l7 n p l))):=by
 intro l
 induction l with
 | nil =>
  intro p
  refine xw _ _ _ _ _ _ ?_ (.refl _)
  unfold AF
  simp only [iH,jz,au (JF n h),cy,au (gY n.high),l7,d8,pF]
  cases n.high==[] with
  | true =>
   by_cases h1:0<=n.next
   ·rw [decide_eq_true h1]
    cases decide (n.next<=1024)<;>rfl
   ·rw [decide_eq_false h1]
    rfl
  | false =>
   cases bi n.high with
   | false=>rfl
   | true =>
    show (cond (lt p n.high) _ _)=_
    cases lt p n.high with
    | false=>rfl
    | true =>
     by_cases h1:0<=n.next
     ·rw [decide_eq_true h1]
      cases decide (n.next<=1024)<;>rfl
     ·rw [decide_eq_false h1]
      rfl
 | cons x l ih =>
  obtain ⟨s,k⟩:=x
  intro p
  have e0:AF (((s,k)::l).map eT) (aE n.seps) (ae n.kids) n.high n.next p=cond (!bi s) (some (.done (V.bool false))) (cond (Op.bytesLess s p || s==p) (some (.done (V.bool false))) (cond (!dk k) (some (.done (V.bool false))) (some (.head 0 (vN (l.map eT) (aE n.seps) (ae n.kids) n.high n.next s))))):=by
   unfold AF
   simp only [cU,jz,lH,lY,ef,bH,l6,au (gY s),cy,au (wX k)]
  rw [Kw s p] at e0
  cases h1:bi s with
  | false =>
   refine xw _ _ _ _ _ _ (e0.trans ?_) (.refl _)
   rw [h1,l7,h1]
   rfl
  | true =>
   rw [h1] at e0
   cases h2:lt p s with
   | false =>
    refine xw _ _ _ _ _ _ (e0.trans ?_) (.refl _)
    rw [h2,l7,h1,h2]
    rfl
   | true =>
    rw [h2] at e0
    cases h3:dk k with
    | false =>
     refine xw _ _ _ _ _ _ (e0.trans ?_) (.refl _)
     rw [h3,l7,h1,h2,h3]
     rfl
    | true =>
     rw [h3] at e0
     refine xw _ _ _ _ _ _ e0 ?_
     rw [l7,h1,h2,h3]
     exact ih s
theorem Oo (n:br):∀(a:List Bs) (b:List Int) (p:Bs),b.length=a.length->l7 n p (a.zip b)=(b.all dk && dN p a && d8 (a.getLastD p) n.high && pF n)
 | [],b,p,h=>by
  have:b=[]:=by simpa using h
  subst this
  simp [l7,dN]
 | s::a,[],p,h=>by simp at h
 | s::a,k::b,p,h=>by
  have ih:=Oo n a b s (by simpa using h)
  have e:(s::a).getLastD p=a.getLastD s:=by
   cases a with
   | nil=>rfl
   | cons y a=>simp [List.getLastD]
  rw [Ha,l7,ih,e,dN,xQ]
  cases bi s<;>cases lt p s<;>cases dk k<;>cases b.all dk<;>rfl
theorem NC (l:List Bs):(aE l).all V.one=true:=by simp [aE,V.one]
theorem Km (l:List Int):(ae l).all V.one=true:=by simp [ae,V.one]
theorem oU (l:List Int):df 1 (ae l)=true:=GC fun _=>rfl
theorem Ob (l:List Bs):df 1 (aE l)=true:=GC fun _=>rfl
theorem uV (n:br) (h:Sm n):bu aa 154 [eI n]=some (.bool (bv n)):=by
 have hl:=h.seps
 have hk:=h.kids
 have w:W .i64 ((n.seps.length:Int)+1)=((n.seps.length+1:Nat):Int):=by rw [aK (by omega)];omega
 by_cases h1:n.kids.length=n.seps.length+1
 ·cases hn:n.kids with
  | nil=>rw [hn] at h1;simp at h1
  | cons k ks =>
   have h0:n.kids[0]? = some k:=by rw [hn];rfl
   have hd:n.kids.drop 1=ks:=by rw [hn];rfl
   cases hp:dk k with
   | false =>
    refine Ck _ _ _ _ ?_ (.refl _)
    unfold y5
    rw [fp,bO,w,dG (by omega),cond_false,d9 h0,bH,au (wX k),cy,hp]
    have:bv n=false:=by
     unfold bv
     rw [hn,xQ,hp]
     cases decide ((k::ks).length=n.seps.length+1)<;>rfl
    rw [this]
    rfl
   | true =>
    have hz:=Oo n n.seps ks [] (by rw [hn] at h1;simpa using h1)
    have e1:l7 n [] (n.seps.zip ks)=bv n:=by
     rw [hz]
     unfold bv
     rw [decide_eq_true h1,hn,xQ,hp]
     rfl
    rw [<-e1]
    refine Ck _ _ _ _ ?_ (W7 n h (n.seps.zip ks) [])
    unfold y5
    have e2:((ae n.kids).take (ae n.kids).length).drop 1=ae ks:=by rw [lc,hn];rfl
    rw [dG (by rw [fp,bO,w];omega),cond_false,d9 h0,bH,au (wX k),cy,hp,bA,cond_false,ak (oU _),ak (by rw [bO,hn];simp),e2]
    simp only [tO,if_pos (show (aE n.seps).length<=16777216/\(aE n.seps).all V.one=true/\(ae ks).all V.one=true from ⟨by rw [fp];omega,NC _,Km _⟩),hJ,HO]
 ·refine Ck _ _ _ _ ?_ (.refl _)
  unfold y5
  have:bv n=false:=by unfold bv;rw [decide_eq_false h1];rfl
  rw [fp,bO,w,lD (by omega),this]
  rfl
theorem pS {s:Bs} (h:bi s=true):lt [] s=true:=by
 cases s with
 | nil=>cases h
 | cons c s=>rfl
theorem Me:∀(l:List Bs) (p:Bs),dN p l=true->(∀s∈l,lt p s=true)/\iK l
 | [],p,_=>⟨fun s h=>by simp at h,List.Pairwise.nil⟩
 | s::r,p,h=>by
  simp only [dN,bd] at h
  obtain ⟨h1,h2⟩:=Me r s h.2
  refine ⟨fun x hx=>?_,fP.2 ⟨h1,h2⟩⟩
  rcases bw.1 hx with rfl | hx
  ·exact h.1.2
  ·exact lt_trans h.1.2 (h1 x hx)
theorem W8 {n:br} (h:bv n=true):iK n.seps:=by
 unfold bv at h
 simp only [bd] at h
 exact (Me _ _ h.1.1.2).2
def d0 (l:List Bs) (key:Bs):Nat:=(l.takeWhile fun s=>!(lt key s)).length
theorem HF (l:List Bs) (key:Bs):d0 l key<=l.length:=(List.takeWhile_sublist _).length_le
theorem qZ (s:Bs) (l:List Bs) (key:Bs):d0 (s::l) key=if lt key s then 0 else d0 l key+1:=by
 unfold d0
 rw [List.takeWhile_cons]
 cases lt key s<;>simp
theorem UE {l:List Bs} (h:iK l) (key:Bs):d0 l key=bp l key+(if bQ l key then 1 else 0):=by
 induction l with
 | nil=>rfl
 | cons s l ih =>
  have hx:=fP.1 h
  have ih:=ih hx.2
  rw [qZ,zJ]
  cases h1:lt s key with
  | true =>
   rw [lK h1]
   have e:bQ (s::l) key=bQ l key:=by
    unfold bQ
    rw [zJ,h1]
    rfl
   rw [e,ih]
   simp
   omega
  | false =>
   have e:bQ (s::l) key=(s==key):=by
    unfold bQ
    rw [zJ,h1]
    rfl
   rw [e]
   by_cases hk:s=key
   ·subst hk
    rw [gC]
    have:d0 l s=0:=by
     cases l with
     | nil=>rfl
     | cons y l=>rw [qZ,hx.1 y (by simp)];rfl
    simp [this]
   ·rw [mO h1 hk]
    simp [hk]
def iQ (n:br) (key:Bs):Int × Int :=
 if bv n && bi key && (n.high==[] || lt key n.high) then ((d0 n.seps key:Nat),0) else (0,1)
theorem JD (n:br) (key:Bs) (h:Sm n):bu aa 114 [eI n,.str key]=some (.tup [.int .i64 (iQ n key).1,.int .i64 (iQ n key).2]):=by
 refine QA _ _ _ _ _ ?_
 have hl:=h.seps
 unfold Cd iQ
 rw [au (uV n h),cy]
 cases hr:bv n with
 | false=>rfl
 | true =>
  rw [bA,cond_false,au (gY key),cy]
  cases bi key with
  | false=>rfl
  | true =>
   rw [bA,cond_false,dq,dq]
   have hs:=W8 hr
   have hle:=wQ n.seps key
   have w:W .i64 ((bp n.seps key:Int)+1)=((bp n.seps key+1:Nat):Int):=by rw [aK (by omega)];omega
   have e1:=UE hs key
   have fin:(ai aa 155 [V.sl (aE n.seps),V.str key] fun r_3=>ky r_3 fun a b=>cond b (some (.done (V.tup [V.int .i64 (W .i64 (a+1)),V.int .i64 0]))) (some (.done (V.tup [V.int .i64 a,V.int .i64 0]))))=some (.done (.tup [.int .i64 (d0 n.seps key:Nat),.int .i64 0])):=by
    rw [au (XW n.seps hs key (by omega)),v8,e1]
    cases bQ n.seps key with
    | false=>rfl
    | true=>rw [w];rfl
   cases hh:n.high==[] with
   | true =>
    rw [bA,cond_false,sY,fin]
    rfl
   | false =>
    rw [i9,cond_true,iG]
    show cond (!(lt key n.high)) _ _=_
    cases lt key n.high with
    | false=>rfl
    | true =>
     rw [bA,cond_false,fin]
     rfl
abbrev eo (m:Nat):Bs:=bl m 0
theorem Zx (m k:Nat):(eo m).drop k=eo (m - k):=by simp [eo]
theorem LB (d t:Bs) (m:Nat) (h:t.length<=m):oH (d++eo m) d.length t=d++t++eo (m - t.length):=by
 unfold oH
 rw [vC (bq _),lc,qL,o7 (by omega),dB,show d.length+t.length - d.length=t.length by omega,Zx]
theorem uP (d:Bs) (m k x:Nat) (n kk:Int) (hkk:kk=(k:Int)) (hn:n=(d.length:Int)) (h1:1<=k) (h8:k<=8) (hm:k<=m) (hx:x < 256 ^ k):sB (d++eo m) n kk x=(d++bI k x++eo (m - k),0):=by
 subst hkk
 unfold sB
 rw [if_pos (xk (by omega) (by omega) (by omega) (by simp;omega)),aU,if_pos hx,hn,aU,LB _ _ _ (by rw [dK];exact hm),dK]
theorem w8 (d t:Bs) (m:Nat) (n:Int) (hn:n=(d.length:Int)) (hl:t.length<=255) (hm:t.length+1<=m) :
  sC (d++eo m) n t=(d++(UInt8.ofNat t.length::t)++eo (m - (t.length+1)),n+t.length+1,0):=by
 unfold sC
 rw [if_pos (by simp;omega),if_neg (by omega),if_neg (by simp;omega),hn,aU,LB _ _ _ (by simpa using hm)]
 simp
theorem uQ {s t:Bs} {n size e:Int} {x:Nat} (h:sB s n size x=(t,e)) (hx:x < 18446744073709551616) (hs:cE s):bu aa 161 [.str s,.int .i64 n,.int .i64 size,.int .u64 (x:Int)]=some (.tup [.str t,.int .i64 e]):=by
 rw [WG s n size x hx hs,h]
theorem w9 {s t u:Bs} {n m e:Int} (h:sC s n t=(u,m,e)) (hs:cE s) (ht:cE t):bu aa 162 [.str s,.int .i64 n,.str t]=some (.tup [.str u,.int .i64 m,.int .i64 e]):=by
 rw [WB s n t hs ht,h]
theorem LG {s t:Bs} {n e:Int} (h:qi s n=(t,e)) (hs:cE s):bu aa 160 [.str s,.int .i64 n]=some (.tup [.str t,.int .i64 e]):=by
 rw [V5 s n hs,h]
abbrev bT (s:Bs):Bs:=UInt8.ofNat s.length::s
def eG:List (Bs × Int)->Bs
 | []=>[]
 |(s,k)::r=>bT s++bI 2 k.toNat++eG r
def zr (n:br):Bs:=UInt8.ofNat n.seps.length::(bI 2 n.next.toNat++(bT n.high++bI 2 (n.kids.headD 0).toNat))
def yD (n:br):Bs:=zr n++eG (n.seps.zip n.kids.tail)
def bX (n:br):Bs:=if bv n then 78::yD n else []
theorem Fc:∀(a:List Bs) (b:List Int),b.length=a.length->(eG (a.zip b)).length=bU a
 | [],b,h=>by
  have:b=[]:=by simpa using h
  subst this;rfl
 | s::a,[],h=>by simp at h
 | s::a,k::b,h=>by
  have ih:=Fc a b (by simpa using h)
  rw [Ha,eG,bU]
  simp [dK,ih]
  omega
theorem nr {n:br} (h:bv n=true):n.kids.length=n.seps.length+1/\(∀k∈n.kids,dk k=true)/\(∀s∈n.seps,bi s=true)/\n.high.length<=16/\0<=n.next/\n.next<=1024/\23+bU n.seps<=252:=by
 have h2:∀(l:List Bs) (p:Bs),dN p l=true->∀s∈l,bi s=true:=by
  intro l
  induction l with
  | nil=>intro p _ s hs;simp at hs
  | cons x l ih =>
   intro p hp s hs
   simp only [dN,bd] at hp
   rcases bw.1 hs with rfl | hs
   ·exact hp.1.1
   ·exact ih _ hp.2 s hs
 unfold bv pF kJ d8 at h
 simp only [bd,decide_eq_true_eq,l9,beq_iff_eq,cT] at h
 obtain ⟨⟨⟨⟨h1,hk⟩,hr⟩,hh⟩,⟨hn1,hn2⟩,hf⟩:=h
 refine ⟨h1,hk,h2 _ _ hr,?_,hn1,hn2,by omega⟩
 rcases hh with hh | ⟨hh,_⟩
 ·rw [hh];simp
 ·unfold bi at hh
  simp only [bd,decide_eq_true_eq] at hh
  exact hh.2
theorem gJ {s:Bs} (h:bi s=true):1<=s.length/\s.length<=16:=by
 unfold bi at h
 simp only [bd,decide_eq_true_eq,ig,beq_eq_false_iff_ne] at h
 refine ⟨?_,h.2⟩
 cases s with
 | nil=>exact (h.1 rfl).elim
 | cons c s=>simp
theorem uM {k:Int} (h:dk k=true):0<=k/\k < 1024:=by
 unfold dk at h
 simpa using h
theorem qC:∀{l:List Bs},(∀s∈l,bi s=true)->4 * l.length<=bU l
 | [],_=>bq _
 | s::r,h=>by
  have h1:=(gJ (h s (by simp))).1
  have h2:=qC (l:=r) fun x hx=>h x (by simp [hx])
  simp only [bU,cw]
  omega
theorem lU {n:br} (h:bv n=true):Sm n:=by
 obtain ⟨h1,h2,h3,h4,h5,h6,h7⟩:=nr h
 have:=qC h3
 exact ⟨by omega,fun s hs=>by have:=(gJ (h3 s hs)).2;omega,by omega,by omega⟩
theorem CS {n:br} (h:bv n=true):(bX n).length=i4 n:=by
 obtain ⟨h1,_⟩:=nr h
 unfold bX yD zr i4
 rw [if_pos h]
 have:=Fc n.seps n.kids.tail (by simp;omega)
 simp [dK,this]
 omega
theorem Sv:∀(l:List (Bs × Int)) (d:Bs),(∀x∈l,x.1.length<=255/\dk x.2=true)->d.length+(eG l).length<=100000 ->
  Go qk false 0 (fF 121) (.head 0 (vJ (l.map eT) (d++eo (eG l).length) (d.length:Int))) (.done (.str (d++eG l))):=by
 intro l
 induction l with
 | nil =>
  intro d _ _
  refine MA _ _ _ ?_ (.refl _)
  unfold Fl
  simp [jz,eG]
 | cons x l ih =>
  obtain ⟨s,k⟩:=x
  intro d h hd
  obtain ⟨hs,hk⟩:=h (s,k) (by simp)
  simp only at hs hk
  have hk2:=uM hk
  obtain ⟨kn,rfl⟩:∃kn:Nat,k=(kn:Int):=⟨k.toNat,by omega⟩
  have hlen:(eG ((s,(kn:Int))::l)).length=s.length+1+2+(eG l).length:=by
   rw [eG];simp [dK];omega
  rw [hlen] at hd |-
  have e1:=w8 d s (s.length+1+2+(eG l).length) (d.length:Int) rfl hs (by omega)
  have e2:=uP (d++bT s) (2+(eG l).length) 2 kn ((d.length:Int)+s.length+1) 2 rfl (by simp;omega) (by omega) (by omega) (by omega) (by omega)
  rw [show s.length+1+2+(eG l).length - (s.length+1)=2+(eG l).length by omega] at e1
  rw [show 2+(eG l).length - 2=(eG l).length by omega] at e2
  have w:W .u64 (kn:Int)=(kn:Int):=li (by omega)
  have w2:W .i64 ((d.length:Int)+s.length+1+2)=(((d++bT s++bI 2 kn).length:Nat):Int):=by
   rw [aK (by omega)];simp [dK];omega
  refine MA _ _ _ (o:=.head 0 (vJ (l.map eT) (d++bT s++bI 2 kn++eo (eG l).length) (((d++bT s++bI 2 kn).length:Nat):Int))) ?_ ?_
  ·unfold Fl
   simp only [cU,jz,lH,lY,ef,bH,l6]
   rw [au (w9 e1 (by simp [cE];omega) (by simp only [cE];omega)),f0,w,au (uQ e2 (by omega) (by simp [cE];omega)),kD,w2]
  ·have:=ih (d++bT s++bI 2 kn) (fun x hx=>h x (by simp [hx])) (by simp [dK];omega)
   rw [eG,aU]
   simpa [bc] using this
theorem On {n:br} (h:bv n=true):∀x∈n.seps.zip n.kids.tail,x.1.length<=255/\dk x.2=true:=by
 obtain ⟨h1,h2,h3,_⟩:=nr h
 intro x hx
 have hz:=List.of_mem_zip hx
 have:=(gJ (h3 _ hz.1)).2
 exact ⟨by omega,h2 _ (List.mem_of_mem_tail hz.2)⟩
theorem Jn (n:br) (h:Sm n):bu aa 121 [eI n]=some (.str (bX n)):=by
 cases hr:bv n with
 | false =>
  refine IB _ _ _ _ ?_ (.refl _)
  unfold Ch bX
  rw [au (uV n h),cy,hr]
  rfl
 | true =>
  obtain ⟨h1,h2,h3,h4,h5,h6,h7⟩:=nr hr
  have hg:=qC h3
  obtain ⟨k,ks,hks⟩:∃k ks,n.kids=k::ks:=by
   cases hk:n.kids with
   | nil=>rw [hk] at h1;simp at h1
   | cons k ks=>exact ⟨k,ks,rfl⟩
  have hk:=uM (h2 k (by rw [hks];simp))
  obtain ⟨kn,rfl⟩:∃kn:Nat,k=(kn:Int):=⟨k.toNat,by omega⟩
  obtain ⟨nn,hnn⟩:∃nn:Nat,n.next=(nn:Int):=⟨n.next.toNat,by omega⟩
  have hkl:ks.length=n.seps.length:=by rw [hks] at h1;simpa using h1
  have hrl:=Fc n.seps ks hkl
  obtain ⟨R,hR⟩:∃R,R=eG (n.seps.zip ks):=⟨_,rfl⟩
  have hRl:R.length=bU n.seps:=by rw [hR,hrl]
  obtain ⟨c,hc⟩:∃c:UInt8,c=UInt8.ofNat n.seps.length:=⟨_,rfl⟩
  have e0:qi [78] ((i4 n:Nat):Int)=([78]++eo (1+(2+(n.high.length+1+(2+R.length)))),0):=by
   have hz:i4 n=1+(1+(2+(n.high.length+1+(2+R.length)))):=by unfold i4;omega
   unfold qi
   rw [if_neg (by omega),if_neg (by simp;omega),aU,hz]
   congr 3
   simp
  have e1:=uP [78] (1+(2+(n.high.length+1+(2+R.length)))) 1 n.seps.length 1 1 rfl rfl (by omega) (by omega) (by omega) (by omega)
  have f1:bI 1 n.seps.length=[c]:=by
   rw [hc]
   show [UInt8.ofNat (n.seps.length % 256)]=_
   rw [ya (by omega)]
  rw [f1,show 1+(2+(n.high.length+1+(2+R.length))) - 1=2+(n.high.length+1+(2+R.length)) by omega] at e1
  have e2:=uP ([78]++[c]) (2+(n.high.length+1+(2+R.length))) 2 nn 2 2 rfl rfl (by omega) (by omega) (by omega) (by omega)
  rw [show 2+(n.high.length+1+(2+R.length)) - 2=n.high.length+1+(2+R.length) by omega] at e2
  have e3:=w8 ([78]++[c]++bI 2 nn) n.high (n.high.length+1+(2+R.length)) 4 (by simp [dK]) (by omega) (by omega)
  rw [show n.high.length+1+(2+R.length) - (n.high.length+1)=2+R.length by omega] at e3
  have e4:=uP ([78]++[c]++bI 2 nn++bT n.high) (2+R.length) 2 kn (4+n.high.length+1) 2 rfl (by simp [dK];omega) (by omega) (by omega) (by omega) (by omega)
  rw [show 2+R.length - 2=R.length by omega] at e4
  have hd:([78]++[c]++bI 2 nn++bT n.high++bI 2 kn).length=4+n.high.length+1+2:=by simp [dK];omega
  have hm:∀x∈n.seps.zip ks,x.1.length<=255/\dk x.2=true:=by
   have:=On hr
   rw [hks] at this
   exact this
  have hl:=Sv (n.seps.zip ks) ([78]++[c]++bI 2 nn++bT n.high++bI 2 kn) hm (by rw [hd,<-hR];omega)
  have hfin:[78]++[c]++bI 2 nn++bT n.high++bI 2 kn++eG (n.seps.zip ks)=bX n:=by
   unfold bX yD zr
   rw [if_pos hr,hks,hnn,hc]
   simp
  rw [hfin,<-hR] at hl
  have w0:W .u64 (n.seps.length:Int)=(n.seps.length:Int):=li (by omega)
  have w1:W .u64 (nn:Int)=(nn:Int):=li (by omega)
  have w2:W .u64 (kn:Int)=(kn:Int):=li (by omega)
  have w3:W .i64 (4+(n.high.length:Int)+1+2)=((([78]++[c]++bI 2 nn++bT n.high++bI 2 kn).length:Nat):Int):=by rw [aK (by omega),hd];omega
  have g0:n.kids[0]? = some (kn:Int):=by rw [hks];rfl
  refine IB _ _ _ _ ?_ hl
  unfold Ch
  have s78:[UInt8.ofNat ((78:Int)).toNat]=([78]:Bs):=rfl
  rw [au (uV n h),cy,hr,bA,cond_false,au (Nt n h),bH,s78,au (LG e0 (by decide)),kD,fp,w0]
  rw [au (uQ e1 (by omega) (by simp [cE];omega))]
  rw [kD,hnn,w1,au (uQ e2 (by omega) (by simp [cE];omega))]
  rw [kD,au (w9 e3 (by simp [cE,dK];omega) (by simp only [cE];omega)),f0,d9 g0,bH,w2,au (uQ e4 (by omega) (by simp [cE,dK];omega))]
  rw [kD,ak (oU _),ak (by rw [bO,hks];simp)]
  have e5:((ae n.kids).take (ae n.kids).length).drop 1=ae ks:=by rw [lc,hks];rfl
  rw [e5,w3]
  simp only [tO,if_pos (show (aE n.seps).length<=16777216/\(aE n.seps).all V.one=true/\(ae ks).all V.one=true from ⟨by rw [fp];omega,NC _,Km _⟩),hJ,HO]
theorem i6 {s t:Bs} {n m e:Int} (h:fK s n=(t,m,e)) (hs:cE s):bu aa 71 [.str s,.int .i64 n]=some (.tup [.str t,.int .i64 m,.int .i64 e]):=by
 rw [Y3 s n hs,h]
theorem iz {s:Bs} {n size x e:Int} (h:ff s n size=(x,e)) (hs:cE s):bu aa 214 [.str s,.int .i64 n,.int .i64 size]=some (.tup [.int .u64 x,.int .i64 e]):=by
 rw [Tq s n size hs,h]
theorem Tk (s:Bs) (n:Int):0<=(ff s n 2).1/\(ff s n 2).1 < 65536:=by
 unfold ff
 split
 ·have h1:=A8 ((s.drop n.toNat).take (2:Int).toNat)
  have h2:((s.drop n.toNat).take (2:Int).toNat).length<=2:=by rw [fX];exact Nat.min_le_left _ _
  have h3:256 ^ ((s.drop n.toNat).take (2:Int).toNat).length<=256 ^ 2:=Nat.pow_le_pow_right (by decide) h2
  have h4:(256:Nat) ^ 2=65536:=by decide
  constructor
  ·exact GX _
  ·show ((dp _:Nat):Int) < 65536
   omega
 ·simp
def ju (r:Bs):Option ((Bs × Int) × Bs) :=
 match r with
 | []=>none
 | c::r=>if r.length < c.toNat+2 then none else some ((r.take c.toNat,((dp ((r.drop c.toNat).take 2):Nat):Int)),r.drop (c.toNat+2))
def iW:Nat->Bs->Option (List (Bs × Int) × Bs)
 | 0,r=>some ([],r)
 | j+1,r=>(ju r).bind fun x=>(iW j x.2).map fun y=>(x.1::y.1,y.2)
theorem Zj {l:Bs} (h:l.length=2):bI 2 (dp l)=l:=by
 have:=Kv l
 rwa [h] at this
theorem EE {r r':Bs} {t:Bs} {k:Int} (h:ju r=some ((t,k),r')):r=bT t++bI 2 k.toNat++r'/\t.length<=255/\0<=k/\k < 65536:=by
 unfold ju at h
 cases r with
 | nil=>cases h
 | cons c r =>
  simp only at h
  split at h
  ·cases h
  rename_i hl
  have hl:c.toNat+2<=r.length:=by omega
  simp only [Option.some.injEq,Prod.mk.injEq] at h
  obtain ⟨⟨rfl,rfl⟩,rfl⟩:=h
  have hc:=c.toNat_lt
  have h2:((r.drop c.toNat).take 2).length=2:=by simp;omega
  have hu:=A8 ((r.drop c.toNat).take 2)
  rw [h2] at hu
  have h256:(256:Nat) ^ 2=65536:=by decide
  have ht:(r.take c.toNat).length=c.toNat:=by simp;omega
  refine ⟨?_,by rw [ht];omega,by omega,by omega⟩
  rw [aU,Zj h2]
  unfold bT
  rw [ht,UInt8.ofNat_toNat]
  simp only [c8,bc,List.cons.injEq,true_and]
  have e1:=gP c.toNat r
  have e2:=gP 2 (r.drop c.toNat)
  rw [nJ] at e2
  rw [e2,e1]
theorem LD {t r':Bs} {k:Nat} (ht:t.length<=255) (hk:k < 65536):ju (bT t++bI 2 k++r')=some ((t,(k:Int)),r'):=by
 have e:(UInt8.ofNat t.length).toNat=t.length:=by simp;omega
 have hl2:=dK 2 k
 unfold ju
 simp only [c8,bc,e]
 rw [if_neg (by first | (simp [hl2];done) | (simp [hl2];omega))]
 have e1:(t++(bI 2 k++r')).take t.length=t:=by simp
 have e2:(t++(bI 2 k++r')).drop t.length=bI 2 k++r':=by simp
 have e3:(bI 2 k++r').take 2=bI 2 k:=by
  rw [vC (by omega),jI (by omega)]
 have e4:(t++(bI 2 k++r')).drop (t.length+2)=r':=by
  rw [<-nJ,e2,qL,o7 (by omega),hl2]
  first | done | simp
 rw [e1,e2,e3,e4,A7 2 k (by have:(256:Nat) ^ 2=65536:=by decide
                                  omega)]
theorem LF:∀(l:List (Bs × Int)) (r':Bs),(∀x∈l,x.1.length<=255/\dk x.2=true)->iW l.length (eG l++r')=some (l,r')
 | [],r',_=>rfl
 |(t,k)::l,r',h=>by
  obtain ⟨h1,h2⟩:=h (t,k) (by simp)
  simp only at h1 h2
  have h3:=uM h2
  obtain ⟨kn,rfl⟩:∃kn:Nat,k=(kn:Int):=⟨k.toNat,by omega⟩
  have ih:=LF l r' fun x hx=>h x (by simp [hx])
  rw [cw,iW,eG,aU,bc (bT t++bI 2 kn),LD h1 (by omega),ap,ih]
  rfl
theorem Gm {s:Bs} {m:Nat} {t:Bs} {k:Int} {r':Bs} (h:ju (s.drop m)=some ((t,k),r')) :
  fK s (m:Int)=(t,(m:Int)+1+t.length,0)/\ff s ((m:Int)+1+t.length) 2=(k,0)/\s.drop (m+1+t.length+2)=r'/\m+1+t.length+2<=s.length:=by
 unfold ju at h
 cases hd:s.drop m with
 | nil=>rw [hd] at h;cases h
 | cons c r =>
  rw [hd] at h
  simp only at h
  split at h
  ·cases h
  rename_i hl
  simp only [Option.some.injEq,Prod.mk.injEq] at h
  obtain ⟨⟨rfl,rfl⟩,rfl⟩:=h
  obtain ⟨h1,h2,h3⟩:=fT hd
  have hrl:r.length+m+1=s.length:=by
   have:=congrArg nL hd
   simp at this
   omega
  have ht:(r.take c.toNat).length=c.toNat:=by simp;omega
  have hdr:s.drop (m+1+c.toNat)=r.drop c.toNat:=by rw [<-nJ,h2]
  rw [ht]
  refine ⟨?_,?_,?_,by omega⟩
  ·unfold fK
   rw [if_pos (by omega),aU,hd]
   simp only
   rw [if_neg (by omega)]
  ·unfold ff
   rw [if_pos (xk (by omega) (by omega) (by omega) (by omega))]
   rw [show ((m:Int)+1+(c.toNat:Int)).toNat=m+1+c.toNat by omega,hdr]
   rfl
  ·rw [<-h2,nJ]
   congr 1
theorem Gk {s:Bs} {m:Nat} (hm:m<=s.length) (h:ju (s.drop m)=none):∀{t:Bs} {to e:Int},fK s (m:Int)=(t,to,e)->(e≠0/\t=[]/\to=0)∨(e=0/\t.length<=255/\to=(m:Int)+1+t.length/\(s.length:Int) < to+2/\to<=(s.length:Int)/\(ff s to 2)=(0,3)):=by
 intro t to e he
 unfold ju at h
 unfold fK at he
 rw [if_pos (by omega),aU] at he
 cases hd:s.drop m with
 | nil=>rw [hd] at he;simp only [Prod.mk.injEq] at he;exact .inl ⟨by omega,he.1.symm,he.2.1.symm⟩
 | cons c r =>
  rw [hd] at h he
  obtain ⟨h1,h2,h3⟩:=fT hd
  have hrl:r.length+m+1=s.length:=by
   have:=congrArg nL hd
   simp at this
   omega
  have hcl:=c.toNat_lt
  simp only at h he
  split at he
  ·simp only [Prod.mk.injEq] at he;exact .inl ⟨by omega,he.1.symm,he.2.1.symm⟩
  rename_i hx
  simp only [Prod.mk.injEq] at he
  obtain ⟨rfl,rfl,rfl⟩:=he
  split at h
  ·rename_i hy
   have ht:(r.take c.toNat).length=c.toNat:=by simp;omega
   refine .inr ⟨rfl,by omega,by rw [ht],by omega,by omega,?_⟩
   have:jB s ((m:Int)+1+(c.toNat:Int)) 2=3:=by
    unfold jB
    rw [if_neg (by omega),if_pos (by omega)]
   unfold ff
   rw [if_neg (by rw [this];decide),this]
  ·cases h
def oa (n:br) (rest:Bs):Option br:=if bv n && lj rest==[] then some n else none
def qj (s:Bs):Option br :=
 if s.length<=4∨252 < s.length∨s.head?≠some 78 then none else
 (ju (s.drop 4)).bind fun x=>(iW (s.getD 1 0).toNat x.2).bind fun y =>
  oa ⟨y.1.map (·.1),x.1.2::y.1.map (·.2),x.1.1,((dp ((s.drop 2).take 2):Nat):Int)⟩ y.2
abbrev jr:br:=⟨[],[],[],0⟩
def wb:Option br->V
 | some n=>.tup [eI n,.int .i64 0]
 | none=>.tup [eI jr,.int .i64 4]
theorem Cb {α:Type} {p:α->Bool}:∀{l:List α},l.dropWhile p=[]↔∀x∈l,p x=true
 | []=>by simp
 | x::l=>by
  rw [List.dropWhile_cons]
  cases h:p x with
  | true=>simp only [if_true];rw [Cb];simp [h]
  | false=>simp [h]
theorem O8 {r:Bs}:lj r=[]↔r=eo r.length:=by
 unfold lj
 rw [List.reverse_eq_nil_iff]
 constructor
 ·intro h
  have h2:∀x∈r,x=0:=by
   intro x hx
   have:=Cb.1 h x (List.mem_reverse.2 hx)
   simpa using this
  exact List.eq_replicate_iff.2 ⟨rfl,h2⟩
 ·intro h
  rw [Cb]
  intro x hx
  have:=List.mem_reverse.1 hx
  rw [h] at this
  simpa using vx this
abbrev Jv:V:=.tup [.agg [.sl [],.sl [],.str [],.int .i64 0],.int .i64 4]
noncomputable def Jo (s:Bs) (m:Int) (n:br):R :=
 ai aa 154 [eI n] fun r_3=>kB r_3 fun r13=>cond (!r13) (some (.done Jv))
  (gd (decide (0<=m))<|gd (decide (m.toNat<=s.length))<|ai aa 176 [V.str ((s.take s.length).drop m.toNat)] fun r_4=>kS r_4 fun r37=>cond (!(r37==[])) (some (.done Jv)) (some (.done (V.tup [eI n,V.int .i64 0]))))
theorem Jp (s:Bs) (hs:cE s) (m:Nat) (hm:m<=s.length) (n:br) (hn:Sm n):Jo s (m:Int) n=some (.done (wb (oa n (s.drop m)))):=by
 unfold Jo oa
 have hsl:=hs
 rw [au (uV n hn),cy]
 cases bv n with
 | false=>rfl
 | true =>
  rw [bA,cond_false,ak (by simp),aU,ak (by simpa using hm),lc,au (HL (s.drop m) (by simp only [cE,fO];omega)),ef,dq]
  cases lj (s.drop m)==[]<;>rfl
theorem yU {s:Bs} {i m nx:Int} {hi:Bs} {a b:List V}:qv s i s m false hi nx a b=some (.done (wb none)):=rfl
theorem Qf (hi:Bs) (nx:Int) (hh:hi.length<=255) {s:Bs} (hs:s.length<=252) {c:UInt8} (hc:s[1]? = some c):∀(j m i:Nat) (seps:List Bs) (kids:List Int),i+j=c.toNat->m<=s.length->seps.length=i->kids.length=i+1->(∀x∈seps,x.length<=255) ->
  Go qk false 0 (fF 130) (.head 0 (mn s (i:Int) s (m:Int) true hi nx (aE seps) (ae kids))) (.done (wb ((iW j (s.drop m)).bind fun y=>oa ⟨seps++y.1.map (·.1),kids++y.1.map (·.2),hi,nx⟩ y.2))):=by
 intro j
 have hcl:=c.toNat_lt
 have hss:cE s:=by simp only [cE];omega
 have wc:W .i64 (c.toNat:Int)=(c.toNat:Int):=aK (by omega)
 induction j with
 | zero =>
  intro m i seps kids hij hm hsl hkl hse
  have hn:Sm ⟨seps,kids,hi,nx⟩:=⟨by simp only;omega,fun x hx=>by have:=hse x hx;omega,by simp only;omega,by simp only;omega⟩
  refine qw _ _ _ _ _ _ _ _ _ ?_ (.refl _)
  unfold qv
  rw [cond_true,cO hc,wc,decide_eq_false (by omega),cond_false,bA,cond_false]
  have:=Jp s hss m hm _ hn
  simp only [iW,ap,iH,c7]
  exact this
 | succ j ih =>
  intro m i seps kids hij hm hsl hkl hse
  cases hp:ju (s.drop m) with
  | some x =>
   obtain ⟨⟨t,k⟩,r'⟩:=x
   obtain ⟨h1,h2,h3,hle⟩:=Gm hp
   obtain ⟨_,htl,hk0,hk1⟩:=EE hp
   have wk:W .i64 k=k:=aK (by omega)
   have wn:W .i64 ((m:Int)+1+t.length+2)=((m+1+t.length+2:Nat):Int):=by rw [aK (by omega)];omega
   refine qw _ _ _ _ _ _ _ _ _ (o:=.head 0 (mn s ((i+1:Nat):Int) s ((m+1+t.length+2:Nat):Int) true hi nx (aE (seps++[t])) (ae (kids++[k])))) ?_ ?_
   ·unfold qv
    rw [cond_true,cO hc,wc,decide_eq_true (by omega),cond_true,au (i6 h1 hss),f0,cond_true,ak (by simp [fp];omega),if_pos (by omega),au (iz h2 hss),iw,dx rfl,cond_true,ak (by simp [bO];omega),wn,wk]
    rw [aK (n:=(i:Int)+1) (by omega)]
    simp [aE,ae]
   ·have:=(ih (m+1+t.length+2) (i+1) (seps++[t]) (kids++[k]) (by omega) hle (by simp;omega) (by simp;omega) (by intro x hx;rcases aV.1 hx with hx | hx;exact hse x hx;simp at hx;rw [hx];exact htl))
    rw [h3] at this
    simp only [iW,hp,ap,Option.map_eq_bind,Bv]
    simpa [Bv,Function.comp_def] using this
  | none =>
   have hnone:((iW (j+1) (s.drop m)).bind fun y=>oa ⟨seps++y.1.map (·.1),kids++y.1.map (·.2),hi,nx⟩ y.2)=none:=by
    simp only [iW,hp,Option.bind_none]
   rw [hnone]
   obtain ⟨t,to,e,he⟩:∃t to e,fK s (m:Int)=(t,to,e):=⟨_,_,_,rfl⟩
   have hb:=Gk hm hp he
   rcases hb with ⟨hb,_,_⟩ | ⟨rfl,_,hto,h4,h5,h6⟩
   ·obtain ⟨x,e2,hx⟩:∃x e2,ff s (if (m:Int) < to then to else m) 2=(x,e2):=⟨_,_,rfl⟩
    have hq:=Eq.refl (qv s (i:Int) s (m:Int) true hi nx (aE seps) (ae kids))
    conv at hq =>
     rhs
     unfold qv
     rw [cond_true,cO hc,wc,decide_eq_true (by omega),cond_true,au (i6 he hss),f0,cond_true,ak (by simp [fp];omega),au (iz hx hss),iw,dJ hb,cond_false,ak (by simp [bO];omega)]
    exact qw _ _ _ _ _ _ _ _ _ hq (qw _ _ _ _ _ _ _ _ _ yU (.refl _))
   ·have hif:(if (m:Int) < to then to else m)=to:=if_pos (by omega)
    have hq:=Eq.refl (qv s (i:Int) s (m:Int) true hi nx (aE seps) (ae kids))
    conv at hq =>
     rhs
     unfold qv
     rw [cond_true,cO hc,wc,decide_eq_true (by omega),cond_true,au (i6 he hss),f0,cond_true,ak (by simp [fp];omega),hif,au (iz h6 hss),iw,dx rfl,cond_true,ak (by simp [bO];omega),dJ (by decide)]
    exact qw _ _ _ _ _ _ _ _ _ hq (qw _ _ _ _ _ _ _ _ _ yU (.refl _))
theorem Qe (hi:Bs) (nx:Int) (hh:hi.length<=255) {s:Bs} (hs:s.length<=252) {c:UInt8} (hc:s[1]? = some c):∀(j m:Nat) (kids:List Int),j=c.toNat->m<=s.length->kids.length=1 ->
  Go qk false 0 (fF 130) (.head 0 (vM s s (m:Int) true hi nx (ae kids))) (.done (wb ((iW j (s.drop m)).bind fun y=>oa ⟨y.1.map (·.1),kids++y.1.map (·.2),hi,nx⟩ y.2))):=by
 intro j
 have hcl:=c.toNat_lt
 have hss:cE s:=by simp only [cE];omega
 have wc:W .i64 (c.toNat:Int)=(c.toNat:Int):=aK (by omega)
 have seps:List Bs:=[]
 cases j with
 | zero =>
  intro m kids hij hm hkl
  have hn:Sm ⟨[],kids,hi,nx⟩:=⟨by simp only [fc];omega,fun x hx=>by simp at hx,by simp only;omega,by simp only;omega⟩
  refine uY _ _ _ _ _ _ _ ?_ (.refl _)
  unfold sH
  rw [cond_true,cO hc,wc,decide_eq_false (by omega),cond_false,bA,cond_false]
  have:=Jp s hss m hm _ hn
  simp only [iW,ap,iH,c7]
  exact this
 | succ j =>
  intro m kids hij hm hkl
  cases hp:ju (s.drop m) with
  | some x =>
   obtain ⟨⟨t,k⟩,r'⟩:=x
   obtain ⟨h1,h2,h3,hle⟩:=Gm hp
   obtain ⟨_,htl,hk0,hk1⟩:=EE hp
   have wk:W .i64 k=k:=aK (by omega)
   have wn:W .i64 ((m:Int)+1+t.length+2)=((m+1+t.length+2:Nat):Int):=by rw [aK (by omega)];omega
   refine uY _ _ _ _ _ _ _ (o:=.head 0 (mn s ((1:Nat):Int) s ((m+1+t.length+2:Nat):Int) true hi nx (aE [t]) (ae (kids++[k])))) ?_ ?_
   ·unfold sH
    rw [cond_true,cO hc,wc,decide_eq_true (by omega),cond_true,au (i6 h1 hss),f0,cond_true,ak (by simp),if_pos (by omega),au (iz h2 hss),iw,dx rfl,cond_true,ak (by simp [bO];omega),wn,wk]
    simp [aE,ae]
   ·have:=(Qf hi nx hh hs hc j (m+1+t.length+2) 1 [t] (kids++[k]) (by omega) hle rfl (by simp;omega) (by simpa using htl))
    rw [h3] at this
    simp only [iW,hp,ap,Option.map_eq_bind,Bv]
    simpa [Bv,Function.comp_def] using this
  | none =>
   have hnone:((iW (j+1) (s.drop m)).bind fun y=>oa ⟨y.1.map (·.1),kids++y.1.map (·.2),hi,nx⟩ y.2)=none:=by
    simp only [iW,hp,Option.bind_none]
   rw [hnone]
   obtain ⟨t,to,e,he⟩:∃t to e,fK s (m:Int)=(t,to,e):=⟨_,_,_,rfl⟩
   have hb:=Gk hm hp he
   rcases hb with ⟨hb,_,_⟩ | ⟨rfl,_,hto,h4,h5,h6⟩
   ·obtain ⟨x,e2,hx⟩:∃x e2,ff s (if (m:Int) < to then to else m) 2=(x,e2):=⟨_,_,rfl⟩
    have hq:=Eq.refl (sH s s (m:Int) true hi nx (ae kids))
    conv at hq =>
     rhs
     unfold sH
     rw [cond_true,cO hc,wc,decide_eq_true (by omega),cond_true,au (i6 he hss),f0,cond_true,ak (by simp),au (iz hx hss),iw,dJ hb,cond_false,ak (by simp [bO];omega)]
    exact uY _ _ _ _ _ _ _ hq (qw _ _ _ _ _ _ _ _ _ yU (.refl _))
   ·have hif:(if (m:Int) < to then to else m)=to:=if_pos (by omega)
    have hq:=Eq.refl (sH s s (m:Int) true hi nx (ae kids))
    conv at hq =>
     rhs
     unfold sH
     rw [cond_true,cO hc,wc,decide_eq_true (by omega),cond_true,au (i6 he hss),f0,cond_true,ak (by simp),hif,au (iz h6 hss),iw,dx rfl,cond_true,ak (by simp [bO];omega),dJ (by decide)]
    exact uY _ _ _ _ _ _ _ hq (qw _ _ _ _ _ _ _ _ _ yU (.refl _))
theorem Tl {s:Bs} {c:UInt8} (h:s[1]? = some c):s.getD 1 0=c:=by
 simp [List.getD,h]
theorem Qg (s:Bs) (hss:cE s):bu aa 130 [.str s]=some (wb (qj s)):=by
 have hsl:=hss
 by_cases h1:s.length<=4
 ·refine tW _ ?_ (.refl _)
  unfold n8 qj
  rw [decide_eq_true (by omega),if_pos (.inl h1)]
  rfl
 by_cases h2:252 < s.length
 ·refine tW _ ?_ (.refl _)
  unfold n8 qj
  rw [decide_eq_false (by omega),cond_false,decide_eq_true (by omega),if_pos (.inr (.inl h2))]
  rfl
 have hs:s.length<=252:=by omega
 obtain ⟨c0,hc0⟩:∃c,s[0]? = some c:=⟨_,bj (by omega)⟩
 obtain ⟨c,hc⟩:∃c,s[1]? = some c:=⟨_,bj (by omega)⟩
 have hh:s.head? = some c0:=by rw [<-hc0];exact List.head?_eq_getElem?
 by_cases h3:c0=78
 rotate_left
 ·refine tW _ ?_ (.refl _)
  have h4:((c0.toNat:Int))≠78:=by
   intro e
   have h78:(78:UInt8).toNat=78:=rfl
   exact h3 (UInt8.toNat_inj.1 (by omega))
  unfold n8 qj
  rw [decide_eq_false (by omega),cond_false,decide_eq_false (by omega),cond_false,cO hc0,lD h4,if_pos (.inr (.inr (by rw [hh];simpa using h3)))]
  rfl
 subst h3
 have hg2:ff s 2 2=(((dp ((s.drop 2).take 2):Nat):Int),0):=by
  unfold ff
  rw [if_pos (xk (by omega) (by omega) (by omega) (by omega))]
  rfl
 have hn2:=Tk s 2
 rw [hg2] at hn2
 simp only at hn2
 have wn2:W .i64 ((dp ((s.drop 2).take 2):Nat):Int)=((dp ((s.drop 2).take 2):Nat):Int):=aK (by omega)
 have hparse:qj s=(ju (s.drop 4)).bind fun x=>(iW c.toNat x.2).bind fun y=>oa ⟨y.1.map (·.1),x.1.2::y.1.map (·.2),x.1.1,((dp ((s.drop 2).take 2):Nat):Int)⟩ y.2:=by
  unfold qj
  rw [if_neg (by rw [hh];simp;omega),Tl hc]
 rw [hparse]
 cases hp:ju (s.drop 4) with
 | some x =>
  obtain ⟨⟨hi,k⟩,r'⟩:=x
  obtain ⟨g1,g2,g3,hle⟩:=Gm hp
  obtain ⟨_,htl,hk0,hk1⟩:=EE hp
  have wk:W .i64 k=k:=aK (by omega)
  have wn:W .i64 (((4:Nat):Int)+1+hi.length+2)=((4+1+hi.length+2:Nat):Int):=by rw [aK (by omega)];omega
  have:=Qe hi ((dp ((s.drop 2).take 2):Nat):Int) htl hs hc c.toNat (4+1+hi.length+2) [k] rfl hle rfl
  rw [g3] at this
  refine tW _ ?_ this
  unfold n8
  have g1:fK s 4=(hi,((4:Nat):Int)+1+hi.length,0):=g1
  rw [decide_eq_false (by omega),cond_false,decide_eq_false (by omega),cond_false,cO hc0,dG (by decide),cond_false,au (iz hg2 hss),iw,au (i6 g1 hss),f0,dx rfl,cond_true,if_pos (by omega),au (iz g2 hss),iw,dx rfl,cond_true,ak (by simp),wn,wk,wn2]
  rfl
 | none =>
  obtain ⟨t,to,e,he⟩:∃t to e,fK s ((4:Nat):Int)=(t,to,e):=⟨_,_,_,rfl⟩
  have hb:=Gk (by omega) hp he
  have he:fK s 4=(t,to,e):=he
  rcases hb with ⟨hb,_,_⟩ | ⟨rfl,_,hto,h4,h5,h6⟩
  ·obtain ⟨x,e2,hx⟩:∃x e2,ff s (if (4:Int) < to then to else 4) 2=(x,e2):=⟨_,_,rfl⟩
   have hq:=Eq.refl (n8 s)
   conv at hq =>
    rhs
    unfold n8
    rw [decide_eq_false (by omega),cond_false,decide_eq_false (by omega),cond_false,cO hc0,dG (by decide),cond_false,au (iz hg2 hss),iw,au (i6 he hss),f0,dx rfl,cond_true,au (iz hx hss),iw,dJ hb,cond_false,ak (by simp)]
   exact tW _ hq (uY _ _ _ _ _ _ _ rfl (.refl _))
  ·have hif:(if (4:Int) < to then to else 4)=to:=if_pos (by omega)
   have hq:=Eq.refl (n8 s)
   conv at hq =>
    rhs
    unfold n8
    rw [decide_eq_false (by omega),cond_false,decide_eq_false (by omega),cond_false,cO hc0,dG (by decide),cond_false,au (iz hg2 hss),iw,au (i6 he hss),f0,dx rfl,cond_true,hif,au (iz h6 hss),iw,cond_true,ak (by simp),dJ (by decide)]
   exact tW _ hq (uY _ _ _ _ _ _ _ rfl (.refl _))
theorem yN (l:List Bs) (h:l.length<=1000000):bu aa 171 [.sl (aE l)]=some (.fr 9 (aE l)):=by
 refine Aj (g:=tS 9 1) rfl ?_
 show (if df 1 (aE l)=true/\((aE l).all fun x=>x.cells.all V.flat1)=true/\(aE l).length<=16777216 then some (V.fr 9 (aE l)) else none)=_
 rw [if_pos ⟨Ob l,JL fun _=>rfl,by rw [fp];omega⟩]
theorem yM (l:List Int) (h:l.length<=1000000):bu aa 173 [.sl (ae l)]=some (.fr 3 (ae l)):=by
 refine Aj (g:=tS 3 1) rfl ?_
 show (if df 1 (ae l)=true/\((ae l).all fun x=>x.cells.all V.flat1)=true/\(ae l).length<=16777216 then some (V.fr 3 (ae l)) else none)=_
 rw [if_pos ⟨oU l,JL fun _=>rfl,by rw [bO];omega⟩]
theorem Gt (l:List Bs) (k:Nat):(aE l).take k=aE (l.take k):=by simp [aE]
theorem Gs (l:List Bs) (k:Nat):(aE l).drop k=aE (l.drop k):=by simp [aE]
theorem Gr (a b:List Bs):aE a++aE b=aE (a++b):=by simp [aE]
theorem YO (a:Bs):[V.str a]=aE [a]:=rfl
theorem DT (l:List Int) (k:Nat):(ae l).take k=ae (l.take k):=by simp [ae]
theorem DO (l:List Int) (k:Nat):(ae l).drop k=ae (l.drop k):=by simp [ae]
theorem wM (a b:List Int):ae a++ae b=ae (a++b):=by simp [ae]
theorem Ub (a:Int):[V.int .i64 a]=ae [a]:=rfl
theorem zE (l:List Int) (k:Nat) (a:Int):(ae l).set k (V.int .i64 a)=ae (l.set k a):=by simp [ae,List.map_set]
abbrev EB (p:br × Int):V:=.tup [eI p.1,.int .i64 p.2]
abbrev k7 (n:br) (key:Bs) (kid:Int) (i:Nat):br:=⟨n.seps.take i++[key]++n.seps.drop i,n.kids.take (i+1)++[kid]++n.kids.drop (i+1),n.high,n.next⟩
def lS (n:br) (key:Bs) (kid:Int):br × Int :=
 if (iQ n key).2=0/\dk kid=true then
  if 0 < d0 n.seps key/\n.seps[d0 n.seps key - 1]? = some key then (jr,8) else
  if kJ (k7 n key kid (d0 n.seps key)) then (k7 n key kid (d0 n.seps key),0) else (jr,6)
 else (jr,1)
theorem Ww {n:br} (h:Sm n) (hl:n.seps.length<=900) (hk:n.kids.length<=900) {key:Bs} (hkey:key.length<=1000) {kid:Int} {i:Nat}:Sm (k7 n key kid i):=by
 refine ⟨by simp;omega,?_,by simp;omega,h.high⟩
 intro s hs
 rcases aV.1 hs with hs | hs
 ·rcases aV.1 hs with hs | hs
  ·exact h.sep s (mg hs)
  ·simp at hs;rw [hs];exact hkey
 ·exact h.sep s (kg hs)
theorem SN {n:br} {key:Bs} (h:(iQ n key).2=0):iQ n key=(((d0 n.seps key:Nat):Int),0)/\bv n=true:=by
 unfold iQ at h |-
 split at h
 ·rename_i hc
  rw [if_pos hc]
  simp only [bd] at hc
  exact ⟨rfl,hc.1.1⟩
 ·cases h
theorem SO {n:br} {key:Bs} (h:(iQ n key).2≠0):iQ n key=(0,1):=by
 unfold iQ at h |-
 split
 ·rename_i hc;rw [if_pos hc] at h;exact (h rfl).elim
 ·rfl
noncomputable def NK (n:br) (key:Bs) (kid i:Int):R :=
 ai aa 171 [V.sl (aE n.seps)] fun r_2=>kF 9 r_2 fun r57 =>
 gd (decide (0<=i/\i.toNat<=r57.length/\r57.length+([V.str key]:List V).length<=16777216)) <|
 ai aa 173 [V.sl (ae n.kids)] fun r_3=>kF 3 r_3 fun r59 =>
 gd (decide (0<=W .i64 (i+1)/\(W .i64 (i+1)).toNat<=r59.length/\r59.length+([V.int .i64 kid]:List V).length<=16777216)) <|
 ai aa 204 [V.agg [V.sl (((r57.take i.toNat)++[V.str key])++(r57.drop i.toNat)),V.sl (((r59.take ((W .i64 (i+1)).toNat))++[V.int .i64 kid])++(r59.drop ((W .i64 (i+1)).toNat))),V.str n.high,V.int .i64 n.next]] fun r_4 =>
 kB r_4 fun r43=>cond (!r43) (some (.done (V.tup [V.agg [V.sl [],V.sl [],V.str [],V.int .i64 0],V.int .i64 6])))
  (some (.done (V.tup [V.agg [V.sl (((r57.take i.toNat)++[V.str key])++(r57.drop i.toNat)),V.sl (((r59.take ((W .i64 (i+1)).toNat))++[V.int .i64 kid])++(r59.drop ((W .i64 (i+1)).toNat))),V.str n.high,V.int .i64 n.next],V.int .i64 0])))
theorem YV (n:br) (key:Bs) (kid:Int) (i:Nat) (h:Sm n) (hl:n.seps.length<=900) (hk:n.kids.length<=900) (hkey:key.length<=1000) (hi:i<=n.seps.length) (hik:i+1<=n.kids.length) :
  NK n key kid (i:Int)=some (.done (EB (if kJ (k7 n key kid i) then (k7 n key kid i,0) else (jr,6)))):=by
 have w:W .i64 ((i:Int)+1)=((i+1:Nat):Int):=by rw [aK (by omega)];omega
 unfold NK
 rw [w,aU,aU,au (yN n.seps (by omega)),jo,ak (by rw [fp];simp;omega),au (yM n.kids (by omega)),jo,ak (by rw [bO];simp;omega)]
 rw [YO,Ub,Gt,Gs,Gr,Gr,DT,DO,wM,wM,au (JF (k7 n key kid i) (Ww h hl hk hkey)),cy]
 cases kJ (k7 n key kid i)<;>rfl
theorem Am (n:br) (key:Bs) (kid:Int) (h:Sm n) (hkey:key.length<=1000):bu aa 167 [eI n,.str key,.int .i64 kid]=some (EB (lS n key kid)):=by
 refine Rc _ _ _ _ _ _ ?_
 unfold Cq lS
 rw [au (JD n key h),Ih]
 by_cases hf:(iQ n key).2=0
 rotate_left
 ·rw [SO hf,lD (by decide),if_neg (by rintro ⟨hq,_⟩;cases hq)];rfl
 obtain ⟨hfa,hr⟩:=SN hf
 obtain ⟨h1,_,h3,_,_,_,h7⟩:=nr hr
 have hg:=qC h3
 have hle:=HF n.seps key
 rw [hfa,dG rfl,cond_false,au (wX kid),cy]
 cases hp:dk kid with
 | false=>rw [if_neg (by rintro ⟨_,hq⟩;cases hq)];rfl
 | true =>
  rw [bA,cond_false,if_pos ⟨rfl,rfl⟩]
  generalize hi:d0 n.seps key=i at hle
  have ht:=YV n key kid i h (by omega) (by omega) hkey hle (by omega)
  by_cases h0:0 < i
  ·have w1:W .i64 ((i:Int) - 1)=((i - 1:Nat):Int):=by rw [aK (by omega)];omega
   have af:i - 1 < n.seps.length:=by omega
   have hget:n.seps[i - 1]? = some n.seps[i - 1]:=bj af
   rw [decide_eq_true (show (i:Int) > 0 by omega),cond_true,w1,ak (by simp),aU,j5 hget,ef]
   by_cases he:n.seps[i - 1]=key
   ·rw [he,beq_self_eq_true,if_pos ⟨h0,by rw [hget,he]⟩];rfl
   ·have he2:(n.seps[i - 1]==key)=false:=by simpa using he
    rw [he2,cond_false,if_neg (by rintro ⟨_,hq⟩;rw [hget] at hq;exact he (Option.some.inj hq))]
    exact ht
  ·rw [decide_eq_false (show ¬(i:Int) > 0 by omega),cond_false,if_neg (by rintro ⟨hq,_⟩;exact h0 hq)]
   exact ht
abbrev rm (n:br) (i:Nat):br:=⟨n.seps.take (i - 1)++n.seps.drop (i - 1+1),n.kids.take i++n.kids.drop (i+1),n.high,n.next⟩
def jV (n:br) (i:Int):br × Int:=if bv n=true/\0<=i/\i < (n.kids.length:Int)/\2<=n.kids.length then (rm n i.toNat,0) else (jr,1)
theorem Qh (n:br) (i:Int) (h:Sm n):bu aa 126 [eI n,.int .i64 i]=some (EB (jV n i)):=by
 refine QO _ _ _ _ _ ?_
 unfold Cj
 rw [au (uV n h),cy,bO]
 cases hr:bv n with
 | false =>
  have hd:jV n i=(jr,1):=by unfold jV;exact if_neg (by rw [hr];rintro ⟨hq,_⟩;cases hq)
  rw [hd];rfl
 | true =>
  obtain ⟨h1,_,h3,_,_,_,h7⟩:=nr hr
  have hg:=qC h3
  rw [bA,cond_false]
  by_cases g1:i < 0
  ·have hd:jV n i=(jr,1):=by unfold jV;exact if_neg (by omega)
   rw [hd,decide_eq_true g1];rfl
  rw [decide_eq_false g1,cond_false]
  by_cases g2:i ≥ (n.kids.length:Int)
  ·have hd:jV n i=(jr,1):=by unfold jV;exact if_neg (by omega)
   rw [hd,decide_eq_true g2];rfl
  rw [decide_eq_false g2,cond_false]
  by_cases g3:n.kids.length=1
  ·have hd:jV n i=(jr,1):=by unfold jV;exact if_neg (by omega)
   rw [hd,dx (by omega)];rfl
  rw [dJ (by omega),cond_false]
  have hd:jV n i=(rm n i.toNat,0):=by unfold jV;exact if_pos ⟨hr,by omega,by omega,by omega⟩
  rw [hd]
  obtain ⟨k,rfl⟩:∃k:Nat,i=(k:Int):=⟨i.toNat,by omega⟩
  have w1:W .i64 ((k:Int) - 1)=(k:Int) - 1:=aK (by omega)
  have w2:W .i64 ((k:Int)+1)=((k+1:Nat):Int):=by rw [aK (by omega)];omega
  have hm:(if 0 < (k:Int) - 1 then (k:Int) - 1 else 0)=((k - 1:Nat):Int):=by split<;>omega
  have w3:W .i64 (((k - 1:Nat):Int)+1)=((k - 1+1:Nat):Int):=by rw [aK (by omega)];omega
  rw [w1,w2,hm,w3,aU,aU,aU,aU,au (yN n.seps (by omega)),jo,ak (by rw [fp];simp;omega),au (yM n.kids (by omega)),jo,ak (by rw [bO];simp;omega)]
  rw [Gt,Gs,Gr,DT,DO,wM]
abbrev sP (n:br) (to:Int):br:=⟨n.seps.take (n.seps.length / 2),n.kids.take (n.seps.length / 2+1),n.seps.getD (n.seps.length / 2) [],to+1⟩
abbrev sQ (n:br):br:=⟨n.seps.drop (n.seps.length / 2+1),n.kids.drop (n.seps.length / 2+1),n.high,n.next⟩
def ve (n:br) (to:Int):br × br × Bs × Int :=
 if bv n=true/\3<=n.kids.length/\dk to=true then (sP n to,sQ n,n.seps.getD (n.seps.length / 2) [],0) else (jr,jr,[],1)
abbrev VZ (p:br × br × Bs × Int):V:=.tup [eI p.1,eI p.2.1,.str p.2.2.1,.int .i64 p.2.2.2]
theorem Yw (n:br) (to:Int) (h:Sm n):bu aa 168 [eI n,.int .i64 to]=some (VZ (ve n to)):=by
 refine Rf _ _ _ _ _ ?_
 have hs:=h.seps
 have hk:=h.kids
 unfold Cr ve
 rw [au (uV n h),cy,bO,fp]
 cases hr:bv n with
 | false=>rw [if_neg (by rintro ⟨hq,_⟩;cases hq)];rfl
 | true =>
  obtain ⟨h1,_⟩:=nr hr
  rw [bA,cond_false]
  by_cases g1:(n.kids.length:Int) < 3
  ·rw [decide_eq_true g1,if_neg (by omega)];rfl
  rw [decide_eq_false g1,cond_false,au (wX to),cy]
  cases hp:dk to with
  | false=>rw [if_neg (by rintro ⟨_,_,hq⟩;cases hq)];rfl
  | true =>
   have hto:=uM hp
   rw [bA,cond_false,if_pos ⟨rfl,by omega,rfl⟩]
   have wd:W .i64 ((n.seps.length:Int).tdiv 2)=((n.seps.length / 2:Nat):Int):=by
    rw [show ((n.seps.length:Int)).tdiv 2=((n.seps.length / 2:Nat):Int) from rfl]
    exact aK (by omega)
   rw [wd]
   obtain ⟨m,hm⟩:∃m,n.seps.length / 2=m:=⟨_,rfl⟩
   have hm2:m < n.seps.length:=by omega
   rw [hm]
   have w1:W .i64 ((m:Int)+1)=((m+1:Nat):Int):=by rw [aK (by omega)];omega
   have w2:W .i64 (to+1)=to+1:=aK (by omega)
   have hget:n.seps[m]? = some n.seps[m]:=bj hm2
   have hd:n.seps.getD m []=n.seps[m]:=by simp [List.getD,hget]
   have e1:sP n to=⟨n.seps.take m,n.kids.take (m+1),n.seps[m],to+1⟩:=by unfold sP;rw [hm,hd]
   have e2:sQ n=⟨n.seps.drop (m+1),n.kids.drop (m+1),n.high,n.next⟩:=by unfold sQ;rw [hm]
   rw [e1,e2]
   have et:(ae n.kids).take n.kids.length=ae n.kids:=by rw [<-bO,lc]
   have es:(aE n.seps).take n.seps.length=aE n.seps:=by rw [<-fp,lc]
   rw [hd,w1,w2,aU,aU,et,es,Gt,Gs,DT,DO]
   have q1:=yN (n.seps.take m) (by simp;omega)
   have q2:=yN (n.seps.drop (m+1)) (by simp;omega)
   have q3:=yM (n.kids.take (m+1)) (by simp;omega)
   have q4:=yM (n.kids.drop (m+1)) (by simp;omega)
   simp (disch:=first | exact Ob _ | exact oU _ | exact decide_eq_true (by first | omega | (simp only [fp,bO,cL,fX,fO,cw,fc,nN];omega))) only [ak,j5 hget,ef,au q1,au q2,au q3,au q4,jo]
end Go.Proofs.YtlphgcjepphhcaaGreat
