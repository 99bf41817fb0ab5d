/-
  Texts that the last one stands on.
-/
import Derived.Test.YtlphgcjepphhcaaGreatY3
import Derived.Lib.Walk
import Derived.Lib.Overlaps
import Derived.Lib.AppendZerosOnto
import Derived.Laws.Externs
import Derived.Laws.IdiomCopy
import Derived.Laws.CopyRow
import Derived.Lib.Bytealg
import Derived.ProofKit
import Derived.OpenShut
import Derived.Carry
import Derived.ChangeArms
import Derived.ChangeCalls
import Derived.Sort.OwnSortedInts
import Derived.Lib.SlicesCompact
import Derived.Test.YtlphgcjepphhcaaGreatProg
open Nat renaming beq->kG,blt->gL,le_refl->bG,blt_eq->mG,eq_of_beq_eq_true->Hr,mul_one->jW,lt_or_ge->jV,add_zero->dK,zero_le->iE,add_assoc->gT,sub_mul->n7,mul_le_mul_right->cO,add_mul->ij,succ_mul->jX,lt_of_lt_of_le->n6,zero_add->dZ,le_trans->lD,mul_le_mul->yy,sub_self->iX,pow_succ->yz,mul_comm->yx,add_comm->py,min_eq_left->vZ
open List renaming replicate->bE,getElem?_eq_some_iff->bj,drop_eq_getElem_cons->rl,take_succ_cons->vX,take_zero->tP,drop_eq_nil_of_le->pq,getElem?_eq_getElem->bC,drop_eq_nil_iff->BI,getElem?_map->dB,all_eq_true->di,size_toArray->tO,length_append->c8,length_take->gq,length_drop->gg,getElem?_toArray->ym,append_assoc->bu,getElem?_set_self->fj,getElem?_set_ne->fE,mem_of_getElem?->cG,getElem_of_mem->jR,mem_of_mem_drop->kD,getElem?_drop->gf,mem_append->bp,mem_of_mem_take->mE,getElem?_append_left->db,getElem?_take->gI,getElem?_append_right->cY,mem_map->dP,take_append_drop->ig,length_nil->fR,nil_append->dU,getElem?_cons_zero->Hf,mem_cons->bP,drop_drop->nW,drop_zero->pu,take_append_of_le_length->vW,take_of_length_le->kE,drop_append->rk,getElem?_of_mem->vT,eq_nil_of_length_eq_zero->pw,take_length->lC,all_cons->yk,append_nil->dA,map_cons->dj,length_cons->cL,cons_append->dv,map_append->gJ,length_map->dO,range->dl
open Option renaming bind_some->aJ,map_some->cg,getD_some->tV
open Bool renaming false_eq_true->cK,and_self->nS,or_eq_true->mTz,and_eq_true->bv,not_eq_true'->iC,false_and->mr,not_true->bR,false_ne_true->G5,or_eq_false_iff->re,or_false->rh
open Array renaming length_toList->BC,size_append->yf,getElem?_eq_some_iff->eX,getElem?_eq_getElem->eW,getElem?_append_left->GZ,toArray_toList->G4,getElem?_toList->ye,getElem?_map->Bz
open Int renaming fdiv_eq_ediv_of_nonneg->OK,natCast_nonneg->G9
namespace Go.Lite
open Go
def tR (cfg:bi) (n0:Nat) (f:List Nat) (c:C) (t:S) (x:Ex) (s:S):Prop :=
 ∀s0,cM n0 f s0=t->bV cfg n0 (.loop f c) s0=some (x,s)
inductive cW where
 | head (i:Nat) (s:S)
 | done (v:V)
 | doneM (v:V) (m:List O)
abbrev R:=Option cW
structure KC where
 cfg:bi
 frs:FuncId->Bool
 ik:FuncId->List V->List O->(V->List O->R)->R
 pv:FuncId->Option (List V->Option V):=fun _=>none
 ck:CM->FuncId->List V->List O->(V->List O->R)->R:=fun _ _ _ _ _=>none
 pvok:∀f g as0 r,pv f=some g->g as0=some r->bK cfg f as0=some r:=by exact fun _ _ _ _ h=>nomatch h
noncomputable def bN (cfg:bi) (rd:CM) (f:FuncId) (args:List V) (mem:List O):Option (V × List O):=(lV cfg f args mem).map fun r=>gV rd mem r.1 r.2
open Classical in
noncomputable def aT {α:Type} (cfg:bi) (rd:CM) (mk:α->V × List O) (f:FuncId) (args:List V) (mem:List O) (k:α->R):R :=
 if h:∃L,bN cfg rd f args mem=some (mk L) then k (Classical.choose h) else none
noncomputable def c7 {α:Type} (cfg:bi) (rd:CM) (mk:List O->α->V × List O) (f:FuncId) (args:List V) (mem:List O) (k:α->R):R:=aT cfg rd (mk mem) f args mem k
theorem de {α:Type} {cfg:bi} {rd:CM} {mk:α->V × List O} {f:FuncId} {args:List V} {mem:List O} {k:α->R} {r:cW} (h:aT cfg rd mk f args mem k=some r):∃L,bN cfg rd f args mem=some (mk L)/\k L=some r:=by
 unfold aT at h
 split at h
 all_goals grind
theorem cz {α:Type} {cfg:bi} {rd:CM} {mk:α->V × List O} {f:FuncId} {args:List V} {mem:List O} {k:α->R} (hi:∀L L',mk L=mk L'->L=L') {L:α} (h:bN cfg rd f args mem=some (mk L)):aT cfg rd mk f args mem k=k L:=by
 unfold aT
 have hx:∃L,bN cfg rd f args mem=some (mk L):=⟨L,h⟩
 grind
open Classical in
noncomputable def sg {α β:Type} (cfg:bi) (rd:CM) (mk:α->V × List O) (mk2:β->V × List O) (f:FuncId) (args:List V) (mem:List O) (k:α->R) (k2:β->R):R :=
 if ∃L,bN cfg rd f args mem=some (mk L) then aT cfg rd mk f args mem k else aT cfg rd mk2 f args mem k2
theorem Uc {α β:Type} {cfg:bi} {rd:CM} {mk:α->V × List O} {mk2:β->V × List O} {f:FuncId} {args:List V} {mem:List O} {k:α->R} {k2:β->R} {r:cW} (h:sg cfg rd mk mk2 f args mem k k2=some r) :
  (∃L,bN cfg rd f args mem=some (mk L)/\k L=some r)∨∃L,bN cfg rd f args mem=some (mk2 L)/\k2 L=some r:=by
 unfold sg at h
 split at h
 ·exact .inl (de h)
 ·exact .inr (de h)
theorem Ua {α β:Type} {cfg:bi} {rd:CM} {mk:α->V × List O} {mk2:β->V × List O} {f:FuncId} {args:List V} {mem:List O} {k:α->R} {k2:β->R} (hi:∀L L',mk L=mk L'->L=L') {L:α} (h:bN cfg rd f args mem=some (mk L)):sg cfg rd mk mk2 f args mem k k2=k L:=by
 unfold sg
 rw [if_pos ⟨L,h⟩,cz hi h]
theorem Ub {α β:Type} {cfg:bi} {rd:CM} {mk:α->V × List O} {mk2:β->V × List O} {f:FuncId} {args:List V} {mem:List O} {k:α->R} {k2:β->R} (hi:∀L L',mk2 L=mk2 L'->L=L') (hd:∀L L',mk L≠mk2 L') {L:β} (h:bN cfg rd f args mem=some (mk2 L)):sg cfg rd mk mk2 f args mem k k2=k2 L:=by
 unfold sg
 rw [if_neg fun ⟨L',e⟩=>hd L' L (Option.some.inj (e.symm.trans h)),cz hi h]
open Classical in
noncomputable def fV {α β γ:Type} (cfg:bi) (rd:CM) (mk:α->V × List O) (mk2:β->V × List O) (mk3:γ->V × List O) (f:FuncId) (args:List V) (mem:List O) (k:α->R) (k2:β->R) (k3:γ->R):R :=
 if ∃L,bN cfg rd f args mem=some (mk L) then aT cfg rd mk f args mem k else sg cfg rd mk2 mk3 f args mem k2 k3
theorem Ug {α β γ:Type} {cfg:bi} {rd:CM} {mk:α->V × List O} {mk2:β->V × List O} {mk3:γ->V × List O} {f:FuncId} {args:List V} {mem:List O} {k:α->R} {k2:β->R} {k3:γ->R} {r:cW} (h:fV cfg rd mk mk2 mk3 f args mem k k2 k3=some r) :
  (∃L,bN cfg rd f args mem=some (mk L)/\k L=some r)∨(∃L,bN cfg rd f args mem=some (mk2 L)/\k2 L=some r)∨∃L,bN cfg rd f args mem=some (mk3 L)/\k3 L=some r:=by
 unfold fV at h
 split at h
 ·exact .inl (de h)
 ·exact .inr (Uc h)
section
variable {α β γ:Type} {cfg:bi} {rd:CM} {mk:α->V × List O} {mk2:β->V × List O} {mk3:γ->V × List O} {f:FuncId} {args:List V} {mem:List O} {k:α->R} {k2:β->R} {k3:γ->R}
theorem Ud (hi:∀L L',mk L=mk L'->L=L') {L:α} (h:bN cfg rd f args mem=some (mk L)):fV cfg rd mk mk2 mk3 f args mem k k2 k3=k L:=by
 unfold fV
 rw [if_pos ⟨L,h⟩,cz hi h]
theorem Ue (hi:∀L L',mk2 L=mk2 L'->L=L') (hd:∀L L',mk L≠mk2 L') {L:β} (h:bN cfg rd f args mem=some (mk2 L)):fV cfg rd mk mk2 mk3 f args mem k k2 k3=k2 L:=by
 unfold fV
 rw [if_neg fun ⟨L',e⟩=>hd L' L (Option.some.inj (e.symm.trans h)),Ua hi h]
theorem Uf (hi:∀L L',mk3 L=mk3 L'->L=L') (hd:∀L L',mk L≠mk3 L') (hd2:∀L L',mk2 L≠mk3 L') {L:γ} (h:bN cfg rd f args mem=some (mk3 L)):fV cfg rd mk mk2 mk3 f args mem k k2 k3=k3 L:=by
 unfold fV
 rw [if_neg fun ⟨L',e⟩=>hd L' L (Option.some.inj (e.symm.trans h)),Ub hi hd2 h]
end
theorem cU {α:Type} {cfg:bi} {rd:CM} {mk:List O->α->V × List O} {f:FuncId} {args:List V} {mem:List O} {k:α->R} (hi:∀M L L',mk M L=mk M L'->L=L') {L:α} (h:bN cfg rd f args mem=some (mk mem L)):c7 cfg rd mk f args mem k=k L:=cz (hi mem) h
def gd (b:Bool) (k:R):R:=cond b k none
def aY {α:Type} (l:List α) (n:Nat) (k:α->R):R:=match l[n]? with | some x=>k x | none=>none
def kB (v:V) (k:Bool->R):R:=match v with | .bool b=>k b | _=>none
def kI (j:IntKind) (v:V) (k:Int->R):R:=match v with | .int i n=>cond (i==j) (k n) none | _=>none
def kS (v:V) (k:List UInt8->R):R:=match v with | .str s=>k s | _=>none
def kL (v:V) (k:List V->R):R:=match v with | .sl l=>k l | _=>none
def kF (e:TypeId) (v:V) (k:List V->R):R:=match v with | .fr t l=>cond (t==e) (k l) none | _=>none
def kA (v:V) (k:List V->R):R:=match v with | .agg l=>k l | _=>none
def kT (v:V) (k:List V->R):R:=match v with | .tup l=>k l | _=>none
def kP (e:TypeId) (v:V) (k:Nat->R):R:=match v with | .hp t i o=>cond (t==e && kG o 0) (k i) none | _=>none
def kM (e:TypeId) (v:V) (k:Nat->R):R:=match v with | .hm t i=>cond (t==e) (k i) none | _=>none
def bO (l:List V) (k:V->List V->R):R:=match l with | c::cs=>k c cs | []=>none
def dR (l:List V) (k:R):R:=match l with | []=>k | _=>none
def bh {α:Type} (o:Option α) (k:α->R):R:=match o with | some x=>k x | none=>none
noncomputable def aE (cfg:bi) (f:FuncId) (as0:List V) (k:V->R):R:=match bK cfg f as0 with | some r=>k r | none=>none
noncomputable def Fb (kc:KC) (f:FuncId) (as0:List V) (k:V->R):R:=match kc.pv f with | some g=>(match g as0 with | some r=>k r | none=>none) | none=>aE kc.cfg f as0 k
def jJ (l:List V) (kn:R) (ks:V->List V->R):R:=match l with | []=>kn | x::l=>ks x l
def dp (c:Nat) (l:List V):Bool:=l.all fun y=>y.cells.length==c
def kv (es:List (V × V)) (key:V) (kn:R) (ks:V->R):R:=match en es key with | some (some v)=>ks v | some none=>kn | none=>none
section
variable {b:Bool} {k:R} {r:cW} {v:V}
theorem bB (h:gd b k=some r):b=true/\k=some r:=by
 cases b
 ·cases h
 ·exact ⟨rfl,h⟩
theorem bn {x y:R} (h:cond b x y=some r):(b=true/\x=some r)∨(b=false/\y=some r):=by
 grind
theorem m7 {α:Type} {l:List α} {n:Nat} {k:α->R} (h:aY l n k=some r):∃x,l[n]? = some x/\k x=some r:=by
 unfold aY at h
 grind
theorem bD {α:Type} {o:Option α} {k:α->R} (h:bh o k=some r):∃x,o=some x/\k x=some r:=by
 cases o
 ·cases h
 ·exact ⟨_,rfl,h⟩
theorem Em {k:Bool->R} (h:kB v k=some r):∃x,v = .bool x/\k x=some r:=by
 cases v<;>first | (cases h;done) | exact ⟨_,rfl,h⟩
theorem UO {j:IntKind} {k:Int->R} (h:kI j v k=some r):∃x,v = .int j x/\k x=some r:=by
 cases v<;>first | (cases h;done) | skip
 rename_i i n
 rcases bn h with ⟨h1,h2⟩ | ⟨_,h2⟩
 all_goals grind
theorem UR {k:List UInt8->R} (h:kS v k=some r):∃x,v = .str x/\k x=some r:=by
 cases v<;>first | (cases h;done) | exact ⟨_,rfl,h⟩
theorem Kz {k:List V->R} (h:kL v k=some r):∃x,v = .sl x/\k x=some r:=by
 cases v<;>first | (cases h;done) | exact ⟨_,rfl,h⟩
theorem UM {k:List V->R} (h:kA v k=some r):∃x,v = .agg x/\k x=some r:=by
 cases v<;>first | (cases h;done) | exact ⟨_,rfl,h⟩
theorem KA {k:List V->R} (h:kT v k=some r):∃x,v = .tup x/\k x=some r:=by
 cases v<;>first | (cases h;done) | exact ⟨_,rfl,h⟩
theorem UN {e:TypeId} {k:List V->R} (h:kF e v k=some r):∃x,v = .fr e x/\k x=some r:=by
 cases v<;>first | (cases h;done) | skip
 rename_i t n
 rcases bn h with ⟨h1,h2⟩ | ⟨_,h2⟩
 all_goals grind
theorem UQ {e:TypeId} {k:Nat->R} (h:kP e v k=some r):∃i,v = .hp e i 0/\k i=some r:=by
 cases v<;>first | (cases h;done) | skip
 rename_i t i o
 rcases bn h with ⟨h1,h2⟩ | ⟨_,h2⟩
 all_goals simp_all
theorem UP {e:TypeId} {k:Nat->R} (h:kM e v k=some r):∃i,v = .hm e i/\k i=some r:=by
 cases v<;>first | (cases h;done) | skip
 rename_i t i
 rcases bn h with ⟨h1,h2⟩ | ⟨_,h2⟩
 all_goals grind
theorem Of {l:List V} {k:V->List V->R} (h:bO l k=some r):∃c cs,l=c::cs/\k c cs=some r:=by
 cases l
 ·cases h
 ·exact ⟨_,_,rfl,h⟩
theorem Oj {l:List V} (h:dR l k=some r):l=[]/\k=some r:=by
 cases l
 ·exact ⟨rfl,h⟩
 ·cases h
theorem WN {cfg:bi} {f:FuncId} {as0:List V} {k:V->R} (h:aE cfg f as0 k=some r):∃x,bK cfg f as0=some x/\k x=some r:=by
 unfold aE at h
 grind
theorem VM {es:List (V × V)} {key:V} {kn:R} {ks:V->R} (h:kv es key kn ks=some r):∃o,en es key=some o/\((o=none/\kn=some r)∨∃v,o=some v/\ks v=some r):=by
 unfold kv at h
 grind
end
def qj (P:Program) (t:TypeId) (v:V) (k:V->R):R :=
 match P.underlying t with
 | some .bool=>kB v fun b=>k (.bool b)
 | some (.int j)=>kI j v fun n=>k (.int j n)
 | some .string=>kS v fun s=>k (.str s)
 | some (.slice _)=>kL v fun l=>k (.sl l)
 | some (.pointer e)=>kP e v fun i=>k (.hp e i 0)
 | some (.map _ _)=>kM t v fun i=>k (.hm t i)
 | _=>k v
def Eu (P:Program):Nat->TypeId->List TypeId
 | 0,_=>[]
 | n+1,t=>match P.underlying t with
  | some (.struct fs)=>fs.toList.flatMap fun f=>Eu P n f.type
  | some (.array len e)=>(bE len (Eu P n e)).flatten
  | _=>[t]
def Cb (P:Program):List TypeId->List V->(List V->R)->R
 | [],cs,k=>dR cs (k [])
 | t::ts,cs,k=>bO cs fun c cs=>qj P t c fun c=>Cb P ts cs fun ds=>k (c::ds)
def mM:Option TypeDesc->Bool
 | some (.struct _) | some (.array _ _)=>true
 | _=>false
def Wm:Option TypeDesc->Bool
 | some (.struct _) | some (.array _ _) | some (.pointer _) | none=>false
 | _=>true
def o8 (P:Program) (t:TypeId) (v:V) (k:V->R):R :=
 cond (mM (P.underlying t)) (kA v fun cs=>Cb P (Eu P 6 t) cs fun ds=>k (.agg ds)) (qj P t v k)
def Bo (P:Program):List TypeId->List V->(List V->R)->R
 | [],vs,k=>dR vs (k [])
 | t::ts,vs,k=>bO vs fun c cs=>o8 P t c fun c=>Bo P ts cs fun ds=>k (c::ds)
def Fl (P:Program) (fr:Bool) (ty:TypeId) (r:V) (k:V->R):R :=
 match P.underlying ty with
 | some (.tuple ts)=>kT r fun vs=>Bo P ts.toList vs fun ws=>k (.tup ws)
 | some (.slice e)=>cond fr (kF e r fun l=>k (.fr e l)) (kL r fun l=>k (.sl l))
 | _=>o8 P ty r k
section
variable {P:Program} {r:cW}
theorem uT {t:TypeId} {v:V} {k:V->R} (h:qj P t v k=some r):k v=some r:=by
 unfold qj at h
 split at h
 ·obtain ⟨x,rfl,h'⟩:=Em h;grind
 ·obtain ⟨x,rfl,h'⟩:=UO h;grind
 ·obtain ⟨x,rfl,h'⟩:=UR h;grind
 ·obtain ⟨x,rfl,h'⟩:=Kz h;grind
 ·obtain ⟨x,rfl,h'⟩:=UQ h;grind
 ·obtain ⟨x,rfl,h'⟩:=UP h;grind
 grind
theorem P3:∀{ts:List TypeId} {cs:List V} {k:List V->R},Cb P ts cs k=some r->k cs=some r:=by
 intro ts
 induction ts with
 | nil=>intro cs k h;obtain ⟨rfl,h⟩:=Oj h;exact h
 | cons t ts ih=>intro cs k h;obtain ⟨c,cs,rfl,h'⟩:=Of h;exact ih (k:=fun ds=>k (c::ds)) (uT h')
theorem qW {t:TypeId} {v:V} {k:V->R} (h:o8 P t v k=some r):k v=some r:=by
 rcases bn h with ⟨_,h⟩ | ⟨_,h⟩
 ·obtain ⟨cs,rfl,h'⟩:=UM h;exact P3 h'
 ·exact uT h
theorem Oc:∀{ts:List TypeId} {cs:List V} {k:List V->R},Bo P ts cs k=some r->k cs=some r:=by
 intro ts
 induction ts with
 | nil=>intro cs k h;obtain ⟨rfl,h⟩:=Oj h;exact h
 | cons t ts ih=>intro cs k h;obtain ⟨c,cs,rfl,h'⟩:=Of h;exact ih (k:=fun ds=>k (c::ds)) (qW h')
theorem XC {fr:Bool} {ty:TypeId} {v:V} {k:V->R} (h:Fl P fr ty v k=some r):k v=some r:=by
 unfold Fl at h
 split at h
 ·obtain ⟨x,rfl,h'⟩:=KA h;exact Oc h'
 ·rcases bn h with ⟨_,h⟩ | ⟨_,h⟩
  ·obtain ⟨x,rfl,h'⟩:=UN h;grind
  ·obtain ⟨x,rfl,h'⟩:=Kz h;grind
 ·exact qW h
end
def uu (o:Option (Option V)) (d:Nat) (k:Nat->R):R :=
 match o with
 | none=>k d
 | some (some (.int _ n))=>gd (decide (0<=n)) (k n.toNat)
 | some _=>none
def vy (o:Option (Option V)) (b:Bool) (k:R):R :=
 match o with
 | none=>k
 | some _=>gd b k
def pT (mem:List O) (x:V) (k:List V->R):R :=
 match x with
 | .win id off len =>
  match mem[id]? with
  | some (.row _ els _)=>gd (decide (off+len<=els.length)) (k ((els.drop off).take len))
  | _=>none
 | x=>bh (cy mem x) k
def zy (mem:List O) (x:V) (k:List V->R):R :=
 match x with
 | .str s=>k (dC s)
 | x=>pT mem x k
def sG {α β:Type} (f:α->(β->R)->R):List α->(List β->R)->R
 | [],k=>k []
 | x::xs,k=>f x fun y=>sG f xs fun ys=>k (y::ys)
def vz (mem:List O) (v:V) (k:V->R):R :=
 match v with
 | .win id off len=>pT mem (.win id off len) fun l=>k (.sl l)
 | v=>bh (dX mem v) k
def vA (mem:List O) (v:V) (k:V->R):R :=
 match v with
 | .agg cs=>sG (vz mem) cs fun ds=>k (.agg ds)
 | .ptr id i off=>bh (d6 mem (.ptr id i off)) fun r =>
   match r.1 with
   | .agg cs=>sG (vz mem) cs fun ds=>k (.ref (.agg ds) r.2)
   | x=>vz mem x fun y=>k (.ref y r.2)
 | v=>vz mem v k
def Gs (mem:List O) (v:V) (k:V->R):R :=
 match v with
 | .fn f caps=>sG (vA mem) caps fun ds=>k (.fn f ds)
 | v=>vA mem v k
open Classical in
noncomputable def uK (a b:List O) (q:R):R:=if a=b then q else none
theorem TM {a b:List O} {q:R} {r:cW} (h:uK a b q=some r):a=b/\q=some r:=by
 unfold uK at h
 grind
theorem TL (a:List O) (q:R):uK a a q=q:=by unfold uK;grind
noncomputable def bT (a:List O) (q:R):R:=uK a a q
theorem bY (a:List O) (q:R):bT a q=q:=TL a q
noncomputable def XU (ro:Bool) (m mem:List O) (q:R):R:=cond ro (uK (m.take mem.length) mem q) q
noncomputable def y7 (kc:KC) (dr:Bool) (f:FuncId) (ty:TypeId) (args:List V) (mem:List O) (k:V->List O->R):R :=
 gd (jB kc.cfg.P f)<|cond (kc.cfg.pure f)
  (sG (Gs mem) args fun as0=>Fb kc f as0 fun r=>Fl kc.cfg.P (kc.frs f) ty r fun r =>
   cond (sB r)
    (cond (dr && !(args.flatMap (iO mem)).isEmpty) none (k (mh (kc.cfg.adopt f && !dr) (freezeAll (args.flatMap (iO mem)) mem) r).1 (mh (kc.cfg.adopt f && !dr) (freezeAll (args.flatMap (iO mem)) mem) r).2))
    (k (mh (kc.cfg.adopt f && !dr) mem r).1 (mh (kc.cfg.adopt f && !dr) mem r).2))
  (cond dr none (match kc.cfg.can f with
   | none=>kc.ik f args mem k
   | some rd=>kc.ck rd f (gj args mem).env (gj args mem).mem fun v m=>XU (kc.cfg.ro f) (kO rd.row args mem v m).2 mem (k (kO rd.row args mem v m).1 (kO rd.row args mem v m).2)))
def Tz (kc:KC) (f:FuncId) (args:List V) (mem:List O) (k:V->List O->R):R :=
 cond (Dy (args.flatMap ji) mem) (kc.ik f args (keepOnly (args.flatMap ji) mem) fun v m=>gd (Nat.ble mem.length m.length) (k v (qI (args.flatMap ji) mem m))) none
def BY (P:Program) (t:TypeId) (s x:V) (mem:List O) (k:V->List O->R):R :=
 bh (ef P t) fun e=>zy mem x fun xs=>gd (dp (P.cellsOf e) xs)<|gd (nK P e) <|
  match s with
  | .nilS=>gd (decide (xs.length<=16777216)) (k (.own mem.length) (mem++[.row e xs 0]))
  | .own id =>
   match mem[id]? with
   | some (.row e' els fz)=>gd (e'==e)<|gd (decide (els.length+xs.length<=16777216)) (k (.own (mem.set id .dead).length) (mem.set id .dead++[.row e (els++xs) fz]))
   | _=>none
  | .tail id off =>
   match mem[id]? with
   | some (.row e' els fz)=>gd (e'==e)<|gd (kG fz 0 || gL off fz)<|gd (decide ((els.drop off).length+xs.length<=16777216)) (k (.tail mem.length 0) (mem.set id .dead++[.row e (els.drop off++xs) (cond (kG fz 0) 0 (fz - off))]))
   | _=>none
  | .win id off len =>
   match mem[id]? with
   | some (.row e' els fz)=>gd (e'==e)<|gd (kG fz 0)<|gd (decide (off+len<=els.length))<|gd (decide (len+xs.length<=16777216)) (k (.tail mem.length 0) (mem.set id .dead++[.row e ((els.drop off).take len++xs) 0]))
   | _=>none
  | .lit t' l=>gd (t'==e)<|gd (decide (l.length+xs.length<=16777216))<|gd (dp (P.cellsOf e) l) (k (.sl (l++xs)) mem)
  | _=>none
def BX (P:Program) (t t':TypeId) (s x:V) (mem:List O) (k:V->List O->R):R :=
 match P.underlying t',s,x with
 | some (.int _),.nilS,.int .i64 n=>bh (ef P t) fun e=>gd (decide (0 < n))<|gd (decide (n.toNat<=16777216))<|gd (nK P e)<|bh (gF P e) fun z=>bh (ir z) fun z=>k (.own mem.length) (mem++[.row e (bE n.toNat z) 0])
 | _,_,_=>none
def Cj (P:Program) (t:TypeId) (s x:V) (mem:List O) (k:V->List O->R):R :=
 bh (ef P t) fun e=>zy mem x fun xs=>gd (dp (P.cellsOf e) xs)<|bh (tq mem s) fun r =>
  match mem[r.1]? with
  | some (.row e' els fz)=>gd (e'==e)<|gd (decide (fz<=r.2.1))<|gd (decide (r.2.1+r.2.2<=els.length)) <|
    k (.int .i64 (min xs.length r.2.2:Nat)) (mem.set r.1 (.row e' (els.take r.2.1++xs.take (min xs.length r.2.2)++els.drop (r.2.1+min xs.length r.2.2)) fz))
  | _=>none
def Cd (P:Program) (t:TypeId) (s:V) (mem:List O) (k:V->List O->R):R :=
 bh (ef P t) fun e=>bh (tq mem s) fun r =>
  match mem[r.1]? with
  | some (.row e' els fz)=>gd (e'==e)<|gd (nK P e)<|gd (decide (fz<=r.2.1))<|gd (decide (r.2.1+r.2.2<=els.length))<|bh (gF P e) fun z=>bh (ir z) fun z =>
    k (.tup []) (mem.set r.1 (.row e' (els.take r.2.1++bE r.2.2 z++els.drop (r.2.1+r.2.2)) fz))
  | _=>none
def EA (P:Program) (t:TypeId) (a b:V) (mem:List O) (k:V->List O->R):R :=
 bh (ef P t) fun e =>
  match a,b with
  | .int _ n,.int _ c=>gd (decide (0<=n))<|gd (decide (n<=c))<|gd (decide (c.toNat<=16777216))<|gd (nK P e)<|bh (gF P e) fun z=>bh (ir z) fun z =>
    k (.own mem.length) (mem++[.row e (bE n.toNat z) 0])
  | _,_=>none
def Ch (P:Program) (mem:List O) (s d:TypeId) (x:V) (k:V->R):R :=
 match P.underlying s,P.underlying d,x with
 | some (.slice e),some .string,x=>pT mem x fun xs=>gd (match P.underlying e with | some (.int .u8)=>true | _=>false)<|bh (fM xs) fun ns=>k (.str (ns.map fun n=>UInt8.ofNat n.toNat))
 | _,_,_=>bh (mT P mem s d x) k
def D8 (P:Program) (mem:List O) (t:TypeId) (x i:V) (k:V->List O->R):R :=
 match P.underlying t,i with
 | some (.slice e),.int _ n =>
  gd (decide (0<=n)) <|
  match x with
  | .sl l=>aY l n.toNat fun y=>o8 P e y fun y=>gd (y.cells.length==P.cellsOf e) (k (.ref y 0) mem)
  | .own id =>
   match mem[id]? with
   | some (.row e' els _)=>gd (e'==e)<|gd (decide (n.toNat < els.length)) (k (.ptr id n.toNat 0) mem)
   | _=>none
  | .win id off len =>
   match mem[id]? with
   | some (.row e' els _)=>gd (e'==e)<|gd (decide (n.toNat < len))<|gd (decide (off+len<=els.length)) (k (.ptr id (off+n.toNat) 0) mem)
   | _=>none
  | .tail id off =>
   match mem[id]? with
   | some (.row e' els _)=>gd (e'==e)<|gd (decide (n.toNat < (els.drop off).length)) (k (.ptr id (off+n.toNat) 0) mem)
   | _=>none
  | _=>none
 | some (.array len e),.int _ n =>
  gd (decide (0<=n))<|gd (decide (n.toNat < len))<|gd (decide (0 < P.cellsOf e)) <|
  match x with
  | .ref y off=>k (.ref y (off+n.toNat * P.cellsOf e)) mem
  | .ptr id q off=>k (.ptr id q (off+n.toNat * P.cellsOf e)) mem
  | _=>none
 | _,_=>bh (iu P mem t x i) fun v=>k v mem
def LZ (P:Program) (e t:TypeId) (x:V) (off:Nat) (k:V->R):R :=
 o8 P e x fun x=>cond (((x.cells.drop off).take (P.cellsOf t)).length==P.cellsOf t) (bh (nu P t ((x.cells.drop off).take (P.cellsOf t))) k) none
def Dt:Option TypeDesc->Bool
 | some .bool | some (.int _) | some .string=>true
 | _=>false
def Ev (P:Program) (mem:List O) (t:TypeId) (p:V) (k:V->R):R :=
 match p with
 | .ptr id i off =>
  match mem[id]? with
  | some (.row e els _)=>aY els i fun x=>LZ P e t x off k
  | some (.box _ (.agg cs) _)=>cond (P.cellsOf t==1 && Dt (P.underlying t)) (gd (kG i 0)<|aY cs off fun c=>qj P t c k) (bh (eP P mem t p) k)
  | _=>bh (eP P mem t p) k
 | .ref (.agg cs) off=>cond (P.cellsOf t==1 && Dt (P.underlying t)) (aY cs off fun c=>qj P t c k) (bh (eP P mem t p) k)
 | .hp e i off=>bh (iq e 0 mem) fun r=>aY r.2 i fun x=>LZ P e t x off k
 | _=>bh (eP P mem t p) k
def xY (P:Program) (mem:List O) (t:TypeId) (p v:V) (k:List O->R):R :=
 match p with
 | .ptr id i off =>
  match mem[id]? with
  | some (.row e els fz) =>
   gd (decide (v.cells.length=P.cellsOf t/\0 < P.cellsOf t/\v.cells.all V.one))<|gd (decide (fz<=i))<|aY els i fun x=>o8 P e x fun x=>bh (bo iP v.cells) fun vs=>bh (putCells x off vs) fun y=>k (mem.set id (.row e (els.set i y) fz))
  | _=>bh (lA P mem t p v) k
 | .hp e i off =>
  gd (decide (v.cells.length=P.cellsOf t/\0 < P.cellsOf t/\v.cells.all V.one))<|bh (iq e 0 mem) fun r=>aY r.2 i fun x=>o8 P e x fun x=>bh (bo iP v.cells) fun vs=>bh (putCells x off vs) fun y=>k (mem.set r.1 (.arena e (r.2.set i y)))
 | _=>bh (lA P mem t p v) k
def GB (P:Program) (mem:List O) (t:TypeId) (p v:V) (k:List O->R):R :=
 match p with
 | .hp _ _ _ =>
  match fW mem v with
  | []=>xY P mem t p v k
  | i::is=>vA mem v fun v'=>xY P (freezeAll (i::is) mem) t p v' k
 | _=>xY P mem t p v k
def Gp (P:Program) (mem:List O) (t:TypeId) (x:V) (lo hi mx:Option (Option V)) (k:V->R):R :=
 match P.underlying t,x,mx with
 | some .string,.str s,none=>uu lo 0 fun l=>uu hi s.length fun h=>vy lo (decide (l<=h))<|vy hi (decide (h<=s.length)) (k (.str ((s.take h).drop l)))
 | some (.slice e),x,none =>
  pT mem x fun xs=>gd (decide (0 < P.cellsOf e))<|gd (dp (P.cellsOf e) xs)<|uu lo 0 fun l=>uu hi xs.length fun h=>vy lo (decide (l<=h))<|vy hi (decide (h<=xs.length)) <|
   match x with
   | .nilS=>k .nilS
   | .sl xs=>k (.sl ((xs.take h).drop l))
   | .own id =>
    match mem[id]? with
    | some (.row e' _ _)=>cond (e'==e) (k (if hi.isNone then .tail id l else .win id l (h - l))) none
    | _=>none
   | .tail id off =>
    match mem[id]? with
    | some (.row e' _ _)=>cond (e'==e) (k (if hi.isNone then .tail id (off+l) else .win id (off+l) (h - l))) none
    | _=>none
   | .win id off _ =>
    match mem[id]? with
    | some (.row e' _ _)=>cond (e'==e) (k (.win id (off+l) (h - l))) none
    | _=>none
   | _=>none
 | _,_,_=>bh (jn P mem t x lo hi mx) k
def D9 (P:Program) (t:TypeId) (x i:V) (k:V->R):R :=
 match P.underlying t,x,i with
 | some .string,.str s,.int _ n=>gd (decide (0<=n))<|aY s n.toNat fun b=>k (.int .u8 (b.toNat:Int))
 | some (.array len e),.agg cs,.int _ n=>gd (decide (0<=n))<|gd (decide (n.toNat < len)) <|
   cond (P.cellsOf e==1 && Wm (P.underlying e)) (aY cs n.toNat fun c=>qj P e c k) (bh (oS P e cs (n.toNat * P.cellsOf e)) k)
 | _,_,_=>bh (oz P t x i) k
def B4 (P:Program) (op:BinOp) (t:TypeId) (x y:V) (k:V->R):R :=
 match op,x,y with
 | .quo,.int j a,.int j' b=>gd (j==j')<|gd (!decide (b=0)) (k (.int j (j.wrap (a.tdiv b))))
 | .rem,.int j a,.int j' b=>gd (j==j')<|gd (!decide (b=0)) (k (.int j (a.tmod b)))
 | .shl,.int j a,.int _ b=>gd (!decide (b < 0)) (k (.int j (j.wrap (a * 2 ^ (min b.toNat j.bits)))))
 | .shr,.int j a,.int _ b=>gd (!decide (b < 0)) (k (.int j (a.fdiv (2 ^ (min b.toNat j.bits)))))
 | .add,.str a,.str b=>gd (decide (a.length+b.length<=4611686018427387904)) (k (.str (a++b)))
 | _,_,_=>bh (lI P op t x y) k
def uV (mem:List O) (m:V) (k:List (V × V)->R):R :=
 match m with
 | .mp id =>
  match mem[id]? with
  | some (.map es)=>k es
  | _=>none
 | .hm t i=>bh (k7 t 0 mem) fun r=>aY r.2 i k
 | _=>none
def Eh (P:Program) (t:TypeId):Bool :=
 match P.underlying t with
 | some (.interface _) | none=>true
 | _=>false
def D7 (t:TypeId) (v:V) (ka:V->R) (kb:R):R :=
 match v with
 | .nilI=>kb
 | .ifc t' x=>cond (t'==t) (ka x) kb
 | _=>none
noncomputable def fY (kc:KC) (dr:Bool) (o:aF) (env:List V) (mem:List O) (k:V->List O->R):R :=
 match o.op with
 | .pick c a b=>bh (aO env c) fun c=>bh (aO env a) fun a=>bh (aO env b) fun b=>kB c fun t=>cond t (k a mem) (k b mem)
 | .load t a=>bh (aO env a) fun p=>cond (o.bx && cond o.sq (lk p) (!j6 mem p)) none (Ev kc.cfg.P mem t p fun v=>k v mem)
 | .nilCheck x=>bh (aO env x) fun v=>cond (Gu v) (k v mem) none
 | .store t a x=>bh (aO env a) fun p=>bh (aO env x) fun v=>cond (o.bx && lk p) none<|GB kc.cfg.P mem t p v fun m=>k (.tup []) m
 | .binOp op t x y _=>bh (aO env x) fun a=>bh (aO env y) fun b=>B4 kc.cfg.P op t a b fun v=>k v mem
 | .slice t x lo hi mx=>bh (aO env x) fun a=>cond (o.bx && !o.sq && !nv a) none<|Gp kc.cfg.P mem t a (lo.map (aO env)) (hi.map (aO env)) (mx.map (aO env)) fun v=>k v mem
 | .indexAddr t x i=>bh (aO env x) fun a=>bh (aO env i) fun b=>cond (o.bx && !o.sq && !nv a) none<|D8 kc.cfg.P mem t a b k
 | .makeSlice t n c=>bh (aO env n) fun a=>bh (aO env c) fun b=>EA kc.cfg.P t a b mem k
 | .typeAssert x _ t ok=>bh (aO env x) fun v=>cond (Eh kc.cfg.P t) none<|D7 t v (fun x=>o8 kc.cfg.P t x fun x=>k (cond ok (.tup [x,.bool true]) x) mem) (cond ok (bh (tE kc.cfg.P t) fun z=>k z mem) none)
 | .convert s d x=>bh (aO env x) fun a=>Ch kc.cfg.P (cond dr [] mem) s d a fun v=>k v mem
 | .index t x i=>bh (aO env x) fun a=>bh (aO env i) fun b=>D9 kc.cfg.P t a b fun v=>k v mem
 | .lookup t m key ok=>bh (aO env m) fun m=>bh (aO env key) fun key=>uV mem m fun es =>
   gd (lZ kc.cfg.P t key)<|bh (uW kc.cfg.P t) fun e=>bh (gF kc.cfg.P e) fun z =>
    kv es key (k (if ok then .tup [z,.bool false] else z) mem) fun v=>qj kc.cfg.P e v fun v=>k (if ok then .tup [v,.bool true] else v) mem
 | .mapUpdate t m key x=>bh (aO env m) fun m=>bh (aO env key) fun key=>bh (aO env x) fun x=>uV mem m fun es =>
   gd (lZ kc.cfg.P t key)<|gd x.inMap<|bh (ix es key x) fun es=>k (.tup []) (qp mem m es)
 | .call c =>
  match c.callee with
  | .builtin .len=>bh (bo (aO env) c.args.toList) fun args=>cond (o.bx && !cond o.sq (qo .len args) (mO .len args)) none <|
    match c.argTypes.toList,args with
    | t::_,.win id off len::_=>cond (match kc.cfg.P.underlying t with | some (.slice _)=>true | _=>false) (pT mem (.win id off len) fun l=>k (.int .i64 (l.length:Int)) mem) none
    | t::_,.hm t' i::_=>cond (match kc.cfg.P.underlying t with | some (.map _ _)=>true | _=>false) (uV mem (.hm t' i) fun es=>k (.int .i64 (es.length:Int)) mem) none
    | _,_=>bh (bQ kc.cfg (gO kc.cfg) dr o env mem) fun r=>k r.1 r.2
  | .builtin .append=>bh (bo (aO env) c.args.toList) fun args=>cond (o.bx && !cond o.sq (qo .append args) (mO .append args)) none <|
    match c.argTypes.toList,args with
    | [t,t'],[s,x]=>cond (kK kc.cfg.P t t' x) (BY kc.cfg.P t s x mem k) (BX kc.cfg.P t t' s x mem k)
    | _,_=>none
  | .builtin .copy=>bh (bo (aO env) c.args.toList) fun args=>cond (o.bx && !cond o.sq (qo .copy args) (mO .copy args)) none <|
    match c.argTypes.toList,args with
    | [t,t'],[s,x]=>gd (kK kc.cfg.P t t' x) (Cj kc.cfg.P t s x mem k)
    | _,_=>none
  | .builtin .clear=>bh (bo (aO env) c.args.toList) fun args=>cond (o.bx && !cond o.sq (qo .clear args) (mO .clear args)) none <|
    match c.argTypes.toList,args with
    | [t],[s]=>Cd kc.cfg.P t s mem k
    | _,_=>none
  | .builtin .delete=>bh (bo (aO env) c.args.toList) fun args=>cond (o.bx && !cond o.sq (qo .delete args) (mO .delete args)) none <|
    match c.argTypes.toList,args with
    | t::_,[m,key]=>uV mem m fun es=>gd (lZ kc.cfg.P t key)<|bh (lr es key) fun es=>k (.tup []) (qp mem m es)
    | _,_=>none
  | .value f=>bh (aO env f) fun fv=>bh (bo (aO env) c.args.toList) fun args =>
    match fv with
    | .fn f caps=>cond (Nat.ble gm f) (cond (dr || o.bx || o.sq) none (y7 kc dr (f - gm) o.type (caps++args) mem k)) (cond (o.bx && !o.sq && !kc.cfg.pure f) (cond (wV kc.cfg o && jB kc.cfg.P f) (Tz kc f (args++caps) mem k) none) (y7 kc dr f o.type (args++caps) mem k))
    | _=>none
  | _=>bh (bQ kc.cfg (gO kc.cfg) dr o env mem) fun r=>k r.1 r.2
 | _=>bh (bQ kc.cfg (gO kc.cfg) dr o env mem) fun r=>k r.1 r.2
noncomputable def sU (kc:KC) (dr:Bool) (o:aF) (env:List V) (mem:List O) (k:V->List O->R):R :=
 cond o.rx (fY kc true o (qt env) [] fun v m=>match m with | []=>k v mem | _=>bh (fD m v) fun v=>k v mem) (fY kc dr o env mem k)
noncomputable def oP (kc:KC) (dr:Bool):List aF->List V->List O->(List V->List O->R)->R
 | [],env,mem,k=>k env mem
 | o::rest,env,mem,k =>
  match o.guard with
  | none=>sU kc (dw dr o) o env mem fun v m=>oP kc dr rest (dM env o.dst v) m k
  | some (t,want) =>
   match env[t]? with
   | some (.bool b)=>cond b
     (cond want (sU kc (dw dr o) o (env.set t (.bool true)) mem fun v m=>oP kc dr rest (dM (env.set t (.bool true)) o.dst v) m k) (oP kc dr rest (dM (env.set t (.bool true)) o.dst (.tup [])) mem k))
     (cond want (oP kc dr rest (dM (env.set t (.bool false)) o.dst (.tup [])) mem k) (sU kc (dw dr o) o (env.set t (.bool false)) mem fun v m=>oP kc dr rest (dM (env.set t (.bool false)) o.dst v) m k))
   | some (.tup [])=>oP kc dr rest (dM env o.dst (.tup [])) mem k
   | _=>none
noncomputable def oQ (kc:KC):List aF->List V->List O->List Nat->(List V->List O->List Nat->R)->R
 | [],env,mem,fs,k=>k env mem fs
 | o::rest,env,mem,fs,k =>
  match o.guard with
  | none=>sU kc (dw true o) o env mem fun v m=>oQ kc rest (dM env o.dst v) m (cond (fG o && !kV kc.cfg o) (kU o env mem++fs) fs) k
  | some (t,want) =>
   match env[t]? with
   | some (.bool b)=>cond b
     (cond want (sU kc (dw true o) o (env.set t (.bool true)) mem fun v m=>oQ kc rest (dM (env.set t (.bool true)) o.dst v) m (cond (fG o && !kV kc.cfg o) (kU o (env.set t (.bool true)) mem++fs) fs) k) (oQ kc rest (dM (env.set t (.bool true)) o.dst (.tup [])) mem fs k))
     (cond want (oQ kc rest (dM (env.set t (.bool false)) o.dst (.tup [])) mem fs k) (sU kc (dw true o) o (env.set t (.bool false)) mem fun v m=>oQ kc rest (dM (env.set t (.bool false)) o.dst v) m (cond (fG o && !kV kc.cfg o) (kU o (env.set t (.bool false)) mem++fs) fs) k))
   | some (.tup [])=>oQ kc rest (dM env o.dst (.tup [])) mem fs k
   | _=>none
noncomputable def EQ (kc:KC) (dr:Bool) (l:List aF) (env:List V) (mem:List O) (k:List V->List O->R):R :=
 cond (dr && l.any fG) (oQ kc l env mem [] fun env mem fs=>cond (ze kc.cfg l env fs) (k env mem) none) (oP kc dr l env mem k)
def nl:C->Nat
 | .seq a b=>nl a+nl b
 | .cond _ a b=>nl a+nl b
 | .block _ c=>nl c
 | .loop _ c=>nl c+1
 | .uncons _ _ _ a b=>nl a+nl b
 | .cseq _ a b=>nl a+nl b+1
 | _=>0
def Gi (env:List V) (o:Operand) (b:Bool):List V :=
 match o with
 | .tmp t=>env.set t (.bool b)
 | _=>env
noncomputable def gp (kc:KC) (n0:Nat):C->Nat->S->(S->R)->(Nat->S->R)->(S->R)->R
 | .skip,_,s,kn,_,_=>kn s
 | .ops dr l,_,s,kn,_,_=>EQ kc dr l s.env s.mem fun env mem=>cond (!dr || pZ kc.cfg l env) (kn ⟨env,mem⟩) none
 | .seq a b,i,s,kn,ke,kr=>gp kc n0 a i s (fun s=>gp kc n0 b (i+nl a) s kn ke kr) ke kr
 | .cseq f a _,i,s,_,ke,kr=>gp kc n0 a i s (fun s=>some (.head (i+nl a) (cM n0 f s))) ke kr
 | .cond c a b,i,s,kn,ke,kr=>bh (aO s.env c) fun v=>kB v fun t=>cond t (gp kc n0 a i ⟨Gi s.env c true,s.mem⟩ kn ke kr) (gp kc n0 b (i+nl a) ⟨Gi s.env c false,s.mem⟩ kn ke kr)
 | .block id c,i,s,kn,ke,kr=>gp kc n0 c i s kn (fun j s=>cond (j==id) (kn s) (ke j s)) kr
 | .loop f _,i,s,_,_,_=>some (.head i (cM n0 f s))
 | .exit j,_,s,_,ke,_=>ke j s
 | .ret,_,s,_,_,kr=>kr s
 | .start g,_,s,kn,_,_ =>
  match s.env[g]? with
  | some (.fn f caps)=>cond (Nat.ble gm f) none<|bh (kc.cfg.seqp f) fun th=>cond (kc.cfg.sqj f) (bh (bo (tp true s.mem) caps) fun as0=>bh (th.2 as0) fun l=>kn ⟨s.env.set g (.rest th.1 (l.map .tup)),freezeAll (caps.flatMap (m5 true s.mem)) s.mem⟩)
    (sG (vA s.mem) caps fun as0=>bh (th.2 as0) fun l=>kn ⟨s.env.set g (.rest th.1 (l.map .tup)),freezeAll (caps.flatMap (fW s.mem)) s.mem⟩)
  | _=>none
 | .uncons g ps ws a b,i,s,kn,ke,kr =>
  gd (kG (nl a) 0 && kG (nl b) 0) <|
  match s.env[g]? with
  | some (.rest ts l)=>jJ l (gp kc n0 b i s kn ke kr) fun x l=>kT x fun vs=>Bo kc.cfg.P ts vs fun vs=>gd (vs.length==ps.length) <|
    gp kc n0 a i ⟨tj (s.env.set g .junk) ps vs,s.mem⟩ (fun s=>kn ⟨(e9 s.env ws).set g (.rest ts l),s.mem⟩) (fun e s=>ke e ⟨(e9 s.env ws).set g (.rest ts l),s.mem⟩) (fun s=>kr ⟨(e9 s.env ws).set g (.rest ts l),s.mem⟩)
  | _=>none
noncomputable def iI (kc:KC) (n0:Nat):C->Nat->Nat->S->(S->R)->(Nat->S->R)->(S->R)->R
 | .seq a b,i,j,s,kn,ke,kr=>cond (gL j (i+nl a)) (iI kc n0 a i j s (fun s=>gp kc n0 b (i+nl a) s kn ke kr) ke kr) (iI kc n0 b (i+nl a) j s kn ke kr)
 | .cseq f a b,i,j,s,kn,ke,kr=>cond (gL j (i+nl a)) (iI kc n0 a i j s (fun s=>some (.head (i+nl a) (cM n0 f s))) ke kr)
   (cond (j==i+nl a) (gp kc n0 b (i+nl a+1) s kn ke kr) (iI kc n0 b (i+nl a+1) j s kn ke kr))
 | .cond _ a b,i,j,s,kn,ke,kr=>cond (gL j (i+nl a)) (iI kc n0 a i j s kn ke kr) (iI kc n0 b (i+nl a) j s kn ke kr)
 | .block id c,i,j,s,kn,ke,kr=>iI kc n0 c i j s kn (fun j s=>cond (j==id) (kn s) (ke j s)) kr
 | .loop f c,i,j,s,_,ke,kr=>cond (j==i)
   (gp kc n0 c (i+1) s (fun s=>some (.head i (cM n0 f s))) (fun e s=>ke e (cM n0 f s)) (fun s=>kr (cM n0 f s)))
   (iI kc n0 c (i+1) j s (fun s=>some (.head i (cM n0 f s))) (fun e s=>ke e (cM n0 f s)) (fun s=>kr (cM n0 f s)))
 | _,_,_,_,_,_,_=>none
def DK (P:Program) (mem:List O) (t:TypeId) (v:V) (k:V->R):R :=
 match v with
 | .own id =>
  match mem[id]? with
  | some (.row e els fz)=>cond (Du P e) (cond (fz==0) (gd (els.all fun x=>x.cells.all V.flat1) (k (.fr e els))) (k (.sl els))) (k (.sl els))
  | _=>none
 | v=>bh (p9 P mem t v) k
def DL (P:Program) (mem:List O) (ts:List TypeId) (vs:List V) (k:V->R):R :=
 match ts,vs with
 | [t],[v]=>DK P mem t v k
 | ts,vs=>bh (lS P mem ts vs) k
def wT (kc:KC) (imp:Bool) (fa:FA) (s:S):R :=
 bh (bo (md kc.cfg.P s) fa.results) fun vs=>cond imp (some (.doneM (o7 vs) s.mem)) (DL kc.cfg.P s.mem fa.rtypes vs fun v=>some (.done v))
noncomputable def k6 (kc:KC) (imp:Bool) (fa:FA) (args:List V) (mem:List O):R :=
 gd (args.length==fa.np && Nat.ble fa.np fa.nt) (gp kc mem.length fa.body 0 ⟨args++bE (fa.nt - fa.np) (.tup []),mem⟩ (wT kc imp fa) (fun _ _=>none) (wT kc imp fa))
noncomputable def Kb (kc:KC) (imp:Bool) (n0:Nat) (fa:FA) (j:Nat) (s:S):R :=
 iI kc n0 fa.body 0 j s (wT kc imp fa) (fun _ _=>none) (wT kc imp fa)
end Go.Lite
namespace Go.Lite
open Go
structure ge (kc:KC):Prop where
 ik:∀f as0 mem k r,kc.ik f as0 mem k=some r->∃v m,lV kc.cfg f as0 mem=some (v,m)/\k v m=some r
 ck:∀rd f as0 mem k r,kc.ck rd f as0 mem k=some r->∃v m,bN kc.cfg rd f as0 mem=some (v,m)/\k v m=some r:=by exact fun _ _ _ _ _ _ h=>nomatch h
section
variable {kc:KC} {P:Program} {r:cW}
theorem yY {o:Option (Option V)} {d:Nat} {k:Nat->R} (h:uu o d k=some r):∃n,eD o d=some n/\k n=some r/\(o=none->n=d):=by
 unfold uu at h
 split at h
 ·exact ⟨d,rfl,h,fun _=>rfl⟩
 ·rename_i n
  obtain ⟨h1,h2⟩:=bB h
  exact ⟨n.toNat,by simp only [eD];grind,h2,fun e=>by cases e⟩
 grind
theorem Be {o:Option (Option V)} {b:Bool} {k:R} (h:vy o b k=some r) (hn:o=none->b=true):b=true/\k=some r:=by
 unfold vy at h
 split at h
 ·grind
 ·exact bB h
theorem wN {mem:List O} {x:V} {k:List V->R} (h:pT mem x k=some r):∃l,cy mem x=some l/\k l=some r:=by
 unfold pT at h
 split at h
 ·split at h
  ·rename_i hm
   obtain ⟨p,h⟩:=bB h
   exact ⟨_,by simp only [cy,hm,if_pos (of_decide_eq_true p)],h⟩
  grind
 ·exact bD h
theorem YR {mem:List O} {t:TypeId} {x:V} {lo hi mx:Option (Option V)} {k:V->R} (h:Gp P mem t x lo hi mx k=some r):∃v,jn P mem t x lo hi mx=some v/\k v=some r:=by
 unfold Gp at h
 split at h
 ·rename_i s hu
  obtain ⟨l,b1,h,z1⟩:=yY h
  obtain ⟨m,b2,h,z2⟩:=yY h
  obtain ⟨c1,h⟩:=Be h (fun e=>by grind)
  obtain ⟨c2,h⟩:=Be h (fun e=>by grind)
  refine ⟨_,?_,h⟩
  simp only [jn,hu,b1,b2,aJ,Option.isSome_none,cK,if_false]
  grind
 ·rename_i x d x' mx' e hu
  obtain ⟨xs,hx,h⟩:=wN h
  obtain ⟨p1,h⟩:=bB h
  obtain ⟨p2,h⟩:=bB h
  obtain ⟨l,b1,h,z1⟩:=yY h
  obtain ⟨m,b2,h,z2⟩:=yY h
  obtain ⟨c1,h⟩:=Be h (fun e=>by grind)
  obtain ⟨c2,h⟩:=Be h (fun e=>by grind)
  have hb:eD none xs.length=some xs.length:=rfl
  have key:∀y,(match x with
    | .nilS=>some .nilS
    | .sl xs=>some (.sl ((xs.take m).drop l))
    | .own id =>
     match mem[id]? with
     | some (.row e' _ _)=>if (none:Option (Option V)).isSome then none else if e'=e then some (if hi.isNone then .tail id l else .win id l (m - l)) else none
     | _=>none
    | .tail id off =>
     match mem[id]? with
     | some (.row e' _ _)=>if (none:Option (Option V)).isSome then none else if e'=e then some (if hi.isNone then .tail id (off+l) else .win id (off+l) (m - l)) else none
     | _=>none
    | .win id off _ =>
     match mem[id]? with
     | some (.row e' _ _)=>if (none:Option (Option V)).isSome then none else if e'=e then some (.win id (off+l) (m - l)) else none
     | _=>none
    | _=>none)=some y->jn P mem t x lo hi none=some y:=by
   intro y hy
   simp only [jn,hu,hx,b1,b2,hb,aJ]
   rw [if_pos ⟨of_decide_eq_true p1,of_decide_eq_true c1,of_decide_eq_true c2,bG _,(by grind),p2⟩]
   grind
  cases x<;>first | grind | grind | grind | skip
  all_goals grind
 ·exact bD h
theorem Jv {mem:List O} {x:V} {k:List V->R} (h:zy mem x k=some r):∃l,lO mem x=some l/\k l=some r:=by
 by_cases hs:∃b,x = .str b
 ·obtain ⟨b,rfl⟩:=hs
  exact ⟨_,rfl,h⟩
 ·have e1:zy mem x k=pT mem x k:=by cases x<;>first | rfl | grind
  have e2:lO mem x=cy mem x:=by cases x<;>first | rfl | grind
  rw [e1] at h
  rw [e2]
  exact wN h
theorem Qq {t:TypeId} {s x:V} {mem:List O} {k:V->List O->R} (h:Cj P t s x mem k=some r):∃v m,wH P mem t s x=some (v,m)/\k v m=some r:=by
 unfold Cj at h
 obtain ⟨e,he,h⟩:=bD h
 obtain ⟨xs,hx,h⟩:=Jv h
 obtain ⟨p1,h⟩:=bB h
 obtain ⟨q,hq,h⟩:=bD h
 have hw:(xs.all fun y=>y.cells.length==P.cellsOf e)=true:=p1
 split at h
 ·rename_i e' els fz hm
  obtain ⟨p3,h1⟩:=bB h
  obtain ⟨p4,h2⟩:=bB h1
  obtain ⟨p5,h3⟩:=bB h2
  have ee:e'=e:=by grind
  subst ee
  have p4:=of_decide_eq_true p4
  have p5:=of_decide_eq_true p5
  refine ⟨_,_,?_,h3⟩
  simp only [wH,he,hx,hq,aJ,hm]
  grind
 grind
theorem P5 {t:TypeId} {s:V} {mem:List O} {k:V->List O->R} (h:Cd P t s mem k=some r):∃v m,wE P mem t s=some (v,m)/\k v m=some r:=by
 unfold Cd at h
 obtain ⟨e,he,h⟩:=bD h
 obtain ⟨q,hq,h⟩:=bD h
 split at h
 ·rename_i e' els fz hm
  obtain ⟨p3,h1⟩:=bB h
  obtain ⟨p4,h2⟩:=bB h1
  obtain ⟨p5,h3⟩:=bB h2
  obtain ⟨p6,h4⟩:=bB h3
  obtain ⟨z,hz,h5⟩:=bD h4
  obtain ⟨z',hz',h6⟩:=bD h5
  clear h h1 h2 h3 h4 h5
  have ee:e'=e:=by grind
  subst ee
  have p5:=of_decide_eq_true p5
  have p6:=of_decide_eq_true p6
  refine ⟨_,_,?_,h6⟩
  have hr:dG P e' 0=true:=by simp [dG,p4]
  simp only [wE,he,hq,aJ,hm]
  grind
 grind
theorem Ul {t:TypeId} {ok:Bool} {v:V} {k:V->R} (hi:Eh P t=false) (h:D7 t v (fun x=>o8 P t x fun x=>k (cond ok (.tup [x,.bool true]) x)) (cond ok (bh (tE P t) fun z=>k z) none)=some r) :
  ∃u,vK P t ok v=some u/\k u=some r:=by
 have ti:vK P t ok v=yU P t ok v:=by
  unfold vK
  unfold Eh at hi
  cases hu:P.underlying t with
  | none=>simp [hu] at hi
  | some d=>cases d<;>first | rfl | (simp [hu] at hi;done)
 have no:(cond ok (bh (tE P t) fun z=>k z) none)=some r->∃u,(if ok then tE P t else none)=some u/\k u=some r:=fun h=>by
  rcases bn h with ⟨e,h⟩ | ⟨_,h⟩
  ·obtain ⟨z,hz,h⟩:=bD h
   exact ⟨z,by rw [e,if_pos rfl];exact hz,h⟩
  ·cases h
 rw [ti]
 unfold D7 at h
 split at h
 ·exact no h
 ·rename_i t' x
  simp only [yU]
  rcases bn h with ⟨e,h⟩ | ⟨e,h⟩
  ·rw [if_pos (by simpa using e)]
   refine ⟨_,rfl,?_⟩
   have h:=qW h
   cases ok<;>exact h
  ·rw [if_neg (by simpa using e)]
   exact no h
 ·cases h
theorem VA {t:TypeId} {a b:V} {mem:List O} {k:V->List O->R} (h:EA P t a b mem k=some r):∃v m,oH P mem t a b=some (v,m)/\k v m=some r:=by
 unfold EA at h
 obtain ⟨e,he,h⟩:=bD h
 split at h
 ·obtain ⟨p1,h⟩:=bB h
  obtain ⟨p2,h⟩:=bB h
  obtain ⟨p3,h⟩:=bB h
  obtain ⟨p4,h⟩:=bB h
  obtain ⟨z,hz,h⟩:=bD h
  obtain ⟨z',hz',h⟩:=bD h
  refine ⟨_,_,?_,h⟩
  simp only [oH,he,aJ]
  rw [if_pos ⟨of_decide_eq_true p1,of_decide_eq_true p2,by simp only [dG,p3,p4,nS]⟩]
  simp only [hz,aJ,hz',cg,newRow]
 grind
theorem Qn {mem:List O} {s d:TypeId} {x:V} {k:V->R} (h:Ch P mem s d x k=some r):∃v,mT P mem s d x=some v/\k v=some r:=by
 unfold Ch at h
 split at h
 ·rename_i e h1 h2
  obtain ⟨xs,h3,h⟩:=wN h
  obtain ⟨p1,h⟩:=bB h
  obtain ⟨ns,h4,h⟩:=bD h
  refine ⟨_,?_,h⟩
  have ht:tB P e xs=some (.str (ns.map fun n=>UInt8.ofNat n.toNat)):=by
   unfold tB
   grind
  have key:∀x,cy mem x=some xs->mT P mem s d x=some (.str (ns.map fun n=>UInt8.ofNat n.toNat)):=by
   intro x h3
   unfold mT
   rw [h1,h2]
   cases x<;>first | (cases h3;done) | grind
  grind
 ·exact bD h
theorem Pe {t:TypeId} {s x:V} {mem:List O} {k:V->List O->R} (h:BY P t s x mem k=some r):∃v m,iH P mem t s x=some (v,m)/\k v m=some r:=by
 unfold BY at h
 obtain ⟨e,he,h⟩:=bD h
 obtain ⟨xs,hx,h⟩:=Jv h
 obtain ⟨p1,h⟩:=bB h
 obtain ⟨p2,h⟩:=bB h
 have hw:(xs.all fun y=>y.cells.length==P.cellsOf e)=true:=p1
 split at h
 ·obtain ⟨p3,h⟩:=bB h
  exact ⟨_,_,by simp only [iH,he,hx,aJ,hw,if_true,dG,p2,p3,nS,newRow],h⟩
 ·rename_i id
  split at h
  ·rename_i e' els fz hm
   obtain ⟨p3,h⟩:=bB h
   obtain ⟨p4,h⟩:=bB h
   have ee:e'=e:=by grind
   subst ee
   exact ⟨_,_,by simp only [iH,he,hx,aJ,hw,if_true,hm,dG,p2,p4,nS,and_self,newRow],h⟩
  grind
 ·split at h
  ·rename_i e' els fz hm
   obtain ⟨p3,h⟩:=bB h
   obtain ⟨p5,h⟩:=bB h
   obtain ⟨p6,h⟩:=bB h
   have ee:e'=e:=by grind
   subst ee
   simp only [mTz,Nat.beq_eq,mG] at p5
   exact ⟨_,_,by simp only [iH,he,hx,aJ,hw,if_true,hm,dG,p2,p5,p6,nS,and_self,newRow],h⟩
  grind
 ·split at h
  ·rename_i e' els fz hm
   obtain ⟨p3,h1⟩:=bB h
   obtain ⟨p5,h2⟩:=bB h1
   obtain ⟨p6,h3⟩:=bB h2
   obtain ⟨p7,h4⟩:=bB h3
   clear h h1 h2 h3
   have ee:e'=e:=by grind
   subst ee
   have p5:=Hr p5
   subst p5
   have p6:=of_decide_eq_true p6
   exact ⟨_,_,by simp only [iH,he,hx,aJ,hw,if_true,hm,dG,p2,p6,p7,nS,and_self,newRow],h4⟩
  grind
 ·obtain ⟨p3,h1⟩:=bB h
  obtain ⟨p5,h2⟩:=bB h1
  obtain ⟨p6,h3⟩:=bB h2
  clear h h1 h2
  rw [beq_iff_eq] at p3
  subst p3
  simp only [dp] at p6
  exact ⟨_,_,by simp only [iH,he,hx,aJ,hw,if_true,dG,p2,p5,p6,nS,and_self],h3⟩
 grind
theorem Pb {t t':TypeId} {s x:V} {mem:List O} {k:V->List O->R} (h:BX P t t' s x mem k=some r):∃v m,rz P mem t t' s x=some (v,m)/\k v m=some r:=by
 unfold BX at h
 unfold rz
 split at h
 ·rename_i kn n hu
  obtain ⟨e,he,h⟩:=bD h
  obtain ⟨p1,h⟩:=bB h
  obtain ⟨p2,h⟩:=bB h
  obtain ⟨p3,h⟩:=bB h
  obtain ⟨z,hz,h⟩:=bD h
  obtain ⟨z',hz',h⟩:=bD h
  refine ⟨_,_,?_,h⟩
  simp only [hu,he,aJ]
  rw [if_pos ⟨of_decide_eq_true p1,by simp only [dG,p2,p3,nS]⟩]
  simp only [hz,hz',aJ,cg,newRow]
 ·cases h
theorem Ut {mem:List O} {t:TypeId} {x i:V} {k:V->List O->R} (h:D8 P mem t x i k=some r):∃v,iu P mem t x i=some v/\k v mem=some r:=by
 unfold D8 at h
 split at h
 ·rename_i e ik n hu
  obtain ⟨p0,h⟩:=bB h
  have p0:=of_decide_eq_true p0
  split at h
  ·obtain ⟨y,hy,h⟩:=m7 h
   have h:=qW h
   obtain ⟨p1,h⟩:=bB h
   have p1:y.cells.length=P.cellsOf e:=by grind
   exact ⟨_,by simp only [iu,hu,if_pos p0,hy,aJ,if_pos p1],h⟩
  ·split at h
   ·rename_i id _ e' els fz hm
    obtain ⟨p1,h⟩:=bB h
    obtain ⟨p2,h⟩:=bB h
    have p1:e'=e:=by grind
    exact ⟨_,by simp only [iu,hu,if_pos p0,hm,if_pos (And.intro p1 (of_decide_eq_true p2))],h⟩
   grind
  ·split at h
   ·rename_i id off len _ e' els fz hm
    obtain ⟨p1,h⟩:=bB h
    obtain ⟨p2,h⟩:=bB h
    obtain ⟨p3,h⟩:=bB h
    have p1:e'=e:=by grind
    exact ⟨_,by simp only [iu,hu,if_pos p0,hm,if_pos (And.intro p1 (And.intro (of_decide_eq_true p2) (of_decide_eq_true p3)))],h⟩
   grind
  ·split at h
   ·rename_i id off _ e' els fz hm
    obtain ⟨p1,h⟩:=bB h
    obtain ⟨p2,h⟩:=bB h
    have p1:e'=e:=by grind
    exact ⟨_,by simp only [iu,hu,if_pos p0,hm,if_pos (And.intro p1 (of_decide_eq_true p2))],h⟩
   grind
  grind
 ·rename_i len e ik n hu
  obtain ⟨p0,h⟩:=bB h
  obtain ⟨p1,h⟩:=bB h
  obtain ⟨p2,h⟩:=bB h
  have hc:=And.intro (of_decide_eq_true p0) (And.intro (of_decide_eq_true p1) (of_decide_eq_true p2))
  split at h
  ·exact ⟨_,by simp only [iu,hu,if_pos hc],h⟩
  ·exact ⟨_,by simp only [iu,hu,if_pos hc],h⟩
  grind
 ·exact bD h
theorem K2 {mem:List O} {t:TypeId} {p c:V} {cs:List V} {off:Nat} (hl:d6 mem p=some (.agg cs,off)) (h1:P.cellsOf t=1) (hd:Dt (P.underlying t)=true) (hc:cs[off]? = some c):eP P mem t p=some c:=by
 unfold eP
 obtain ⟨aC,hcc⟩:=bj.1 hc
 have e1:(cs.drop off).take 1=[c]:=by
  rw [rl aC,vX,tP,hcc]
 simp only [hl,aJ,V.cells,h1,e1,List.length_singleton,if_true]
 unfold nu
 cases hu:P.underlying t with
 | none=>rw [hu] at hd;cases hd
 | some d=>rw [hu] at hd;cases d<;>first | (cases hd;done) | rfl
theorem Vn {mem:List O} {t:TypeId} {id i off:Nat} {e:TypeId} {els:List V} {fz:Nat} {x v:V} (hm:mem[id]? = some (.row e els fz)) (hx:els[i]? = some x)
  (hl:(((x.cells.drop off).take (P.cellsOf t)).length==P.cellsOf t)=true) (hv:nu P t ((x.cells.drop off).take (P.cellsOf t))=some v):eP P mem t (.ptr id i off)=some v:=by
 unfold eP
 simp only [d6,hm,hx,cg,aJ]
 grind
theorem Vm {mem:List O} {t:TypeId} {p:V} {k:V->R} (h:Ev P mem t p k=some r):∃v,eP P mem t p=some v/\k v=some r:=by
 unfold Ev at h
 split at h
 ·split at h
  ·rename_i hm
   obtain ⟨x,hx,h⟩:=m7 h
   have h:=qW h
   rcases bn h with ⟨hl,h⟩ | ⟨_,h⟩
   ·obtain ⟨v,hv,h⟩:=bD h
    exact ⟨v,Vn hm hx hl hv,h⟩
   grind
  ·rename_i hm
   rcases bn h with ⟨c1,h⟩ | ⟨_,h⟩
   ·obtain ⟨p1,h1⟩:=bB h
    obtain ⟨c,hc,h2⟩:=m7 h1
    have h3:=uT h2
    clear h h1 h2
    simp only [bv,beq_iff_eq] at c1
    have p1:=Hr p1
    subst p1
    exact ⟨c,K2 (by simp only [d6,hm,if_true]) c1.1 c1.2 hc,h3⟩
   ·exact bD h
  ·exact bD h
 ·rcases bn h with ⟨c1,h⟩ | ⟨_,h⟩
  ·obtain ⟨c,hc,h⟩:=m7 h
   have h:=uT h
   simp only [bv,beq_iff_eq] at c1
   exact ⟨c,K2 rfl c1.1 c1.2 hc,h⟩
  ·exact bD h
 ·obtain ⟨r',hr,h⟩:=bD h
  obtain ⟨x,hx,h⟩:=m7 h
  have h:=qW h
  rcases bn h with ⟨hl,h⟩ | ⟨_,h⟩
  ·obtain ⟨v,hv,h⟩:=bD h
   refine ⟨v,?_,h⟩
   unfold eP
   simp only [d6,hr,hx,cg,aJ]
   grind
  grind
 ·exact bD h
theorem GA {mem:List O} {t:TypeId} {p v:V} {k:List O->R} (h:xY P mem t p v k=some r):∃m,lA P mem t p v=some m/\k m=some r:=by
 unfold xY at h
 split at h
 ·split at h
  ·rename_i hm
   obtain ⟨p1,h⟩:=bB h
   obtain ⟨p2,h⟩:=bB h
   obtain ⟨x,hx,h⟩:=m7 h
   have h:=qW h
   obtain ⟨vs,hvs,h⟩:=bD h
   obtain ⟨y,hy,h⟩:=bD h
   refine ⟨_,?_,h⟩
   unfold lA
   grind
  ·exact bD h
 ·obtain ⟨p1,h⟩:=bB h
  obtain ⟨r',hr,h⟩:=bD h
  obtain ⟨x,hx,h⟩:=m7 h
  have h:=qW h
  obtain ⟨vs,hvs,h⟩:=bD h
  obtain ⟨y,hy,h⟩:=bD h
  refine ⟨_,?_,h⟩
  unfold lA
  grind
 ·exact bD h
theorem Ai {mem:List O} {m:V} {k:List (V × V)->R} (h:uV mem m k=some r):∃es,fd mem m=some es/\k es=some r:=by
 unfold uV at h
 split at h
 ·split at h
  ·rename_i es hm;exact ⟨es,by simp only [fd,hm],h⟩
  grind
 ·obtain ⟨r',hr,h⟩:=bD h
  obtain ⟨es,hx,h⟩:=m7 h
  exact ⟨es,by simp only [fd,hr,hx,aJ],h⟩
 grind
theorem Uv {t:TypeId} {x i:V} {k:V->R} (h:D9 P t x i k=some r):∃v,oz P t x i=some v/\k v=some r:=by
 unfold D9 at h
 split at h
 ·rename_i hu
  obtain ⟨p0,h⟩:=bB h
  obtain ⟨b,hb,h⟩:=m7 h
  exact ⟨_,by simp only [oz,hu,if_pos (of_decide_eq_true p0),hb,cg],h⟩
 ·rename_i len e cs ik n hu
  obtain ⟨p0,h⟩:=bB h
  obtain ⟨p1,h⟩:=bB h
  have hcond:=And.intro (of_decide_eq_true p0) (of_decide_eq_true p1)
  rcases bn h with ⟨c1,h⟩ | ⟨_,h⟩
  ·obtain ⟨c,hc,h⟩:=m7 h
   have h:=uT h
   simp only [bv,beq_iff_eq] at c1
   refine ⟨c,?_,h⟩
   simp only [oz,hu,if_pos hcond,oS,c1.1,jW]
   obtain ⟨aC,hcc⟩:=bj.1 hc
   have e1:(cs.drop n.toNat).take 1=[c]:=by
    rw [rl aC,vX,tP,hcc]
   rw [e1]
   simp only [List.length_singleton,if_true]
   have hd:=c1.2
   unfold nu
   cases hue:P.underlying e with
   | none=>rw [hue] at hd;cases hd
   | some d =>
    rw [hue] at hd
    cases d<;>first | (cases hd;done) | rfl
  ·obtain ⟨v,hv,h⟩:=bD h
   exact ⟨v,by simp only [oz,hu,if_pos hcond,hv],h⟩
 ·exact bD h
theorem Pw {op:BinOp} {t:TypeId} {x y:V} {k:V->R} (h:B4 P op t x y k=some r):∃v,lI P op t x y=some v/\k v=some r:=by
 unfold B4 at h
 split at h
 ·obtain ⟨p1,h1⟩:=bB h
  obtain ⟨p2,h2⟩:=bB h1
  have p1:=eq_of_beq p1
  subst p1
  rw [iC] at p2
  exact ⟨_,by simp only [lI,sP,cK,if_false,gi,if_true,pJ,if_neg (of_decide_eq_false p2)],h2⟩
 ·obtain ⟨p1,h1⟩:=bB h
  obtain ⟨p2,h2⟩:=bB h1
  have p1:=eq_of_beq p1
  subst p1
  rw [iC] at p2
  exact ⟨_,by simp only [lI,sP,cK,if_false,gi,if_true,pJ,if_neg (of_decide_eq_false p2)],h2⟩
 ·obtain ⟨p2,h⟩:=bB h
  rw [iC] at p2
  exact ⟨_,by simp only [lI,sP,cK,if_false,gi,if_neg (of_decide_eq_false p2)],h⟩
 ·obtain ⟨p2,h⟩:=bB h
  rw [iC] at p2
  exact ⟨_,by simp only [lI,sP,cK,if_false,gi,if_neg (of_decide_eq_false p2)],h⟩
 ·obtain ⟨p2,h⟩:=bB h
  exact ⟨_,by simp only [lI,sP,cK,if_false,gi,Bl,if_pos (of_decide_eq_true p2)],h⟩
 ·exact bD h
theorem xk {α β:Type} {f:α->(β->R)->R} {g:α->Option β} (hf:∀x k,f x k=some r->∃y,g x=some y/\k y=some r):∀{l:List α} {k:List β->R},sG f l k=some r->∃ys,bo g l=some ys/\k ys=some r:=by
 intro l
 induction l with
 | nil=>intro k h;exact ⟨[],rfl,h⟩
 | cons x l ih =>
  intro k h
  obtain ⟨y,h1,h⟩:=hf _ _ h
  obtain ⟨ys,h2,h⟩:=ih h
  exact ⟨y::ys,by simp only [bo,h1,h2,aJ,cg],h⟩
theorem Bf {mem:List O} {v:V} {k:V->R} (h:vz mem v k=some r):∃y,dX mem v=some y/\k y=some r:=by
 unfold vz at h
 split at h
 ·obtain ⟨l,h1,h⟩:=wN h
  exact ⟨_,by simp only [dX,h1,cg],h⟩
 ·exact bD h
theorem Bg {mem:List O} {v:V} {k:V->R} (h:vA mem v k=some r):∃y,fD mem v=some y/\k y=some r:=by
 unfold vA at h
 split at h
 ·obtain ⟨l,h1,h⟩:=xk (fun x k h=>Bf h) h
  exact ⟨_,by simp only [fD,h1,cg],h⟩
 ·obtain ⟨⟨x,off⟩,h1,h⟩:=bD h
  simp only at h
  split at h
  ·obtain ⟨l,h2,h⟩:=xk (fun x k h=>Bf h) h
   exact ⟨_,by simp only [fD,h1,aJ,h2,cg],h⟩
  ·rename_i hx
   obtain ⟨y,h2,h⟩:=Bf h
   refine ⟨_,?_,h⟩
   simp only [fD,h1,aJ]
   all_goals grind
 ·rename_i h1 h2
  obtain ⟨y,h3,h⟩:=Bf h
  refine ⟨y,?_,h⟩
  cases v<;>first | exact (h1 _ rfl).elim | exact (h2 _ _ _ rfl).elim | exact h3
theorem Zk {mem:List O} {t:TypeId} {p v:V} {k:List O->R} (h:GB P mem t p v k=some r):∃m,qT P mem t p v=some m/\k m=some r:=by
 unfold GB at h
 unfold qT
 split at h
 ·split at h
  ·rename_i he
   rw [he,if_neg (by grind)]
   exact GA h
  ·rename_i i is he
   obtain ⟨v',h1,h⟩:=Bg h
   rw [he,if_pos (by simp [lk]),h1]
   exact GA h
 ·rename_i hne
  have:lk p=false:=by cases p<;>first | rfl | grind
  rw [this,mr,if_neg (by simp)]
  exact GA h
theorem YU {mem:List O} {v:V} {k:V->R} (h:Gs mem v k=some r):∃y,gR mem v=some y/\k y=some r:=by
 unfold Gs at h
 split at h
 ·obtain ⟨l,h1,h⟩:=xk (fun x k h=>Bg h) h
  exact ⟨_,by simp only [gR,h1,cg],h⟩
 ·rename_i h1
  obtain ⟨y,h3,h⟩:=Bg h
  refine ⟨y,?_,h⟩
  cases v<;>first | exact (h1 _ _ rfl).elim | exact h3
theorem Xo {f:FuncId} {as0:List V} {k:V->R} (h:Fb kc f as0 k=some r):∃x,bK kc.cfg f as0=some x/\k x=some r:=by
 unfold Fb at h
 split at h
 ·rename_i g hg
  split at h
  ·rename_i x hx
   exact ⟨x,kc.pvok _ _ _ _ hg hx,h⟩
  grind
 ·exact WN h
theorem H6 (hik:ge kc) {dr:Bool} {f:FuncId} {ty:TypeId} {args:List V} {mem:List O} {k:V->List O->R} (h:y7 kc dr f ty args mem k=some r) :
  ∃v m,gN kc.cfg (gO kc.cfg) dr f args mem=some (v,m)/\k v m=some r:=by
 unfold y7 at h
 obtain ⟨p1,h⟩:=bB h
 unfold gN
 rw [p1]
 simp only [bR,cK,if_false]
 rcases bn h with ⟨c1,h⟩ | ⟨c1,h⟩
 ·rw [c1]
  simp only [if_true]
  obtain ⟨as0,ha,h⟩:=xk (fun x k h=>YU h) h
  obtain ⟨v,hv,h⟩:=Xo h
  have h:=XC h
  simp only [ha,aJ]
  have hv':(gO kc.cfg).pc f as0=some v:=hv
  rw [hv']
  simp only [aJ]
  rcases bn h with ⟨c2,h⟩ | ⟨c2,h⟩
  ·rw [c2]
   simp only [if_true]
   rcases bn h with ⟨_,h⟩ | ⟨c3,h⟩
   ·cases h
   ·rw [c3]
    simp only [cK,if_false]
    exact ⟨_,_,rfl,h⟩
  ·rw [c2]
   simp only [cK,if_false]
   exact ⟨_,_,rfl,h⟩
 ·rw [c1]
  simp only [cK,if_false]
  rcases bn h with ⟨_,h⟩ | ⟨c2,h⟩
  ·cases h
  ·rw [c2]
   simp only [cK,if_false]
   split at h
   ·rename_i hcf
    rw [hcf]
    exact hik.ik _ _ _ _ _ h
   ·rename_i rd hcf
    rw [hcf]
    obtain ⟨v,m,h1,h⟩:=hik.ck _ _ _ _ _ _ h
    have hrk:(kc.cfg.ro f=true->(kO rd.row args mem v m).2.take mem.length=mem)/\k (kO rd.row args mem v m).1 (kO rd.row args mem v m).2=some r:=by
     rcases bn h with ⟨_,h⟩ | ⟨c4,h⟩
     ·obtain ⟨e1,e2⟩:=TM h
      exact ⟨fun _=>e1,e2⟩
     ·exact ⟨fun e=>(by rw [e] at c4;cases c4),h⟩
    unfold bN at h1
    simp only [omi] at h1
    obtain ⟨r0,h1,h2⟩:=h1
    refine ⟨_,_,Fs ?_ hrk.1,hrk.2⟩
    simp only [pM]
    rw [show (gO kc.cfg).ic _ _ _=_ from h1,cg,h2]
    rfl
theorem LJ (hik:ge kc) {dr:Bool} {o:aF} {env:List V} {mem:List O} {k:V->List O->R} (h:fY kc dr o env mem k=some r) :
  ∃v m,bQ kc.cfg (gO kc.cfg) dr o env mem=some (v,m)/\k v m=some r:=by
 rcases o with ⟨dst,op,ty,gu⟩
 have dflt:∀q:Option (V × List O),(bh q fun r=>k r.1 r.2)=some r->∃v m,q=some (v,m)/\k v m=some r:=by
  intro q hq
  obtain ⟨⟨v,m⟩,h1,h2⟩:=bD hq
  exact ⟨v,m,h1,h2⟩
 cases op
 case pick c a b =>
  simp only [fY] at h
  obtain ⟨c',h1,h⟩:=bD h
  obtain ⟨a',h2,h⟩:=bD h
  obtain ⟨b',h3,h⟩:=bD h
  obtain ⟨t,rfl,h'⟩:=Em h
  simp only [bQ,h1,h2,h3,aJ]
  rcases bn h' with ⟨rfl,h'⟩ | ⟨rfl,h'⟩
  ·exact ⟨_,_,rfl,h'⟩
  ·exact ⟨_,_,rfl,h'⟩
 case load t a =>
  simp only [fY] at h
  obtain ⟨c',h1,h⟩:=bD h
  rcases bn h with ⟨_,h⟩ | ⟨hb,h⟩
  ·cases h
  obtain ⟨v,h2,h⟩:=Vm h
  exact ⟨_,_,by simp only [bQ,h1,h2,hb,aJ,cg,cK,if_false],h⟩
 case nilCheck x =>
  simp only [fY] at h
  obtain ⟨c',h1,h⟩:=bD h
  rcases bn h with ⟨hs,h⟩ | ⟨_,h⟩
  ·exact ⟨_,_,by simp only [bQ,h1,hs,aJ,if_true],h⟩
  ·cases h
 case store t a x =>
  simp only [fY] at h
  obtain ⟨c',h1,h⟩:=bD h
  obtain ⟨x',h3,h⟩:=bD h
  rcases bn h with ⟨_,h⟩ | ⟨hb,h⟩
  ·cases h
  obtain ⟨v,h2,h⟩:=Zk h
  exact ⟨_,_,by simp only [bQ,h1,h2,h3,hb,cK,if_false,aJ,cg],h⟩
 case binOp op t x y yt =>
  simp only [fY] at h
  obtain ⟨c',h1,h⟩:=bD h
  obtain ⟨x',h3,h⟩:=bD h
  obtain ⟨v,h2,h⟩:=Pw h
  exact ⟨_,_,by simp only [bQ,h1,h2,h3,aJ,cg],h⟩
 case slice t x lo hi mx =>
  simp only [fY] at h
  obtain ⟨c',h1,h⟩:=bD h
  rcases bn h with ⟨_,h⟩ | ⟨hbx,h⟩
  ·cases h
  obtain ⟨v,h2,h⟩:=YR h
  exact ⟨_,_,by simp only [bQ,h1,h2,hbx,cK,if_false,aJ,cg],h⟩
 case indexAddr t x i =>
  simp only [fY] at h
  obtain ⟨c',h1,h⟩:=bD h
  obtain ⟨x',h3,h⟩:=bD h
  rcases bn h with ⟨_,h⟩ | ⟨hbx,h⟩
  ·cases h
  obtain ⟨v,h2,h⟩:=Ut h
  exact ⟨_,_,by simp only [bQ,h1,h2,h3,hbx,cK,if_false,aJ,cg],h⟩
 case makeSlice t n c =>
  simp only [fY] at h
  obtain ⟨a,h1,h⟩:=bD h
  obtain ⟨b,h3,h⟩:=bD h
  obtain ⟨v,m,h2,h⟩:=VA h
  exact ⟨v,m,by simp only [bQ,h1,h2,h3,aJ],h⟩
 case typeAssert x s t ok =>
  simp only [fY] at h
  obtain ⟨v,h1,h⟩:=bD h
  rcases bn h with ⟨_,h⟩ | ⟨hi,h⟩
  ·cases h
  obtain ⟨u,h2,h⟩:=Ul hi h
  exact ⟨u,mem,by simp only [bQ,h1,aJ,h2,cg],h⟩
 case convert st d x =>
  simp only [fY] at h
  obtain ⟨a,h1,h⟩:=bD h
  obtain ⟨v,h2,h⟩:=Qn h
  refine ⟨v,mem,?_,h⟩
  simp only [bQ,h1,aJ]
  cases dr
  ·rw [show (if false=true then [] else mem)=mem from rfl,show mT kc.cfg.P mem st d a=some v from h2];rfl
  ·rw [show (if true=true then [] else mem)=([]:List O) from rfl,show mT kc.cfg.P [] st d a=some v from h2];rfl
 case index t x i =>
  simp only [fY] at h
  obtain ⟨c',h1,h⟩:=bD h
  obtain ⟨x',h3,h⟩:=bD h
  obtain ⟨v,h2,h⟩:=Uv h
  exact ⟨_,_,by simp only [bQ,h1,h2,h3,aJ,cg],h⟩
 case lookup t m key ok =>
  simp only [fY] at h
  obtain ⟨m',h1,h⟩:=bD h
  obtain ⟨key',h2,h⟩:=bD h
  obtain ⟨es,hm,h⟩:=Ai h
  obtain ⟨p1,h⟩:=bB h
  obtain ⟨e,he,h⟩:=bD h
  obtain ⟨z,hz,h⟩:=bD h
  obtain ⟨q,hq,h⟩:=VM h
  rcases h with ⟨rfl,h⟩ | ⟨v,rfl,h⟩
  ·exact ⟨_,_,by simp only [bQ,h1,h2,hm,p1,if_true,he,hz,hq,aJ,cg,Option.getD_none,Option.isSome_none],h⟩
  ·have h:=uT h
   exact ⟨_,_,by simp only [bQ,h1,h2,hm,p1,if_true,he,hz,hq,aJ,cg,tV,Option.isSome_some],h⟩
 case mapUpdate t m key x =>
  simp only [fY] at h
  obtain ⟨m',h1,h⟩:=bD h
  obtain ⟨key',h2,h⟩:=bD h
  obtain ⟨x',h3,h⟩:=bD h
  obtain ⟨es,hm,h⟩:=Ai h
  obtain ⟨p1,h⟩:=bB h
  obtain ⟨p2,h⟩:=bB h
  obtain ⟨e,he,h⟩:=bD h
  exact ⟨_,_,by simp only [bQ,h1,h2,h3,hm,p1,p2,and_self,if_true,he,aJ,cg],h⟩
 case call c =>
  obtain ⟨callee,args,ats⟩:=c
  cases callee
  case value f =>
   simp only [fY] at h
   obtain ⟨fv,h1,h⟩:=bD h
   obtain ⟨as0,h2,h⟩:=bD h
   cases fv<;>simp only at h<;>first | (cases h;done) | skip
   rcases bn h with ⟨hc,h⟩ | ⟨hc,h⟩
   ·rcases bn h with ⟨_,h⟩ | ⟨hb,h⟩
    ·cases h
    obtain ⟨v,m,h3,h⟩:=H6 hik h
    exact ⟨v,m,by simp only [bQ,h1,h2,hb,aJ];rw [if_pos (Nat.le_of_ble_eq_true hc),if_neg G5,h3],h⟩
   have hc:=fun hle=>G5 (hc.symm.trans (Nat.ble_eq_true_of_le hle))
   rcases bn h with ⟨hb,h⟩ | ⟨hb,h⟩
   ·rcases bn h with ⟨hb2,h⟩ | ⟨_,h⟩
    ·rcases bn h with ⟨hna,h⟩ | ⟨_,h⟩
     rotate_left
     ·cases h
     obtain ⟨v,m,h3,h⟩:=hik.ik _ _ _ _ _ h
     obtain ⟨h4,h⟩:=bB h
     refine ⟨_,_,?_,h⟩
     simp only [bQ,h1,h2,hb,hb2,aJ,if_neg hc,if_true]
     unfold mX
     rw [if_neg (by rw [hna];simp),show (gO kc.cfg).ic _ _ _=_ from h3,aJ,if_pos (Nat.le_of_ble_eq_true h4)]
    ·cases h
   obtain ⟨v,m,h3,h⟩:=H6 hik h
   exact ⟨v,m,by simp only [bQ,h1,h2,hb,aJ,if_neg hc,cK,if_false,h3],h⟩
  case builtin b =>
   cases b
   case len =>
    simp only [fY] at h
    obtain ⟨as0,h2,h⟩:=bD h
    rcases bn h with ⟨_,h0⟩ | ⟨hbx,h0⟩
    ·cases h0
    clear h
    revert h0
    intro h
    split at h
    ·rename_i t ts id off len rest hat
     rcases bn h with ⟨p1,h⟩ | ⟨_,h⟩
     ·obtain ⟨l,h3,h⟩:=wN h
      split at p1
      ·rename_i e hu
       refine ⟨_,_,?_,h⟩
       simp only [bQ,h2,hbx,cK,if_false,aJ,gv,hat,oG,lp,hu,h3,cg]
      ·cases p1
     ·cases h
    ·rename_i t ts t' i rest hat
     rcases bn h with ⟨p1,h⟩ | ⟨_,h⟩
     ·obtain ⟨es,h3,h⟩:=Ai h
      split at p1
      ·rename_i e hu
       refine ⟨_,_,?_,h⟩
       simp only [bQ,h2,hbx,cK,if_false,aJ,gv,hat,oG,lp,hu,h3,cg]
      ·cases p1
     ·cases h
    ·obtain ⟨⟨v,m⟩,h3,h⟩:=bD h
     exact ⟨v,m,h3,h⟩
   case append =>
    simp only [fY] at h
    obtain ⟨as0,h2,h⟩:=bD h
    rcases bn h with ⟨_,h0⟩ | ⟨hbx,h0⟩
    ·cases h0
    clear h
    revert h0
    intro h
    split at h
    ·rename_i t t' s x hat
     rcases bn h with ⟨p1,h⟩ | ⟨p1,h⟩
     ·obtain ⟨v,m,h3,h⟩:=Pe h
      exact ⟨v,m,by simp only [bQ,h2,hbx,cK,if_false,aJ,gv,hat,un,if_pos p1,h3],h⟩
     ·obtain ⟨v,m,h3,h⟩:=Pb h
      exact ⟨v,m,by simp only [bQ,h2,hbx,cK,if_false,aJ,gv,hat,un,p1,h3],h⟩
    ·cases h
   case copy =>
    simp only [fY] at h
    obtain ⟨as0,h2,h⟩:=bD h
    rcases bn h with ⟨_,h0⟩ | ⟨hbx,h0⟩
    ·cases h0
    clear h
    revert h0
    intro h
    split at h
    ·rename_i t t' s x hat
     obtain ⟨p1,h⟩:=bB h
     obtain ⟨v,m,h3,h⟩:=Qq h
     exact ⟨v,m,by simp only [bQ,h2,hbx,cK,if_false,aJ,gv,hat,Ci,if_pos p1,h3],h⟩
    ·cases h
   case clear =>
    simp only [fY] at h
    obtain ⟨as0,h2,h⟩:=bD h
    rcases bn h with ⟨_,h0⟩ | ⟨hbx,h0⟩
    ·cases h0
    clear h
    revert h0
    intro h
    split at h
    ·rename_i t s hat
     obtain ⟨v,m,h3,h⟩:=P5 h
     exact ⟨v,m,by simp only [bQ,h2,hbx,cK,if_false,aJ,gv,hat,Cc,h3],h⟩
    ·cases h
   case delete =>
    simp only [fY] at h
    obtain ⟨as0,h2,h⟩:=bD h
    rcases bn h with ⟨_,h0⟩ | ⟨hbx,h0⟩
    ·cases h0
    clear h
    revert h0
    intro h
    split at h
    ·rename_i t ts m key hat
     obtain ⟨es,hm,h⟩:=Ai h
     obtain ⟨p1,h⟩:=bB h
     obtain ⟨e,he,h⟩:=bD h
     exact ⟨_,_,by simp only [bQ,h2,hbx,cK,if_false,aJ,gv,hat,Cr,hm,p1,if_true,he,cg],h⟩
    ·cases h
   all_goals exact dflt _ h
  all_goals exact dflt _ h
 all_goals exact dflt _ h
theorem u5 (hik:ge kc) {dr:Bool} {o:aF} {env:List V} {mem:List O} {k:V->List O->R} (h:sU kc dr o env mem k=some r) :
  ∃v m,da kc.cfg (gO kc.cfg) dr o env mem=some (v,m)/\k v m=some r:=by
 unfold da
 rcases bn h with ⟨hx,h⟩ | ⟨hx,h⟩
 ·obtain ⟨v,m,h1,h⟩:=LJ hik h
  rw [if_pos hx,h1]
  cases m with
  | nil=>grind
  | cons _ _ =>
   obtain ⟨v2,h3,h⟩:=bD h
   grind
 ·obtain ⟨v,m,h1,h⟩:=LJ hik h
  grind
theorem vw {α:Type} {l:List α} {i:Nat} {x:α} (h:l[i]? = some x):l.set i x=l:=by
 obtain ⟨aC,rfl⟩:=bj.1 h
 simp_all
theorem Wv (hik:ge kc) {dr:Bool}:∀(l:List aF) (env:List V) (mem:List O) (k:List V->List O->R),oP kc dr l env mem k=some r ->
  ∃s,fB kc.cfg (gO kc.cfg) dr l ⟨env,mem⟩=some s/\k s.env s.mem=some r:=by
 intro l
 induction l with
 | nil=>intro env mem k h;exact ⟨_,rfl,h⟩
 | cons o l ih =>
  intro env mem k h
  simp only [oP] at h
  split at h
  ·rename_i hg
   obtain ⟨v,m,h1,h⟩:=u5 hik h
   obtain ⟨s,h2,h⟩:=ih _ _ _ h
   exact ⟨s,by simp only [fB,hg,dN,aJ,if_true,h1,h2],h⟩
  ·rename_i t want hg
   split at h
   ·rename_i b hb
    rcases bn h with ⟨rfl,h⟩ | ⟨rfl,h⟩
    ·rw [vw hb] at h
     cases want<;>simp only [cond_true,cond_false] at h
     rotate_left
     ·obtain ⟨v,m,h1,h⟩:=u5 hik h
      obtain ⟨s,h2,h⟩:=ih _ _ _ h
      exact ⟨s,by simp only [fB,hg,dN,hb,beq_self_eq_true,aJ,if_true,h1,h2],h⟩
     ·obtain ⟨s,h2,h⟩:=ih _ _ _ h
      refine ⟨s,?_,h⟩
      simp only [fB,hg,dN,hb,aJ]
      grind
    ·rw [vw hb] at h
     cases want<;>simp only [cond_true,cond_false] at h
     rotate_left
     ·obtain ⟨s,h2,h⟩:=ih _ _ _ h
      refine ⟨s,?_,h⟩
      simp only [fB,hg,dN,hb,aJ]
      grind
     ·obtain ⟨v,m,h1,h⟩:=u5 hik h
      obtain ⟨s,h2,h⟩:=ih _ _ _ h
      exact ⟨s,by simp only [fB,hg,dN,hb,beq_self_eq_true,aJ,if_true,h1,h2],h⟩
   ·rename_i hb
    obtain ⟨s,h2,h⟩:=ih _ _ _ h
    exact ⟨s,by simp only [fB,hg,dN,hb,aJ,cK,if_false,h2],h⟩
   grind
theorem Wu (hik:ge kc):∀(l:List aF) (env:List V) (mem:List O) (fs:List Nat) (k:List V->List O->List Nat->R),oQ kc l env mem fs k=some r ->
  ∃s fs1,gB kc.cfg (gO kc.cfg) l ⟨env,mem⟩ fs=some (s,fs1)/\k s.env s.mem fs1=some r:=by
 intro l
 induction l with
 | nil=>intro env mem fs k h;exact ⟨_,_,rfl,h⟩
 | cons o l ih =>
  intro env mem fs k h
  simp only [oQ] at h
  split at h
  ·rename_i hg
   obtain ⟨v,m,h1,h⟩:=u5 hik h
   obtain ⟨s,fs1,h2,h⟩:=ih _ _ _ _ h
   rw [Bool.cond_eq_ite] at h2
   exact ⟨s,fs1,by simp only [gB,hg,dN,aJ,if_true,h1,h2],h⟩
  ·rename_i t want hg
   split at h
   ·rename_i b hb
    rcases bn h with ⟨rfl,h⟩ | ⟨rfl,h⟩
    ·rw [vw hb] at h
     cases want<;>simp only [cond_true,cond_false] at h
     rotate_left
     ·obtain ⟨v,m,h1,h⟩:=u5 hik h
      obtain ⟨s,fs1,h2,h⟩:=ih _ _ _ _ h
      rw [Bool.cond_eq_ite] at h2
      exact ⟨s,fs1,by simp only [gB,hg,dN,hb,beq_self_eq_true,aJ,if_true,h1,h2],h⟩
     ·obtain ⟨s,fs1,h2,h⟩:=ih _ _ _ _ h
      refine ⟨s,fs1,?_,h⟩
      simp only [gB,hg,dN,hb,aJ]
      grind
    ·rw [vw hb] at h
     cases want<;>simp only [cond_true,cond_false] at h
     rotate_left
     ·obtain ⟨s,fs1,h2,h⟩:=ih _ _ _ _ h
      refine ⟨s,fs1,?_,h⟩
      simp only [gB,hg,dN,hb,aJ]
      grind
     ·obtain ⟨v,m,h1,h⟩:=u5 hik h
      obtain ⟨s,fs1,h2,h⟩:=ih _ _ _ _ h
      rw [Bool.cond_eq_ite] at h2
      exact ⟨s,fs1,by simp only [gB,hg,dN,hb,beq_self_eq_true,aJ,if_true,h1,h2],h⟩
   ·rename_i hb
    obtain ⟨s,fs1,h2,h⟩:=ih _ _ _ _ h
    exact ⟨s,fs1,by simp only [gB,hg,dN,hb,aJ,cK,if_false,h2],h⟩
   grind
theorem Wr (hik:ge kc) {dr:Bool} (l:List aF) (env:List V) (mem:List O) (k:List V->List O->R) (h:EQ kc dr l env mem k=some r) :
  ∃s,jF kc.cfg (gO kc.cfg) dr l ⟨env,mem⟩=some s/\k s.env s.mem=some r:=by
 unfold EQ at h
 unfold jF
 rcases bn h with ⟨hc,h⟩ | ⟨hc,h⟩
 ·obtain ⟨s,fs,h1,h⟩:=Wu hik _ _ _ _ _ h
  grind
 ·obtain ⟨s,h1,h⟩:=Wv hik _ _ _ _ h
  grind
end
def cd (cfg:bi) (n0:Nat):C->Nat->Nat->S->Ex × S->Prop
 | .seq a b,i,j,s,r=>if j < i+nl a then ∃q,cd cfg n0 a i j s q/\(match q with
   |(.norm,s')=>bV cfg n0 b s'=some r
   | q=>r=q)
  else cd cfg n0 b (i+nl a) j s r
 | .cseq f a b,i,j,s,r=>if j < i+nl a then ∃q,cd cfg n0 a i j s q/\(match q with
   |(.norm,s')=>bV cfg n0 b (cM n0 f s')=some r
   | q=>r=q)
  else if j=i+nl a then bV cfg n0 b s=some r else cd cfg n0 b (i+nl a+1) j s r
 | .cond _ a b,i,j,s,r=>if j < i+nl a then cd cfg n0 a i j s r else cd cfg n0 b (i+nl a) j s r
 | .block id c,i,j,s,r=>∃q,cd cfg n0 c i j s q/\r=(match q with
   |(.norm,s')=>(.norm,s')
   |(.exit e,s')=>if e=id then (.norm,s') else (.exit e,s')
   |(.ret,s')=>(.ret,s'))
 | .loop f c,i,j,s,r=>if j=i then tR cfg n0 f c s r.1 r.2 else ∃q,cd cfg n0 c (i+1) j s q/\(match q with
   |(.norm,s')=>tR cfg n0 f c (cM n0 f s') r.1 r.2
   |(x,s')=>r=(x,cM n0 f s'))
 | _,_,_,_,_=>False
section
variable {kc:KC} {n0:Nat}
def GY (o:cW) (W:Ex × S->Prop) (kn:S->R) (ke:Nat->S->R) (kr:S->R) (H:Nat->S->Prop):Prop :=
 (∃s,W (.norm,s)/\kn s=some o)∨(∃e s,W (.exit e,s)/\ke e s=some o)∨(∃s,W (.ret,s)/\kr s=some o)∨∃j s,o = .head j s/\H j s
theorem Ii {c:C} {t s1:S} (h:bV kc.cfg n0 c t=some (.norm,s1)) {f:List Nat} {x:Ex} {s:S} (hr:tR kc.cfg n0 f c (cM n0 f s1) x s):tR kc.cfg n0 f c t x s:=by
 intro s0 h0
 have:=hr s1 rfl
 simp only [bV,omi] at this |-
 obtain ⟨r,q1,q2⟩:=this
 exact ⟨r,UI (by grind) q1,q2⟩
theorem Ih {c:C} {t s1:S} {i:Nat} (h:bV kc.cfg n0 c t=some (.exit i,s1)) {f:List Nat}:tR kc.cfg n0 f c t (.exit i) (cM n0 f s1):=by
 intro s0 h0
 simp only [bV,omi]
 exact ⟨(.exit i,s1),UH (by grind),rfl⟩
theorem Ik {c:C} {t s1:S} (h:bV kc.cfg n0 c t=some (.ret,s1)) {f:List Nat}:tR kc.cfg n0 f c t .ret (cM n0 f s1):=by
 intro s0 h0
 simp only [bV,omi]
 exact ⟨(.ret,s1),UJ (by grind),rfl⟩
theorem NB {env:List V} {c:Operand} {b:Bool} (h:aO env c=some (.bool b)):Gi env c b=env:=by
 cases c<;>first | rfl | exact vw h
theorem xT (hik:ge kc):∀(c:C) (i:Nat) (s:S) (kn:S->R) (ke:Nat->S->R) (kr:S->R) (o:cW),gp kc n0 c i s kn ke kr=some o ->
  GY o (fun r=>bV kc.cfg n0 c s=some r) kn ke kr (fun j s'=>i<=j/\j < i+nl c/\∀r,cd kc.cfg n0 c i j s' r->bV kc.cfg n0 c s=some r):=by
 intro c
 induction c with
 | skip=>intro i s kn ke kr o h;exact .inl ⟨s,rfl,h⟩
 | ops dr l =>
  intro i s kn ke kr o h
  obtain ⟨s',h1,h2⟩:=Wr hik _ _ _ _ h
  rcases bn h2 with ⟨hc,h2⟩ | ⟨_,h2⟩
  ·exact .inl ⟨s',by simp only [bV];rw [show (⟨s.env,s.mem⟩:S)=s from rfl] at h1;rw [h1,aJ,if_pos hc],h2⟩
  ·cases h2
 | seq a b iha ihb =>
  intro i s kn ke kr o h
  simp only [gp] at h
  rcases iha _ _ _ _ _ _ h with ⟨s1,h1,h2⟩ | ⟨e,s1,h1,h2⟩ | ⟨s1,h1,h2⟩ | ⟨j,s1,rfl,h1,h2,h3⟩
  ·have e1:bV kc.cfg n0 (.seq a b) s=bV kc.cfg n0 b s1:=by simp only [bV,h1,aJ]
   rcases ihb _ _ _ _ _ _ h2 with ⟨s2,g1,g2⟩ | ⟨e,s2,g1,g2⟩ | ⟨s2,g1,g2⟩ | ⟨j,s2,rfl,g1,g2,g3⟩
   ·exact .inl ⟨s2,e1.trans g1,g2⟩
   ·exact .inr (.inl ⟨e,s2,e1.trans g1,g2⟩)
   ·exact .inr (.inr (.inl ⟨s2,e1.trans g1,g2⟩))
   ·refine .inr (.inr (.inr ⟨j,s2,rfl,by omega,by simp only [nl];omega,fun r hr=>?_⟩))
    simp only [cd] at hr
    rw [if_neg (by omega)] at hr
    exact e1.trans (g3 r hr)
  ·exact .inr (.inl ⟨e,s1,by simp only [bV,h1,aJ],h2⟩)
  ·exact .inr (.inr (.inl ⟨s1,by simp only [bV,h1,aJ],h2⟩))
  ·refine .inr (.inr (.inr ⟨j,s1,rfl,h1,by simp only [nl];omega,fun r hr=>?_⟩))
   simp only [cd] at hr
   rw [if_pos h2] at hr
   obtain ⟨⟨x,s'⟩,q1,q2⟩:=hr
   have q1:=h3 _ q1
   simp only [bV,q1,aJ]
   cases x
   ·exact q2
   ·simp only at q2;rw [q2]
   ·simp only at q2;rw [q2]
 | cseq f a b iha ihb =>
  intro i s kn ke kr o h
  simp only [gp] at h
  rcases iha _ _ _ _ _ _ h with ⟨s1,h1,h2⟩ | ⟨e,s1,h1,h2⟩ | ⟨s1,h1,h2⟩ | ⟨j,s1,rfl,h1,h2,h3⟩
  ·cases h2
   refine .inr (.inr (.inr ⟨i+nl a,_,rfl,by omega,by simp only [nl];omega,fun r hr=>?_⟩))
   simp only [cd] at hr
   rw [if_neg (by omega),if_pos (by trivial)] at hr
   simp only [bV,h1,aJ]
   exact hr
  ·exact .inr (.inl ⟨e,s1,by simp only [bV,h1,aJ],h2⟩)
  ·exact .inr (.inr (.inl ⟨s1,by simp only [bV,h1,aJ],h2⟩))
  ·refine .inr (.inr (.inr ⟨j,s1,rfl,h1,by simp only [nl];omega,fun r hr=>?_⟩))
   simp only [cd] at hr
   rw [if_pos h2] at hr
   obtain ⟨⟨x,s'⟩,q1,q2⟩:=hr
   have q1:=h3 _ q1
   simp only [bV,q1,aJ]
   cases x
   ·exact q2
   ·simp only at q2;rw [q2]
   ·simp only at q2;rw [q2]
 | cond c a b iha ihb =>
  intro i s kn ke kr o h
  simp only [gp] at h
  obtain ⟨v,hv,h⟩:=bD h
  obtain ⟨t,rfl,h'⟩:=Em h
  rcases bn h' with ⟨rfl,h⟩ | ⟨rfl,h⟩
  ·rw [NB hv] at h
   have e1:bV kc.cfg n0 (.cond c a b) s=bV kc.cfg n0 a s:=by simp only [bV,hv,aJ,if_true]
   rcases iha _ _ _ _ _ _ h with ⟨s2,g1,g2⟩ | ⟨e,s2,g1,g2⟩ | ⟨s2,g1,g2⟩ | ⟨j,s2,rfl,g1,g2,g3⟩
   ·exact .inl ⟨s2,e1.trans g1,g2⟩
   ·exact .inr (.inl ⟨e,s2,e1.trans g1,g2⟩)
   ·exact .inr (.inr (.inl ⟨s2,e1.trans g1,g2⟩))
   ·refine .inr (.inr (.inr ⟨j,s2,rfl,g1,by simp only [nl];omega,fun r hr=>?_⟩))
    simp only [cd] at hr
    rw [if_pos g2] at hr
    exact e1.trans (g3 r hr)
  ·rw [NB hv] at h
   have e1:bV kc.cfg n0 (.cond c a b) s=bV kc.cfg n0 b s:=by simp only [bV,hv,aJ,cK,if_false]
   rcases ihb _ _ _ _ _ _ h with ⟨s2,g1,g2⟩ | ⟨e,s2,g1,g2⟩ | ⟨s2,g1,g2⟩ | ⟨j,s2,rfl,g1,g2,g3⟩
   ·exact .inl ⟨s2,e1.trans g1,g2⟩
   ·exact .inr (.inl ⟨e,s2,e1.trans g1,g2⟩)
   ·exact .inr (.inr (.inl ⟨s2,e1.trans g1,g2⟩))
   ·refine .inr (.inr (.inr ⟨j,s2,rfl,by omega,by simp only [nl];omega,fun r hr=>?_⟩))
    simp only [cd] at hr
    rw [if_neg (by omega)] at hr
    exact e1.trans (g3 r hr)
 | block id c ih =>
  intro i s kn ke kr o h
  simp only [gp] at h
  rcases ih _ _ _ _ _ _ h with ⟨s2,g1,g2⟩ | ⟨e,s2,g1,g2⟩ | ⟨s2,g1,g2⟩ | ⟨j,s2,rfl,g1,g2,g3⟩
  ·exact .inl ⟨s2,by simp only [bV,g1,cg],g2⟩
  ·rcases bn g2 with ⟨he,g2⟩ | ⟨he,g2⟩
   ·have he:e=id:=by simpa using he
    exact .inl ⟨s2,by simp only [bV,g1,cg,if_pos he],g2⟩
   ·have he:¬e=id:=by simpa using he
    exact .inr (.inl ⟨e,s2,by simp only [bV,g1,cg,if_neg he],g2⟩)
  ·exact .inr (.inr (.inl ⟨s2,by simp only [bV,g1,cg],g2⟩))
  ·refine .inr (.inr (.inr ⟨j,s2,rfl,g1,by simp only [nl];omega,fun r hr=>?_⟩))
   simp only [cd] at hr
   obtain ⟨q,q1,rfl⟩:=hr
   simp only [bV,g3 _ q1,cg]
   rcases q with ⟨x,s'⟩
   cases x<;>rfl
 | loop f c ih =>
  intro i s kn ke kr o h
  simp only [gp] at h
  cases h
  refine .inr (.inr (.inr ⟨i,_,rfl,bG _,by simp only [nl];omega,fun r hr=>?_⟩))
  simp only [cd,if_true] at hr
  exact hr s rfl
 | exit j=>intro i s kn ke kr o h;exact .inr (.inl ⟨j,s,rfl,h⟩)
 | ret=>intro i s kn ke kr o h;exact .inr (.inr (.inl ⟨s,rfl,h⟩))
 | start g =>
  intro i s kn ke kr o h
  simp only [gp] at h
  split at h
  rotate_left
  ·cases h
  rename_i f caps he
  rcases bn h with ⟨_,h⟩ | ⟨hc,h⟩
  ·cases h
  have hc:=fun hle=>G5 (hc.symm.trans (Nat.ble_eq_true_of_le hle))
  obtain ⟨th,h1,h⟩:=bD h
  rcases bn h with ⟨e,h⟩ | ⟨e,h⟩
  ·obtain ⟨as0,h2,h⟩:=bD h
   obtain ⟨l,h3,h⟩:=bD h
   exact .inl ⟨_,by simp only [bV,tz,he,if_neg hc,h1,aJ,e,h2,h3,cg],h⟩
  ·obtain ⟨as0,h2,h⟩:=xk (fun x k h=>Bg h) h
   obtain ⟨l,h3,h⟩:=bD h
   exact .inl ⟨_,by
    have h2':bo (tp (kc.cfg.sqj f) s.mem) caps=some as0:=by rw [e];exact h2
    have e2:m5 (kc.cfg.sqj f) s.mem=fW s.mem:=by rw [e];rfl
    simp only [bV,tz,he,if_neg hc,h1,aJ,h2',h3,cg,e2],h⟩
 | uncons g ps ws a b iha ihb =>
  intro i s kn ke kr o h
  simp only [gp] at h
  obtain ⟨hn,h⟩:=bB h
  simp only [bv,Nat.beq_eq] at hn
  split at h
  rotate_left
  ·cases h
  rename_i ts l he
  cases l with
  | nil =>
   simp only [jJ] at h
   have e1:bV kc.cfg n0 (.uncons g ps ws a b) s=bV kc.cfg n0 b s:=by simp only [bV,he]
   rcases ihb _ _ _ _ _ _ h with ⟨s2,g1,g2⟩ | ⟨e,s2,g1,g2⟩ | ⟨s2,g1,g2⟩ | ⟨j,s2,rfl,g1,g2,g3⟩
   ·exact .inl ⟨s2,e1.trans g1,g2⟩
   ·exact .inr (.inl ⟨e,s2,e1.trans g1,g2⟩)
   ·exact .inr (.inr (.inl ⟨s2,e1.trans g1,g2⟩))
   ·omega
  | cons x l =>
   simp only [jJ] at h
   obtain ⟨vs,rfl,h⟩:=KA h
   have h:=Oc h
   obtain ⟨hl,h⟩:=bB h
   have hl:vs.length=ps.length:=by simpa using hl
   have e1:∀x s2,bV kc.cfg n0 a ⟨tj (s.env.set g .junk) ps vs,s.mem⟩=some (x,s2)->bV kc.cfg n0 (.uncons g ps ws a b) s=some (x,⟨(e9 s2.env ws).set g (.rest ts l),s2.mem⟩):=by
    intro x s2 q
    simp only [bV,he,if_pos hl,q,cg]
   rcases iha _ _ _ _ _ _ h with ⟨s2,g1,g2⟩ | ⟨e,s2,g1,g2⟩ | ⟨s2,g1,g2⟩ | ⟨j,s2,rfl,g1,g2,g3⟩
   ·exact .inl ⟨_,e1 _ _ g1,g2⟩
   ·exact .inr (.inl ⟨e,_,e1 _ _ g1,g2⟩)
   ·exact .inr (.inr (.inl ⟨_,e1 _ _ g1,g2⟩))
   ·omega
theorem Qk (hik:ge kc):∀(c:C) (i j:Nat) (s:S) (kn:S->R) (ke:Nat->S->R) (kr:S->R) (o:cW),iI kc n0 c i j s kn ke kr=some o ->
  GY o (fun r=>cd kc.cfg n0 c i j s r) kn ke kr (fun j' s'=>i<=j'/\j' < i+nl c/\∀r,cd kc.cfg n0 c i j' s' r->cd kc.cfg n0 c i j s r):=by
 intro c
 induction c with
 | seq a b iha ihb =>
  intro i j s kn ke kr o h
  simp only [iI] at h
  rcases bn h with ⟨hj,h⟩ | ⟨hj,h⟩
  ·have hj:j < i+nl a:=by simp_all
   rcases iha _ _ _ _ _ _ _ h with ⟨s1,h1,h2⟩ | ⟨e,s1,h1,h2⟩ | ⟨s1,h1,h2⟩ | ⟨j',s1,rfl,h1,h2,h3⟩
   ·rcases xT hik b _ _ _ _ _ _ h2 with ⟨s2,g1,g2⟩ | ⟨e,s2,g1,g2⟩ | ⟨s2,g1,g2⟩ | ⟨j',s2,rfl,g1,g2,g3⟩
    ·exact .inl ⟨s2,by simp only [cd];grind,g2⟩
    ·exact .inr (.inl ⟨e,s2,by simp only [cd];grind,g2⟩)
    ·exact .inr (.inr (.inl ⟨s2,by simp only [cd];grind,g2⟩))
    ·refine .inr (.inr (.inr ⟨j',s2,rfl,by omega,by simp only [nl];omega,fun r hr=>?_⟩))
     simp only [cd] at hr |-
     grind
   ·exact .inr (.inl ⟨e,s1,by simp only [cd];grind,h2⟩)
   ·exact .inr (.inr (.inl ⟨s1,by simp only [cd];grind,h2⟩))
   ·refine .inr (.inr (.inr ⟨j',s1,rfl,h1,by simp only [nl];omega,fun r hr=>?_⟩))
    simp only [cd] at hr |-
    grind
  ·have hj:¬j < i+nl a:=by
    intro hh
    have:gL j (i+nl a)=true:=by simpa [mG] using hh
    grind
   rcases ihb _ _ _ _ _ _ _ h with ⟨s1,h1,h2⟩ | ⟨e,s1,h1,h2⟩ | ⟨s1,h1,h2⟩ | ⟨j',s1,rfl,h1,h2,h3⟩
   ·exact .inl ⟨s1,by simp only [cd];grind,h2⟩
   ·exact .inr (.inl ⟨e,s1,by simp only [cd];grind,h2⟩)
   ·exact .inr (.inr (.inl ⟨s1,by simp only [cd];grind,h2⟩))
   ·refine .inr (.inr (.inr ⟨j',s1,rfl,by omega,by simp only [nl];omega,fun r hr=>?_⟩))
    simp only [cd] at hr |-
    grind
 | cseq f a b iha ihb =>
  intro i j s kn ke kr o h
  simp only [iI] at h
  rcases bn h with ⟨hj,h⟩ | ⟨hj,h⟩
  ·have hj:j < i+nl a:=by simp_all
   rcases iha _ _ _ _ _ _ _ h with ⟨s1,h1,h2⟩ | ⟨e,s1,h1,h2⟩ | ⟨s1,h1,h2⟩ | ⟨j',s1,rfl,h1,h2,h3⟩
   ·cases h2
    refine .inr (.inr (.inr ⟨i+nl a,_,rfl,by omega,by simp only [nl];omega,fun r hr=>?_⟩))
    simp only [cd] at hr |-
    grind
   ·exact .inr (.inl ⟨e,s1,by simp only [cd];grind,h2⟩)
   ·exact .inr (.inr (.inl ⟨s1,by simp only [cd];grind,h2⟩))
   ·refine .inr (.inr (.inr ⟨j',s1,rfl,h1,by simp only [nl];omega,fun r hr=>?_⟩))
    simp only [cd] at hr |-
    grind
  ·have hj:¬j < i+nl a:=by
    intro hh
    have:gL j (i+nl a)=true:=by simpa [mG] using hh
    grind
   rcases bn h with ⟨hk,h⟩ | ⟨hk,h⟩
   ·have hk:j=i+nl a:=by grind
    rcases xT hik b _ _ _ _ _ _ h with ⟨s2,g1,g2⟩ | ⟨e,s2,g1,g2⟩ | ⟨s2,g1,g2⟩ | ⟨j',s2,rfl,g1,g2,g3⟩
    ·exact .inl ⟨s2,by simp only [cd];grind,g2⟩
    ·exact .inr (.inl ⟨e,s2,by simp only [cd];grind,g2⟩)
    ·exact .inr (.inr (.inl ⟨s2,by simp only [cd];grind,g2⟩))
    ·refine .inr (.inr (.inr ⟨j',s2,rfl,by omega,by simp only [nl];omega,fun r hr=>?_⟩))
     simp only [cd] at hr |-
     grind
   ·have hk:¬j=i+nl a:=by grind
    rcases ihb _ _ _ _ _ _ _ h with ⟨s1,h1,h2⟩ | ⟨e,s1,h1,h2⟩ | ⟨s1,h1,h2⟩ | ⟨j',s1,rfl,h1,h2,h3⟩
    ·exact .inl ⟨s1,by simp only [cd];grind,h2⟩
    ·exact .inr (.inl ⟨e,s1,by simp only [cd];grind,h2⟩)
    ·exact .inr (.inr (.inl ⟨s1,by simp only [cd];grind,h2⟩))
    ·refine .inr (.inr (.inr ⟨j',s1,rfl,by omega,by simp only [nl];omega,fun r hr=>?_⟩))
     simp only [cd] at hr |-
     grind
 | cond c a b iha ihb =>
  intro i j s kn ke kr o h
  simp only [iI] at h
  rcases bn h with ⟨hj,h⟩ | ⟨hj,h⟩
  ·have hj:j < i+nl a:=by simp_all
   rcases iha _ _ _ _ _ _ _ h with ⟨s1,h1,h2⟩ | ⟨e,s1,h1,h2⟩ | ⟨s1,h1,h2⟩ | ⟨j',s1,rfl,h1,h2,h3⟩
   ·exact .inl ⟨s1,by simp only [cd];grind,h2⟩
   ·exact .inr (.inl ⟨e,s1,by simp only [cd];grind,h2⟩)
   ·exact .inr (.inr (.inl ⟨s1,by simp only [cd];grind,h2⟩))
   ·refine .inr (.inr (.inr ⟨j',s1,rfl,by omega,by simp only [nl];omega,fun r hr=>?_⟩))
    simp only [cd] at hr |-
    grind
  ·have hj:¬j < i+nl a:=by
    intro hh
    have:gL j (i+nl a)=true:=by simpa [mG] using hh
    grind
   rcases ihb _ _ _ _ _ _ _ h with ⟨s1,h1,h2⟩ | ⟨e,s1,h1,h2⟩ | ⟨s1,h1,h2⟩ | ⟨j',s1,rfl,h1,h2,h3⟩
   ·exact .inl ⟨s1,by simp only [cd];grind,h2⟩
   ·exact .inr (.inl ⟨e,s1,by simp only [cd];grind,h2⟩)
   ·exact .inr (.inr (.inl ⟨s1,by simp only [cd];grind,h2⟩))
   ·refine .inr (.inr (.inr ⟨j',s1,rfl,by omega,by simp only [nl];omega,fun r hr=>?_⟩))
    simp only [cd] at hr |-
    grind
 | block id c ih =>
  intro i j s kn ke kr o h
  simp only [iI] at h
  rcases ih _ _ _ _ _ _ _ h with ⟨s2,g1,g2⟩ | ⟨e,s2,g1,g2⟩ | ⟨s2,g1,g2⟩ | ⟨j',s2,rfl,g1,g2,g3⟩
  ·exact .inl ⟨s2,by simp only [cd];grind,g2⟩
  ·rcases bn g2 with ⟨he,g2⟩ | ⟨he,g2⟩
   ·have he:e=id:=by grind
    exact .inl ⟨s2,by simp only [cd];grind,g2⟩
   ·have he:¬e=id:=by grind
    exact .inr (.inl ⟨e,s2,by simp only [cd];grind,g2⟩)
  ·exact .inr (.inr (.inl ⟨s2,by simp only [cd];grind,g2⟩))
  ·refine .inr (.inr (.inr ⟨j',s2,rfl,g1,by simp only [nl];omega,fun r hr=>?_⟩))
   simp only [cd] at hr |-
   grind
 | loop f c ih =>
  intro i j s kn ke kr o h
  simp only [iI] at h
  rcases bn h with ⟨hj,h⟩ | ⟨hj,h⟩
  ·have hj:j=i:=by grind
   subst hj
   rcases xT hik c _ _ _ _ _ _ h with ⟨s2,g1,g2⟩ | ⟨e,s2,g1,g2⟩ | ⟨s2,g1,g2⟩ | ⟨j',s2,rfl,g1,g2,g3⟩
   ·cases g2
    refine .inr (.inr (.inr ⟨j,_,rfl,bG _,by simp only [nl];omega,fun r hr=>?_⟩))
    simp only [cd,if_true] at hr |-
    exact Ii g1 hr
   ·exact .inr (.inl ⟨e,_,by simp only [cd,if_true];exact Ih g1,g2⟩)
   ·exact .inr (.inr (.inl ⟨_,by simp only [cd,if_true];exact Ik g1,g2⟩))
   ·refine .inr (.inr (.inr ⟨j',s2,rfl,by omega,by simp only [nl];omega,fun r hr=>?_⟩))
    simp only [cd,if_true] at hr |-
    rw [if_neg (by omega)] at hr
    obtain ⟨⟨x,s'⟩,q1,q2⟩:=hr
    have q1:=g3 _ q1
    cases x with
    | norm=>exact Ii q1 q2
    | exit e=>simp only at q2;rw [q2];exact Ih q1
    | ret=>simp only at q2;rw [q2];exact Ik q1
  ·have hj:¬j=i:=by grind
   rcases ih _ _ _ _ _ _ _ h with ⟨s2,g1,g2⟩ | ⟨e,s2,g1,g2⟩ | ⟨s2,g1,g2⟩ | ⟨j',s2,rfl,g1,g2,g3⟩
   ·cases g2
    refine .inr (.inr (.inr ⟨i,_,rfl,bG _,by simp only [nl];omega,fun r hr=>?_⟩))
    simp only [cd,if_true] at hr |-
    grind
   ·exact .inr (.inl ⟨e,_,by simp only [cd];grind,g2⟩)
   ·exact .inr (.inr (.inl ⟨_,by simp only [cd];grind,g2⟩))
   ·refine .inr (.inr (.inr ⟨j',s2,rfl,by omega,by simp only [nl];omega,fun r hr=>?_⟩))
    simp only [cd] at hr |-
    grind
 | _=>intro i j s kn ke kr o h;simp only [iI] at h;cases h
inductive Go (kc:KC) (imp:Bool) (n0:Nat) (fa:FA):cW->cW->Prop
 | refl (o:cW):Go kc imp n0 fa o o
 | step {j:Nat} {s:S} {o o':cW} (h:Kb kc imp n0 fa j s=some o) (hr:Go kc imp n0 fa o o'):Go kc imp n0 fa (.head j s) o'
theorem Go.trans {imp:Bool} {fa:FA} {a b c:cW} (h:Go kc imp n0 fa a b) (h':Go kc imp n0 fa b c):Go kc imp n0 fa a c:=by
 induction h with
 | refl _=>grind
 | step q _ ih=>exact .step q (ih h')
theorem TT {P:Program} {mem:List O} {t:TypeId} {v:V} {k:V->R} {r:cW} (h:DK P mem t v k=some r):∃x,p9 P mem t v=some x/\k x=some r:=by
 unfold DK at h
 split at h
 ·split at h
  ·rename_i hm
   rcases bn h with ⟨c1,h⟩ | ⟨c1,h⟩
   ·rcases bn h with ⟨c2,h⟩ | ⟨c2,h⟩
    ·obtain ⟨c3,h⟩:=bB h
     exact ⟨_,by simp only [p9,hm,c1,if_true,if_pos (show _=0 by simpa using c2),c3],h⟩
    ·exact ⟨_,by simp only [p9,hm,c1,if_true,if_neg (show ¬_=0 by simpa using c2)],h⟩
   ·exact ⟨_,by simp only [p9,hm,c1,cK,if_false],h⟩
  grind
 ·exact bD h
theorem TV {P:Program} {mem:List O} {ts:List TypeId} {vs:List V} {k:V->R} {r:cW} (h:DL P mem ts vs k=some r):∃x,lS P mem ts vs=some x/\k x=some r:=by
 unfold DL at h
 split at h
 ·exact TT h
 ·exact bD h
def pm (kc:KC) (imp:Bool) (fa:FA) (s:S) (o:cW):Prop :=
 ∃vs,bo (md kc.cfg.P s) fa.results=some vs/\((imp=true/\o = .doneM (o7 vs) s.mem)∨(imp=false/\∃v,lS kc.cfg.P s.mem fa.rtypes vs=some v/\o = .done v))
theorem zG {imp:Bool} {fa:FA} {s:S} {o:cW} (h:wT kc imp fa s=some o):pm kc imp fa s o:=by
 obtain ⟨vs,h1,h⟩:=bD h
 refine ⟨vs,h1,?_⟩
 rcases bn h with ⟨rfl,h⟩ | ⟨rfl,h⟩
 ·grind
 ·obtain ⟨v,h2,h⟩:=TV h
  grind
def De:Ex->Bool
 | .exit _=>false
 | _=>true
theorem pm.stay {imp:Bool} {fa:FA} {s:S} {o o':cW} (hf:pm kc imp fa s o) (hg:Go kc imp n0 fa o o'):o=o':=by
 cases hg with
 | refl=>rfl
 | step q _ =>
  obtain ⟨vs,_,⟨_,q⟩ | ⟨_,v,_,q⟩⟩:=hf
  all_goals grind
theorem Go.sound (hik:ge kc) {imp:Bool} {fa:FA} {o o':cW} (h:Go kc imp n0 fa o o'):∀j s,o = .head j s->(∀j s,o'≠.head j s)->∃x s',cd kc.cfg n0 fa.body 0 j s (x,s')/\De x=true/\pm kc imp fa s' o':=by
 induction h with
 | refl o=>grind
 | step h1 hr ih =>
  intro j s e hn
  cases e
  rcases Qk hik _ _ _ _ _ _ _ _ h1 with ⟨s2,g1,g2⟩ | ⟨e,s2,g1,g2⟩ | ⟨s2,g1,g2⟩ | ⟨j',s2,rfl,g1,g2,g3⟩
  ·have hf:=zG g2
   have:=pm.stay hf hr
   subst this
   exact ⟨_,_,g1,rfl,hf⟩
  ·grind
  ·have hf:=zG g2
   have:=pm.stay hf hr
   subst this
   exact ⟨_,_,g1,rfl,hf⟩
  grind
theorem MN (hik:ge kc) {imp:Bool} {fa:FA} {args:List V} {mem:List O} {o o':cW} (h:k6 kc imp fa args mem=some o) (hg:Go kc imp mem.length fa o o') (hn:∀j s,o'≠.head j s) :
  ∃vs s,qN kc.cfg fa args mem=some (vs,s)/\((imp=true/\o' = .doneM (o7 vs) s)∨(imp=false/\∃v,lS kc.cfg.P s fa.rtypes vs=some v/\o' = .done v)):=by
 obtain ⟨ha,h⟩:=bB h
 simp only [bv,beq_iff_eq,Nat.ble_eq] at ha
 have key:∀(x:Ex) (s':S),bV kc.cfg mem.length fa.body ⟨args++bE (fa.nt - fa.np) (.tup []),mem⟩=some (x,s')->De x=true->pm kc imp fa s' o' ->
   ∃vs s,qN kc.cfg fa args mem=some (vs,s)/\((imp=true/\o' = .doneM (o7 vs) s)∨(imp=false/\∃v,lS kc.cfg.P s fa.rtypes vs=some v/\o' = .done v)):=by
  intro x s' hx he ⟨vs,h1,h2⟩
  refine ⟨vs,s'.mem,?_,h2⟩
  unfold qN
  rw [if_pos ha]
  cases x with
  | exit i=>cases he
  | norm=>grind
  | ret=>grind
 have done:∀s,pm kc imp fa s o->o=o':=fun s hf=>hf.stay hg
 rcases xT hik _ _ _ _ _ _ _ h with ⟨s2,g1,g2⟩ | ⟨e,s2,g1,g2⟩ | ⟨s2,g1,g2⟩ | ⟨j',s2,rfl,g1,g2,g3⟩
 ·have hf:=zG g2
  have:=done _ hf
  subst this
  exact key _ _ g1 rfl hf
 ·grind
 ·have hf:=zG g2
  have:=done _ hf
  subst this
  exact key _ _ g1 rfl hf
 ·obtain ⟨x,s',q1,q2,q3⟩:=hg.sound hik _ _ rfl hn
  grind
theorem nD (hik:ge kc) {f:FuncId} {fa:FA} {args:List V} {o:cW} {v:V} (hp:kc.cfg.pprim f=none) (hf:fH kc.cfg.P (kc.cfg.rxf f) f=some fa) (h:k6 kc false fa args []=some o) (hg:Go kc false 0 fa o (.done v)) (ha:kc.cfg.ars f=[]:=by rfl) :
  bK kc.cfg f args=some v:=by
 obtain ⟨vs,s,h1,⟨h2,_⟩ | ⟨_,v',h2,h3⟩⟩:=MN hik h hg (by grind)
 ·grind
 ·cases h3
  exact WP hp hf h1 h2 ha
theorem Kl (hik:ge kc) {f:FuncId} {fa:FA} {args:List V} {mem mem':List O} {o:cW} {v:V} (hp:kc.cfg.iprim f=none) (hf:fH kc.cfg.P (kc.cfg.rxf f) f=some fa) (h:k6 kc true fa args mem=some o) (hg:Go kc true mem.length fa o (.doneM v mem')) :
  lV kc.cfg f args mem=some (v,mem'):=by
 obtain ⟨vs,s,h1,⟨_,h2⟩ | ⟨h2,_⟩⟩:=MN hik h hg (by grind)
 ·cases h2
  exact Km hp hf h1
 grind
end
def JU (n:Nat):List V:=bE n V.junk
def W (k:IntKind) (n:Int):Int:=k.wrap n
def mv (d s t:Nat):aF:=⟨some d,.move (.tmp s),t,none,false,false,false⟩
def rC (d s t:Nat):aF:=⟨some d,.assign (.tmp s),t,none,false,false,false⟩
def o1 (d:Nat) (o:Op) (t:Nat):aF:=⟨some d,o,t,none,false,false,false⟩
def o0 (o:Op) (t:Nat):aF:=⟨none,o,t,none,false,false,false⟩
def o2 (d:Nat) (o:Op) (t g:Nat) (b:Bool):aF:=⟨some d,o,t,some (g,b),false,false,false⟩
abbrev t' (n:Nat):Operand:=.tmp n
theorem aX {n:Int} (h:-9223372036854775808<=n/\n < 9223372036854775808):W .i64 n=n:=by
 have e:IntKind.signed .i64=true:=rfl
 have e1:IntKind.bits .i64=64:=rfl
 unfold W IntKind.wrap
 grind
theorem lG {n:Int} (h:0<=n/\n < 18446744073709551616):W .u64 n=n:=by
 have e:IntKind.signed .u64=false:=rfl
 have e1:IntKind.bits .u64=64:=rfl
 unfold W IntKind.wrap
 grind
section
variable {o:R} {b:Bool}
@[simp] theorem DF {k:R}:gd true k=k:=rfl
@[simp] theorem cR {b:Bool} {k:Bool->R}:kB (.bool b) k=k b:=rfl
@[simp] theorem bU {j:IntKind} {n:Int} {k:Int->R}:kI j (.int j n) k=k n:=by cases j<;>rfl
@[simp] theorem eO {s:List UInt8} {k:List UInt8->R}:kS (.str s) k=k s:=rfl
@[simp] theorem qe {s:List V} {k:List V->R}:kL (.sl s) k=k s:=rfl
@[simp] theorem El {s:List V} {k:List V->R}:kA (.agg s) k=k s:=rfl
@[simp] theorem lY {s:List V} {k:List V->R}:kT (.tup s) k=k s:=rfl
@[simp] theorem jC {e:TypeId} {s:List V} {k:List V->R}:kF e (.fr e s) k=k s:=by simp [kF]
@[simp] theorem aaE {e:TypeId} {i:Nat} {k:Nat->R}:kP e (.hp e i 0) k=k i:=by simp [kP]
@[simp] theorem aaD {e:TypeId} {i:Nat} {k:Nat->R}:kM e (.hm e i) k=k i:=by simp [kM]
@[simp] theorem mj {c:V} {cs:List V} {k:V->List V->R}:bO (c::cs) k=k c cs:=rfl
@[simp] theorem mn {k:R}:dR [] k=k:=rfl
@[simp] theorem iy {α:Type} {x:α} {k:α->R}:bh (some x) k=k x:=rfl
theorem aG {k:R} (h:b=true):gd b k=k:=by simp_all
theorem dk {α:Type} {l:List α} {n:Nat} {x:α} {k:α->R} (h:l[n]? = some x):aY l n k=k x:=by simp only [aY,h]
theorem aK {cfg:bi} {f:FuncId} {as0:List V} {k:V->R} {v:V} (h:bK cfg f as0=some v):aE cfg f as0 k=k v:=by simp only [aE,h]
@[simp] theorem XD {kn:R} {ks:V->List V->R}:jJ [] kn ks=kn:=rfl
@[simp] theorem vm {x:V} {l:List V} {kn:R} {ks:V->List V->R}:jJ (x::l) kn ks=ks x l:=rfl
theorem VL {es:List (V × V)} {key:V} {kn:R} {ks:V->R} {v:V} (h:en es key=some (some v)):kv es key kn ks=ks v:=by simp only [kv,h]
end
theorem gl {α:Type} {l r:List α} {k:Nat} {x:α} (h:l.drop k=x::r):l[k]? = some x/\l.drop (k+1)=r/\k < l.length:=by
 have hk:k < l.length:=by
  rcases jV k l.length with h1 | h1
  ·exact h1
  ·rw [pq h1] at h;cases h
 rw [rl hk] at h
 injection h with h1 h2
 exact ⟨by rw [bC hk,h1],h2,hk⟩
theorem drop_nil {α:Type} {l:List α} {k:Nat} (h:l.drop k=[]):l.length<=k:=BI.1 h
@[simp] theorem aag {α:Type} {p:Prop} [Decidable p] {a b:α}:(cond (decide p) a b)=if p then a else b:=by
 by_cases h:p<;>simp [h]
@[simp] theorem aav {p:Prop} [Decidable p] {k:R}:gd (decide p) k=if p then k else none:=by
 by_cases h:p<;>simp [h,gd]
theorem D6 {α:Type} {l:List α} {f:α->V} {n:Nat} {x:α} {k:V->R} (h:l[n]? = some x):aY (l.map f) n k=k (f x):=by
 simp only [aY,dB,h,cg]
theorem Bv {α:Type} {l:List α} {f:α->V} {c:Nat} (h:∀x,(f x).cells.length=c):dp c (l.map f)=true:=by
 simp only [dp,List.all_map,di,Function.comp_apply,beq_iff_eq]
 exact fun x _=>h x
theorem JZ {α:Type} {l:List α} {f:α->V} (h:∀x,(f x).cells.all V.flat1=true):((l.map f).all fun x=>x.cells.all V.flat1)=true:=by
 simp only [List.all_map,di,Function.comp_apply]
 exact fun x _=>by simpa using h x
theorem bl (n:Nat):((n:Int)).toNat=n:=by omega
theorem Go.up {kc:KC} {imp:Bool} {n0:Nat} {fa:FA} {P:Nat->cW} {n:Nat} (h:∀k,k < n->Go kc imp n0 fa (P k) (P (k+1))):∀k,k<=n->Go kc imp n0 fa (P k) (P n):=by
 have:∀d k,k+d=n->Go kc imp n0 fa (P k) (P n):=by
  intro d
  induction d with
  | zero=>intro k hk;have:k=n:=by omega
          subst this;exact .refl _
  | succ d ih=>intro k hk;exact (h k (by omega)).trans (ih (k+1) (by omega))
 exact fun k hk=>this (n - k) k (by omega)
section
variable {P:Program} {Z Z':Zs} {w w':World} {j j':J} {mem mem':List O}
theorem AS (w:World) (dT sT ty elem:TypeId) (i:TypeInfo) (g o dLen dCap:Nat) (a:Addr) (sLen sCap:Nat) (cur:Array Value) (t:TypeId) (cs:List Value)
  (hu:P.underlying dT=some (.slice elem)) (hi:P.info? elem=some i)
  (hg:w.heap[g]? = some (.cells cur t (0,0))) (hn:cs.length=Nat.min sLen dLen * i.size)
  (hsrc:∀j v,cs[j]? = some v->w.cell? (a.add j)=some v) (hfit:o+cs.length<=cur.size) (h1:∀v∈cs,v.oneCell'=true) :
  (Builtin.copy_ #[dT,sT] ty #[.slice (some ⟨g,o,none⟩) dLen dCap,.slice (some a) sLen sCap]).run P w =
   .ok (goInt (Nat.min sLen dLen)) (w.setRow g (cur.toList.take o++cs++cur.toList.drop (o+cs.length)).toArray):=by
 have hf:=run_firstCells_some (P:=P) w i.size (Nat.min sLen dLen) a sLen sCap cs hn hsrc
 have hst:=run_storeCells_at P g o t cs 0 cur w hg (by grind) h1
 simp only [dK] at hst
 simp [Builtin.copy_,run_underlying hu,Builtin.lenOf,sizeOf,typeInfo,hi,hf,hst]
def gE (us:Array Value) (p:Nat) (vs:List Value):Array Value:=(us.toList.take p++vs++us.toList.drop (p+vs.length)).toArray
theorem vD {us:Array Value} {p:Nat} {vs:List Value} (h:p+vs.length<=us.size):(gE us p vs).size=us.size:=by
 simp only [gE,tO,c8,gq,gg,BC]
 omega
theorem jN {us:Array Value} {p:Nat} {vs:List Value} (h:p+vs.length<=us.size) (o:Nat):(gE us p vs)[o]? = if o < p then us[o]? else if o < p+vs.length then vs[o - p]? else us[o]?:=by
 have hto:(us.toList.take p).length=p:=by grind
 simp only [gE,ym,bu]
 grind
theorem MA (s:SR P Z w j mem) {id:Nat} {e:TypeId} {els els':List V} (hm:mem[id]? = some (.row e els 0)) {g q n c:Nat} {us us':Array Value} (hj:j id=some ⟨.slice (some ⟨g,q,none⟩) n c,P.cellsOf e⟩)
  (_hg:w.heap[g]? = some (.cells us e (0,0))) (hZ:∀o,¬Z g o) {w1:World} (hg1:w1.heap[g]? = some (.cells us' e (0,0))) (hot:∀k,k≠g->w1.heap[k]? = w.heap[k]?)
  (hos:w1.os=w.os) (htape:w1.tape=w.tape) (hout:w1.output=w.output) (hsz:w1.heap.size=w.heap.size) (hpos:0 < P.cellsOf e) (hall:∀x∈els',x.cells.length=P.cellsOf e) (hlc:els'.length<=c) (hcm:c<=maxLen) (hus:q+c * P.cellsOf e<=us'.size)
  (hcl:∀(k:Nat) (x:V) (i:Nat) (y:V),els'[k]? = some x->x.cells[i]? = some y->y.one=true/\∃u,us'[q+(k * P.cellsOf e+i)]? = some u/\VR Z w j0 y u) :
  jZ P Z w j mem (mem.set id .dead).length (newRow (mem.set id .dead) e els' 0).2 (.slice (some ⟨g,q,none⟩) els'.length c) w1:=by
 have aC:id < mem.length:=(bj.1 hm).1
 have hown:bd Z j mem g:=⟨id,_,hm,rfl,by simp [bf,O.ar,cf,hj,bz.blk]⟩
 have hno:¬bd Z j (mem.set id .dead) g:=by
  rintro ⟨k,x,hx,hl,hb⟩
  by_cases e':id=k
  ·subst e'
   rw [fj aC] at hx
   cases hx
   cases hl
  ·rw [fE e'] at hx
   exact e' (s.inj id k _ x g hm hx rfl hl (by simp [bf,O.ar,cf,hj,bz.blk]) hb)
 have s1:=s.kill hm
 have hz':be Z w Z w1:=by
  refine .of fun g' o ho=>⟨ho,?_⟩
  by_cases hgg:g'=g
  ·subst hgg;exact (hZ o ho).elim
  ·exact gC (hot g' hgg) o
 have s2:SR P Z w1 j (mem.set id .dead):=s1.world hz' (fun g' hg'=>⟨hot g' (fun e'=>hno (e' ▸ hg')),fun _=>Iff.rfl⟩) (fun g' o ho=>by rw [hsz];exact s1.zin g' o ho)
 have s3:=s2.add (h:=⟨.slice (some ⟨g,q,none⟩) els'.length c,P.cellsOf e⟩) (o:=.row e els' 0) (fun g' hg'=>by
   simp [bz.blk] at hg';subst hg';exact hno)
  ⟨_,eU _ _ _,rfl,hpos,iE _,hall,.inr ⟨g,q,c,us',rfl,hlc,hcm,hg1,hus,fun k x hk i y hy=>by
    obtain ⟨a,u',hu',hv⟩:=hcl k x i y hk hy
    refine ⟨a,u',?_,hv.mono hz' (aQ.refl _)⟩
    rw [eG hg1,<-hu']
    simp only [gT],fun o ho=>(hZ o ho).elim,fun o ho=>by simp at ho⟩⟩
 refine ⟨Z,_,_,eU _ _ _,s3,⟨hos,htape,hout,by omega,fun g' hg' hno'=>⟨hot g' (fun e'=>hno' (e' ▸ hown)),fun _=>Iff.rfl⟩,fun g' hg' ho=>?_,hz',fun t h=>⟨(dW.set hm (fun n e=>by cases e) h).add rfl,rfl⟩⟩,s1.ext _⟩
 ·rcases bd.add ho with ho | ho
  ·exact (aI.kill (Z:=Z) (w:=w) (j:=j) hm).owned g' hg' ho
  ·simp [bz.blk] at ho;subst ho;exact hown
theorem X8 (w:World) (t ty e:TypeId) (i:TypeInfo) (ht:P.underlying t=some (.slice e)) (hi:P.info? e=some i)
  (g b sLen sCap:Nat) (cur:Array Value) (hg:w.heap[g]? = some (.cells cur e (0,0)))
  (a:Addr) (m c:Nat) (news:List Value) (hl:news.length=m * i.size) (hnews:∀j u,news[j]? = some u->w.cell? (a.add j)=some u) (h1:∀u∈news,u.oneCell'=true)
  (hroom:sLen+m<=sCap) (hfit:b+sLen * i.size+news.length<=cur.size) :
  (Builtin.append_ #[t,t] ty #[.slice (some ⟨g,b,none⟩) sLen sCap,.slice (some a) m c]).run P w =
   .ok (.slice (some ⟨g,b,none⟩) (sLen+m) sCap) (w.setRow g (cur.toList.take (b+sLen * i.size)++news++cur.toList.drop (b+sLen * i.size+news.length)).toArray):=by
 have hf:=run_firstCells_some (P:=P) w i.size m a m c news hl hnews
 have hst:=run_storeCells_at P g (b+sLen * i.size) e news 0 cur w hg (by grind) h1
 simp only [dK] at hst
 simp [Builtin.append_,run_underlying ht,sizeOf,typeInfo,hi,Builtin.lenOf,hroom,hf,Addr.add_lit,hst]
theorem aaI {α:Type} (a:Array α) (x:α) (f:α->α):(a.push x).modify a.size f=a.push (f x):=by
 grind
theorem YG (w:World) (us us':Array Value) (t:TypeId):((w.alloc (.cells us t)).setRow w.heap.size us').heap=w.heap.push (.cells us' t):=by
 unfold World.setRow World.alloc
 grind
def vE (mem:List O) (id:Nat):V->Option (TypeId × List V)
 | .own id2=>if kG id id2 then none else
  match mem[id2]? with
  | some (.row t xs _)=>some (t,xs)
  | _=>none
 | .lit t xs=>some (t,xs)
 | _=>none
def qc (e:TypeId) (sz:Nat):List V->List O->Option (V × List O)
 | [.own id,.int .i64 i,x],mem =>
  match mem[id]?,vE mem id x with
  | some (.row t els 0),some (t2,xs) =>
   if t=e/\t2=e/\dp sz xs=true/\0 < xs.length/\0<=i/\i.toNat<=els.length/\els.length+xs.length<=16777216 then
    some (newRow (mem.set id .dead) e (els.take i.toNat++xs++els.drop i.toNat) 0)
   else none
  | _,_=>none
 | _,_=>none
structure BH (P:Program) (f ov:FuncId) (t e tn:TypeId) (kn:IntKind):Prop where
 ht:P.underlying t=some (.slice e)
 htn:P.underlying tn=some (.int kn)
 row:nK P e=true
 ovr:∀(w:World) (g g2 o m c2 lb cb:Nat) (us us2:Array Value),g2≠g->w.heap[g]? = some (.cells us e (0,0))->w.heap[g2]? = some (.cells us2 e (0,0))->0 < us.size ->
  (callFunc ov #[.slice (some ⟨g2,0,none⟩) m c2,.slice (some ⟨g,o,none⟩) lb cb]).run P w = .ok (.value (.bool false)) w
 shift:∀(g n c i g2 m c2:Nat) (w w2 w3:World) (k1 k2:Value),i < n->0 < m->n+m<=c->c<=9223372036854775807 ->
  (∀lb cb o,(callFunc ov #[.slice (some ⟨g2,0,none⟩) m c2,.slice (some ⟨g,o,none⟩) lb cb]).run P w = .ok (.value (.bool false)) w) ->
  (∀ty dc sc,(Builtin.copy_ #[t,t] ty #[.slice (some ⟨g,(i+m) * P.cellsOf e,none⟩) (n+m - (i+m)) dc,.slice (some ⟨g,i * P.cellsOf e,none⟩) (n+m - i) sc]).run P w.drew = .ok k1 w2) ->
  (∀ty dc,(Builtin.copy_ #[t,t] ty #[.slice (some ⟨g,i * P.cellsOf e,none⟩) (n+m - i) dc,.slice (some ⟨g2,0,none⟩) m c2]).run P w2 = .ok k2 w3) ->
  Calls P f #[.slice (some ⟨g,0,none⟩) n c,.int .i64 i,.slice (some ⟨g2,0,none⟩) m c2] w fun x w'=>x = .returned (.slice (some ⟨g,0,none⟩) (n+m) c)/\w'=w3
 atEnd:∀(A A2:Option Addr) (n c m c2:Nat) (w w1:World) (r:Value),0 < m->n<=c->c<=9223372036854775807->(A=none->n=0/\c=0)->(∀a,A=some a->∃g,a=⟨g,0,none⟩) ->
  (∀ty,(Builtin.append_ #[t,t] ty #[.slice A n c,.slice A2 m c2]).run P w = .ok r w1) ->
  Calls P f #[.slice A n c,.int .i64 n,.slice A2 m c2] w fun x w'=>x = .returned r/\w'=w1
 grow:∀(g n c i g2 m c2 N G:Nat) (w w1 w2 w3:World) (k1 k2:Value),i < n->0 < m->n<=c->c < n+m->n+m<=16777216->n+m<=G->G<=9223372036854775807 ->
  (∀ty,(Builtin.append_ #[t,tn] ty #[.slice (some ⟨g,0,none⟩) i c,.int .i64 ((n:Int)+(m:Int) - (i:Int))]).run P w = .ok (.slice (some ⟨N,0,none⟩) (n+m) G) w1) ->
  (∀ty dc,(Builtin.copy_ #[t,t] ty #[.slice (some ⟨N,i * P.cellsOf e,none⟩) (n+m - i) dc,.slice (some ⟨g2,0,none⟩) m c2]).run P w1 = .ok k1 w2) ->
  (∀ty dc sc,(Builtin.copy_ #[t,t] ty #[.slice (some ⟨N,(i+m) * P.cellsOf e,none⟩) (n+m - (i+m)) dc,.slice (some ⟨g,i * P.cellsOf e,none⟩) (n - i) sc]).run P w2.drew = .ok k2 w3) ->
  Calls P f #[.slice (some ⟨g,0,none⟩) n c,.int .i64 i,.slice (some ⟨g2,0,none⟩) m c2] w fun x w'=>x = .returned (.slice (some ⟨N,0,none⟩) (n+m) G)/\w'=w3
theorem Kv {f ov:FuncId} {t e tn:TypeId} {kn:IntKind} (W:BH P f ov t e tn kn):eY P fun f' as0 mem=>if f'=f then qc e (P.cellsOf e) as0 mem else none:=by
 intro f' as0 mem r mem' h aR Z w j us s ha
 simp only at h
 by_cases hf:f'=f
 rotate_left
 ·rw [if_neg hf] at h;cases h
 subst hf
 rw [if_pos rfl] at h
 unfold qc at h
 split at h
 rotate_left
 ·cases h
 rename_i id i x2
 split at h
 rotate_left
 ·cases h
 rename_i te els t2 xs hm hm2
 split at h
 rotate_left
 ·cases h
 rename_i hc
 obtain ⟨rfl,rfl,hw,hx0,hi0,hin,hlen⟩:=hc
 cases h
 have hxl:∀x∈xs,x.cells.length=P.cellsOf t2:=fun x hx=>by
  have:=di.1 hw x hx
  simpa using this
 obtain ⟨hl,hv⟩:=ha
 match us,hl,hv with
 | [u,ui,ux],hl,hv =>
 have hu:=hv 0 (.own id) u rfl rfl
 have hui:=hv 1 (.int .i64 i) ui rfl rfl
 have hux:=hv 2 x2 ux rfl rfl
 cases hui
 obtain ⟨h,hh,h1,h2,h3,h4,h5⟩:=s.obj id _ hm
 have hroom:dG P t2 (els.length+xs.length)=true:=by simp [dG,hlen,W.row]
 obtain ⟨_,hby,hpos,inf,z,hinf,his,hib,hz,hzs⟩:=jk hroom
 cases hu with
 | own hju h00 =>
 rename_i A n c szu
 rw [hju] at hh
 cases hh
 simp only at h1 h2
 subst h1
 have h2:0 < P.cellsOf t2:=h2
 have hel2:cy mem x2=some xs:=by
  cases x2<;>simp only [vE] at hm2<;>first | (cases hm2;done) | skip
  ·split at hm2
   ·cases hm2
   ·split at hm2
    ·rename_i hmm;cases hm2;simp only [cy,hmm]
    ·cases hm2
  ·cases hm2;rfl
 obtain ⟨g2,c2,us2,rfl,hg2,hcells2,hgn2⟩:∃g2 c2 us2,ux = .slice (some ⟨g2,0,none⟩) xs.length c2/\w.heap[g2]? = some (.cells us2 t2 (0,0))/\(∀k x,xs[k]? = some x->dY Z w j0 g2 (0+k * P.cellsOf t2) x.cells) /\
   (∀g,cf j id=some g->(∀o,¬Z g o)->g2≠g):=by
  cases x2 with
  | own id2 =>
   simp only [vE] at hm2
   split at hm2
   ·cases hm2
   ·rename_i hne
    split at hm2
    ·rename_i t2' xs' fz2 hmm
     cases hm2
     obtain ⟨hb,hhb,b1,b2,b3,b4,b5⟩:=s.obj id2 _ hmm
     cases hux with
     | own hjx h01 =>
      rw [hjx] at hhb
      cases hhb
      simp only at b1 b2
      subst b1
      rcases b5 with ⟨hv2,he2⟩ | ⟨g2,q2,cc2,us2,hv2,hlc2,hcm2,hg2,hus2,hcells2,hz21,hz22⟩
      ·subst he2;simp at hx0
      ·simp only at hv2
       cases hv2
       have hq2:q2=0:=h01 _ rfl
       subst hq2
       refine ⟨g2,_,us2,rfl,hg2,hcells2,fun g hg _=>?_⟩
       rintro rfl
       exact hne (by rw [s.inj id id2 _ _ g2 hm hmm rfl rfl hg (by simp [bf,O.ar,cf,hjx,bz.blk])];exact Nat.beq_refl _)
    ·cases hm2
  | lit t' l' =>
   simp only [vE] at hm2
   cases hm2
   cases hux with
   | lit hsl hk hz0 =>
    rename_i g2 n2
    have hk:=hk hx0
    have hz0:=hz0 hx0
    simp only [gy] at hk
    split at hk
    ·rename_i us2 tt fr hgg
     cases hk
     rcases hsl.slInv with ⟨A,c,he,_⟩ | ⟨g',b',c',sz',he,_,hsz',hh'⟩
     ·subst he;simp at hx0
     ·simp only [Value.slice.injEq,Option.some.injEq,Addr.mk.injEq,and_true,true_and] at he
      obtain ⟨⟨rfl,rfl⟩,hcc⟩:=he
      have e0:xs[0]? = some xs[0]:=bC hx0
      have es:sz'=P.cellsOf t2:=by rw [<-(hh' 0 _ e0).1,hxl _ (cG e0)]
      subst es
      refine ⟨g2,_,us2,rfl,hgg,fun k x hk=>(hh' k x hk).2.2,fun g hg hno=>?_⟩
      rintro rfl
      exact hno 0 hz0
    ·cases hk
  | _=>simp [vE] at hm2
 ·clear h2
  have hnc:n=els.length/\n<=c/\c<=9223372036854775807/\(A=none->n=0/\c=0)/\(∀a,A=some a->∃g,a=⟨g,0,none⟩):=by
   rcases h5 with ⟨hv1,he1⟩ | ⟨g,q,cc,us1,hv1,hlc,hcm,_⟩
   ·simp only at hv1;cases hv1;subst he1;exact ⟨rfl,bG _,by omega,fun _=>⟨rfl,rfl⟩,(by intro a h;cases h)⟩
   ·simp only at hv1;cases hv1;have hq:q=0:=h00 _ rfl;subst hq;exact ⟨rfl,hlc,by unfold maxLen at hcm;omega,(by intro h;cases h),(by intro a h;cases h;exact ⟨g,rfl⟩)⟩
  obtain ⟨hn,hnc,hc63,hA0,hA1⟩:=hnc
  obtain ⟨ii,rfl⟩:∃ii:Nat,i=(ii:Int):=⟨i.toNat,by omega⟩
  have eii:((ii:Int)).toNat=ii:=by omega
  rw [eii] at hin |-
  by_cases hend:ii=els.length
  ·-- at the end
   have hap:iH P mem t (.own id) x2=some (newRow (mem.set id .dead) t2 (els++xs) 0):=by
    have hel3:lO mem x2=some xs:=by cases x2<;>first | exact hel2 | (cases hel2)
    simp only [iH,ef,W.ht,aJ,hel3,hm,hroom,and_self,if_true]
    have:(xs.all fun y=>y.cells.length==P.cellsOf t2)=true:=hw
    rw [if_pos this]
   obtain ⟨r1,w1,hr,hpost⟩:=BZ (t:=t) (tx:=t) (ty:=t) (u:=.slice A n c) (ux:=.slice (some ⟨g2,0,none⟩) xs.length c2) s (by cases x2<;>first | (simp [kK];done) | (cases hel2)) hap (.own hju h00) hux
   have hr':∀ty,(Builtin.append_ #[t,t] ty #[.slice A n c,.slice (some ⟨g2,0,none⟩) xs.length c2]).run P w = .ok r1 w1:=fun ty=>hr
   have e1:els.take ii++xs++els.drop ii=els++xs:=by rw [hend];simp
   rw [e1]
   have hcall:=W.atEnd A (some ⟨g2,0,none⟩) n c xs.length c2 w w1 r1 hx0 hnc hc63 hA0 hA1 hr'
   have e2:ii=n:=by omega
   subst e2
   exact hcall.mono fun x w' hxw=>by
    obtain ⟨rfl,rfl⟩:=hxw
    exact ⟨r1,rfl,hpost⟩
  ·have aC:ii < els.length:=by omega
   rcases h5 with ⟨hv1,he1⟩ | ⟨g,q,cc,us1,hv1,hlc,hcm,hg,hus,hcells,hz1,hz2⟩
   ·subst he1;simp at aC
   ·simp only at hv1
    cases hv1
    have hq:q=0:=h00 _ rfl
    subst hq
    have hus:c * P.cellsOf t2<=us1.size:=by simpa using hus
    have hZ:∀o,¬Z g o:=fun o ho=>by have:=(hz1 o ho).1;omega
    have hgne:g2≠g:=hgn2 g (by simp [cf,hju,bz.blk]) hZ
    obtain ⟨news,hnl,hnc',hnr⟩:=uJ hpos hxl hcells2
    obtain ⟨olds,hol,hoc,hor⟩:=uJ hpos h4 hcells
    have hn1:∀v∈news,v.oneCell'=true:=fun v hv=>by
     obtain ⟨k,hk,rfl⟩:=jR hv
     exact (hnc' k _ (bC hk)).2
    have ho1:∀v∈olds.drop (ii * P.cellsOf t2),v.oneCell'=true:=fun v hv=>by
     obtain ⟨k,hk,rfl⟩:=jR (kD hv)
     exact (hoc k _ (bC hk)).2
    have hdl:(olds.drop (ii * P.cellsOf t2)).length=(els.length - ii) * P.cellsOf t2:=by
     rw [gg,hol,<-n7]
    have hget:∀k u,(olds.drop (ii * P.cellsOf t2))[k]? = some u->w.cell? ((⟨g,ii * P.cellsOf t2,none⟩:Addr).add k)=some u:=fun k u hk=>by
     rw [gf] at hk
     have:=(hoc _ u hk).1
     rw [Addr.add_lit] at this |-
     rw [<-this]
     congr 2
     omega
    have hmul1:ii * P.cellsOf t2<=els.length * P.cellsOf t2:=cO _ hin
    have hM:(els.length+xs.length) * P.cellsOf t2=els.length * P.cellsOf t2+xs.length * P.cellsOf t2:=ij _ _ _
    have hIM:(ii+xs.length) * P.cellsOf t2=ii * P.cellsOf t2+xs.length * P.cellsOf t2:=ij _ _ _
    have hDD:(els.length - ii) * P.cellsOf t2=els.length * P.cellsOf t2 - ii * P.cellsOf t2:=n7 _ _ _
    have hall:∀x∈els.take ii++xs++els.drop ii,x.cells.length=P.cellsOf t2:=fun x hx=>by
     simp only [bp] at hx
     rcases hx with (hx | hx) | hx
     ·exact h4 x (mE hx)
     ·exact hxl x hx
     ·exact h4 x (kD hx)
    have hlen':(els.take ii++xs++els.drop ii).length=els.length+xs.length:=by simp;omega
    have key:∀(F:Array Value) (D:Array Value),(∀o,o < ii * P.cellsOf t2->F[o]? = olds[o]?)->(∀o,o < xs.length * P.cellsOf t2->F[ii * P.cellsOf t2+o]? = news[o]?)->(∀o,o < (els.length - ii) * P.cellsOf t2->F[(ii+xs.length) * P.cellsOf t2+o]? = olds[ii * P.cellsOf t2+o]?) ->
      ∀(k:Nat) (x:V) (q:Nat) (y:V),(els.take ii++xs++els.drop ii)[k]? = some x->x.cells[q]? = some y->y.one=true/\∃u,F[k * P.cellsOf t2+q]? = some u/\VR Z w j0 y u:=by
     intro F _ f1 f2 f3 k x q y hk hy
     have hq:q < P.cellsOf t2:=by rw [<-hall x (cG hk)];exact (bj.1 hy).1
     by_cases k1:k < ii
     ·rw [bu,db (by simp;omega),gI,if_pos k1] at hk
      obtain ⟨a,u',hu',hvr⟩:=hor k x q y hk hy
      refine ⟨a,u',?_,hvr⟩
      rw [f1 _ ?_]
      ·exact hu'
      ·have:(k+1) * P.cellsOf t2<=ii * P.cellsOf t2:=cO _ k1
       rw [jX] at this
       omega
     ·by_cases k2:k < ii+xs.length
      ·rw [bu,cY (by simp;omega),db (by simp;omega)] at hk
       have e3:k - (els.take ii).length=k - ii:=by simp;omega
       rw [e3] at hk
       obtain ⟨a,u',hu',hvr⟩:=hnr _ x q y hk hy
       refine ⟨a,u',?_,hvr⟩
       have e4:k * P.cellsOf t2+q=ii * P.cellsOf t2+((k - ii) * P.cellsOf t2+q):=by
        have:k * P.cellsOf t2=ii * P.cellsOf t2+(k - ii) * P.cellsOf t2:=by rw [<-ij];congr 1;omega
        omega
       rw [e4,f2 _ ?_]
       ·exact hu'
       ·have:(k - ii+1) * P.cellsOf t2<=xs.length * P.cellsOf t2:=cO _ (by omega)
        rw [jX] at this
        omega
      ·rw [cY (by simp;omega)] at hk
       have e3:k - (els.take ii++xs).length=k - ii - xs.length:=by simp;omega
       rw [e3,gf] at hk
       have hkl:=(bj.1 hk).1
       obtain ⟨a,u',hu',hvr⟩:=hor _ x q y hk hy
       refine ⟨a,u',?_,hvr⟩
       have e4:k * P.cellsOf t2+q=(ii+xs.length) * P.cellsOf t2+((k - ii - xs.length) * P.cellsOf t2+q):=by
        have:k * P.cellsOf t2=(ii+xs.length) * P.cellsOf t2+(k - ii - xs.length) * P.cellsOf t2:=by rw [<-ij];congr 1;omega
        omega
       rw [e4,f3 _ ?_]
       ·rw [<-hu']
        congr 1
        have:(ii+(k - ii - xs.length)) * P.cellsOf t2=ii * P.cellsOf t2+(k - ii - xs.length) * P.cellsOf t2:=ij _ _ _
        omega
       ·have:(k - ii - xs.length+1) * P.cellsOf t2<=(els.length - ii) * P.cellsOf t2:=cO _ (by omega)
        rw [jX] at this
        omega
    have hold:∀o,o < els.length * P.cellsOf t2->us1[o]? = olds[o]?:=fun o ho=>by
     have hlt':o < olds.length:=by omega
     have hc0:=(hoc o _ (bC hlt')).1
     rw [Addr.add_lit,eG hg] at hc0
     rw [bC hlt',<-hc0]
     congr 1
     simp
    by_cases hfit:els.length+xs.length<=c
    ·-- in place
     have hfitm:(els.length+xs.length) * P.cellsOf t2<=c * P.cellsOf t2:=cO _ hfit
     have p1:(ii+xs.length) * P.cellsOf t2+(olds.drop (ii * P.cellsOf t2)).length<=us1.size:=by rw [hdl];omega
     have hcp1:∀ty dc sc,(Builtin.copy_ #[t,t] ty #[.slice (some ⟨g,(ii+xs.length) * P.cellsOf t2,none⟩) (els.length+xs.length - (ii+xs.length)) dc,.slice (some ⟨g,ii * P.cellsOf t2,none⟩) (els.length+xs.length - ii) sc]).run P w.drew =
       .ok (goInt (els.length - ii:Nat)) (w.drew.setRow g (gE us1 ((ii+xs.length) * P.cellsOf t2) (olds.drop (ii * P.cellsOf t2)))):=fun ty dc sc=>by
      have hmin:Nat.min (els.length+xs.length - ii) (els.length+xs.length - (ii+xs.length))=els.length - ii:=by simp only [Nat.min_def];split<;>omega
      have:=AS (P:=P) w.drew t t ty t2 inf g ((ii+xs.length) * P.cellsOf t2) (els.length+xs.length - (ii+xs.length)) dc ⟨g,ii * P.cellsOf t2,none⟩ (els.length+xs.length - ii) sc us1 t2 (olds.drop (ii * P.cellsOf t2)) W.ht hinf hg (by rw [hmin,hdl,his]) hget p1 ho1
      rw [hmin] at this
      exact this
     obtain ⟨F1,hF1⟩:∃F1,F1=gE us1 ((ii+xs.length) * P.cellsOf t2) (olds.drop (ii * P.cellsOf t2)):=⟨_,rfl⟩
     have sF1:F1.size=us1.size:=by rw [hF1];exact vD p1
     rw [<-hF1] at hcp1
     have hgF:(w.drew.setRow g F1).heap[g]? = some (.cells F1 t2 (0,0)):=setRow_heap w.drew g us1 F1 t2 (0,0) hg
     have p2:ii * P.cellsOf t2+news.length<=F1.size:=by rw [sF1,hnl];omega
     have hcp2:∀ty dc,(Builtin.copy_ #[t,t] ty #[.slice (some ⟨g,ii * P.cellsOf t2,none⟩) (els.length+xs.length - ii) dc,.slice (some ⟨g2,0,none⟩) xs.length c2]).run P (w.drew.setRow g F1) =
       .ok (goInt xs.length) ((w.drew.setRow g F1).setRow g (gE F1 (ii * P.cellsOf t2) news)):=fun ty dc=>by
      have hmin:Nat.min xs.length (els.length+xs.length - ii)=xs.length:=by simp only [Nat.min_def];split<;>omega
      have:=AS (P:=P) (w.drew.setRow g F1) t t ty t2 inf g (ii * P.cellsOf t2) (els.length+xs.length - ii) dc ⟨g2,0,none⟩ xs.length c2 F1 t2 news W.ht hinf hgF (by rw [hmin,hnl,his]) (fun k u hk=>by
       have:=(hnc' k u hk).1
       rw [Addr.add_lit] at this |-
       rw [<-this]
       exact World.cell?_of_block (a:=⟨g2,0+k,none⟩) (setRow_other w.drew g g2 F1 hgne)) p2 hn1
      rw [hmin] at this
      exact this
     have hcall:=W.shift g els.length c ii g2 xs.length c2 w _ _ _ _ aC hx0 hfit hc63 (fun lb cb o=>W.ovr w g g2 o xs.length c2 lb cb us1 us2 hgne hg hg2 (n6 (n6 (Nat.mul_pos (by omega) hpos) hfitm) hus)) hcp1 hcp2
     refine hcall.mono fun x w' hxw=>?_
     obtain ⟨rfl,rfl⟩:=hxw
     refine ⟨_,rfl,?_⟩
     rw [setRow_setRow]
     have hk0:=key (gE F1 (ii * P.cellsOf t2) news) #[] (fun o ho=>by
        rw [jN p2,if_pos ho,hF1,jN p1,if_pos (by omega)]
        exact hold o (by omega))
       (fun o ho=>by
        rw [jN p2,if_neg (by omega),if_pos (by rw [hnl];omega)]
        congr 1
        omega)
       (fun o ho=>by
        rw [jN p2,if_neg (by omega),if_neg (by rw [hnl];omega),hF1,jN p1,if_neg (by omega),if_pos (by rw [hdl];omega),gf]
        congr 1
        omega)
     have hp:=MA (els':=els.take ii++xs++els.drop ii) s hm hju hg hZ (w1:=w.drew.setRow g (gE F1 (ii * P.cellsOf t2) news)) (setRow_heap w.drew g us1 _ t2 (0,0) hg) (fun k hk=>setRow_other w.drew g k _ hk) rfl rfl rfl
      (by show (w.heap.modify g _).size=w.heap.size;simp) hpos hall (by rw [hlen'];exact hfit) hcm (by rw [vD p2,sF1,dZ];exact hus)
      (fun k x i y hk hy=>by rw [dZ];exact hk0 k x i y hk hy)
     rw [hlen'] at hp
     exact hp.own (fun a ha=>by cases ha;rfl)
    ·-- a new block
     have hgrow:c < els.length+xs.length:=by omega
     have hbytes:(els.length+xs.length) * inf.bytes<=140737488355328:=by
      rw [hib]
      exact lD (yy hlen hby) (by decide)
     obtain ⟨G,hG⟩:∃G,G=grownCap w (els.length+xs.length) c t2:=⟨_,rfl⟩
     have hGn:els.length+xs.length<=G:=by rw [hG];exact grownCap_ge w _ _ _
     have hGm:G<=maxLen:=by rw [hG];exact grownCap_le_maxLen w _ c t2 (by simp only [maxLen];omega)
     have htk:(olds.take (ii * P.cellsOf t2)).length=ii * P.cellsOf t2:=by rw [gq,hol];omega
     have hfc:(Builtin.firstCells inf.size ii (.slice (some ⟨g,0,none⟩) ii c)).run P w.drew = .ok (olds.take (ii * P.cellsOf t2)).toArray w.drew :=
      run_firstCells_some w.drew inf.size ii ⟨g,0,none⟩ ii c _ (by rw [htk,his]) (fun k v hk=>by
       rw [gI] at hk
       split at hk
       ·exact (hoc k v hk).1
       ·cases hk)
     have hik:ii+(els.length+xs.length - ii)=els.length+xs.length:=by omega
     obtain ⟨ROW,hROW⟩:∃ROW:Array Value,ROW=(olds.take (ii * P.cellsOf t2)).toArray++Builtin.zeroCells z.cells (els.length+xs.length - ii)++Builtin.zeroCells z.cells (G - (els.length+xs.length)):=⟨_,rfl⟩
     have hRs:ROW.size=G * P.cellsOf t2:=by
      rw [hROW]
      simp only [yf,tO,size_zeroCells,htk,hzs,<-ij]
      congr 1
      omega
     have hRl:(els.length+xs.length) * P.cellsOf t2<=ROW.size:=by rw [hRs];exact cO _ hGn
     have hrz:∀ty,(Builtin.append_ #[t,tn] ty #[.slice (some ⟨g,0,none⟩) ii c,.int .i64 ((els.length:Int)+(xs.length:Int) - (ii:Int))]).run P w =
       .ok (.slice (some ⟨w.heap.size,0,none⟩) (els.length+xs.length) G) (w.drew.alloc (.cells ROW t2)):=fun ty=>by
      have hh:=Lib.run_append_grow_zeros w t tn ty t2 inf z .i64 kn W.ht W.htn hinf hz (some ⟨g,0,none⟩) ii c _ hfc (els.length+xs.length - ii) (by omega) (by rw [his];exact hpos) (by omega) (by omega) (by
       have h7:(els.length+xs.length - ii) * inf.bytes<=(els.length+xs.length) * inf.bytes:=cO _ (by omega)
       omega) (by rw [hik];exact growslice_fits hgrow hbytes)
      rw [hik] at hh
      rw [show (els.length:Int)+(xs.length:Int) - (ii:Int)=((els.length+xs.length - ii:Nat):Int) by omega,hh,hROW,hG]
     have hgW:(w.drew.alloc (.cells ROW t2)).heap[w.heap.size]? = some (.cells ROW t2 (0,0)):=heap_alloc_new w.drew _
     have hgl:g < w.heap.size:=(eX.1 hg).1
     have hgl2:g2 < w.heap.size:=(eX.1 hg2).1
     have hoth:∀k,k < w.heap.size->(w.drew.alloc (.cells ROW t2)).heap[k]? = w.heap[k]?:=fun k hk=>by
      show (w.heap.push _)[k]? = _
      rw [Array.getElem?_push_lt hk,eW hk]
     have p2:ii * P.cellsOf t2+news.length<=ROW.size:=by rw [hnl];omega
     have hcpA:∀ty dc,(Builtin.copy_ #[t,t] ty #[.slice (some ⟨w.heap.size,ii * P.cellsOf t2,none⟩) (els.length+xs.length - ii) dc,.slice (some ⟨g2,0,none⟩) xs.length c2]).run P (w.drew.alloc (.cells ROW t2)) =
       .ok (goInt xs.length) ((w.drew.alloc (.cells ROW t2)).setRow w.heap.size (gE ROW (ii * P.cellsOf t2) news)):=fun ty dc=>by
      have hmin:Nat.min xs.length (els.length+xs.length - ii)=xs.length:=by simp only [Nat.min_def];split<;>omega
      have:=AS (P:=P) (w.drew.alloc (.cells ROW t2)) t t ty t2 inf w.heap.size (ii * P.cellsOf t2) (els.length+xs.length - ii) dc ⟨g2,0,none⟩ xs.length c2 ROW t2 news W.ht hinf hgW (by rw [hmin,hnl,his]) (fun k u hk=>by
       have:=(hnc' k u hk).1
       rw [Addr.add_lit] at this |-
       rw [<-this]
       exact World.cell?_of_block (a:=⟨g2,0+k,none⟩) (hoth g2 hgl2)) p2 hn1
      rw [hmin] at this
      exact this
     obtain ⟨F1,hF1⟩:∃F1,F1=gE ROW (ii * P.cellsOf t2) news:=⟨_,rfl⟩
     have sF1:F1.size=ROW.size:=by rw [hF1];exact vD p2
     rw [<-hF1] at hcpA
     have hgF:((w.drew.alloc (.cells ROW t2)).setRow w.heap.size F1).drew.heap[w.heap.size]? = some (.cells F1 t2 (0,0)):=setRow_heap _ w.heap.size ROW F1 t2 (0,0) hgW
     have p1:(ii+xs.length) * P.cellsOf t2+(olds.drop (ii * P.cellsOf t2)).length<=F1.size:=by rw [hdl,sF1];omega
     have hcpB:∀ty dc sc,(Builtin.copy_ #[t,t] ty #[.slice (some ⟨w.heap.size,(ii+xs.length) * P.cellsOf t2,none⟩) (els.length+xs.length - (ii+xs.length)) dc,.slice (some ⟨g,ii * P.cellsOf t2,none⟩) (els.length - ii) sc]).run P ((w.drew.alloc (.cells ROW t2)).setRow w.heap.size F1).drew =
       .ok (goInt (els.length - ii:Nat)) (((w.drew.alloc (.cells ROW t2)).setRow w.heap.size F1).drew.setRow w.heap.size (gE F1 ((ii+xs.length) * P.cellsOf t2) (olds.drop (ii * P.cellsOf t2)))):=fun ty dc sc=>by
      have hmin:Nat.min (els.length - ii) (els.length+xs.length - (ii+xs.length))=els.length - ii:=by simp only [Nat.min_def];split<;>omega
      have:=AS (P:=P) ((w.drew.alloc (.cells ROW t2)).setRow w.heap.size F1).drew t t ty t2 inf w.heap.size ((ii+xs.length) * P.cellsOf t2) (els.length+xs.length - (ii+xs.length)) dc ⟨g,ii * P.cellsOf t2,none⟩ (els.length - ii) sc F1 t2 (olds.drop (ii * P.cellsOf t2)) W.ht hinf hgF (by rw [hmin,hdl,his]) (fun k u hk=>by
       have:=hget k u hk
       rw [Addr.add_lit] at this |-
       rw [<-this]
       refine World.cell?_of_block (a:=⟨g,ii * P.cellsOf t2+k,none⟩) ?_
       exact (setRow_other (w.drew.alloc (.cells ROW t2)) w.heap.size g F1 (by omega)).trans (hoth g hgl)) p1 ho1
      rw [hmin] at this
      exact this
     have hcall:=W.grow g els.length c ii g2 xs.length c2 w.heap.size G w _ _ _ _ _ aC hx0 hnc hgrow hlen hGn (by unfold maxLen at hGm;omega) hrz hcpA hcpB
     refine hcall.mono fun x w' hxw=>?_
     obtain ⟨rfl,rfl⟩:=hxw
     refine ⟨_,rfl,?_⟩
     have hheap:(((w.drew.alloc (.cells ROW t2)).setRow w.heap.size F1).drew.setRow w.heap.size (gE F1 ((ii+xs.length) * P.cellsOf t2) (olds.drop (ii * P.cellsOf t2)))).heap=w.heap.push (.cells (gE F1 ((ii+xs.length) * P.cellsOf t2) (olds.drop (ii * P.cellsOf t2))) t2):=by
      show (((w.drew.alloc (.cells ROW t2)).setRow w.heap.size F1).setRow w.heap.size _).heap=_
      rw [setRow_setRow]
      exact YG w.drew ROW _ t2
     have hp:=xH (fz:=0) (els:=els.take ii++xs++els.drop ii) (c:=G) (s.kill hm) hheap rfl rfl rfl hpos hall (iE _) (by rw [hlen'];exact hGn) hGm (by rw [vD p1,sF1,hRs])
      (key _ #[] (fun o ho=>by
        rw [jN p1,if_pos (by omega),hF1,jN p2,if_pos ho,hROW,Array.append_assoc,GZ (by simpa [htk] using ho)]
        simp only [ym,gI,if_pos ho])
       (fun o ho=>by
        rw [jN p1,if_pos (by omega),hF1,jN p2,if_neg (by omega),if_pos (by rw [hnl];omega)]
        congr 1
        omega)
       (fun o ho=>by
        rw [jN p1,if_neg (by omega),if_pos (by rw [hdl];omega),gf]
        congr 1
        omega))
     rw [hlen'] at hp
     exact hp.stp (aI.kill hm)
theorem YH {w:World} {g:Nat} {us:Array Value} {t:TypeId} {fr:Nat × Nat} (hg:w.heap[g]? = some (.cells us t fr)):w.setRow g us=w:=by
 have hh:(w.setRow g us).heap=w.heap:=by
  apply Array.ext_getElem?
  intro k
  by_cases hk:k=g
  ·subst hk;rw [setRow_heap w k us us t fr hg,hg]
  ·exact setRow_other w g k us hk
 cases w
 unfold World.setRow at hh |-
 grind
def rK (e:TypeId) (mem:List O) (id:Nat) (i j:Int):Option (List O) :=
 match mem[id]? with
 | some (.row t els 0) =>
  if t=e/\0<=i/\i<=j/\j.toNat<=els.length/\els.length<=16777216 then
   some (newRow (mem.set id .dead) e (els.take i.toNat++els.drop j.toNat) 0).2
  else none
 | _=>none
def oq (e:TypeId):List V->List O->Option (V × List O)
 | [.own id,.int .i64 i,.int .i64 j],mem=>(rK e mem id i j).map fun m=>(.own mem.length,m)
 | [.tail id 0,.int .i64 i,.int .i64 j],mem=>(rK e mem id i j).map fun m=>(.tail mem.length 0,m)
 | _,_=>none
theorem Bj {ops:Array Oper} {o:Oper} {a:Act} {w:World} {K:Act->World->Prop} {Q:Exit->Act->World->Prop} {E:Prop}
  (hg:o.guard=none) (d x:Operand) (dT sT:TypeId) (hop:o.op=Op.call { callee:=Callee.builtin Builtin.append,args:=#[d,x],argTypes:=#[dT,sT] })
  (v u:Value) (hd:a.eval d=v) (hx:a.eval x=u) {v':Value} {w':World} (hr:(Builtin.append_ #[dT,sT] o.type #[v,u]).run P w = .ok v' w') (hK:K (a.put o.dst v') w') :
  if Region.wanted o (yielded ops a.tmps)=true then Oper.wp P o a w K Q else E:=by
 have hw:Region.wanted o (yielded ops a.tmps)=true:=by simp [Region.wanted,hg]
 rw [if_pos hw]
 unfold Oper.wp
 simp [execOp,hop,resolve,invoke,builtin,hd,hx,hr,Result.andThen]
 exact hK
structure BF (P:Program) (f:FuncId) (t e:TypeId):Prop where
 ht:P.underlying t=some (.slice e)
 row:nK P e=true
 z1:∀i z,P.info? e=some i->i.zero=some z->∀v∈z.cells.toList,v.oneCell'=true
 same:∀(A:Option Addr) (n c i:Nat) (w:World),i<=n->n<=c->c<=9223372036854775807->(A=none->n=0/\c=0)->(∀a,A=some a->∃g q,a=⟨g,q,none⟩) ->
  Calls P f #[.slice A n c,.int .i64 i,.int .i64 i] w fun x w'=>x = .returned (.slice A n c)/\w'=w
 cut:∀(g q n c i jj:Nat) (w w2 w3:World) (k:Value),i < jj->jj<=n->n<=c->c<=9223372036854775807 ->
  (∀ty A cp,(jj < n->A=some ⟨g,q+jj * P.cellsOf e,none⟩)->(Builtin.append_ #[t,t] ty #[.slice (some ⟨g,q,none⟩) i c,.slice A (n - jj) cp]).run P w.drew = .ok (.slice (some ⟨g,q,none⟩) (i+(n - jj)) c) w2) ->
  (∀ty cp,(Builtin.clear_ #[t] ty #[.slice (some ⟨g,q+(i+(n - jj)) * P.cellsOf e,none⟩) (n - (i+(n - jj))) cp]).run P w2 = .ok k w3) ->
  Calls P f #[.slice (some ⟨g,q,none⟩) n c,.int .i64 i,.int .i64 jj] w fun x w'=>x = .returned (.slice (some ⟨g,q,none⟩) (i+(n - jj)) c)/\w'=w3
theorem Ya (w:World) (t ty elem:TypeId) (i:TypeInfo) (z:Value) (g o n cp:Nat) (cur:Array Value) (et:TypeId) (hu:P.underlying t=some (.slice elem)) (hi:P.info? elem=some i) (hz:i.zero=some z)
  (hg:w.heap[g]? = some (.cells cur et (0,0))) (h0:0 < n) (hfit:o+n * z.cells.size<=cur.size) (h1:∀v∈z.cells.toList,v.oneCell'=true) :
  (Builtin.clear_ #[t] ty #[.slice (some ⟨g,o,none⟩) n cp]).run P w = .ok (.tuple #[]) (w.setRow g (gE cur o (Builtin.zeroCells z.cells n).toList)):=by
 have hsz:(Builtin.zeroCells z.cells n).toList.length=n * z.cells.size:=by simp [size_zeroCells]
 have hone:∀v∈(Builtin.zeroCells z.cells n).toList,v.oneCell'=true:=fun v hv=>by
  have:v∈z.cells.toList:=by
   simp only [Builtin.zeroCells,Array.toList_map,dP,Array.mem_toList_iff,Array.mem_range] at hv
   obtain ⟨q,hq,rfl⟩:=hv
   have hpos:0 < z.cells.size:=by
    grind
   have aC:q % z.cells.size < z.cells.size:=Nat.mod_lt _ hpos
   grind
  grind
 have hst:=run_storeCells_at P g o et (Builtin.zeroCells z.cells n).toList 0 cur w hg (by grind) hone
 simp only [dK] at hst
 obtain ⟨m,rfl⟩:∃m,n=m+1:=⟨n - 1,by omega⟩
 simp [Builtin.clear_,run_underlying hu,zeroValue,typeInfo,hi,hz,hst,gE]
theorem Iz {f:FuncId} {t e:TypeId} (W:BF P f t e):eY P fun f' as0 mem=>if f'=f then oq e as0 mem else none:=by
 intro f' as0 mem r mem' h aR Z w j us s ha
 simp only at h
 by_cases hf:f'=f
 rotate_left
 ·grind
 subst hf
 rw [if_pos rfl] at h
 have main:∀(id:Nat) (i jv:Int) (m:List O),rK e mem id i jv=some m->∀(A:Option Addr) (n c szu:Nat),j id=some ⟨.slice A n c,szu⟩ ->
   Calls P f' #[.slice A n c,.int .i64 i,.int .i64 jv] w fun x w'=>∃A' n' c',x = .returned (.slice A' n' c')/\jZ P Z w j mem (mem.set id .dead).length m (.slice A' n' c') w'/\((∀a,A=some a->a.off=0)->∀a,A'=some a->a.off=0):=by
  clear h ha
  intro id i jv m h A n c szu hju
  unfold rK at h
  split at h
  rotate_left
  ·cases h
  rename_i te els hm
  split at h
  rotate_left
  ·cases h
  rename_i hc
  obtain ⟨rfl,hi0,hij,hjn,hlen⟩:=hc
  cases h
  obtain ⟨h,hh,h1,h2,h3,h4,h5⟩:=s.obj id _ hm
  have hroom:dG P te els.length=true:=by simp [dG,hlen,W.row]
  obtain ⟨_,hby,hpos,inf,z,hinf,his,hib,hz,hzs⟩:=jk hroom
  rw [hju] at hh
  cases hh
  simp only at h1 h2
  subst h1
  obtain ⟨ii,rfl⟩:∃ii:Nat,i=(ii:Int):=⟨i.toNat,by omega⟩
  obtain ⟨jj,rfl⟩:∃jj:Nat,jv=(jj:Int):=⟨jv.toNat,by omega⟩
  have eii:((ii:Int)).toNat=ii:=by omega
  have ejj:((jj:Int)).toNat=jj:=by omega
  rw [ejj] at hjn
  rw [eii,ejj]
  have hijn:ii<=jj:=by omega
  have hnc:n=els.length/\n<=c/\c<=9223372036854775807/\(A=none->n=0/\c=0)/\(∀a,A=some a->∃g q,a=⟨g,q,none⟩):=by
   rcases h5 with ⟨hv1,he1⟩ | ⟨g,q,cc,us1,hv1,hlc,hcm,_⟩
   ·grind
   ·simp only at hv1;cases hv1;exact ⟨rfl,hlc,by unfold maxLen at hcm;omega,(by grind),(by grind)⟩
  obtain ⟨hn,hnc,hc63,hA0,hA1⟩:=hnc
  have aC:id < mem.length:=(bj.1 hm).1
  have hblk:∀g,bz.blk ⟨.slice A n c,P.cellsOf te⟩=some g->¬bd Z j (mem.set id .dead) g/\bd Z j mem g:=by
   intro g hg
   refine ⟨?_,⟨id,_,hm,rfl,by simp [bf,O.ar,cf,hju,hg]⟩⟩
   rintro ⟨k,x,hx,hl,hb⟩
   by_cases e':id=k
   ·subst e'
    rw [fj aC] at hx
    cases hx
    cases hl
   ·rw [fE e'] at hx
    exact e' (s.inj id k _ x g hm hx rfl hl (by simp [bf,O.ar,cf,hju,hg]) hb)
  by_cases heq:ii=jj
  ·subst heq
   have e1:els.take ii++els.drop ii=els:=ig _ _
   rw [e1]
   refine (W.same A n c ii w (by omega) hnc hc63 hA0 hA1).mono fun x w' hxw=>?_
   obtain ⟨rfl,rfl⟩:=hxw
   have hlm:(mem.set id O.dead).length=mem.length:=by simp
   exact ⟨A,n,c,rfl,hlm ▸ Mz (s.kill hm) (aI.kill hm) ⟨rfl,h2,h3,h4,h5⟩ hblk,fun h=>h⟩
  ·have hltj:ii < jj:=by omega
   rcases h5 with ⟨hv1,he1⟩ | ⟨g,q,cc,us1,hv1,hlc,hcm,hg,hus,hcells,hz1,hz2⟩
   ·grind
   ·simp only at hv1
    cases hv1
    have hus:q+c * P.cellsOf te<=us1.size:=hus
    have hZ:∀o,¬Z g o:=fun o ho=>by grind
    obtain ⟨olds,hol,hoc,hor⟩:=uJ hpos h4 hcells
    have ho1:∀v∈olds.drop (jj * P.cellsOf te),v.oneCell'=true:=fun v hv=>by
     obtain ⟨k,hk,rfl⟩:=jR (kD hv)
     exact (hoc k _ (bC hk)).2
    have hdl:(olds.drop (jj * P.cellsOf te)).length=(els.length - jj) * P.cellsOf te:=by
     rw [gg,hol,<-n7]
    have hDD:(els.length - jj) * P.cellsOf te=els.length * P.cellsOf te - jj * P.cellsOf te:=n7 _ _ _
    have hmul1:ii * P.cellsOf te<=jj * P.cellsOf te:=cO _ hijn
    have hmul2:jj * P.cellsOf te<=els.length * P.cellsOf te:=cO _ hjn
    have hmul3:els.length * P.cellsOf te<=c * P.cellsOf te:=cO _ hlc
    have hIM:(ii+(els.length - jj)) * P.cellsOf te=ii * P.cellsOf te+(els.length - jj) * P.cellsOf te:=ij _ _ _
    have hRM:(els.length - (ii+(els.length - jj))) * P.cellsOf te=els.length * P.cellsOf te - (ii+(els.length - jj)) * P.cellsOf te:=n7 _ _ _
    have p1:q+ii * P.cellsOf te+(olds.drop (jj * P.cellsOf te)).length<=us1.size:=by grind
    obtain ⟨F1,hF1⟩:∃F1,F1=gE us1 (q+ii * P.cellsOf te) (olds.drop (jj * P.cellsOf te)):=⟨_,rfl⟩
    have sF1:F1.size=us1.size:=by rw [hF1];exact vD p1
    have hap:∀ty A cp,(jj < els.length->A=some ⟨g,q+jj * P.cellsOf te,none⟩)->(Builtin.append_ #[t,t] ty #[.slice (some ⟨g,q,none⟩) ii c,.slice A (els.length - jj) cp]).run P w.drew = .ok (.slice (some ⟨g,q,none⟩) (ii+(els.length - jj)) c) (w.drew.setRow g F1):=fun ty A cp hA=>by
     by_cases hz0:jj < els.length
     ·rw [hA hz0]
      have:=X8 (P:=P) w.drew t ty te inf W.ht hinf g q ii c us1 hg ⟨g,q+jj * P.cellsOf te,none⟩ (els.length - jj) cp (olds.drop (jj * P.cellsOf te)) (by grind) (fun k u hk=>by
       rw [gf] at hk
       have:=(hoc _ u hk).1
       rw [Addr.add_lit] at this |-
       rw [<-this]
       show w.cell? _=_
       grind) ho1 (by omega) (by grind)
      rw [his] at this
      rw [hF1]
      exact this
     ·have e0:els.length - jj=0:=by omega
      have e1:olds.drop (jj * P.cellsOf te)=[]:=by
       grind
      have eF:F1=us1:=by
       rw [hF1,e1]
       simp [gE]
      rw [e0,eF,dK]
      have hset:w.drew.setRow g us1=w.drew:=YH (w:=w.drew) hg
      rw [hset]
      exact X9 W.ht hpos (by omega)
    have hgF:(w.drew.setRow g F1).heap[g]? = some (.cells F1 te (0,0)):=setRow_heap w.drew g us1 F1 te (0,0) hg
    have p2:q+(ii+(els.length - jj)) * P.cellsOf te+(els.length - (ii+(els.length - jj))) * z.cells.size<=F1.size:=by grind
    have hclr:∀ty cp,(Builtin.clear_ #[t] ty #[.slice (some ⟨g,q+(ii+(els.length - jj)) * P.cellsOf te,none⟩) (els.length - (ii+(els.length - jj))) cp]).run P (w.drew.setRow g F1) =
      .ok (.tuple #[]) ((w.drew.setRow g F1).setRow g (gE F1 (q+(ii+(els.length - jj)) * P.cellsOf te) (Builtin.zeroCells z.cells (els.length - (ii+(els.length - jj)))).toList)):=fun ty cp =>
     Ya (w.drew.setRow g F1) t ty te inf z g _ _ cp F1 te W.ht hinf hz hgF (by omega) p2 (W.z1 inf z hinf hz)
    refine (W.cut g q els.length c ii jj w _ _ _ hltj hjn hlc hc63 hap hclr).mono fun x w' hxw=>?_
    obtain ⟨rfl,rfl⟩:=hxw
    refine ⟨_,_,_,rfl,?_,fun h=>h⟩
    rw [setRow_setRow]
    have hall:∀x∈els.take ii++els.drop jj,x.cells.length=P.cellsOf te:=fun x hx=>by
     grind
    have hlen':(els.take ii++els.drop jj).length=ii+(els.length - jj):=by grind
    have zl:(Builtin.zeroCells z.cells (els.length - (ii+(els.length - jj)))).toList.length=(els.length - (ii+(els.length - jj))) * z.cells.size:=by simp [size_zeroCells]
    have hold:∀o,o < els.length * P.cellsOf te->us1[q+o]? = olds[o]?:=fun o ho=>by
     have hlt':o < olds.length:=by omega
     have hc0:=(hoc o _ (bC hlt')).1
     rw [Addr.add_lit,eG hg] at hc0
     grind
    have hp:=MA (els':=els.take ii++els.drop jj) s hm hju hg hZ (w1:=w.drew.setRow g (gE F1 (q+(ii+(els.length - jj)) * P.cellsOf te) (Builtin.zeroCells z.cells (els.length - (ii+(els.length - jj)))).toList)) (setRow_heap w.drew g us1 _ te (0,0) hg) (fun k hk=>setRow_other w.drew g k _ hk) rfl rfl rfl
     (by simp_all) hpos hall (by grind) hcm (by rw [vD (by grind),sF1];grind)
     (fun k x qq y hk hy=>by
      have hq:qq < P.cellsOf te:=by grind
      have hkl:k < ii+(els.length - jj):=by grind
      have hkm:(k+1) * P.cellsOf te<=(ii+(els.length - jj)) * P.cellsOf te:=cO _ hkl
      rw [jX] at hkm
      by_cases k1:k < ii
      ·rw [db (by grind),gI,if_pos k1] at hk
       obtain ⟨a,u',hu',hvr⟩:=hor k x qq y hk hy
       refine ⟨a,u',?_,hvr⟩
       have hkm2:(k+1) * P.cellsOf te<=ii * P.cellsOf te:=cO _ k1
       rw [jX] at hkm2
       rw [jN (by grind),if_pos (by omega),hF1,jN p1,if_pos (by omega)]
       grind
      ·rw [cY (by grind)] at hk
       have e3:k - (els.take ii).length=k - ii:=by grind
       rw [e3,gf] at hk
       obtain ⟨a,u',hu',hvr⟩:=hor _ x qq y hk hy
       refine ⟨a,u',?_,hvr⟩
       have e4:k * P.cellsOf te=ii * P.cellsOf te+(k - ii) * P.cellsOf te:=by rw [<-ij];grind
       have e5:(jj+(k - ii)) * P.cellsOf te=jj * P.cellsOf te+(k - ii) * P.cellsOf te:=ij _ _ _
       rw [jN (by grind),if_pos (by omega),hF1,jN p1,if_neg (by omega),if_pos (by grind),gf,<-hu']
       congr 1
       omega)
    grind
 unfold oq at h
 split at h
 ·rename_i id i jv
  simp only [omi] at h
  obtain ⟨m,hm,h⟩:=h
  cases h
  obtain ⟨hl,hv⟩:=ha
  match us,hl,hv with
  | [u,ui,uj],hl,hv =>
  have hu:=hv 0 (.own id) u rfl rfl
  have hui:=hv 1 (.int .i64 i) ui rfl rfl
  have huj:=hv 2 (.int .i64 jv) uj rfl rfl
  cases hui
  cases huj
  cases hu with
  | own hju h00 =>
  refine (main _ _ _ _ hm _ _ _ _ hju).mono fun x w' hx=>?_
  obtain ⟨A',n',c',rfl,hp,h0⟩:=hx
  have hp:=hp.own (h0 h00)
  grind
 ·rename_i id i jv
  simp only [omi] at h
  obtain ⟨m,hm,h⟩:=h
  cases h
  obtain ⟨hl,hv⟩:=ha
  match us,hl,hv with
  | [u,ui,uj],hl,hv =>
  have hu:=hv 0 (.tail id 0) u rfl rfl
  have hui:=hv 1 (.int .i64 i) ui rfl rfl
  have huj:=hv 2 (.int .i64 jv) uj rfl rfl
  cases hui
  cases huj
  have hrow:∃els',mem'=(newRow (mem.set id .dead) e els' 0).2:=by
   unfold rK at hm
   grind
  obtain ⟨els',hm'⟩:=hrow
  cases hu with
  | tail hju hn hw =>
  rename_i n c sz A
  cases hw with
  | win hju2 hnn hlc hcc hA =>
  rename_i n2 c2 sz2 c2' A2 A2'
  rw [hju] at hju2
  cases hju2
  have e0:A2'=A/\c2'=c:=by
   grind
  obtain ⟨rfl,rfl⟩:=e0
  rw [Nat.sub_zero]
  refine (main _ _ _ _ hm _ _ _ _ hju).mono fun x w' hx=>?_
  obtain ⟨A',n',c',rfl,hp,_⟩:=hx
  have hp:=hp.tail (fz:=0) (t:=e) (els:=els') (by rw [hm'];simp [newRow])
  grind
 grind
def kQ (e:TypeId) (sz:Nat):List V->Option V
 | [.sl l]=>if dp sz l=true/\(l.all fun x=>x.cells.all V.flat1)=true/\l.length<=16777216 then some (.fr e l) else none
 | _=>none
structure yh (P:Program) (f:FuncId) (t e:TypeId):Prop where
 ht:P.underlying t=some (.slice e)
 row:nK P e=true
 atNil:∀(n c:Nat) (w:World),Calls P f #[.slice none n c] w fun x w'=>x = .returned (.slice none 0 0)/\w'=w
 atSome:∀(g b n c:Nat) (w w2:World) (r:Value),
  (∀ty,(Builtin.append_ #[t,t] ty #[.slice (some ⟨w.heap.size,0,none⟩) 0 0,.slice (some ⟨g,b,none⟩) n c]).run P (w.alloc (.cells #[] e)) = .ok r w2) ->
  Calls P f #[.slice (some ⟨g,b,none⟩) n c] w fun x w'=>x = .returned r/\w'=w2
 atZero:∀(a:Addr) (c:Nat) (w:World),Calls P f #[.slice (some a) 0 c] w fun x w'=>x = .returned (.slice (some ⟨w.heap.size,0,none⟩) 0 0)/\w'=w.alloc (.cells #[] e)
theorem Ce {f:FuncId} {t e:TypeId} (W:yh P f t e):gh P fun f' as0=>if f'=f then kQ e (P.cellsOf e) as0 else none:=by
 intro f' as0 r h aR Z w us hzin ha
 simp only at h
 by_cases hf:f'=f
 rotate_left
 ·grind
 subst hf
 rw [if_pos rfl] at h
 unfold kQ at h
 split at h
 rotate_left
 ·cases h
 rename_i l
 split at h
 rotate_left
 ·cases h
 rename_i hc
 obtain ⟨hw,hfl,hlen⟩:=hc
 cases h
 have hroom:dG P e (([]:List V).length+l.length)=true:=by simp [dG,hlen,W.row]
 obtain ⟨_,hby,hpos,inf,z,hinf,his,hib,hz,hzs⟩:=jk hroom
 have hxl:∀x∈l,x.cells.length=P.cellsOf e:=fun x hx=>by
  have:=di.1 hw x hx
  grind
 have hflat:∀x∈l,∀y∈x.cells,y.flat1=true:=fun x hx y hy=>di.1 (di.1 hfl x hx) y hy
 obtain ⟨hl,hv⟩:=ha
 match us,hl,hv with
 | [u],hl,hv =>
 have hu:=hv 0 (.sl l) u rfl rfl
 have s:SR P Z w j0 []:=⟨fun id o h=>by grind,fun id id' o o' g h=>by grind,fun _ _=>rfl,hzin⟩
 have hp:=xH (P:=P) (Z:=Z) (w:=w) (j:=j0) (mem:=[]) (w1:=w.alloc (.cells #[] e)) (t:=e) (us:=#[]) (els:=[]) (fz:=0) (c:=0) s rfl rfl rfl rfl hpos (by simp) (bG _) (bG _) (by simp) (by simp) (fun k x i y hk=>by grind)
 obtain ⟨Z1,j1,a1,a2,a3,a4⟩:=hp
 have fin:∀(Z2:Zs) (w2:World) (j2:J) (mem2:List O) (id:Nat) (u2:Value),SR P Z2 w2 j2 mem2->aI Z w j0 [] Z2 w2 j2 mem2->VR Z2 w2 j2 (.own id) u2->mem2[id]? = some (.row e l 0)->RR P Z2 w w2 (.fr e l) u2/\pC Z w Z2 w2:=by
  intro Z2 w2 j2 mem2 id u2 e3 e4 hv2 hm2
  have st0:pC Z w Z2 w2:=⟨e4.os,e4.tape,e4.output,e4.size,fun g hg=>e4.keep g hg AB,e3.zin,funext fun t=>(e4.ar t fun id o n ho=>by grind).2,e4.z.i⟩
  refine ⟨?_,st0⟩
  obtain ⟨hn,hh,hrow⟩:=e3.obj id _ hm2
  cases hv2 with
  | own hj h00 =>
   rw [hj] at hh;cases hh
   have h1:=hrow.1
   simp only at h1
   subst h1
   refine ⟨_,_,_,rfl,hrow,hflat,fun g hg=>?_,h00⟩
   have ho:bd Z2 j2 mem2 g:=⟨id,_,hm2,rfl,(bf.plain rfl).2 (by simpa [cf,hj] using hg)⟩
   refine ⟨?_,bd.lt e3 ho⟩
   rcases jV g w.heap.size with aC | hge
   ·exact (AB (e4.owned g aC ho)).elim
   grind
 rcases hu.slInv with ⟨A,c,rfl,rfl⟩ | ⟨g,b,c,sz,rfl,_⟩
 ·cases A with
  | none =>
   refine (W.atNil 0 c w).mono fun x w' hxw=>?_
   obtain ⟨rfl,rfl⟩:=hxw
   exact ⟨_,Z,rfl,⟨none,0,0,rfl,⟨rfl,hpos,bG _,by simp,.inl ⟨rfl,rfl⟩⟩,by simp,fun g hg=>by simp [bz.blk] at hg,fun a ha=>by grind⟩,⟨rfl,rfl,rfl,bG _,fun g hg=>⟨rfl,fun o=>Iff.rfl⟩,hzin,rfl,rfl⟩⟩
  | some a =>
   refine (W.atZero a c w).mono fun x w' hxw=>?_
   obtain ⟨rfl,rfl⟩:=hxw
   obtain ⟨f1,f2⟩:=fin Z1 _ j1 _ 0 _ a2 a3 a1 rfl
   grind
 ·have hx:VR Z1 (w.alloc (.cells #[] e)) j1 (.sl l) (.slice (some ⟨g,b,none⟩) l.length c):=hu.mono a3.z (aQ.zero _)
  have hap:iH P (newRow [] e [] 0).2 t (.own 0) (.sl l)=some (newRow ((newRow [] e [] 0).2.set 0 .dead) e ([]++l) 0):=by
   have hw':(l.all fun y=>y.cells.length==P.cellsOf e)=true:=hw
   simp only [iH,ef,W.ht,aJ,lO,cy,hw',if_true]
   simp only [newRow,fR,dU,Hf]
   grind
  obtain ⟨r2,w2,hr,hpost⟩:=BZ (t:=t) (tx:=t) (ty:=t) a2 (by simp [kK]) hap a1 hx
  obtain ⟨Z2,j2,b1,b2,b3,b4⟩:=hpost
  refine (W.atSome g b l.length c w w2 r2 (fun ty=>hr)).mono fun x w' hxw=>?_
  obtain ⟨rfl,rfl⟩:=hxw
  obtain ⟨f1,f2⟩:=fin Z2 _ j2 _ 1 _ b2 (a3.trans b3) b1 rfl
  grind
def zZ (e:TypeId) (sz:Nat) (args:List V) (mem:List O) (k:V->List O->R):R :=
 match args with
 | [.own id,.int .i64 i,x] =>
  match mem[id]?,vE mem id x with
  | some (.row t els 0),some (t2,xs)=>gd (t==e && t2==e)<|gd (dp sz xs)<|gd (gL 0 xs.length) <|
    gd (decide (0<=i/\i.toNat<=els.length/\els.length+xs.length<=16777216)) (k (.own (mem.set id .dead).length) (mem.set id .dead++[.row e (els.take i.toNat++xs++els.drop i.toNat) 0]))
  | _,_=>none
 | _=>none
def zj (e:TypeId) (args:List V) (mem:List O) (k:V->List O->R):R :=
 match args with
 | [.own id,.int .i64 i,.int .i64 j] =>
  match mem[id]? with
  | some (.row t els 0)=>gd (t==e)<|gd (decide (0<=i/\i<=j/\j.toNat<=els.length/\els.length<=16777216)) (k (.own mem.length) (mem.set id .dead++[.row e (els.take i.toNat++els.drop j.toNat) 0]))
  | _=>none
 | [.tail id 0,.int .i64 i,.int .i64 j] =>
  match mem[id]? with
  | some (.row t els 0)=>gd (t==e)<|gd (decide (0<=i/\i<=j/\j.toNat<=els.length/\els.length<=16777216)) (k (.tail mem.length 0) (mem.set id .dead++[.row e (els.take i.toNat++els.drop j.toNat) 0]))
  | _=>none
 | _=>none
theorem Ku {e:TypeId} {sz:Nat} {args:List V} {mem:List O} {k:V->List O->R} {r:cW} (h:zZ e sz args mem k=some r):∃v m,qc e sz args mem=some (v,m)/\k v m=some r:=by
 unfold zZ at h
 split at h
 ·split at h
  ·rename_i hm hm2
   obtain ⟨p1,h⟩:=bB h
   obtain ⟨p2,h⟩:=bB h
   obtain ⟨p3,h⟩:=bB h
   obtain ⟨p4,h⟩:=bB h
   simp only [bv,beq_iff_eq] at p1
   obtain ⟨a1,a2⟩:=p1
   have p4:=of_decide_eq_true p4
   refine ⟨_,_,?_,h⟩
   unfold qc
   simp only [hm,hm2]
   rw [if_pos ⟨a1,a2,p2,(by simp_all),p4.1,p4.2.1,p4.2.2⟩]
   rfl
  grind
 grind
theorem Iv {e:TypeId} {args:List V} {mem:List O} {k:V->List O->R} {r:cW} (h:zj e args mem k=some r):∃v m,oq e args mem=some (v,m)/\k v m=some r:=by
 unfold zj at h
 split at h
 ·split at h
  ·rename_i hm
   obtain ⟨p1,h⟩:=bB h
   obtain ⟨p4,h⟩:=bB h
   have p4:=of_decide_eq_true p4
   refine ⟨_,_,?_,h⟩
   unfold oq rK
   simp only [hm]
   rw [if_pos ⟨(by grind),p4.1,p4.2.1,p4.2.2.1,p4.2.2.2⟩]
   rfl
  grind
 ·split at h
  ·rename_i hm
   obtain ⟨p1,h⟩:=bB h
   obtain ⟨p4,h⟩:=bB h
   have p4:=of_decide_eq_true p4
   refine ⟨_,_,?_,h⟩
   unfold oq rK
   simp only [hm]
   rw [if_pos ⟨(by grind),p4.1,p4.2.1,p4.2.2.1,p4.2.2.2⟩]
   rfl
  grind
 grind
def zc:List V->Option V
 | [.str a,.str b]=>some (.int .i64 (if a==b then 0 else if Op.bytesLess a b then -1 else 1))
 | _=>none
theorem Qg (a b:List UInt8):Lib.compareBytes a b=if a==b then 0 else if Op.bytesLess a b then -1 else 1:=by
 induction a generalizing b with
 | nil=>cases b<;>simp [Lib.compareBytes,Op.bytesLess]
 | cons x a ih =>
  cases b with
  | nil=>simp [Lib.compareBytes,Op.bytesLess]
  | cons y b =>
   simp only [Lib.compareBytes,Op.bytesLess,ih,List.cons_beq_cons]
   grind
theorem Qi {f:FuncId} (W:∀(a b:ByteArray) (w:World),Calls P f #[.string a,.string b] w fun x w'=>x = .returned (.int .i64 (Lib.compareBytes a.data.toList b.data.toList))/\w'=w):gh P fun f' as0=>if f'=f then zc as0 else none:=by
 intro f' as0 r h aR Z w us hzin ha
 simp only at h
 by_cases hf:f'=f
 rotate_left
 ·grind
 subst hf
 rw [if_pos rfl] at h
 unfold zc at h
 split at h
 rotate_left
 ·cases h
 rename_i a b
 cases h
 obtain ⟨hl,hv⟩:=ha
 match us,hl,hv with
 | [u,v],hl,hv =>
 have hu:=hv 0 (.str a) u rfl rfl
 have hv':=hv 1 (.str b) v rfl rfl
 cases hu with
 | @str _ sa =>
 cases hv' with
 | @str _ sb =>
 refine (W sa sb w).mono fun x w' hxw=>?_
 obtain ⟨rfl,rfl⟩:=hxw
 refine ⟨_,Z,rfl,?_,⟨rfl,rfl,rfl,bG _,fun g hg=>⟨rfl,fun o=>Iff.rfl⟩,hzin,rfl,rfl⟩⟩
 rw [Qg]
 exact VR.int
end
def ul (w:World):Zs:=⟨fun g _=>g < w.heap.size,fun _ _=>none,fun _=>none⟩
def pO (P:Program):Nat->List Field->Nat->Bool
 | off,[],tot=>off==tot
 | off,f::fs,tot=>f.offset==off && pO P (off+P.cellsOf f.type) fs tot
def cH (P:Program):Nat->TypeId->Bool
 | 0,_=>false
 | n+1,t=>match P.underlying t with
  | some .bool | some (.int _) | some .string=>true
  | some (.slice e)=>cH P n e && decide (0 < P.cellsOf e)
  | some (.struct fs)=>pO P 0 fs.toList (P.cellsOf t) && fs.toList.all fun f=>cH P n f.type
  | some (.array len e)=>cH P n e && P.cellsOf t==len * P.cellsOf e
  | _=>false
def dQ (P:Program):Nat->TypeId->List V->Prop
 | 0,_,_=>False
 | n+1,t,vs=>match P.underlying t with
  | some .bool=>∃b,vs=[.bool b]
  | some (.int k)=>∃m,vs=[.int k m]/\(Lit.int k m).wf=true
  | some .string=>∃s,vs=[.str s]/\s.length<=maxLen
  | some (.slice e)=>∃l,vs=[.sl l]/\l.length<=maxLen/\∀x∈l,dQ P n e x.cells/\(if mM (P.underlying e) then ∃cs,x = .agg cs else x.cells=[x])
  | some (.struct fs)=>vs.length=P.cellsOf t/\∀f∈fs.toList,dQ P n f.type ((vs.drop f.offset).take (P.cellsOf f.type))
  | some (.array len e)=>vs.length=P.cellsOf t/\∀i,i < len->dQ P n e ((vs.drop (i * P.cellsOf e)).take (P.cellsOf e))
  | _=>False
def RC (w:World) (vs:List V) (cs:List Value):Prop:=vs.length=cs.length/\∀(i:Nat) (v:V) (u:Value),vs[i]? = some v->cs[i]? = some u->v.one=true/\VR (ul w) w j0 v u
section
variable {H:Type} {enc:TypeId × Value->H} {P:Program} {w:World} {iA:Nat->Bool}
theorem RC.one {v:V} {u:Value} (h1:v.one=true) (h:VR (ul w) w j0 v u):RC w [v] [u]:=by
 refine ⟨rfl,fun i x y hx hy=>?_⟩
 cases i with
 | zero=>simp at hx hy;subst hx;subst hy;exact ⟨h1,h⟩
 | succ i=>simp at hx
theorem RC.append {vs vs':List V} {cs cs':List Value} (h:RC w vs cs) (h':RC w vs' cs'):RC w (vs++vs') (cs++cs'):=by
 refine ⟨by simp [h.1,h'.1],fun i x y hx hy=>?_⟩
 by_cases hi:i < vs.length
 ·rw [db hi] at hx
  rw [db (by rw [<-h.1];exact hi)] at hy
  exact h.2 i x y hx hy
 ·rw [cY (by omega)] at hx
  rw [cY (by rw [<-h.1];omega),<-h.1] at hy
  exact h'.2 _ x y hx hy
theorem Qm:∀(fs:List Field) (off tot:Nat),pO P off fs tot=true->off<=tot/\∀f∈fs,off<=f.offset:=by
 intro fs
 induction fs with
 | nil=>intro off tot h;simp [pO] at h;exact ⟨by omega,by simp⟩
 | cons f fs ih =>
  intro off tot h
  simp only [pO,bv,beq_iff_eq] at h
  obtain ⟨h1,h2⟩:=ih _ _ h.2
  refine ⟨by omega,fun g hg=>?_⟩
  simp only [bP] at hg
  rcases hg with rfl | hg
  ·omega
  ·have:=h2 g hg;omega
theorem Te {n:Nat} {cs:List Value}:∀(fs:List Field) (off tot:Nat),pO P off fs tot=true->cs.length=tot ->
  (∀f∈fs,∃vs,RC w vs ((cs.drop f.offset).take (P.cellsOf f.type))/\dQ P n f.type vs) ->
  ∃vs,RC w vs (cs.drop off)/\∀f∈fs,dQ P n f.type ((vs.drop (f.offset - off)).take (P.cellsOf f.type)):=by
 intro fs
 induction fs with
 | nil =>
  intro off tot h hl _
  simp [pO] at h
  refine ⟨[],⟨by simp;omega,fun i v u hv=>by simp at hv⟩,by simp⟩
 | cons f fs ih =>
  intro off tot h hl hf
  simp only [pO,bv,beq_iff_eq] at h
  obtain ⟨h1,h2⟩:=h
  obtain ⟨g1,g2⟩:=Qm _ _ _ h2
  obtain ⟨vs',r',t'⟩:=ih (off+P.cellsOf f.type) tot h2 hl (fun g hg=>hf g (by simp [hg]))
  obtain ⟨vf,rf,tf⟩:=hf f (by simp)
  have hlen:((cs.drop f.offset).take (P.cellsOf f.type)).length=P.cellsOf f.type:=by simp;omega
  have hvl:vf.length=P.cellsOf f.type:=by rw [rf.1,hlen]
  have e1:cs.drop off=(cs.drop f.offset).take (P.cellsOf f.type)++cs.drop (off+P.cellsOf f.type):=by
   rw [h1,<-nW,ig]
  refine ⟨vf++vs',by rw [e1];exact rf.append r',fun g hg=>?_⟩
  simp only [bP] at hg
  rcases hg with rfl | hg
  ·rw [h1,iX,pu,vW (by omega),kE (by omega)]
   exact tf
  ·have:=g2 g hg
   have e2:(vf++vs').drop (g.offset - off)=vs'.drop (g.offset - (off+P.cellsOf f.type)):=by
    rw [rk,List.drop_of_length_le (by omega),dU,hvl]
    congr 1
    omega
   rw [e2]
   exact t' g hg
theorem Pk {n:Nat} {e:TypeId} {cs:List Value}:∀(len:Nat),cs.length=len * P.cellsOf e->(∀i,i < len->∃vs,RC w vs ((cs.drop (i * P.cellsOf e)).take (P.cellsOf e))/\dQ P n e vs) ->
  ∀k,k<=len->∃vs,RC w vs (cs.take (k * P.cellsOf e))/\∀i,i < k->dQ P n e ((vs.drop (i * P.cellsOf e)).take (P.cellsOf e)):=by
 intro len hl hf k
 induction k with
 | zero=>intro _;exact ⟨[],⟨by simp,fun i v u hv=>by simp at hv⟩,fun i hi=>by omega⟩
 | succ k ih =>
  intro hk
  obtain ⟨vs,r1,t1⟩:=ih (by omega)
  obtain ⟨vf,rf,tf⟩:=hf k (by omega)
  have hmul:(k+1) * P.cellsOf e=k * P.cellsOf e+P.cellsOf e:=jX k _
  have hle:(k+1) * P.cellsOf e<=len * P.cellsOf e:=cO _ hk
  have hvl:vs.length=k * P.cellsOf e:=by rw [r1.1,gq];omega
  have hfl:vf.length=P.cellsOf e:=by rw [rf.1,gq,gg];omega
  have e1:cs.take ((k+1) * P.cellsOf e)=cs.take (k * P.cellsOf e)++(cs.drop (k * P.cellsOf e)).take (P.cellsOf e):=by rw [hmul,List.take_add]
  refine ⟨vs++vf,by rw [e1];exact r1.append rf,fun i hi=>?_⟩
  by_cases h:i=k
  ·subst h
   rw [rk,List.drop_of_length_le (by omega),dU,hvl,iX,pu,kE (by omega)]
   exact tf
  ·have hik:(i+1) * P.cellsOf e<=k * P.cellsOf e:=cO _ (by omega)
   have h2:(i+1) * P.cellsOf e=i * P.cellsOf e+P.cellsOf e:=jX i _
   rw [List.drop_append_of_le_length (by omega),vW (by rw [gg];omega)]
   exact t1 i (by omega)
theorem Vg {α:Type} {Q:Nat->α->Prop}:∀(n:Nat),(∀i,i < n->∃x,Q i x)->∃l:List α,l.length=n/\∀i x,l[i]? = some x->Q i x:=by
 intro n
 induction n with
 | zero=>intro _;exact ⟨[],rfl,fun i x h=>by simp at h⟩
 | succ n ih =>
  intro h
  obtain ⟨l,h1,h2⟩:=ih (fun i hi=>h i (by omega))
  obtain ⟨x,hx⟩:=h n (by omega)
  refine ⟨l++[x],by simp [h1],fun i y hy=>?_⟩
  by_cases hi:i < n
  ·rw [db (by omega)] at hy;exact h2 i y hy
  ·rw [cY (by omega)] at hy
   have e:i - l.length=0:=by
    have:=(bj.1 hy).1
    simp at this;omega
   rw [e] at hy
   simp at hy
   subst hy
   have:i=n:=by
    have:i - l.length=0:=e
    omega
   subst this
   exact hx
theorem HB {n:Nat} {t:TypeId} {vs:List V} (h:dQ P n t vs) (ha:mM (P.underlying t)=false):∃v,vs=[v]/\v.cells=[v]:=by
 cases n with
 | zero=>cases h
 | succ n =>
  unfold dQ at h
  split at h
  ·obtain ⟨b,rfl⟩:=h;exact ⟨_,rfl,rfl⟩
  ·obtain ⟨b,rfl,_⟩:=h;exact ⟨_,rfl,rfl⟩
  ·obtain ⟨b,rfl,_⟩:=h;exact ⟨_,rfl,rfl⟩
  ·obtain ⟨b,rfl,_⟩:=h;exact ⟨_,rfl,rfl⟩
  ·rename_i hu;rw [hu] at ha;cases ha
  ·rename_i hu;rw [hu] at ha;cases ha
  ·cases h
theorem ZO:∀(n fuel:Nat) (t:TypeId) (cs:List Value) (x:DataW H × List MemPlace),cH P n t=true->DataW.trod enc P w 0 iA true fuel t cs=some x->∃vs,RC w vs cs/\dQ P n t vs:=by
 intro n
 induction n with
 | zero=>intro fuel t cs x h;cases h
 | succ n ih =>
  intro fuel t cs x aR h
  unfold cH at aR
  split at aR
  ·rename_i hu
   obtain ⟨b,rfl,_⟩:=DataW.trod_bool hu h
   exact ⟨[.bool b],RC.one rfl .bool,by unfold dQ;rw [hu];exact ⟨b,rfl⟩⟩
  ·rename_i k hu
   obtain ⟨m,rfl,_,hw⟩:=DataW.trod_int hu h
   exact ⟨[.int k m],RC.one rfl .int,by unfold dQ;rw [hu];exact ⟨m,rfl,hw⟩⟩
  ·rename_i hu
   obtain ⟨s,rfl,_,hs⟩:=DataW.trod_string hu h
   exact ⟨[.str s.data.toList],RC.one rfl .str,by unfold dQ;rw [hu];exact ⟨_,rfl,by have h1:s.data.size<=maxLen:=hs;rw [BC];exact h1⟩⟩
  ·rename_i e hu
   simp only [bv,decide_eq_true_eq] at aR
   obtain ⟨hoke,hpos⟩:=aR
   rcases DataW.trod_slice hu h with ⟨rfl,_⟩ | ⟨a,len,cap,cy,rest,fu,_,rfl,_,hb,hlc,hcm,hel,hread,_⟩
   ·exact ⟨[.sl []],RC.one rfl .sl0,by unfold dQ;rw [hu];exact ⟨[],rfl,by simp,by simp⟩⟩
   ·have each:∀i,i < len->∃x:V,∃ci:List Value,w.cells? 0 (a.add (i * P.cellsOf e)) (P.cellsOf e)=some ci/\RC w x.cells ci/\dQ P n e x.cells/\(if mM (P.underlying e) then ∃cs,x = .agg cs else x.cells=[x]):=by
     intro i hi
     have hr:=hread i hi
     have:cy[i]? = some cy[i]:=bC (by omega)
     rw [this,obi] at hr
     obtain ⟨ci,h1,h2⟩:=hr
     obtain ⟨vs,r1,r2⟩:=ih fu e ci _ hoke h2
     by_cases hag:mM (P.underlying e)=true
     ·exact ⟨.agg vs,ci,h1,r1,r2,by rw [if_pos hag];exact ⟨vs,rfl⟩⟩
     ·have hag':mM (P.underlying e)=false:=by simpa using hag
      obtain ⟨v,rfl,hv⟩:=HB r2 hag'
      exact ⟨v,ci,h1,by rw [hv];exact r1,by rw [hv];exact r2,by rw [if_neg (by simp [hag'])];exact hv⟩
    obtain ⟨l,hll,hlq⟩:=Vg len each
    have hT:dQ P (n+1) t [.sl l]:=by
     unfold dQ
     rw [hu]
     refine ⟨l,rfl,by omega,fun x hx=>?_⟩
     obtain ⟨i,hi⟩:=vT hx
     obtain ⟨ci,_,_,h3,h4⟩:=hlq i x hi
     exact ⟨h3,h4⟩
    refine ⟨[.sl l],RC.one rfl ?_,hT⟩
    by_cases h0:len=0
    ·have:l=[]:=pw (by omega)
     subst this
     subst h0
     exact .sl0
    ·have hx0:l[0]? = some l[0]:=bC (by omega)
     obtain ⟨c0,q1,q2,q3,q4⟩:=hlq 0 _ hx0
     obtain ⟨_,q5,q6⟩:=World.cells?_some q1
     have hc0:=q6 0 hpos
     rw [bC (by omega)] at hc0
     have hspot:=World.cell?_spot hc0
     obtain ⟨g,b,spot⟩:=a
     have:spot=none:=by simpa [Addr.add] using hspot
     subst this
     have hg:g < w.heap.size:=by
      have:=World.cells?_block q1 hpos
      simpa [Addr.add] using this
     subst hll
     refine VR.sl (sz:=P.cellsOf e) (fun k i=>(w.cell? ⟨g,b+(k * P.cellsOf e+i),none⟩).getD default) hlc hpos (fun k x hk=>?_) (fun k x i y hk hy=>?_) (fun k x i y hk hy=>?_)
     ·obtain ⟨ck,r1,r2,_⟩:=hlq k x hk
      rw [r2.1,(World.cells?_some r1).2.1]
     ·obtain ⟨ck,r1,r2,_⟩:=hlq k x hk
      obtain ⟨_,s1,s2⟩:=World.cells?_some r1
      have hi:i < P.cellsOf e:=by rw [<-s1,<-r2.1];exact (bj.1 hy).1
      have hcell:=s2 i hi
      have hck:ck[i]? = some ck[i]:=bC (by omega)
      rw [hck] at hcell
      have e1:((⟨g,b,none⟩:Addr).add (k * P.cellsOf e)).add i=⟨g,b+(k * P.cellsOf e+i),none⟩:=by rw [Addr.add_lit,Addr.add_lit,gT]
      rw [e1] at hcell
      exact ⟨(r2.2 i y _ hy hck).1,hg,by rw [hcell];rfl⟩
     ·obtain ⟨ck,r1,r2,_⟩:=hlq k x hk
      obtain ⟨_,s1,s2⟩:=World.cells?_some r1
      have hi:i < P.cellsOf e:=by rw [<-s1,<-r2.1];exact (bj.1 hy).1
      have hcell:=s2 i hi
      have hck:ck[i]? = some ck[i]:=bC (by omega)
      rw [hck] at hcell
      have e1:((⟨g,b,none⟩:Addr).add (k * P.cellsOf e)).add i=⟨g,b+(k * P.cellsOf e+i),none⟩:=by rw [Addr.add_lit,Addr.add_lit,gT]
      rw [e1] at hcell
      simp only [hcell,tV]
      exact (r2.2 i y _ hy hck).2
  ·rename_i fs hu
   simp only [bv] at aR
   obtain ⟨hcon,hall⟩:=aR
   obtain ⟨xs,fu,_,_,hl,hlen,hf⟩:=DataW.trod_struct hu h
   have hfi:∀f∈fs.toList,∃vs,RC w vs ((cs.drop f.offset).take (P.cellsOf f.type))/\dQ P n f.type vs:=by
    intro f hfm
    obtain ⟨i,hi⟩:=vT hfm
    have hi':fs[i]? = some f:=by simpa using hi
    have:=hf i f hi'
    have hil:i < xs.length:=by
     have:=(eX.1 hi').1
     omega
    have hx:xs[i]? = some xs[i]:=bC hil
    rw [hx] at this
    exact ih fu f.type _ _ (di.1 hall f hfm) this
   obtain ⟨vs,r1,r2⟩:=Te fs.toList 0 _ hcon hl hfi
   rw [pu] at r1
   refine ⟨vs,r1,?_⟩
   unfold dQ
   rw [hu]
   exact ⟨by rw [r1.1,hl],fun f hfm=>by have:=r2 f hfm;simpa using this⟩
  ·rename_i len e hu
   simp only [bv,beq_iff_eq] at aR
   obtain ⟨hoke,hcs⟩:=aR
   obtain ⟨xs,fu,_,_,hl,hlen,hf⟩:=DataW.trod_array hu h
   rw [hcs] at hl
   have hfi:∀i,i < len->∃vs,RC w vs ((cs.drop (i * P.cellsOf e)).take (P.cellsOf e))/\dQ P n e vs:=by
    intro i hi
    have:=hf i hi
    have hx:xs[i]? = some xs[i]:=bC (by omega)
    rw [hx] at this
    exact ih fu e _ _ hoke this
   obtain ⟨vs,r1,r2⟩:=Pk len hl hfi len (bG _)
   rw [<-hl,lC] at r1
   refine ⟨vs,r1,?_⟩
   unfold dQ
   rw [hu]
   exact ⟨by rw [r1.1,hl,hcs],r2⟩
  ·cases aR
end
theorem Yt {W W':World} (h:∀g,g < W.heap.size->W'.heap[g]? = W.heap[g]?) {p:MemPlace} (hp:p.block < W.heap.size):W.sameAt W' p:=by
 cases p with
 | cell b off=>exact World.cell?_of_block (a:=⟨b,off,none⟩) (h b hp)
 | map b=>exact h b hp
theorem US {W W':World} {may:MemPlace->Prop} (ho:W'.os=W.os) (hout:W'.output=W.output) (h:∀g,g < W.heap.size->W'.heap[g]? = W.heap[g]?):W.keptBut W' may:=by
 refine ⟨ho,hout,fun i hi=>?_⟩
 rw [h i hi]
 have:W.heap[i]? = some W.heap[i]:=eW hi
 rw [this]
 cases W.heap[i]<;>simp
section
variable {H:Type} {enc:TypeId × Value->H} {P:Program}
theorem HA (hl:laidOutB P=true) {W W':World} {sp':Nat->Bool} (hsz:∀g,g < W.heap.size->W'.heap[g]? = W.heap[g]?):∀{ts:List TypeId} {vs:List Value} {ds:List (DataW H)} {ps:List MemPlace},(∀t∈ts,P.readableRec t=true/\t < P.types.size) ->
  DataW.TrodAll enc P W 0 (fun _=>true) true ts vs ds ps->(∀p∈ps,p.block < W.heap.size)->(∀p∈ps,sp' p.block=true)->DataW.TrodAll enc P W' 0 sp' true ts vs ds ps
 | [],[],[],_,_,h,_,_=>h
 | t::ts,v::vs,d::ds,_,hT,⟨p,q,h1,h2,e⟩,aC,hs=>by
  subst e
  exact ⟨p,q,WideElems.Trod_stays hl (hT t (by simp)).1 (hT t (by simp)).2 h1 (fun x hx=>Yt hsz (aC x (by simp [hx]))) (fun x hx=>hs x (by simp [hx])),
   HA hl hsz (fun t ht=>hT t (by simp [ht])) h2 (fun x hx=>aC x (by simp [hx])) (fun x hx=>hs x (by simp [hx])),rfl⟩
end
end Go.Lite
namespace Go.Lite
open Go Go.ChangeShapes Go.WideShapes Go.RowKit
def jQ (P:Program) (n:Nat) (t:TypeId) (x:V):Prop:=dQ P n t x.cells/\(if mM (P.underlying t) then ∃cs,x = .agg cs else x.cells=[x])
def vP (P:Program) (n:Nat):List TypeId->List V->Prop
 | [],[]=>True
 | t::ts,x::xs=>jQ P n t x/\vP P n ts xs
 | _,_=>False
theorem jQ.agg {P:Program} {n:Nat} {t:TypeId} {x:V} (h:jQ P n t x) (ha:mM (P.underlying t)=true):∃cs,x = .agg cs:=by
 have:=h.2;rwa [if_pos ha] at this
theorem jQ.leaf {P:Program} {n:Nat} {t:TypeId} {x:V} (h:jQ P n t x) (ha:mM (P.underlying t)=false):x.cells=[x]:=by
 have:=h.2;rwa [if_neg (by simp [ha])] at this
section
variable {H:Type} {enc:TypeId × Value->H} {P:Program} {w:World} {iA:Nat->Bool}
theorem Ph {n base:Nat} {t:TypeId} {v:Value} {d:DataW H} {p:List MemPlace} (aR:cH P n t=true) (hval:Value.okWide P w .any base t v)
  (h:DataW.Trod enc P w 0 iA true t v d p):∃x,VR (ul w) w j0 x v/\jQ P n t x:=by
 obtain ⟨fuel,hf⟩:=h
 obtain ⟨vs,r,ty⟩:=ZO n fuel t _ _ aR hf
 have leaf:mM (P.underlying t)=false->v.cells.toList=[v]->∃x,VR (ul w) w j0 x v/\jQ P n t x:=by
  intro ha hc
  obtain ⟨x,rfl,hx⟩:=HB ty ha
  refine ⟨x,(r.2 0 x v rfl (by rw [hc];rfl)).2,by rw [hx];exact ty,by rw [if_neg (by simp [ha])];exact hx⟩
 cases n with
 | zero=>cases aR
 | succ n =>
  have hok':=aR
  unfold cH at aR
  split at aR
  ·rename_i hu;obtain ⟨b,rfl⟩:=okWide_bool hu hval;exact leaf (by rw [hu];rfl) rfl
  ·rename_i k hu;obtain ⟨b,rfl⟩:=okWide_int hu hval;exact leaf (by rw [hu];rfl) rfl
  ·rename_i hu;obtain ⟨b,rfl⟩:=okWide_string hu hval;exact leaf (by rw [hu];rfl) rfl
  ·rename_i e hu;obtain ⟨a,l,c,rfl⟩:=okWide_slice hu hval;exact leaf (by rw [hu];rfl) rfl
  ·rename_i fs hu
   simp only [Value.okWide,hu] at hval
   obtain ⟨cs,rfl,_,_⟩:=hval
   have e:(Value.agg cs) = .agg (cs.toList).toArray:=by simp
   refine ⟨.agg vs,?_,?_,?_⟩
   ·rw [e];exact .agg r.1 fun i c u hc hu=>(r.2 i c u hc hu).2
   ·exact ty
   ·rw [hu];exact ⟨vs,rfl⟩
  ·rename_i len e hu
   simp only [Value.okWide,hu] at hval
   obtain ⟨cs,rfl,_,_⟩:=hval
   have e:(Value.agg cs) = .agg (cs.toList).toArray:=by simp
   refine ⟨.agg vs,?_,?_,?_⟩
   ·rw [e];exact .agg r.1 fun i c u hc hu=>(r.2 i c u hc hu).2
   ·exact ty
   ·rw [hu];exact ⟨vs,rfl⟩
  ·cases aR
theorem HK {n base:Nat}:∀{ts:List TypeId} {vs:List Value} {ds:List (DataW H)} {ps:List MemPlace},(ts.all (cH P n))=true->(∀(j:Nat) t v,ts[j]? = some t->vs[j]? = some v->Value.okWide P w .any base t v) ->
  DataW.TrodAll enc P w 0 iA true ts vs ds ps->∃xs,eB (ul w) w j0 xs vs/\vP P n ts xs
 | [],[],[],_,_,_,_=>⟨[],⟨rfl,fun i v u hv=>by simp at hv⟩,trivial⟩
 | t::ts,v::vs,d::ds,_,aR,hval,⟨p,q,h1,h2,_⟩=>by
  simp only [yk,bv] at aR
  obtain ⟨x,hx,tx⟩:=Ph aR.1 (hval 0 t v rfl rfl) h1
  obtain ⟨xs,hxs,txs⟩:=HK aR.2 (fun j t v hj hv=>hval (j+1) t v (by simpa using hj) (by simpa using hv)) h2
  refine ⟨x::xs,⟨by simp [hxs.1],fun i a b ha hb=>?_⟩,tx,txs⟩
  cases i with
  | zero=>simp at ha hb;subst ha;subst hb;exact hx
  | succ i=>exact hxs.2 i a b (by simpa using ha) (by simpa using hb)
end
theorem O1 {Z:Zs} {w:World} {j:J} {b:Bool} {u:Value} (h:VR Z w j (.bool b) u):u = .bool b:=by cases h;rfl
theorem U3 {cfg:bi} (hc:vQ cfg) {f:FuncId} {fn:Func} (n:Nat) (aR:jB cfg.P f=true) (hlaid:laidOutB cfg.P=true) {s:ChangeSpec} (hvars:s.vars=[])
  (hts:(fn.params.toList.all fun t=>cH cfg.P n t && cfg.P.readableRec t && decide (t < cfg.P.types.size))=true) {tb:TypeId} (hres:fn.resultTypes=#[tb]) (htb:cfg.P.underlying tb=some .bool)
  (hspec:∀(H:Type) (ds:List (DataW H)),ds.length=fn.params.toList.length->s.fn H ds={ results:=[.lit (.bool true)],args:=ds })
  (law:∀xs,vP cfg.P n fn.params.toList xs->bK cfg f xs=some (.bool true))
  {H:Type} {enc:TypeId × Value->H} {apart fresh handsOn:Bool} (W:World) (base:Nat) (args:Array Value) (ds gs:List (DataW H)) (before:List MemPlace)
  (hval:∀(j:Nat) t v,fn.params[j]? = some t->args[j]? = some v->Value.okWide cfg.P W .any base t v)
  (hW:DataW.Whole enc cfg.P fn.params.toList s.vars apart W args.toList ds gs before) :
  Calls cfg.P f args W fun e W'=>∃v,e = .returned v/\s.post enc cfg.P fn apart fresh handsOn false W args v W':=by
 have hW':=hW
 obtain ⟨p,q,hA,hV,hb,hfz,hnd⟩:=hW
 rw [hvars] at hV
 obtain ⟨hg,hq⟩:=trodVars_none hV
 subst hg;subst hq
 simp only [dA] at hb
 subst hb
 simp only [di,bv,decide_eq_true_eq] at hts
 obtain ⟨xs,hx,ht⟩:=HK (P:=cfg.P) (n:=n) (base:=base) (di.2 fun t h=>(hts t h).1.1) (fun j t v hj hv=>hval j t v (by simpa using hj) (by simpa using hv)) hA
 obtain ⟨m,hm⟩:=L3 (law xs ht)
 have:=(PS hc m).1 f xs _ hm aR (ul W) W args.toList (fun g o h=>h) hx
 rw [G4] at this
 refine this.mono fun e W1 ⟨u,Z1,he,hr,hs⟩=>?_
 have hu:u = .bool true:=O1 hr
 subst hu
 refine ⟨_,he,ds,[],before,[],before,[],hW',?_,?_,?_,?_,fun h=>by cases h⟩
 ·rw [hspec H (ds++[]) (by simpa using (Go.trodAll_length hA).2),hres]
  exact trodAll_mk1 (shut_bool htb true)
 ·rw [hspec H (ds++[]) (by simpa using (Go.trodAll_length hA).2)]
  simp only [dA]
  exact HA hlaid (fun g h=>(hs.keep g h).1) (fun t h=>⟨(hts t h).1.2,(hts t h).2⟩) hA (fun x h=>hW'.lt x h) (fun x h=>by simpa using hW'.lt x h)
 ·rw [hspec H (ds++[]) (by simpa using (Go.trodAll_length hA).2),hvars]
  exact rfl
 ·exact US hs.os hs.output fun g h=>(hs.keep g h).1
end Go.Lite
namespace Go.Lite
open Go
noncomputable def Fo (kc:KC) (fa:FA) (k:V->List O->R) (s:S):R:=bh (bo (md kc.cfg.P s) fa.results) fun vs=>k (o7 vs) s.mem
noncomputable def Ks (kc:KC) (fa:FA) (args:List V) (mem:List O) (k:V->List O->R):R :=
 gd (args.length==fa.np && Nat.ble fa.np fa.nt) (gp kc 0 fa.body 0 ⟨args++bE (fa.nt - fa.np) (.tup []),mem⟩ (Fo kc fa k) (fun _ _=>none) (Fo kc fa k))
theorem Wd {cfg:bi} {n0 n1:Nat}:∀(c:C) (s:S),nl c=0->bV cfg n0 c s=bV cfg n1 c s:=by
 intro c
 induction c with
 | seq a b iha ihb =>
  intro s h
  simp only [nl] at h
  simp only [bV,iha s (by omega)]
  congr 1
  funext r
  obtain ⟨x,s'⟩:=r
  cases x<;>simp only [ihb _ (by omega:nl b=0)]
 | cond c a b iha ihb =>
  intro s h
  simp only [nl] at h
  simp only [bV,iha s (by omega),ihb s (by omega)]
 | block i c ih=>intro s h;simp only [nl] at h;simp only [bV,ih s h]
 | loop f c _=>intro s h;simp [nl] at h
 | cseq f a b _ _=>intro s h;simp [nl] at h
 | uncons g ps ws a b iha ihb =>
  intro s h
  simp only [nl] at h
  simp only [bV,iha _ (by omega:nl a=0),ihb _ (by omega:nl b=0)]
 | _=>intro s _;rfl
theorem Uy {kc:KC} (hik:ge kc) {f:FuncId} {fa:FA} {args:List V} {mem:List O} {k:V->List O->R} {r:cW} (hp:kc.cfg.iprim f=none) (hf:fH kc.cfg.P (kc.cfg.rxf f) f=some fa) (hn:nl fa.body=0)
  (h:Ks kc fa args mem k=some r):∃v m,lV kc.cfg f args mem=some (v,m)/\k v m=some r:=by
 obtain ⟨ha,h⟩:=bB h
 simp only [bv,beq_iff_eq,Nat.ble_eq] at ha
 have fin:∀(x:Ex) (s':S),bV kc.cfg 0 fa.body ⟨args++bE (fa.nt - fa.np) (.tup []),mem⟩=some (x,s')->De x=true->Fo kc fa k s'=some r ->
   ∃v m,lV kc.cfg f args mem=some (v,m)/\k v m=some r:=by
  intro x s' hx he hr
  obtain ⟨vs,h1,h2⟩:=bD hr
  refine ⟨o7 vs,s'.mem,Km hp hf ?_,h2⟩
  unfold qN
  rw [if_pos ha,Wd (n1:=0) _ _ hn]
  cases x with
  | exit i=>cases he
  | norm=>simp only [hx,aJ,h1,cg]
  | ret=>simp only [hx,aJ,h1,cg]
 rcases xT hik _ _ _ _ _ _ _ h with ⟨s2,g1,g2⟩ | ⟨e,s2,g1,g2⟩ | ⟨s2,g1,g2⟩ | ⟨j',s2,_,g1,g2,g3⟩
 ·exact fin _ _ g1 rfl g2
 ·cases g2
 ·exact fin _ _ g1 rfl g2
 ·omega
noncomputable def Eb (kc:KC):List (Nat × FA)->FuncId->List V->List O->(V->List O->R)->R
 | [],f,args,mem,k=>kc.ik f args mem k
 | x::l,f,args,mem,k=>cond (kG f x.1) (Ks kc x.2 args mem k) (Eb kc l f args mem k)
noncomputable def KC.inl (kc:KC) (l:List (Nat × FA)):KC:={ kc with ik:=Eb kc l }
theorem Kt {kc:KC} (hik:ge kc) {l:List (Nat × FA)} (h:∀x∈l,kc.cfg.iprim x.1=none/\fH kc.cfg.P (kc.cfg.rxf x.1) x.1=some x.2/\nl x.2.body=0):ge (kc.inl l):=by
 refine ⟨fun f as0 mem k r hr=>?_,fun rd f as0 mem k r hr=>hik.ck rd f as0 mem k r hr⟩
 show ∃v m,lV kc.cfg f as0 mem=some (v,m)/\k v m=some r
 change Eb kc l f as0 mem k=some r at hr
 induction l with
 | nil=>exact hik.ik f as0 mem k r hr
 | cons x l ih =>
  rcases bn hr with ⟨c1,h2⟩ | ⟨_,h2⟩
  ·obtain ⟨a,b,c⟩:=h x (by simp)
   have e:f=x.1:=Hr c1
   subst e
   exact Uy hik a b c h2
  ·exact ih (fun y hy=>h y (by simp [hy])) h2
def rj (kc:KC) (n0:Nat) (fa:FA) (rd:CM) (mem:List O) (o:cW) (r:V × List O):Prop:=∃v m,Go kc true n0 fa o (.doneM v m)/\gV rd mem v m=r
theorem rj.step {kc:KC} {n0:Nat} {fa:FA} {rd:CM} {mem:List O} {o o':cW} {r:V × List O} (hs:∀o'',Go kc true n0 fa o o''->Go kc true n0 fa o' o'') (h:rj kc n0 fa rd mem o r):rj kc n0 fa rd mem o' r :=
 let ⟨v,m,h1,h2⟩:=h
 ⟨v,m,hs _ h1,h2⟩
theorem rj.done {kc:KC} {n0:Nat} {fa:FA} {rd:CM} {mem m:List O} {v:V} {r:V × List O} (h:gV rd mem v m=r):rj kc n0 fa rd mem (.doneM v m) r:=⟨v,m,.refl _,h⟩
theorem T9 {kc:KC} (hik:ge kc) {f:FuncId} {fa:FA} {rd:CM} {args:List V} {mem:List O} {o:cW} {r:V × List O} (hp:kc.cfg.iprim f=none) (hf:fH kc.cfg.P (kc.cfg.rxf f) f=some fa) (h:k6 kc true fa args mem=some o) (hg:rj kc mem.length fa rd mem o r) :
  bN kc.cfg rd f args mem=some r:=by
 obtain ⟨v,m,h1,h2⟩:=hg
 unfold bN
 rw [Kl hik hp hf h h1,cg,h2]
set_option linter.unusedSimpArgs false
section
variable {b b':Bool} {v v':V}
@[congr] theorem aah {x y:R} (h:b=b'):cond b x y=cond b' x y:=by rw [h]
@[congr] theorem aaw {k:R} (h:b=b'):gd b k=gd b' k:=by rw [h]
@[congr] theorem aax {α:Type} {l l':List α} {n n':Nat} {k:α->R} (h:l=l') (h':n=n'):aY l n k=aY l' n' k:=by rw [h,h']
@[congr] theorem aaK {cfg:bi} {f:FuncId} {as0 as0':List V} {k:V->R} (h:as0=as0'):aE cfg f as0 k=aE cfg f as0' k:=by rw [h]
@[congr] theorem aaH {es es':List (V × V)} {key key':V} {kn:R} {ks:V->R} (h:es=es') (h':key=key'):kv es key kn ks=kv es' key' kn ks:=by rw [h,h']
@[congr] theorem aaJ {α:Type} {o o':Option α} {k:α->R} (h:o=o'):bh o k=bh o' k:=by rw [h]
@[congr] theorem aaz {k:Bool->R} (h:v=v'):kB v k=kB v' k:=by rw [h]
@[congr] theorem aaB {j:IntKind} {k:Int->R} (h:v=v'):kI j v k=kI j v' k:=by rw [h]
@[congr] theorem aaF {k:List UInt8->R} (h:v=v'):kS v k=kS v' k:=by rw [h]
@[congr] theorem aaC {k:List V->R} (h:v=v'):kL v k=kL v' k:=by rw [h]
@[congr] theorem aay {k:List V->R} (h:v=v'):kA v k=kA v' k:=by rw [h]
@[congr] theorem aaG {k:List V->R} (h:v=v'):kT v k=kT v' k:=by rw [h]
@[congr] theorem aaA {e:TypeId} {k:List V->R} (h:v=v'):kF e v k=kF e v' k:=by rw [h]
@[congr] theorem aaL {l l':List V} {k:V->List V->R} (h:l=l'):bO l k=bO l' k:=by rw [h]
@[congr] theorem aaM {l l':List V} {k:R} (h:l=l'):dR l k=dR l' k:=by rw [h]
end
theorem dV {a b:Int} (h:a=b):(a==b)=true:=by rw [h];simp
theorem eK {a b:Int} (h:a≠b):(a==b)=false:=by simpa using h
theorem lU {a b:Int} (h:a≠b):(a != b)=true:=by simpa using h
theorem d0 {a b:Int} (h:a=b):(a != b)=false:=by rw [h];simp
theorem GN (k:Nat):((k:Int) - 1).toNat=k - 1:=by omega
theorem GM (k:Nat):((k:Int)+1).toNat=k+1:=by omega
abbrev Bs:=List UInt8
abbrev lt (a b:Bs):Bool:=Op.bytesLess a b
theorem iw (a:Bs):lt a a=false:=by
 induction a with
 | nil=>rfl
 | cons x a ih=>simp only [lt,Op.bytesLess] at ih |-;simp [ih]
theorem lt_trans {a b c:Bs} (h:lt a b=true) (h':lt b c=true):lt a c=true:=by
 induction a generalizing b c with
 | nil =>
  cases c with
  | nil=>cases b<;>simp [Op.bytesLess] at h'
  | cons y c=>rfl
 | cons x a ih =>
  cases b with
  | nil=>simp [Op.bytesLess] at h
  | cons y b =>
   cases c with
   | nil=>simp [Op.bytesLess] at h'
   | cons z c =>
    simp only [lt,Op.bytesLess,mTz,decide_eq_true_eq,bv,beq_iff_eq] at h h' |-
    rcases h with h | ⟨rfl,h⟩
    ·rcases h' with h' | ⟨rfl,h'⟩
     ·exact .inl (UInt8.lt_trans h h')
     ·exact .inl h
    ·rcases h' with h' | ⟨rfl,h'⟩
     ·exact .inl h'
     ·exact .inr ⟨rfl,ih h h'⟩
theorem m9 {a b:Bs} (h:lt a b=false) (hn:a≠b):lt b a=true:=by
 induction a generalizing b with
 | nil =>
  cases b with
  | nil=>exact (hn rfl).elim
  | cons y b=>simp [Op.bytesLess] at h
 | cons x a ih =>
  cases b with
  | nil=>rfl
  | cons y b =>
   simp only [lt,Op.bytesLess,re,decide_eq_false_iff_not,Bool.and_eq_false_imp,beq_iff_eq,mTz,decide_eq_true_eq,bv] at h |-
   by_cases e:x=y
   ·subst e
    exact .inr ⟨rfl,ih (h.2 rfl) (fun e=>hn (by rw [e]))⟩
   ·left
    rcases UInt8.lt_or_lt_of_ne e with h1 | h1
    ·exact (h.1 h1).elim
    ·exact h1
theorem l7 {a b:Bs} (h:lt a b=true):lt b a=false:=by
 cases h':lt b a with
 | false=>rfl
 | true=>have:=lt_trans h h';rw [iw] at this;cases this
theorem KL (a b:Bs):(Op.bytesLess a b || a==b) = !(lt b a):=by
 by_cases e:a=b
 ·subst e;simp [iw]
 ·have e2:(a==b)=false:=by simpa using e
  rw [e2,rh]
  cases h:Op.bytesLess a b with
  | true=>rw [l7 h];rfl
  | false=>rw [m9 h e];rfl
def ut:List V->Option (List (List V))
 | [.ref (.sl a) 0,.ref (.sl b) 0]=>if a.length<=16777216/\a.all V.one=true/\b.all V.one=true then some (List.zipWith (fun x y=>[x,y]) a b) else none
 | _=>none
def oR (s:Bs) (n:Nat) (t:Bs):Bs:=s.take n++t++s.drop (n+t.length)
def u9:List V->Option V
 | [.str s,.int .i64 n,.sl l]=>if 0<=n/\n.toNat+l.length<=s.length then (fM l).map fun ns=>.str (oR s n.toNat (ns.map fun x=>UInt8.ofNat x.toNat)) else none
 | _=>none
theorem Av (s:Bs):fM (dC s)=some (s.map fun b=>(b.toNat:Int)):=by
 induction s with
 | nil=>rfl
 | cons b s ih =>
  have:dC (b::s) = .int .u8 (b.toNat:Int)::dC s:=rfl
  rw [this]
  simp only [fM,ih,cg,dj]
theorem Aw (s:Bs):(s.map fun b=>(b.toNat:Int)).map (fun n=>UInt8.ofNat n.toNat)=s:=by
 induction s with
 | nil=>rfl
 | cons b s ih=>simp only [dj,ih,Int.toNat_natCast];congr 1;exact UInt8.ofNat_toNat
theorem B9 (s:Bs):(dC s).length=s.length:=by simp [dC]
theorem Z8 (s:Bs):dp 1 (dC s)=true:=by
 unfold dp dC
 simp [V.cells]
theorem Wk (l:List Int):fM (l.map fun n=>V.int .u8 n)=some l:=by
 induction l with
 | nil=>rfl
 | cons b s ih=>simp only [fM,dj,ih,cg]
def dH:Bs->Nat
 | []=>0
 | b::s=>b.toNat+256 * dH s
def bW:Nat->Nat->Bs
 | 0,_=>[]
 | k+1,n=>UInt8.ofNat (n % 256)::bW k (n / 256)
theorem d5:∀k n,(bW k n).length=k
 | 0,_=>rfl
 | k+1,n=>by simp [bW,d5 k]
theorem Br:∀s,dH s < 256 ^ s.length
 | []=>by decide
 | b::s=>by
  have h1:=Br s
  have h2:=b.toNat_lt
  simp only [dH,cL,yz]
  omega
theorem Oi (c:UInt8):∀s,dH (s++[c])=dH s+c.toNat * 256 ^ s.length
 | []=>by simp [dH]
 | b::s=>by
  simp only [dv,dH,Oi c s,cL,yz,Nat.mul_add]
  have:256 * (c.toNat * 256 ^ s.length)=c.toNat * (256 ^ s.length * 256):=by
   rw [yx 256,Nat.mul_assoc]
  omega
theorem Bq:∀k n,n < 256 ^ k->dH (bW k n)=n
 | 0,n,h=>by
  have:n=0:=by simpa using h
  subst this;rfl
 | k+1,n,h=>by
  have h1:n / 256 < 256 ^ k:=by
   rw [yz] at h
   exact Nat.div_lt_of_lt_mul (by rw [yx];exact h)
  simp only [bW,dH,Bq k _ h1]
  have:(UInt8.ofNat (n % 256)).toNat=n % 256:=by simp
  omega
theorem KJ:∀s,bW s.length (dH s)=s
 | []=>rfl
 | b::s=>by
  have h2:=b.toNat_lt
  have e1:(b.toNat+256 * dH s) % 256=b.toNat:=by omega
  have e2:(b.toNat+256 * dH s) / 256=dH s:=by omega
  simp only [dH,cL,bW,e1,e2,KJ s]
  congr 1
  exact UInt8.ofNat_toNat
theorem KH:∀k n,bW (k+1) n=bW k n++[UInt8.ofNat (n / 256 ^ k % 256)]
 | 0,n=>by simp [bW]
 | k+1,n=>by
  show UInt8.ofNat (n % 256)::bW (k+1) (n / 256)=_
  rw [KH k]
  simp only [bW,dv]
  rw [Nat.div_div_eq_div_mul,yz,yx 256]
theorem AE (i:Nat):2 ^ (8 * i)=256 ^ i:=by rw [Nat.pow_mul]
theorem Wz {x c i:Nat} (hx:x < 256 ^ i) (hc:c < 256) (hi:i < 8) :
  W .u64 (((BitVec.ofInt (IntKind.bits .u64) (x:Int) ||| BitVec.ofInt (IntKind.bits .u64) (W .u64 (W .u64 (c:Int) * 2 ^ (min (W .i64 (8 * (i:Int))).toNat (IntKind.bits .u64))))).toNat:Nat):Int)=((x+c * 256 ^ i:Nat):Int):=by
 have e1:W .i64 (8 * (i:Int))=8 * (i:Int):=aX (by omega)
 have e2:(8 * (i:Int)).toNat=8 * i:=by omega
 have e3:min (8 * i) (IntKind.bits .u64)=8 * i:=by
  have:IntKind.bits .u64=64:=rfl
  omega
 have hp:256 ^ i * 256<=256 ^ 8:=by
  rw [<-yz];exact Nat.pow_le_pow_right (by decide) (by omega)
 have hc2:c * 256 ^ i+256 ^ i<=256 ^ i * 256:=by
  have:(c+1) * 256 ^ i<=256 * 256 ^ i:=cO _ hc
  rw [jX] at this
  rw [yx (256 ^ i)];exact this
 have h64:(256:Nat) ^ 8=18446744073709551616:=by decide
 rw [h64] at hp
 have e4:W .u64 (c:Int)=(c:Int):=lG (by omega)
 rw [e1,e2,e3,e4]
 have e5:(c:Int) * 2 ^ (8 * i)=((c * 256 ^ i:Nat):Int):=by
  rw [<-AE,Int.natCast_mul,Int.natCast_pow];rfl
 rw [e5]
 have e6:W .u64 ((c * 256 ^ i:Nat):Int)=((c * 256 ^ i:Nat):Int):=lG (by omega)
 rw [e6]
 have e7:∀m:Nat,m < 18446744073709551616->(BitVec.ofInt (IntKind.bits .u64) (m:Int)).toNat=m:=by
  intro m hm
  rw [BitVec.toNat_ofInt]
  have:IntKind.bits .u64=64:=rfl
  rw [this]
  omega
 rw [BitVec.toNat_or,e7 x (by omega),e7 _ (by omega)]
 have e8:x ||| c * 256 ^ i=x+c * 256 ^ i:=by
  have:=Nat.shiftLeft_add_eq_or_of_lt (i:=8 * i) (b:=x) (by rw [AE];exact hx) c
  rw [Nat.shiftLeft_eq,AE] at this
  rw [Nat.or_comm,<-this,py]
 rw [e8]
 exact lG (by omega)
theorem Gl {n i:Nat} (hi:i<=8):(n:Int).fdiv (2 ^ (min (W .i64 (8 * (i:Int))).toNat (IntKind.bits .u64)))=((n / 256 ^ i:Nat):Int):=by
 have e1:W .i64 (8 * (i:Int))=8 * (i:Int):=aX (by omega)
 have e2:(8 * (i:Int)).toNat=8 * i:=by omega
 have e3:min (8 * i) (IntKind.bits .u64)=8 * i:=by
  have:IntKind.bits .u64=64:=rfl
  omega
 rw [e1,e2,e3]
 have e5:(2:Int) ^ (8 * i)=((256 ^ i:Nat):Int):=by rw [<-AE,Int.natCast_pow];rfl
 rw [e5,OK _ (G9 _)]
 rfl
theorem HD (n:Nat):W .u8 (n:Int)=((n % 256:Nat):Int):=by
 have e:IntKind.signed .u8=false:=rfl
 have e1:IntKind.bits .u8=8:=rfl
 unfold W IntKind.wrap
 simp only [e,e1,mr,cK,if_false]
 omega
section
variable {P:Program} {Z:Zs} {w:World}
theorem MO (P:Program) (g o:Nat) (t:TypeId) (fz:Nat × Nat):∀(vs:List Value) (i:Nat) (cur:Array Value) (w:World),w.heap[g]? = some (.cells cur t fz)->cur.size<=fz.1->o+i+vs.length<=cur.size->(∀v∈vs,v.oneCell'=true) ->
  (storeCells ⟨g,o,none⟩ vs i).run P w = .ok () (w.setRow g (cur.toList.take (o+i)++vs++cur.toList.drop (o+i+vs.length)).toArray)
 | [],i,cur,w,hg,_,_,_=>by
  simp only [storeCells,dA,fR,dK,ig,G4]
  rw [setRow_self w g cur t fz hg]
  rfl
 | v::rest,i,cur,w,hg,hfz,hl,h1=>by
  have hi:o+i < cur.size:=by simp at hl;omega
  have hadd:(⟨g,o,none⟩:Addr).add i=⟨g,o+i,none⟩:=by unfold Addr.add;split<;>simp_all
  have hcell:w.cell? ⟨g,o+i,none⟩=some cur[o+i]:=by simp [World.cell?,hg,hi]
  have hfro:w.frozen? ⟨g,o+i,none⟩=false:=by
   obtain ⟨lo,hi'⟩:=fz
   simp only [World.frozen?,hg,Bool.and_eq_false_iff,decide_eq_false_iff_not]
   left
   simp only at hfz
   omega
  have hst:(store ((⟨g,o,none⟩:Addr).add i) v).run P w = .ok () (w.setRow g (cur.setIfInBounds (o+i) v)):=by
   rw [hadd,run_store P w _ v _ (h1 v (by simp)),hcell]
   simp [hfro,setCell_eq_setRow w g (o+i) cur t fz v hg]
  have ih:=MO P g o t fz rest (i+1) (cur.setIfInBounds (o+i) v) (w.setRow g (cur.setIfInBounds (o+i) v)) (setRow_heap w g cur _ t _ hg) (by simpa using hfz) (by simp at hl |-;omega) (fun x hx=>h1 x (by simp [hx]))
  simp only [storeCells,Sem.run_bind,hst,Result.andThen_ok,ih,setRow_setRow]
  congr 3
  have e:=list_seg_step cur.toList (o+i) v rest (by simp at hl |-;omega)
  simpa [Array.toList_setIfInBounds,gT] using e
theorem Zn {g p:Nat} {us:Array Value} {t:TypeId} {fz:Nat × Nat} {vals:List Value} (hg:w.heap[g]? = some (.cells us t fz)) (hp:p+vals.length<=us.size) :
  (w.setRow g (us.toList.take p++vals++us.toList.drop (p+vals.length)).toArray).heap[g]? = some (.cells (us.toList.take p++vals++us.toList.drop (p+vals.length)).toArray t fz) /\
  ∀o,(w.setRow g (us.toList.take p++vals++us.toList.drop (p+vals.length)).toArray).cell? ⟨g,o,none⟩=if p<=o/\o < p+vals.length then vals[o - p]? else us[o]?:=by
 have hg':=setRow_heap w g us (us.toList.take p++vals++us.toList.drop (p+vals.length)).toArray t fz hg
 refine ⟨hg',fun o=>?_⟩
 rw [eG hg']
 have hto:(us.toList.take p).length=p:=by simp;omega
 simp only [ym,bu]
 by_cases h1:o < p
 ·rw [if_neg (by omega),db (by omega),gI,if_pos h1]
  simp
 ·rw [cY (by omega),hto]
  by_cases h2:o < p+vals.length
  ·rw [if_pos (by omega),db (by omega)]
  ·rw [if_neg (by omega),cY (by omega),gf]
   simp only [ye]
   congr 1
   omega
theorem EK:∀{a b:List V} {x y:List Int},fM a=some x->fM b=some y->fM (a++b)=some (x++y)
 | [],b,x,y,h,h2=>by cases h;exact h2
 | v::a,b,x,y,h,h2=>by
  cases v with
  | int k n =>
   cases k with
   | u8 =>
    simp only [fM,omi] at h
    obtain ⟨x',h1,rfl⟩:=h
    simp only [dv,fM,EK h1 h2,cg]
   | _=>simp [fM] at h
  | _=>simp [fM] at h
structure Hs (P:Program) (f:FuncId) (st t e:TypeId):Prop where
 string:P.underlying st=some .string
 row:P.underlying t=some (.slice e)
 byte:P.underlying e=some (.int .u8)
 one:P.cellsOf e=1
 walk:∀(b:ByteArray) (n L c:Nat) (A:Option Addr) (w w2:World) (r:Value),n<=b.size->b.size<=grownCap w b.size 0 e ->
  (∀ty o,o=n∨grownCap w b.size 0 e=n->(Builtin.copy_ #[t,t] ty #[.slice (some ⟨w.heap.size,o,none⟩) (b.size - n) (grownCap w b.size 0 e - n),.slice A L c]).run P (Lib.bytesWorld w e b) = .ok (goInt L) w2) ->
  (convert t st (.slice (some ⟨w.heap.size,0,none⟩) b.size (grownCap w b.size 0 e))).run P w2 = .ok r w2 ->
  Calls P f #[.string b,.int .i64 (n:Int),.slice A L c] w fun e w'=>e = .returned r/\w'=w2
theorem WI {f:FuncId} {st t e:TypeId} (W:Hs P f st t e):gh P fun f' as0=>if f'=f then u9 as0 else none:=by
 intro f' as0 r h aR Z w us hzin ha
 simp only at h
 by_cases hf:f'=f
 rotate_left
 ·rw [if_neg hf] at h;cases h
 subst hf
 rw [if_pos rfl] at h
 unfold u9 at h
 split at h
 rotate_left
 ·cases h
 rename_i s n l
 split at h
 rotate_left
 ·cases h
 rename_i hc
 obtain ⟨hn0,hnl⟩:=hc
 simp only [omi] at h
 obtain ⟨ns,hns,rfl⟩:=h
 obtain ⟨hl,hv⟩:=ha
 match us,hl,hv with
 | [u0,u1,u2],hl,hv =>
 have h0:=hv 0 (.str s) u0 rfl rfl
 have h1:=hv 1 (.int .i64 n) u1 rfl rfl
 have h2:=hv 2 (.sl l) u2 rfl rfl
 obtain ⟨b,rfl,rfl⟩:=h0.strInv
 cases h1
 obtain ⟨m,rfl⟩:∃m:Nat,n=(m:Int):=⟨n.toNat,by omega⟩
 rw [bl] at hnl |-
 have hbs:b.data.toList.length=b.size:=BC
 rw [hbs] at hnl
 obtain ⟨q1,q2⟩:=EM hns
 obtain ⟨w1,hw1⟩:∃w1,w1=Lib.bytesWorld w e b:=⟨_,rfl⟩
 have hz1:be Z w Z w1:=by
  refine .of fun g o hz=>⟨hz,?_⟩
  rw [hw1]
  exact gC (Lib.bytesWorld_at_old w e b g (hzin g o hz)) o
 have hsz1:w1.heap.size=w.heap.size+1:=by rw [hw1];exact Lib.bytesWorld_size w e b
 have hg1:w1.heap[w.heap.size]? = some (.cells (Lib.bytesCells w e b) e ((Lib.bytesCells w e b).size,(Lib.bytesCells w e b).size+1)):=by rw [hw1];exact Lib.bytesWorld_at_new w e b
 have hcap:=grownCap_ge w b.size 0 e
 have hcs:(Lib.bytesCells w e b).size=grownCap w b.size 0 e:=by
  unfold Lib.bytesCells
  simp only [yf,Array.size_map,Array.size_replicate]
  have:b.data.size=b.size:=rfl
  omega
 have s1:SR P Z w1 j0 []:=⟨fun id o h=>by simp at h,fun id id' o o' g h=>by simp at h,fun _ _=>rfl,fun g o hz=>by have:=hzin g o hz;omega⟩
 have h2':VR Z w1 j0 (.sl l) u2:=h2.mono hz1 (aQ.refl _)
 have hpos:0 < P.cellsOf e:=by rw [W.one];decide
 have hall:∀y∈l,y.cells.length=P.cellsOf e:=by
  intro y hy
  obtain ⟨k,hk⟩:=vT hy
  have hkn:k < ns.length:=by rw [q1];exact (bj.1 hk).1
  have:=q2 k _ (bC hkn)
  rw [hk] at this
  cases this
  rw [W.one];rfl
 obtain ⟨news,hA,hnr⟩:=B3 s1 (t:=t) (tx:=t) (x:=.sl l) (by simp [kK]) W.row hpos (xs:=l) rfl hall h2'
 obtain ⟨i,hi,his,_⟩:=sj hpos
 obtain ⟨A,c,rfl,_⟩:=rO s1 (x:=.sl l) (xs:=l) rfl h2'
 have hlen:=hA.len w1
 have hsize:=hA.size
 rw [W.one] at hnr hsize
 rw [jW] at hsize
 have hmin:Nat.min l.length (b.size - m)=l.length:=vZ (by omega)
 have hfc:=hA.cells l.length w1 (bG _) rfl
 rw [<-his] at hfc
 have his1:i.size=1:=by rw [his,W.one]
 have htk:news.take (l.length * i.size)=news:=kE (by rw [his1];omega)
 rw [htk] at hfc
 have hpl:m+news.length<=(Lib.bytesCells w e b).size:=by omega
 have hone:∀v∈news,v.oneCell'=true:=hA.one
 have hst:=MO P w.heap.size m e _ news 0 _ w1 hg1 (bG _) (by simpa using hpl) hone
 simp only [dK] at hst
 obtain ⟨w2,hw2⟩:∃w2,w2=w1.setRow w.heap.size ((Lib.bytesCells w e b).toList.take m++news++(Lib.bytesCells w e b).toList.drop (m+news.length)).toArray:=⟨_,rfl⟩
 obtain ⟨hg2,hcell⟩:=Zn (w:=w1) (p:=m) (vals:=news) hg1 hpl
 rw [<-hw2] at hg2 hcell hst
 have hcopy:∀ty o,o=m∨grownCap w b.size 0 e=m->(Builtin.copy_ #[t,t] ty #[.slice (some ⟨w.heap.size,o,none⟩) (b.size - m) (grownCap w b.size 0 e - m),.slice A l.length c]).run P w1 = .ok (goInt l.length) w2:=by
  intro ty o ho
  have:(Builtin.copy_ #[t,t] ty #[.slice (some ⟨w.heap.size,o,none⟩) (b.size - m) (grownCap w b.size 0 e - m),.slice A l.length c]).run P w1=((storeCells ⟨w.heap.size,o,none⟩ news).run P w1).andThen fun _ w1=>.ok (goInt l.length) w1:=by
   simp [Builtin.copy_,run_underlying W.row,hlen,sizeOf,typeInfo,hi,hmin,hfc]
  rw [this]
  rcases ho with rfl | ho
  ·rw [hst];rfl
  ·have hn0:news=[]:=pw (by omega)
   have he:w2=w1:=by
    rw [hw2,hn0]
    simp only [dA,fR,dK,ig,G4]
    exact setRow_self w1 w.heap.size _ e _ hg1
   rw [hn0,he]
   rfl
 have hot:∀k,k < w.heap.size->w2.heap[k]? = w.heap[k]?:=by
  intro k hk
  rw [hw2,setRow_other w1 w.heap.size k _ (by omega),hw1,Lib.bytesWorld_at_old w e b k hk]
 have hz2:be Z w Z w2:=.of fun g o hz=>⟨hz,gC (hot g (hzin g o hz)) o⟩
 obtain ⟨l2,hl2⟩:∃l2,l2=(dC (b.data.toList.take m)++l)++dC (b.data.toList.drop (m+l.length)):=⟨_,rfl⟩
 have hl2n:fM l2=some (((b.data.toList.take m).map (fun b=>(b.toNat:Int))++ns)++(b.data.toList.drop (m+l.length)).map (fun b=>(b.toNat:Int))):=by
  rw [hl2]
  exact EK (EK (Av _) hns) (Av _)
 have hl2l:l2.length=b.size:=by
  rw [hl2]
  simp only [c8,B9,gq,gg,hbs]
  omega
 have htext:tB P e l2=some (.str (oR b.data.toList m (ns.map fun x=>UInt8.ofNat x.toNat))):=by
  unfold tB
  rw [W.byte]
  simp only
  rw [hl2n,cg,gJ,gJ,Aw,Aw]
  unfold oR
  rw [dO,q1]
 have hbc:∀(k:Nat) (x:V),(dC b.data.toList)[k]? = some x->∃z:Int,x=V.int .u8 z/\(Lib.bytesCells w e b)[k]? = some (Value.int .u8 z):=by
  intro k x hx
  obtain ⟨c',hc',rfl⟩:=y6 hx
  refine ⟨_,rfl,?_⟩
  have aC:k < b.data.size:=by have:=(bj.1 hc').1;simpa using this
  unfold Lib.bytesCells
  rw [GZ (by simpa using aC),Bz]
  have:b.data[k]? = some c':=by rw [<-hc'];simp
  rw [this];rfl
 have hel:∀(k:Nat) (y:V),l2[k]? = some y->∃z:Int,y=V.int .u8 z/\w2.cell? ⟨w.heap.size,k,none⟩=some (Value.int .u8 z):=by
  intro k y hy
  rw [hcell,hsize]
  have hto:(dC (b.data.toList.take m)).length=m:=by rw [B9,gq,hbs];omega
  rw [hl2,bu] at hy
  by_cases k1:k < m
  ·rw [if_neg (by omega)]
   rw [db (by omega)] at hy
   apply hbc
   rw [<-hy]
   unfold dC
   rw [List.map_take,gI,if_pos k1]
  ·rw [cY (by omega),hto] at hy
   by_cases k2:k < m+l.length
   ·rw [if_pos (by omega)]
    rw [db (by omega)] at hy
    have hkn:k - m < ns.length:=by omega
    have:=q2 (k - m) _ (bC hkn)
    rw [hy] at this
    cases this
    obtain ⟨_,u,hu,hvu⟩:=hnr (k - m) _ 0 _ hy rfl
    rw [jW,dK] at hu
    cases hvu
    exact ⟨_,rfl,hu⟩
   ·rw [if_neg (by omega)]
    rw [cY (by omega)] at hy
    apply hbc
    rw [<-hy]
    unfold dC
    rw [List.map_drop,gf]
    congr 1
    omega
 obtain ⟨r,hr1,hr2⟩:=N6 (P:=P) (Z:=Z) (w:=w2) (j:=j0) (A:=some ⟨w.heap.size,0,none⟩) (c:=grownCap w b.size 0 e) W.row W.string htext (.inr ⟨w.heap.size,0,1,rfl,Nat.one_pos,fun k y hk=>by
  obtain ⟨z,rfl,hz⟩:=hel k y hk
  refine ⟨rfl,fun i x hx=>?_⟩
  cases i with
  | succ i=>simp [V.cells] at hx
  | zero =>
   simp [V.cells] at hx
   subst hx
   exact ⟨rfl,_,by simpa using hz,.int⟩⟩)
 rw [hl2l] at hr1
 refine (W.walk b m l.length c A w w2 r (by omega) hcap (by rw [<-hw1];exact hcopy) hr1).mono fun x w' hx=>?_
 obtain ⟨rfl,rfl⟩:=hx
 refine ⟨r,Z,rfl,hr2,?_⟩
 refine ⟨?_,?_,?_,?_,fun g hg=>⟨hot g hg,fun _=>Iff.rfl⟩,fun g o hz=>?_,rfl,rfl⟩
 ·rw [hw2,hw1];rfl
 ·rw [hw2,hw1];rfl
 ·rw [hw2,hw1];rfl
 ·rw [hw2];simp;omega
 ·have:=hzin g o hz
  rw [hw2];simp;omega
end
end Go.Lite
namespace Go.Lite
open Go Go.Sort
def iV (n:Int):V:=.int .i64 n
def intOf:V->Option Int
 | .int .i64 n=>some n
 | _=>none
def qd (l:List V):Option (List Int):=bo intOf l
theorem Kw:∀l:List Int,qd (l.map iV)=some l
 | []=>rfl
 | x::l=>by
  have:=Kw l
  unfold qd at this |-
  simp [bo,this,iV,intOf]
theorem Kx:∀{l:List V} {xs:List Int},qd l=some xs->l=xs.map iV
 | [],xs,h=>by cases h;rfl
 | v::l,xs,h=>by
  unfold qd at h
  simp only [bo,obi,omi] at h
  obtain ⟨x,hx,ys,hy,rfl⟩:=h
  have e1:v=iV x:=by
   unfold intOf at hx
   split at hx
   ·cases hx;rfl
   grind
  rw [e1,Kx hy]
  rfl
def srt (l:List Int):List Int:=l.mergeSort fun x y=>decide (x<=y)
def zT:V->Option Nat
 | .own id=>some id
 | .tail id off=>if off=0 then some id else none
 | _=>none
theorem Ui {P:Program} {Z:Zs} {w:World} {j:J} {x:V} {id:Nat} {u:Value} (h:zT x=some id) (hv:VR Z w j x u):∃A n c sz,j id=some ⟨.slice A n c,sz⟩/\u = .slice A n c:=by
 cases hv with
 | own hj h0 =>
  cases h
  grind
 | @tail _ id' off n c sz A u hj hn hw =>
  simp only [zT] at h
  split at h
  rotate_left
  ·cases h
  rename_i e
  subst e
  cases h
  cases hw with
  | win hj' hn' hlc hcc ha =>
  grind
 | _=>cases h
def vB (e:TypeId):List V->List O->Option (V × List O)
 | [x],mem=>(zT x).bind fun id =>
  match mem[id]? with
  | some (.row t els 0)=>if t=e/\els.length<=16777216 then (qd els).map fun xs=>(.tup [],mem.set id (.row e ((srt xs).map iV) 0)) else none
  | _=>none
 | _,_=>none
structure SortW (P:Program) (f:FuncId):Prop where
 srt:∀(blk off cap:Nat) (zs:List Int) (w:World),Holds (Value.int .i64) w blk off zs.toArray->blk < w.heap.size->zs.length < 4611686018427387904 ->
  Calls P f #[.slice (some ⟨blk,off,none⟩) zs.length cap] w fun e w'=>e = .returned (.tuple #[])/\∃n os,w'=grow (putRow (Value.int .i64) (Sort.ahead w n) blk off (zs.mergeSort fun x y=>decide (x<=y)).toArray) os
 none:∀(p:Option Addr) (cap:Nat) (w:World),Calls P f #[.slice p 0 cap] w fun e w'=>e = .returned (.tuple #[])/\w'=w
structure aaf (P:Program) (f:FuncId):Prop where
 cut:∀(blk off cap:Nat) (zs:List Int) (w:World),Holds (Value.int .i64) w blk off zs.toArray->zs.length<=9223372036854775807->zs.length<=cap ->
  Calls P f #[.slice (some ⟨blk,off,none⟩) zs.length cap] w fun e w'=>e = .returned (.slice (some ⟨blk,off,none⟩) (Lib.compact zs).length cap)/\∃q,w'=putRow (Value.int .i64) (Sort.ahead w q) blk off (Lib.compact zs++bE (zs.length - (Lib.compact zs).length) 0).toArray
 none:∀(p:Option Addr) (cap:Nat) (w:World),Calls P f #[.slice p 0 cap] w fun e w'=>e = .returned (.slice p 0 cap)/\w'=w
section
variable {P:Program} {Z:Zs} {w:World} {j:J} {mem:List O}
theorem Xg {n g b:Nat} {os:Array Obj} {d:Array Int} {k:Nat} (hk:k≠g):(grow (putRow (Value.int .i64) (Sort.ahead w n) g b d) os).heap[k]? = (grow (Sort.ahead w n) os).heap[k]?:=by
 simp [grow,putRow,mapBlock,Sort.ahead,Array.getElem?_append,Array.getElem?_modify,Ne.symm hk]
theorem Xh {n g b:Nat} {os:Array Obj} {cur:Array Value} {e:TypeId} {fr:Nat × Nat} (d:Array Int) (hb:w.heap[g]? = some (.cells cur e fr)) :
  (grow (putRow (Value.int .i64) (Sort.ahead w n) g b d) os).heap[g]? = some (.cells (Sort.putCells (Value.int .i64) b d cur) e fr):=by
 have hg:g < w.heap.size:=(eX.1 hb).1
 rw [heap_grow_old _ _ (by simp_all)]
 simp [putRow,mapBlock,Sort.ahead,Array.getElem?_modify,hb,onCells]
theorem Xc {cur:Array Value} {d:List Int} {k b:Nat} {x:Int} (hk:d[k]? = some x) (hl:b+d.length<=cur.size):(Sort.putCells (Value.int .i64) b d.toArray cur)[b+k]? = some (.int .i64 x):=by
 have aC:k < d.length:=(bj.1 hk).1
 have hx:d[k]=x:=(bj.1 hk).2
 simp [Sort.putCells,aC,show b+k < cur.size by omega,hx]
theorem T5 {g b:Nat} {us:Array Value} {e:TypeId} {xs:List Int} (hc1:P.cellsOf e=1) (hg:w.heap[g]? = some (.cells us e (0,0)))
  (hcells:∀k x,(xs.map iV)[k]? = some x->dY Z w j0 g (b+k * P.cellsOf e) x.cells):Holds (Value.int .i64) w g b xs.toArray:=by
 intro k hk
 have hk':k < xs.length:=by grind
 refine ⟨?_,by simp [World.frozen?,hg]⟩
 obtain ⟨_,u,hu,hv⟩:=hcells k (iV xs[k]) (by grind) 0 (iV xs[k]) rfl
 cases hv
 grind
theorem T8 {e:TypeId} (hc1:P.cellsOf e=1) (ys:List Int):∀x∈ys.map iV,x.cells.length=P.cellsOf e:=fun x hx=>by
 obtain ⟨y,_,rfl⟩:=dP.1 hx
 rw [hc1];rfl
theorem Y5 (s:SR P Z w j mem) {id:Nat} {e:TypeId} {els:List V} (hm:mem[id]? = some (.row e els 0)) {g b n c:Nat} {us:Array Value} (hc1:P.cellsOf e=1)
  (hju:j id=some ⟨.slice (some ⟨g,b,none⟩) n c,P.cellsOf e⟩) (hg:w.heap[g]? = some (.cells us e (0,0))) (hZ:∀o,¬Z g o) {ys:List Int} (hn:ys.length=n) (hnc:n<=c) (hcm:c<=maxLen) (hus:b+c<=us.size) (q:Nat) (os:Array Obj)
  {v:V} {u:Value} (hv:VR Z (grow (putRow (Value.int .i64) (Sort.ahead w q) g b ys.toArray) os) j v u) :
  cC P Z w j mem v (mem.set id (.row e (ys.map iV) 0)) u (grow (putRow (Value.int .i64) (Sort.ahead w q) g b ys.toArray) os):=by
 obtain ⟨wa,hwa⟩:∃wa,wa=grow (Sort.ahead w q) os:=⟨_,rfl⟩
 have old:∀k,k < w.heap.size->wa.heap[k]? = w.heap[k]?:=fun k hk=>by rw [hwa,heap_grow_old _ _ (by simp_all)];rfl
 have sza:w.heap.size<=wa.heap.size:=by grind
 have za:be Z w Z wa:=.of fun g' o ho=>⟨ho,gC (old g' (s.zin g' o ho)) o⟩
 have sa:SR P Z wa j mem:=s.world za (fun g' hg'=>⟨old g' (bd.lt s hg'),fun _=>Iff.rfl⟩) (fun g' o ho=>n6 (s.zin g' o ho) sza)
 have ta:aI Z w j mem Z wa j mem:=⟨by rw [hwa];rfl,by simp_all,by rw [hwa];rfl,sza,fun g' hg' _=>⟨old g' hg',fun _=>Iff.rfl⟩,fun _ _ h=>h,za,fun _ h=>⟨h,rfl⟩⟩
 obtain ⟨w1,hw1⟩:∃w1,w1=grow (putRow (Value.int .i64) (Sort.ahead w q) g b ys.toArray) os:=⟨_,rfl⟩
 have hg1:w1.heap[g]? = some (.cells (Sort.putCells (Value.int .i64) b ys.toArray us) e (0,0)):=by rw [hw1];exact Xh _ hg
 have hot:∀k,k≠g->w1.heap[k]? = wa.heap[k]?:=fun k hk=>by rw [hw1,hwa];exact Xg hk
 have hsz:w1.heap.size=wa.heap.size:=by simp_all
 have z1:be Z wa Z w1:=by
  refine .of fun g' o ho=>⟨ho,?_⟩
  by_cases hgg:g'=g
  ·grind
  ·exact gC (hot g' hgg) o
 have hne:∀g',cf j id≠some g'->g'≠g:=by
  intro g' h e'
  subst e'
  exact h (by simp [cf,hju,bz.blk])
 have hor:OR P Z w1 j id (.row e (ys.map iV) 0):=by
  refine ⟨_,hju,rfl,by grind,iE _,T8 hc1 ys,.inr ⟨g,b,c,_,by grind,by grind,hcm,hg1,by simp [hc1,Sort.putCells,hus],fun k x hk i y hy=>?_,fun o ho=>(hZ o ho).elim,fun o ho=>by grind⟩⟩
  rw [dB] at hk
  cases hyk:ys[k]? with
  | none=>grind
  | some y0 =>
  rw [hyk] at hk
  cases hk
  cases i with
  | succ i=>cases hy
  | zero =>
  cases hy
  refine ⟨rfl,.int .i64 y0,?_,.int⟩
  rw [eG hg1]
  show (Sort.putCells _ _ _ _)[b+k * P.cellsOf e+0]? = _
  rw [hc1]
  simp only [jW,dK]
  exact Xc hyk (by omega)
 rw [<-hw1] at hv |-
 refine ⟨Z,j,hv,sa.set hm (fun _=>rfl) z1 (fun g' hg'=>⟨hot g' (hne g' hg'),fun _=>Iff.rfl⟩) (fun g' x hx=>by rw [hsz];exact sa.zin g' x hx) (fun h=>by cases h) hor,?_,aQ.refl _⟩
 exact ta.trans (aI.set hm (fun _=>rfl) rfl z1 (fun g' hg'=>⟨hot g' (hne g' hg'),fun _=>Iff.rfl⟩) (by rw [hw1,hwa];rfl) (by simp_all) (by rw [hw1,hwa];rfl) (by grind))
end
theorem Y4 {P:Program} {f:FuncId} {e:TypeId} (W:SortW P f) (hc1:P.cellsOf e=1):eY P fun f' as0 mem=>if f'=f then vB e as0 mem else none:=by
 intro f' as0 mem r mem' h aR Z w j us s ha
 simp only at h
 by_cases hf:f'=f
 rotate_left
 ·grind
 subst hf
 rw [if_pos rfl] at h
 unfold vB at h
 split at h
 rotate_left
 ·cases h
 rename_i x0
 simp only [obi] at h
 obtain ⟨id,hid,h⟩:=h
 split at h
 rotate_left
 ·cases h
 rename_i te els hm
 split at h
 rotate_left
 ·cases h
 rename_i hc
 obtain ⟨rfl,hlen⟩:=hc
 simp only [omi] at h
 obtain ⟨xs,hxs,h⟩:=h
 have:=Kx hxs
 subst this
 cases h
 obtain ⟨hl,hv⟩:=ha
 match us,hl,hv with
 | [u],hl,hv =>
 have hu:=hv 0 x0 u rfl rfl
 obtain ⟨h,hh,h1,h2,h3,h4,h5⟩:=s.obj id _ hm
 obtain ⟨A,n,c,szu,hju,rfl⟩:=Ui (P:=P) hid hu
 rw [hju] at hh
 cases hh
 simp only at h1 h2
 subst h1
 have hlen:xs.length<=16777216:=by grind
 rcases h5 with ⟨hv1,he1⟩ | ⟨g,q,cc,us1,hv1,hlc,hcm,hg,hus,hcells,hz1,hz2⟩
 ·simp only at hv1
  cases hv1
  have hx0:xs=[]:=by grind
  subst hx0
  refine (W.none none 0 w).mono fun x w' hxw=>?_
  obtain ⟨rfl,rfl⟩:=hxw
  refine ⟨_,rfl,?_⟩
  have i7:srt []=[]:=by simp [srt]
  have:mem.set id (.row te ((srt []).map iV) 0)=mem:=by rw [i7];exact vw hm
  rw [this]
  exact dF s (.tup (us:=[]) rfl (fun i c u hc=>by grind))
 ·simp only at hv1
  cases hv1
  have hZ:∀o,¬Z g o:=fun o ho=>by grind
  have hlx:(xs.map iV).length=xs.length:=by simp
  have hH:=T5 (xs:=xs) hc1 hg hcells
  have hC:=W.srt g q c xs w hH (eX.1 hg).1 (by omega)
  rw [<-hlx] at hC
  refine hC.mono fun x w' hxw=>?_
  obtain ⟨rfl,k,os,rfl⟩:=hxw
  refine ⟨_,rfl,?_⟩
  have hus':q+c<=us1.size:=by grind
  exact Y5 s hm hc1 hju hg hZ (ys:=srt xs) (by simp [srt]) hlc hcm hus' k os (.tup (us:=[]) rfl (fun i c u hc=>by grind))
def Gv (e:TypeId) (args:List V) (mem:List O) (k:V->List O->R):R :=
 match args with
 | [x]=>bh (zT x) fun id =>
  match mem[id]? with
  | some (.row t els fz)=>gd (t==e)<|gd (kG fz 0)<|gd (decide (els.length<=16777216))<|bh (qd els) fun xs=>k (.tup []) (mem.set id (.row e ((srt xs).map iV) 0))
  | _=>none
 | _=>none
theorem Y1 {e:TypeId} {args:List V} {mem:List O} {k:V->List O->R} {r:cW} (h:Gv e args mem k=some r):∃v m,vB e args mem=some (v,m)/\k v m=some r:=by
 unfold Gv at h
 split at h
 ·rename_i x
  obtain ⟨id,hid,h⟩:=bD h
  split at h
  ·rename_i t els fz hm
   obtain ⟨p1,h1⟩:=bB h
   obtain ⟨p2,h2⟩:=bB h1
   obtain ⟨p3,h3⟩:=bB h2
   obtain ⟨xs,hx,h4⟩:=bD h3
   clear h h1 h2 h3
   have p1:t=e:=by grind
   have p2:fz=0:=by simp_all
   subst p1 p2
   exact ⟨_,_,by simp only [vB,hid,aJ,hm,if_pos (And.intro trivial (of_decide_eq_true p3)),hx,cg],h4⟩
  grind
 grind
end Go.Lite
namespace Go.Lite
open Go
structure MclW (P:Program) (f:FuncId):Prop where
 cl:∀(b:Nat) (es:Array MapEntry) (clock:Nat) (w:World),w.heap[b]? = some (.map es clock)->Calls P f #[.map (some b)] w fun e w'=>e = .returned (.map (some w.heap.size))/\w'=w.alloc (.map es clock)
def uX:List V->List O->Option (V × List O)
 | [.mp id],mem=>match mem[id]? with
  | some (.map es)=>some (.mp mem.length,mem++[.map es])
  | _=>none
 | _,_=>none
def EB (args:List V) (mem:List O) (k:V->List O->R):R :=
 match args with
 | [.mp id]=>match mem[id]? with
  | some (.map es)=>k (.mp mem.length) (mem++[.map es])
  | _=>none
 | _=>none
theorem VG {args:List V} {mem:List O} {k:V->List O->R} {r:cW} (h:EB args mem k=some r):∃v m,uX args mem=some (v,m)/\k v m=some r:=by
 unfold EB at h
 split at h
 ·rename_i id
  split at h
  ·rename_i es hm
   exact ⟨_,_,by simp only [uX,hm],h⟩
  ·cases h
 ·cases h
theorem VK {P:Program} {f:FuncId} (W:MclW P f):eY P fun f' as0 mem=>if f'=f then uX as0 mem else none:=by
 intro f' as0 mem r mem' h aR Z w j us s ha
 simp only at h
 by_cases hf:f'=f
 rotate_left
 ·rw [if_neg hf] at h;cases h
 subst hf
 rw [if_pos rfl] at h
 unfold uX at h
 split at h
 rotate_left
 ·cases h
 rename_i id
 split at h
 rotate_left
 ·cases h
 rename_i es hm
 cases h
 obtain ⟨hl,hv⟩:=ha
 match us,hl,hv with
 | [u],hl,hv =>
 have hu:=hv 0 (.mp id) u rfl rfl
 obtain ⟨r,es',clock,h1,h2,h3,h4,h5,h6⟩:=s.obj id _ hm
 cases hu with
 | mp hj =>
 rw [h1] at hj
 cases hj
 refine (W.cl r es' clock w h2).mono fun x w' hxw=>?_
 obtain ⟨rfl,rfl⟩:=hxw
 have hz:=be.heap (Z:=Z) (w1:=w.alloc (.map es' clock)) (ob:=.map es' clock) rfl s.zin 0
 obtain ⟨s1,st,je⟩:=s.push (w1:=w.alloc (.map es' clock)) (ob:=.map es' clock) rfl rfl rfl rfl 0 (h:=⟨.map (some w.heap.size),0⟩) (by simp [bz.blk]) (o:=.map es)
  ⟨w.heap.size,es',clock,eU _ _ _,heap_alloc_new w _,h3,fun i a x hi=>by
   obtain ⟨e,e1,e2,e3,e4,e5⟩:=h4 i a x hi
   exact ⟨e,e1,e2,e3,e4.mono hz (aQ.refl _),e5.mono hz (aQ.refl _)⟩,fun o ho=>by
   rcases ho with ho | ho
   ·have:=s.zin _ _ ho;omega
   ·omega,h6⟩
 exact ⟨_,rfl,_,_,.mp (eU _ _ _),s1,st,je⟩
def rI (e:TypeId) (sz:Nat) (args:List V) (mem:List O):Option (V × List O):=(bo (gR mem) args).bind fun as0=>(kQ e sz as0).map fun r=>mh true mem r
theorem P9 {P:Program} {f:FuncId} {e:TypeId} {sz:Nat} (hp:gh P fun f' av=>if f'=f then kQ e sz av else none):eY P fun f' as0 mem=>if f'=f then rI e sz as0 mem else none:=by
 intro f' as0 mem r mem' h aR Z w j us s ha
 simp only at h
 by_cases hf:f'=f
 rotate_left
 ·rw [if_neg hf] at h;cases h
 subst hf
 rw [if_pos rfl] at h
 have hi:eY P fun _ _ _=>none:=fun _ _ _ _ _ h=>nomatch h
 refine (Ca (cfg:={ P:=P,pure:=fun _=>true,adopt:=fun _=>true,pprim:=fun _=>none,iprim:=fun _=>none }) (call:=⟨fun f'' av=>if f''=f' then kQ e sz av else none,fun _ _ _=>none⟩) hp hi (dr:=false) (f:=f') s ?_ ha).2
 unfold rI at h
 simp only [obi,omi] at h
 obtain ⟨as0',h1,r',h2,h3⟩:=h
 have hl:sB r'=false:=by
  unfold kQ at h2
  split at h2
  ·split at h2
   ·cases h2;rfl
   ·cases h2
  ·cases h2
 unfold gN
 rw [aR]
 simp [h1,h2,hl,h3]
def Il (e:TypeId) (sz:Nat) (args:List V) (mem:List O) (k:V->List O->R):R :=
 match args with
 | [.tail id 0]=>match mem[id]? with
  | some (.row _ els _)=>gd (dp sz els)<|gd (els.all fun x=>x.cells.all V.flat1)<|gd (decide (els.length<=16777216))<|k (.own mem.length) (mem++[.row e els 0])
  | _=>none
 | _=>none
theorem P7 {e:TypeId} {sz:Nat} {args:List V} {mem:List O} {k:V->List O->R} {r:cW} (h:Il e sz args mem k=some r):∃v m,rI e sz args mem=some (v,m)/\k v m=some r:=by
 unfold Il at h
 split at h
 ·rename_i id
  split at h
  ·rename_i t els fz hm
   obtain ⟨p1,h1⟩:=bB h
   obtain ⟨p2,h2⟩:=bB h1
   obtain ⟨p3,h3⟩:=bB h2
   refine ⟨_,_,?_,h3⟩
   have he:cy mem (.tail id 0)=some els:=by simp only [cy,hm,pu]
   have hs:bo (gR mem) [.tail id 0]=some [.sl els]:=by simp [bo,gR,fD,dX,he]
   unfold rI
   rw [hs,aJ]
   have hc:kQ e sz [.sl els]=some (.fr e els):=by
    simp only [kQ]
    rw [if_pos ⟨p1,p2,of_decide_eq_true p3⟩]
   rw [hc]
   rfl
  ·cases h
 ·cases h
end Go.Lite
namespace Go.Proofs.YtlphgcjepphhcaaGreat
open Go Go.Lite
def AC:V->Bool
 | .agg cs=>cs.length==6
 | _=>false
def pK (l:List V):List (List V):=(l.zipIdx.map fun x=>[V.int .i64 (x.2:Int),x.1]).reverse
def yV:List V->Option (List (List V))
 | [.ref (.sl l) 0]=>if l.length<=16777216/\l.all AC=true then some (pK l) else none
 | _=>none
def tc (n from0:Int):List (List V):=(dl n.toNat).map fun k:Nat=>[V.int .i64 ((from0+(k:Int)) % n)]
def vq:List V->Option (List (List V))
 | [.ref (.ref (.agg [_,.int .i64 n]) 0) 0,.ref (.int .i64 from0) 0]=>if 0<=n/\n<=16777216/\0<=from0/\from0<=16777216 then some (tc n from0) else none
 | _=>none
def Fg (f:Nat):Option (List V->Option V):=if f=171 then some (kQ 9 1) else if f=173 then some (kQ 3 1) else if f=209 then some u9 else if f=158 then some zc else none
def Fe (f:Nat):Option (List V->List O->Option (V × List O)) :=
 if f=212 then some (qc 9 1) else if f=213 then some (qc 3 1) else if f=170 then some (oq 9) else if f=172 then some (oq 3) else if f=88 then some (vB 3) else if f=97 then some uX else if f=139 then some (rI 5 1) else none
def Fi (f:Nat):Option (List TypeId × (List V->Option (List (List V)))) :=
 if f=192 then some ([3],vq) else if f=211 then some ([3,176],yV) else if f=210 then some ([9,3],ut) else none
def Ml:List Nat:=[42,57,96,26,55,56,60,61,65,66,67,91,92,93,94,95,99,100,103,104,107,109,111,142,143,151,153,202,54,53,22,25,20,27,169,82,78,58,119,84,127,44,50,137,131,180,174,90,89,75,43,87,46,34,85,132,123,124,81,79,128,32,39,33,40,21,24,112,15,28,31]
def Xu:List Nat:=[42,40,39,50,26,55,56,67,91,92,93,94,95,100,103,104,107,143,54,27,124,82,90,58,137,43,87,46,75,34,44,89]
def Xs:List Nat:=[139,97,88,86,52,133,16,17,59,141,19,212,213,170,172,98,179,136,83,36,51,37,164,177,178,68,18]
def Xr (f:Nat):Bool:=Xs.contains f || Ml.contains f
noncomputable def aA:bi:={ P:=Tryz.prog,pure:=fun f=>!Xr f,adopt:=fun f=>([117,171,173]:List Nat).contains f,pprim:=Fg,iprim:=Fe,seqp:=Fi,sqj:=fun f=>f==192,can:=fun f=>if f=85 then some ⟨true,false,true,[3,9]⟩ else if f=132 then some ⟨true,false,true,[3,9]⟩ else if f=96 then some ⟨true,false,true,[1000192]⟩ else if Ml.contains f then some aH else if f=86 then some ⟨true,false,false,[]⟩ else if f=139 then some ⟨true,false,false,[]⟩ else none,ro:=fun f=>Xu.contains f,rxf:=fun f d=>([(87,7000044),(87,7000013),(89,8000003),(123,8000090),(81,8000053),(56,7000013),(56,7000047),(107,8000003),(53,8000047),(53,8000080),(54,8000011),(57,8000003),(96,8000003),(12,8000061),(3,8000113),(85,2000032),(85,2000091),(85,2000018),(85,2000147),(85,2000158),(10,2000184),(10,2000128),(10,2000099)]:List (Nat × Nat)).contains (f,d) }
def Mm (f:Nat) (args:List V) (mem:List O) (k:V->List O->R):R :=
 cond (f==212) (zZ 9 1 args mem k) (cond (f==213) (zZ 3 1 args mem k) (cond (f==170) (zj 9 args mem k) (cond (f==172) (zj 3 args mem k) (cond (f==88) (Gv 3 args mem k) (cond (f==97) (EB args mem k) none)))))
def HU:List V->Option V
 | [.sl l]=>some (.fn 211 [.ref (.sl l) 0])
 | _=>none
def zR (t:TypeId) (cs:List V):Option (List UInt8 × Int) :=
 if t=120 then (match cs with | [.sl _,.str h,.int .i64 n]=>some (h,n) | _=>none)
 else if t=150 then (match cs with | [.sl _,.sl _,.str h,.int .i64 n]=>some (h,n) | _=>none) else none
def DR (t:TypeId) (cs:List V) (w:Bool) (g:List UInt8 × Int):Option V :=
 if t=120 then (match cs with | [.sl p,.str h,.int .i64 _]=>some (.ifc 120 (.agg [.sl p,.str (cond w g.1 h),.int .i64 g.2])) | _=>none)
 else if t=150 then (match cs with | [.sl s,.sl k,.str h,.int .i64 _]=>some (.ifc 150 (.agg [.sl s,.sl k,.str (cond w g.1 h),.int .i64 g.2])) | _=>none) else none
def DU:List V->Option V
 | [.ifc t (.agg xs),.ifc t' (.agg gs),.bool w]=>(zR t' gs).bind fun g=>DR t xs w g
 | _=>none
def Fh (f:Nat):Option (List V->Option V):=if f=166 then some HU else if f=125 then some DU else none
def JL:FA:=⟨0,0,[],[],.skip⟩
theorem im {P:Program} {r:Nat->Bool} {f:Nat} (h:(fH P r f).isSome=true):fH P r f=some ((fH P r f).getD JL):=by
 cases hf:fH P r f with
 | none=>rw [hf] at h;cases h
 | some x=>rfl
noncomputable def vk:KC:={ cfg:=aA,frs:=fun _=>true,ik:=Mm }
theorem nG:ge vk:=by
 refine ⟨?_,fun _ _ _ _ _ _ h=>nomatch h⟩
 intro f av mem k r h
 rcases bn h with ⟨e,h⟩ | ⟨_,h⟩
 ·have e:f=212:=by simpa using e
  subst e
  obtain ⟨v,m,h1,h2⟩:=Ku h
  exact ⟨v,m,sh (cfg:=aA) (g:=qc 9 1) rfl h1,h2⟩
 rcases bn h with ⟨e,h⟩ | ⟨_,h⟩
 ·have e:f=213:=by simpa using e
  subst e
  obtain ⟨v,m,h1,h2⟩:=Ku h
  exact ⟨v,m,sh (cfg:=aA) (g:=qc 3 1) rfl h1,h2⟩
 rcases bn h with ⟨e,h⟩ | ⟨_,h⟩
 ·have e:f=170:=by simpa using e
  subst e
  obtain ⟨v,m,h1,h2⟩:=Iv h
  exact ⟨v,m,sh (cfg:=aA) (g:=oq 9) rfl h1,h2⟩
 rcases bn h with ⟨e,h⟩ | ⟨_,h⟩
 ·have e:f=172:=by simpa using e
  subst e
  obtain ⟨v,m,h1,h2⟩:=Iv h
  exact ⟨v,m,sh (cfg:=aA) (g:=oq 3) rfl h1,h2⟩
 rcases bn h with ⟨e,h⟩ | ⟨_,h⟩
 ·have e:f=88:=by simpa using e
  subst e
  obtain ⟨v,m,h1,h2⟩:=Y1 h
  exact ⟨v,m,sh (cfg:=aA) (g:=vB 3) rfl h1,h2⟩
 rcases bn h with ⟨e,h⟩ | ⟨_,h⟩
 ·have e:f=97:=by simpa using e
  subst e
  obtain ⟨v,m,h1,h2⟩:=VG h
  exact ⟨v,m,sh (cfg:=aA) (g:=uX) rfl h1,h2⟩
 cases h
noncomputable def JM:FA:=(fH Tryz.prog (fun _=>false) 166).getD ⟨0,0,[],[],.skip⟩
theorem Tb:fH aA.P (aA.rxf 166) 166=some JM:=by kernel_rfl
theorem SS (l:List V):k6 vk false JM [.sl l] []=some (.done (.fn 211 [.ref (.sl l) 0])):=by kernel_rfl
theorem Po (l:List V):bK aA 166 [.sl l]=some (.fn 211 [.ref (.sl l) 0]):=nD nG rfl Tb (SS l) (.refl _)
noncomputable def wS:FA:=(fH Tryz.prog (fun _=>false) 125).getD ⟨0,0,[],[],.skip⟩
theorem pX:fH aA.P (aA.rxf 125) 125=some wS:=by kernel_rfl
theorem Ju (p:List V) (h:List UInt8) (n:Int) (p':List V) (h':List UInt8) (n':Int) (w:Bool):k6 vk false wS [.ifc 120 (.agg [.sl p,.str h,.int .i64 n]),.ifc 120 (.agg [.sl p',.str h',.int .i64 n']),.bool w] [] =
  cond w (some (.done (.ifc 120 (.agg [.sl p,.str h',.int .i64 n'])))) (some (.done (.ifc 120 (.agg [.sl p,.str h,.int .i64 n'])))):=by kernel_rfl
theorem Jt (p:List V) (h:List UInt8) (n:Int) (s' k':List V) (h':List UInt8) (n':Int) (w:Bool):k6 vk false wS [.ifc 120 (.agg [.sl p,.str h,.int .i64 n]),.ifc 150 (.agg [.sl s',.sl k',.str h',.int .i64 n']),.bool w] [] =
  cond w (some (.done (.ifc 120 (.agg [.sl p,.str h',.int .i64 n'])))) (some (.done (.ifc 120 (.agg [.sl p,.str h,.int .i64 n'])))):=by kernel_rfl
theorem Js (s k:List V) (h:List UInt8) (n:Int) (p':List V) (h':List UInt8) (n':Int) (w:Bool):k6 vk false wS [.ifc 150 (.agg [.sl s,.sl k,.str h,.int .i64 n]),.ifc 120 (.agg [.sl p',.str h',.int .i64 n']),.bool w] [] =
  cond w (some (.done (.ifc 150 (.agg [.sl s,.sl k,.str h',.int .i64 n'])))) (some (.done (.ifc 150 (.agg [.sl s,.sl k,.str h,.int .i64 n'])))):=by kernel_rfl
theorem Jr (s k:List V) (h:List UInt8) (n:Int) (s' k':List V) (h':List UInt8) (n':Int) (w:Bool):k6 vk false wS [.ifc 150 (.agg [.sl s,.sl k,.str h,.int .i64 n]),.ifc 150 (.agg [.sl s',.sl k',.str h',.int .i64 n']),.bool w] [] =
  cond w (some (.done (.ifc 150 (.agg [.sl s,.sl k,.str h',.int .i64 n'])))) (some (.done (.ifc 150 (.agg [.sl s,.sl k,.str h,.int .i64 n'])))):=by kernel_rfl
theorem T4 {t:TypeId} {cs:List V} {g:List UInt8 × Int} (h:zR t cs=some g):(t=120/\∃p,cs=[.sl p,.str g.1,.int .i64 g.2])∨(t=150/\∃s k,cs=[.sl s,.sl k,.str g.1,.int .i64 g.2]):=by
 unfold zR at h
 split at h
 ·rename_i e
  split at h
  ·cases h;exact .inl ⟨e,_,rfl⟩
  ·cases h
 ·split at h
  ·rename_i e
   split at h
   ·cases h;exact .inr ⟨e,_,_,rfl⟩
   ·cases h
  ·cases h
theorem T1 {t:TypeId} {cs:List V} {w:Bool} {g:List UInt8 × Int} {r:V} (h:DR t cs w g=some r):(t=120/\∃p h n,cs=[.sl p,.str h,.int .i64 n]/\r = .ifc 120 (.agg [.sl p,.str (cond w g.1 h),.int .i64 g.2])) ∨
  (t=150/\∃s k h n,cs=[.sl s,.sl k,.str h,.int .i64 n]/\r = .ifc 150 (.agg [.sl s,.sl k,.str (cond w g.1 h),.int .i64 g.2])):=by
 unfold DR at h
 split at h
 ·rename_i e
  split at h
  ·cases h;exact .inl ⟨e,_,_,_,rfl,rfl⟩
  ·cases h
 ·split at h
  ·rename_i e
   split at h
   ·cases h;exact .inr ⟨e,_,_,_,_,rfl,rfl⟩
   ·cases h
  ·cases h
theorem T2 {av:List V} {r:V} (h:DU av=some r):bK aA 125 av=some r:=by
 unfold DU at h
 split at h
 ·rename_i t xs t' gs w
  cases hg:zR t' gs with
  | none=>rw [hg] at h;cases h
  | some g =>
   rw [hg,aJ] at h
   rcases T1 h with ⟨rfl,p,hh,n,rfl,rfl⟩ | ⟨rfl,s,k,hh,n,rfl,rfl⟩<;>rcases T4 hg with ⟨rfl,p',rfl⟩ | ⟨rfl,s',k',rfl⟩
   ·cases w
    ·exact nD nG rfl pX (Ju _ _ _ _ _ _ _) (.refl _)
    ·exact nD nG rfl pX (Ju _ _ _ _ _ _ _) (.refl _)
   ·cases w
    ·exact nD nG rfl pX (Jt _ _ _ _ _ _ _ _) (.refl _)
    ·exact nD nG rfl pX (Jt _ _ _ _ _ _ _ _) (.refl _)
   ·cases w
    ·exact nD nG rfl pX (Js _ _ _ _ _ _ _ _) (.refl _)
    ·exact nD nG rfl pX (Js _ _ _ _ _ _ _ _) (.refl _)
   ·cases w
    ·exact nD nG rfl pX (Jr _ _ _ _ _ _ _ _ _) (.refl _)
    ·exact nD nG rfl pX (Jr _ _ _ _ _ _ _ _ _) (.refl _)
 ·cases h
theorem Xt {f:Nat} {g:List V->Option V} {av:List V} {r:V} (h:Fh f=some g) (h2:g av=some r):bK aA f av=some r:=by
 unfold Fh at h
 split at h
 ·rename_i e
  cases h
  unfold HU at h2
  split at h2
  ·cases h2;rw [e];exact Po _
  ·cases h2
 ·split at h
  ·rename_i e
   cases h
   rw [e];exact T2 h2
  ·cases h
noncomputable def Mn:KC:={ cfg:=aA,frs:=fun _=>true,ik:=Mm,pv:=Fh,pvok:=fun _ _ _ _ h h2=>Xt h h2 }
theorem Xq:ge Mn:=⟨nG.ik,fun _ _ _ _ _ _ h=>nomatch h⟩
abbrev tm (r n:Int) (es:List (V × V)) (b:List V):List O:=[O.box 128 (V.agg [V.ptr 1 0 0,V.int .i64 r]) false,O.box 140 (V.agg [V.ptr 2 0 0,V.mp 3]) false,O.box 192 (V.agg [V.tail 4 0,V.int .i64 n]) true,O.map es,O.row 5 b 0]
abbrev sm (n:Int) (es:List (V × V)) (b:List V):List O:=[O.box 140 (V.agg [V.ptr 1 0 0,V.mp 2]) false,O.box 192 (V.agg [V.tail 3 0,V.int .i64 n]) true,O.map es,O.row 5 b 0]
abbrev bm (n:Int) (b:List V):List O:=[O.box 192 (V.agg [V.tail 1 0,V.int .i64 n]) true,O.row 5 b 0]
abbrev cm (f t l:List UInt8) (r n:Int) (es:List (V × V)) (b:List V):List O:=[O.box 111 (V.agg [V.str f,V.str t,V.str l]) false,O.box 128 (V.agg [V.ptr 2 0 0,V.int .i64 r]) false,O.box 140 (V.agg [V.ptr 3 0 0,V.mp 4]) false,O.box 192 (V.agg [V.tail 5 0,V.int .i64 n]) true,O.map es,O.row 5 b 0]
abbrev mm (r k:Int) (f t l:List UInt8) (n:Int) (es:List (V × V)) (b:List V):List O:=[O.box 128 (V.agg [V.ptr 3 0 0,V.int .i64 r]) false,O.box 3 (V.int .i64 k) false,O.box 43 (V.fn 2069 [V.ptr 4 0 0]) false,O.box 140 (V.agg [V.ptr 5 0 0,V.mp 6]) false,O.box 111 (V.agg [V.str f,V.str t,V.str l]) false,O.box 192 (V.agg [V.tail 7 0,V.int .i64 n]) true,O.map es,O.row 5 b 0]
abbrev lm (r:Int) (sn:List (V × V)) (nx bs:List V) (n:Int) (es:List (V × V)) (b:List V):List O:=[O.box 128 (V.agg [V.ptr 2 0 0,V.int .i64 r]) false,O.box 144 (V.agg [V.mp 3,V.tail 4 0,V.tail 5 0]) false,O.box 140 (V.agg [V.ptr 6 0 0,V.mp 7]) false,O.map sn,O.row 3 nx 0,O.row 9 bs 0,O.box 192 (V.agg [V.tail 8 0,V.int .i64 n]) true,O.map es,O.row 5 b 0]
abbrev ln (r:Int) (i j:Nat) (sn:List (V × V)) (n:Int) (es:List (V × V)) (b:List V):List O:=[O.box 128 (V.agg [V.ptr 2 0 0,V.int .i64 r]) false,O.box 144 (V.agg [V.mp 3,V.tail i 0,V.tail j 0]) false,O.box 140 (V.agg [V.ptr 6 0 0,V.mp 7]) false,O.map sn,O.dead,O.dead,O.box 192 (V.agg [V.tail 8 0,V.int .i64 n]) true,O.map es,O.row 5 b 0]
abbrev fm (sn:List (V × V)) (nx bs:List V):List O:=[O.box 144 (V.agg [V.mp 1,V.tail 2 0,V.tail 3 0]) false,O.map sn,O.row 3 nx 0,O.row 9 bs 0]
abbrev wm (r n:Int) (es:List (V × V)) (b:List V):List O:=[O.box 140 (V.agg [V.ptr 2 0 0,V.mp 3]) false,O.box 128 (V.agg [V.ptr 0 0 0,V.int .i64 r]) false,O.box 192 (V.agg [V.tail 4 0,V.int .i64 n]) true,O.map es,O.row 5 b 0]
end Go.Proofs.YtlphgcjepphhcaaGreat
