/-
  Texts that the last one stands on.
-/
import Derived.Test.YtlphgcjepphhcaaGreatD3
import Derived.Lib.Walk
import Derived.Lib.Overlaps
import Derived.Lib.AppendZerosOnto
import Derived.Laws.Externs
import Derived.Laws.IdiomCopy
import Derived.Laws.CopyRow
import Derived.Lib.Bytealg
import Derived.ProofKit
import Derived.OpenShut
import Derived.Carry
import Derived.ChangeArms
import Derived.ChangeCalls
import Derived.Sort.OwnSortedInts
import Derived.Lib.SlicesCompact
import Derived.Test.YtlphgcjepphhcaaGreatProg
noncomputable section
open Option renaming some->aA,none->aF,bind_some->bk,map_some->du,getD_some->uC
open Go renaming FuncId->bL,TypeId->aO,Program->bu,Operand->fi,World->be,Value->aR,run_firstCells_some->AS,run_storeCells_at->yu,run_underlying->dS,typeInfo->gY,maxLen->f8,setRow_other->oP,grownCap->gv,Oper->dF
open Nat renaming beq->ll,blt->jt,le_refl->c7,blt_eq->o7,eq_of_beq_eq_true->Lv,mul_one->mZ,lt_or_ge->mY,add_zero->fL,zero_le->jQ,add_assoc->jP,sub_mul->qB,mul_le_mul_right->dQ,add_mul->kf,succ_mul->ml,lt_of_lt_of_le->si,zero_add->fY,le_trans->sh,mul_le_mul->BH,sub_self->qC,pow_succ->BI,mul_comm->BG,pow_le_pow_right->Lw,add_comm->sg
open Bool renaming true->aC,false->aD,false_eq_true->dw,and_self->qt,or_eq_true->nS,and_eq_true->co,not_eq_true'->kE,false_and->iZ,not_true->bK,false_ne_true->Lc,or_eq_false_iff->qu,or_false->j9
open List renaming replicate->dh,getElem?_eq_some_iff->bX,drop_eq_getElem_cons->qy,take_succ_cons->o6,take_zero->se,drop_eq_nil_of_le->FI,getElem?_eq_getElem->cj,drop_eq_nil_iff->Lj,getElem?_map->fW,all_eq_true->eJ,size_toArray->wB,length_append->eV,length_take->eC,length_drop->fD,getElem?_toArray->Bt,append_assoc->cO,getElem?_set_self->gR,getElem?_set_ne->ia,mem_of_getElem?->dx,getElem_of_mem->mi,mem_of_mem_drop->qA,getElem?_drop->js,mem_append->cz,mem_of_mem_take->o4,getElem?_append_left->eK,getElem?_take->lj,getElem?_append_right->eO,mem_map->ib,take_append_drop->lk,length_nil->fc,nil_append->eA,getElem?_cons_zero->Lm,mem_cons->dE,drop_drop->uu,drop_zero->rW,take_append_of_le_length->BC,take_of_length_le->sd,drop_append->Bq,getElem?_of_mem->y4,eq_nil_of_length_eq_zero->wx,take_length->iM,all_cons->oY,append_nil->fh,map_cons->d8,length_cons->dp,cons_append->ew,map_append->gA,length_map->d9,range->fK
open Go.Lite.V renaming one->fq,flat1->jw,cells->gT,junk->bo,int->aB,agg->aH,ptr->aK,tail->bC,str->aE
open Array renaming length_toList->Fy,size_append->Bl,getElem?_eq_some_iff->hJ,getElem?_eq_getElem->gH,getElem?_append_left->K6,toArray_toList->Lb,getElem?_toList->Bj,getElem?_map->Fw
open Int renaming fdiv_eq_ediv_of_nonneg->Ux,natCast_nonneg->Lg
open Go.Lite.O renaming box->aJ,row->aM
namespace Go.Lite
open Go
def wC(cfg:bS)(n0:Nat)(f:List Nat)(c:C)(t:S)(x:Ex)(s:S):Prop :=
 ∀s0,dO n0 f s0=t->da cfg n0 (.loop f c) s0=aA (x,s)
inductive dR where
 |head (i:Nat) (s:S)
 |done (v:V)
 |doneM (v:V) (m:List O)
abbrev R:=Option dR
structure KC where
 cfg:bS
 frs:bL->Bool
 ik:bL->List V->List O->(V->List O->R)->R
 pv:bL->Option (List V->Option V):=fun _=>aF
 ck:CM->bL->List V->List O->(V->List O->R)->R:=fun _ _ _ _ _=>aF
 pvok:∀f g as0 r,pv f=aA g->g as0=aA r->bJ cfg f as0=aA r:=by exact fun _ _ _ _ h=>nomatch h
def cA (cfg:bS) (rd:CM) (f:bL) (args:List V) (mem:List O):Option (V × List O):=(lY cfg f args mem).map fun r=>iP rd mem r.1 r.2
open Classical in
def bH {α:Type} (cfg:bS) (rd:CM) (mk:α->V × List O) (f:bL) (args:List V) (mem:List O) (k:α->R):R :=
 if h:∃L,cA cfg rd f args mem=aA (mk L) then k (Classical.choose h) else aF
def dJ {α:Type} (cfg:bS) (rd:CM) (mk:List O->α->V × List O) (f:bL) (args:List V) (mem:List O) (k:α->R):R:=bH cfg rd (mk mem) f args mem k
theorem De{α:Type}{cfg:bS}{rd:CM}{mk:α->V × List O}{f:bL}{args:List V}{mem:List O}{k:α->R}{r:dR}(h:bH cfg rd mk f args mem k=aA r):∃L,cA cfg rd f args mem=aA (mk L)/\k L=aA r:=by
 unfold bH at h;split at h
 all_goals grind
theorem cH{α:Type}{cfg:bS}{rd:CM}{mk:α->V × List O}{f:bL}{args:List V}{mem:List O}{k:α->R}(hi:∀L L',mk L=mk L'->L=L'){L:α}(h:cA cfg rd f args mem=aA (mk L)):bH cfg rd mk f args mem k=k L:=by
 unfold bH;have hx:∃L,cA cfg rd f args mem=aA (mk L):=⟨L,h⟩
 grind
open Classical in
def nC {α β:Type} (cfg:bS) (rd:CM) (mk:α->V × List O) (mk2:β->V × List O) (f:bL) (args:List V) (mem:List O) (k:α->R) (k2:β->R):R :=
 if ∃L,cA cfg rd f args mem=aA (mk L) then bH cfg rd mk f args mem k else bH cfg rd mk2 f args mem k2
theorem Pb{α β:Type}{cfg:bS}{rd:CM}{mk:α->V × List O}{mk2:β->V × List O}{f:bL}{args:List V}{mem:List O}{k:α->R}{k2:β->R}{r:dR}(h:nC cfg rd mk mk2 f args mem k k2=aA r) :
  (∃L,cA cfg rd f args mem=aA (mk L)/\k L=aA r)∨∃L,cA cfg rd f args mem=aA (mk2 L)/\k2 L=aA r:=by
 unfold nC at h;split at h
 ·exact .inl (De h)
 ·exact .inr (De h)
theorem aaR{α β:Type}{cfg:bS}{rd:CM}{mk:α->V × List O}{mk2:β->V × List O}{f:bL}{args:List V}{mem:List O}{k:α->R}{k2:β->R}(hi:∀L L',mk L=mk L'->L=L'){L:α}(h:cA cfg rd f args mem=aA (mk L)):nC cfg rd mk mk2 f args mem k k2=k L:=by
 unfold nC;rw[aU ⟨L,h⟩,cH hi h]
theorem O9{α β:Type}{cfg:bS}{rd:CM}{mk:α->V × List O}{mk2:β->V × List O}{f:bL}{args:List V}{mem:List O}{k:α->R}{k2:β->R}(hi:∀L L',mk2 L=mk2 L'->L=L')(hd:∀L L',mk L≠mk2 L'){L:β}(h:cA cfg rd f args mem=aA (mk2 L)):nC cfg rd mk mk2 f args mem k k2=k2 L:=by
 unfold nC;rw[aY fun⟨L',e⟩=>hd L' L (Option.some.inj (e.symm.trans h)),cH hi h]
open Classical in
def jW {α β γ:Type} (cfg:bS) (rd:CM) (mk:α->V × List O) (mk2:β->V × List O) (mk3:γ->V × List O) (f:bL) (args:List V) (mem:List O) (k:α->R) (k2:β->R) (k3:γ->R):R :=
 if ∃L,cA cfg rd f args mem=aA (mk L) then bH cfg rd mk f args mem k else nC cfg rd mk2 mk3 f args mem k2 k3
theorem aaU{α β γ:Type}{cfg:bS}{rd:CM}{mk:α->V × List O}{mk2:β->V × List O}{mk3:γ->V × List O}{f:bL}{args:List V}{mem:List O}{k:α->R}{k2:β->R}{k3:γ->R}{r:dR}(h:jW cfg rd mk mk2 mk3 f args mem k k2 k3=aA r) :
  (∃L,cA cfg rd f args mem=aA (mk L)/\k L=aA r)∨(∃L,cA cfg rd f args mem=aA (mk2 L)/\k2 L=aA r)∨∃L,cA cfg rd f args mem=aA (mk3 L)/\k3 L=aA r:=by
 unfold jW at h;split at h
 ·exact .inl (De h)
 ·exact .inr (Pb h)
section
variable {α β γ:Type}{cfg:bS}{rd:CM}{mk:α->V × List O}{mk2:β->V × List O}{mk3:γ->V × List O}{f:bL}{args:List V}{mem:List O}{k:α->R}{k2:β->R}{k3:γ->R}
theorem aaS(hi:∀L L',mk L=mk L'->L=L'){L:α}(h:cA cfg rd f args mem=aA (mk L)):jW cfg rd mk mk2 mk3 f args mem k k2 k3=k L:=by
 unfold jW;rw[aU ⟨L,h⟩,cH hi h]
theorem aaT(hi:∀L L',mk2 L=mk2 L'->L=L')(hd:∀L L',mk L≠mk2 L'){L:β}(h:cA cfg rd f args mem=aA (mk2 L)):jW cfg rd mk mk2 mk3 f args mem k k2 k3=k2 L:=by
 unfold jW;rw[aY fun⟨L',e⟩=>hd L' L (Option.some.inj (e.symm.trans h)),aaR hi h]
end
theorem cY{α:Type}{cfg:bS}{rd:CM}{mk:List O->α->V × List O}{f:bL}{args:List V}{mem:List O}{k:α->R}(hi:∀M L L',mk M L=mk M L'->L=L'){L:α}(h:cA cfg rd f args mem=aA (mk mem L)):dJ cfg rd mk f args mem k=k L:=cH (hi mem) h
def gd(b:Bool)(k:R):R:=cond b k aF
def bl{α:Type}(l:List α)(n:Nat)(k:α->R):R:=match l[n]? with|some x=>k x|none=>aF
def kB(v:V)(k:Bool->R):R:=match v with |.bool b=>k b|_=>aF
def kI(j:IntKind)(v:V)(k:Int->R):R:=match v with |.int i n=>cond (i==j) (k n) aF|_=>aF
def kS(v:V)(k:List UInt8->R):R:=match v with |.str s=>k s|_=>aF
def kL(v:V)(k:List V->R):R:=match v with |.sl l=>k l|_=>aF
def kF(e:aO)(v:V)(k:List V->R):R:=match v with |.fr t l=>cond (t==e) (k l) aF|_=>aF
def kA(v:V)(k:List V->R):R:=match v with |.agg l=>k l|_=>aF
def kT(v:V)(k:List V->R):R:=match v with |.tup l=>k l|_=>aF
def kP(e:aO)(v:V)(k:Nat->R):R:=match v with |.hp t i o=>cond (t==e && ll o 0) (k i) aF|_=>aF
def kM(e:aO)(v:V)(k:Nat->R):R:=match v with |.hm t i=>cond (t==e) (k i) aF|_=>aF
def bU(l:List V)(k:V->List V->R):R:=match l with|c::cs=>k c cs | []=>aF
def eo(l:List V)(k:R):R:=match l with | []=>k|_=>aF
def cf{α:Type}(o:Option α)(k:α->R):R:=match o with|some x=>k x|none=>aF
def aL (cfg:bS) (f:bL) (as0:List V) (k:V->R):R:=match bJ cfg f as0 with|some r=>k r|none=>aF
def Jg (kc:KC) (f:bL) (as0:List V) (k:V->R):R:=match kc.pv f with|some g=>(match g as0 with|some r=>k r|none=>aF)|none=>aL kc.cfg f as0 k
def md(l:List V)(kn:R)(ks:V->List V->R):R:=match l with | []=>kn|x::l=>ks x l
def cw(c:Nat)(l:List V):Bool:=l.all fun y=>y.cells.length==c
def tE(es:List (V × V))(key:V)(kn:R)(ks:V->R):R:=match gM es key with|some (aA v)=>ks v|some aF=>kn|none=>aF
section
variable {b:Bool}{k:R}{r:dR}{v:V}
theorem cQ(h:gd b k=aA r):b=aC/\k=aA r:=by
 cases b
 ·cases h
 ·exact⟨rfl,h⟩
theorem dl{x y:R}(h:cond b x y=aA r):(b=aC/\x=aA r)∨(b=aD/\y=aA r):=by
 grind
theorem pJ{α:Type}{l:List α}{n:Nat}{k:α->R}(h:bl l n k=aA r):∃x,l[n]? = aA x/\k x=aA r:=by
 unfold bl at h;grind
theorem cJ{α:Type}{o:Option α}{k:α->R}(h:cf o k=aA r):∃x,o=aA x/\k x=aA r:=by
 cases o
 ·cases h
 ·exact⟨_,rfl,h⟩
theorem Iq{k:Bool->R}(h:kB v k=aA r):∃x,v = .bool x/\k x=aA r:=by
 cases v<;>first|(cases h;done)|exact⟨_,rfl,h⟩
theorem abr{j:IntKind}{k:Int->R}(h:kI j v k=aA r):∃x,v = .int j x/\k x=aA r:=by
 cases v<;>first|(cases h;done)|skip;rename_i i n;rcases dl h with⟨h1,h2⟩|⟨_,h2⟩
 all_goals grind
theorem abv{k:List UInt8->R}(h:kS v k=aA r):∃x,v = .str x/\k x=aA r:=by
 cases v<;>first|(cases h;done)|exact⟨_,rfl,h⟩
theorem Pq{k:List V->R}(h:kL v k=aA r):∃x,v = .sl x/\k x=aA r:=by
 cases v<;>first|(cases h;done)|exact⟨_,rfl,h⟩
theorem abp{k:List V->R}(h:kA v k=aA r):∃x,v = .agg x/\k x=aA r:=by
 cases v<;>first|(cases h;done)|exact⟨_,rfl,h⟩
theorem Pt{k:List V->R}(h:kT v k=aA r):∃x,v = .tup x/\k x=aA r:=by
 cases v<;>first|(cases h;done)|exact⟨_,rfl,h⟩
theorem abq{e:aO}{k:List V->R}(h:kF e v k=aA r):∃x,v = .fr e x/\k x=aA r:=by
 cases v<;>first|(cases h;done)|skip;rename_i t n;rcases dl h with⟨h1,h2⟩|⟨_,h2⟩
 all_goals grind
theorem abu{e:aO}{k:Nat->R}(h:kP e v k=aA r):∃i,v = .hp e i 0/\k i=aA r:=by
 cases v<;>first|(cases h;done)|skip;rename_i t i o;rcases dl h with⟨h1,h2⟩|⟨_,h2⟩
 all_goals simp_all
theorem abt{e:aO}{k:Nat->R}(h:kM e v k=aA r):∃i,v = .hm e i/\k i=aA r:=by
 cases v<;>first|(cases h;done)|skip;rename_i t i;rcases dl h with⟨h1,h2⟩|⟨_,h2⟩
 all_goals grind
theorem T9{l:List V}{k:V->List V->R}(h:bU l k=aA r):∃c cs,l=c::cs/\k c cs=aA r:=by
 cases l
 ·cases h
 ·exact⟨_,_,rfl,h⟩
theorem Ue{l:List V}(h:eo l k=aA r):l=[]/\k=aA r:=by
 cases l
 ·exact⟨rfl,h⟩
 ·cases h
theorem adv{cfg:bS}{f:bL}{as0:List V}{k:V->R}(h:aL cfg f as0 k=aA r):∃x,bJ cfg f as0=aA x/\k x=aA r:=by
 unfold aL at h;grind
theorem aci{es:List (V × V)}{key:V}{kn:R}{ks:V->R}(h:tE es key kn ks=aA r):∃o,gM es key=aA o/\((o=aF/\kn=aA r)∨∃v,o=aA v/\ks v=aA r):=by
 unfold tE at h;grind
end
def tq(P:bu)(t:aO)(v:V)(k:V->R):R :=
 match P.underlying t with
 |some .bool=>kB v fun b=>k (.bool b)
 |some (.int j)=>kI j v fun n=>k (.int j n)
 |some .string=>kS v fun s=>k (.str s)
 |some (.slice _)=>kL v fun l=>k (.sl l)
 |some (.pointer e)=>kP e v fun i=>k (.hp e i 0)
 |some (.map _ _)=>kM t v fun i=>k (.hm t i)
 |_=>k v
def Iw(P:bu):Nat->aO->List aO
 |0,_=>[]
 |n+1,t=>match P.underlying t with
  |some (.struct fs)=>fs.toList.flatMap fun f=>Iw P n f.type
  |some (.array len e)=>(dh len (Iw P n e)).flatten
  |_=>[t]
def Gc(P:bu):List aO->List V->(List V->R)->R
 | [],cs,k=>eo cs (k [])
 |t::ts,cs,k=>bU cs fun c cs=>tq P t c fun c=>Gc P ts cs fun ds=>k (c::ds)
def pk:Option TypeDesc->Bool
 |some (.struct _)|some (.array _ _)=>aC
 |_=>aD
def ac8:Option TypeDesc->Bool
 |some (.struct _)|some (.array _ _)|some (.pointer _)|none=>aD
 |_=>aC
def rO(P:bu)(t:aO)(v:V)(k:V->R):R :=
 cond (pk (P.underlying t)) (kA v fun cs=>Gc P (Iw P 6 t) cs fun ds=>k (.agg ds)) (tq P t v k)
def Fh(P:bu):List aO->List V->(List V->R)->R
 | [],vs,k=>eo vs (k [])
 |t::ts,vs,k=>bU vs fun c cs=>rO P t c fun c=>Fh P ts cs fun ds=>k (c::ds)
def Jr(P:bu)(fr:Bool)(ty:aO)(r:V)(k:V->R):R :=
 match P.underlying ty with
 |some (.tuple ts)=>kT r fun vs=>Fh P ts.toList vs fun ws=>k (.tup ws)
 |some (.slice e)=>cond fr (kF e r fun l=>k (.fr e l)) (kL r fun l=>k (.sl l))
 |_=>rO P ty r k
section
variable {P:bu}{r:dR}
theorem xC{t:aO}{v:V}{k:V->R}(h:tq P t v k=aA r):k v=aA r:=by
 unfold tq at h;split at h
 ·obtain⟨x,rfl,h'⟩:=Iq h;grind
 ·obtain⟨x,rfl,h'⟩:=abr h;grind
 ·obtain⟨x,rfl,h'⟩:=abv h;grind
 ·obtain⟨x,rfl,h'⟩:=Pq h;grind
 ·obtain⟨x,rfl,h'⟩:=abu h;grind
 ·obtain⟨x,rfl,h'⟩:=abt h;grind
 grind
theorem VG:∀{ts:List aO} {cs:List V} {k:List V->R},Gc P ts cs k=aA r->k cs=aA r:=by
 intro ts
 induction ts with
 |nil=>intro cs k h;obtain⟨rfl,h⟩:=Ue h;exact h
 |cons t ts ih=>intro cs k h;obtain⟨c,cs,rfl,h'⟩:=T9 h;exact ih (k:=fun ds=>k (c::ds)) (xC h')
theorem t9{t:aO}{v:V}{k:V->R}(h:rO P t v k=aA r):k v=aA r:=by
 rcases dl h with⟨_,h⟩|⟨_,h⟩
 ·obtain⟨cs,rfl,h'⟩:=abp h;exact VG h'
 ·exact xC h
theorem T7:∀{ts:List aO} {cs:List V} {k:List V->R},Fh P ts cs k=aA r->k cs=aA r:=by
 intro ts
 induction ts with
 |nil=>intro cs k h;obtain⟨rfl,h⟩:=Ue h;exact h
 |cons t ts ih=>intro cs k h;obtain⟨c,cs,rfl,h'⟩:=T9 h;exact ih (k:=fun ds=>k (c::ds)) (t9 h')
theorem ael{fr:Bool}{ty:aO}{v:V}{k:V->R}(h:Jr P fr ty v k=aA r):k v=aA r:=by
 unfold Jr at h;split at h
 ·obtain⟨x,rfl,h'⟩:=Pt h;exact T7 h'
 ·rcases dl h with⟨_,h⟩|⟨_,h⟩
  ·obtain⟨x,rfl,h'⟩:=abq h;grind
  ·obtain⟨x,rfl,h'⟩:=Pq h;grind
 ·exact t9 h
end
def wW(o:Option (Option V))(d:Nat)(k:Nat->R):R :=
 match o with
 |none=>k d
 |some (aA (.int _ n))=>gd (decide (0<=n)) (k n.toNat)
 |some _=>aF
def yC(o:Option (Option V))(b:Bool)(k:R):R :=
 match o with
 |none=>k
 |some _=>gd b k
def sS(mem:List O)(x:V)(k:List V->R):R :=
 match x with
 |.win id off len =>
  match mem[id]? with
  |some (.row _ els _)=>gd (decide (off+len<=els.length)) (k ((els.drop off).take len))
  |_=>aF
 |x=>cf (dy mem x) k
def CR(mem:List O)(x:V)(k:List V->R):R :=
 match x with
 |.str s=>k (fA s)
 |x=>sS mem x k
def vq{α β:Type}(f:α->(β->R)->R):List α->(List β->R)->R
 | [],k=>k []
 |x::xs,k=>f x fun y=>vq f xs fun ys=>k (y::ys)
def yD(mem:List O)(v:V)(k:V->R):R :=
 match v with
 |.win id off len=>sS mem (.win id off len) fun l=>k (.sl l)
 |v=>cf (f9 mem v) k
def yE(mem:List O)(v:V)(k:V->R):R :=
 match v with
 |.agg cs=>vq (yD mem) cs fun ds=>k (.agg ds)
 |.ptr id i off=>cf (f7 mem (.ptr id i off)) fun r =>
   match r.1 with
   |.agg cs=>vq (yD mem) cs fun ds=>k (.ref (.agg ds) r.2)
   |x=>yD mem x fun y=>k (.ref y r.2)
 |v=>yD mem v k
def KM(mem:List O)(v:V)(k:V->R):R :=
 match v with
 |.fn f caps=>vq (yE mem) caps fun ds=>k (.fn f ds)
 |v=>yE mem v k
open Classical in
def xm (a b:List O) (q:R):R:=if a=b then q else aF
theorem aax{a b:List O}{q:R}{r:dR}(h:xm a b q=aA r):a=b/\q=aA r:=by
 unfold xm at h;grind
theorem aaw(a:List O)(q:R):xm a a q=q:=by unfold xm;grind
def cV (a:List O) (q:R):R:=xm a a q
theorem cF(a:List O)(q:R):cV a q=q:=aaw a q
def roK (ro:Bool) (m mem:List O) (q:R):R:=cond ro (xm (m.take mem.length) mem q) q
def Cl (kc:KC) (dr:Bool) (f:bL) (ty:aO) (args:List V) (mem:List O) (k:V->List O->R):R :=
 gd (lX kc.cfg.P f)<|cond (kc.cfg.pure f)
  (vq (KM mem) args fun as0=>Jg kc f as0 fun r=>Jr kc.cfg.P (kc.frs f) ty r fun r =>
   cond (xB r)
    (cond (dr && !(args.flatMap (kR mem)).isEmpty) aF (k (qj (kc.cfg.adopt f && !dr) (freezeAll (args.flatMap (kR mem)) mem) r).1 (qj (kc.cfg.adopt f && !dr) (freezeAll (args.flatMap (kR mem)) mem) r).2))
    (k (qj (kc.cfg.adopt f && !dr) mem r).1 (qj (kc.cfg.adopt f && !dr) mem r).2))
  (cond dr aF (match kc.cfg.can f with
   |none=>kc.ik f args mem k
   |some rd=>kc.ck rd f (iQ args mem).env (iQ args mem).mem fun v m=>roK (kc.cfg.ro f) (ni rd.row args mem v m).2 mem (k (ni rd.row args mem v m).1 (ni rd.row args mem v m).2)))
def aal(kc:KC)(f:bL)(args:List V)(mem:List O)(k:V->List O->R):R :=
 cond (HW (args.flatMap lG) mem) (kc.ik f args (keepOnly (args.flatMap lG) mem) fun v m=>gd (Nat.ble mem.length m.length) (k v (tP (args.flatMap lG) mem m))) aF
def FZ(P:bu)(t:aO)(s x:V)(mem:List O)(k:V->List O->R):R :=
 cf (gj P t) fun e=>CR mem x fun xs=>gd (cw (P.cellsOf e) xs)<|gd (qe P e) <|
  match s with
  |.nilS=>gd (decide (xs.length<=16777216)) (k (.own mem.length) (mem++[.row e xs 0]))
  |.own id =>
   match mem[id]? with
   |some (.row e' els fz)=>gd (e'==e)<|gd (decide (els.length+xs.length<=16777216)) (k (.own (mem.set id .dead).length) (mem.set id .dead++[.row e (els++xs) fz]))
   |_=>aF
  |.tail id off =>
   match mem[id]? with
   |some (.row e' els fz)=>gd (e'==e)<|gd (ll fz 0 ||jt off fz)<|gd (decide ((els.drop off).length+xs.length<=16777216)) (k (.tail mem.length 0) (mem.set id .dead++[.row e (els.drop off++xs) (cond (ll fz 0) 0 (fz - off))]))
   |_=>aF
  |.win id off len =>
   match mem[id]? with
   |some (.row e' els fz)=>gd (e'==e)<|gd (ll fz 0)<|gd (decide (off+len<=els.length))<|gd (decide (len+xs.length<=16777216)) (k (.tail mem.length 0) (mem.set id .dead++[.row e ((els.drop off).take len++xs) 0]))
   |_=>aF
  |.lit t' l=>gd (t'==e)<|gd (decide (l.length+xs.length<=16777216))<|gd (cw (P.cellsOf e) l) (k (.sl (l++xs)) mem)
  |_=>aF
def FY(P:bu)(t t':aO)(s x:V)(mem:List O)(k:V->List O->R):R :=
 match P.underlying t',s,x with
 |some (.int _),.nilS,.int .i64 n=>cf (gj P t) fun e=>gd (decide (0 < n))<|gd (decide (n.toNat<=16777216))<|gd (qe P e)<|cf (jq P e) fun z=>cf (ko z) fun z=>k (.own mem.length) (mem++[.row e (dh n.toNat z) 0])
 |_,_,_=>aF
def Gj(P:bu)(t:aO)(s x:V)(mem:List O)(k:V->List O->R):R :=
 cf (gj P t) fun e=>CR mem x fun xs=>gd (cw (P.cellsOf e) xs)<|cf (v8 mem s) fun r =>
  match mem[r.1]? with
  |some (.row e' els fz)=>gd (e'==e)<|gd (decide (fz<=r.2.1))<|gd (decide (r.2.1+r.2.2<=els.length)) <|
    k (.int .i64 (min xs.length r.2.2:Nat)) (mem.set r.1 (.row e' (els.take r.2.1++xs.take (min xs.length r.2.2)++els.drop (r.2.1+min xs.length r.2.2)) fz))
  |_=>aF
def Ge(P:bu)(t:aO)(s:V)(mem:List O)(k:V->List O->R):R :=
 cf (gj P t) fun e=>cf (v8 mem s) fun r =>
  match mem[r.1]? with
  |some (.row e' els fz)=>gd (e'==e)<|gd (qe P e)<|gd (decide (fz<=r.2.1))<|gd (decide (r.2.1+r.2.2<=els.length))<|cf (jq P e) fun z=>cf (ko z) fun z =>
    k (.tup []) (mem.set r.1 (.row e' (els.take r.2.1++dh r.2.2 z++els.drop (r.2.1+r.2.2)) fz))
  |_=>aF
def IA(P:bu)(t:aO)(a b:V)(mem:List O)(k:V->List O->R):R :=
 cf (gj P t) fun e =>
  match a,b with
  |.int _ n,.int _ c=>gd (decide (0<=n))<|gd (decide (n<=c))<|gd (decide (c.toNat<=16777216))<|gd (qe P e)<|cf (jq P e) fun z=>cf (ko z) fun z =>
    k (.own mem.length) (mem++[.row e (dh n.toNat z) 0])
  |_,_=>aF
def Gh(P:bu)(mem:List O)(s d:aO)(x:V)(k:V->R):R :=
 match P.underlying s,P.underlying d,x with
 |some (.slice e),aA .string,x=>sS mem x fun xs=>gd (match P.underlying e with|some (.int .u8)=>aC|_=>aD)<|cf (iv xs) fun ns=>k (.str (ns.map fun n=>UInt8.ofNat n.toNat))
 |_,_,_=>cf (py P mem s d x) k
def Ii(P:bu)(mem:List O)(t:aO)(x i:V)(k:V->List O->R):R :=
 match P.underlying t,i with
 |some (.slice e),.int _ n =>
  gd (decide (0<=n)) <|
  match x with
  |.sl l=>bl l n.toNat fun y=>rO P e y fun y=>gd (y.cells.length==P.cellsOf e) (k (.ref y 0) mem)
  |.own id =>
   match mem[id]? with
   |some (.row e' els _)=>gd (e'==e)<|gd (decide (n.toNat < els.length)) (k (.ptr id n.toNat 0) mem)
   |_=>aF
  |.win id off len =>
   match mem[id]? with
   |some (.row e' els _)=>gd (e'==e)<|gd (decide (n.toNat < len))<|gd (decide (off+len<=els.length)) (k (.ptr id (off+n.toNat) 0) mem)
   |_=>aF
  |.tail id off =>
   match mem[id]? with
   |some (.row e' els _)=>gd (e'==e)<|gd (decide (n.toNat < (els.drop off).length)) (k (.ptr id (off+n.toNat) 0) mem)
   |_=>aF
  |_=>aF
 |some (.array len e),.int _ n =>
  gd (decide (0<=n))<|gd (decide (n.toNat < len))<|gd (decide (0 < P.cellsOf e)) <|
  match x with
  |.ref y off=>k (.ref y (off+n.toNat * P.cellsOf e)) mem
  |.ptr id q off=>k (.ptr id q (off+n.toNat * P.cellsOf e)) mem
  |_=>aF
 |_,_=>cf (kp P mem t x i) fun v=>k v mem
def QZ(P:bu)(e t:aO)(x:V)(off:Nat)(k:V->R):R :=
 rO P e x fun x=>cond (((x.cells.drop off).take (P.cellsOf t)).length==P.cellsOf t) (cf (pP P t ((x.cells.drop off).take (P.cellsOf t))) k) aF
def HR:Option TypeDesc->Bool
 |some .bool|some (.int _)|some .string=>aC
 |_=>aD
def Iy(P:bu)(mem:List O)(t:aO)(p:V)(k:V->R):R :=
 match p with
 |.ptr id i off =>
  match mem[id]? with
  |some (.row e els _)=>bl els i fun x=>QZ P e t x off k
  |some (.box _ (.agg cs) _)=>cond (P.cellsOf t==1 && HR (P.underlying t)) (gd (ll i 0)<|bl cs off fun c=>tq P t c k) (cf (gE P mem t p) k)
  |_=>cf (gE P mem t p) k
 |.ref (.agg cs) off=>cond (P.cellsOf t==1 && HR (P.underlying t)) (bl cs off fun c=>tq P t c k) (cf (gE P mem t p) k)
 |.hp e i off=>cf (kj e 0 mem) fun r=>bl r.2 i fun x=>QZ P e t x off k
 |_=>cf (gE P mem t p) k
def Bc(P:bu)(mem:List O)(t:aO)(p v:V)(k:List O->R):R :=
 match p with
 |.ptr id i off =>
  match mem[id]? with
  |some (.row e els fz) =>
   gd (decide (v.cells.length=P.cellsOf t/\0 < P.cellsOf t/\v.cells.all fq))<|gd (decide (fz<=i))<|bl els i fun x=>rO P e x fun x=>cf (cC kU v.cells) fun vs=>cf (rq x off vs) fun y=>k (mem.set id (.row e (els.set i y) fz))
  |_=>cf (nO P mem t p v) k
 |.hp e i off =>
  gd (decide (v.cells.length=P.cellsOf t/\0 < P.cellsOf t/\v.cells.all fq))<|cf (kj e 0 mem) fun r=>bl r.2 i fun x=>rO P e x fun x=>cf (cC kU v.cells) fun vs=>cf (rq x off vs) fun y=>k (mem.set r.1 (.arena e (r.2.set i y)))
 |_=>cf (nO P mem t p v) k
def KT(P:bu)(mem:List O)(t:aO)(p v:V)(k:List O->R):R :=
 match p with
 |.hp _ _ _ =>
  match iF mem v with
  | []=>Bc P mem t p v k
  |i::is=>yE mem v fun v'=>Bc P (freezeAll (i::is) mem) t p v' k
 |_=>Bc P mem t p v k
def KH(P:bu)(mem:List O)(t:aO)(x:V)(lo hi mx:Option (Option V))(k:V->R):R :=
 match P.underlying t,x,mx with
 |some .string,.str s,aF=>wW lo 0 fun l=>wW hi s.length fun h=>yC lo (decide (l<=h))<|yC hi (decide (h<=s.length)) (k (.str ((s.take h).drop l)))
 |some (.slice e),x,aF =>
  sS mem x fun xs=>gd (decide (0 < P.cellsOf e))<|gd (cw (P.cellsOf e) xs)<|wW lo 0 fun l=>wW hi xs.length fun h=>yC lo (decide (l<=h))<|yC hi (decide (h<=xs.length)) <|
   match x with
   |.nilS=>k .nilS
   |.sl xs=>k (.sl ((xs.take h).drop l))
   |.own id =>
    match mem[id]? with
    |some (.row e' _ _)=>cond (e'==e) (k (if hi.isNone then .tail id l else .win id l (h - l))) aF
    |_=>aF
   |.tail id off =>
    match mem[id]? with
    |some (.row e' _ _)=>cond (e'==e) (k (if hi.isNone then .tail id (off+l) else .win id (off+l) (h - l))) aF
    |_=>aF
   |.win id off _ =>
    match mem[id]? with
    |some (.row e' _ _)=>cond (e'==e) (k (.win id (off+l) (h - l))) aF
    |_=>aF
   |_=>aF
 |_,_,_=>cf (lK P mem t x lo hi mx) k
def Ij(P:bu)(t:aO)(x i:V)(k:V->R):R :=
 match P.underlying t,x,i with
 |some .string,.str s,.int _ n=>gd (decide (0<=n))<|bl s n.toNat fun b=>k (.int .u8 (b.toNat:Int))
 |some (.array len e),.agg cs,.int _ n=>gd (decide (0<=n))<|gd (decide (n.toNat < len)) <|
   cond (P.cellsOf e==1 && ac8 (P.underlying e)) (bl cs n.toNat fun c=>tq P e c k) (cf (rl P e cs (n.toNat * P.cellsOf e)) k)
 |_,_,_=>cf (qT P t x i) k
def F5(P:bu)(op:BinOp)(t:aO)(x y:V)(k:V->R):R :=
 match op,x,y with
 |.quo,.int j a,.int j' b=>gd (j==j')<|gd (!decide (b=0)) (k (.int j (j.wrap (a.tdiv b))))
 |.rem,.int j a,.int j' b=>gd (j==j')<|gd (!decide (b=0)) (k (.int j (a.tmod b)))
 |.shl,.int j a,.int _ b=>gd (!decide (b < 0)) (k (.int j (j.wrap (a * 2 ^ (min b.toNat j.bits)))))
 |.shr,.int j a,.int _ b=>gd (!decide (b < 0)) (k (.int j (a.fdiv (2 ^ (min b.toNat j.bits)))))
 |.add,.str a,.str b=>gd (decide (a.length+b.length<=4611686018427387904)) (k (.str (a++b)))
 |_,_,_=>cf (n6 P op t x y) k
def xE(mem:List O)(m:V)(k:List (V × V)->R):R :=
 match m with
 |.mp id =>
  match mem[id]? with
  |some (.map es)=>k es
  |_=>aF
 |.hm t i=>cf (ny t 0 mem) fun r=>bl r.2 i k
 |_=>aF
def Im(P:bu)(t:aO):Bool :=
 match P.underlying t with
 |some (.interface _)|none=>aC
 |_=>aD
def Ig(t:aO)(v:V)(ka:V->R)(kb:R):R :=
 match v with
 |.nilI=>kb
 |.ifc t' x=>cond (t'==t) (ka x) kb
 |_=>aF
def iH (kc:KC) (dr:Bool) (o:bj) (env:List V) (mem:List O) (k:V->List O->R):R :=
 match o.op with
 |.pick c a b=>cf (bv env c) fun c=>cf (bv env a) fun a=>cf (bv env b) fun b=>kB c fun t=>cond t (k a mem) (k b mem)
 |.load t a=>cf (bv env a) fun p=>cond (o.bx && cond o.sq (nF p) (!mB mem p)) aF (Iy kc.cfg.P mem t p fun v=>k v mem)
 |.nilCheck x=>cf (bv env x) fun v=>cond (KO v) (k v mem) aF
 |.store t a x=>cf (bv env a) fun p=>cf (bv env x) fun v=>cond (o.bx && nF p) aF<|KT kc.cfg.P mem t p v fun m=>k (.tup []) m
 |.binOp op t x y _=>cf (bv env x) fun a=>cf (bv env y) fun b=>F5 kc.cfg.P op t a b fun v=>k v mem
 |.slice t x lo hi mx=>cf (bv env x) fun a=>cond (o.bx && !o.sq && !pR a) aF<|KH kc.cfg.P mem t a (lo.map (bv env)) (hi.map (bv env)) (mx.map (bv env)) fun v=>k v mem
 |.indexAddr t x i=>cf (bv env x) fun a=>cf (bv env i) fun b=>cond (o.bx && !o.sq && !pR a) aF<|Ii kc.cfg.P mem t a b k
 |.makeSlice t n c=>cf (bv env n) fun a=>cf (bv env c) fun b=>IA kc.cfg.P t a b mem k
 |.typeAssert x _ t ok=>cf (bv env x) fun v=>cond (Im kc.cfg.P t) aF<|Ig t v (fun x=>rO kc.cfg.P t x fun x=>k (cond ok (.tup [x,.bool aC]) x) mem) (cond ok (cf (wo kc.cfg.P t) fun z=>k z mem) aF)
 |.convert s d x=>cf (bv env x) fun a=>Gh kc.cfg.P (cond dr [] mem) s d a fun v=>k v mem
 |.index t x i=>cf (bv env x) fun a=>cf (bv env i) fun b=>Ij kc.cfg.P t a b fun v=>k v mem
 |.lookup t m key ok=>cf (bv env m) fun m=>cf (bv env key) fun key=>xE mem m fun es =>
   gd (oF kc.cfg.P t key)<|cf (xF kc.cfg.P t) fun e=>cf (jq kc.cfg.P e) fun z =>
    tE es key (k (if ok then .tup [z,.bool aD] else z) mem) fun v=>tq kc.cfg.P e v fun v=>k (if ok then .tup [v,.bool aC] else v) mem
 |.mapUpdate t m key x=>cf (bv env m) fun m=>cf (bv env key) fun key=>cf (bv env x) fun x=>xE mem m fun es =>
   gd (oF kc.cfg.P t key)<|gd x.inMap<|cf (mO es key x) fun es=>k (.tup []) (tC mem m es)
 |.call c =>
  match c.callee with
  |.builtin .len=>cf (cC (bv env) c.args.toList) fun args=>cond (o.bx && !cond o.sq (tB .len args) (pn .len args)) aF <|
    match c.argTypes.toList,args with
    |t::_,.win id off len::_=>cond (match kc.cfg.P.underlying t with|some (.slice _)=>aC|_=>aD) (sS mem (.win id off len) fun l=>k (.int .i64 (l.length:Int)) mem) aF
    |t::_,.hm t' i::_=>cond (match kc.cfg.P.underlying t with|some (.map _ _)=>aC|_=>aD) (xE mem (.hm t' i) fun es=>k (.int .i64 (es.length:Int)) mem) aF
    |_,_=>cf (c8 kc.cfg (jz kc.cfg) dr o env mem) fun r=>k r.1 r.2
  |.builtin .append=>cf (cC (bv env) c.args.toList) fun args=>cond (o.bx && !cond o.sq (tB .append args) (pn .append args)) aF <|
    match c.argTypes.toList,args with
    | [t,t'],[s,x]=>cond (nc kc.cfg.P t t' x) (FZ kc.cfg.P t s x mem k) (FY kc.cfg.P t t' s x mem k)
    |_,_=>aF
  |.builtin .copy=>cf (cC (bv env) c.args.toList) fun args=>cond (o.bx && !cond o.sq (tB .copy args) (pn .copy args)) aF <|
    match c.argTypes.toList,args with
    | [t,t'],[s,x]=>gd (nc kc.cfg.P t t' x) (Gj kc.cfg.P t s x mem k)
    |_,_=>aF
  |.builtin .clear=>cf (cC (bv env) c.args.toList) fun args=>cond (o.bx && !cond o.sq (tB .clear args) (pn .clear args)) aF <|
    match c.argTypes.toList,args with
    | [t],[s]=>Ge kc.cfg.P t s mem k
    |_,_=>aF
  |.builtin .delete=>cf (cC (bv env) c.args.toList) fun args=>cond (o.bx && !cond o.sq (tB .delete args) (pn .delete args)) aF <|
    match c.argTypes.toList,args with
    |t::_,[m,key]=>xE mem m fun es=>gd (oF kc.cfg.P t key)<|cf (nK es key) fun es=>k (.tup []) (tC mem m es)
    |_,_=>aF
  |.value f=>cf (bv env f) fun fv=>cf (cC (bv env) c.args.toList) fun args =>
    match fv with
    |.fn f caps=>cond (Nat.ble iS f) (cond (dr ||o.bx ||o.sq) aF (Cl kc dr (f - iS) o.type (caps++args) mem k)) (cond (o.bx && !o.sq && !kc.cfg.pure f) (cond (z6 kc.cfg o && lX kc.cfg.P f) (aal kc f (args++caps) mem k) aF) (Cl kc dr f o.type (args++caps) mem k))
    |_=>aF
  |_=>cf (c8 kc.cfg (jz kc.cfg) dr o env mem) fun r=>k r.1 r.2
 |_=>cf (c8 kc.cfg (jz kc.cfg) dr o env mem) fun r=>k r.1 r.2
def vK (kc:KC) (dr:Bool) (o:bj) (env:List V) (mem:List O) (k:V->List O->R):R :=
 cond o.rx (iH kc aC o (tD env) [] fun v m=>match m with | []=>k v mem|_=>cf (iy m v) fun v=>k v mem) (iH kc dr o env mem k)
def rh (kc:KC) (dr:Bool):List bj->List V->List O->(List V->List O->R)->R
 | [],env,mem,k=>k env mem
 |o::rest,env,mem,k =>
  match o.guard with
  |none=>vK kc (fk dr o) o env mem fun v m=>rh kc dr rest (fH env o.dst v) m k
  |some (t,want) =>
   match env[t]? with
   |some (.bool b)=>cond b
     (cond want (vK kc (fk dr o) o (env.set t (.bool aC)) mem fun v m=>rh kc dr rest (fH (env.set t (.bool aC)) o.dst v) m k) (rh kc dr rest (fH (env.set t (.bool aC)) o.dst (.tup [])) mem k))
     (cond want (rh kc dr rest (fH (env.set t (.bool aD)) o.dst (.tup [])) mem k) (vK kc (fk dr o) o (env.set t (.bool aD)) mem fun v m=>rh kc dr rest (fH (env.set t (.bool aD)) o.dst v) m k))
   |some (.tup [])=>rh kc dr rest (fH env o.dst (.tup [])) mem k
   |_=>aF
def rj (kc:KC):List bj->List V->List O->List Nat->(List V->List O->List Nat->R)->R
 | [],env,mem,fs,k=>k env mem fs
 |o::rest,env,mem,fs,k =>
  match o.guard with
  |none=>vK kc (fk aC o) o env mem fun v m=>rj kc rest (fH env o.dst v) m (cond (ij o && !nk kc.cfg o) (nj o env mem++fs) fs) k
  |some (t,want) =>
   match env[t]? with
   |some (.bool b)=>cond b
     (cond want (vK kc (fk aC o) o (env.set t (.bool aC)) mem fun v m=>rj kc rest (fH (env.set t (.bool aC)) o.dst v) m (cond (ij o && !nk kc.cfg o) (nj o (env.set t (.bool aC)) mem++fs) fs) k) (rj kc rest (fH (env.set t (.bool aC)) o.dst (.tup [])) mem fs k))
     (cond want (rj kc rest (fH (env.set t (.bool aD)) o.dst (.tup [])) mem fs k) (vK kc (fk aC o) o (env.set t (.bool aD)) mem fun v m=>rj kc rest (fH (env.set t (.bool aD)) o.dst v) m (cond (ij o && !nk kc.cfg o) (nj o (env.set t (.bool aD)) mem++fs) fs) k))
   |some (.tup [])=>rj kc rest (fH env o.dst (.tup [])) mem fs k
   |_=>aF
def IR (kc:KC) (dr:Bool) (l:List bj) (env:List V) (mem:List O) (k:List V->List O->R):R :=
 cond (dr && l.any ij) (rj kc l env mem [] fun env mem fs=>cond (Cs kc.cfg l env fs) (k env mem) aF) (rh kc dr l env mem k)
def nl:C->Nat
 |.seq a b=>nl a+nl b
 |.cond _ a b=>nl a+nl b
 |.block _ c=>nl c
 |.loop _ c=>nl c+1
 |.uncons _ _ _ a b=>nl a+nl b
 |.cseq _ a b=>nl a+nl b+1
 |_=>0
def KB(env:List V)(o:fi)(b:Bool):List V :=
 match o with
 |.tmp t=>env.set t (.bool b)
 |_=>env
def iX (kc:KC) (n0:Nat):C->Nat->S->(S->R)->(Nat->S->R)->(S->R)->R
 |.skip,_,s,kn,_,_=>kn s
 |.ops dr l,_,s,kn,_,_=>IR kc dr l s.env s.mem fun env mem=>cond (!dr ||s6 kc.cfg l env) (kn ⟨env,mem⟩) aF
 |.seq a b,i,s,kn,ke,kr=>iX kc n0 a i s (fun s=>iX kc n0 b (i+nl a) s kn ke kr) ke kr
 |.cseq f a _,i,s,_,ke,kr=>iX kc n0 a i s (fun s=>aA (.head (i+nl a) (dO n0 f s))) ke kr
 |.cond c a b,i,s,kn,ke,kr=>cf (bv s.env c) fun v=>kB v fun t=>cond t (iX kc n0 a i ⟨KB s.env c aC,s.mem⟩ kn ke kr) (iX kc n0 b (i+nl a) ⟨KB s.env c aD,s.mem⟩ kn ke kr)
 |.block id c,i,s,kn,ke,kr=>iX kc n0 c i s kn (fun j s=>cond (j==id) (kn s) (ke j s)) kr
 |.loop f _,i,s,_,_,_=>aA (.head i (dO n0 f s))
 |.exit j,_,s,_,ke,_=>ke j s
 |.ret,_,s,_,_,kr=>kr s
 |.start g,_,s,kn,_,_ =>
  match s.env[g]? with
  |some (.fn f caps)=>cond (Nat.ble iS f) aF<|cf (kc.cfg.seqp f) fun th=>cond (kc.cfg.sqj f) (cf (cC (v7 aC s.mem) caps) fun as0=>cf (th.2 as0) fun l=>kn ⟨s.env.set g (.rest th.1 (l.map .tup)),freezeAll (caps.flatMap (pI aC s.mem)) s.mem⟩)
    (vq (yE s.mem) caps fun as0=>cf (th.2 as0) fun l=>kn ⟨s.env.set g (.rest th.1 (l.map .tup)),freezeAll (caps.flatMap (iF s.mem)) s.mem⟩)
  |_=>aF
 |.uncons g ps ws a b,i,s,kn,ke,kr =>
  gd (ll (nl a) 0 && ll (nl b) 0) <|
  match s.env[g]? with
  |some (.rest ts l)=>md l (iX kc n0 b i s kn ke kr) fun x l=>kT x fun vs=>Fh kc.cfg.P ts vs fun vs=>gd (vs.length==ps.length) <|
    iX kc n0 a i ⟨v5 (s.env.set g .junk) ps vs,s.mem⟩ (fun s=>kn ⟨(gJ s.env ws).set g (.rest ts l),s.mem⟩) (fun e s=>ke e ⟨(gJ s.env ws).set g (.rest ts l),s.mem⟩) (fun s=>kr ⟨(gJ s.env ws).set g (.rest ts l),s.mem⟩)
  |_=>aF
def kN (kc:KC) (n0:Nat):C->Nat->Nat->S->(S->R)->(Nat->S->R)->(S->R)->R
 |.seq a b,i,j,s,kn,ke,kr=>cond (jt j (i+nl a)) (kN kc n0 a i j s (fun s=>iX kc n0 b (i+nl a) s kn ke kr) ke kr) (kN kc n0 b (i+nl a) j s kn ke kr)
 |.cseq f a b,i,j,s,kn,ke,kr=>cond (jt j (i+nl a)) (kN kc n0 a i j s (fun s=>aA (.head (i+nl a) (dO n0 f s))) ke kr)
   (cond (j==i+nl a) (iX kc n0 b (i+nl a+1) s kn ke kr) (kN kc n0 b (i+nl a+1) j s kn ke kr))
 |.cond _ a b,i,j,s,kn,ke,kr=>cond (jt j (i+nl a)) (kN kc n0 a i j s kn ke kr) (kN kc n0 b (i+nl a) j s kn ke kr)
 |.block id c,i,j,s,kn,ke,kr=>kN kc n0 c i j s kn (fun j s=>cond (j==id) (kn s) (ke j s)) kr
 |.loop f c,i,j,s,_,ke,kr=>cond (j==i)
   (iX kc n0 c (i+1) s (fun s=>aA (.head i (dO n0 f s))) (fun e s=>ke e (dO n0 f s)) (fun s=>kr (dO n0 f s)))
   (kN kc n0 c (i+1) j s (fun s=>aA (.head i (dO n0 f s))) (fun e s=>ke e (dO n0 f s)) (fun s=>kr (dO n0 f s)))
 |_,_,_,_,_,_,_=>aF
def H0(P:bu)(mem:List O)(t:aO)(v:V)(k:V->R):R :=
 match v with
 |.own id =>
  match mem[id]? with
  |some (.row e els fz)=>cond (HS P e) (cond (fz==0) (gd (els.all fun x=>x.cells.all jw) (k (.fr e els))) (k (.sl els))) (k (.sl els))
  |_=>aF
 |v=>cf (s9 P mem t v) k
def H1(P:bu)(mem:List O)(ts:List aO)(vs:List V)(k:V->R):R :=
 match ts,vs with
 | [t],[v]=>H0 P mem t v k
 |ts,vs=>cf (ox P mem ts vs) k
def z4(kc:KC)(imp:Bool)(fa:FA)(s:S):R :=
 cf (cC (oM kc.cfg.P s) fa.results) fun vs=>cond imp (aA (.doneM (rN vs) s.mem)) (H1 kc.cfg.P s.mem fa.rtypes vs fun v=>aA (.done v))
def nw (kc:KC) (imp:Bool) (fa:FA) (args:List V) (mem:List O):R :=
 gd (args.length==fa.np && Nat.ble fa.np fa.nt) (iX kc mem.length fa.body 0 ⟨args++dh (fa.nt - fa.np) (.tup []),mem⟩ (z4 kc imp fa) (fun _ _=>aF) (z4 kc imp fa))
def OZ (kc:KC) (imp:Bool) (n0:Nat) (fa:FA) (j:Nat) (s:S):R :=
 kN kc n0 fa.body 0 j s (z4 kc imp fa) (fun _ _=>aF) (z4 kc imp fa)
end Go.Lite
namespace Go.Lite
open Go
structure iJ(kc:KC):Prop where
 ik:∀f as0 mem k r,kc.ik f as0 mem k=aA r->∃v m,lY kc.cfg f as0 mem=aA (v,m)/\k v m=aA r
 ck:∀rd f as0 mem k r,kc.ck rd f as0 mem k=aA r->∃v m,cA kc.cfg rd f as0 mem=aA (v,m)/\k v m=aA r:=by exact fun _ _ _ _ _ _ h=>nomatch h
section
variable {kc:KC}{P:bu}{r:dR}
theorem Cg{o:Option (Option V)}{d:Nat}{k:Nat->R}(h:wW o d k=aA r):∃n,gC o d=aA n/\k n=aA r/\(o=aF->n=d):=by
 unfold wW at h;split at h
 ·exact⟨d,rfl,h,fun _=>rfl⟩
 ·rename_i n;obtain⟨h1,h2⟩:=cQ h;exact⟨n.toNat,by simp only[gC];grind,h2,fun e=>by cases e⟩
 grind
theorem E0{o:Option (Option V)}{b:Bool}{k:R}(h:yC o b k=aA r)(hn:o=aF->b=aC):b=aC/\k=aA r:=by
 unfold yC at h;split at h
 ·grind
 ·exact cQ h
theorem zU{mem:List O}{x:V}{k:List V->R}(h:sS mem x k=aA r):∃l,dy mem x=aA l/\k l=aA r:=by
 unfold sS at h;split at h
 ·split at h
  ·rename_i hm;obtain⟨p,h⟩:=cQ h;exact⟨_,by simp only[dy,hm,aU (gx p)],h⟩
  grind
 ·exact cJ h
theorem afZ{mem:List O}{t:aO}{x:V}{lo hi mx:Option (Option V)}{k:V->R}(h:KH P mem t x lo hi mx k=aA r):∃v,lK P mem t x lo hi mx=aA v/\k v=aA r:=by
 unfold KH at h;split at h
 ·rename_i s hu;obtain⟨l,b1,h,z1⟩:=Cg h;obtain⟨m,b2,h,z2⟩:=Cg h;obtain⟨c1,h⟩:=E0 h (fun e=>by grind);obtain⟨c2,h⟩:=E0 h (fun e=>by grind);refine⟨_,?_,h⟩;simp only[lK,hu,b1,b2,bk,Option.isSome_none,dw,dI];grind
 ·rename_i x d x' mx' e hu;obtain⟨xs,hx,h⟩:=zU h;obtain⟨p1,h⟩:=cQ h;obtain⟨p2,h⟩:=cQ h;obtain⟨l,b1,h,z1⟩:=Cg h;obtain⟨m,b2,h,z2⟩:=Cg h;obtain⟨c1,h⟩:=E0 h (fun e=>by grind);obtain⟨c2,h⟩:=E0 h (fun e=>by grind);have hb:gC aF xs.length=aA xs.length:=rfl
  have key:∀y,(match x with
    |.nilS=>aA .nilS
    |.sl xs=>aA (.sl ((xs.take m).drop l))
    |.own id =>
     match mem[id]? with
     |some (.row e' _ _)=>if (none:Option (Option V)).isSome then aF else if e'=e then aA (if hi.isNone then .tail id l else .win id l (m - l)) else aF
     |_=>aF
    |.tail id off =>
     match mem[id]? with
     |some (.row e' _ _)=>if (none:Option (Option V)).isSome then aF else if e'=e then aA (if hi.isNone then .tail id (off+l) else .win id (off+l) (m - l)) else aF
     |_=>aF
    |.win id off _ =>
     match mem[id]? with
     |some (.row e' _ _)=>if (none:Option (Option V)).isSome then aF else if e'=e then aA (.win id (off+l) (m - l)) else aF
     |_=>aF
    |_=>aF)=aA y->lK P mem t x lo hi aF=aA y:=by
   intro y hy;simp only[lK,hu,hx,b1,b2,hb,bk];rw[aU ⟨gx p1,gx c1,gx c2,c7 _,(by grind),p2⟩];grind
  cases x<;>first|grind|grind|grind|skip
  all_goals grind
 ·exact cJ h
theorem N3{mem:List O}{x:V}{k:List V->R}(h:CR mem x k=aA r):∃l,og mem x=aA l/\k l=aA r:=by
 by_cases hs:∃b,x = .str b
 ·obtain⟨b,rfl⟩:=hs;exact⟨_,rfl,h⟩
 ·have e1:CR mem x k=sS mem x k:=by cases x<;>first|rfl|grind
  have e2:og mem x=dy mem x:=by cases x<;>first|rfl|grind
  rw[e1]at h;rw[e2];exact zU h
theorem V1{t:aO}{s x:V}{mem:List O}{k:V->List O->R}(h:Gj P t s x mem k=aA r):∃v m,zJ P mem t s x=aA (v,m)/\k v m=aA r:=by
 unfold Gj at h;obtain⟨e,he,h⟩:=cJ h;obtain⟨xs,hx,h⟩:=N3 h;obtain⟨p1,h⟩:=cQ h;obtain⟨q,hq,h⟩:=cJ h;have hw:(xs.all fun y=>y.cells.length==P.cellsOf e)=true:=p1;split at h
 ·rename_i e' els fz hm;obtain⟨p3,h1⟩:=cQ h;obtain⟨p4,h2⟩:=cQ h1;obtain⟨p5,h3⟩:=cQ h2;have ee:e'=e:=by grind
  subst ee;have p4:=gx p4;have p5:=gx p5;refine⟨_,_,?_,h3⟩;simp only[zJ,he,hx,hq,bk,hm];grind
 grind
theorem VJ{t:aO}{s:V}{mem:List O}{k:V->List O->R}(h:Ge P t s mem k=aA r):∃v m,zH P mem t s=aA (v,m)/\k v m=aA r:=by
 unfold Ge at h;obtain⟨e,he,h⟩:=cJ h;obtain⟨q,hq,h⟩:=cJ h;split at h
 ·rename_i e' els fz hm;obtain⟨p3,h1⟩:=cQ h;obtain⟨p4,h2⟩:=cQ h1;obtain⟨p5,h3⟩:=cQ h2;obtain⟨p6,h4⟩:=cQ h3;obtain⟨z,hz,h5⟩:=cJ h4;obtain⟨z',hz',h6⟩:=cJ h5;clear h h1 h2 h3 h4 h5;have ee:e'=e:=by grind
  subst ee;have p5:=gx p5;have p6:=gx p6;refine⟨_,_,?_,h6⟩;have hr:fC P e' 0=true:=by simp[fC,p4]
  simp only[zH,he,hq,bk,hm];grind
 grind
theorem aaX{t:aO}{ok:Bool}{v:V}{k:V->R}(hi:Im P t=aD)(h:Ig t v (fun x=>rO P t x fun x=>k (cond ok (.tup [x,.bool aC]) x)) (cond ok (cf (wo P t) fun z=>k z) aF)=aA r) :
  ∃u,yQ P t ok v=aA u/\k u=aA r:=by
 have ti:yQ P t ok v=Ce P t ok v:=by
  unfold yQ;unfold Im at hi;cases hu:P.underlying t with
  |none=>simp[hu]at hi
  |some d=>cases d<;>first|rfl|(simp[hu]at hi;done)
 have no:(cond ok (cf (wo P t) fun z=>k z) aF)=aA r->∃u,(if ok then wo P t else aF)=aA u/\k u=aA r:=fun h=>by
  rcases dl h with⟨e,h⟩|⟨_,h⟩
  ·obtain⟨z,hz,h⟩:=cJ h;exact⟨z,by rw[e,aU rfl];exact hz,h⟩
  ·cases h
 rw[ti];unfold Ig at h;split at h
 ·exact no h
 ·rename_i t' x;simp only[Ce];rcases dl h with⟨e,h⟩|⟨e,h⟩
  ·rw[aU (by simpa using e)];refine⟨_,rfl,?_⟩;have h:=t9 h;cases ok<;>exact h
  ·rw[aY (by simpa using e)];exact no h
 ·cases h
theorem aca{t:aO}{a b:V}{mem:List O}{k:V->List O->R}(h:IA P t a b mem k=aA r):∃v m,qX P mem t a b=aA (v,m)/\k v m=aA r:=by
 unfold IA at h;obtain⟨e,he,h⟩:=cJ h;split at h
 ·obtain⟨p1,h⟩:=cQ h;obtain⟨p2,h⟩:=cQ h;obtain⟨p3,h⟩:=cQ h;obtain⟨p4,h⟩:=cQ h;obtain⟨z,hz,h⟩:=cJ h;obtain⟨z',hz',h⟩:=cJ h;refine⟨_,_,?_,h⟩;simp only[qX,he,bk];rw[aU ⟨gx p1,gx p2,by simp only[fC,p3,p4,qt]⟩];simp only[hz,bk,hz',du,newRow]
 grind
theorem VY{mem:List O}{s d:aO}{x:V}{k:V->R}(h:Gh P mem s d x k=aA r):∃v,py P mem s d x=aA v/\k v=aA r:=by
 unfold Gh at h;split at h
 ·rename_i e h1 h2;obtain⟨xs,h3,h⟩:=zU h;obtain⟨p1,h⟩:=cQ h;obtain⟨ns,h4,h⟩:=cJ h;refine⟨_,?_,h⟩
  have ht:we P e xs=aA (.str (ns.map fun n=>UInt8.ofNat n.toNat)):=by
   unfold we;grind
  have key:∀x,dy mem x=aA xs->py P mem s d x=aA (.str (ns.map fun n=>UInt8.ofNat n.toNat)):=by
   intro x h3;unfold py;rw[h1,h2];cases x<;>first|(cases h3;done)|grind
  grind
 ·exact cJ h
theorem UV{t:aO}{s x:V}{mem:List O}{k:V->List O->R}(h:FZ P t s x mem k=aA r):∃v m,kJ P mem t s x=aA (v,m)/\k v m=aA r:=by
 unfold FZ at h;obtain⟨e,he,h⟩:=cJ h;obtain⟨xs,hx,h⟩:=N3 h;obtain⟨p1,h⟩:=cQ h;obtain⟨p2,h⟩:=cQ h;have hw:(xs.all fun y=>y.cells.length==P.cellsOf e)=true:=p1;split at h
 ·obtain⟨p3,h⟩:=cQ h;exact⟨_,_,by simp only[kJ,he,hx,bk,hw,cZ,fC,p2,p3,qt,newRow],h⟩
 ·rename_i id;split at h
  ·rename_i e' els fz hm;obtain⟨p3,h⟩:=cQ h;obtain⟨p4,h⟩:=cQ h;have ee:e'=e:=by grind
   subst ee;exact⟨_,_,by simp only[kJ,he,hx,bk,hw,cZ,hm,fC,p2,p4,qt,and_self,newRow],h⟩
  grind
 ·split at h
  ·rename_i e' els fz hm;obtain⟨p3,h⟩:=cQ h;obtain⟨p5,h⟩:=cQ h;obtain⟨p6,h⟩:=cQ h;have ee:e'=e:=by grind
   subst ee;simp only[nS,Nat.beq_eq,o7]at p5;exact⟨_,_,by simp only[kJ,he,hx,bk,hw,cZ,hm,fC,p2,p5,p6,qt,and_self,newRow],h⟩
  grind
 ·split at h
  ·rename_i e' els fz hm;obtain⟨p3,h1⟩:=cQ h;obtain⟨p5,h2⟩:=cQ h1;obtain⟨p6,h3⟩:=cQ h2;obtain⟨p7,h4⟩:=cQ h3;clear h h1 h2 h3;have ee:e'=e:=by grind
   subst ee;have p5:=Lv p5;subst p5;have p6:=gx p6;exact⟨_,_,by simp only[kJ,he,hx,bk,hw,cZ,hm,fC,p2,p6,p7,qt,and_self,newRow],h4⟩
  grind
 ·obtain⟨p3,h1⟩:=cQ h;obtain⟨p5,h2⟩:=cQ h1;obtain⟨p6,h3⟩:=cQ h2;clear h h1 h2;rw[iN]at p3;subst p3;simp only[cw]at p6;exact⟨_,_,by simp only[kJ,he,hx,bk,hw,cZ,fC,p2,p5,p6,qt,and_self],h3⟩
 grind
theorem UT{t t':aO}{s x:V}{mem:List O}{k:V->List O->R}(h:FY P t t' s x mem k=aA r):∃v m,uK P mem t t' s x=aA (v,m)/\k v m=aA r:=by
 unfold FY at h;unfold uK;split at h
 ·rename_i kn n hu;obtain⟨e,he,h⟩:=cJ h;obtain⟨p1,h⟩:=cQ h;obtain⟨p2,h⟩:=cQ h;obtain⟨p3,h⟩:=cQ h;obtain⟨z,hz,h⟩:=cJ h;obtain⟨z',hz',h⟩:=cJ h;refine⟨_,_,?_,h⟩;simp only[hu,he,bk];rw[aU ⟨gx p1,by simp only[fC,p2,p3,qt]⟩];simp only[hz,hz',bk,du,newRow]
 ·cases h
theorem aa5{mem:List O}{t:aO}{x i:V}{k:V->List O->R}(h:Ii P mem t x i k=aA r):∃v,kp P mem t x i=aA v/\k v mem=aA r:=by
 unfold Ii at h;split at h
 ·rename_i e ik n hu;obtain⟨p0,h⟩:=cQ h;have p0:=gx p0;split at h
  ·obtain⟨y,hy,h⟩:=pJ h;have h:=t9 h;obtain⟨p1,h⟩:=cQ h;have p1:y.cells.length=P.cellsOf e:=by grind
   exact⟨_,by simp only[kp,hu,aU p0,hy,bk,aU p1],h⟩
  ·split at h
   ·rename_i id _ e' els fz hm;obtain⟨p1,h⟩:=cQ h;obtain⟨p2,h⟩:=cQ h;have p1:e'=e:=by grind
    exact⟨_,by simp only[kp,hu,aU p0,hm,aU (And.intro p1 (gx p2))],h⟩
   grind
  ·split at h
   ·rename_i id off len _ e' els fz hm;obtain⟨p1,h⟩:=cQ h;obtain⟨p2,h⟩:=cQ h;obtain⟨p3,h⟩:=cQ h;have p1:e'=e:=by grind
    exact⟨_,by simp only[kp,hu,aU p0,hm,aU (And.intro p1 (And.intro (gx p2) (gx p3)))],h⟩
   grind
  ·split at h
   ·rename_i id off _ e' els fz hm;obtain⟨p1,h⟩:=cQ h;obtain⟨p2,h⟩:=cQ h;have p1:e'=e:=by grind
    exact⟨_,by simp only[kp,hu,aU p0,hm,aU (And.intro p1 (gx p2))],h⟩
   grind
  grind
 ·rename_i len e ik n hu;obtain⟨p0,h⟩:=cQ h;obtain⟨p1,h⟩:=cQ h;obtain⟨p2,h⟩:=cQ h;have hc:=And.intro (gx p0) (And.intro (gx p1) (gx p2));split at h
  ·exact⟨_,by simp only[kp,hu,aU hc],h⟩
  ·exact⟨_,by simp only[kp,hu,aU hc],h⟩
  grind
 ·exact cJ h
theorem PZ{mem:List O}{t:aO}{p c:V}{cs:List V}{off:Nat}(hl:f7 mem p=aA (.agg cs,off))(h1:P.cellsOf t=1)(hd:HR (P.underlying t)=aC)(hc:cs[off]? = aA c):gE P mem t p=aA c:=by
 unfold gE;obtain⟨bd,hcc⟩:=bX.1 hc
 have e1:(cs.drop off).take 1=[c]:=by
  rw[qy bd,o6,se,hcc]
 simp only[hl,bk,gT,h1,e1,List.length_singleton,cZ];unfold pP;cases hu:P.underlying t with
 |none=>rw[hu]at hd;cases hd
 |some d=>rw[hu]at hd;cases d<;>first|(cases hd;done)|rfl
theorem abY{mem:List O}{t:aO}{id i off:Nat}{e:aO}{els:List V}{fz:Nat}{x v:V}(hm:mem[id]? = aA (.row e els fz))(hx:els[i]? = aA x)
  (hl:(((x.cells.drop off).take (P.cellsOf t)).length==P.cellsOf t)=aC) (hv:pP P t ((x.cells.drop off).take (P.cellsOf t))=aA v):gE P mem t (.ptr id i off)=aA v:=by
 unfold gE;simp only[f7,hm,hx,du,bk];grind
theorem abX{mem:List O}{t:aO}{p:V}{k:V->R}(h:Iy P mem t p k=aA r):∃v,gE P mem t p=aA v/\k v=aA r:=by
 unfold Iy at h;split at h
 ·split at h
  ·rename_i hm;obtain⟨x,hx,h⟩:=pJ h;have h:=t9 h;rcases dl h with⟨hl,h⟩|⟨_,h⟩
   ·obtain⟨v,hv,h⟩:=cJ h;exact⟨v,abY hm hx hl hv,h⟩
   grind
  ·rename_i hm;rcases dl h with⟨c1,h⟩|⟨_,h⟩
   ·obtain⟨p1,h1⟩:=cQ h;obtain⟨c,hc,h2⟩:=pJ h1;have h3:=xC h2;clear h h1 h2;simp only[co,iN]at c1;have p1:=Lv p1;subst p1;exact⟨c,PZ (by simp only[f7,hm,cZ]) c1.1 c1.2 hc,h3⟩
   ·exact cJ h
  ·exact cJ h
 ·rcases dl h with⟨c1,h⟩|⟨_,h⟩
  ·obtain⟨c,hc,h⟩:=pJ h;have h:=xC h;simp only[co,iN]at c1;exact⟨c,PZ rfl c1.1 c1.2 hc,h⟩
  ·exact cJ h
 ·obtain⟨r',hr,h⟩:=cJ h;obtain⟨x,hx,h⟩:=pJ h;have h:=t9 h;rcases dl h with⟨hl,h⟩|⟨_,h⟩
  ·obtain⟨v,hv,h⟩:=cJ h;refine⟨v,?_,h⟩;unfold gE;simp only[f7,hr,hx,du,bk];grind
  grind
 ·exact cJ h
theorem KS{mem:List O}{t:aO}{p v:V}{k:List O->R}(h:Bc P mem t p v k=aA r):∃m,nO P mem t p v=aA m/\k m=aA r:=by
 unfold Bc at h;split at h
 ·split at h
  ·rename_i hm;obtain⟨p1,h⟩:=cQ h;obtain⟨p2,h⟩:=cQ h;obtain⟨x,hx,h⟩:=pJ h;have h:=t9 h;obtain⟨vs,hvs,h⟩:=cJ h;obtain⟨y,hy,h⟩:=cJ h;refine⟨_,?_,h⟩;unfold nO;grind
  ·exact cJ h
 ·obtain⟨p1,h⟩:=cQ h;obtain⟨r',hr,h⟩:=cJ h;obtain⟨x,hx,h⟩:=pJ h;have h:=t9 h;obtain⟨vs,hvs,h⟩:=cJ h;obtain⟨y,hy,h⟩:=cJ h;refine⟨_,?_,h⟩;unfold nO;grind
 ·exact cJ h
theorem Dv{mem:List O}{m:V}{k:List (V × V)->R}(h:xE mem m k=aA r):∃es,gL mem m=aA es/\k es=aA r:=by
 unfold xE at h;split at h
 ·split at h
  ·rename_i es hm;exact⟨es,by simp only[gL,hm],h⟩
  grind
 ·obtain⟨r',hr,h⟩:=cJ h;obtain⟨es,hx,h⟩:=pJ h;exact⟨es,by simp only[gL,hr,hx,bk],h⟩
 grind
theorem aa7{t:aO}{x i:V}{k:V->R}(h:Ij P t x i k=aA r):∃v,qT P t x i=aA v/\k v=aA r:=by
 unfold Ij at h;split at h
 ·rename_i hu;obtain⟨p0,h⟩:=cQ h;obtain⟨b,hb,h⟩:=pJ h;exact⟨_,by simp only[qT,hu,aU (gx p0),hb,du],h⟩
 ·rename_i len e cs ik n hu;obtain⟨p0,h⟩:=cQ h;obtain⟨p1,h⟩:=cQ h;have hcond:=And.intro (gx p0) (gx p1);rcases dl h with⟨c1,h⟩|⟨_,h⟩
  ·obtain⟨c,hc,h⟩:=pJ h;have h:=xC h;simp only[co,iN]at c1;refine⟨c,?_,h⟩;simp only[qT,hu,aU hcond,rl,c1.1,mZ];obtain⟨bd,hcc⟩:=bX.1 hc
   have e1:(cs.drop n.toNat).take 1=[c]:=by
    rw[qy bd,o6,se,hcc]
   rw[e1];simp only[List.length_singleton,cZ];have hd:=c1.2;unfold pP;cases hue:P.underlying e with
   |none=>rw[hue]at hd;cases hd
   |some d =>
    rw[hue]at hd;cases d<;>first|(cases hd;done)|rfl
  ·obtain⟨v,hv,h⟩:=cJ h;exact⟨v,by simp only[qT,hu,aU hcond,hv],h⟩
 ·exact cJ h
theorem Vd{op:BinOp}{t:aO}{x y:V}{k:V->R}(h:F5 P op t x y k=aA r):∃v,n6 P op t x y=aA v/\k v=aA r:=by
 unfold F5 at h;split at h
 ·obtain⟨p1,h1⟩:=cQ h;obtain⟨p2,h2⟩:=cQ h1;have p1:=eq_of_beq p1;subst p1;rw[kE]at p2;exact⟨_,by simp only[n6,vI,dw,dI,iO,cZ,sD,aY (of_decide_eq_false p2)],h2⟩
 ·obtain⟨p1,h1⟩:=cQ h;obtain⟨p2,h2⟩:=cQ h1;have p1:=eq_of_beq p1;subst p1;rw[kE]at p2;exact⟨_,by simp only[n6,vI,dw,dI,iO,cZ,sD,aY (of_decide_eq_false p2)],h2⟩
 ·obtain⟨p2,h⟩:=cQ h;rw[kE]at p2;exact⟨_,by simp only[n6,vI,dw,dI,iO,aY (of_decide_eq_false p2)],h⟩
 ·obtain⟨p2,h⟩:=cQ h;rw[kE]at p2;exact⟨_,by simp only[n6,vI,dw,dI,iO,aY (of_decide_eq_false p2)],h⟩
 ·obtain⟨p2,h⟩:=cQ h;exact⟨_,by simp only[n6,vI,dw,dI,iO,E9,aU (gx p2)],h⟩
 ·exact cJ h
theorem Ai{α β:Type}{f:α->(β->R)->R}{g:α->Option β}(hf:∀x k,f x k=aA r->∃y,g x=aA y/\k y=aA r):∀{l:List α} {k:List β->R},vq f l k=aA r->∃ys,cC g l=aA ys/\k ys=aA r:=by
 intro l
 induction l with
 |nil=>intro k h;exact⟨[],rfl,h⟩
 |cons x l ih =>
  intro k h;obtain⟨y,h1,h⟩:=hf _ _ h;obtain⟨ys,h2,h⟩:=ih h;exact⟨y::ys,by simp only[cC,h1,h2,bk,du],h⟩
theorem E4{mem:List O}{v:V}{k:V->R}(h:yD mem v k=aA r):∃y,f9 mem v=aA y/\k y=aA r:=by
 unfold yD at h;split at h
 ·obtain⟨l,h1,h⟩:=zU h;exact⟨_,by simp only[f9,h1,du],h⟩
 ·exact cJ h
theorem E5{mem:List O}{v:V}{k:V->R}(h:yE mem v k=aA r):∃y,iy mem v=aA y/\k y=aA r:=by
 unfold yE at h;split at h
 ·obtain⟨l,h1,h⟩:=Ai (fun x k h=>E4 h) h;exact⟨_,by simp only[iy,h1,du],h⟩
 ·obtain⟨⟨x,off⟩,h1,h⟩:=cJ h;simp only at h;split at h
  ·obtain⟨l,h2,h⟩:=Ai (fun x k h=>E4 h) h;exact⟨_,by simp only[iy,h1,bk,h2,du],h⟩
  ·rename_i hx;obtain⟨y,h2,h⟩:=E4 h;refine⟨_,?_,h⟩;simp only[iy,h1,bk]
   all_goals grind
 ·rename_i h1 h2;obtain⟨y,h3,h⟩:=E4 h;refine⟨y,?_,h⟩;cases v<;>first|exact(h1 _ rfl).elim|exact(h2 _ _ _ rfl).elim|exact h3
theorem agl{mem:List O}{t:aO}{p v:V}{k:List O->R}(h:KT P mem t p v k=aA r):∃m,t7 P mem t p v=aA m/\k m=aA r:=by
 unfold KT at h;unfold t7;split at h
 ·split at h
  ·rename_i he;rw[he,aY (by grind)];exact KS h
  ·rename_i i is he;obtain⟨v',h1,h⟩:=E5 h;rw[he,aU (by simp[nF]),h1];exact KS h
 ·rename_i hne;have:nF p=false:=by cases p<;>first|rfl|grind
  rw[this,iZ,aY (by simp)];exact KS h
theorem af2{mem:List O}{v:V}{k:V->R}(h:KM mem v k=aA r):∃y,k9 mem v=aA y/\k y=aA r:=by
 unfold KM at h;split at h
 ·obtain⟨l,h1,h⟩:=Ai (fun x k h=>E5 h) h;exact⟨_,by simp only[k9,h1,du],h⟩
 ·rename_i h1;obtain⟨y,h3,h⟩:=E5 h;refine⟨y,?_,h⟩;cases v<;>first|exact(h1 _ _ rfl).elim|exact h3
theorem adU{f:bL}{as0:List V}{k:V->R}(h:Jg kc f as0 k=aA r):∃x,bJ kc.cfg f as0=aA x/\k x=aA r:=by
 unfold Jg at h;split at h
 ·rename_i g hg;split at h
  ·rename_i x hx;exact⟨x,kc.pvok _ _ _ _ hg hx,h⟩
  grind
 ·exact adv h
theorem Mg(hik:iJ kc){dr:Bool}{f:bL}{ty:aO}{args:List V}{mem:List O}{k:V->List O->R}(h:Cl kc dr f ty args mem k=aA r) :
  ∃v m,jR kc.cfg (jz kc.cfg) dr f args mem=aA (v,m)/\k v m=aA r:=by
 unfold Cl at h;obtain⟨p1,h⟩:=cQ h;unfold jR;rw[p1];simp only[bK,dw,dI];rcases dl h with⟨c1,h⟩|⟨c1,h⟩
 ·rw[c1];simp only[cZ];obtain⟨as0,ha,h⟩:=Ai (fun x k h=>af2 h) h;obtain⟨v,hv,h⟩:=adU h;have h:=ael h;simp only[ha,bk];have hv':(jz kc.cfg).pc f as0=aA v:=hv;rw[hv'];simp only[bk];rcases dl h with⟨c2,h⟩|⟨c2,h⟩
  ·rw[c2];simp only[cZ];rcases dl h with⟨_,h⟩|⟨c3,h⟩
   ·cases h
   ·rw[c3];simp only[dw,dI];exact⟨_,_,rfl,h⟩
  ·rw[c2];simp only[dw,dI];exact⟨_,_,rfl,h⟩
 ·rw[c1];simp only[dw,dI];rcases dl h with⟨_,h⟩|⟨c2,h⟩
  ·cases h
  ·rw[c2];simp only[dw,dI];split at h
   ·rename_i hcf;rw[hcf];exact hik.ik _ _ _ _ _ h
   ·rename_i rd hcf;rw[hcf];obtain⟨v,m,h1,h⟩:=hik.ck _ _ _ _ _ _ h
    have hrk:(kc.cfg.ro f=aC->(ni rd.row args mem v m).2.take mem.length=mem)/\k (ni rd.row args mem v m).1 (ni rd.row args mem v m).2=aA r:=by
     rcases dl h with⟨_,h⟩|⟨c4,h⟩
     ·obtain⟨e1,e2⟩:=aax h;exact⟨fun _=>e1,e2⟩
     ·exact⟨fun e=>(by rw[e]at c4;cases c4),h⟩
    unfold cA at h1;simp only[omi]at h1;obtain⟨r0,h1,h2⟩:=h1;refine⟨_,_,Jy ?_ hrk.1,hrk.2⟩;simp only[sI];rw[show(jz kc.cfg).ic _ _ _=_ from h1,du,h2];rfl
theorem QG(hik:iJ kc){dr:Bool}{o:bj}{env:List V}{mem:List O}{k:V->List O->R}(h:iH kc dr o env mem k=aA r) :
  ∃v m,c8 kc.cfg (jz kc.cfg) dr o env mem=aA (v,m)/\k v m=aA r:=by
 rcases o with⟨dst,op,ty,gu⟩
 have dflt:∀q:Option (V × List O),(cf q fun r=>k r.1 r.2)=aA r->∃v m,q=aA (v,m)/\k v m=aA r:=by
  intro q hq;obtain⟨⟨v,m⟩,h1,h2⟩:=cJ hq;exact⟨v,m,h1,h2⟩
 cases op
 case pick c a b =>
  simp only[iH]at h;obtain⟨c',h1,h⟩:=cJ h;obtain⟨a',h2,h⟩:=cJ h;obtain⟨b',h3,h⟩:=cJ h;obtain⟨t,rfl,h'⟩:=Iq h;simp only[c8,h1,h2,h3,bk];rcases dl h' with⟨rfl,h'⟩|⟨rfl,h'⟩
  ·exact⟨_,_,rfl,h'⟩
  ·exact⟨_,_,rfl,h'⟩
 case load t a =>
  simp only[iH]at h;obtain⟨c',h1,h⟩:=cJ h;rcases dl h with⟨_,h⟩|⟨hb,h⟩
  ·cases h
  obtain⟨v,h2,h⟩:=abX h;exact⟨_,_,by simp only[c8,h1,h2,hb,bk,du,dw,dI],h⟩
 case nilCheck x =>
  simp only[iH]at h;obtain⟨c',h1,h⟩:=cJ h;rcases dl h with⟨hs,h⟩|⟨_,h⟩
  ·exact⟨_,_,by simp only[c8,h1,hs,bk,cZ],h⟩
  ·cases h
 case store t a x =>
  simp only[iH]at h;obtain⟨c',h1,h⟩:=cJ h;obtain⟨x',h3,h⟩:=cJ h;rcases dl h with⟨_,h⟩|⟨hb,h⟩
  ·cases h
  obtain⟨v,h2,h⟩:=agl h;exact⟨_,_,by simp only[c8,h1,h2,h3,hb,dw,dI,bk,du],h⟩
 case binOp op t x y yt =>
  simp only[iH]at h;obtain⟨c',h1,h⟩:=cJ h;obtain⟨x',h3,h⟩:=cJ h;obtain⟨v,h2,h⟩:=Vd h;exact⟨_,_,by simp only[c8,h1,h2,h3,bk,du],h⟩
 case slice t x lo hi mx =>
  simp only[iH]at h;obtain⟨c',h1,h⟩:=cJ h;rcases dl h with⟨_,h⟩|⟨hbx,h⟩
  ·cases h
  obtain⟨v,h2,h⟩:=afZ h;exact⟨_,_,by simp only[c8,h1,h2,hbx,dw,dI,bk,du],h⟩
 case indexAddr t x i =>
  simp only[iH]at h;obtain⟨c',h1,h⟩:=cJ h;obtain⟨x',h3,h⟩:=cJ h;rcases dl h with⟨_,h⟩|⟨hbx,h⟩
  ·cases h
  obtain⟨v,h2,h⟩:=aa5 h;exact⟨_,_,by simp only[c8,h1,h2,h3,hbx,dw,dI,bk,du],h⟩
 case makeSlice t n c =>
  simp only[iH]at h;obtain⟨a,h1,h⟩:=cJ h;obtain⟨b,h3,h⟩:=cJ h;obtain⟨v,m,h2,h⟩:=aca h;exact⟨v,m,by simp only[c8,h1,h2,h3,bk],h⟩
 case typeAssert x s t ok =>
  simp only[iH]at h;obtain⟨v,h1,h⟩:=cJ h;rcases dl h with⟨_,h⟩|⟨hi,h⟩
  ·cases h
  obtain⟨u,h2,h⟩:=aaX hi h;exact⟨u,mem,by simp only[c8,h1,bk,h2,du],h⟩
 case convert st d x =>
  simp only[iH]at h;obtain⟨a,h1,h⟩:=cJ h;obtain⟨v,h2,h⟩:=VY h;refine⟨v,mem,?_,h⟩;simp only[c8,h1,bk];cases dr
  ·rw[show(if aD=aC then [] else mem)=mem from rfl,show py kc.cfg.P mem st d a=aA v from h2];rfl
  ·rw[show(if aC=aC then [] else mem)=([]:List O) from rfl,show py kc.cfg.P [] st d a=aA v from h2];rfl
 case index t x i =>
  simp only[iH]at h;obtain⟨c',h1,h⟩:=cJ h;obtain⟨x',h3,h⟩:=cJ h;obtain⟨v,h2,h⟩:=aa7 h;exact⟨_,_,by simp only[c8,h1,h2,h3,bk,du],h⟩
 case lookup t m key ok =>
  simp only[iH]at h;obtain⟨m',h1,h⟩:=cJ h;obtain⟨key',h2,h⟩:=cJ h;obtain⟨es,hm,h⟩:=Dv h;obtain⟨p1,h⟩:=cQ h;obtain⟨e,he,h⟩:=cJ h;obtain⟨z,hz,h⟩:=cJ h;obtain⟨q,hq,h⟩:=aci h;rcases h with⟨rfl,h⟩|⟨v,rfl,h⟩
  ·exact⟨_,_,by simp only[c8,h1,h2,hm,p1,cZ,he,hz,hq,bk,du,Option.getD_none,Option.isSome_none],h⟩
  ·have h:=xC h;exact⟨_,_,by simp only[c8,h1,h2,hm,p1,cZ,he,hz,hq,bk,du,uC,Option.isSome_some],h⟩
 case mapUpdate t m key x =>
  simp only[iH]at h;obtain⟨m',h1,h⟩:=cJ h;obtain⟨key',h2,h⟩:=cJ h;obtain⟨x',h3,h⟩:=cJ h;obtain⟨es,hm,h⟩:=Dv h;obtain⟨p1,h⟩:=cQ h;obtain⟨p2,h⟩:=cQ h;obtain⟨e,he,h⟩:=cJ h;exact⟨_,_,by simp only[c8,h1,h2,h3,hm,p1,p2,and_self,cZ,he,bk,du],h⟩
 case call c =>
  obtain⟨callee,args,ats⟩:=c;cases callee
  case value f =>
   simp only[iH]at h;obtain⟨fv,h1,h⟩:=cJ h;obtain⟨as0,h2,h⟩:=cJ h;cases fv<;>simp only at h<;>first|(cases h;done)|skip;rcases dl h with⟨hc,h⟩|⟨hc,h⟩
   ·rcases dl h with⟨_,h⟩|⟨hb,h⟩
    ·cases h
    obtain⟨v,m,h3,h⟩:=Mg hik h;exact⟨v,m,by simp only[c8,h1,h2,hb,bk];rw[aU (Nat.le_of_ble_eq_true hc),aY Lc,h3],h⟩
   have hc:=fun hle=>Lc (hc.symm.trans (Nat.ble_eq_true_of_le hle))
   rcases dl h with⟨hb,h⟩|⟨hb,h⟩
   ·rcases dl h with⟨hb2,h⟩|⟨_,h⟩
    ·rcases dl h with⟨hna,h⟩|⟨_,h⟩
     rotate_left
     ·cases h
     obtain⟨v,m,h3,h⟩:=hik.ik _ _ _ _ _ h;obtain⟨h4,h⟩:=cQ h;refine⟨_,_,?_,h⟩;simp only[c8,h1,h2,hb,hb2,bk,aY hc,cZ];unfold pG;rw[aY (by rw[hna];simp),show(jz kc.cfg).ic _ _ _=_ from h3,bk,aU (Nat.le_of_ble_eq_true h4)]
    ·cases h
   obtain⟨v,m,h3,h⟩:=Mg hik h;exact⟨v,m,by simp only[c8,h1,h2,hb,bk,aY hc,dw,dI,h3],h⟩
  case builtin b =>
   cases b
   case len =>
    simp only[iH]at h;obtain⟨as0,h2,h⟩:=cJ h;rcases dl h with⟨_,h0⟩|⟨hbx,h0⟩
    ·cases h0
    clear h;revert h0;intro h;split at h
    ·rename_i t ts id off len rest hat;rcases dl h with⟨p1,h⟩|⟨_,h⟩
     ·obtain⟨l,h3,h⟩:=zU h;split at p1
      ·rename_i e hu;refine⟨_,_,?_,h⟩;simp only[c8,h2,hbx,dw,dI,bk,i6,hat,qW,nH,hu,h3,du]
      ·cases p1
     ·cases h
    ·rename_i t ts t' i rest hat;rcases dl h with⟨p1,h⟩|⟨_,h⟩
     ·obtain⟨es,h3,h⟩:=Dv h;split at p1
      ·rename_i e hu;refine⟨_,_,?_,h⟩;simp only[c8,h2,hbx,dw,dI,bk,i6,hat,qW,nH,hu,h3,du]
      ·cases p1
     ·cases h
    ·obtain⟨⟨v,m⟩,h3,h⟩:=cJ h;exact⟨v,m,h3,h⟩
   case append =>
    simp only[iH]at h;obtain⟨as0,h2,h⟩:=cJ h;rcases dl h with⟨_,h0⟩|⟨hbx,h0⟩
    ·cases h0
    clear h;revert h0;intro h;split at h
    ·rename_i t t' s x hat;rcases dl h with⟨p1,h⟩|⟨p1,h⟩
     ·obtain⟨v,m,h3,h⟩:=UV h;exact⟨v,m,by simp only[c8,h2,hbx,dw,dI,bk,i6,hat,wS,aU p1,h3],h⟩
     ·obtain⟨v,m,h3,h⟩:=UT h;exact⟨v,m,by simp only[c8,h2,hbx,dw,dI,bk,i6,hat,wS,p1,h3],h⟩
    ·cases h
   case copy =>
    simp only[iH]at h;obtain⟨as0,h2,h⟩:=cJ h;rcases dl h with⟨_,h0⟩|⟨hbx,h0⟩
    ·cases h0
    clear h;revert h0;intro h;split at h
    ·rename_i t t' s x hat;obtain⟨p1,h⟩:=cQ h;obtain⟨v,m,h3,h⟩:=V1 h;exact⟨v,m,by simp only[c8,h2,hbx,dw,dI,bk,i6,hat,Gi,aU p1,h3],h⟩
    ·cases h
   case clear =>
    simp only[iH]at h;obtain⟨as0,h2,h⟩:=cJ h;rcases dl h with⟨_,h0⟩|⟨hbx,h0⟩
    ·cases h0
    clear h;revert h0;intro h;split at h
    ·rename_i t s hat;obtain⟨v,m,h3,h⟩:=VJ h;exact⟨v,m,by simp only[c8,h2,hbx,dw,dI,bk,i6,hat,Gd,h3],h⟩
    ·cases h
   case delete =>
    simp only[iH]at h;obtain⟨as0,h2,h⟩:=cJ h;rcases dl h with⟨_,h0⟩|⟨hbx,h0⟩
    ·cases h0
    clear h;revert h0;intro h;split at h
    ·rename_i t ts m key hat;obtain⟨es,hm,h⟩:=Dv h;obtain⟨p1,h⟩:=cQ h;obtain⟨e,he,h⟩:=cJ h;exact⟨_,_,by simp only[c8,h2,hbx,dw,dI,bk,i6,hat,Gu,hm,p1,cZ,he,du],h⟩
    ·cases h
   all_goals exact dflt _ h
  all_goals exact dflt _ h
 all_goals exact dflt _ h
theorem yc(hik:iJ kc){dr:Bool}{o:bj}{env:List V}{mem:List O}{k:V->List O->R}(h:vK kc dr o env mem k=aA r) :
  ∃v m,eB kc.cfg (jz kc.cfg) dr o env mem=aA (v,m)/\k v m=aA r:=by
 unfold eB;rcases dl h with⟨hx,h⟩|⟨hx,h⟩
 ·obtain⟨v,m,h1,h⟩:=QG hik h;rw[aU hx,h1];cases m with
  |nil=>grind
  |cons _ _ =>
   obtain⟨v2,h3,h⟩:=cJ h;grind
 ·obtain⟨v,m,h1,h⟩:=QG hik h;grind
theorem A8{α:Type}{l:List α}{i:Nat}{x:α}(h:l[i]? = aA x):l.set i x=l:=by
 obtain⟨bd,rfl⟩:=bX.1 h;simp_all
theorem adh(hik:iJ kc){dr:Bool}:∀(l:List bj) (env:List V) (mem:List O) (k:List V->List O->R),rh kc dr l env mem k=aA r ->
  ∃s,gW kc.cfg (jz kc.cfg) dr l ⟨env,mem⟩=aA s/\k s.env s.mem=aA r:=by
 intro l
 induction l with
 |nil=>intro env mem k h;exact⟨_,rfl,h⟩
 |cons o l ih =>
  intro env mem k h;simp only[rh]at h;split at h
  ·rename_i hg;obtain⟨v,m,h1,h⟩:=yc hik h;obtain⟨s,h2,h⟩:=ih _ _ _ h;exact⟨s,by simp only[gW,hg,fI,bk,cZ,h1,h2],h⟩
  ·rename_i t want hg;split at h
   ·rename_i b hb;rcases dl h with⟨rfl,h⟩|⟨rfl,h⟩
    ·rw[A8 hb]at h;cases want<;>simp only[aZ,aP]at h;rotate_left
     ·obtain⟨v,m,h1,h⟩:=yc hik h;obtain⟨s,h2,h⟩:=ih _ _ _ h;exact⟨s,by simp only[gW,hg,fI,hb,fj,bk,cZ,h1,h2],h⟩
     ·obtain⟨s,h2,h⟩:=ih _ _ _ h;refine⟨s,?_,h⟩;simp only[gW,hg,fI,hb,bk];grind
    ·rw[A8 hb]at h;cases want<;>simp only[aZ,aP]at h;rotate_left
     ·obtain⟨s,h2,h⟩:=ih _ _ _ h;refine⟨s,?_,h⟩;simp only[gW,hg,fI,hb,bk];grind
     ·obtain⟨v,m,h1,h⟩:=yc hik h;obtain⟨s,h2,h⟩:=ih _ _ _ h;exact⟨s,by simp only[gW,hg,fI,hb,fj,bk,cZ,h1,h2],h⟩
   ·rename_i hb;obtain⟨s,h2,h⟩:=ih _ _ _ h;exact⟨s,by simp only[gW,hg,fI,hb,bk,dw,dI,h2],h⟩
   grind
theorem adg(hik:iJ kc):∀(l:List bj) (env:List V) (mem:List O) (fs:List Nat) (k:List V->List O->List Nat->R),rj kc l env mem fs k=aA r ->
  ∃s fs1,jl kc.cfg (jz kc.cfg) l ⟨env,mem⟩ fs=aA (s,fs1)/\k s.env s.mem fs1=aA r:=by
 intro l
 induction l with
 |nil=>intro env mem fs k h;exact⟨_,_,rfl,h⟩
 |cons o l ih =>
  intro env mem fs k h;simp only[rj]at h;split at h
  ·rename_i hg;obtain⟨v,m,h1,h⟩:=yc hik h;obtain⟨s,fs1,h2,h⟩:=ih _ _ _ _ h;rw[Bool.cond_eq_ite]at h2;exact⟨s,fs1,by simp only[jl,hg,fI,bk,cZ,h1,h2],h⟩
  ·rename_i t want hg;split at h
   ·rename_i b hb;rcases dl h with⟨rfl,h⟩|⟨rfl,h⟩
    ·rw[A8 hb]at h;cases want<;>simp only[aZ,aP]at h;rotate_left
     ·obtain⟨v,m,h1,h⟩:=yc hik h;obtain⟨s,fs1,h2,h⟩:=ih _ _ _ _ h;rw[Bool.cond_eq_ite]at h2;exact⟨s,fs1,by simp only[jl,hg,fI,hb,fj,bk,cZ,h1,h2],h⟩
     ·obtain⟨s,fs1,h2,h⟩:=ih _ _ _ _ h;refine⟨s,fs1,?_,h⟩;simp only[jl,hg,fI,hb,bk];grind
    ·rw[A8 hb]at h;cases want<;>simp only[aZ,aP]at h;rotate_left
     ·obtain⟨s,fs1,h2,h⟩:=ih _ _ _ _ h;refine⟨s,fs1,?_,h⟩;simp only[jl,hg,fI,hb,bk];grind
     ·obtain⟨v,m,h1,h⟩:=yc hik h;obtain⟨s,fs1,h2,h⟩:=ih _ _ _ _ h;rw[Bool.cond_eq_ite]at h2;exact⟨s,fs1,by simp only[jl,hg,fI,hb,fj,bk,cZ,h1,h2],h⟩
   ·rename_i hb;obtain⟨s,fs1,h2,h⟩:=ih _ _ _ _ h;exact⟨s,fs1,by simp only[jl,hg,fI,hb,bk,dw,dI,h2],h⟩
   grind
theorem adc(hik:iJ kc){dr:Bool}(l:List bj)(env:List V)(mem:List O)(k:List V->List O->R)(h:IR kc dr l env mem k=aA r) :
  ∃s,mc kc.cfg (jz kc.cfg) dr l ⟨env,mem⟩=aA s/\k s.env s.mem=aA r:=by
 unfold IR at h;unfold mc;rcases dl h with⟨hc,h⟩|⟨hc,h⟩
 ·obtain⟨s,fs,h1,h⟩:=adg hik _ _ _ _ _ h;grind
 ·obtain⟨s,h1,h⟩:=adh hik _ _ _ _ h;grind
end
def di(cfg:bS)(n0:Nat):C->Nat->Nat->S->Ex × S->Prop
 |.seq a b,i,j,s,r=>if j < i+nl a then ∃q,di cfg n0 a i j s q/\(match q with
   |(.norm,s')=>da cfg n0 b s'=aA r
   |q=>r=q)
  else di cfg n0 b (i+nl a) j s r
 |.cseq f a b,i,j,s,r=>if j < i+nl a then ∃q,di cfg n0 a i j s q/\(match q with
   |(.norm,s')=>da cfg n0 b (dO n0 f s')=aA r
   |q=>r=q)
  else if j=i+nl a then da cfg n0 b s=aA r else di cfg n0 b (i+nl a+1) j s r
 |.cond _ a b,i,j,s,r=>if j < i+nl a then di cfg n0 a i j s r else di cfg n0 b (i+nl a) j s r
 |.block id c,i,j,s,r=>∃q,di cfg n0 c i j s q/\r=(match q with
   |(.norm,s')=>(.norm,s')
   |(.exit e,s')=>if e=id then (.norm,s') else (.exit e,s')
   |(.ret,s')=>(.ret,s'))
 |.loop f c,i,j,s,r=>if j=i then wC cfg n0 f c s r.1 r.2 else ∃q,di cfg n0 c (i+1) j s q/\(match q with
   |(.norm,s')=>wC cfg n0 f c (dO n0 f s') r.1 r.2
   |(x,s')=>r=(x,dO n0 f s'))
 |_,_,_,_,_=>False
section
variable {kc:KC}{n0:Nat}
def K5(o:dR)(W:Ex × S->Prop)(kn:S->R)(ke:Nat->S->R)(kr:S->R)(H:Nat->S->Prop):Prop :=
 (∃s,W (.norm,s)/\kn s=aA o)∨(∃e s,W (.exit e,s)/\ke e s=aA o)∨(∃s,W (.ret,s)/\kr s=aA o)∨∃j s,o = .head j s/\H j s
theorem Mq{c:C}{t s1:S}(h:da kc.cfg n0 c t=aA (.norm,s1)){f:List Nat}{x:Ex}{s:S}(hr:wC kc.cfg n0 f c (dO n0 f s1) x s):wC kc.cfg n0 f c t x s:=by
 intro s0 h0;have:=hr s1 rfl;simp only[da,omi]at this |-
 obtain⟨r,q1,q2⟩:=this;exact⟨r,abl (by grind) q1,q2⟩
theorem Mp{c:C}{t s1:S}{i:Nat}(h:da kc.cfg n0 c t=aA (.exit i,s1)){f:List Nat}:wC kc.cfg n0 f c t (.exit i) (dO n0 f s1):=by
 intro s0 h0;simp only[da,omi];exact⟨(.exit i,s1),abk (by grind),rfl⟩
theorem Ms{c:C}{t s1:S}(h:da kc.cfg n0 c t=aA (.ret,s1)){f:List Nat}:wC kc.cfg n0 f c t .ret (dO n0 f s1):=by
 intro s0 h0;simp only[da,omi];exact⟨(.ret,s1),abm (by grind),rfl⟩
theorem Tt{env:List V}{c:fi}{b:Bool}(h:bv env c=aA (.bool b)):KB env c b=env:=by
 cases c<;>first|rfl|exact A8 h
theorem A7(hik:iJ kc):∀(c:C) (i:Nat) (s:S) (kn:S->R) (ke:Nat->S->R) (kr:S->R) (o:dR),iX kc n0 c i s kn ke kr=aA o ->
  K5 o (fun r=>da kc.cfg n0 c s=aA r) kn ke kr (fun j s'=>i<=j/\j < i+nl c/\∀r,di kc.cfg n0 c i j s' r->da kc.cfg n0 c s=aA r):=by
 intro c
 induction c with
 |skip=>intro i s kn ke kr o h;exact .inl ⟨s,rfl,h⟩
 |ops dr l =>
  intro i s kn ke kr o h;obtain⟨s',h1,h2⟩:=adc hik _ _ _ _ h;rcases dl h2 with⟨hc,h2⟩|⟨_,h2⟩
  ·exact .inl ⟨s',by simp only[da];rw[show(⟨s.env,s.mem⟩:S)=s from rfl]at h1;rw[h1,bk,aU hc],h2⟩
  ·cases h2
 |seq a b iha ihb =>
  intro i s kn ke kr o h;simp only[iX]at h;rcases iha _ _ _ _ _ _ h with⟨s1,h1,h2⟩|⟨e,s1,h1,h2⟩|⟨s1,h1,h2⟩|⟨j,s1,rfl,h1,h2,h3⟩
  ·have e1:da kc.cfg n0 (.seq a b) s=da kc.cfg n0 b s1:=by simp only[da,h1,bk]
   rcases ihb _ _ _ _ _ _ h2 with⟨s2,g1,g2⟩|⟨e,s2,g1,g2⟩|⟨s2,g1,g2⟩|⟨j,s2,rfl,g1,g2,g3⟩
   ·exact .inl ⟨s2,e1.trans g1,g2⟩
   ·exact .inr (.inl ⟨e,s2,e1.trans g1,g2⟩)
   ·exact .inr (.inr (.inl ⟨s2,e1.trans g1,g2⟩))
   ·refine .inr (.inr (.inr ⟨j,s2,rfl,by omega,by simp only[nl];omega,fun r hr=>?_⟩));simp only[di]at hr;rw[aY (by omega)]at hr;exact e1.trans (g3 r hr)
  ·exact .inr (.inl ⟨e,s1,by simp only[da,h1,bk],h2⟩)
  ·exact .inr (.inr (.inl ⟨s1,by simp only[da,h1,bk],h2⟩))
  ·refine .inr (.inr (.inr ⟨j,s1,rfl,h1,by simp only[nl];omega,fun r hr=>?_⟩));simp only[di]at hr;rw[aU h2]at hr;obtain⟨⟨x,s'⟩,q1,q2⟩:=hr;have q1:=h3 _ q1;simp only[da,q1,bk];cases x
   ·exact q2
   ·simp only at q2;rw[q2]
   ·simp only at q2;rw[q2]
 |cseq f a b iha ihb =>
  intro i s kn ke kr o h;simp only[iX]at h;rcases iha _ _ _ _ _ _ h with⟨s1,h1,h2⟩|⟨e,s1,h1,h2⟩|⟨s1,h1,h2⟩|⟨j,s1,rfl,h1,h2,h3⟩
  ·cases h2;refine .inr (.inr (.inr ⟨i+nl a,_,rfl,by omega,by simp only[nl];omega,fun r hr=>?_⟩));simp only[di]at hr;rw[aY (by omega),aU (by trivial)]at hr;simp only[da,h1,bk];exact hr
  ·exact .inr (.inl ⟨e,s1,by simp only[da,h1,bk],h2⟩)
  ·exact .inr (.inr (.inl ⟨s1,by simp only[da,h1,bk],h2⟩))
  ·refine .inr (.inr (.inr ⟨j,s1,rfl,h1,by simp only[nl];omega,fun r hr=>?_⟩));simp only[di]at hr;rw[aU h2]at hr;obtain⟨⟨x,s'⟩,q1,q2⟩:=hr;have q1:=h3 _ q1;simp only[da,q1,bk];cases x
   ·exact q2
   ·simp only at q2;rw[q2]
   ·simp only at q2;rw[q2]
 |cond c a b iha ihb =>
  intro i s kn ke kr o h;simp only[iX]at h;obtain⟨v,hv,h⟩:=cJ h;obtain⟨t,rfl,h'⟩:=Iq h;rcases dl h' with⟨rfl,h⟩|⟨rfl,h⟩
  ·rw[Tt hv]at h;have e1:da kc.cfg n0 (.cond c a b) s=da kc.cfg n0 a s:=by simp only[da,hv,bk,cZ]
   rcases iha _ _ _ _ _ _ h with⟨s2,g1,g2⟩|⟨e,s2,g1,g2⟩|⟨s2,g1,g2⟩|⟨j,s2,rfl,g1,g2,g3⟩
   ·exact .inl ⟨s2,e1.trans g1,g2⟩
   ·exact .inr (.inl ⟨e,s2,e1.trans g1,g2⟩)
   ·exact .inr (.inr (.inl ⟨s2,e1.trans g1,g2⟩))
   ·refine .inr (.inr (.inr ⟨j,s2,rfl,g1,by simp only[nl];omega,fun r hr=>?_⟩));simp only[di]at hr;rw[aU g2]at hr;exact e1.trans (g3 r hr)
  ·rw[Tt hv]at h;have e1:da kc.cfg n0 (.cond c a b) s=da kc.cfg n0 b s:=by simp only[da,hv,bk,dw,dI]
   rcases ihb _ _ _ _ _ _ h with⟨s2,g1,g2⟩|⟨e,s2,g1,g2⟩|⟨s2,g1,g2⟩|⟨j,s2,rfl,g1,g2,g3⟩
   ·exact .inl ⟨s2,e1.trans g1,g2⟩
   ·exact .inr (.inl ⟨e,s2,e1.trans g1,g2⟩)
   ·exact .inr (.inr (.inl ⟨s2,e1.trans g1,g2⟩))
   ·refine .inr (.inr (.inr ⟨j,s2,rfl,by omega,by simp only[nl];omega,fun r hr=>?_⟩));simp only[di]at hr;rw[aY (by omega)]at hr;exact e1.trans (g3 r hr)
 |block id c ih =>
  intro i s kn ke kr o h;simp only[iX]at h;rcases ih _ _ _ _ _ _ h with⟨s2,g1,g2⟩|⟨e,s2,g1,g2⟩|⟨s2,g1,g2⟩|⟨j,s2,rfl,g1,g2,g3⟩
  ·exact .inl ⟨s2,by simp only[da,g1,du],g2⟩
  ·rcases dl g2 with⟨he,g2⟩|⟨he,g2⟩
   ·have he:e=id:=by simpa using he
    exact .inl ⟨s2,by simp only[da,g1,du,aU he],g2⟩
   ·have he:¬e=id:=by simpa using he
    exact .inr (.inl ⟨e,s2,by simp only[da,g1,du,aY he],g2⟩)
  ·exact .inr (.inr (.inl ⟨s2,by simp only[da,g1,du],g2⟩))
  ·refine .inr (.inr (.inr ⟨j,s2,rfl,g1,by simp only[nl];omega,fun r hr=>?_⟩));simp only[di]at hr;obtain⟨q,q1,rfl⟩:=hr;simp only[da,g3 _ q1,du];rcases q with⟨x,s'⟩
   cases x<;>rfl
 |loop f c ih =>
  intro i s kn ke kr o h;simp only[iX]at h;cases h;refine .inr (.inr (.inr ⟨i,_,rfl,c7 _,by simp only[nl];omega,fun r hr=>?_⟩));simp only[di,cZ]at hr;exact hr s rfl
 |exit j=>intro i s kn ke kr o h;exact .inr (.inl ⟨j,s,rfl,h⟩)
 |ret=>intro i s kn ke kr o h;exact .inr (.inr (.inl ⟨s,rfl,h⟩))
 |start g =>
  intro i s kn ke kr o h;simp only[iX]at h;split at h;rotate_left
  ·cases h
  rename_i f caps he;rcases dl h with⟨_,h⟩|⟨hc,h⟩
  ·cases h
  have hc:=fun hle=>Lc (hc.symm.trans (Nat.ble_eq_true_of_le hle))
  obtain⟨th,h1,h⟩:=cJ h;rcases dl h with⟨e,h⟩|⟨e,h⟩
  ·obtain⟨as0,h2,h⟩:=cJ h;obtain⟨l,h3,h⟩:=cJ h;exact .inl ⟨_,by simp only[da,v9,he,aY hc,h1,bk,e,h2,h3,du],h⟩
  ·obtain⟨as0,h2,h⟩:=Ai (fun x k h=>E5 h) h;obtain⟨l,h3,h⟩:=cJ h
   exact .inl ⟨_,by
    have h2':cC (v7 (kc.cfg.sqj f) s.mem) caps=aA as0:=by rw[e];exact h2
    have e2:pI (kc.cfg.sqj f) s.mem=iF s.mem:=by rw[e];rfl
    simp only[da,v9,he,aY hc,h1,bk,h2',h3,du,e2],h⟩
 |uncons g ps ws a b iha ihb =>
  intro i s kn ke kr o h;simp only[iX]at h;obtain⟨hn,h⟩:=cQ h;simp only[co,Nat.beq_eq]at hn;split at h;rotate_left
  ·cases h
  rename_i ts l he;cases l with
  |nil =>
   simp only[md]at h;have e1:da kc.cfg n0 (.uncons g ps ws a b) s=da kc.cfg n0 b s:=by simp only[da,he]
   rcases ihb _ _ _ _ _ _ h with⟨s2,g1,g2⟩|⟨e,s2,g1,g2⟩|⟨s2,g1,g2⟩|⟨j,s2,rfl,g1,g2,g3⟩
   ·exact .inl ⟨s2,e1.trans g1,g2⟩
   ·exact .inr (.inl ⟨e,s2,e1.trans g1,g2⟩)
   ·exact .inr (.inr (.inl ⟨s2,e1.trans g1,g2⟩))
   ·omega
  |cons x l =>
   simp only[md]at h;obtain⟨vs,rfl,h⟩:=Pt h;have h:=T7 h;obtain⟨hl,h⟩:=cQ h;have hl:vs.length=ps.length:=by simpa using hl
   have e1:∀x s2,da kc.cfg n0 a ⟨v5 (s.env.set g .junk) ps vs,s.mem⟩=aA (x,s2)->da kc.cfg n0 (.uncons g ps ws a b) s=aA (x,⟨(gJ s2.env ws).set g (.rest ts l),s2.mem⟩):=by
    intro x s2 q;simp only[da,he,aU hl,q,du]
   rcases iha _ _ _ _ _ _ h with⟨s2,g1,g2⟩|⟨e,s2,g1,g2⟩|⟨s2,g1,g2⟩|⟨j,s2,rfl,g1,g2,g3⟩
   ·exact .inl ⟨_,e1 _ _ g1,g2⟩
   ·exact .inr (.inl ⟨e,_,e1 _ _ g1,g2⟩)
   ·exact .inr (.inr (.inl ⟨_,e1 _ _ g1,g2⟩))
   ·omega
theorem VW(hik:iJ kc):∀(c:C) (i j:Nat) (s:S) (kn:S->R) (ke:Nat->S->R) (kr:S->R) (o:dR),kN kc n0 c i j s kn ke kr=aA o ->
  K5 o (fun r=>di kc.cfg n0 c i j s r) kn ke kr (fun j' s'=>i<=j'/\j' < i+nl c/\∀r,di kc.cfg n0 c i j' s' r->di kc.cfg n0 c i j s r):=by
 intro c
 induction c with
 |seq a b iha ihb =>
  intro i j s kn ke kr o h;simp only[kN]at h;rcases dl h with⟨hj,h⟩|⟨hj,h⟩
  ·have hj:j < i+nl a:=by simp_all
   rcases iha _ _ _ _ _ _ _ h with⟨s1,h1,h2⟩|⟨e,s1,h1,h2⟩|⟨s1,h1,h2⟩|⟨j',s1,rfl,h1,h2,h3⟩
   ·rcases A7 hik b _ _ _ _ _ _ h2 with⟨s2,g1,g2⟩|⟨e,s2,g1,g2⟩|⟨s2,g1,g2⟩|⟨j',s2,rfl,g1,g2,g3⟩
    ·exact .inl ⟨s2,by simp only[di];grind,g2⟩
    ·exact .inr (.inl ⟨e,s2,by simp only[di];grind,g2⟩)
    ·exact .inr (.inr (.inl ⟨s2,by simp only[di];grind,g2⟩))
    ·refine .inr (.inr (.inr ⟨j',s2,rfl,by omega,by simp only[nl];omega,fun r hr=>?_⟩));simp only[di]at hr |-
     grind
   ·exact .inr (.inl ⟨e,s1,by simp only[di];grind,h2⟩)
   ·exact .inr (.inr (.inl ⟨s1,by simp only[di];grind,h2⟩))
   ·refine .inr (.inr (.inr ⟨j',s1,rfl,h1,by simp only[nl];omega,fun r hr=>?_⟩));simp only[di]at hr |-
    grind
  ·have hj:¬j < i+nl a:=by
    intro hh;have:jt j (i+nl a)=true:=by simpa[o7]using hh
    grind
   rcases ihb _ _ _ _ _ _ _ h with⟨s1,h1,h2⟩|⟨e,s1,h1,h2⟩|⟨s1,h1,h2⟩|⟨j',s1,rfl,h1,h2,h3⟩
   ·exact .inl ⟨s1,by simp only[di];grind,h2⟩
   ·exact .inr (.inl ⟨e,s1,by simp only[di];grind,h2⟩)
   ·exact .inr (.inr (.inl ⟨s1,by simp only[di];grind,h2⟩))
   ·refine .inr (.inr (.inr ⟨j',s1,rfl,by omega,by simp only[nl];omega,fun r hr=>?_⟩));simp only[di]at hr |-
    grind
 |cseq f a b iha ihb =>
  intro i j s kn ke kr o h;simp only[kN]at h;rcases dl h with⟨hj,h⟩|⟨hj,h⟩
  ·have hj:j < i+nl a:=by simp_all
   rcases iha _ _ _ _ _ _ _ h with⟨s1,h1,h2⟩|⟨e,s1,h1,h2⟩|⟨s1,h1,h2⟩|⟨j',s1,rfl,h1,h2,h3⟩
   ·cases h2;refine .inr (.inr (.inr ⟨i+nl a,_,rfl,by omega,by simp only[nl];omega,fun r hr=>?_⟩));simp only[di]at hr |-
    grind
   ·exact .inr (.inl ⟨e,s1,by simp only[di];grind,h2⟩)
   ·exact .inr (.inr (.inl ⟨s1,by simp only[di];grind,h2⟩))
   ·refine .inr (.inr (.inr ⟨j',s1,rfl,h1,by simp only[nl];omega,fun r hr=>?_⟩));simp only[di]at hr |-
    grind
  ·have hj:¬j < i+nl a:=by
    intro hh;have:jt j (i+nl a)=true:=by simpa[o7]using hh
    grind
   rcases dl h with⟨hk,h⟩|⟨hk,h⟩
   ·have hk:j=i+nl a:=by grind
    rcases A7 hik b _ _ _ _ _ _ h with⟨s2,g1,g2⟩|⟨e,s2,g1,g2⟩|⟨s2,g1,g2⟩|⟨j',s2,rfl,g1,g2,g3⟩
    ·exact .inl ⟨s2,by simp only[di];grind,g2⟩
    ·exact .inr (.inl ⟨e,s2,by simp only[di];grind,g2⟩)
    ·exact .inr (.inr (.inl ⟨s2,by simp only[di];grind,g2⟩))
    ·refine .inr (.inr (.inr ⟨j',s2,rfl,by omega,by simp only[nl];omega,fun r hr=>?_⟩));simp only[di]at hr |-
     grind
   ·have hk:¬j=i+nl a:=by grind
    rcases ihb _ _ _ _ _ _ _ h with⟨s1,h1,h2⟩|⟨e,s1,h1,h2⟩|⟨s1,h1,h2⟩|⟨j',s1,rfl,h1,h2,h3⟩
    ·exact .inl ⟨s1,by simp only[di];grind,h2⟩
    ·exact .inr (.inl ⟨e,s1,by simp only[di];grind,h2⟩)
    ·exact .inr (.inr (.inl ⟨s1,by simp only[di];grind,h2⟩))
    ·refine .inr (.inr (.inr ⟨j',s1,rfl,by omega,by simp only[nl];omega,fun r hr=>?_⟩));simp only[di]at hr |-
     grind
 |cond c a b iha ihb =>
  intro i j s kn ke kr o h;simp only[kN]at h;rcases dl h with⟨hj,h⟩|⟨hj,h⟩
  ·have hj:j < i+nl a:=by simp_all
   rcases iha _ _ _ _ _ _ _ h with⟨s1,h1,h2⟩|⟨e,s1,h1,h2⟩|⟨s1,h1,h2⟩|⟨j',s1,rfl,h1,h2,h3⟩
   ·exact .inl ⟨s1,by simp only[di];grind,h2⟩
   ·exact .inr (.inl ⟨e,s1,by simp only[di];grind,h2⟩)
   ·exact .inr (.inr (.inl ⟨s1,by simp only[di];grind,h2⟩))
   ·refine .inr (.inr (.inr ⟨j',s1,rfl,by omega,by simp only[nl];omega,fun r hr=>?_⟩));simp only[di]at hr |-
    grind
  ·have hj:¬j < i+nl a:=by
    intro hh;have:jt j (i+nl a)=true:=by simpa[o7]using hh
    grind
   rcases ihb _ _ _ _ _ _ _ h with⟨s1,h1,h2⟩|⟨e,s1,h1,h2⟩|⟨s1,h1,h2⟩|⟨j',s1,rfl,h1,h2,h3⟩
   ·exact .inl ⟨s1,by simp only[di];grind,h2⟩
   ·exact .inr (.inl ⟨e,s1,by simp only[di];grind,h2⟩)
   ·exact .inr (.inr (.inl ⟨s1,by simp only[di];grind,h2⟩))
   ·refine .inr (.inr (.inr ⟨j',s1,rfl,by omega,by simp only[nl];omega,fun r hr=>?_⟩));simp only[di]at hr |-
    grind
 |block id c ih =>
  intro i j s kn ke kr o h;simp only[kN]at h;rcases ih _ _ _ _ _ _ _ h with⟨s2,g1,g2⟩|⟨e,s2,g1,g2⟩|⟨s2,g1,g2⟩|⟨j',s2,rfl,g1,g2,g3⟩
  ·exact .inl ⟨s2,by simp only[di];grind,g2⟩
  ·rcases dl g2 with⟨he,g2⟩|⟨he,g2⟩
   ·have he:e=id:=by grind
    exact .inl ⟨s2,by simp only[di];grind,g2⟩
   ·have he:¬e=id:=by grind
    exact .inr (.inl ⟨e,s2,by simp only[di];grind,g2⟩)
  ·exact .inr (.inr (.inl ⟨s2,by simp only[di];grind,g2⟩))
  ·refine .inr (.inr (.inr ⟨j',s2,rfl,g1,by simp only[nl];omega,fun r hr=>?_⟩));simp only[di]at hr |-
   grind
 |loop f c ih =>
  intro i j s kn ke kr o h;simp only[kN]at h;rcases dl h with⟨hj,h⟩|⟨hj,h⟩
  ·have hj:j=i:=by grind
   subst hj;rcases A7 hik c _ _ _ _ _ _ h with⟨s2,g1,g2⟩|⟨e,s2,g1,g2⟩|⟨s2,g1,g2⟩|⟨j',s2,rfl,g1,g2,g3⟩
   ·cases g2;refine .inr (.inr (.inr ⟨j,_,rfl,c7 _,by simp only[nl];omega,fun r hr=>?_⟩));simp only[di,cZ]at hr |-
    exact Mq g1 hr
   ·exact .inr (.inl ⟨e,_,by simp only[di,cZ];exact Mp g1,g2⟩)
   ·exact .inr (.inr (.inl ⟨_,by simp only[di,cZ];exact Ms g1,g2⟩))
   ·refine .inr (.inr (.inr ⟨j',s2,rfl,by omega,by simp only[nl];omega,fun r hr=>?_⟩));simp only[di,cZ]at hr |-
    rw[aY (by omega)]at hr;obtain⟨⟨x,s'⟩,q1,q2⟩:=hr;have q1:=g3 _ q1;cases x with
    |norm=>exact Mq q1 q2
    |exit e=>simp only at q2;rw[q2];exact Mp q1
    |ret=>simp only at q2;rw[q2];exact Ms q1
  ·have hj:¬j=i:=by grind
   rcases ih _ _ _ _ _ _ _ h with⟨s2,g1,g2⟩|⟨e,s2,g1,g2⟩|⟨s2,g1,g2⟩|⟨j',s2,rfl,g1,g2,g3⟩
   ·cases g2;refine .inr (.inr (.inr ⟨i,_,rfl,c7 _,by simp only[nl];omega,fun r hr=>?_⟩));simp only[di,cZ]at hr |-
    grind
   ·exact .inr (.inl ⟨e,_,by simp only[di];grind,g2⟩)
   ·exact .inr (.inr (.inl ⟨_,by simp only[di];grind,g2⟩))
   ·refine .inr (.inr (.inr ⟨j',s2,rfl,by omega,by simp only[nl];omega,fun r hr=>?_⟩));simp only[di]at hr |-
    grind
 |_=>intro i j s kn ke kr o h;simp only[kN]at h;cases h
inductive Go(kc:KC)(imp:Bool)(n0:Nat)(fa:FA):dR->dR->Prop
 |refl (o:dR):Go kc imp n0 fa o o
 |step {j:Nat} {s:S} {o o':dR} (h:OZ kc imp n0 fa j s=aA o) (hr:Go kc imp n0 fa o o'):Go kc imp n0 fa (.head j s) o'
theorem Go.trans{imp:Bool}{fa:FA}{a b c:dR}(h:Go kc imp n0 fa a b)(h':Go kc imp n0 fa b c):Go kc imp n0 fa a c:=by
 induction h with
 |refl _=>grind
 |step q _ ih=>exact .step q (ih h')
theorem aaD{P:bu}{mem:List O}{t:aO}{v:V}{k:V->R}{r:dR}(h:H0 P mem t v k=aA r):∃x,s9 P mem t v=aA x/\k x=aA r:=by
 unfold H0 at h;split at h
 ·split at h
  ·rename_i hm;rcases dl h with⟨c1,h⟩|⟨c1,h⟩
   ·rcases dl h with⟨c2,h⟩|⟨c2,h⟩
    ·obtain⟨c3,h⟩:=cQ h;exact⟨_,by simp only[s9,hm,c1,cZ,aU (show _=0 by simpa using c2),c3],h⟩
    ·exact⟨_,by simp only[s9,hm,c1,cZ,aY (show ¬_=0 by simpa using c2)],h⟩
   ·exact⟨_,by simp only[s9,hm,c1,dw,dI],h⟩
  grind
 ·exact cJ h
theorem aaF{P:bu}{mem:List O}{ts:List aO}{vs:List V}{k:V->R}{r:dR}(h:H1 P mem ts vs k=aA r):∃x,ox P mem ts vs=aA x/\k x=aA r:=by
 unfold H1 at h;split at h
 ·exact aaD h
 ·exact cJ h
def rT(kc:KC)(imp:Bool)(fa:FA)(s:S)(o:dR):Prop :=
 ∃vs,cC (oM kc.cfg.P s) fa.results=aA vs/\((imp=aC/\o = .doneM (rN vs) s.mem)∨(imp=aD/\∃v,ox kc.cfg.P s.mem fa.rtypes vs=aA v/\o = .done v))
theorem C1{imp:Bool}{fa:FA}{s:S}{o:dR}(h:z4 kc imp fa s=aA o):rT kc imp fa s o:=by
 obtain⟨vs,h1,h⟩:=cJ h;refine⟨vs,h1,?_⟩;rcases dl h with⟨rfl,h⟩|⟨rfl,h⟩
 ·grind
 ·obtain⟨v,h2,h⟩:=aaF h;grind
def HD:Ex->Bool
 |.exit _=>aD
 |_=>aC
theorem rT.stay{imp:Bool}{fa:FA}{s:S}{o o':dR}(hf:rT kc imp fa s o)(hg:Go kc imp n0 fa o o'):o=o':=by
 cases hg with
 |refl=>rfl
 |step q _ =>
  obtain⟨vs,_,⟨_,q⟩|⟨_,v,_,q⟩⟩:=hf
  all_goals grind
theorem Go.sound(hik:iJ kc){imp:Bool}{fa:FA}{o o':dR}(h:Go kc imp n0 fa o o'):∀j s,o = .head j s->(∀j s,o'≠.head j s)->∃x s',di kc.cfg n0 fa.body 0 j s (x,s')/\HD x=aC/\rT kc imp fa s' o':=by
 induction h with
 |refl o=>grind
 |step h1 hr ih =>
  intro j s e hn;cases e;rcases VW hik _ _ _ _ _ _ _ _ h1 with⟨s2,g1,g2⟩|⟨e,s2,g1,g2⟩|⟨s2,g1,g2⟩|⟨j',s2,rfl,g1,g2,g3⟩
  ·have hf:=C1 g2;have:=rT.stay hf hr;subst this;exact⟨_,_,g1,rfl,hf⟩
  ·grind
  ·have hf:=C1 g2;have:=rT.stay hf hr;subst this;exact⟨_,_,g1,rfl,hf⟩
  grind
theorem Sp(hik:iJ kc){imp:Bool}{fa:FA}{args:List V}{mem:List O}{o o':dR}(h:nw kc imp fa args mem=aA o)(hg:Go kc imp mem.length fa o o')(hn:∀j s,o'≠.head j s) :
  ∃vs s,tV kc.cfg fa args mem=aA (vs,s)/\((imp=aC/\o' = .doneM (rN vs) s)∨(imp=aD/\∃v,ox kc.cfg.P s fa.rtypes vs=aA v/\o' = .done v)):=by
 obtain⟨ha,h⟩:=cQ h;simp only[co,iN,Nat.ble_eq]at ha
 have key:∀(x:Ex) (s':S),da kc.cfg mem.length fa.body ⟨args++dh (fa.nt - fa.np) (.tup []),mem⟩=aA (x,s')->HD x=aC->rT kc imp fa s' o' ->
   ∃vs s,tV kc.cfg fa args mem=aA (vs,s)/\((imp=aC/\o' = .doneM (rN vs) s)∨(imp=aD/\∃v,ox kc.cfg.P s fa.rtypes vs=aA v/\o' = .done v)):=by
  intro x s' hx he ⟨vs,h1,h2⟩;refine⟨vs,s'.mem,?_,h2⟩;unfold tV;rw[aU ha];cases x with
  |exit i=>cases he
  |norm=>grind
  |ret=>grind
 have done:∀s,rT kc imp fa s o->o=o':=fun s hf=>hf.stay hg
 rcases A7 hik _ _ _ _ _ _ _ h with⟨s2,g1,g2⟩|⟨e,s2,g1,g2⟩|⟨s2,g1,g2⟩|⟨j',s2,rfl,g1,g2,g3⟩
 ·have hf:=C1 g2;have:=done _ hf;subst this;exact key _ _ g1 rfl hf
 ·grind
 ·have hf:=C1 g2;have:=done _ hf;subst this;exact key _ _ g1 rfl hf
 ·obtain⟨x,s',q1,q2,q3⟩:=hg.sound hik _ _ rfl hn;grind
theorem pX(hik:iJ kc){f:bL}{fa:FA}{args:List V}{o:dR}{v:V}(hp:kc.cfg.pprim f=aF)(hf:il kc.cfg.P (kc.cfg.rxf f) f=aA fa)(h:nw kc aD fa args []=aA o)(hg:Go kc aD 0 fa o (.done v))(ha:kc.cfg.ars f=[]:=by rfl) :
  bJ kc.cfg f args=aA v:=by
 obtain⟨vs,s,h1,⟨h2,_⟩|⟨_,v',h2,h3⟩⟩:=Sp hik h hg (by grind)
 ·grind
 ·cases h3;exact adw hp hf h1 h2 ha
theorem Pe(hik:iJ kc){f:bL}{fa:FA}{args:List V}{mem mem':List O}{o:dR}{v:V}(hp:kc.cfg.iprim f=aF)(hf:il kc.cfg.P (kc.cfg.rxf f) f=aA fa)(h:nw kc aC fa args mem=aA o)(hg:Go kc aC mem.length fa o (.doneM v mem')) :
  lY kc.cfg f args mem=aA (v,mem'):=by
 obtain⟨vs,s,h1,⟨_,h2⟩|⟨h2,_⟩⟩:=Sp hik h hg (by grind)
 ·cases h2;exact Pf hp hf h1
 grind
end
def JU(n:Nat):List V:=dh n bo
def W(k:IntKind)(n:Int):Int:=k.wrap n
def mv(d s t:Nat):bj:=⟨aA d,.move (.tmp s),t,aF,aD,aD,aD⟩
def uL(d s t:Nat):bj:=⟨aA d,.assign (.tmp s),t,aF,aD,aD,aD⟩
def o1(d:Nat)(o:Op)(t:Nat):bj:=⟨aA d,o,t,aF,aD,aD,aD⟩
def o0(o:Op)(t:Nat):bj:=⟨aF,o,t,aF,aD,aD,aD⟩
def o2(d:Nat)(o:Op)(t g:Nat)(b:Bool):bj:=⟨aA d,o,t,aA (g,b),aD,aD,aD⟩
abbrev t'(n:Nat):fi:=.tmp n
theorem bf{n:Int}(h:-9223372036854775808<=n/\n < 9223372036854775808):W .i64 n=n:=by
 have e:IntKind.signed .i64=true:=rfl;have e1:IntKind.bits .i64=64:=rfl;unfold W IntKind.wrap;grind
theorem lq{n:Int}(h:0<=n/\n < 18446744073709551616):W .u64 n=n:=by
 have e:IntKind.signed .u64=false:=rfl;have e1:IntKind.bits .u64=64:=rfl;unfold W IntKind.wrap;grind
section
variable {o:R}{b:Bool}
@[simp] theorem nB{k:R}:gd aC k=k:=rfl
@[simp] theorem bI{b:Bool}{k:Bool->R}:kB (.bool b) k=k b:=rfl
@[simp] theorem bF{j:IntKind}{n:Int}{k:Int->R}:kI j (.int j n) k=k n:=by cases j<;>rfl
@[simp] theorem cR{s:List UInt8}{k:List UInt8->R}:kS (.str s) k=k s:=rfl
@[simp] theorem jD{s:List V}{k:List V->R}:kL (.sl s) k=k s:=rfl
@[simp] theorem nG{s:List V}{k:List V->R}:kA (.agg s) k=k s:=rfl
@[simp] theorem jf{s:List V}{k:List V->R}:kT (.tup s) k=k s:=rfl
@[simp] theorem ir{e:aO}{s:List V}{k:List V->R}:kF e (.fr e s) k=k s:=by simp[kF]
@[simp] theorem ahJ{e:aO}{i:Nat}{k:Nat->R}:kP e (.hp e i 0) k=k i:=by simp[kP]
@[simp] theorem ahI{e:aO}{i:Nat}{k:Nat->R}:kM e (.hm e i) k=k i:=by simp[kM]
@[simp] theorem jo{c:V}{cs:List V}{k:V->List V->R}:bU (c::cs) k=k c cs:=rfl
@[simp] theorem jp{k:R}:eo [] k=k:=rfl
@[simp] theorem iT{α:Type}{x:α}{k:α->R}:cf (aA x) k=k x:=rfl
theorem aQ{k:R}(h:b=aC):gd b k=k:=by simp_all
theorem cG{α:Type}{l:List α}{n:Nat}{x:α}{k:α->R}(h:l[n]? = aA x):bl l n k=k x:=by simp only[bl,h]
theorem aN{cfg:bS}{f:bL}{as0:List V}{k:V->R}{v:V}(h:bJ cfg f as0=aA v):aL cfg f as0 k=k v:=by simp only[aL,h]
@[simp] theorem aem{kn:R}{ks:V->List V->R}:md [] kn ks=kn:=rfl
@[simp] theorem yn{x:V}{l:List V}{kn:R}{ks:V->List V->R}:md (x::l) kn ks=ks x l:=rfl
theorem ach{es:List (V × V)}{key:V}{kn:R}{ks:V->R}{v:V}(h:gM es key=aA (aA v)):tE es key kn ks=ks v:=by simp only[tE,h]
end
theorem ej{α:Type}{l r:List α}{k:Nat}{x:α}(h:l.drop k=x::r):l[k]? = aA x/\l.drop (k+1)=r/\k < l.length:=by
 have hk:k < l.length:=by
  rcases mY k l.length with h1|h1
  ·exact h1
  ·rw[FI h1]at h;cases h
 rw[qy hk]at h;injection h with h1 h2
 exact⟨by rw[cj hk,h1],h2,hk⟩
theorem fT{α:Type}{l:List α}{k:Nat}(h:l.drop k=[]):l.length<=k:=Lj.1 h
@[simp] theorem ahg{α:Type}{p:Prop}[Decidable p]{a b:α}:(cond (decide p) a b)=if p then a else b:=by
 by_cases h:p<;>simp[h]
@[simp] theorem ahA{p:Prop}[Decidable p]{k:R}:gd (decide p) k=if p then k else none:=by
 by_cases h:p<;>simp[h,gd]
theorem If{α:Type}{l:List α}{f:α->V}{n:Nat}{x:α}{k:V->R}(h:l[n]? = aA x):bl (l.map f) n k=k (f x):=by
 simp only[bl,fW,h,du]
theorem K2{α:Type}{l:List α}{f:α->V}{c:Nat}(h:∀x,(f x).cells.length=c):cw c (l.map f)=true:=by
 simp only[cw,List.all_map,eJ,Function.comp_apply,iN];exact fun x _=>h x
theorem OM{α:Type}{l:List α}{f:α->V}(h:∀x,(f x).cells.all jw=aC):((l.map f).all fun x=>x.cells.all jw)=true:=by
 simp only[List.all_map,eJ,Function.comp_apply];exact fun x _=>by simpa using h x
theorem bi(n:Nat):((n:Int)).toNat=n:=by omega
theorem Go.up{kc:KC}{imp:Bool}{n0:Nat}{fa:FA}{P:Nat->dR}{n:Nat}(h:∀k,k < n->Go kc imp n0 fa (P k) (P (k+1))):∀k,k<=n->Go kc imp n0 fa (P k) (P n):=by
 have:∀d k,k+d=n->Go kc imp n0 fa (P k) (P n):=by
  intro d
  induction d with
  | zero=>intro k hk;have:k=n:=by omega
          subst this;exact .refl _
  |succ d ih=>intro k hk;exact(h k (by omega)).trans (ih (k+1) (by omega))
 exact fun k hk=>this (n - k) k (by omega)
section
variable {P:bu}{Z Z':Zs}{w w':be}{j j':J}{mem mem':List O}
theorem En(w:be)(dT sT ty elem:aO)(i:TypeInfo)(g o dLen dCap:Nat)(a:Addr)(sLen sCap:Nat)(cur:Array aR)(t:aO)(cs:List aR)
  (hu:P.underlying dT=aA (.slice elem)) (hi:P.info? elem=aA i)
  (hg:w.heap[g]? = aA (.cells cur t (0,0))) (hn:cs.length=Nat.min sLen dLen * i.size)
  (hsrc:∀j v,cs[j]? = aA v->w.cell? (a.add j)=aA v) (hfit:o+cs.length<=cur.size) (h1:∀v∈cs,v.oneCell'=aC) :
  (Builtin.copy_ #[dT,sT] ty #[.slice (aA ⟨g,o,aF⟩) dLen dCap,.slice (aA a) sLen sCap]).run P w =
   .ok (goInt (Nat.min sLen dLen)) (w.setRow g (cur.toList.take o++cs++cur.toList.drop (o+cs.length)).toArray):=by
 have hf:=AS (P:=P) w i.size (Nat.min sLen dLen) a sLen sCap cs hn hsrc;have hst:=yu P g o t cs 0 cur w hg (by grind) h1;simp only[fL]at hst;simp[Builtin.copy_,dS hu,Builtin.lenOf,sizeOf,gY,hi,hf,hst]
def jn(us:Array aR)(p:Nat)(vs:List aR):Array aR:=(us.toList.take p++vs++us.toList.drop (p+vs.length)).toArray
theorem yF{us:Array aR}{p:Nat}{vs:List aR}(h:p+vs.length<=us.size):(jn us p vs).size=us.size:=by
 simp only[jn,wB,eV,eC,fD,Fy];omega
theorem me{us:Array aR}{p:Nat}{vs:List aR}(h:p+vs.length<=us.size)(o:Nat):(jn us p vs)[o]? = if o < p then us[o]? else if o < p+vs.length then vs[o - p]? else us[o]?:=by
 have hto:(us.toList.take p).length=p:=by grind
 simp only[jn,Bt,cO];grind
theorem R6(s:SR P Z w j mem){id:Nat}{e:aO}{els els':List V}(hm:mem[id]? = aA (.row e els 0)){g q n c:Nat}{us us':Array aR}(hj:j id=aA ⟨.slice (aA ⟨g,q,aF⟩) n c,P.cellsOf e⟩)
  (_hg:w.heap[g]? = aA (.cells us e (0,0))) (hZ:∀o,¬Z g o) {w1:be} (hg1:w1.heap[g]? = aA (.cells us' e (0,0))) (hot:∀k,k≠g->w1.heap[k]? = w.heap[k]?)
  (hos:w1.os=w.os) (htape:w1.tape=w.tape) (hout:w1.output=w.output) (hsz:w1.heap.size=w.heap.size) (hpos:0 < P.cellsOf e) (hall:∀x∈els',x.cells.length=P.cellsOf e) (hlc:els'.length<=c) (hcm:c<=f8) (hus:q+c * P.cellsOf e<=us'.size)
  (hcl:∀(k:Nat) (x:V) (i:Nat) (y:V),els'[k]? = aA x->x.cells[i]? = aA y->y.one=aC/\∃u,us'[q+(k * P.cellsOf e+i)]? = aA u/\VR Z w j0 y u) :
  mo P Z w j mem (mem.set id .dead).length (newRow (mem.set id .dead) e els' 0).2 (.slice (aA ⟨g,q,aF⟩) els'.length c) w1:=by
 have bd:id < mem.length:=(bX.1 hm).1;have hown:bM Z j mem g:=⟨id,_,hm,rfl,by simp[bQ,O.ar,dj,hj,cE.blk]⟩
 have hno:¬bM Z j (mem.set id .dead) g:=by
  rintro⟨k,x,hx,hl,hb⟩
  by_cases e':id=k
  ·subst e';rw[gR bd]at hx;cases hx;cases hl
  ·rw[ia e']at hx;exact e' (s.inj id k _ x g hm hx rfl hl (by simp[bQ,O.ar,dj,hj,cE.blk]) hb)
 have s1:=s.kill hm
 have hz':bO Z w Z w1:=by
  refine .of fun g' o ho=>⟨ho,?_⟩
  by_cases hgg:g'=g
  ·subst hgg;exact(hZ o ho).elim
  ·exact j7 (hot g' hgg) o
 have s2:SR P Z w1 j (mem.set id .dead):=s1.world hz' (fun g' hg'=>⟨hot g' (fun e'=>hno (e' ▸ hg')),fun _=>Iff.rfl⟩) (fun g' o ho=>by rw[hsz];exact s1.zin g' o ho)
 have s3:=s2.add (h:=⟨.slice (aA ⟨g,q,aF⟩) els'.length c,P.cellsOf e⟩) (o:=.row e els' 0) (fun g' hg'=>by
   simp[cE.blk]at hg';subst hg';exact hno)
  ⟨_,gZ _ _ _,rfl,hpos,jQ _,hall,.inr ⟨g,q,c,us',rfl,hlc,hcm,hg1,hus,fun k x hk i y hy=>by
    obtain⟨a,u',hu',hv⟩:=hcl k x i y hk hy;refine⟨a,u',?_,hv.mono hz' (bE.refl _)⟩;rw[gI hg1,<-hu'];simp only[jP],fun o ho=>(hZ o ho).elim,fun o ho=>by simp at ho⟩⟩
 refine⟨Z,_,_,gZ _ _ _,s3,⟨hos,htape,hout,by omega,fun g' hg' hno'=>⟨hot g' (fun e'=>hno' (e' ▸ hown)),fun _=>Iff.rfl⟩,fun g' hg' ho=>?_,hz',fun t h=>⟨(fV.set hm (fun n e=>by cases e) h).add rfl,rfl⟩⟩,s1.ext _⟩
 ·rcases bM.add ho with ho|ho
  ·exact(bh.kill (Z:=Z) (w:=w) (j:=j) hm).owned g' hg' ho
  ·simp[cE.blk]at ho;subst ho;exact hown
theorem afi(w:be)(t ty e:aO)(i:TypeInfo)(ht:P.underlying t=aA (.slice e))(hi:P.info? e=aA i)
  (g b sLen sCap:Nat) (cur:Array aR) (hg:w.heap[g]? = aA (.cells cur e (0,0)))
  (a:Addr) (m c:Nat) (news:List aR) (hl:news.length=m * i.size) (hnews:∀j u,news[j]? = aA u->w.cell? (a.add j)=aA u) (h1:∀u∈news,u.oneCell'=aC)
  (hroom:sLen+m<=sCap) (hfit:b+sLen * i.size+news.length<=cur.size) :
  (Builtin.append_ #[t,t] ty #[.slice (aA ⟨g,b,aF⟩) sLen sCap,.slice (aA a) m c]).run P w =
   .ok (.slice (aA ⟨g,b,aF⟩) (sLen+m) sCap) (w.setRow g (cur.toList.take (b+sLen * i.size)++news++cur.toList.drop (b+sLen * i.size+news.length)).toArray):=by
 have hf:=AS (P:=P) w i.size m a m c news hl hnews;have hst:=yu P g (b+sLen * i.size) e news 0 cur w hg (by grind) h1;simp only[fL]at hst;simp[Builtin.append_,dS ht,sizeOf,gY,hi,Builtin.lenOf,hroom,hf,Addr.add_lit,hst]
theorem ahN{α:Type}(a:Array α)(x:α)(f:α->α):(a.push x).modify a.size f=a.push (f x):=by
 grind
theorem afQ(w:be)(us us':Array aR)(t:aO):((w.alloc (.cells us t)).setRow w.heap.size us').heap=w.heap.push (.cells us' t):=by
 unfold World.setRow World.alloc;grind
def yG(mem:List O)(id:Nat):V->Option (aO × List V)
 |.own id2=>if ll id id2 then aF else
  match mem[id2]? with
  |some (.row t xs _)=>aA (t,xs)
  |_=>aF
 |.lit t xs=>aA (t,xs)
 |_=>aF
def tg(e:aO)(sz:Nat):List V->List O->Option (V × List O)
 | [.own id,.int .i64 i,x],mem =>
  match mem[id]?,yG mem id x with
  |some (.row t els 0),aA (t2,xs) =>
   if t=e/\t2=e/\cw sz xs=aC/\0 < xs.length/\0<=i/\i.toNat<=els.length/\els.length+xs.length<=16777216 then
    aA (newRow (mem.set id .dead) e (els.take i.toNat++xs++els.drop i.toNat) 0)
   else aF
  |_,_=>aF
 |_,_=>aF
structure FG(P:bu)(f ov:bL)(t e tn:aO)(kn:IntKind):Prop where
 ht:P.underlying t=aA (.slice e)
 htn:P.underlying tn=aA (.int kn)
 row:qe P e=aC
 ovr:∀(w:be) (g g2 o m c2 lb cb:Nat) (us us2:Array aR),g2≠g->w.heap[g]? = aA (.cells us e (0,0))->w.heap[g2]? = aA (.cells us2 e (0,0))->0 < us.size ->
  (callFunc ov #[.slice (aA ⟨g2,0,aF⟩) m c2,.slice (aA ⟨g,o,aF⟩) lb cb]).run P w = .ok (.value (.bool aD)) w
 shift:∀(g n c i g2 m c2:Nat) (w w2 w3:be) (k1 k2:aR),i < n->0 < m->n+m<=c->c<=9223372036854775807 ->
  (∀lb cb o,(callFunc ov #[.slice (aA ⟨g2,0,aF⟩) m c2,.slice (aA ⟨g,o,aF⟩) lb cb]).run P w = .ok (.value (.bool aD)) w) ->
  (∀ty dc sc,(Builtin.copy_ #[t,t] ty #[.slice (aA ⟨g,(i+m) * P.cellsOf e,aF⟩) (n+m - (i+m)) dc,.slice (aA ⟨g,i * P.cellsOf e,aF⟩) (n+m - i) sc]).run P w.drew = .ok k1 w2) ->
  (∀ty dc,(Builtin.copy_ #[t,t] ty #[.slice (aA ⟨g,i * P.cellsOf e,aF⟩) (n+m - i) dc,.slice (aA ⟨g2,0,aF⟩) m c2]).run P w2 = .ok k2 w3) ->
  Calls P f #[.slice (aA ⟨g,0,aF⟩) n c,.int .i64 i,.slice (aA ⟨g2,0,aF⟩) m c2] w fun x w'=>x = .returned (.slice (aA ⟨g,0,aF⟩) (n+m) c)/\w'=w3
 atEnd:∀(A A2:Option Addr) (n c m c2:Nat) (w w1:be) (r:aR),0 < m->n<=c->c<=9223372036854775807->(A=aF->n=0/\c=0)->(∀a,A=aA a->∃g,a=⟨g,0,aF⟩) ->
  (∀ty,(Builtin.append_ #[t,t] ty #[.slice A n c,.slice A2 m c2]).run P w = .ok r w1) ->
  Calls P f #[.slice A n c,.int .i64 n,.slice A2 m c2] w fun x w'=>x = .returned r/\w'=w1
 grow:∀(g n c i g2 m c2 N G:Nat) (w w1 w2 w3:be) (k1 k2:aR),i < n->0 < m->n<=c->c < n+m->n+m<=16777216->n+m<=G->G<=9223372036854775807 ->
  (∀ty,(Builtin.append_ #[t,tn] ty #[.slice (aA ⟨g,0,aF⟩) i c,.int .i64 ((n:Int)+(m:Int) - (i:Int))]).run P w = .ok (.slice (aA ⟨N,0,aF⟩) (n+m) G) w1) ->
  (∀ty dc,(Builtin.copy_ #[t,t] ty #[.slice (aA ⟨N,i * P.cellsOf e,aF⟩) (n+m - i) dc,.slice (aA ⟨g2,0,aF⟩) m c2]).run P w1 = .ok k1 w2) ->
  (∀ty dc sc,(Builtin.copy_ #[t,t] ty #[.slice (aA ⟨N,(i+m) * P.cellsOf e,aF⟩) (n+m - (i+m)) dc,.slice (aA ⟨g,i * P.cellsOf e,aF⟩) (n - i) sc]).run P w2.drew = .ok k2 w3) ->
  Calls P f #[.slice (aA ⟨g,0,aF⟩) n c,.int .i64 i,.slice (aA ⟨g2,0,aF⟩) m c2] w fun x w'=>x = .returned (.slice (aA ⟨N,0,aF⟩) (n+m) G)/\w'=w3
theorem Pn{f ov:bL}{t e tn:aO}{kn:IntKind}(W:FG P f ov t e tn kn):iK P fun f' as0 mem=>if f'=f then tg e (P.cellsOf e) as0 mem else none:=by
 intro f' as0 mem r mem' h bA Z w j us s ha;simp only at h
 by_cases hf:f'=f
 rotate_left
 ·rw[aY hf]at h;cases h
 subst hf;rw[aU rfl]at h;unfold tg at h;split at h;rotate_left
 ·cases h
 rename_i id i x2;split at h;rotate_left
 ·cases h
 rename_i te els t2 xs hm hm2;split at h;rotate_left
 ·cases h
 rename_i hc;obtain⟨rfl,rfl,hw,hx0,hi0,hin,hlen⟩:=hc;cases h
 have hxl:∀x∈xs,x.cells.length=P.cellsOf t2:=fun x hx=>by
  have:=eJ.1 hw x hx;simpa using this
 obtain⟨hl,hv⟩:=ha
 match us,hl,hv with
 | [u,ui,ux],hl,hv =>
 have hu:=hv 0 (.own id) u rfl rfl;have hui:=hv 1 (.int .i64 i) ui rfl rfl;have hux:=hv 2 x2 ux rfl rfl;cases hui;obtain⟨h,hh,h1,h2,h3,h4,h5⟩:=s.obj id _ hm;have hroom:fC P t2 (els.length+xs.length)=true:=by simp[fC,hlen,W.row]
 obtain⟨_,hby,hpos,inf,z,hinf,his,hib,hz,hzs⟩:=lI hroom;cases hu with
 |own hju h00 =>
 rename_i A n c szu;rw[hju]at hh;cases hh;simp only at h1 h2;subst h1;have h2:0 < P.cellsOf t2:=h2
 have hel2:dy mem x2=aA xs:=by
  cases x2<;>simp only[yG]at hm2<;>first|(cases hm2;done)|skip
  ·split at hm2
   ·cases hm2
   ·split at hm2
    ·rename_i hmm;cases hm2;simp only[dy,hmm]
    ·cases hm2
  ·cases hm2;rfl
 obtain⟨g2,c2,us2,rfl,hg2,hcells2,hgn2⟩:∃g2 c2 us2,ux = .slice (aA ⟨g2,0,aF⟩) xs.length c2/\w.heap[g2]? = aA (.cells us2 t2 (0,0))/\(∀k x,xs[k]? = aA x->ge Z w j0 g2 (0+k * P.cellsOf t2) x.cells) /\
   (∀g,dj j id=aA g->(∀o,¬Z g o)->g2≠g):=by
  cases x2 with
  |own id2 =>
   simp only[yG]at hm2;split at hm2
   ·cases hm2
   ·rename_i hne;split at hm2
    ·rename_i t2' xs' fz2 hmm;cases hm2;obtain⟨hb,hhb,b1,b2,b3,b4,b5⟩:=s.obj id2 _ hmm;cases hux with
     |own hjx h01 =>
      rw[hjx]at hhb;cases hhb;simp only at b1 b2;subst b1;rcases b5 with⟨hv2,he2⟩|⟨g2,q2,cc2,us2,hv2,hlc2,hcm2,hg2,hus2,hcells2,hz21,hz22⟩
      ·subst he2;simp at hx0
      ·simp only at hv2;cases hv2;have hq2:q2=0:=h01 _ rfl;subst hq2;refine⟨g2,_,us2,rfl,hg2,hcells2,fun g hg _=>?_⟩;rintro rfl;exact hne (by rw[s.inj id id2 _ _ g2 hm hmm rfl rfl hg (by simp[bQ,O.ar,dj,hjx,cE.blk])];exact Nat.beq_refl _)
    ·cases hm2
  |lit t' l' =>
   simp only[yG]at hm2;cases hm2;cases hux with
   |lit hsl hk hz0 =>
    rename_i g2 n2;have hk:=hk hx0;have hz0:=hz0 hx0;simp only[jg]at hk;split at hk
    ·rename_i us2 tt fr hgg;cases hk;rcases hsl.slInv with⟨A,c,he,_⟩|⟨g',b',c',sz',he,_,hsz',hh'⟩
     ·subst he;simp at hx0
     ·simp only[Value.slice.injEq,Option.some.injEq,Addr.mk.injEq,and_true,true_and]at he;obtain⟨⟨rfl,rfl⟩,hcc⟩:=he;have e0:xs[0]? = aA xs[0]:=cj hx0;have es:sz'=P.cellsOf t2:=by rw[<-(hh' 0 _ e0).1,hxl _ (dx e0)]
      subst es;refine⟨g2,_,us2,rfl,hgg,fun k x hk=>(hh' k x hk).2.2,fun g hg hno=>?_⟩;rintro rfl;exact hno 0 hz0
    ·cases hk
  |_=>simp[yG]at hm2
 ·clear h2
  have hnc:n=els.length/\n<=c/\c<=9223372036854775807/\(A=aF->n=0/\c=0)/\(∀a,A=aA a->∃g,a=⟨g,0,aF⟩):=by
   rcases h5 with⟨hv1,he1⟩|⟨g,q,cc,us1,hv1,hlc,hcm,_⟩
   ·simp only at hv1;cases hv1;subst he1;exact⟨rfl,c7 _,by omega,fun _=>⟨rfl,rfl⟩,(by intro a h;cases h)⟩
   ·simp only at hv1;cases hv1;have hq:q=0:=h00 _ rfl;subst hq;exact⟨rfl,hlc,by unfold f8 at hcm;omega,(by intro h;cases h),(by intro a h;cases h;exact⟨g,rfl⟩)⟩
  obtain⟨hn,hnc,hc63,hA0,hA1⟩:=hnc;obtain⟨ii,rfl⟩:∃ii:Nat,i=(ii:Int):=⟨i.toNat,by omega⟩
  have eii:((ii:Int)).toNat=ii:=by omega
  rw[eii]at hin |-
  by_cases hend:ii=els.length
  ·-- at the end
   have hap:kJ P mem t (.own id) x2=aA (newRow (mem.set id .dead) t2 (els++xs) 0):=by
    have hel3:og mem x2=aA xs:=by cases x2<;>first|exact hel2|(cases hel2)
    simp only[kJ,gj,W.ht,bk,hel3,hm,hroom,and_self,cZ];have:(xs.all fun y=>y.cells.length==P.cellsOf t2)=true:=hw;rw[aU this]
   obtain⟨r1,w1,hr,hpost⟩:=F0 (t:=t) (tx:=t) (ty:=t) (u:=.slice A n c) (ux:=.slice (aA ⟨g2,0,aF⟩) xs.length c2) s (by cases x2<;>first|(simp[nc];done)|(cases hel2)) hap (.own hju h00) hux;have hr':∀ty,(Builtin.append_ #[t,t] ty #[.slice A n c,.slice (aA ⟨g2,0,aF⟩) xs.length c2]).run P w = .ok r1 w1:=fun ty=>hr
   have e1:els.take ii++xs++els.drop ii=els++xs:=by rw[hend];simp
   rw[e1];have hcall:=W.atEnd A (aA ⟨g2,0,aF⟩) n c xs.length c2 w w1 r1 hx0 hnc hc63 hA0 hA1 hr';have e2:ii=n:=by omega
   subst e2
   exact hcall.mono fun x w' hxw=>by
    obtain⟨rfl,rfl⟩:=hxw;exact⟨r1,rfl,hpost⟩
  ·have bd:ii < els.length:=by omega
   rcases h5 with⟨hv1,he1⟩|⟨g,q,cc,us1,hv1,hlc,hcm,hg,hus,hcells,hz1,hz2⟩
   ·subst he1;simp at bd
   ·simp only at hv1;cases hv1;have hq:q=0:=h00 _ rfl;subst hq;have hus:c * P.cellsOf t2<=us1.size:=by simpa using hus
    have hZ:∀o,¬Z g o:=fun o ho=>by have:=(hz1 o ho).1;omega
    have hgne:g2≠g:=hgn2 g (by simp[dj,hju,cE.blk]) hZ;obtain⟨news,hnl,hnc',hnr⟩:=xk hpos hxl hcells2;obtain⟨olds,hol,hoc,hor⟩:=xk hpos h4 hcells
    have hn1:∀v∈news,v.oneCell'=true:=fun v hv=>by
     obtain⟨k,hk,rfl⟩:=mi hv;exact(hnc' k _ (cj hk)).2
    have ho1:∀v∈olds.drop (ii * P.cellsOf t2),v.oneCell'=true:=fun v hv=>by
     obtain⟨k,hk,rfl⟩:=mi (qA hv);exact(hoc k _ (cj hk)).2
    have hdl:(olds.drop (ii * P.cellsOf t2)).length=(els.length - ii) * P.cellsOf t2:=by
     rw[fD,hol,<-qB]
    have hget:∀k u,(olds.drop (ii * P.cellsOf t2))[k]? = aA u->w.cell? ((⟨g,ii * P.cellsOf t2,aF⟩:Addr).add k)=aA u:=fun k u hk=>by
     rw[js]at hk;have:=(hoc _ u hk).1;rw[Addr.add_lit]at this |-
     rw[<-this];congr 2;omega
    have hmul1:ii * P.cellsOf t2<=els.length * P.cellsOf t2:=dQ _ hin;have hM:(els.length+xs.length) * P.cellsOf t2=els.length * P.cellsOf t2+xs.length * P.cellsOf t2:=kf _ _ _;have hIM:(ii+xs.length) * P.cellsOf t2=ii * P.cellsOf t2+xs.length * P.cellsOf t2:=kf _ _ _;have hDD:(els.length - ii) * P.cellsOf t2=els.length * P.cellsOf t2 - ii * P.cellsOf t2:=qB _ _ _
    have hall:∀x∈els.take ii++xs++els.drop ii,x.cells.length=P.cellsOf t2:=fun x hx=>by
     simp only[cz]at hx;rcases hx with(hx|hx)|hx
     ·exact h4 x (o4 hx)
     ·exact hxl x hx
     ·exact h4 x (qA hx)
    have hlen':(els.take ii++xs++els.drop ii).length=els.length+xs.length:=by simp;omega
    have key:∀(F:Array aR) (D:Array aR),(∀o,o < ii * P.cellsOf t2->F[o]? = olds[o]?)->(∀o,o < xs.length * P.cellsOf t2->F[ii * P.cellsOf t2+o]? = news[o]?)->(∀o,o < (els.length - ii) * P.cellsOf t2->F[(ii+xs.length) * P.cellsOf t2+o]? = olds[ii * P.cellsOf t2+o]?) ->
      ∀(k:Nat) (x:V) (q:Nat) (y:V),(els.take ii++xs++els.drop ii)[k]? = aA x->x.cells[q]? = aA y->y.one=aC/\∃u,F[k * P.cellsOf t2+q]? = aA u/\VR Z w j0 y u:=by
     intro F _ f1 f2 f3 k x q y hk hy;have hq:q < P.cellsOf t2:=by rw[<-hall x (dx hk)];exact(bX.1 hy).1
     by_cases k1:k < ii
     ·rw[cO,eK (by simp;omega),lj,aU k1]at hk;obtain⟨a,u',hu',hvr⟩:=hor k x q y hk hy;refine⟨a,u',?_,hvr⟩;rw[f1 _ ?_]
      ·exact hu'
      ·have:(k+1) * P.cellsOf t2<=ii * P.cellsOf t2:=dQ _ k1;rw[ml]at this;omega
     ·by_cases k2:k < ii+xs.length
      ·rw[cO,eO (by simp;omega),eK (by simp;omega)]at hk;have e3:k - (els.take ii).length=k - ii:=by simp;omega
       rw[e3]at hk;obtain⟨a,u',hu',hvr⟩:=hnr _ x q y hk hy;refine⟨a,u',?_,hvr⟩
       have e4:k * P.cellsOf t2+q=ii * P.cellsOf t2+((k - ii) * P.cellsOf t2+q):=by
        have:k * P.cellsOf t2=ii * P.cellsOf t2+(k - ii) * P.cellsOf t2:=by rw[<-kf];congr 1;omega
        omega
       rw[e4,f2 _ ?_]
       ·exact hu'
       ·have:(k - ii+1) * P.cellsOf t2<=xs.length * P.cellsOf t2:=dQ _ (by omega);rw[ml]at this;omega
      ·rw[eO (by simp;omega)]at hk;have e3:k - (els.take ii++xs).length=k - ii - xs.length:=by simp;omega
       rw[e3,js]at hk;have hkl:=(bX.1 hk).1;obtain⟨a,u',hu',hvr⟩:=hor _ x q y hk hy;refine⟨a,u',?_,hvr⟩
       have e4:k * P.cellsOf t2+q=(ii+xs.length) * P.cellsOf t2+((k - ii - xs.length) * P.cellsOf t2+q):=by
        have:k * P.cellsOf t2=(ii+xs.length) * P.cellsOf t2+(k - ii - xs.length) * P.cellsOf t2:=by rw[<-kf];congr 1;omega
        omega
       rw[e4,f3 _ ?_]
       ·rw[<-hu'];congr 1;have:(ii+(k - ii - xs.length)) * P.cellsOf t2=ii * P.cellsOf t2+(k - ii - xs.length) * P.cellsOf t2:=kf _ _ _;omega
       ·have:(k - ii - xs.length+1) * P.cellsOf t2<=(els.length - ii) * P.cellsOf t2:=dQ _ (by omega);rw[ml]at this;omega
    have hold:∀o,o < els.length * P.cellsOf t2->us1[o]? = olds[o]?:=fun o ho=>by
     have hlt':o < olds.length:=by omega
     have hc0:=(hoc o _ (cj hlt')).1;rw[Addr.add_lit,gI hg]at hc0;rw[cj hlt',<-hc0];congr 1;simp
    by_cases hfit:els.length+xs.length<=c
    ·-- in place
     have hfitm:(els.length+xs.length) * P.cellsOf t2<=c * P.cellsOf t2:=dQ _ hfit;have p1:(ii+xs.length) * P.cellsOf t2+(olds.drop (ii * P.cellsOf t2)).length<=us1.size:=by rw[hdl];omega
     have hcp1:∀ty dc sc,(Builtin.copy_ #[t,t] ty #[.slice (aA ⟨g,(ii+xs.length) * P.cellsOf t2,aF⟩) (els.length+xs.length - (ii+xs.length)) dc,.slice (aA ⟨g,ii * P.cellsOf t2,aF⟩) (els.length+xs.length - ii) sc]).run P w.drew =
       .ok (goInt (els.length - ii:Nat)) (w.drew.setRow g (jn us1 ((ii+xs.length) * P.cellsOf t2) (olds.drop (ii * P.cellsOf t2)))):=fun ty dc sc=>by
      have hmin:Nat.min (els.length+xs.length - ii) (els.length+xs.length - (ii+xs.length))=els.length - ii:=by simp only[Nat.min_def];split<;>omega
      have:=En (P:=P) w.drew t t ty t2 inf g ((ii+xs.length) * P.cellsOf t2) (els.length+xs.length - (ii+xs.length)) dc ⟨g,ii * P.cellsOf t2,aF⟩ (els.length+xs.length - ii) sc us1 t2 (olds.drop (ii * P.cellsOf t2)) W.ht hinf hg (by rw[hmin,hdl,his]) hget p1 ho1;rw[hmin]at this;exact this
     obtain⟨F1,hF1⟩:∃F1,F1=jn us1 ((ii+xs.length) * P.cellsOf t2) (olds.drop (ii * P.cellsOf t2)):=⟨_,rfl⟩
     have sF1:F1.size=us1.size:=by rw[hF1];exact yF p1
     rw[<-hF1]at hcp1;have hgF:(w.drew.setRow g F1).heap[g]? = aA (.cells F1 t2 (0,0)):=setRow_heap w.drew g us1 F1 t2 (0,0) hg;have p2:ii * P.cellsOf t2+news.length<=F1.size:=by rw[sF1,hnl];omega
     have hcp2:∀ty dc,(Builtin.copy_ #[t,t] ty #[.slice (aA ⟨g,ii * P.cellsOf t2,aF⟩) (els.length+xs.length - ii) dc,.slice (aA ⟨g2,0,aF⟩) xs.length c2]).run P (w.drew.setRow g F1) =
       .ok (goInt xs.length) ((w.drew.setRow g F1).setRow g (jn F1 (ii * P.cellsOf t2) news)):=fun ty dc=>by
      have hmin:Nat.min xs.length (els.length+xs.length - ii)=xs.length:=by simp only[Nat.min_def];split<;>omega
      have:=En (P:=P) (w.drew.setRow g F1) t t ty t2 inf g (ii * P.cellsOf t2) (els.length+xs.length - ii) dc ⟨g2,0,aF⟩ xs.length c2 F1 t2 news W.ht hinf hgF (by rw[hmin,hnl,his]) (fun k u hk=>by
       have:=(hnc' k u hk).1;rw[Addr.add_lit]at this |-
       rw[<-this];exact World.cell?_of_block (a:=⟨g2,0+k,aF⟩) (oP w.drew g g2 F1 hgne)) p2 hn1
      rw[hmin]at this;exact this
     have hcall:=W.shift g els.length c ii g2 xs.length c2 w _ _ _ _ bd hx0 hfit hc63 (fun lb cb o=>W.ovr w g g2 o xs.length c2 lb cb us1 us2 hgne hg hg2 (si (si (Nat.mul_pos (by omega) hpos) hfitm) hus)) hcp1 hcp2;refine hcall.mono fun x w' hxw=>?_
     obtain⟨rfl,rfl⟩:=hxw;refine⟨_,rfl,?_⟩;rw[setRow_setRow]
     have hk0:=key (jn F1 (ii * P.cellsOf t2) news) #[] (fun o ho=>by
        rw[me p2,aU ho,hF1,me p1,aU (by omega)];exact hold o (by omega))
       (fun o ho=>by
        rw[me p2,aY (by omega),aU (by rw[hnl];omega)];congr 1;omega)
       (fun o ho=>by
        rw[me p2,aY (by omega),aY (by rw[hnl];omega),hF1,me p1,aY (by omega),aU (by rw[hdl];omega),js];congr 1;omega)
     have hp:=R6 (els':=els.take ii++xs++els.drop ii) s hm hju hg hZ (w1:=w.drew.setRow g (jn F1 (ii * P.cellsOf t2) news)) (setRow_heap w.drew g us1 _ t2 (0,0) hg) (fun k hk=>oP w.drew g k _ hk) rfl rfl rfl
      (by show(w.heap.modify g _).size=w.heap.size;simp) hpos hall (by rw[hlen'];exact hfit) hcm (by rw[yF p2,sF1,fY];exact hus)
      (fun k x i y hk hy=>by rw[fY];exact hk0 k x i y hk hy)
     rw[hlen']at hp;exact hp.own (fun a ha=>by cases ha;rfl)
    ·-- a new block
     have hgrow:c < els.length+xs.length:=by omega
     have hbytes:(els.length+xs.length) * inf.bytes<=140737488355328:=by
      rw[hib];exact sh (BH hlen hby) (by decide)
     obtain⟨G,hG⟩:∃G,G=gv w (els.length+xs.length) c t2:=⟨_,rfl⟩
     have hGn:els.length+xs.length<=G:=by rw[hG];exact grownCap_ge w _ _ _
     have hGm:G<=f8:=by rw[hG];exact grownCap_le_maxLen w _ c t2 (by simp only[f8];omega)
     have htk:(olds.take (ii * P.cellsOf t2)).length=ii * P.cellsOf t2:=by rw[eC,hol];omega
     have hfc:(Builtin.firstCells inf.size ii (.slice (aA ⟨g,0,aF⟩) ii c)).run P w.drew = .ok (olds.take (ii * P.cellsOf t2)).toArray w.drew :=
      AS w.drew inf.size ii ⟨g,0,aF⟩ ii c _ (by rw[htk,his]) (fun k v hk=>by
       rw[lj]at hk;split at hk
       ·exact(hoc k v hk).1
       ·cases hk)
     have hik:ii+(els.length+xs.length - ii)=els.length+xs.length:=by omega
     obtain⟨ROW,hROW⟩:∃ROW:Array aR,ROW=(olds.take (ii * P.cellsOf t2)).toArray++Builtin.zeroCells z.cells (els.length+xs.length - ii)++Builtin.zeroCells z.cells (G - (els.length+xs.length)):=⟨_,rfl⟩
     have hRs:ROW.size=G * P.cellsOf t2:=by
      rw[hROW];simp only[Bl,wB,size_zeroCells,htk,hzs,<-kf];congr 1;omega
     have hRl:(els.length+xs.length) * P.cellsOf t2<=ROW.size:=by rw[hRs];exact dQ _ hGn
     have hrz:∀ty,(Builtin.append_ #[t,tn] ty #[.slice (aA ⟨g,0,aF⟩) ii c,.int .i64 ((els.length:Int)+(xs.length:Int) - (ii:Int))]).run P w =
       .ok (.slice (aA ⟨w.heap.size,0,aF⟩) (els.length+xs.length) G) (w.drew.alloc (.cells ROW t2)):=fun ty=>by
      have hh:=Lib.run_append_grow_zeros w t tn ty t2 inf z .i64 kn W.ht W.htn hinf hz (aA ⟨g,0,aF⟩) ii c _ hfc (els.length+xs.length - ii) (by omega) (by rw[his];exact hpos) (by omega) (by omega) (by
       have h7:(els.length+xs.length - ii) * inf.bytes<=(els.length+xs.length) * inf.bytes:=dQ _ (by omega);omega) (by rw[hik];exact growslice_fits hgrow hbytes)
      rw[hik]at hh;rw[show(els.length:Int)+(xs.length:Int) - (ii:Int)=((els.length+xs.length - ii:Nat):Int) by omega,hh,hROW,hG]
     have hgW:(w.drew.alloc (.cells ROW t2)).heap[w.heap.size]? = aA (.cells ROW t2 (0,0)):=heap_alloc_new w.drew _;have hgl:g < w.heap.size:=(hJ.1 hg).1;have hgl2:g2 < w.heap.size:=(hJ.1 hg2).1
     have hoth:∀k,k < w.heap.size->(w.drew.alloc (.cells ROW t2)).heap[k]? = w.heap[k]?:=fun k hk=>by
      show(w.heap.push _)[k]? = _;rw[Array.getElem?_push_lt hk,gH hk]
     have p2:ii * P.cellsOf t2+news.length<=ROW.size:=by rw[hnl];omega
     have hcpA:∀ty dc,(Builtin.copy_ #[t,t] ty #[.slice (aA ⟨w.heap.size,ii * P.cellsOf t2,aF⟩) (els.length+xs.length - ii) dc,.slice (aA ⟨g2,0,aF⟩) xs.length c2]).run P (w.drew.alloc (.cells ROW t2)) =
       .ok (goInt xs.length) ((w.drew.alloc (.cells ROW t2)).setRow w.heap.size (jn ROW (ii * P.cellsOf t2) news)):=fun ty dc=>by
      have hmin:Nat.min xs.length (els.length+xs.length - ii)=xs.length:=by simp only[Nat.min_def];split<;>omega
      have:=En (P:=P) (w.drew.alloc (.cells ROW t2)) t t ty t2 inf w.heap.size (ii * P.cellsOf t2) (els.length+xs.length - ii) dc ⟨g2,0,aF⟩ xs.length c2 ROW t2 news W.ht hinf hgW (by rw[hmin,hnl,his]) (fun k u hk=>by
       have:=(hnc' k u hk).1;rw[Addr.add_lit]at this |-
       rw[<-this];exact World.cell?_of_block (a:=⟨g2,0+k,aF⟩) (hoth g2 hgl2)) p2 hn1
      rw[hmin]at this;exact this
     obtain⟨F1,hF1⟩:∃F1,F1=jn ROW (ii * P.cellsOf t2) news:=⟨_,rfl⟩
     have sF1:F1.size=ROW.size:=by rw[hF1];exact yF p2
     rw[<-hF1]at hcpA;have hgF:((w.drew.alloc (.cells ROW t2)).setRow w.heap.size F1).drew.heap[w.heap.size]? = aA (.cells F1 t2 (0,0)):=setRow_heap _ w.heap.size ROW F1 t2 (0,0) hgW;have p1:(ii+xs.length) * P.cellsOf t2+(olds.drop (ii * P.cellsOf t2)).length<=F1.size:=by rw[hdl,sF1];omega
     have hcpB:∀ty dc sc,(Builtin.copy_ #[t,t] ty #[.slice (aA ⟨w.heap.size,(ii+xs.length) * P.cellsOf t2,aF⟩) (els.length+xs.length - (ii+xs.length)) dc,.slice (aA ⟨g,ii * P.cellsOf t2,aF⟩) (els.length - ii) sc]).run P ((w.drew.alloc (.cells ROW t2)).setRow w.heap.size F1).drew =
       .ok (goInt (els.length - ii:Nat)) (((w.drew.alloc (.cells ROW t2)).setRow w.heap.size F1).drew.setRow w.heap.size (jn F1 ((ii+xs.length) * P.cellsOf t2) (olds.drop (ii * P.cellsOf t2)))):=fun ty dc sc=>by
      have hmin:Nat.min (els.length - ii) (els.length+xs.length - (ii+xs.length))=els.length - ii:=by simp only[Nat.min_def];split<;>omega
      have:=En (P:=P) ((w.drew.alloc (.cells ROW t2)).setRow w.heap.size F1).drew t t ty t2 inf w.heap.size ((ii+xs.length) * P.cellsOf t2) (els.length+xs.length - (ii+xs.length)) dc ⟨g,ii * P.cellsOf t2,aF⟩ (els.length - ii) sc F1 t2 (olds.drop (ii * P.cellsOf t2)) W.ht hinf hgF (by rw[hmin,hdl,his]) (fun k u hk=>by
       have:=hget k u hk;rw[Addr.add_lit]at this |-
       rw[<-this];refine World.cell?_of_block (a:=⟨g,ii * P.cellsOf t2+k,aF⟩) ?_;exact(oP (w.drew.alloc (.cells ROW t2)) w.heap.size g F1 (by omega)).trans (hoth g hgl)) p1 ho1
      rw[hmin]at this;exact this
     have hcall:=W.grow g els.length c ii g2 xs.length c2 w.heap.size G w _ _ _ _ _ bd hx0 hnc hgrow hlen hGn (by unfold f8 at hGm;omega) hrz hcpA hcpB;refine hcall.mono fun x w' hxw=>?_
     obtain⟨rfl,rfl⟩:=hxw;refine⟨_,rfl,?_⟩
     have hheap:(((w.drew.alloc (.cells ROW t2)).setRow w.heap.size F1).drew.setRow w.heap.size (jn F1 ((ii+xs.length) * P.cellsOf t2) (olds.drop (ii * P.cellsOf t2)))).heap=w.heap.push (.cells (jn F1 ((ii+xs.length) * P.cellsOf t2) (olds.drop (ii * P.cellsOf t2))) t2):=by
      show(((w.drew.alloc (.cells ROW t2)).setRow w.heap.size F1).setRow w.heap.size _).heap=_;rw[setRow_setRow];exact afQ w.drew ROW _ t2
     have hp:=AP (fz:=0) (els:=els.take ii++xs++els.drop ii) (c:=G) (s.kill hm) hheap rfl rfl rfl hpos hall (jQ _) (by rw[hlen'];exact hGn) hGm (by rw[yF p1,sF1,hRs])
      (key _ #[] (fun o ho=>by
        rw[me p1,aU (by omega),hF1,me p2,aU ho,hROW,Array.append_assoc,K6 (by simpa[htk]using ho)];simp only[Bt,lj,aU ho])
       (fun o ho=>by
        rw[me p1,aU (by omega),hF1,me p2,aY (by omega),aU (by rw[hnl];omega)];congr 1;omega)
       (fun o ho=>by
        rw[me p1,aY (by omega),aU (by rw[hdl];omega),js];congr 1;omega))
     rw[hlen']at hp;exact hp.stp (bh.kill hm)
theorem afR{w:be}{g:Nat}{us:Array aR}{t:aO}{fr:Nat × Nat}(hg:w.heap[g]? = aA (.cells us t fr)):w.setRow g us=w:=by
 have hh:(w.setRow g us).heap=w.heap:=by
  apply Array.ext_getElem?;intro k
  by_cases hk:k=g
  ·subst hk;rw[setRow_heap w k us us t fr hg,hg]
  ·exact oP w g k us hk
 cases w;unfold World.setRow at hh |-
 grind
def uS(e:aO)(mem:List O)(id:Nat)(i j:Int):Option (List O) :=
 match mem[id]? with
 |some (.row t els 0) =>
  if t=e/\0<=i/\i<=j/\j.toNat<=els.length/\els.length<=16777216 then
   aA (newRow (mem.set id .dead) e (els.take i.toNat++els.drop j.toNat) 0).2
  else aF
 |_=>aF
def qP(e:aO):List V->List O->Option (V × List O)
 | [.own id,.int .i64 i,.int .i64 j],mem=>(uS e mem id i j).map fun m=>(.own mem.length,m)
 | [.tail id 0,.int .i64 i,.int .i64 j],mem=>(uS e mem id i j).map fun m=>(.tail mem.length 0,m)
 |_,_=>aF
theorem E8{ops:Array dF}{o:dF}{a:Act}{w:be}{K:Act->be->Prop}{Q:Exit->Act->be->Prop}{E:Prop}
  (hg:o.guard=aF) (d x:fi) (dT sT:aO) (hop:o.op=Op.call { callee:=Callee.builtin Builtin.append,args:=#[d,x],argTypes:=#[dT,sT] })
  (v u:aR) (hd:a.eval d=v) (hx:a.eval x=u) {v':aR} {w':be} (hr:(Builtin.append_ #[dT,sT] o.type #[v,u]).run P w = .ok v' w') (hK:K (a.put o.dst v') w') :
  if Region.wanted o (yielded ops a.tmps)=aC then Oper.wp P o a w K Q else E:=by
 have hw:Region.wanted o (yielded ops a.tmps)=true:=by simp[Region.wanted,hg]
 rw[aU hw];unfold Oper.wp;simp[execOp,hop,resolve,invoke,builtin,hd,hx,hr,Result.andThen];exact hK
structure FE(P:bu)(f:bL)(t e:aO):Prop where
 ht:P.underlying t=aA (.slice e)
 row:qe P e=aC
 z1:∀i z,P.info? e=aA i->i.zero=aA z->∀v∈z.cells.toList,v.oneCell'=aC
 same:∀(A:Option Addr) (n c i:Nat) (w:be),i<=n->n<=c->c<=9223372036854775807->(A=aF->n=0/\c=0)->(∀a,A=aA a->∃g q,a=⟨g,q,aF⟩) ->
  Calls P f #[.slice A n c,.int .i64 i,.int .i64 i] w fun x w'=>x = .returned (.slice A n c)/\w'=w
 cut:∀(g q n c i jj:Nat) (w w2 w3:be) (k:aR),i < jj->jj<=n->n<=c->c<=9223372036854775807 ->
  (∀ty A cp,(jj < n->A=aA ⟨g,q+jj * P.cellsOf e,aF⟩)->(Builtin.append_ #[t,t] ty #[.slice (aA ⟨g,q,aF⟩) i c,.slice A (n - jj) cp]).run P w.drew = .ok (.slice (aA ⟨g,q,aF⟩) (i+(n - jj)) c) w2) ->
  (∀ty cp,(Builtin.clear_ #[t] ty #[.slice (aA ⟨g,q+(i+(n - jj)) * P.cellsOf e,aF⟩) (n - (i+(n - jj))) cp]).run P w2 = .ok k w3) ->
  Calls P f #[.slice (aA ⟨g,q,aF⟩) n c,.int .i64 i,.int .i64 jj] w fun x w'=>x = .returned (.slice (aA ⟨g,q,aF⟩) (i+(n - jj)) c)/\w'=w3
theorem afk(w:be)(t ty elem:aO)(i:TypeInfo)(z:aR)(g o n cp:Nat)(cur:Array aR)(et:aO)(hu:P.underlying t=aA (.slice elem))(hi:P.info? elem=aA i)(hz:i.zero=aA z)
  (hg:w.heap[g]? = aA (.cells cur et (0,0))) (h0:0 < n) (hfit:o+n * z.cells.size<=cur.size) (h1:∀v∈z.cells.toList,v.oneCell'=aC) :
  (Builtin.clear_ #[t] ty #[.slice (aA ⟨g,o,aF⟩) n cp]).run P w = .ok (.tuple #[]) (w.setRow g (jn cur o (Builtin.zeroCells z.cells n).toList)):=by
 have hsz:(Builtin.zeroCells z.cells n).toList.length=n * z.cells.size:=by simp[size_zeroCells]
 have hone:∀v∈(Builtin.zeroCells z.cells n).toList,v.oneCell'=true:=fun v hv=>by
  have:v∈z.cells.toList:=by
   simp only[Builtin.zeroCells,Array.toList_map,ib,Array.mem_toList_iff,Array.mem_range]at hv;obtain⟨q,hq,rfl⟩:=hv
   have hpos:0 < z.cells.size:=by
    grind
   have bd:q % z.cells.size < z.cells.size:=Nat.mod_lt _ hpos;grind
  grind
 have hst:=yu P g o et (Builtin.zeroCells z.cells n).toList 0 cur w hg (by grind) hone;simp only[fL]at hst;obtain⟨m,rfl⟩:∃m,n=m+1:=⟨n - 1,by omega⟩
 simp[Builtin.clear_,dS hu,zeroValue,gY,hi,hz,hst,jn]
theorem MH{f:bL}{t e:aO}(W:FE P f t e):iK P fun f' as0 mem=>if f'=f then qP e as0 mem else none:=by
 intro f' as0 mem r mem' h bA Z w j us s ha;simp only at h
 by_cases hf:f'=f
 rotate_left
 ·grind
 subst hf;rw[aU rfl]at h
 have main:∀(id:Nat) (i jv:Int) (m:List O),uS e mem id i jv=aA m->∀(A:Option Addr) (n c szu:Nat),j id=aA ⟨.slice A n c,szu⟩ ->
   Calls P f' #[.slice A n c,.int .i64 i,.int .i64 jv] w fun x w'=>∃A' n' c',x = .returned (.slice A' n' c')/\mo P Z w j mem (mem.set id .dead).length m (.slice A' n' c') w'/\((∀a,A=aA a->a.off=0)->∀a,A'=aA a->a.off=0):=by
  clear h ha;intro id i jv m h A n c szu hju;unfold uS at h;split at h;rotate_left
  ·cases h
  rename_i te els hm;split at h;rotate_left
  ·cases h
  rename_i hc;obtain⟨rfl,hi0,hij,hjn,hlen⟩:=hc;cases h;obtain⟨h,hh,h1,h2,h3,h4,h5⟩:=s.obj id _ hm;have hroom:fC P te els.length=true:=by simp[fC,hlen,W.row]
  obtain⟨_,hby,hpos,inf,z,hinf,his,hib,hz,hzs⟩:=lI hroom;rw[hju]at hh;cases hh;simp only at h1 h2;subst h1;obtain⟨ii,rfl⟩:∃ii:Nat,i=(ii:Int):=⟨i.toNat,by omega⟩
  obtain⟨jj,rfl⟩:∃jj:Nat,jv=(jj:Int):=⟨jv.toNat,by omega⟩
  have eii:((ii:Int)).toNat=ii:=by omega
  have ejj:((jj:Int)).toNat=jj:=by omega
  rw[ejj]at hjn;rw[eii,ejj];have hijn:ii<=jj:=by omega
  have hnc:n=els.length/\n<=c/\c<=9223372036854775807/\(A=aF->n=0/\c=0)/\(∀a,A=aA a->∃g q,a=⟨g,q,aF⟩):=by
   rcases h5 with⟨hv1,he1⟩|⟨g,q,cc,us1,hv1,hlc,hcm,_⟩
   ·grind
   ·simp only at hv1;cases hv1;exact⟨rfl,hlc,by unfold f8 at hcm;omega,(by grind),(by grind)⟩
  obtain⟨hn,hnc,hc63,hA0,hA1⟩:=hnc;have bd:id < mem.length:=(bX.1 hm).1
  have hblk:∀g,cE.blk ⟨.slice A n c,P.cellsOf te⟩=aA g->¬bM Z j (mem.set id .dead) g/\bM Z j mem g:=by
   intro g hg;refine⟨?_,⟨id,_,hm,rfl,by simp[bQ,O.ar,dj,hju,hg]⟩⟩;rintro⟨k,x,hx,hl,hb⟩
   by_cases e':id=k
   ·subst e';rw[gR bd]at hx;cases hx;cases hl
   ·rw[ia e']at hx;exact e' (s.inj id k _ x g hm hx rfl hl (by simp[bQ,O.ar,dj,hju,hg]) hb)
  by_cases heq:ii=jj
  ·subst heq;have e1:els.take ii++els.drop ii=els:=lk _ _;rw[e1];refine(W.same A n c ii w (by omega) hnc hc63 hA0 hA1).mono fun x w' hxw=>?_
   obtain⟨rfl,rfl⟩:=hxw;have hlm:(mem.set id O.dead).length=mem.length:=by simp
   exact⟨A,n,c,rfl,hlm ▸ R5 (s.kill hm) (bh.kill hm) ⟨rfl,h2,h3,h4,h5⟩ hblk,fun h=>h⟩
  ·have hltj:ii < jj:=by omega
   rcases h5 with⟨hv1,he1⟩|⟨g,q,cc,us1,hv1,hlc,hcm,hg,hus,hcells,hz1,hz2⟩
   ·grind
   ·simp only at hv1;cases hv1;have hus:q+c * P.cellsOf te<=us1.size:=hus;have hZ:∀o,¬Z g o:=fun o ho=>by grind
    obtain⟨olds,hol,hoc,hor⟩:=xk hpos h4 hcells
    have ho1:∀v∈olds.drop (jj * P.cellsOf te),v.oneCell'=true:=fun v hv=>by
     obtain⟨k,hk,rfl⟩:=mi (qA hv);exact(hoc k _ (cj hk)).2
    have hdl:(olds.drop (jj * P.cellsOf te)).length=(els.length - jj) * P.cellsOf te:=by
     rw[fD,hol,<-qB]
    have hDD:(els.length - jj) * P.cellsOf te=els.length * P.cellsOf te - jj * P.cellsOf te:=qB _ _ _;have hmul1:ii * P.cellsOf te<=jj * P.cellsOf te:=dQ _ hijn;have hmul2:jj * P.cellsOf te<=els.length * P.cellsOf te:=dQ _ hjn;have hmul3:els.length * P.cellsOf te<=c * P.cellsOf te:=dQ _ hlc;have hIM:(ii+(els.length - jj)) * P.cellsOf te=ii * P.cellsOf te+(els.length - jj) * P.cellsOf te:=kf _ _ _;have hRM:(els.length - (ii+(els.length - jj))) * P.cellsOf te=els.length * P.cellsOf te - (ii+(els.length - jj)) * P.cellsOf te:=qB _ _ _;have p1:q+ii * P.cellsOf te+(olds.drop (jj * P.cellsOf te)).length<=us1.size:=by grind
    obtain⟨F1,hF1⟩:∃F1,F1=jn us1 (q+ii * P.cellsOf te) (olds.drop (jj * P.cellsOf te)):=⟨_,rfl⟩
    have sF1:F1.size=us1.size:=by rw[hF1];exact yF p1
    have hap:∀ty A cp,(jj < els.length->A=aA ⟨g,q+jj * P.cellsOf te,aF⟩)->(Builtin.append_ #[t,t] ty #[.slice (aA ⟨g,q,aF⟩) ii c,.slice A (els.length - jj) cp]).run P w.drew = .ok (.slice (aA ⟨g,q,aF⟩) (ii+(els.length - jj)) c) (w.drew.setRow g F1):=fun ty A cp hA=>by
     by_cases hz0:jj < els.length
     ·rw[hA hz0]
      have:=afi (P:=P) w.drew t ty te inf W.ht hinf g q ii c us1 hg ⟨g,q+jj * P.cellsOf te,aF⟩ (els.length - jj) cp (olds.drop (jj * P.cellsOf te)) (by grind) (fun k u hk=>by
       rw[js]at hk;have:=(hoc _ u hk).1;rw[Addr.add_lit]at this |-
       rw[<-this];show w.cell? _=_;grind) ho1 (by omega) (by grind)
      rw[his]at this;rw[hF1];exact this
     ·have e0:els.length - jj=0:=by omega
      have e1:olds.drop (jj * P.cellsOf te)=[]:=by
       grind
      have eF:F1=us1:=by
       rw[hF1,e1];simp[jn]
      rw[e0,eF,fL];have hset:w.drew.setRow g us1=w.drew:=afR (w:=w.drew) hg;rw[hset];exact afj W.ht hpos (by omega)
    have hgF:(w.drew.setRow g F1).heap[g]? = aA (.cells F1 te (0,0)):=setRow_heap w.drew g us1 F1 te (0,0) hg;have p2:q+(ii+(els.length - jj)) * P.cellsOf te+(els.length - (ii+(els.length - jj))) * z.cells.size<=F1.size:=by grind
    have hclr:∀ty cp,(Builtin.clear_ #[t] ty #[.slice (aA ⟨g,q+(ii+(els.length - jj)) * P.cellsOf te,aF⟩) (els.length - (ii+(els.length - jj))) cp]).run P (w.drew.setRow g F1) =
      .ok (.tuple #[]) ((w.drew.setRow g F1).setRow g (jn F1 (q+(ii+(els.length - jj)) * P.cellsOf te) (Builtin.zeroCells z.cells (els.length - (ii+(els.length - jj)))).toList)):=fun ty cp =>
     afk (w.drew.setRow g F1) t ty te inf z g _ _ cp F1 te W.ht hinf hz hgF (by omega) p2 (W.z1 inf z hinf hz)
    refine(W.cut g q els.length c ii jj w _ _ _ hltj hjn hlc hc63 hap hclr).mono fun x w' hxw=>?_
    obtain⟨rfl,rfl⟩:=hxw;refine⟨_,_,_,rfl,?_,fun h=>h⟩;rw[setRow_setRow]
    have hall:∀x∈els.take ii++els.drop jj,x.cells.length=P.cellsOf te:=fun x hx=>by
     grind
    have hlen':(els.take ii++els.drop jj).length=ii+(els.length - jj):=by grind
    have zl:(Builtin.zeroCells z.cells (els.length - (ii+(els.length - jj)))).toList.length=(els.length - (ii+(els.length - jj))) * z.cells.size:=by simp[size_zeroCells]
    have hold:∀o,o < els.length * P.cellsOf te->us1[q+o]? = olds[o]?:=fun o ho=>by
     have hlt':o < olds.length:=by omega
     have hc0:=(hoc o _ (cj hlt')).1;rw[Addr.add_lit,gI hg]at hc0;grind
    have hp:=R6 (els':=els.take ii++els.drop jj) s hm hju hg hZ (w1:=w.drew.setRow g (jn F1 (q+(ii+(els.length - jj)) * P.cellsOf te) (Builtin.zeroCells z.cells (els.length - (ii+(els.length - jj)))).toList)) (setRow_heap w.drew g us1 _ te (0,0) hg) (fun k hk=>oP w.drew g k _ hk) rfl rfl rfl
     (by simp_all) hpos hall (by grind) hcm (by rw[yF (by grind),sF1];grind)
     (fun k x qq y hk hy=>by
      have hq:qq < P.cellsOf te:=by grind
      have hkl:k < ii+(els.length - jj):=by grind
      have hkm:(k+1) * P.cellsOf te<=(ii+(els.length - jj)) * P.cellsOf te:=dQ _ hkl;rw[ml]at hkm
      by_cases k1:k < ii
      ·rw[eK (by grind),lj,aU k1]at hk;obtain⟨a,u',hu',hvr⟩:=hor k x qq y hk hy;refine⟨a,u',?_,hvr⟩;have hkm2:(k+1) * P.cellsOf te<=ii * P.cellsOf te:=dQ _ k1;rw[ml]at hkm2;rw[me (by grind),aU (by omega),hF1,me p1,aU (by omega)];grind
      ·rw[eO (by grind)]at hk;have e3:k - (els.take ii).length=k - ii:=by grind
       rw[e3,js]at hk;obtain⟨a,u',hu',hvr⟩:=hor _ x qq y hk hy;refine⟨a,u',?_,hvr⟩;have e4:k * P.cellsOf te=ii * P.cellsOf te+(k - ii) * P.cellsOf te:=by rw[<-kf];grind
       have e5:(jj+(k - ii)) * P.cellsOf te=jj * P.cellsOf te+(k - ii) * P.cellsOf te:=kf _ _ _;rw[me (by grind),aU (by omega),hF1,me p1,aY (by omega),aU (by grind),js,<-hu'];congr 1;omega)
    grind
 unfold qP at h;split at h
 ·rename_i id i jv;simp only[omi]at h;obtain⟨m,hm,h⟩:=h;cases h;obtain⟨hl,hv⟩:=ha
  match us,hl,hv with
  | [u,ui,uj],hl,hv =>
  have hu:=hv 0 (.own id) u rfl rfl;have hui:=hv 1 (.int .i64 i) ui rfl rfl;have huj:=hv 2 (.int .i64 jv) uj rfl rfl;cases hui;cases huj;cases hu with
  |own hju h00 =>
  refine(main _ _ _ _ hm _ _ _ _ hju).mono fun x w' hx=>?_
  obtain⟨A',n',c',rfl,hp,h0⟩:=hx;have hp:=hp.own (h0 h00);grind
 ·rename_i id i jv;simp only[omi]at h;obtain⟨m,hm,h⟩:=h;cases h;obtain⟨hl,hv⟩:=ha
  match us,hl,hv with
  | [u,ui,uj],hl,hv =>
  have hu:=hv 0 (.tail id 0) u rfl rfl;have hui:=hv 1 (.int .i64 i) ui rfl rfl;have huj:=hv 2 (.int .i64 jv) uj rfl rfl;cases hui;cases huj
  have hrow:∃els',mem'=(newRow (mem.set id .dead) e els' 0).2:=by
   unfold uS at hm;grind
  obtain⟨els',hm'⟩:=hrow;cases hu with
  |tail hju hn hw =>
  rename_i n c sz A;cases hw with
  |win hju2 hnn hlc hcc hA =>
  rename_i n2 c2 sz2 c2' A2 A2';rw[hju]at hju2;cases hju2
  have e0:A2'=A/\c2'=c:=by
   grind
  obtain⟨rfl,rfl⟩:=e0;rw[Nat.sub_zero];refine(main _ _ _ _ hm _ _ _ _ hju).mono fun x w' hx=>?_
  obtain⟨A',n',c',rfl,hp,_⟩:=hx;have hp:=hp.tail (fz:=0) (t:=e) (els:=els') (by rw[hm'];simp[newRow]);grind
 grind
def wZ(e:aO)(sz:Nat):List V->Option V
 | [.sl l]=>if cw sz l=aC/\(l.all fun x=>x.cells.all jw)=aC/\l.length<=16777216 then aA (.fr e l) else aF
 |_=>aF
structure FC(P:bu)(f:bL)(t e:aO):Prop where
 ht:P.underlying t=aA (.slice e)
 row:qe P e=aC
 atNil:∀(n c:Nat) (w:be),Calls P f #[.slice aF n c] w fun x w'=>x = .returned (.slice aF 0 0)/\w'=w
 atSome:∀(g b n c:Nat) (w w2:be) (r:aR),
  (∀ty,(Builtin.append_ #[t,t] ty #[.slice (aA ⟨w.heap.size,0,aF⟩) 0 0,.slice (aA ⟨g,b,aF⟩) n c]).run P (w.alloc (.cells #[] e)) = .ok r w2) ->
  Calls P f #[.slice (aA ⟨g,b,aF⟩) n c] w fun x w'=>x = .returned r/\w'=w2
 atZero:∀(a:Addr) (c:Nat) (w:be),Calls P f #[.slice (aA a) 0 c] w fun x w'=>x = .returned (.slice (aA ⟨w.heap.size,0,aF⟩) 0 0)/\w'=w.alloc (.cells #[] e)
theorem Mt{f:bL}{t e:aO}(W:FC P f t e):i5 P fun f' as0=>if f'=f then wZ e (P.cellsOf e) as0 else none:=by
 intro f' as0 r h bA Z w us hzin ha;simp only at h
 by_cases hf:f'=f
 rotate_left
 ·grind
 subst hf;rw[aU rfl]at h;unfold wZ at h;split at h;rotate_left
 ·cases h
 rename_i l;split at h;rotate_left
 ·cases h
 rename_i hc;obtain⟨hw,hfl,hlen⟩:=hc;cases h;have hroom:fC P e (([]:List V).length+l.length)=true:=by simp[fC,hlen,W.row]
 obtain⟨_,hby,hpos,inf,z,hinf,his,hib,hz,hzs⟩:=lI hroom
 have hxl:∀x∈l,x.cells.length=P.cellsOf e:=fun x hx=>by
  have:=eJ.1 hw x hx;grind
 have hflat:∀x∈l,∀y∈x.cells,y.flat1=true:=fun x hx y hy=>eJ.1 (eJ.1 hfl x hx) y hy
 obtain⟨hl,hv⟩:=ha
 match us,hl,hv with
 | [u],hl,hv =>
 have hu:=hv 0 (.sl l) u rfl rfl;have s:SR P Z w j0 []:=⟨fun id o h=>by grind,fun id id' o o' g h=>by grind,fun _ _=>rfl,hzin⟩
 have hp:=AP (P:=P) (Z:=Z) (w:=w) (j:=j0) (mem:=[]) (w1:=w.alloc (.cells #[] e)) (t:=e) (us:=#[]) (els:=[]) (fz:=0) (c:=0) s rfl rfl rfl rfl hpos (by simp) (c7 _) (c7 _) (by simp) (by simp) (fun k x i y hk=>by grind);obtain⟨Z1,j1,a1,a2,a3,a4⟩:=hp
 have fin:∀(Z2:Zs) (w2:be) (j2:J) (mem2:List O) (id:Nat) (u2:aR),SR P Z2 w2 j2 mem2->bh Z w j0 [] Z2 w2 j2 mem2->VR Z2 w2 j2 (.own id) u2->mem2[id]? = aA (.row e l 0)->RR P Z2 w w2 (.fr e l) u2/\sn Z w Z2 w2:=by
  intro Z2 w2 j2 mem2 id u2 e3 e4 hv2 hm2;have st0:sn Z w Z2 w2:=⟨e4.os,e4.tape,e4.output,e4.size,fun g hg=>e4.keep g hg DW,e3.zin,funext fun t=>(e4.ar t fun id o n ho=>by grind).2,e4.z.i⟩
  refine⟨?_,st0⟩;obtain⟨hn,hh,hrow⟩:=e3.obj id _ hm2;cases hv2 with
  |own hj h00 =>
   rw[hj]at hh;cases hh;have h1:=hrow.1;simp only at h1;subst h1;refine⟨_,_,_,rfl,hrow,hflat,fun g hg=>?_,h00⟩;have ho:bM Z2 j2 mem2 g:=⟨id,_,hm2,rfl,(bQ.plain rfl).2 (by simpa[dj,hj]using hg)⟩
   refine⟨?_,bM.lt e3 ho⟩;rcases mY g w.heap.size with bd|hge
   ·exact(DW (e4.owned g bd ho)).elim
   grind
 rcases hu.slInv with⟨A,c,rfl,rfl⟩|⟨g,b,c,sz,rfl,_⟩
 ·cases A with
  |none =>
   refine(W.atNil 0 c w).mono fun x w' hxw=>?_
   obtain⟨rfl,rfl⟩:=hxw;exact⟨_,Z,rfl,⟨aF,0,0,rfl,⟨rfl,hpos,c7 _,by simp,.inl ⟨rfl,rfl⟩⟩,by simp,fun g hg=>by simp[cE.blk]at hg,fun a ha=>by grind⟩,⟨rfl,rfl,rfl,c7 _,fun g hg=>⟨rfl,fun o=>Iff.rfl⟩,hzin,rfl,rfl⟩⟩
  |some a =>
   refine(W.atZero a c w).mono fun x w' hxw=>?_
   obtain⟨rfl,rfl⟩:=hxw;obtain⟨f1,f2⟩:=fin Z1 _ j1 _ 0 _ a2 a3 a1 rfl;grind
 ·have hx:VR Z1 (w.alloc (.cells #[] e)) j1 (.sl l) (.slice (aA ⟨g,b,aF⟩) l.length c):=hu.mono a3.z (bE.zero _)
  have hap:kJ P (newRow [] e [] 0).2 t (.own 0) (.sl l)=aA (newRow ((newRow [] e [] 0).2.set 0 .dead) e ([]++l) 0):=by
   have hw':(l.all fun y=>y.cells.length==P.cellsOf e)=true:=hw;simp only[kJ,gj,W.ht,bk,og,dy,hw',cZ];simp only[newRow,fc,eA,Lm];grind
  obtain⟨r2,w2,hr,hpost⟩:=F0 (t:=t) (tx:=t) (ty:=t) a2 (by simp[nc]) hap a1 hx;obtain⟨Z2,j2,b1,b2,b3,b4⟩:=hpost;refine(W.atSome g b l.length c w w2 r2 (fun ty=>hr)).mono fun x w' hxw=>?_
  obtain⟨rfl,rfl⟩:=hxw;obtain⟨f1,f2⟩:=fin Z2 _ j2 _ 1 _ b2 (a3.trans b3) b1 rfl;grind
def Dl(e:aO)(sz:Nat)(args:List V)(mem:List O)(k:V->List O->R):R :=
 match args with
 | [.own id,.int .i64 i,x] =>
  match mem[id]?,yG mem id x with
  |some (.row t els 0),aA (t2,xs)=>gd (t==e && t2==e)<|gd (cw sz xs)<|gd (jt 0 xs.length) <|
    gd (decide (0<=i/\i.toNat<=els.length/\els.length+xs.length<=16777216)) (k (.own (mem.set id .dead).length) (mem.set id .dead++[.row e (els.take i.toNat++xs++els.drop i.toNat) 0]))
  |_,_=>aF
 |_=>aF
def CB(e:aO)(args:List V)(mem:List O)(k:V->List O->R):R :=
 match args with
 | [.own id,.int .i64 i,.int .i64 j] =>
  match mem[id]? with
  |some (.row t els 0)=>gd (t==e)<|gd (decide (0<=i/\i<=j/\j.toNat<=els.length/\els.length<=16777216)) (k (.own mem.length) (mem.set id .dead++[.row e (els.take i.toNat++els.drop j.toNat) 0]))
  |_=>aF
 | [.tail id 0,.int .i64 i,.int .i64 j] =>
  match mem[id]? with
  |some (.row t els 0)=>gd (t==e)<|gd (decide (0<=i/\i<=j/\j.toNat<=els.length/\els.length<=16777216)) (k (.tail mem.length 0) (mem.set id .dead++[.row e (els.take i.toNat++els.drop j.toNat) 0]))
  |_=>aF
 |_=>aF
theorem Pm{e:aO}{sz:Nat}{args:List V}{mem:List O}{k:V->List O->R}{r:dR}(h:Dl e sz args mem k=aA r):∃v m,tg e sz args mem=aA (v,m)/\k v m=aA r:=by
 unfold Dl at h;split at h
 ·split at h
  ·rename_i hm hm2;obtain⟨p1,h⟩:=cQ h;obtain⟨p2,h⟩:=cQ h;obtain⟨p3,h⟩:=cQ h;obtain⟨p4,h⟩:=cQ h;simp only[co,iN]at p1;obtain⟨a1,a2⟩:=p1;have p4:=gx p4;refine⟨_,_,?_,h⟩;unfold tg;simp only[hm,hm2];rw[aU ⟨a1,a2,p2,(by simp_all),p4.1,p4.2.1,p4.2.2⟩];rfl
  grind
 grind
theorem ME{e:aO}{args:List V}{mem:List O}{k:V->List O->R}{r:dR}(h:CB e args mem k=aA r):∃v m,qP e args mem=aA (v,m)/\k v m=aA r:=by
 unfold CB at h;split at h
 ·split at h
  ·rename_i hm;obtain⟨p1,h⟩:=cQ h;obtain⟨p4,h⟩:=cQ h;have p4:=gx p4;refine⟨_,_,?_,h⟩;unfold qP uS;simp only[hm];rw[aU ⟨(by grind),p4.1,p4.2.1,p4.2.2.1,p4.2.2.2⟩];rfl
  grind
 ·split at h
  ·rename_i hm;obtain⟨p1,h⟩:=cQ h;obtain⟨p4,h⟩:=cQ h;have p4:=gx p4;refine⟨_,_,?_,h⟩;unfold qP uS;simp only[hm];rw[aU ⟨(by grind),p4.1,p4.2.1,p4.2.2.1,p4.2.2.2⟩];rfl
  grind
 grind
def Cq:List V->Option V
 | [.str a,.str b]=>aA (.int .i64 (if a==b then 0 else if Op.bytesLess a b then -1 else 1))
 |_=>aF
theorem VS(a b:List UInt8):Lib.compareBytes a b=if a==b then 0 else if Op.bytesLess a b then -1 else 1:=by
 induction a generalizing b with
 |nil=>cases b<;>simp[Lib.compareBytes,Op.bytesLess]
 |cons x a ih =>
  cases b with
  |nil=>simp[Lib.compareBytes,Op.bytesLess]
  |cons y b =>
   simp only[Lib.compareBytes,Op.bytesLess,ih,List.cons_beq_cons];grind
theorem VU{f:bL}(W:∀(a b:ByteArray) (w:be),Calls P f #[.string a,.string b] w fun x w'=>x = .returned (.int .i64 (Lib.compareBytes a.data.toList b.data.toList))/\w'=w):i5 P fun f' as0=>if f'=f then Cq as0 else none:=by
 intro f' as0 r h bA Z w us hzin ha;simp only at h
 by_cases hf:f'=f
 rotate_left
 ·grind
 subst hf;rw[aU rfl]at h;unfold Cq at h;split at h;rotate_left
 ·cases h
 rename_i a b;cases h;obtain⟨hl,hv⟩:=ha
 match us,hl,hv with
 | [u,v],hl,hv =>
 have hu:=hv 0 (.str a) u rfl rfl;have hv':=hv 1 (.str b) v rfl rfl;cases hu with
 |@str _ sa =>
 cases hv' with
 |@str _ sb =>
 refine(W sa sb w).mono fun x w' hxw=>?_
 obtain⟨rfl,rfl⟩:=hxw;refine⟨_,Z,rfl,?_,⟨rfl,rfl,rfl,c7 _,fun g hg=>⟨rfl,fun o=>Iff.rfl⟩,hzin,rfl,rfl⟩⟩;rw[VS];exact VR.int
end
def wR(w:be):Zs:=⟨fun g _=>g < w.heap.size,fun _ _=>aF,fun _=>aF⟩
def sL(P:bu):Nat->List Field->Nat->Bool
 |off,[],tot=>off==tot
 |off,f::fs,tot=>f.offset==off && sL P (off+P.cellsOf f.type) fs tot
def d0(P:bu):Nat->aO->Bool
 |0,_=>aD
 |n+1,t=>match P.underlying t with
  |some .bool|some (.int _)|some .string=>aC
  |some (.slice e)=>d0 P n e && decide (0 < P.cellsOf e)
  |some (.struct fs)=>sL P 0 fs.toList (P.cellsOf t) && fs.toList.all fun f=>d0 P n f.type
  |some (.array len e)=>d0 P n e && P.cellsOf t==len * P.cellsOf e
  |_=>aD
def fM(P:bu):Nat->aO->List V->Prop
 |0,_,_=>False
 |n+1,t,vs=>match P.underlying t with
  |some .bool=>∃b,vs=[.bool b]
  |some (.int k)=>∃m,vs=[.int k m]/\(Lit.int k m).wf=aC
  |some .string=>∃s,vs=[.str s]/\s.length<=f8
  |some (.slice e)=>∃l,vs=[.sl l]/\l.length<=f8/\∀x∈l,fM P n e x.cells/\(if pk (P.underlying e) then ∃cs,x = .agg cs else x.cells=[x])
  |some (.struct fs)=>vs.length=P.cellsOf t/\∀f∈fs.toList,fM P n f.type ((vs.drop f.offset).take (P.cellsOf f.type))
  |some (.array len e)=>vs.length=P.cellsOf t/\∀i,i < len->fM P n e ((vs.drop (i * P.cellsOf e)).take (P.cellsOf e))
  |_=>False
def RC(w:be)(vs:List V)(cs:List aR):Prop:=vs.length=cs.length/\∀(i:Nat) (v:V) (u:aR),vs[i]? = aA v->cs[i]? = aA u->v.one=aC/\VR (wR w) w j0 v u
section
variable {H:Type}{enc:aO × aR->H}{P:bu}{w:be}{kz:Nat->Bool}
theorem RC.one{v:V}{u:aR}(h1:v.one=aC)(h:VR (wR w) w j0 v u):RC w [v] [u]:=by
 refine⟨rfl,fun i x y hx hy=>?_⟩;cases i with
 |zero=>simp at hx hy;subst hx;subst hy;exact⟨h1,h⟩
 |succ i=>simp at hx
theorem RC.append{vs vs':List V}{cs cs':List aR}(h:RC w vs cs)(h':RC w vs' cs'):RC w (vs++vs') (cs++cs'):=by
 refine⟨by simp[h.1,h'.1],fun i x y hx hy=>?_⟩
 by_cases hi:i < vs.length
 ·rw[eK hi]at hx;rw[eK (by rw[<-h.1];exact hi)]at hy;exact h.2 i x y hx hy
 ·rw[eO (by omega)]at hx;rw[eO (by rw[<-h.1];omega),<-h.1]at hy;exact h'.2 _ x y hx hy
theorem VX:∀(fs:List Field) (off tot:Nat),sL P off fs tot=aC->off<=tot/\∀f∈fs,off<=f.offset:=by
 intro fs
 induction fs with
 |nil=>intro off tot h;simp[sL]at h;exact⟨by omega,by simp⟩
 |cons f fs ih =>
  intro off tot h;simp only[sL,co,iN]at h;obtain⟨h1,h2⟩:=ih _ _ h.2;refine⟨by omega,fun g hg=>?_⟩;simp only[dE]at hg;rcases hg with rfl|hg
  ·omega
  ·have:=h2 g hg;omega
theorem ZQ{n:Nat}{cs:List aR}:∀(fs:List Field) (off tot:Nat),sL P off fs tot=aC->cs.length=tot ->
  (∀f∈fs,∃vs,RC w vs ((cs.drop f.offset).take (P.cellsOf f.type))/\fM P n f.type vs) ->
  ∃vs,RC w vs (cs.drop off)/\∀f∈fs,fM P n f.type ((vs.drop (f.offset - off)).take (P.cellsOf f.type)):=by
 intro fs
 induction fs with
 |nil =>
  intro off tot h hl _;simp[sL]at h;refine⟨[],⟨by simp;omega,fun i v u hv=>by simp at hv⟩,by simp⟩
 |cons f fs ih =>
  intro off tot h hl hf;simp only[sL,co,iN]at h;obtain⟨h1,h2⟩:=h;obtain⟨g1,g2⟩:=VX _ _ _ h2;obtain⟨vs',r',t'⟩:=ih (off+P.cellsOf f.type) tot h2 hl (fun g hg=>hf g (by simp[hg]));obtain⟨vf,rf,tf⟩:=hf f (by simp);have hlen:((cs.drop f.offset).take (P.cellsOf f.type)).length=P.cellsOf f.type:=by simp;omega
  have hvl:vf.length=P.cellsOf f.type:=by rw[rf.1,hlen]
  have e1:cs.drop off=(cs.drop f.offset).take (P.cellsOf f.type)++cs.drop (off+P.cellsOf f.type):=by
   rw[h1,<-uu,lk]
  refine⟨vf++vs',by rw[e1];exact rf.append r',fun g hg=>?_⟩;simp only[dE]at hg;rcases hg with rfl|hg
  ·rw[h1,qC,rW,BC (by omega),sd (by omega)];exact tf
  ·have:=g2 g hg
   have e2:(vf++vs').drop (g.offset - off)=vs'.drop (g.offset - (off+P.cellsOf f.type)):=by
    rw[Bq,List.drop_of_length_le (by omega),eA,hvl];congr 1;omega
   rw[e2];exact t' g hg
theorem U1{n:Nat}{e:aO}{cs:List aR}:∀(len:Nat),cs.length=len * P.cellsOf e->(∀i,i < len->∃vs,RC w vs ((cs.drop (i * P.cellsOf e)).take (P.cellsOf e))/\fM P n e vs) ->
  ∀k,k<=len->∃vs,RC w vs (cs.take (k * P.cellsOf e))/\∀i,i < k->fM P n e ((vs.drop (i * P.cellsOf e)).take (P.cellsOf e)):=by
 intro len hl hf k
 induction k with
 |zero=>intro _;exact⟨[],⟨by simp,fun i v u hv=>by simp at hv⟩,fun i hi=>by omega⟩
 |succ k ih =>
  intro hk;obtain⟨vs,r1,t1⟩:=ih (by omega);obtain⟨vf,rf,tf⟩:=hf k (by omega);have hmul:(k+1) * P.cellsOf e=k * P.cellsOf e+P.cellsOf e:=ml k _;have hle:(k+1) * P.cellsOf e<=len * P.cellsOf e:=dQ _ hk;have hvl:vs.length=k * P.cellsOf e:=by rw[r1.1,eC];omega
  have hfl:vf.length=P.cellsOf e:=by rw[rf.1,eC,fD];omega
  have e1:cs.take ((k+1) * P.cellsOf e)=cs.take (k * P.cellsOf e)++(cs.drop (k * P.cellsOf e)).take (P.cellsOf e):=by rw[hmul,List.take_add]
  refine⟨vs++vf,by rw[e1];exact r1.append rf,fun i hi=>?_⟩
  by_cases h:i=k
  ·subst h;rw[Bq,List.drop_of_length_le (by omega),eA,hvl,qC,rW,sd (by omega)];exact tf
  ·have hik:(i+1) * P.cellsOf e<=k * P.cellsOf e:=dQ _ (by omega);have h2:(i+1) * P.cellsOf e=i * P.cellsOf e+P.cellsOf e:=ml i _;rw[List.drop_append_of_le_length (by omega),BC (by rw[fD];omega)];exact t1 i (by omega)
theorem abU{α:Type}{Q:Nat->α->Prop}:∀(n:Nat),(∀i,i < n->∃x,Q i x)->∃l:List α,l.length=n/\∀i x,l[i]? = aA x->Q i x:=by
 intro n
 induction n with
 |zero=>intro _;exact⟨[],rfl,fun i x h=>by simp at h⟩
 |succ n ih =>
  intro h;obtain⟨l,h1,h2⟩:=ih (fun i hi=>h i (by omega));obtain⟨x,hx⟩:=h n (by omega);refine⟨l++[x],by simp[h1],fun i y hy=>?_⟩
  by_cases hi:i < n
  ·rw[eK (by omega)]at hy;exact h2 i y hy
  ·rw[eO (by omega)]at hy
   have e:i - l.length=0:=by
    have:=(bX.1 hy).1;simp at this;omega
   rw[e]at hy;simp at hy;subst hy
   have:i=n:=by
    have:i - l.length=0:=e;omega
   subst this;exact hx
theorem LG{n:Nat}{t:aO}{vs:List V}(h:fM P n t vs)(ha:pk (P.underlying t)=aD):∃v,vs=[v]/\v.cells=[v]:=by
 cases n with
 |zero=>cases h
 |succ n =>
  unfold fM at h;split at h
  ·obtain⟨b,rfl⟩:=h;exact⟨_,rfl,rfl⟩
  ·obtain⟨b,rfl,_⟩:=h;exact⟨_,rfl,rfl⟩
  ·obtain⟨b,rfl,_⟩:=h;exact⟨_,rfl,rfl⟩
  ·obtain⟨b,rfl,_⟩:=h;exact⟨_,rfl,rfl⟩
  ·rename_i hu;rw[hu]at ha;cases ha
  ·rename_i hu;rw[hu]at ha;cases ha
  ·cases h
theorem agM:∀(n fuel:Nat) (t:aO) (cs:List aR) (x:DataW H × List MemPlace),d0 P n t=aC->DataW.trod enc P w 0 kz aC fuel t cs=aA x->∃vs,RC w vs cs/\fM P n t vs:=by
 intro n
 induction n with
 |zero=>intro fuel t cs x h;cases h
 |succ n ih =>
  intro fuel t cs x bA h;unfold d0 at bA;split at bA
  ·rename_i hu;obtain⟨b,rfl,_⟩:=DataW.trod_bool hu h;exact⟨[.bool b],RC.one rfl .bool,by unfold fM;rw[hu];exact⟨b,rfl⟩⟩
  ·rename_i k hu;obtain⟨m,rfl,_,hw⟩:=DataW.trod_int hu h;exact⟨[.int k m],RC.one rfl .int,by unfold fM;rw[hu];exact⟨m,rfl,hw⟩⟩
  ·rename_i hu;obtain⟨s,rfl,_,hs⟩:=DataW.trod_string hu h;exact⟨[.str s.data.toList],RC.one rfl .str,by unfold fM;rw[hu];exact⟨_,rfl,by have h1:s.data.size<=f8:=hs;rw[Fy];exact h1⟩⟩
  ·rename_i e hu;simp only[co,iR]at bA;obtain⟨hoke,hpos⟩:=bA;rcases DataW.trod_slice hu h with⟨rfl,_⟩|⟨a,len,cap,dy,rest,fu,_,rfl,_,hb,hlc,hcm,hel,hread,_⟩
   ·exact⟨[.sl []],RC.one rfl .sl0,by unfold fM;rw[hu];exact⟨[],rfl,by simp,by simp⟩⟩
   ·have each:∀i,i < len->∃x:V,∃ci:List aR,w.cells? 0 (a.add (i * P.cellsOf e)) (P.cellsOf e)=aA ci/\RC w x.cells ci/\fM P n e x.cells/\(if pk (P.underlying e) then ∃cs,x = .agg cs else x.cells=[x]):=by
     intro i hi;have hr:=hread i hi;have:dy[i]? = aA dy[i]:=cj (by omega);rw[this,obi]at hr;obtain⟨ci,h1,h2⟩:=hr;obtain⟨vs,r1,r2⟩:=ih fu e ci _ hoke h2
     by_cases hag:pk (P.underlying e)=aC
     ·exact⟨.agg vs,ci,h1,r1,r2,by rw[aU hag];exact⟨vs,rfl⟩⟩
     ·have hag':pk (P.underlying e)=false:=by simpa using hag
      obtain⟨v,rfl,hv⟩:=LG r2 hag';exact⟨v,ci,h1,by rw[hv];exact r1,by rw[hv];exact r2,by rw[aY (by simp[hag'])];exact hv⟩
    obtain⟨l,hll,hlq⟩:=abU len each
    have hT:fM P (n+1) t [.sl l]:=by
     unfold fM;rw[hu];refine⟨l,rfl,by omega,fun x hx=>?_⟩;obtain⟨i,hi⟩:=y4 hx;obtain⟨ci,_,_,h3,h4⟩:=hlq i x hi;exact⟨h3,h4⟩
    refine⟨[.sl l],RC.one rfl ?_,hT⟩
    by_cases h0:len=0
    ·have:l=[]:=wx (by omega);subst this;subst h0;exact .sl0
    ·have hx0:l[0]? = aA l[0]:=cj (by omega);obtain⟨c0,q1,q2,q3,q4⟩:=hlq 0 _ hx0;obtain⟨_,q5,q6⟩:=World.cells?_some q1;have hc0:=q6 0 hpos;rw[cj (by omega)]at hc0;have hspot:=World.cell?_spot hc0;obtain⟨g,b,spot⟩:=a;have:spot=none:=by simpa[Addr.add]using hspot
     subst this
     have hg:g < w.heap.size:=by
      have:=World.cells?_block q1 hpos;simpa[Addr.add]using this
     subst hll;refine VR.sl (sz:=P.cellsOf e) (fun k i=>(w.cell? ⟨g,b+(k * P.cellsOf e+i),aF⟩).getD default) hlc hpos (fun k x hk=>?_) (fun k x i y hk hy=>?_) (fun k x i y hk hy=>?_)
     ·obtain⟨ck,r1,r2,_⟩:=hlq k x hk;rw[r2.1,(World.cells?_some r1).2.1]
     ·obtain⟨ck,r1,r2,_⟩:=hlq k x hk;obtain⟨_,s1,s2⟩:=World.cells?_some r1;have hi:i < P.cellsOf e:=by rw[<-s1,<-r2.1];exact(bX.1 hy).1
      have hcell:=s2 i hi;have hck:ck[i]? = aA ck[i]:=cj (by omega);rw[hck]at hcell;have e1:((⟨g,b,aF⟩:Addr).add (k * P.cellsOf e)).add i=⟨g,b+(k * P.cellsOf e+i),aF⟩:=by rw[Addr.add_lit,Addr.add_lit,jP]
      rw[e1]at hcell;exact⟨(r2.2 i y _ hy hck).1,hg,by rw[hcell];rfl⟩
     ·obtain⟨ck,r1,r2,_⟩:=hlq k x hk;obtain⟨_,s1,s2⟩:=World.cells?_some r1;have hi:i < P.cellsOf e:=by rw[<-s1,<-r2.1];exact(bX.1 hy).1
      have hcell:=s2 i hi;have hck:ck[i]? = aA ck[i]:=cj (by omega);rw[hck]at hcell;have e1:((⟨g,b,aF⟩:Addr).add (k * P.cellsOf e)).add i=⟨g,b+(k * P.cellsOf e+i),aF⟩:=by rw[Addr.add_lit,Addr.add_lit,jP]
      rw[e1]at hcell;simp only[hcell,uC];exact(r2.2 i y _ hy hck).2
  ·rename_i fs hu;simp only[co]at bA;obtain⟨hcon,hall⟩:=bA;obtain⟨xs,fu,_,_,hl,hlen,hf⟩:=DataW.trod_struct hu h
   have hfi:∀f∈fs.toList,∃vs,RC w vs ((cs.drop f.offset).take (P.cellsOf f.type))/\fM P n f.type vs:=by
    intro f hfm;obtain⟨i,hi⟩:=y4 hfm;have hi':fs[i]? = aA f:=by simpa using hi
    have:=hf i f hi'
    have hil:i < xs.length:=by
     have:=(hJ.1 hi').1;omega
    have hx:xs[i]? = aA xs[i]:=cj hil;rw[hx]at this;exact ih fu f.type _ _ (eJ.1 hall f hfm) this
   obtain⟨vs,r1,r2⟩:=ZQ fs.toList 0 _ hcon hl hfi;rw[rW]at r1;refine⟨vs,r1,?_⟩;unfold fM;rw[hu];exact⟨by rw[r1.1,hl],fun f hfm=>by have:=r2 f hfm;simpa using this⟩
  ·rename_i len e hu;simp only[co,iN]at bA;obtain⟨hoke,hcs⟩:=bA;obtain⟨xs,fu,_,_,hl,hlen,hf⟩:=DataW.trod_array hu h;rw[hcs]at hl
   have hfi:∀i,i < len->∃vs,RC w vs ((cs.drop (i * P.cellsOf e)).take (P.cellsOf e))/\fM P n e vs:=by
    intro i hi;have:=hf i hi;have hx:xs[i]? = aA xs[i]:=cj (by omega);rw[hx]at this;exact ih fu e _ _ hoke this
   obtain⟨vs,r1,r2⟩:=U1 len hl hfi len (c7 _);rw[<-hl,iM]at r1;refine⟨vs,r1,?_⟩;unfold fM;rw[hu];exact⟨by rw[r1.1,hl,hcs],r2⟩
  ·cases bA
end
theorem afF{W W':be}(h:∀g,g < W.heap.size->W'.heap[g]? = W.heap[g]?){p:MemPlace}(hp:p.block < W.heap.size):W.sameAt W' p:=by
 cases p with
 |cell b off=>exact World.cell?_of_block (a:=⟨b,off,aF⟩) (h b hp)
 |map b=>exact h b hp
theorem abw{W W':be}{may:MemPlace->Prop}(ho:W'.os=W.os)(hout:W'.output=W.output)(h:∀g,g < W.heap.size->W'.heap[g]? = W.heap[g]?):W.keptBut W' may:=by
 refine⟨ho,hout,fun i hi=>?_⟩;rw[h i hi];have:W.heap[i]? = aA W.heap[i]:=gH hi;rw[this];cases W.heap[i]<;>simp
section
variable {H:Type}{enc:aO × aR->H}{P:bu}
theorem LF(hl:laidOutB P=aC){W W':be}{sp':Nat->Bool}(hsz:∀g,g < W.heap.size->W'.heap[g]? = W.heap[g]?):∀{ts:List aO} {vs:List aR} {ds:List (DataW H)} {ps:List MemPlace},(∀t∈ts,P.readableRec t=aC/\t < P.types.size) ->
  DataW.TrodAll enc P W 0 (fun _=>aC) aC ts vs ds ps->(∀p∈ps,p.block < W.heap.size)->(∀p∈ps,sp' p.block=aC)->DataW.TrodAll enc P W' 0 sp' aC ts vs ds ps
 | [],[],[],_,_,h,_,_=>h
 |t::ts,v::vs,d::ds,_,hT,⟨p,q,h1,h2,e⟩,bd,hs=>by
  subst e
  exact⟨p,q,WideElems.Trod_stays hl (hT t (by simp)).1 (hT t (by simp)).2 h1 (fun x hx=>afF hsz (bd x (by simp[hx]))) (fun x hx=>hs x (by simp[hx])),
   LF hl hsz (fun t ht=>hT t (by simp[ht])) h2 (fun x hx=>bd x (by simp[hx])) (fun x hx=>hs x (by simp[hx])),rfl⟩
end
end Go.Lite
namespace Go.Lite
open Go Go.ChangeShapes Go.WideShapes Go.RowKit
def lO(P:bu)(n:Nat)(t:aO)(x:V):Prop:=fM P n t x.cells/\(if pk (P.underlying t) then ∃cs,x = .agg cs else x.cells=[x])
def yX(P:bu)(n:Nat):List aO->List V->Prop
 | [],[]=>True
 |t::ts,x::xs=>lO P n t x/\yX P n ts xs
 |_,_=>False
theorem lO.agg{P:bu}{n:Nat}{t:aO}{x:V}(h:lO P n t x)(ha:pk (P.underlying t)=aC):∃cs,x = .agg cs:=by
 have:=h.2;rwa [aU ha]at this
theorem lO.leaf{P:bu}{n:Nat}{t:aO}{x:V}(h:lO P n t x)(ha:pk (P.underlying t)=aD):x.cells=[x]:=by
 have:=h.2;rwa [aY (by simp[ha])]at this
section
variable {H:Type}{enc:aO × aR->H}{P:bu}{w:be}{kz:Nat->Bool}
theorem UY{n base:Nat}{t:aO}{v:aR}{d:DataW H}{p:List MemPlace}(bA:d0 P n t=aC)(hval:Value.okWide P w .any base t v)
  (h:DataW.Trod enc P w 0 kz aC t v d p):∃x,VR (wR w) w j0 x v/\lO P n t x:=by
 obtain⟨fuel,hf⟩:=h;obtain⟨vs,r,ty⟩:=agM n fuel t _ _ bA hf
 have leaf:pk (P.underlying t)=aD->v.cells.toList=[v]->∃x,VR (wR w) w j0 x v/\lO P n t x:=by
  intro ha hc;obtain⟨x,rfl,hx⟩:=LG ty ha;refine⟨x,(r.2 0 x v rfl (by rw[hc];rfl)).2,by rw[hx];exact ty,by rw[aY (by simp[ha])];exact hx⟩
 cases n with
 |zero=>cases bA
 |succ n =>
  have hok':=bA;unfold d0 at bA;split at bA
  ·rename_i hu;obtain⟨b,rfl⟩:=okWide_bool hu hval;exact leaf (by rw[hu];rfl) rfl
  ·rename_i k hu;obtain⟨b,rfl⟩:=okWide_int hu hval;exact leaf (by rw[hu];rfl) rfl
  ·rename_i hu;obtain⟨b,rfl⟩:=okWide_string hu hval;exact leaf (by rw[hu];rfl) rfl
  ·rename_i e hu;obtain⟨a,l,c,rfl⟩:=okWide_slice hu hval;exact leaf (by rw[hu];rfl) rfl
  ·rename_i fs hu;simp only[Value.okWide,hu]at hval;obtain⟨cs,rfl,_,_⟩:=hval;have e:(Value.agg cs) = .agg (cs.toList).toArray:=by simp
   refine⟨.agg vs,?_,?_,?_⟩
   ·rw[e];exact .agg r.1 fun i c u hc hu=>(r.2 i c u hc hu).2
   ·exact ty
   ·rw[hu];exact⟨vs,rfl⟩
  ·rename_i len e hu;simp only[Value.okWide,hu]at hval;obtain⟨cs,rfl,_,_⟩:=hval;have e:(Value.agg cs) = .agg (cs.toList).toArray:=by simp
   refine⟨.agg vs,?_,?_,?_⟩
   ·rw[e];exact .agg r.1 fun i c u hc hu=>(r.2 i c u hc hu).2
   ·exact ty
   ·rw[hu];exact⟨vs,rfl⟩
  ·cases bA
theorem LS{n base:Nat}:∀{ts:List aO} {vs:List aR} {ds:List (DataW H)} {ps:List MemPlace},(ts.all (d0 P n))=aC->(∀(j:Nat) t v,ts[j]? = aA t->vs[j]? = aA v->Value.okWide P w .any base t v) ->
  DataW.TrodAll enc P w 0 kz aC ts vs ds ps->∃xs,gB (wR w) w j0 xs vs/\yX P n ts xs
 | [],[],[],_,_,_,_=>⟨[],⟨rfl,fun i v u hv=>by simp at hv⟩,trivial⟩
 |t::ts,v::vs,d::ds,_,bA,hval,⟨p,q,h1,h2,_⟩=>by
  simp only[oY,co]at bA;obtain⟨x,hx,tx⟩:=UY bA.1 (hval 0 t v rfl rfl) h1;obtain⟨xs,hxs,txs⟩:=LS bA.2 (fun j t v hj hv=>hval (j+1) t v (by simpa using hj) (by simpa using hv)) h2;refine⟨x::xs,⟨by simp[hxs.1],fun i a b ha hb=>?_⟩,tx,txs⟩;cases i with
  |zero=>simp at ha hb;subst ha;subst hb;exact hx
  |succ i=>exact hxs.2 i a b (by simpa using ha) (by simpa using hb)
end
theorem UL{Z:Zs}{w:be}{j:J}{b:Bool}{u:aR}(h:VR Z w j (.bool b) u):u = .bool b:=by cases h;rfl
theorem abF{cfg:bS}(hc:yY cfg){f:bL}{fn:Func}(n:Nat)(bA:lX cfg.P f=aC)(hlaid:laidOutB cfg.P=aC){s:ChangeSpec}(hvars:s.vars=[])
  (hts:(fn.params.toList.all fun t=>d0 cfg.P n t && cfg.P.readableRec t && decide (t < cfg.P.types.size))=aC) {tb:aO} (hres:fn.resultTypes=#[tb]) (htb:cfg.P.underlying tb=aA .bool)
  (hspec:∀(H:Type) (ds:List (DataW H)),ds.length=fn.params.toList.length->s.fn H ds={ results:=[.lit (.bool aC)],args:=ds })
  (law:∀xs,yX cfg.P n fn.params.toList xs->bJ cfg f xs=aA (.bool aC))
  {H:Type} {enc:aO × aR->H} {apart fresh handsOn:Bool} (W:be) (base:Nat) (args:Array aR) (ds gs:List (DataW H)) (before:List MemPlace)
  (hval:∀(j:Nat) t v,fn.params[j]? = aA t->args[j]? = aA v->Value.okWide cfg.P W .any base t v)
  (hW:DataW.Whole enc cfg.P fn.params.toList s.vars apart W args.toList ds gs before) :
  Calls cfg.P f args W fun e W'=>∃v,e = .returned v/\s.post enc cfg.P fn apart fresh handsOn aD W args v W':=by
 have hW':=hW;obtain⟨p,q,hA,hV,hb,hfz,hnd⟩:=hW;rw[hvars]at hV;obtain⟨hg,hq⟩:=trodVars_none hV;subst hg;subst hq;simp only[fh]at hb;subst hb;simp only[eJ,co,iR]at hts;obtain⟨xs,hx,ht⟩:=LS (P:=cfg.P) (n:=n) (base:=base) (eJ.2 fun t h=>(hts t h).1.1) (fun j t v hj hv=>hval j t v (by simpa using hj) (by simpa using hv)) hA;obtain⟨m,hm⟩:=IX (law xs ht);have:=(Vt hc m).1 f xs _ hm bA (wR W) W args.toList (fun g o h=>h) hx;rw[Lb]at this;refine this.mono fun e W1 ⟨u,Z1,he,hr,hs⟩=>?_
 have hu:u = .bool true:=UL hr;subst hu;refine⟨_,he,ds,[],before,[],before,[],hW',?_,?_,?_,?_,fun h=>by cases h⟩
 ·rw[hspec H (ds++[]) (by simpa using(Go.trodAll_length hA).2),hres];exact trodAll_mk1 (shut_bool htb aC)
 ·rw[hspec H (ds++[]) (by simpa using(Go.trodAll_length hA).2)];simp only[fh];exact LF hlaid (fun g h=>(hs.keep g h).1) (fun t h=>⟨(hts t h).1.2,(hts t h).2⟩) hA (fun x h=>hW'.lt x h) (fun x h=>by simpa using hW'.lt x h)
 ·rw[hspec H (ds++[]) (by simpa using(Go.trodAll_length hA).2),hvars];exact rfl
 ·exact abw hs.os hs.output fun g h=>(hs.keep g h).1
end Go.Lite
namespace Go.Lite
open Go
def Js (kc:KC) (fa:FA) (k:V->List O->R) (s:S):R:=cf (cC (oM kc.cfg.P s) fa.results) fun vs=>k (rN vs) s.mem
def Pk (kc:KC) (fa:FA) (args:List V) (mem:List O) (k:V->List O->R):R :=
 gd (args.length==fa.np && Nat.ble fa.np fa.nt) (iX kc 0 fa.body 0 ⟨args++dh (fa.nt - fa.np) (.tup []),mem⟩ (Js kc fa k) (fun _ _=>aF) (Js kc fa k))
theorem acY{cfg:bS}{n0 n1:Nat}:∀(c:C) (s:S),nl c=0->da cfg n0 c s=da cfg n1 c s:=by
 intro c
 induction c with
 |seq a b iha ihb =>
  intro s h;simp only[nl]at h;simp only[da,iha s (by omega)];congr 1;funext r;obtain⟨x,s'⟩:=r;cases x<;>simp only[ihb _ (by omega:nl b=0)]
 |cond c a b iha ihb =>
  intro s h;simp only[nl]at h;simp only[da,iha s (by omega),ihb s (by omega)]
 |block i c ih=>intro s h;simp only[nl]at h;simp only[da,ih s h]
 |loop f c _=>intro s h;simp[nl]at h
 |cseq f a b _ _=>intro s h;simp[nl]at h
 |uncons g ps ws a b iha ihb =>
  intro s h;simp only[nl]at h;simp only[da,iha _ (by omega:nl a=0),ihb _ (by omega:nl b=0)]
 |_=>intro s _;rfl
theorem aba{kc:KC}(hik:iJ kc){f:bL}{fa:FA}{args:List V}{mem:List O}{k:V->List O->R}{r:dR}(hp:kc.cfg.iprim f=aF)(hf:il kc.cfg.P (kc.cfg.rxf f) f=aA fa)(hn:nl fa.body=0)
  (h:Pk kc fa args mem k=aA r):∃v m,lY kc.cfg f args mem=aA (v,m)/\k v m=aA r:=by
 obtain⟨ha,h⟩:=cQ h;simp only[co,iN,Nat.ble_eq]at ha
 have fin:∀(x:Ex) (s':S),da kc.cfg 0 fa.body ⟨args++dh (fa.nt - fa.np) (.tup []),mem⟩=aA (x,s')->HD x=aC->Js kc fa k s'=aA r ->
   ∃v m,lY kc.cfg f args mem=aA (v,m)/\k v m=aA r:=by
  intro x s' hx he hr;obtain⟨vs,h1,h2⟩:=cJ hr;refine⟨rN vs,s'.mem,Pf hp hf ?_,h2⟩;unfold tV;rw[aU ha,acY (n1:=0) _ _ hn];cases x with
  |exit i=>cases he
  |norm=>simp only[hx,bk,h1,du]
  |ret=>simp only[hx,bk,h1,du]
 rcases A7 hik _ _ _ _ _ _ _ h with⟨s2,g1,g2⟩|⟨e,s2,g1,g2⟩|⟨s2,g1,g2⟩|⟨j',s2,_,g1,g2,g3⟩
 ·exact fin _ _ g1 rfl g2
 ·cases g2
 ·exact fin _ _ g1 rfl g2
 ·omega
def Il (kc:KC):List (Nat × FA)->bL->List V->List O->(V->List O->R)->R
 | [],f,args,mem,k=>kc.ik f args mem k
 |x::l,f,args,mem,k=>cond (ll f x.1) (Pk kc x.2 args mem k) (Il kc l f args mem k)
def KC.inl (kc:KC) (l:List (Nat × FA)):KC:={ kc with ik:=Il kc l }
theorem Pl{kc:KC}(hik:iJ kc){l:List (Nat × FA)}(h:∀x∈l,kc.cfg.iprim x.1=aF/\il kc.cfg.P (kc.cfg.rxf x.1) x.1=aA x.2/\nl x.2.body=0):iJ (kc.inl l):=by
 refine⟨fun f as0 mem k r hr=>?_,fun rd f as0 mem k r hr=>hik.ck rd f as0 mem k r hr⟩;show ∃v m,lY kc.cfg f as0 mem=aA (v,m)/\k v m=aA r;change Il kc l f as0 mem k=aA r at hr
 induction l with
 |nil=>exact hik.ik f as0 mem k r hr
 |cons x l ih =>
  rcases dl hr with⟨c1,h2⟩|⟨_,h2⟩
  ·obtain⟨a,b,c⟩:=h x (by simp);have e:f=x.1:=Lv c1;subst e;exact aba hik a b c h2
  ·exact ih (fun y hy=>h y (by simp[hy])) h2
def ut(kc:KC)(n0:Nat)(fa:FA)(rd:CM)(mem:List O)(o:dR)(r:V × List O):Prop:=∃v m,Go kc aC n0 fa o (.doneM v m)/\iP rd mem v m=r
theorem ut.step{kc:KC}{n0:Nat}{fa:FA}{rd:CM}{mem:List O}{o o':dR}{r:V × List O}(hs:∀o'',Go kc aC n0 fa o o''->Go kc aC n0 fa o' o'')(h:ut kc n0 fa rd mem o r):ut kc n0 fa rd mem o' r :=
 let ⟨v,m,h1,h2⟩:=h
 ⟨v,m,hs _ h1,h2⟩
theorem ut.done{kc:KC}{n0:Nat}{fa:FA}{rd:CM}{mem m:List O}{v:V}{r:V × List O}(h:iP rd mem v m=r):ut kc n0 fa rd mem (.doneM v m) r:=⟨v,m,.refl _,h⟩
theorem aaQ{kc:KC}(hik:iJ kc){f:bL}{fa:FA}{rd:CM}{args:List V}{mem:List O}{o:dR}{r:V × List O}(hp:kc.cfg.iprim f=aF)(hf:il kc.cfg.P (kc.cfg.rxf f) f=aA fa)(h:nw kc aC fa args mem=aA o)(hg:ut kc mem.length fa rd mem o r) :
  cA kc.cfg rd f args mem=aA r:=by
 obtain⟨v,m,h1,h2⟩:=hg;unfold cA;rw[Pe hik hp hf h h1,du,h2]
set_option linter.unusedSimpArgs false
section
variable {b b':Bool}{v v':V}
@[congr] theorem ahh{x y:R}(h:b=b'):cond b x y=cond b' x y:=by rw[h]
@[congr] theorem ahB{k:R}(h:b=b'):gd b k=gd b' k:=by rw[h]
@[congr] theorem ahC{α:Type}{l l':List α}{n n':Nat}{k:α->R}(h:l=l')(h':n=n'):bl l n k=bl l' n' k:=by rw[h,h']
@[congr] theorem ahP{cfg:bS}{f:bL}{as0 as0':List V}{k:V->R}(h:as0=as0'):aL cfg f as0 k=aL cfg f as0' k:=by rw[h]
@[congr] theorem ahM{es es':List (V × V)}{key key':V}{kn:R}{ks:V->R}(h:es=es')(h':key=key'):tE es key kn ks=tE es' key' kn ks:=by rw[h,h']
@[congr] theorem ahO{α:Type}{o o':Option α}{k:α->R}(h:o=o'):cf o k=cf o' k:=by rw[h]
@[congr] theorem ahE{k:Bool->R}(h:v=v'):kB v k=kB v' k:=by rw[h]
@[congr] theorem ahG{j:IntKind}{k:Int->R}(h:v=v'):kI j v k=kI j v' k:=by rw[h]
@[congr] theorem ahK{k:List UInt8->R}(h:v=v'):kS v k=kS v' k:=by rw[h]
@[congr] theorem ahH{k:List V->R}(h:v=v'):kL v k=kL v' k:=by rw[h]
@[congr] theorem ahD{k:List V->R}(h:v=v'):kA v k=kA v' k:=by rw[h]
@[congr] theorem ahL{k:List V->R}(h:v=v'):kT v k=kT v' k:=by rw[h]
@[congr] theorem ahF{e:aO}{k:List V->R}(h:v=v'):kF e v k=kF e v' k:=by rw[h]
@[congr] theorem ahR{l l':List V}{k:V->List V->R}(h:l=l'):bU l k=bU l' k:=by rw[h]
@[congr] theorem ahS{l l':List V}{k:R}(h:l=l'):eo l k=eo l' k:=by rw[h]
end
theorem db{a b:Int}(h:a=b):(a==b)=true:=by rw[h];simp
theorem dH{a b:Int}(h:a≠b):(a==b)=false:=by simpa using h
theorem fP{a b:Int}(h:a≠b):(a != b)=true:=by simpa using h
theorem dA{a b:Int}(h:a=b):(a != b)=false:=by rw[h];simp
theorem nQ(k:Nat):((k:Int) - 1).toNat=k - 1:=by omega
theorem nP(k:Nat):((k:Int)+1).toNat=k+1:=by omega
abbrev Bs:=List UInt8
abbrev lt(a b:Bs):Bool:=Op.bytesLess a b
theorem lE(a:Bs):lt a a=false:=by
 induction a with
 |nil=>rfl
 |cons x a ih=>simp only[lt,Op.bytesLess]at ih |-;simp[ih]
theorem lt_trans{a b c:Bs}(h:lt a b=aC)(h':lt b c=aC):lt a c=true:=by
 induction a generalizing b c with
 |nil =>
  cases c with
  |nil=>cases b<;>simp[Op.bytesLess]at h'
  |cons y c=>rfl
 |cons x a ih =>
  cases b with
  |nil=>simp[Op.bytesLess]at h
  |cons y b =>
   cases c with
   |nil=>simp[Op.bytesLess]at h'
   |cons z c =>
    simp only[lt,Op.bytesLess,nS,iR,co,iN]at h h' |-
    rcases h with h|⟨rfl,h⟩
    ·rcases h' with h'|⟨rfl,h'⟩
     ·exact .inl (UInt8.lt_trans h h')
     ·exact .inl h
    ·rcases h' with h'|⟨rfl,h'⟩
     ·exact .inl h'
     ·exact .inr ⟨rfl,ih h h'⟩
theorem nJ{a b:Bs}(h:lt a b=aD)(hn:a≠b):lt b a=true:=by
 induction a generalizing b with
 |nil =>
  cases b with
  |nil=>exact(hn rfl).elim
  |cons y b=>simp[Op.bytesLess]at h
 |cons x a ih =>
  cases b with
  |nil=>rfl
  |cons y b =>
   simp only[lt,Op.bytesLess,qu,decide_eq_false_iff_not,Bool.and_eq_false_imp,iN,nS,iR,co]at h |-
   by_cases e:x=y
   ·subst e;exact .inr ⟨rfl,ih (h.2 rfl) (fun e=>hn (by rw[e]))⟩
   ·left;rcases UInt8.lt_or_lt_of_ne e with h1|h1
    ·exact(h.1 h1).elim
    ·exact h1
theorem nI{a b:Bs}(h:lt a b=aC):lt b a=false:=by
 cases h':lt b a with
 |false=>rfl
 |true=>have:=lt_trans h h';rw[lE]at this;cases this
theorem Iv(a b:Bs):(Op.bytesLess a b ||a==b) = !(lt b a):=by
 by_cases e:a=b
 ·subst e;simp[lE]
 ·have e2:(a==b)=false:=by simpa using e
  rw[e2,j9];cases h:Op.bytesLess a b with
  |true=>rw[nI h];rfl
  |false=>rw[nJ h e];rfl
def wV:List V->Option (List (List V))
 | [.ref (.sl a) 0,.ref (.sl b) 0]=>if a.length<=16777216/\a.all fq=aC/\b.all fq=aC then aA (List.zipWith (fun x y=>[x,y]) a b) else aF
 |_=>aF
def rk(s:Bs)(n:Nat)(t:Bs):Bs:=s.take n++t++s.drop (n+t.length)
def ye:List V->Option V
 | [.str s,.int .i64 n,.sl l]=>if 0<=n/\n.toNat+l.length<=s.length then (iv l).map fun ns=>.str (rk s n.toNat (ns.map fun x=>UInt8.ofNat x.toNat)) else aF
 |_=>aF
theorem DN(s:Bs):iv (fA s)=aA (s.map fun b=>(b.toNat:Int)):=by
 induction s with
 |nil=>rfl
 |cons b s ih =>
  have:fA (b::s) = .int .u8 (b.toNat:Int)::fA s:=rfl;rw[this];simp only[iv,ih,du,d8]
theorem DO(s:Bs):(s.map fun b=>(b.toNat:Int)).map (fun n=>UInt8.ofNat n.toNat)=s:=by
 induction s with
 |nil=>rfl
 |cons b s ih=>simp only[d8,ih,Int.toNat_natCast];congr 1;exact UInt8.ofNat_toNat
theorem Ga(s:Bs):(fA s).length=s.length:=by simp[fA]
theorem ag6(s:Bs):cw 1 (fA s)=true:=by
 unfold cw fA;simp[gT]
theorem ac5(l:List Int):iv (l.map fun n=>aB .u8 n)=aA l:=by
 induction l with
 |nil=>rfl
 |cons b s ih=>simp only[iv,d8,ih,du]
def dU:Bs->Nat
 | []=>0
 |b::s=>b.toNat+256 * dU s
def cN:Nat->Nat->Bs
 |0,_=>[]
 |k+1,n=>UInt8.ofNat (n % 256)::cN k (n / 256)
theorem eP:∀k n,(cN k n).length=k
 |0,_=>rfl
 |k+1,n=>by simp[cN,eP k]
theorem Bi:∀s,dU s < 256 ^ s.length
 | []=>by decide
 |b::s=>by
  have h1:=Bi s;have h2:=b.toNat_lt;simp only[dU,dp,BI];omega
theorem Uc(c:UInt8):∀s,dU (s++[c])=dU s+c.toNat * 256 ^ s.length
 | []=>by simp[dU]
 |b::s=>by
  simp only[ew,dU,Uc c s,dp,BI,Nat.mul_add]
  have:256 * (c.toNat * 256 ^ s.length)=c.toNat * (256 ^ s.length * 256):=by
   rw[BG 256,Nat.mul_assoc]
  omega
theorem Fj:∀k n,n < 256 ^ k->dU (cN k n)=n
 |0,n,h=>by
  have:n=0:=by simpa using h
  subst this;rfl
 |k+1,n,h=>by
  have h1:n / 256 < 256 ^ k:=by
   rw[BI]at h;exact Nat.div_lt_of_lt_mul (by rw[BG];exact h)
  simp only[cN,dU,Fj k _ h1];have:(UInt8.ofNat (n % 256)).toNat=n % 256:=by simp
  omega
theorem PL:∀s,cN s.length (dU s)=s
 | []=>rfl
 |b::s=>by
  have h2:=b.toNat_lt;have e1:(b.toNat+256 * dU s) % 256=b.toNat:=by omega
  have e2:(b.toNat+256 * dU s) / 256=dU s:=by omega
  simp only[dU,dp,cN,e1,e2,PL s];congr 1;exact UInt8.ofNat_toNat
theorem PK:∀k n,cN (k+1) n=cN k n++[UInt8.ofNat (n / 256 ^ k % 256)]
 |0,n=>by simp[cN]
 |k+1,n=>by
  show UInt8.ofNat (n % 256)::cN (k+1) (n / 256)=_;rw[PK k];simp only[cN,ew];rw[Nat.div_div_eq_div_mul,BI,BG 256]
theorem D3(i:Nat):2 ^ (8 * i)=256 ^ i:=by rw[Nat.pow_mul]
theorem adl{x c i:Nat}(hx:x < 256 ^ i)(hc:c < 256)(hi:i < 8) :
  W .u64 (((BitVec.ofInt (IntKind.bits .u64) (x:Int) |||BitVec.ofInt (IntKind.bits .u64) (W .u64 (W .u64 (c:Int) * 2 ^ (min (W .i64 (8 * (i:Int))).toNat (IntKind.bits .u64))))).toNat:Nat):Int)=((x+c * 256 ^ i:Nat):Int):=by
 have e1:W .i64 (8 * (i:Int))=8 * (i:Int):=bf (by omega);have e2:(8 * (i:Int)).toNat=8 * i:=by omega
 have e3:min (8 * i) (IntKind.bits .u64)=8 * i:=by
  have:IntKind.bits .u64=64:=rfl;omega
 have hp:256 ^ i * 256<=256 ^ 8:=by
  rw[<-BI];exact Lw (by decide) (by omega)
 have hc2:c * 256 ^ i+256 ^ i<=256 ^ i * 256:=by
  have:(c+1) * 256 ^ i<=256 * 256 ^ i:=dQ _ hc;rw[ml]at this;rw[BG (256 ^ i)];exact this
 have h64:(256:Nat) ^ 8=18446744073709551616:=by decide
 rw[h64]at hp;have e4:W .u64 (c:Int)=(c:Int):=lq (by omega);rw[e1,e2,e3,e4]
 have e5:(c:Int) * 2 ^ (8 * i)=((c * 256 ^ i:Nat):Int):=by
  rw[<-D3,Int.natCast_mul,Int.natCast_pow];rfl
 rw[e5];have e6:W .u64 ((c * 256 ^ i:Nat):Int)=((c * 256 ^ i:Nat):Int):=lq (by omega);rw[e6]
 have e7:∀m:Nat,m < 18446744073709551616->(BitVec.ofInt (IntKind.bits .u64) (m:Int)).toNat=m:=by
  intro m hm;rw[BitVec.toNat_ofInt];have:IntKind.bits .u64=64:=rfl;rw[this];omega
 rw[BitVec.toNat_or,e7 x (by omega),e7 _ (by omega)]
 have e8:x |||c * 256 ^ i=x+c * 256 ^ i:=by
  have:=Nat.shiftLeft_add_eq_or_of_lt (i:=8 * i) (b:=x) (by rw[D3];exact hx) c;rw[Nat.shiftLeft_eq,D3]at this;rw[Nat.or_comm,<-this,sg]
 rw[e8];exact lq (by omega)
theorem KD{n i:Nat}(hi:i<=8):(n:Int).fdiv (2 ^ (min (W .i64 (8 * (i:Int))).toNat (IntKind.bits .u64)))=((n / 256 ^ i:Nat):Int):=by
 have e1:W .i64 (8 * (i:Int))=8 * (i:Int):=bf (by omega);have e2:(8 * (i:Int)).toNat=8 * i:=by omega
 have e3:min (8 * i) (IntKind.bits .u64)=8 * i:=by
  have:IntKind.bits .u64=64:=rfl;omega
 rw[e1,e2,e3];have e5:(2:Int) ^ (8 * i)=((256 ^ i:Nat):Int):=by rw[<-D3,Int.natCast_pow];rfl
 rw[e5,Ux _ (Lg _)];rfl
theorem mr(n:Nat):W .u8 (n:Int)=((n % 256:Nat):Int):=by
 have e:IntKind.signed .u8=false:=rfl;have e1:IntKind.bits .u8=8:=rfl;unfold W IntKind.wrap;simp only[e,e1,iZ,dw,dI];omega
section
variable {P:bu}{Z:Zs}{w:be}
theorem Sq(P:bu)(g o:Nat)(t:aO)(fz:Nat × Nat):∀(vs:List aR) (i:Nat) (cur:Array aR) (w:be),w.heap[g]? = aA (.cells cur t fz)->cur.size<=fz.1->o+i+vs.length<=cur.size->(∀v∈vs,v.oneCell'=aC) ->
  (storeCells ⟨g,o,aF⟩ vs i).run P w = .ok () (w.setRow g (cur.toList.take (o+i)++vs++cur.toList.drop (o+i+vs.length)).toArray)
 | [],i,cur,w,hg,_,_,_=>by
  simp only[storeCells,fh,fc,fL,lk,Lb];rw[setRow_self w g cur t fz hg];rfl
 |v::rest,i,cur,w,hg,hfz,hl,h1=>by
  have hi:o+i < cur.size:=by simp at hl;omega
  have hadd:(⟨g,o,aF⟩:Addr).add i=⟨g,o+i,aF⟩:=by unfold Addr.add;split<;>simp_all
  have hcell:w.cell? ⟨g,o+i,aF⟩=aA cur[o+i]:=by simp[World.cell?,hg,hi]
  have hfro:w.frozen? ⟨g,o+i,aF⟩=false:=by
   obtain⟨lo,hi'⟩:=fz;simp only[World.frozen?,hg,Bool.and_eq_false_iff,decide_eq_false_iff_not];left;simp only at hfz;omega
  have hst:(store ((⟨g,o,aF⟩:Addr).add i) v).run P w = .ok () (w.setRow g (cur.setIfInBounds (o+i) v)):=by
   rw[hadd,run_store P w _ v _ (h1 v (by simp)),hcell];simp[hfro,setCell_eq_setRow w g (o+i) cur t fz v hg]
  have ih:=Sq P g o t fz rest (i+1) (cur.setIfInBounds (o+i) v) (w.setRow g (cur.setIfInBounds (o+i) v)) (setRow_heap w g cur _ t _ hg) (by simpa using hfz) (by simp at hl |-;omega) (fun x hx=>h1 x (by simp[hx]));simp only[storeCells,Sem.run_bind,hst,Result.andThen_ok,ih,setRow_setRow];congr 3;have e:=list_seg_step cur.toList (o+i) v rest (by simp at hl |-;omega);simpa[Array.toList_setIfInBounds,jP]using e
theorem ago{g p:Nat}{us:Array aR}{t:aO}{fz:Nat × Nat}{vals:List aR}(hg:w.heap[g]? = aA (.cells us t fz))(hp:p+vals.length<=us.size) :
  (w.setRow g (us.toList.take p++vals++us.toList.drop (p+vals.length)).toArray).heap[g]? = aA (.cells (us.toList.take p++vals++us.toList.drop (p+vals.length)).toArray t fz) /\
  ∀o,(w.setRow g (us.toList.take p++vals++us.toList.drop (p+vals.length)).toArray).cell? ⟨g,o,aF⟩=if p<=o/\o < p+vals.length then vals[o - p]? else us[o]?:=by
 have hg':=setRow_heap w g us (us.toList.take p++vals++us.toList.drop (p+vals.length)).toArray t fz hg;refine⟨hg',fun o=>?_⟩;rw[gI hg'];have hto:(us.toList.take p).length=p:=by simp;omega
 simp only[Bt,cO]
 by_cases h1:o < p
 ·rw[aY (by omega),eK (by omega),lj,aU h1];simp
 ·rw[eO (by omega),hto]
  by_cases h2:o < p+vals.length
  ·rw[aU (by omega),eK (by omega)]
  ·rw[aY (by omega),eO (by omega),js];simp only[Bj];congr 1;omega
theorem IJ:∀{a b:List V} {x y:List Int},iv a=aA x->iv b=aA y->iv (a++b)=aA (x++y)
 | [],b,x,y,h,h2=>by cases h;exact h2
 |v::a,b,x,y,h,h2=>by
  cases v with
  |int k n =>
   cases k with
   |u8 =>
    simp only[iv,omi]at h;obtain⟨x',h1,rfl⟩:=h;simp only[ew,iv,IJ h1 h2,du]
   |_=>simp[iv]at h
  |_=>simp[iv]at h
structure Lx(P:bu)(f:bL)(st t e:aO):Prop where
 string:P.underlying st=aA .string
 row:P.underlying t=aA (.slice e)
 byte:P.underlying e=aA (.int .u8)
 one:P.cellsOf e=1
 walk:∀(b:ByteArray) (n L c:Nat) (A:Option Addr) (w w2:be) (r:aR),n<=b.size->b.size<=gv w b.size 0 e ->
  (∀ty o,o=n∨gv w b.size 0 e=n->(Builtin.copy_ #[t,t] ty #[.slice (aA ⟨w.heap.size,o,aF⟩) (b.size - n) (gv w b.size 0 e - n),.slice A L c]).run P (Lib.bytesWorld w e b) = .ok (goInt L) w2) ->
  (convert t st (.slice (aA ⟨w.heap.size,0,aF⟩) b.size (gv w b.size 0 e))).run P w2 = .ok r w2 ->
  Calls P f #[.string b,.int .i64 (n:Int),.slice A L c] w fun e w'=>e = .returned r/\w'=w2
theorem adr{f:bL}{st t e:aO}(W:Lx P f st t e):i5 P fun f' as0=>if f'=f then ye as0 else none:=by
 intro f' as0 r h bA Z w us hzin ha;simp only at h
 by_cases hf:f'=f
 rotate_left
 ·rw[aY hf]at h;cases h
 subst hf;rw[aU rfl]at h;unfold ye at h;split at h;rotate_left
 ·cases h
 rename_i s n l;split at h;rotate_left
 ·cases h
 rename_i hc;obtain⟨hn0,hnl⟩:=hc;simp only[omi]at h;obtain⟨ns,hns,rfl⟩:=h;obtain⟨hl,hv⟩:=ha
 match us,hl,hv with
 | [u0,u1,u2],hl,hv =>
 have h0:=hv 0 (.str s) u0 rfl rfl;have h1:=hv 1 (.int .i64 n) u1 rfl rfl;have h2:=hv 2 (.sl l) u2 rfl rfl;obtain⟨b,rfl,rfl⟩:=h0.strInv;cases h1;obtain⟨m,rfl⟩:∃m:Nat,n=(m:Int):=⟨n.toNat,by omega⟩
 rw[bi]at hnl |-
 have hbs:b.data.toList.length=b.size:=Fy;rw[hbs]at hnl;obtain⟨q1,q2⟩:=IK hns;obtain⟨w1,hw1⟩:∃w1,w1=Lib.bytesWorld w e b:=⟨_,rfl⟩
 have hz1:bO Z w Z w1:=by
  refine .of fun g o hz=>⟨hz,?_⟩
  rw[hw1];exact j7 (Lib.bytesWorld_at_old w e b g (hzin g o hz)) o
 have hsz1:w1.heap.size=w.heap.size+1:=by rw[hw1];exact Lib.bytesWorld_size w e b
 have hg1:w1.heap[w.heap.size]? = aA (.cells (Lib.bytesCells w e b) e ((Lib.bytesCells w e b).size,(Lib.bytesCells w e b).size+1)):=by rw[hw1];exact Lib.bytesWorld_at_new w e b
 have hcap:=grownCap_ge w b.size 0 e
 have hcs:(Lib.bytesCells w e b).size=gv w b.size 0 e:=by
  unfold Lib.bytesCells;simp only[Bl,Array.size_map,Array.size_replicate];have:b.data.size=b.size:=rfl;omega
 have s1:SR P Z w1 j0 []:=⟨fun id o h=>by simp at h,fun id id' o o' g h=>by simp at h,fun _ _=>rfl,fun g o hz=>by have:=hzin g o hz;omega⟩
 have h2':VR Z w1 j0 (.sl l) u2:=h2.mono hz1 (bE.refl _);have hpos:0 < P.cellsOf e:=by rw[W.one];decide
 have hall:∀y∈l,y.cells.length=P.cellsOf e:=by
  intro y hy;obtain⟨k,hk⟩:=y4 hy;have hkn:k < ns.length:=by rw[q1];exact(bX.1 hk).1
  have:=q2 k _ (cj hkn);rw[hk]at this;cases this;rw[W.one];rfl
 obtain⟨news,hA,hnr⟩:=F2 s1 (t:=t) (tx:=t) (x:=.sl l) (by simp[nc]) W.row hpos (xs:=l) rfl hall h2';obtain⟨i,hi,his,_⟩:=vg hpos;obtain⟨A,c,rfl,_⟩:=uU s1 (x:=.sl l) (xs:=l) rfl h2';have hlen:=hA.len w1;have hsize:=hA.size;rw[W.one]at hnr hsize;rw[mZ]at hsize;have hmin:Nat.min l.length (b.size - m)=l.length:=Nat.min_eq_left (by omega);have hfc:=hA.cells l.length w1 (c7 _) rfl;rw[<-his]at hfc;have his1:i.size=1:=by rw[his,W.one]
 have htk:news.take (l.length * i.size)=news:=sd (by rw[his1];omega);rw[htk]at hfc;have hpl:m+news.length<=(Lib.bytesCells w e b).size:=by omega
 have hone:∀v∈news,v.oneCell'=true:=hA.one;have hst:=Sq P w.heap.size m e _ news 0 _ w1 hg1 (c7 _) (by simpa using hpl) hone;simp only[fL]at hst;obtain⟨w2,hw2⟩:∃w2,w2=w1.setRow w.heap.size ((Lib.bytesCells w e b).toList.take m++news++(Lib.bytesCells w e b).toList.drop (m+news.length)).toArray:=⟨_,rfl⟩
 obtain⟨hg2,hcell⟩:=ago (w:=w1) (p:=m) (vals:=news) hg1 hpl;rw[<-hw2]at hg2 hcell hst
 have hcopy:∀ty o,o=m∨gv w b.size 0 e=m->(Builtin.copy_ #[t,t] ty #[.slice (aA ⟨w.heap.size,o,aF⟩) (b.size - m) (gv w b.size 0 e - m),.slice A l.length c]).run P w1 = .ok (goInt l.length) w2:=by
  intro ty o ho
  have:(Builtin.copy_ #[t,t] ty #[.slice (aA ⟨w.heap.size,o,aF⟩) (b.size - m) (gv w b.size 0 e - m),.slice A l.length c]).run P w1=((storeCells ⟨w.heap.size,o,aF⟩ news).run P w1).andThen fun _ w1=>.ok (goInt l.length) w1:=by
   simp[Builtin.copy_,dS W.row,hlen,sizeOf,gY,hi,hmin,hfc]
  rw[this];rcases ho with rfl|ho
  ·rw[hst];rfl
  ·have hn0:news=[]:=wx (by omega)
   have he:w2=w1:=by
    rw[hw2,hn0];simp only[fh,fc,fL,lk,Lb];exact setRow_self w1 w.heap.size _ e _ hg1
   rw[hn0,he];rfl
 have hot:∀k,k < w.heap.size->w2.heap[k]? = w.heap[k]?:=by
  intro k hk;rw[hw2,oP w1 w.heap.size k _ (by omega),hw1,Lib.bytesWorld_at_old w e b k hk]
 have hz2:bO Z w Z w2:=.of fun g o hz=>⟨hz,j7 (hot g (hzin g o hz)) o⟩
 obtain⟨l2,hl2⟩:∃l2,l2=(fA (b.data.toList.take m)++l)++fA (b.data.toList.drop (m+l.length)):=⟨_,rfl⟩
 have hl2n:iv l2=aA (((b.data.toList.take m).map (fun b=>(b.toNat:Int))++ns)++(b.data.toList.drop (m+l.length)).map (fun b=>(b.toNat:Int))):=by
  rw[hl2];exact IJ (IJ (DN _) hns) (DN _)
 have hl2l:l2.length=b.size:=by
  rw[hl2];simp only[eV,Ga,eC,fD,hbs];omega
 have htext:we P e l2=aA (.str (rk b.data.toList m (ns.map fun x=>UInt8.ofNat x.toNat))):=by
  unfold we;rw[W.byte];simp only;rw[hl2n,du,gA,gA,DO,DO];unfold rk;rw[d9,q1]
 have hbc:∀(k:Nat) (x:V),(fA b.data.toList)[k]? = aA x->∃z:Int,x=aB .u8 z/\(Lib.bytesCells w e b)[k]? = aA (Value.int .u8 z):=by
  intro k x hx;obtain⟨c',hc',rfl⟩:=Ck hx;refine⟨_,rfl,?_⟩;have bd:k < b.data.size:=by have:=(bX.1 hc').1;simpa using this
  unfold Lib.bytesCells;rw[K6 (by simpa using bd),Fw];have:b.data[k]? = aA c':=by rw[<-hc'];simp
  rw[this];rfl
 have hel:∀(k:Nat) (y:V),l2[k]? = aA y->∃z:Int,y=aB .u8 z/\w2.cell? ⟨w.heap.size,k,aF⟩=aA (Value.int .u8 z):=by
  intro k y hy;rw[hcell,hsize];have hto:(fA (b.data.toList.take m)).length=m:=by rw[Ga,eC,hbs];omega
  rw[hl2,cO]at hy
  by_cases k1:k < m
  ·rw[aY (by omega)];rw[eK (by omega)]at hy;apply hbc;rw[<-hy];unfold fA;rw[List.map_take,lj,aU k1]
  ·rw[eO (by omega),hto]at hy
   by_cases k2:k < m+l.length
   ·rw[aU (by omega)];rw[eK (by omega)]at hy;have hkn:k - m < ns.length:=by omega
    have:=q2 (k - m) _ (cj hkn);rw[hy]at this;cases this;obtain⟨_,u,hu,hvu⟩:=hnr (k - m) _ 0 _ hy rfl;rw[mZ,fL]at hu;cases hvu;exact⟨_,rfl,hu⟩
   ·rw[aY (by omega)];rw[eO (by omega)]at hy;apply hbc;rw[<-hy];unfold fA;rw[List.map_drop,js];congr 1;omega
 obtain⟨r,hr1,hr2⟩:=T1 (P:=P) (Z:=Z) (w:=w2) (j:=j0) (A:=aA ⟨w.heap.size,0,aF⟩) (c:=gv w b.size 0 e) W.row W.string htext (.inr ⟨w.heap.size,0,1,rfl,Nat.one_pos,fun k y hk=>by
  obtain⟨z,rfl,hz⟩:=hel k y hk;refine⟨rfl,fun i x hx=>?_⟩;cases i with
  |succ i=>simp[gT]at hx
  |zero =>
   simp[gT]at hx;subst hx;exact⟨rfl,_,by simpa using hz,.int⟩⟩)
 rw[hl2l]at hr1;refine(W.walk b m l.length c A w w2 r (by omega) hcap (by rw[<-hw1];exact hcopy) hr1).mono fun x w' hx=>?_
 obtain⟨rfl,rfl⟩:=hx;refine⟨r,Z,rfl,hr2,?_⟩;refine⟨?_,?_,?_,?_,fun g hg=>⟨hot g hg,fun _=>Iff.rfl⟩,fun g o hz=>?_,rfl,rfl⟩
 ·rw[hw2,hw1];rfl
 ·rw[hw2,hw1];rfl
 ·rw[hw2,hw1];rfl
 ·rw[hw2];simp;omega
 ·have:=hzin g o hz;rw[hw2];simp;omega
end
end Go.Lite
namespace Go.Lite
open Go Go.Sort
def iV(n:Int):V:=.int .i64 n
def intOf:V->Option Int
 |.int .i64 n=>aA n
 |_=>aF
def srt(l:List Int):List Int:=l.mergeSort fun x y=>decide (x<=y)
structure ahf(P:bu)(f:bL):Prop where
 srt:∀(blk off cap:Nat) (zs:List Int) (w:be),Holds (Value.int .i64) w blk off zs.toArray->blk < w.heap.size->zs.length < 4611686018427387904 ->
  Calls P f #[.slice (aA ⟨blk,off,aF⟩) zs.length cap] w fun e w'=>e = .returned (.tuple #[])/\∃n os,w'=grow (putRow (Value.int .i64) (Sort.ahead w n) blk off (zs.mergeSort fun x y=>decide (x<=y)).toArray) os
 none:∀(p:Option Addr) (cap:Nat) (w:be),Calls P f #[.slice p 0 cap] w fun e w'=>e = .returned (.tuple #[])/\w'=w
structure ahd(P:bu)(f:bL):Prop where
 cut:∀(blk off cap:Nat) (zs:List Int) (w:be),Holds (Value.int .i64) w blk off zs.toArray->zs.length<=9223372036854775807->zs.length<=cap ->
  Calls P f #[.slice (aA ⟨blk,off,aF⟩) zs.length cap] w fun e w'=>e = .returned (.slice (aA ⟨blk,off,aF⟩) (Lib.compact zs).length cap)/\∃q,w'=putRow (Value.int .i64) (Sort.ahead w q) blk off (Lib.compact zs++dh (zs.length - (Lib.compact zs).length) 0).toArray
 none:∀(p:Option Addr) (cap:Nat) (w:be),Calls P f #[.slice p 0 cap] w fun e w'=>e = .returned (.slice p 0 cap)/\w'=w
section
variable {P:bu}{Z:Zs}{w:be}{j:J}{mem:List O}
end
end Go.Lite
namespace Go.Lite
open Go
structure ahe(P:bu)(f:bL):Prop where
 cl:∀(b:Nat) (es:Array MapEntry) (clock:Nat) (w:be),w.heap[b]? = aA (.map es clock)->Calls P f #[.map (aA b)] w fun e w'=>e = .returned (.map (aA w.heap.size))/\w'=w.alloc (.map es clock)
end Go.Lite
namespace Go.Proofs.YtlphgcjepphhcaaGreat
open Go Go.Lite
def DY:V->Bool
 |.agg cs=>cs.length==6
 |_=>aD
def sF(l:List V):List (List V):=(l.zipIdx.map fun x=>[aB .i64 (x.2:Int),x.1]).reverse
def Cf:List V->Option (List (List V))
 | [.ref (.sl l) 0]=>if l.length<=16777216/\l.all DY=aC then aA (sF l) else aF
 |_=>aF
def vW(n from0:Int):List (List V):=(fK n.toNat).map fun k:Nat=>[aB .i64 ((from0+(k:Int)) % n)]
def AO:List V->Option (List (List V))
 | [.ref (.ref (.agg [_,.int .i64 n]) 0) 0,.ref (.int .i64 from0) 0]=>if 0<=n/\n<=16777216/\0<=from0/\from0<=16777216 then aA (vW n from0) else aF
 |_=>aF
def Jk(f:Nat):Option (List V->Option V):=if f=171 then aA (wZ 9 1) else if f=173 then aA (wZ 3 1) else if f=209 then aA ye else if f=158 then aA Cq else aF
def Ji(f:Nat):Option (List V->List O->Option (V × List O)) :=
 if f=212 then aA (tg 9 1) else if f=213 then aA (tg 3 1) else if f=170 then aA (qP 9) else if f=172 then aA (qP 3) else aF
def Jm(f:Nat):Option (List aO × (List V->Option (List (List V)))) :=
 if f=192 then aA ([3],AO) else if f=211 then aA ([3,176],Cf) else if f=210 then aA ([9,3],wV) else aF
def Rj:List Nat:=[42,57,96,26,55,56,60,61,65,66,67,91,92,93,94,95,99,100,103,104,107,109,111,142,143,151,153,202,54,53,22,25,20,27,169,82,78,58,119,84,127,44,50,137,131,180,174,90,89,75,43,87,46,34,85,132,123,124,81,79,128,32,39,33,40,21,24,112,15,28,31]
def ad0:List Nat:=[42,40,39,50,26,55,56,67,91,92,93,94,95,100,103,104,107,143,54,27,124,82,90,58,137,43,87,46,75,34,44,89]
def adY:List Nat:=[139,97,88,86,52,133,16,17,59,141,19,212,213,170,172,98,179,136,83,36,51,37,164,177,178,68,18]
def adX(f:Nat):Bool:=adY.contains f ||Rj.contains f
def aI:bS:={ P:=Tryz.prog,pure:=fun f=>!adX f,adopt:=fun f=>([117,171,173]:List Nat).contains f,pprim:=Jk,iprim:=Ji,seqp:=Jm,sqj:=fun f=>f==192,can:=fun f=>if f=85 then aA ⟨aC,aD,aC,[3,9]⟩ else if f=132 then aA ⟨aC,aD,aC,[3,9]⟩ else if f=96 then aA ⟨aC,aD,aC,[1000192]⟩ else if Rj.contains f then aA aX else if f=86 then aA ⟨aC,aD,aD,[]⟩ else if f=139 then aA ⟨aC,aD,aD,[]⟩ else aF,ro:=fun f=>ad0.contains f,rxf:=fun f d=>([(87,7000044),(87,7000013),(89,8000003),(123,8000090),(81,8000053),(56,7000013),(56,7000047),(107,8000003),(53,8000047),(53,8000080),(54,8000011),(57,8000003),(96,8000003),(109,2000119),(65,2000117),(108,2000049),(146,2000082),(106,2000059),(106,2000039),(108,7000008),(108,7000009),(12,8000061),(3,8000113),(85,2000032),(85,2000091),(85,2000018),(85,2000147),(85,2000158),(10,2000184),(10,2000128),(10,2000099)]:List (Nat × Nat)).contains (f,d) }
def Rk(f:Nat)(args:List V)(mem:List O)(k:V->List O->R):R :=
 cond (f==212) (Dl 9 1 args mem k) (cond (f==213) (Dl 3 1 args mem k) (cond (f==170) (CB 9 args mem k) (cond (f==172) (CB 3 args mem k) aF)))
def L0:List V->Option V
 | [.sl l]=>aA (.fn 211 [.ref (.sl l) 0])
 |_=>aF
def Dc(t:aO)(cs:List V):Option (List UInt8 × Int) :=
 if t=120 then (match cs with | [.sl _,.str h,.int .i64 n]=>aA (h,n)|_=>aF)
 else if t=150 then (match cs with | [.sl _,.sl _,.str h,.int .i64 n]=>aA (h,n)|_=>aF) else aF
def H4(t:aO)(cs:List V)(w:Bool)(g:List UInt8 × Int):Option V :=
 if t=120 then (match cs with | [.sl p,.str h,.int .i64 _]=>aA (.ifc 120 (.agg [.sl p,.str (cond w g.1 h),.int .i64 g.2]))|_=>aF)
 else if t=150 then (match cs with | [.sl s,.sl k,.str h,.int .i64 _]=>aA (.ifc 150 (.agg [.sl s,.sl k,.str (cond w g.1 h),.int .i64 g.2]))|_=>aF) else aF
def H6:List V->Option V
 | [.ifc t (.agg xs),.ifc t' (.agg gs),.bool w]=>(Dc t' gs).bind fun g=>H4 t xs w g
 |_=>aF
def Jl(f:Nat):Option (List V->Option V):=if f=166 then aA L0 else if f=125 then aA H6 else aF
def Oh:FA:=⟨0,0,[],[],.skip⟩
theorem iE{P:bu}{r:Nat->Bool}{f:Nat}(h:(il P r f).isSome=aC):il P r f=aA ((il P r f).getD Oh):=by
 cases hf:il P r f with
 |none=>rw[hf]at h;cases h
 |some x=>rfl
def yk:KC:={ cfg:=aI,frs:=fun _=>aC,ik:=Rk }
theorem pZ:iJ yk:=by
 refine⟨?_,fun _ _ _ _ _ _ h=>nomatch h⟩;intro f av mem k r h;rcases dl h with⟨e,h⟩|⟨_,h⟩
 ·have e:f=212:=by simpa using e
  subst e;obtain⟨v,m,h1,h2⟩:=Pm h;exact⟨v,m,Dh (cfg:=aI) (g:=tg 9 1) rfl h1,h2⟩
 rcases dl h with⟨e,h⟩|⟨_,h⟩
 ·have e:f=213:=by simpa using e
  subst e;obtain⟨v,m,h1,h2⟩:=Pm h;exact⟨v,m,Dh (cfg:=aI) (g:=tg 3 1) rfl h1,h2⟩
 rcases dl h with⟨e,h⟩|⟨_,h⟩
 ·have e:f=170:=by simpa using e
  subst e;obtain⟨v,m,h1,h2⟩:=ME h;exact⟨v,m,Dh (cfg:=aI) (g:=qP 9) rfl h1,h2⟩
 rcases dl h with⟨e,h⟩|⟨_,h⟩
 ·have e:f=172:=by simpa using e
  subst e;obtain⟨v,m,h1,h2⟩:=ME h;exact⟨v,m,Dh (cfg:=aI) (g:=qP 3) rfl h1,h2⟩
 cases h
def Oi:FA:=(il Tryz.prog (fun _=>aD) 166).getD ⟨0,0,[],[],.skip⟩
theorem ZM:il aI.P (aI.rxf 166) 166=aA Oi:=by kernel_rfl
theorem Zt(l:List V):nw yk aD Oi [.sl l] []=aA (.done (.fn 211 [.ref (.sl l) 0])):=by kernel_rfl
theorem U5(l:List V):bJ aI 166 [.sl l]=aA (.fn 211 [.ref (.sl l) 0]):=pX pZ rfl ZM (Zt l) (.refl _)
def zZ:FA:=(il Tryz.prog (fun _=>aD) 125).getD ⟨0,0,[],[],.skip⟩
theorem sY:il aI.P (aI.rxf 125) 125=aA zZ:=by kernel_rfl
theorem N1(p:List V)(h:List UInt8)(n:Int)(p':List V)(h':List UInt8)(n':Int)(w:Bool):nw yk aD zZ [.ifc 120 (.agg [.sl p,.str h,.int .i64 n]),.ifc 120 (.agg [.sl p',.str h',.int .i64 n']),.bool w] [] =
  cond w (aA (.done (.ifc 120 (.agg [.sl p,.str h',.int .i64 n'])))) (aA (.done (.ifc 120 (.agg [.sl p,.str h,.int .i64 n'])))):=by kernel_rfl
theorem N0(p:List V)(h:List UInt8)(n:Int)(s' k':List V)(h':List UInt8)(n':Int)(w:Bool):nw yk aD zZ [.ifc 120 (.agg [.sl p,.str h,.int .i64 n]),.ifc 150 (.agg [.sl s',.sl k',.str h',.int .i64 n']),.bool w] [] =
  cond w (aA (.done (.ifc 120 (.agg [.sl p,.str h',.int .i64 n'])))) (aA (.done (.ifc 120 (.agg [.sl p,.str h,.int .i64 n'])))):=by kernel_rfl
theorem NZ(s k:List V)(h:List UInt8)(n:Int)(p':List V)(h':List UInt8)(n':Int)(w:Bool):nw yk aD zZ [.ifc 150 (.agg [.sl s,.sl k,.str h,.int .i64 n]),.ifc 120 (.agg [.sl p',.str h',.int .i64 n']),.bool w] [] =
  cond w (aA (.done (.ifc 150 (.agg [.sl s,.sl k,.str h',.int .i64 n'])))) (aA (.done (.ifc 150 (.agg [.sl s,.sl k,.str h,.int .i64 n'])))):=by kernel_rfl
theorem NY(s k:List V)(h:List UInt8)(n:Int)(s' k':List V)(h':List UInt8)(n':Int)(w:Bool):nw yk aD zZ [.ifc 150 (.agg [.sl s,.sl k,.str h,.int .i64 n]),.ifc 150 (.agg [.sl s',.sl k',.str h',.int .i64 n']),.bool w] [] =
  cond w (aA (.done (.ifc 150 (.agg [.sl s,.sl k,.str h',.int .i64 n'])))) (aA (.done (.ifc 150 (.agg [.sl s,.sl k,.str h,.int .i64 n'])))):=by kernel_rfl
theorem aaN{t:aO}{cs:List V}{g:List UInt8 × Int}(h:Dc t cs=aA g):(t=120/\∃p,cs=[.sl p,.str g.1,.int .i64 g.2])∨(t=150/\∃s k,cs=[.sl s,.sl k,.str g.1,.int .i64 g.2]):=by
 unfold Dc at h;split at h
 ·rename_i e;split at h
  ·cases h;exact .inl ⟨e,_,rfl⟩
  ·cases h
 ·split at h
  ·rename_i e;split at h
   ·cases h;exact .inr ⟨e,_,_,rfl⟩
   ·cases h
  ·cases h
theorem aaK{t:aO}{cs:List V}{w:Bool}{g:List UInt8 × Int}{r:V}(h:H4 t cs w g=aA r):(t=120/\∃p h n,cs=[.sl p,.str h,.int .i64 n]/\r = .ifc 120 (.agg [.sl p,.str (cond w g.1 h),.int .i64 g.2])) ∨
  (t=150/\∃s k h n,cs=[.sl s,.sl k,.str h,.int .i64 n]/\r = .ifc 150 (.agg [.sl s,.sl k,.str (cond w g.1 h),.int .i64 g.2])):=by
 unfold H4 at h;split at h
 ·rename_i e;split at h
  ·cases h;exact .inl ⟨e,_,_,_,rfl,rfl⟩
  ·cases h
 ·split at h
  ·rename_i e;split at h
   ·cases h;exact .inr ⟨e,_,_,_,_,rfl,rfl⟩
   ·cases h
  ·cases h
theorem aaL{av:List V}{r:V}(h:H6 av=aA r):bJ aI 125 av=aA r:=by
 unfold H6 at h;split at h
 ·rename_i t xs t' gs w;cases hg:Dc t' gs with
  |none=>rw[hg]at h;cases h
  |some g =>
   rw[hg,bk]at h;rcases aaK h with⟨rfl,p,hh,n,rfl,rfl⟩|⟨rfl,s,k,hh,n,rfl,rfl⟩<;>rcases aaN hg with⟨rfl,p',rfl⟩|⟨rfl,s',k',rfl⟩
   ·cases w
    ·exact pX pZ rfl sY (N1 _ _ _ _ _ _ _) (.refl _)
    ·exact pX pZ rfl sY (N1 _ _ _ _ _ _ _) (.refl _)
   ·cases w
    ·exact pX pZ rfl sY (N0 _ _ _ _ _ _ _ _) (.refl _)
    ·exact pX pZ rfl sY (N0 _ _ _ _ _ _ _ _) (.refl _)
   ·cases w
    ·exact pX pZ rfl sY (NZ _ _ _ _ _ _ _ _) (.refl _)
    ·exact pX pZ rfl sY (NZ _ _ _ _ _ _ _ _) (.refl _)
   ·cases w
    ·exact pX pZ rfl sY (NY _ _ _ _ _ _ _ _ _) (.refl _)
    ·exact pX pZ rfl sY (NY _ _ _ _ _ _ _ _ _) (.refl _)
 ·cases h
theorem adZ{f:Nat}{g:List V->Option V}{av:List V}{r:V}(h:Jl f=aA g)(h2:g av=aA r):bJ aI f av=aA r:=by
 unfold Jl at h;split at h
 ·rename_i e;cases h;unfold L0 at h2;split at h2
  ·cases h2;rw[e];exact U5 _
  ·cases h2
 ·split at h
  ·rename_i e;cases h;rw[e];exact aaL h2
  ·cases h
def Rl:KC:={ cfg:=aI,frs:=fun _=>aC,ik:=Rk,pv:=Jl,pvok:=fun _ _ _ _ h h2=>adZ h h2 }
theorem adW:iJ Rl:=⟨pZ.ik,fun _ _ _ _ _ _ h=>nomatch h⟩
abbrev tm(r n:Int)(es:List (V × V))(b:List V):List O:=[aJ 128 (aH [aK 1 0 0,aB .i64 r]) aD,aJ 140 (aH [aK 2 0 0,V.mp 3]) aD,aJ 192 (aH [bC 4 0,aB .i64 n]) aC,O.map es,aM 5 b 0]
abbrev sm(n:Int)(es:List (V × V))(b:List V):List O:=[aJ 140 (aH [aK 1 0 0,V.mp 2]) aD,aJ 192 (aH [bC 3 0,aB .i64 n]) aC,O.map es,aM 5 b 0]
abbrev bm(n:Int)(b:List V):List O:=[aJ 192 (aH [bC 1 0,aB .i64 n]) aC,aM 5 b 0]
abbrev cm(f t l:List UInt8)(r n:Int)(es:List (V × V))(b:List V):List O:=[aJ 111 (aH [aE f,aE t,aE l]) aD,aJ 128 (aH [aK 2 0 0,aB .i64 r]) aD,aJ 140 (aH [aK 3 0 0,V.mp 4]) aD,aJ 192 (aH [bC 5 0,aB .i64 n]) aC,O.map es,aM 5 b 0]
abbrev mm(r k:Int)(f t l:List UInt8)(n:Int)(es:List (V × V))(b:List V):List O:=[aJ 128 (aH [aK 3 0 0,aB .i64 r]) aD,aJ 3 (aB .i64 k) aD,aJ 43 (V.fn 2069 [aK 4 0 0]) aD,aJ 140 (aH [aK 5 0 0,V.mp 6]) aD,aJ 111 (aH [aE f,aE t,aE l]) aD,aJ 192 (aH [bC 7 0,aB .i64 n]) aC,O.map es,aM 5 b 0]
abbrev rm(r:Int)(l b:List V):List O:=[aJ 91 (aH [aK 1 0 0,aB .i64 r]) aD,aJ 102 (aH [aK 2 0 0,bC 3 0]) aD,aJ 159 (aH [bC 4 0]) aD,aM 9 l 0,aM 4 b 0]
abbrev rs(l b:List V):List O:=[aJ 102 (aH [aK 1 0 0,bC 2 0]) aD,aJ 159 (aH [bC 3 0]) aD,aM 9 l 0,aM 4 b 0]
abbrev rb(b:List V):List O:=[aJ 159 (aH [bC 1 0]) aD,aM 4 b 0]
end Go.Proofs.YtlphgcjepphhcaaGreat
