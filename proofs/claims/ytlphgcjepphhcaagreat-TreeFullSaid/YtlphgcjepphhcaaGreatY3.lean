/-
  Texts that the last one stands on.
-/
import Derived.Test.YtlphgcjepphhcaaGreatY2
open List renaming getElem?_append_left->db,getElem?_append_right->cY,getElem?_cons_zero->Hf,getD_eq_getElem?_getD->yl,mem_flatMap->gK,mem_cons->bP,getElem?_eq_none->vS,all_eq_true->di,mem_range->yp,mem_zipIdx_iff_getElem?->ON,getElem?_eq_some_iff->bj,getElem?_eq_getElem->bC,mem_filter->mD,getElem_of_mem->jR,mem_of_getElem?->cG,mem_append->bp,mem_filterMap->tL,flatMap_cons->iD,mem_singleton->eZ,ext_getElem?->tK,eq_nil_iff_forall_not_mem->OL,getElem?_set_self->fj,getElem?_set_ne->fE,length_set->nZ,any_eq_false->tI,getElem?_map->dB,nodup_append->yq,drop_zero->pu,drop_eq_getElem_cons->rl,append_nil->dA,append_eq_nil_iff->po,map_cons->dj,replicate->bE,length_replicate->vV,nodup_cons->tN
open Nat renaming le_refl->bG,sub_self->iX,add_zero->dK,lt_or_ge->jV,add_assoc->gT,add_comm->py,le_trans->lD,lt_of_lt_of_le->n6,lt_trichotomy->vY,eq_zero_or_pos->yv,blt_eq->mG,zero_le->iE,zero_add->dZ,blt->gL,le_max_left->tT,le_max_right->tU
open Option renaming getD_some->tV,bind_some->aJ,isNone_iff_eq_none->BQ,map_some->cg
open Bool renaming and_eq_true->bv,not_true->bR,false_or->iU,false_and->mr,false_eq_true->cK,true_and->dI,and_false->lB,not_eq_true'->iC,or_eq_false_iff->re,or_eq_true->mTz,or_false->rh,true_or->tF,and_self->nS,not_false->jq
open Array renaming getElem?_eq_some_iff->eX,getElem?_setIfInBounds_ne->G1,getElem?_eq_getElem->eW,getD_eq_getD_getElem?->gG,getElem?_setIfInBounds->BA,replicate->BD,mapM_eq_mapM_toList->OG
namespace Go.Lite
open Go Go.MapKept
section
variable {P:Program} {Z Z':Zs} {w w':World} {j j':J} {mem mem':List O}
theorem HI:∀(l:List Oper) (acc:List (List Nat)),(iG l acc).length=acc.length+l.length/\(∀k,k < acc.length->(iG l acc)[k]? = acc[k]?) /\
  ∀(m:Nat) (o:Oper),l[m]? = some o->∀i,i∈(iG l acc).getD (acc.length+m) []->∃e∈o.after,Region.binds .any e=true/\(i=e.on∨(e.on < acc.length+m/\i∈(iG l acc).getD e.on [])):=by
 intro l
 induction l with
 | nil=>intro acc;exact ⟨rfl,fun _ _=>rfl,fun m o h=>by simp at h⟩
 | cons o l ih =>
  intro acc
  simp only [iG]
  obtain ⟨h1,h2,h3⟩:=ih (acc++[(o.after.toList.flatMap fun e=>if Region.binds .any e then e.on::acc.getD e.on [] else []).eraseDups])
  refine ⟨by rw [h1];simp;omega,fun k hk=>by rw [h2 k (by simp;omega),db hk],fun m q hq i hi=>?_⟩
  cases m with
  | zero =>
   simp at hq
   subst hq
   have e0:=h2 acc.length (by simp)
   rw [cY (bG _)] at e0
   simp only [iX,Hf] at e0
   rw [dK,yl,e0] at hi
   simp only [tV,List.mem_eraseDups,gK] at hi
   obtain ⟨e,he,hi⟩:=hi
   split at hi
   ·rename_i hb
    refine ⟨e,by simpa using he,hb,?_⟩
    simp only [bP] at hi
    rcases hi with rfl | hi
    ·exact .inl rfl
    ·right
     have aC:e.on < acc.length:=by
      rcases jV e.on acc.length with h | h
      ·exact h
      ·rw [yl,vS h] at hi;simp at hi
     refine ⟨by omega,?_⟩
     rw [yl,h2 _ (by simp;omega),db aC,<-yl]
     exact hi
   ·simp at hi
  | succ m =>
   have:=h3 m q (by simpa using hq) i (by simpa [gT,py 1 m] using hi)
   simpa [gT,py 1 m] using this
def tG (ops:Array Oper) (D:Nat->Bool):Prop:=∀k o,ops[k]? = some o->D k=true->∀e∈o.after,Region.binds .any e=true->D e.on=true
theorem wF {ops:Array Oper} {D:Nat->Bool} (hc:tG ops D):∀(k:Nat) (o:Oper),ops[k]? = some o->(∀e∈o.after,Region.binds .any e=true->D e.on=true)->∀i,i∈(iG ops.toList []).getD k []->D i=true:=by
 intro k
 induction k using Nat.strongRecOn with
 | _ k ih =>
  intro o ho hall i hi
  have:=(HI ops.toList []).2.2 k o (by simpa using ho) i (by simpa using hi)
  obtain ⟨e,he,hb,h⟩:=this
  rcases h with rfl | ⟨aC,h⟩
  ·exact hall e he hb
  ·simp at aC
   have hD:=hall e he hb
   cases hoe:ops[e.on]? with
   | none =>
    have hlen:=(HI ops.toList []).1
    have:ops.size<=e.on:=by simpa using hoe
    rw [yl,vS (by rw [hlen];simpa using this)] at h
    simp at h
   | some oe=>exact ih e.on aC oe hoe (hc e.on oe hoe hD) i h
theorem QQ {ops:Array Oper} {l:List aF} (h:wM ops l=true):(∀k o,ops[k]? = some o->∀e∈o.after,Region.binds .any e=true->e.on < k) /\
  ∀i k oi ok,i < k->l[i]? = some oi->l[k]? = some ok->gW oi ok=true->i∈(iG ops.toList []).getD k []:=by
 simp only [wM,bv,di,yp] at h
 obtain ⟨⟨_,h1⟩,h2⟩:=h
 refine ⟨fun k o ho e he hb=>?_,fun i k oi ok hik hi hk hc=>?_⟩
 ·have:=h1 (o,k) (by rw [ON];simpa using ho) e (by simpa using he)
  simpa [hb] using this
 ·have hkl:k < l.length:=(bj.1 hk).1
  have:=h2 k hkl i hik
  simp only [hi,hk,hc,bR,iU] at this
  simpa using this
def ki (l:List aF) (k:Nat):Option Nat:=(l[k]?).bind (·.dst)
def fh (l:List aF) (k:Nat):Bool:=match l[k]? with | some o=>cN o | none=>false
def EL (e0:List V) (l:List aF) (vs:Nat->V) (D:Nat->Bool):Nat->List V
 | 0=>e0
 | k+1=>if D k then dM (EL e0 l vs D k) (ki l k) (vs k) else EL e0 l vs D k
def ML (l:List aF) (st:Nat->S) (D:Nat->Bool):Nat->List O
 | 0=>(st 0).mem
 | k+1=>if D k && fh l k then (st (k+1)).mem else ML l st D k
theorem ND (e:List V) (d:Option Nat) (v:V):(dM e d v).length=e.length:=by cases d<;>simp [dM]
theorem tH (e0:List V) (l:List aF) (vs:Nat->V) (D:Nat->Bool) (n:Nat):(EL e0 l vs D n).length=e0.length:=by
 induction n with
 | zero=>rfl
 | succ n ih=>simp only [EL];split<;>simp [ND,ih]
theorem vv {e:List V} {d:Option Nat} {v:V} {t:Nat}:(dM e d v)[t]? = if d=some t then (if t < e.length then some v else none) else e[t]?:=by
 cases d with
 | none=>simp [dM]
 | some d =>
  simp only [dM,Option.some.injEq]
  rw [List.getElem?_set]
  by_cases h:d=t
  ·subst h;rfl
  ·rw [if_neg h,if_neg h]
theorem pk {e0:List V} {l:List aF} {vs:Nat->V} {D D':Nat->Bool} {t:Nat}:∀n,(∀k,k < n->ki l k=some t->D k=D' k)->(EL e0 l vs D n)[t]? = (EL e0 l vs D' n)[t]?:=by
 intro n
 induction n with
 | zero=>intro _;rfl
 | succ n ih =>
  intro h
  have ih':=ih fun k hk=>h k (by omega)
  have e:∀D,(EL e0 l vs D (n+1))[t]? = if D n=true/\ki l n=some t then (if t < e0.length then some (vs n) else none) else (EL e0 l vs D n)[t]?:=by
   intro D
   simp only [EL]
   by_cases hD:D n=true
   ·rw [if_pos hD,vv,tH]
    by_cases hd:ki l n=some t
    ·have h2:D n=true/\ki l n=some t:=⟨hD,hd⟩
     rw [if_pos hd,if_pos h2]
    ·rw [if_neg hd,if_neg fun h=>hd h.2]
   ·rw [if_neg hD,if_neg fun h=>hD h.1]
  rw [e,e]
  by_cases hd:ki l n=some t
  ·rw [h n (by omega) hd,ih']
  ·rw [if_neg fun h=>hd h.2,if_neg fun h=>hd h.2,ih']
theorem yr {l:List aF} {st:Nat->S} {D D':Nat->Bool}:∀n,(∀k,k < n->fh l k=true->D k=D' k)->ML l st D n=ML l st D' n:=by
 intro n
 induction n with
 | zero=>intro _;rfl
 | succ n ih =>
  intro h
  simp only [ML]
  rw [ih fun k hk=>h k (by omega)]
  by_cases hw:fh l n=true
  ·rw [h n (by omega) hw]
  ·simp only [Bool.not_eq_true] at hw
   simp [hw]
theorem yi {e0:List V} {l:List aF} {vs:Nat->V} (m:Nat):∀n,m<=n->EL e0 l vs (fun k=>decide (k < m)) n=EL e0 l vs (fun _=>true) m:=by
 intro n
 induction n with
 | zero=>intro h;have:m=0:=by omega
         subst this;rfl
 | succ n ih =>
  intro h
  by_cases hm:m=n+1
  ·subst hm
   have:∀p,p<=n+1->EL e0 l vs (fun k=>decide (k < n+1)) p=EL e0 l vs (fun _=>true) p:=by
    intro p
    induction p with
    | zero=>intro _;rfl
    | succ p ihp=>intro hp;simp only [EL];rw [ihp (by omega),if_pos (by simp;omega)];rfl
   exact this _ (bG _)
  ·simp only [EL]
   rw [if_neg (by simp;omega)]
   exact ih (by omega)
theorem Hp {l:List aF} {st:Nat->S} (m:Nat):∀n,m<=n->ML l st (fun k=>decide (k < m)) n=ML l st (fun _=>true) m:=by
 intro n
 induction n with
 | zero=>intro h;have:m=0:=by omega
         subst this;rfl
 | succ n ih =>
  intro h
  by_cases hm:m=n+1
  ·subst hm
   have:∀p,p<=n+1->ML l st (fun k=>decide (k < n+1)) p=ML l st (fun _=>true) p:=by
    intro p
    induction p with
    | zero=>intro _;rfl
    | succ p ihp=>intro hp;simp only [ML];rw [ihp (by omega)];simp [show p < n+1 by omega]
   exact this _ (bG _)
  ·simp only [ML]
   have:decide (n < m)=false:=by simp;omega
   simp only [this,mr,cK,if_false]
   exact ih (by omega)
theorem xX {cfg:bi} {call:b9} {o:aF} {s s':S} {v:V} (h:i4 cfg call o s v s'):s'.env=dM s.env o.dst v:=by
 rcases h with ⟨_,_,h⟩ | ⟨_,_,_,h⟩<;>exact h
theorem Gy {cfg:bi} {call:b9} {o:aF} {s s':S} {v:V} (h:i4 cfg call o s v s') (hw:cN o=false):s'.mem=s.mem:=by
 rcases h with ⟨_,h,_⟩ | ⟨_,_,h,_⟩
 ·exact EJ hw h
 ·exact h
theorem my {cfg:bi} {call:b9} {l:List aF} {vs:Nat->V} {st:Nat->S} (htr:∀(k:Nat) (o:aF),l[k]? = some o->i4 cfg call o (st k) (vs k) (st (k+1))):∀m,m<=l.length->EL (st 0).env l vs (fun _=>true) m=(st m).env/\ML l st (fun _=>true) m=(st m).mem:=by
 intro m
 induction m with
 | zero=>intro _;exact ⟨rfl,rfl⟩
 | succ m ih =>
  intro hm
  obtain ⟨h1,h2⟩:=ih (by omega)
  have ho:l[m]? = some (l[m]'(by omega)):=bC (by omega)
  have hs:=htr m _ ho
  refine ⟨?_,?_⟩
  ·simp only [EL,if_true,h1,xX hs,ki,ho,aJ]
  ·simp only [ML,dI,h2,fh,ho]
   split
   ·rfl
   ·rename_i hw
    exact (Gy hs (by simpa using hw)).symm
theorem Ma {ops:Array Oper} {l:List aF} (hl:lE ops ops.toList l) {k:Nat} {o:Oper} (ho:ops[k]? = some o):∃q,l[k]? = some q/\Ht ops o q:=by
 have hk:k < l.length:=by rw [hl.1];simpa using (eX.1 ho).1
 exact ⟨l[k],bC hk,hl.2 k o _ (by simpa using ho) (bC hk)⟩
def ld (o:aF):Bool:=il o || hJ o
theorem pi {o:aF} (h:cN o=true):il o=false:=by
 unfold cN at h
 unfold il
 rw [bv] at h
 have h2:=h.2
 cases hop:o.op<;>first | (simp [uN];done) | (rw [hop] at h2;simp [iT,ej] at h2)
theorem nP {o:aF} (h:cN o=true):hJ o=false:=by
 unfold cN at h
 unfold hJ
 rw [bv] at h
 have h2:=h.2
 cases hop:o.op<;>first | (simp [o4];done) | (rw [hop] at h2;simp [iT,ej] at h2;done) | skip
 rename_i c
 rw [hop] at h2
 cases hc:c.callee<;>simp only [o4,hc,lB]
 rename_i b
 cases b<;>simp [iT,ej,hc] at h2 |-
theorem By {o:aF} (h:cN o=true):ld o=false:=by unfold ld;rw [pi h,nP h];rfl
theorem B8 {o:aF} (h:il o=true):hJ o=false:=by
 unfold il at h
 unfold hJ
 simp only [bv,iC] at h
 rw [h.1.2];simp
theorem K9 {o:aF} (h:hJ o=true):il o=false:=by
 cases hb:il o with
 | false=>rfl
 | true=>rw [B8 hb] at h;cases h
theorem Y6 {a b:aF} (hw:cN a=true) (hn:ld b=false):iA a b=false:=by
 unfold ld at hn
 rw [re] at hn
 unfold iA
 rw [pi hw,nP hw,hn.1,hn.2];simp
theorem Y7 {a b:aF} (hw:cN b=true) (hn:ld a=false):iA a b=false:=by
 unfold ld at hn
 rw [re] at hn
 unfold iA
 rw [pi hw,nP hw,hn.1,hn.2];simp
def jY (l:List aF) (k m d T:Nat):Prop:=(∃ty sq,l[k]? = some ⟨some d,.alloc T,ty,none,true,sq,false⟩)/\∃x ty sq,l[m]? = some ⟨some d,.box T x,ty,none,true,sq,false⟩
theorem Oy {l:List aF} {d:Nat}:∀i,i∈writers l d↔∃q,l[i]? = some q/\q.dst=some d:=by
 intro i
 unfold writers
 simp only [mD,yp,beq_iff_eq,obi]
 constructor
 ·rintro ⟨_,q,h1,h2⟩;exact ⟨q,h1,h2⟩
 ·rintro ⟨q,h1,h2⟩;exact ⟨(bj.1 h1).1,q,h1,h2⟩
theorem KG {l:List aF} (h:xh l=true) {m:Nat} {dst:Option Nat} {T:Nat} {x:Operand} {ty:Nat} {g:Option (Nat × Bool)} {sq rx:Bool} (hm:l[m]? = some ⟨dst,.box T x,ty,g,true,sq,rx⟩) :
  ∃k d,dst=some d/\g=none/\rx=false/\jY l k m d T/\k < m/\∀i q,l[i]? = some q->q.dst=some d->i=k∨i=m:=by
 unfold xh at h
 have h:=di.1 h m (yp.2 (bj.1 hm).1)
 rw [hm] at h
 cases dst with
 | none=>simp at h
 | some d =>
  simp only [bv,BQ,iC] at h
  obtain ⟨⟨rfl,rfl⟩,h⟩:=h
  have hsort:(writers l d).Pairwise (· < ·):=List.Pairwise.filter _ List.pairwise_lt_range
  split at h
  rotate_left
  ·cases h
  rename_i k m' hw
  simp only [bv,beq_iff_eq] at h
  obtain ⟨rfl,h⟩:=h
  rw [hw] at hsort
  have hkm:k < m':=by simpa using hsort
  have hmem:∀i q,l[i]? = some q->q.dst=some d->i=k∨i=m':=fun i q h1 h2=>by
   have:=(Oy (l:=l) (d:=d) i).2 ⟨q,h1,h2⟩
   rw [hw] at this
   simpa using this
  obtain ⟨qk,hqk,hdk⟩:=(Oy (l:=l) (d:=d) k).1 (by rw [hw];simp)
  rw [hqk] at h
  obtain ⟨dst',op',ty',g',bx',sq',rx'⟩:=qk
  simp only at hdk
  subst hdk
  cases op'<;>simp only at h<;>first | (cases h;done) | skip
  simp only [bv,beq_iff_eq,BQ,iC] at h
  obtain ⟨⟨⟨rfl,rfl⟩,rfl⟩,rfl⟩:=h
  exact ⟨k,d,rfl,rfl,rfl,⟨⟨_,_,hqk⟩,_,_,_,hm⟩,hkm,hmem⟩
theorem jY.writers {l:List aF} (h:xh l=true) {k m d T:Nat} (hp:jY l k m d T):k < m/\∀i q,l[i]? = some q->q.dst=some d->i=k∨i=m:=by
 obtain ⟨⟨ty,sq,hk⟩,x,ty',sq',hm⟩:=hp
 obtain ⟨k',d',e1,_,_,_,hkm,hu⟩:=KG h hm
 cases e1
 rcases hu k _ hk rfl with rfl | rfl
 ·exact ⟨hkm,hu⟩
 ·rw [hk] at hm;cases hm
def fQ (P:Program) (n0:Nat) (Z:Zs) (w:World) (j:J) (mem:List O) (a:Act) (d T g:Nat):Prop :=
 ∃us,a.tmps[d]? = some (.pointer (some ⟨g,0,none⟩))/\n0<=g/\w.heap[g]? = some (.cells us T (0,0))/\us.size=P.cellsOf T/\¬bd Z j mem g/\∀o,¬Z g o
def v6 (P:Program) (l:List aF) (n0:Nat) (Z:Zs) (w:World) (j:J) (mem:List O) (a:Act) (D:Nat->Bool):Prop :=
 (∀k m d T,jY l k m d T->D k=true->D m=false->∃g,fQ P n0 Z w j mem a d T g) /\
 ∀k m d T k' m' d' T' g,jY l k m d T->D k=true->D m=false->jY l k' m' d' T'->D k'=true->D m'=false->d≠d'->fQ P n0 Z w j mem a d T g->¬fQ P n0 Z w j mem a d' T' g
theorem fQ.step {n0:Nat} {a:Act} {d T g:Nat} (h:fQ P n0 Z w j mem a d T g) (st:aI Z w j mem Z' w' j' mem') {a':Act} (ha:a'.tmps[d]? = a.tmps[d]?):fQ P n0 Z' w' j' mem' a' d T g:=by
 obtain ⟨us,h1,h2,h3,h4,h5,h6⟩:=h
 have aC:=(eX.1 h3).1
 obtain ⟨k1,k2⟩:=st.keep g aC h5
 exact ⟨us,ha.trans h1,h2,k1.trans h3,h4,fun ho=>h5 (st.owned g aC ho),fun o ho=>h6 o ((k2 o).1 ho)⟩
theorem fQ.same {n0:Nat} {a a':Act} {d T g g':Nat} {w2:World} {Z2:Zs} {j2:J} {mem2:List O} (h:fQ P n0 Z w j mem a d T g) (ha:a'.tmps[d]? = a.tmps[d]?) {T':Nat} (h':fQ P n0 Z2 w2 j2 mem2 a' d T' g'):g'=g:=by
 obtain ⟨us,h1,_⟩:=h
 obtain ⟨us',h1',_⟩:=h'
 rw [ha,h1] at h1'
 cases h1'
 rfl
theorem E9 {a:Act} {dst:Option Nat} {d:Nat} (h:dst≠some d) (u:Value):(a.put dst u).tmps[d]? = a.tmps[d]?:=by
 cases dst with
 | none=>rfl
 | some e =>
  show (a.tmps.setIfInBounds e u)[d]? = _
  exact G1 fun h'=>h (by rw [h'])
theorem v6.step {l:List aF} {n0:Nat} {a a':Act} {D D':Nat->Bool} (h:v6 P l n0 Z w j mem a D) (st:aI Z w j mem Z' w' j' mem')
  (hD:∀k m d T,jY l k m d T->D' k=true->D' m=false->D k=true/\D m=false/\a'.tmps[d]? = a.tmps[d]?):v6 P l n0 Z' w' j' mem' a' D':=by
 refine ⟨fun k m d T hp h1 h2=>?_,fun k m d T k' m' d' T' g hp h1 h2 hp' h1' h2' hne hf hf'=>?_⟩
 ·obtain ⟨e1,e2,e3⟩:=hD k m d T hp h1 h2
  obtain ⟨g,hg⟩:=h.1 k m d T hp e1 e2
  exact ⟨g,hg.step st e3⟩
 ·obtain ⟨e1,e2,e3⟩:=hD k m d T hp h1 h2
  obtain ⟨f1,f2,f3⟩:=hD k' m' d' T' hp' h1' h2'
  obtain ⟨g1,hg1⟩:=h.1 k m d T hp e1 e2
  obtain ⟨g2,hg2⟩:=h.1 k' m' d' T' hp' f1 f2
  have q1:=fQ.same hg1 e3 hf
  have q2:=fQ.same hg2 f3 hf'
  subst q1
  subst q2
  exact h.2 k m d T k' m' d' T' _ hp e1 e2 hp' f1 f2 hne hg1 hg2
theorem U5 (s:SR P Z w j mem) {g T:Nat} {us:Array Value} {v:V} {u:Value} (hg:w.heap[g]? = some (.cells us T (0,0))) (hus:us.size=P.cellsOf T) (hno:¬bd Z j mem g) (hnz:∀o,¬Z g o)
  (hl:v.cells.length=P.cellsOf T) (ho:v.cells.all V.one=true) (hpos:0 < P.cellsOf T) (hv:VR Z w j v u) :
  ∃w2 j2,(Instr.storeAt T (.pointer (some ⟨g,0,none⟩)) u).run P w = .ok () w2/\SR P Z w2 j2 (newBox P mem T v).2/\VR Z w2 j2 (newBox P mem T v).1 (.pointer (some ⟨g,0,none⟩))/\aQ j j2/\be Z w Z w2 /\
   (∀g',g'≠g->w2.heap[g']? = w.heap[g']?)/\w2.heap.size=w.heap.size/\w2.os=w.os/\w2.tape=w.tape/\w2.output=w.output/\(∀g',g' < w.heap.size->bd Z j2 (newBox P mem T v).2 g'->bd Z j mem g'∨g'=g):=by
 have fin:∀(v':V) (m':List O) (j':J),ol P mem T v=(v',m')->SR P Z w j' m'->aI Z w j mem Z w j' m'->aQ j j'->v'.cells.length=P.cellsOf T->v'.cells.all V.one=true->VR Z w j' v' u ->
   ∃w2 j2,(Instr.storeAt T (.pointer (some ⟨g,0,none⟩)) u).run P w = .ok () w2/\SR P Z w2 j2 (newBox P mem T v).2/\VR Z w2 j2 (newBox P mem T v).1 (.pointer (some ⟨g,0,none⟩))/\aQ j j2/\be Z w Z w2 /\
   (∀g',g'≠g->w2.heap[g']? = w.heap[g']?)/\w2.heap.size=w.heap.size/\w2.os=w.os/\w2.tape=w.tape/\w2.output=w.output/\(∀g',g' < w.heap.size->bd Z j2 (newBox P mem T v).2 g'->bd Z j mem g'∨g'=g):=by
  intro v' m' j' e s' stp je hl' ho' hv'
  obtain ⟨hcs,hcl⟩:=hv'.cellsOf (nA ho')
  have hu1:∀c∈u.cells.toList,c.oneCell'=true:=by
   intro c hcm
   obtain ⟨i,hi,rfl⟩:=jR hcm
   have hi':i < v'.cells.length:=by simp at hi;omega
   obtain ⟨c',hc',hvr⟩:=hcl i _ (bC hi')
   have:u.cells.toList[i]=c':=by
    have:u.cells[i]? = some u.cells.toList[i]:=by simp at hi |-
    rw [this] at hc'
    exact Option.some.inj hc'
   rw [this]
   exact hvr.oneCell (nA ho' _ (cG (bC hi')))
  have hul:u.cells.toList.length=P.cellsOf T:=by simp;omega
  obtain ⟨q1,q2,q3⟩:=xZ (w:=w) (p:=0) (vals:=u.cells.toList) hg (by omega)
  obtain ⟨w2,hw2⟩:∃w2,w2=w.setRow g (us.toList.take 0++u.cells.toList++us.toList.drop (0+u.cells.toList.length)).toArray:=⟨_,rfl⟩
  have hot:∀k,k≠g->w2.heap[k]? = w.heap[k]?:=fun k hk=>by rw [hw2];exact setRow_other w g k _ hk
  have hrun:=FC (P:=P) (p:=0) (t:=T) (u:=u) hg (by simpa using hul) hpos hu1 (by omega)
  rw [<-hw2] at q1 q3 hrun
  have hz:be Z w Z w2:=.of fun g' o hz=>⟨hz,gC (hot g' fun e=>hnz o (e ▸ hz)) o⟩
  have aC:g < w.heap.size:=(eX.1 hg).1
  have hno':¬bd Z j' m' g:=fun ho=>hno (stp.owned g aC ho)
  have s2:SR P Z w2 j' m':=s'.world hz (fun g' hg'=>⟨hot g' fun e=>hno' (e ▸ hg'),fun _=>Iff.rfl⟩) (fun g' o ho=>by rw [hw2];simpa using s'.zin g' o ho)
  have s3:=s2.add (h:=⟨.pointer (some ⟨g,0,none⟩),P.cellsOf T⟩) (o:=.box T v' false) (fun g' hg'=>by simp [bz.blk] at hg';subst hg';exact hno')
   ⟨g,_,eU _ _ _,q1,hl',by rw [q2];exact hus,fun i y hy=>by
    obtain ⟨c,hc,hvr⟩:=hcl i y hy
    have hi:i < v'.cells.length:=(bj.1 hy).1
    refine ⟨nA ho' y (cG hy),c,?_,hvr.mono hz (s'.ext _)⟩
    rw [q3,if_pos (by omega)]
    simpa using hc,fun o ho=>(hnz o ho).elim,fun h=>by cases h⟩
  refine ⟨w2,dz j' m'.length ⟨.pointer (some ⟨g,0,none⟩),P.cellsOf T⟩,hrun,?_,?_,je.trans (s'.ext _),hz,hot,by rw [hw2];simp,by rw [hw2];rfl,by rw [hw2];rfl,by rw [hw2];rfl,fun g' hg' ho=>?_⟩
  ·unfold newBox;rw [e];exact s3
  ·unfold newBox;rw [e]
   have:=VR.ptr (Z:=Z) (w:=w2) (j:=dz j' m'.length ⟨.pointer (some ⟨g,0,none⟩),P.cellsOf T⟩) (id:=m'.length) (k:=0) (off:=0) (g:=g) (b:=0) (eU _ _ _) rfl
   simpa using this
  ·unfold newBox at ho;rw [e] at ho
   rcases bd.add ho with ho | ho
   ·exact .inl (stp.owned g' hg' ho)
   ·simp [bz.blk] at ho;exact .inr ho.symm
 have qQ:(∀cs,v≠.agg cs)->∃w2 j2,(Instr.storeAt T (.pointer (some ⟨g,0,none⟩)) u).run P w = .ok () w2/\SR P Z w2 j2 (newBox P mem T v).2/\VR Z w2 j2 (newBox P mem T v).1 (.pointer (some ⟨g,0,none⟩))/\aQ j j2/\be Z w Z w2 /\
   (∀g',g'≠g->w2.heap[g']? = w.heap[g']?)/\w2.heap.size=w.heap.size/\w2.os=w.os/\w2.tape=w.tape/\w2.output=w.output/\(∀g',g' < w.heap.size->bd Z j2 (newBox P mem T v).2 g'->bd Z j mem g'∨g'=g):=by
  intro hna
  obtain ⟨j',a1,a2,a3,a4,a5,a6⟩:=y4 (P:=P) (mQ P T) [v] [u] mem j s rfl (fun i x z hx hz=>by
   cases i with
   | zero=>simp at hx hz;subst hx hz;exact hv
   | succ i=>simp at hx)
  have hc1:v.cells=[v]:=by cases v<;>first | rfl | exact (hna _ rfl).elim
  have h1:v.one=true:=by rw [hc1] at ho;simpa using ho
  match hb:boxed P (mQ P T) [v] mem,a1,a2,a4,a5,a6 with
  |([x],m),a1,a2,a4,a5,a6 =>
   have hx1:x.one=true:=a6 (fun y hy=>by simp at hy;subst hy;exact h1) x (by simp)
   have hxc:=jw hx1
   refine fin x m j' ?_ a1 a2 a3 (by rw [hxc];rw [hc1] at hl;exact hl) (by rw [hxc];simp [hx1]) (a5 0 x u rfl rfl)
   unfold ol
   cases v<;>first | exact (hna _ rfl).elim | (simp only [hb])
  |([],m),a1,a2,a4,a5,a6=>simp at a4
  |(_::_::_,m),a1,a2,a4,a5,a6=>simp at a4
 cases v with
 | agg cs =>
  cases hv with
  | agg hl2 hh =>
   rename_i us
   obtain ⟨j',a1,a2,a3,a4,a5,a6⟩:=y4 (P:=P) (mQ P T) cs us mem j s hl2 hh
   refine fin _ _ j' rfl a1 a2 a3 ?_ ?_ (.agg (by rw [a4];exact hl2) a5)
   ·simp only [V.cells] at hl |-
    rw [a4];exact hl
   ·simp only [V.cells,di] at ho |-
    exact a6 ho
 | _=>exact qQ (by intro cs h;cases h)
theorem Zg {cfg:bi}:∀{l:List aF},Bh cfg l=true->∀i o,l[i]? = some o->(il o || iM cfg o)=true->∀t∈gP o,∀(k:Nat) (q:aF),i<=k->l[k]? = some q->q.dst≠some t:=by
 intro l
 induction l with
 | nil=>intro _ i o h;simp at h
 | cons p l ih =>
  intro h i o hi ho t ht k q hik hk
  simp only [Bh,bv,mTz,iC] at h
  cases i with
  | zero =>
   simp at hi
   subst hi
   have h1:=h.1.resolve_left (by rw [ho];simp)
   have h2:=di.1 h1 t ht
   simp only [bv,bne_iff_ne,di] at h2
   cases k with
   | zero=>simp at hk;subst hk;exact h2.1
   | succ k=>exact h2.2 q (cG (by simpa using hk))
  | succ i =>
   cases k with
   | zero=>omega
   | succ k=>exact ih h.2 i o (by simpa using hi) ho t ht k q (by omega) (by simpa using hk)
theorem JD {cfg:bi} {call:b9} {l:List aF} {vs:Nat->V} {st:Nat->S} (htr:∀(k:Nat) (o:aF),l[k]? = some o->i4 cfg call o (st k) (vs k) (st (k+1))) {t:Nat}:∀d i,i+d=l.length->(∀k q,i<=k->l[k]? = some q->q.dst≠some t)->(st l.length).env[t]? = (st i).env[t]?:=by
 intro d
 induction d with
 | zero=>intro i h _;rw [dK] at h;rw [h]
 | succ d ih =>
  intro i h hno
  rw [ih (i+1) (by omega) fun k q hk=>hno k q (by omega)]
  have ho:l[i]? = some (l[i]'(by omega)):=bC (by omega)
  rw [xX (htr i _ ho),vv,if_neg (hno i _ (bG _) ho)]
theorem D5 {e1 e2:List V} {x:Operand} (h:∀t,x = .tmp t->e1[t]? = e2[t]?):lh e1 x=lh e2 x:=by
 unfold lh
 rw [rS h]
theorem Tx {cfg:bi} {call:b9} {l:List aF} {vs:Nat->V} {st:Nat->S} {N:Nat} (htr:∀(k:Nat) (o:aF),l[k]? = some o->i4 cfg call o (st k) (vs k) (st (k+1))) (hN:l.length=N) (hchk:pZ cfg l (st N).env=true)
  {i n:Nat} {q ok:aF} (hq:l[i]? = some q) (hb:il q=true) (aR:l[n]? = some ok) (hfr:iM cfg ok=true):∀id,id∈s9 (st i).env q->id∉lg (st n).env ok:=by
 subst hN
 unfold pZ at hchk
 have hany:l.any (iM cfg)=true:=List.any_eq_true.2 ⟨ok,cG aR,hfr⟩
 rw [hany] at hchk
 simp only [bR,iU,bv] at hchk
 obtain ⟨_,hssa,hall⟩:=hchk
 have late:∀i o,l[i]? = some o->(il o || iM cfg o)=true->∀t∈gP o,(st l.length).env[t]? = (st i).env[t]?:=fun i o hi ho t ht =>
  JD htr (l.length - i) i (by have:=(bj.1 hi).1;omega) (Zg hssa i o hi ho t ht)
 have looks:∀(o:aF) (x:Operand),x∈o.op.operands->∀t,x = .tmp t->t∈gP o:=fun o x hx t ht=>by
  simp only [gP,bp,tL]
  exact .inl ⟨x,by simpa using hx,by rw [ht]⟩
 have e1:s9 (st l.length).env q=s9 (st i).env q:=by
  unfold s9
  cases hop:q.op<;>simp only
  exact D5 fun t ht=>late i q hq (by rw [hb];rfl) t (looks q _ (by rw [hop];simp [Op.operands]) t ht)
 have e2:lg (st l.length).env ok=lg (st n).env ok:=by
  unfold lg
  cases hop:ok.op<;>simp only
  case store t ad x=>exact D5 fun t ht=>late n ok aR (by rw [hfr];simp) t (looks ok _ (by rw [hop];simp [Op.operands]) t ht)
  rename_i c
  have:∀(as0:List Operand),(∀x∈as0,x∈ok.op.operands)->as0.flatMap (lh (st l.length).env)=as0.flatMap (lh (st n).env):=by
   intro as0
   induction as0 with
   | nil=>intro _;rfl
   | cons x as0 ih =>
    intro h
    rw [iD,iD,ih fun y hy=>h y (by simp [hy]),D5 fun t ht=>late n ok aR (by rw [hfr];simp) t (looks ok x (h x (by simp)) t ht)]
  refine this _ fun x hx=>?_
  rw [hop]
  simp only [Op.operands,Call.operands]
  cases c.callee<;>simp<;>first | exact .inr (by simpa using hx) | simpa using hx
 intro id hid
 rw [<-e1] at hid
 rw [<-e2]
 have a1:=di.1 hall ok (cG aR)
 rw [hfr,bR,iU] at a1
 have a2:=di.1 a1 q (cG hq)
 rw [hb,bR,iU] at a2
 have a3:=di.1 a2 id hid
 simpa using a3
theorem Z6 {v:V} {u:Value} (s:SR P Z w j mem) (h:VR Z w j v u):∀id∈fO v,id < mem.length:=by
 have key:∀id∈fO v,j id≠none:=by
  cases h<;>intro id hi<;>simp only [fO,eZ] at hi<;>first | (cases hi;done) | (subst hi;rename_i hj;rw [hj];simp;done) | (subst hi;simp_all)
 intro id hi
 rcases jV id mem.length with h | h
 ·exact h
 ·exact (key id hi (s.out id h)).elim
def KI (ids:List Nat) (m m':List O):Prop:=m.length<=m'.length/\∀id∈ids,id < m.length->∀q,fe q=true->q≠.dead->(m'[id]? = some q↔m[id]? = some q)
theorem KI.refl (ids:List Nat) (m:List O):KI ids m m:=⟨bG _,fun _ _ _ _ _ _=>Iff.rfl⟩
theorem KI.trans {ids:List Nat} {a b c:List O} (h:KI ids a b) (h':KI ids b c):KI ids a c :=
 ⟨lD h.1 h'.1,fun id hi hl q h1 h2=>(h'.2 id hi (n6 hl h.1) q h1 h2).trans (h.2 id hi hl q h1 h2)⟩
theorem Wx {cfg:bi} {call:b9}:∀(l:List aF) (s s':S) (fs fs':List Nat),gB cfg call l s fs=some (s',fs') ->
  ∃(vs:Nat->V) (st:Nat->S),st 0=s/\st l.length=s'/\(∀(k:Nat) (o:aF),l[k]? = some o->i4 cfg call o (st k) (vs k) (st (k+1)))/\(∀x∈fs,x∈fs') /\
   ∀(k:Nat) (o:aF),l[k]? = some o->fG o=true->kV cfg o=false->dN (st k).env o.guard=some true->∀x∈kU o (st k).env (st k).mem,x∈fs':=by
 intro l
 induction l with
 | nil=>intro s s' fs fs' h;simp [gB] at h;obtain ⟨rfl,rfl⟩:=h;exact ⟨fun _=>.junk,fun _=>s,rfl,rfl,fun k o h=>by simp at h,fun _ h=>h,fun k o h=>by simp at h⟩
 | cons o l ih =>
  intro s s' fs fs' h
  simp only [gB] at h
  have fin:∀(v:V) (s1:S) (f1:List Nat),i4 cfg call o s v s1->(∀x∈fs,x∈f1)->(fG o=true->kV cfg o=false->dN s.env o.guard=some true->∀x∈kU o s.env s.mem,x∈f1)->gB cfg call l s1 f1=some (s',fs') ->
    ∃(vs:Nat->V) (st:Nat->S),st 0=s/\st (o::l).length=s'/\(∀(k:Nat) (q:aF),(o::l)[k]? = some q->i4 cfg call q (st k) (vs k) (st (k+1)))/\(∀x∈fs,x∈fs') /\
     ∀(k:Nat) (q:aF),(o::l)[k]? = some q->fG q=true->kV cfg q=false->dN (st k).env q.guard=some true->∀x∈kU q (st k).env (st k).mem,x∈fs':=by
   intro v s1 f1 h1 h2 h3 h4
   obtain ⟨vs,st,e0,e1,e2,e3,e4⟩:=ih s1 s' f1 fs' h4
   refine ⟨fun k=>match k with | 0=>v | k+1=>vs k,fun k=>match k with | 0=>s | k+1=>st k,rfl,e1,fun k q hq=>?_,fun x hx=>e3 x (h2 x hx),fun k q hq hc hr hw x hx=>?_⟩
   ·cases k with
    | zero=>simp at hq;subst hq;simpa [e0] using h1
    | succ k=>exact e2 k q (by simpa using hq)
   ·cases k with
    | zero=>simp at hq;subst hq;exact e3 x (h3 hc hr hw x hx)
    | succ k=>exact e4 k q (by simpa using hq) hc hr hw x hx
  cases hw:dN s.env o.guard with
  | none=>simp [hw] at h
  | some b =>
   cases b
   ·simp [hw] at h
    exact fin (.tup []) ⟨dM s.env o.dst (.tup []),s.mem⟩ fs (.inr ⟨hw,rfl,rfl,rfl⟩) (fun _ h=>h) (fun _ _ h=>by rw [hw] at h;cases h) h
   ·simp only [hw,aJ,if_true] at h
    cases ho:da cfg call (dw true o) o s.env s.mem with
    | none=>simp [ho] at h
    | some r =>
     obtain ⟨v,m⟩:=r
     simp only [ho,aJ] at h
     refine fin v _ _ (.inl ⟨hw,ho,rfl⟩) (fun x hx=>?_) (fun hc hr _ x hx=>?_) h
     ·split
      ·exact bp.2 (.inr hx)
      ·exact hx
     ·rw [if_pos (by rw [hc,hr];rfl)];exact bp.2 (.inl hx)
theorem Zf:∀{l:List aF},Bi l=true->∀i o,l[i]? = some o->hJ o=true->∀t∈gP o,∀(k:Nat) (q:aF),i<=k->l[k]? = some q->q.dst≠some t:=by
 intro l
 induction l with
 | nil=>intro _ i o h;simp at h
 | cons p l ih =>
  intro h i o hi ho t ht k q hik hk
  simp only [Bi,bv,mTz,iC] at h
  cases i with
  | zero =>
   simp at hi
   subst hi
   have h1:=h.1.resolve_left (by rw [ho];simp)
   have h2:=di.1 h1 t ht
   simp only [bv,bne_iff_ne,di] at h2
   cases k with
   | zero=>simp at hk;subst hk;exact h2.1
   | succ k=>exact h2.2 q (cG (by simpa using hk))
  | succ i =>
   cases k with
   | zero=>omega
   | succ k=>exact ih h.2 i o (by simpa using hi) ho t ht k q (by omega) (by simpa using hk)
theorem K8 {e1 e2:List V} {o:aF} (h:∀x∈o.op.operands,aO e1 x=aO e2 x):iQ e1 o=iQ e2 o:=by
 have one:∀x∈o.op.operands,jg e1 x=jg e2 x:=fun x hx=>by unfold jg;rw [h x hx]
 unfold iQ
 cases hop:o.op<;>simp only
 case load t a=>exact one _ (by rw [hop];simp [Op.operands])
 case indexAddr t x i=>exact one _ (by rw [hop];simp [Op.operands])
 case slice t x a b c=>exact one _ (by rw [hop];simp [Op.operands])
 case call c =>
  have:∀(as0:List Operand),(∀x∈as0,x∈o.op.operands)->as0.flatMap (jg e1)=as0.flatMap (jg e2):=by
   intro as0
   induction as0 with
   | nil=>intro _;rfl
   | cons x as0 ih =>
    intro h
    rw [iD,iD,ih fun y hy=>h y (by simp [hy]),one x (h x (by simp))]
  refine this _ fun x hx=>?_
  rw [hop]
  simp only [Op.operands,Call.operands]
  cases c.callee<;>simp<;>first | exact .inr (by simpa using hx) | simpa using hx
def BE (cfg:bi) (l:List aF) (st:Nat->S):Prop :=
 ∀i q n ok,l[i]? = some q->hJ q=true->l[n]? = some ok->fG ok=true->zd cfg ok=true/\(kV cfg ok=true∨(dN (st n).env ok.guard=some true->∀id∈iQ (st i).env q,id∉kU ok (st n).env (st n).mem))
theorem Qt {cfg:bi} {call:b9} {l:List aF} {vs:Nat->V} {st:Nat->S} {fs:List Nat} (htr:∀(k:Nat) (o:aF),l[k]? = some o->i4 cfg call o (st k) (vs k) (st (k+1))) (hc:ze cfg l (st l.length).env fs=true)
  (hf:∀(k:Nat) (o:aF),l[k]? = some o->fG o=true->kV cfg o=false->dN (st k).env o.guard=some true->∀x∈kU o (st k).env (st k).mem,x∈fs):BE cfg l st:=by
 intro i q n ok hq hl aR hcp
 simp only [ze,bv] at hc
 obtain ⟨⟨hssa,hcan⟩,hall⟩:=hc
 have a1:=di.1 hcan ok (cG aR)
 rw [hcp,bR,iU] at a1
 refine ⟨a1,?_⟩
 cases hro:kV cfg ok with
 | true=>exact .inl rfl
 | false =>
 refine .inr fun hw id hid hin=>?_
 have e1:iQ (st l.length).env q=iQ (st i).env q:=K8 fun x hx=>rS fun t ht =>
  JD htr (l.length - i) i (by have:=(bj.1 hq).1;omega) (Zf hssa i q hq hl t (by
   simp only [gP,bp,tL]
   exact .inl ⟨x,by simpa using hx,by rw [ht]⟩))
 have a2:=di.1 hall q (cG hq)
 rw [hl,bR,iU,e1] at a2
 have a3:=di.1 a2 id hid
 have a4:=hf n ok aR hcp hro hw id hin
 rw [List.contains_iff_mem.2 a4] at a3
 cases a3
theorem O9 {r:Option Nat} {n:Nat} {cfg:bi} {call:b9} (hp:gh cfg.P call.pc) (hi:eY cfg.P call.ic) {ops:Array Oper} {Q:Exit->Act->World->Prop} {l:List aF} {vs:Nat->V} {st:Nat->S} {a0:Act}
  (hl:lE ops ops.toList l) (hd:wM ops l=true) (hchk:pZ cfg l (st ops.size).env=true) (hcp:BE cfg l st) (htr:∀(k:Nat) (o:aF),l[k]? = some o->i4 cfg call o (st k) (vs k) (st (k+1)))
  (hQ:∀a' w',vO cfg.P Z w j (st 0).mem (st ops.size) a' w'->fi l a0 a'->Q .normal a' w') :
  ∀(fuel:Nat) (listed:Array Bool) (a:Act) (w1:World),listed.size=ops.size->listed.toList.count false<=fuel->tG ops (fun k=>listed.getD k false) ->
   (∃Z1 j1,St Z1 w1 j1 (EL (st 0).env l vs (fun k=>listed.getD k false) ops.size) a/\SR cfg.P Z1 w1 j1 (ML l st (fun k=>listed.getD k false) ops.size)/\aI Z w j (st 0).mem Z1 w1 j1 (ML l st (fun k=>listed.getD k false) ops.size)/\aQ j j1/\v6 cfg.P l w.heap.size Z1 w1 j1 (ML l st (fun k=>listed.getD k false) ops.size) a fun k=>listed.getD k false)->fi l a0 a ->
   wpAnyIn (FR r) n cfg.P .any ops Q fuel listed a w1:=by
 have hll:l.length=ops.size:=by have:=hl.1;simpa using this
 obtain ⟨hbind,hclash⟩:=QQ hd
 have done:∀(listed:Array Bool) (a:Act) (w1:World),listed.size=ops.size->(∀k,k < ops.size->listed.getD k false=true) ->
   (∃Z1 j1,St Z1 w1 j1 (EL (st 0).env l vs (fun k=>listed.getD k false) ops.size) a/\SR cfg.P Z1 w1 j1 (ML l st (fun k=>listed.getD k false) ops.size)/\aI Z w j (st 0).mem Z1 w1 j1 (ML l st (fun k=>listed.getD k false) ops.size)/\aQ j j1/\v6 cfg.P l w.heap.size Z1 w1 j1 (ML l st (fun k=>listed.getD k false) ops.size) a fun k=>listed.getD k false)->fi l a0 a->Q .normal a w1:=by
  intro listed a w1 hsz hall ⟨Z1,j1,h1,h2,h3,h4,_⟩ hkp
  obtain ⟨e1,e2⟩:=my htr ops.size (by omega)
  have eE:EL (st 0).env l vs (fun k=>listed.getD k false) ops.size=(st ops.size).env:=by
   rw [<-e1]
   apply tK
   intro t
   exact pk _ fun k hk _=>hall k hk
  have eM:ML l st (fun k=>listed.getD k false) ops.size=(st ops.size).mem:=by
   rw [<-e2]
   exact yr _ fun k hk _=>hall k hk
  rw [eE] at h1
  rw [eM] at h2 h3
  exact hQ a w1 ⟨Z1,j1,h1,h2,h3,h4⟩ hkp
 have notdone:∀(listed:Array Bool),listed.size=ops.size->Region.ready .any ops listed=[]->∀k,k < ops.size->listed.getD k false=true:=by
  intro listed hsz hr k
  induction k using Nat.strongRecOn with
  | _ k ih =>
   intro hk
   by_cases h:listed.getD k false=true
   ·exact h
   ·exfalso
    have aR:ops[k]? = some ops[k]:=eW hk
    have:k∈Region.ready .any ops listed:=by
     rw [mem_ready]
     refine ⟨?_,ops[k],aR,fun e he hb=>?_⟩
     ·have aC:k < listed.size:=by omega
      simp [gG,eW aC] at h |-
      exact h
     ·have h2:=hbind k _ aR e he hb
      exact ih e.on h2 (by omega)
    rw [hr] at this
    simp at this
 intro fuel
 induction fuel with
 | zero =>
  intro listed a w1 hsz hcnt hcl hinv hkp
  have hall:∀k,k < ops.size->listed.getD k false=true:=by
   intro k hk
   have aC:k < listed.size:=by omega
   have h0:listed.toList.count false=0:=by omega
   have:=List.count_eq_zero.1 h0
   have h2:listed[k]∈listed.toList:=by simp
   cases hb:listed[k] with
   | true=>simp [gG,eW aC,hb]
   | false=>rw [hb] at h2;exact (this h2).elim
  refine ⟨?_,done listed a w1 hsz hall hinv hkp⟩
  apply OL.2
  intro i hi'
  rw [mem_ready] at hi'
  obtain ⟨h1,o,ho,_⟩:=hi'
  have aC:i < ops.size:=(eX.1 ho).1
  have h2:=hall i aC
  have hlt':i < listed.size:=by omega
  simp [gG,eW hlt'] at h1 h2
  rw [h1] at h2;cases h2
 | succ fuel ih =>
  intro listed a w1 hsz hcnt hcl hinv hkp
  refine ⟨fun hr=>done listed a w1 hsz (notdone listed hsz hr) hinv hkp,fun i hir=>?_⟩
  have hir':=hir
  rw [mem_ready] at hir'
  obtain ⟨hnl,o,ho,hall⟩:=hir'
  have hin:i < ops.size:=(eX.1 ho).1
  have aC:i < listed.size:=by omega
  have hnl':listed[i]=false:=by simpa [gG,eW aC] using hnl
  obtain ⟨q,hq,hpq⟩:=Ma hl ho
  have hstep:=htr i _ hq
  have hanc:∀k,k∈(iG ops.toList []).getD i []->listed.getD k false=true:=wF hcl i o ho hall
  have before:∀k ok,k < i->l[k]? = some ok->gW ok q=true->listed.getD k false=true:=fun k ok hki hk hc=>hanc k (hclash k i ok _ hki hk hq hc)
  have oper:∀k q,l[k]? = some q->∃ok,ops[k]? = some ok:=fun k q hk=>by
   have:k < ops.size:=by rw [<-hll];exact (bj.1 hk).1
   exact ⟨ops[k],eW this⟩
  have behind:∀k ok,i < k->l[k]? = some ok->gW q ok=true->listed.getD k false=false:=by
   intro k ok hik hk hc
   cases hb:listed.getD k false with
   | false=>rfl
   | true =>
    obtain ⟨ok',hok'⟩:=oper k ok hk
    have:=wF hcl k ok' hok' (fun e he hbb=>hcl k ok' hok' hb e he hbb) i (hclash i k _ ok hik hq hk hc)
    simp [gG,eW aC,hnl'] at this
  have dst_of:∀k t,ki l k=some t->∃ok,l[k]? = some ok/\ok.dst=some t:=by
   intro k t hk
   unfold ki at hk
   cases hlk:l[k]? with
   | none=>simp [hlk] at hk
   | some qk =>
    simp [hlk] at hk
    exact ⟨qk,rfl,hk⟩
  have wr_of:∀k,fh l k=true->∃ok,l[k]? = some ok/\cN ok=true:=by
   intro k hk
   unfold fh at hk
   cases hlk:l[k]? with
   | none=>simp [hlk] at hk
   | some qk =>
    simp only [hlk] at hk
    exact ⟨qk,rfl,hk⟩
  have sp1:∀ok:aF,cN ok=true->ld q=false->iA ok q=false:=fun ok h hn=>Y6 h hn
  have sp2:∀ok:aF,cN ok=true->ld q=false->iA q ok=false:=fun ok h hn=>Y7 h hn
  have ldw:cN q=true->ld q=false:=fun h=>By h
  have looks:∀t,t∈gP q->(EL (st 0).env l vs (fun k=>listed.getD k false) ops.size)[t]? = (st i).env[t]?:=by
   intro t ht
   have ht':=ht
   rw [<-(my htr i (by omega)).1,<-yi i ops.size (by omega)]
   refine pk _ fun k hk hdk=>?_
   obtain ⟨ok,aR,hdo⟩:=dst_of k t hdk
   rcases vY k i with h | h | h
   ·rw [before k ok h aR (by simp only [gW,jz,hdo];simp [ht'])]
    simp [h]
   ·subst h
    simp [gG,eW aC,hnl']
   ·rw [behind k ok h aR (by simp only [gW,jz,hdo];simp [ht'])]
    simp;omega
  have self:∀k,k=i->listed.getD k false=decide (k < i):=by
   intro k h
   subst h
   simp [gG,eW aC,hnl']
  have memEq:(nH q=true∨cN q=true)->ld q=false->ML l st (fun k=>listed.getD k false) ops.size=(st i).mem:=by
   intro hrw hnl0
   rw [<-(my htr i (by omega)).2,<-Hp i ops.size (by omega)]
   refine yr _ fun k hk hwk=>?_
   obtain ⟨ok,aR,hwo⟩:=wr_of k hwk
   rcases vY k i with h | h | h
   ·rw [before k ok h aR (by simp only [gW,nc,hwo,sp1 ok hwo hnl0];rcases hrw with h | h<;>simp [h])]
    simp [h]
   ·exact self k h
   ·rw [behind k ok h aR (by simp only [gW,nc,hwo,sp2 ok hwo hnl0];rcases hrw with h | h<;>simp [h])]
    simp;omega
  have hnew:∀k,(listed.setIfInBounds i true).getD k false=(listed.getD k false || decide (k=i)):=by
   intro k
   simp only [gG,BA]
   by_cases h:i=k
   ·subst h;simp [aC]
   ·have:¬k=i:=fun e=>h e.symm
    simp [h,this]
  have envEq:EL (st 0).env l vs (fun k=>(listed.setIfInBounds i true).getD k false) ops.size=dM (EL (st 0).env l vs (fun k=>listed.getD k false) ops.size) q.dst (vs i):=by
   apply tK
   intro t
   by_cases hdt:q.dst=some t
   ·have e1:(EL (st 0).env l vs (fun k=>(listed.setIfInBounds i true).getD k false) ops.size)[t]? = (EL (st 0).env l vs (fun k=>decide (k < i+1)) ops.size)[t]?:=by
     refine pk _ fun k hk hdk=>?_
     obtain ⟨ok,aR,hdo⟩:=dst_of k t hdk
     rw [hnew]
     rcases vY k i with h | h | h
     ·rw [before k ok h aR (by simp only [gW,jz,hdo];simp [hdt])]
      simp;omega
     ·subst h;simp
     ·rw [behind k ok h aR (by simp only [gW,jz,hdt];simp [hdo])]
      have:¬k=i:=by omega
      simp [this];omega
    rw [e1,yi (i+1) ops.size (by omega),(my htr (i+1) (by omega)).1,xX hstep]
    simp only [hdt,vv,if_true,tH]
    rw [<-(my htr i (by omega)).1,tH]
   ·rw [vv,if_neg hdt]
    refine pk _ fun k hk hdk=>?_
    rw [hnew]
    have:¬k=i:=by
     intro e
     subst e
     simp [ki,hq] at hdk
     exact hdt hdk
    simp [this]
  have cnt:(listed.setIfInBounds i true).toList.count false<=fuel:=by
   have e:(listed.setIfInBounds i true).toList=listed.toList.set i true:=by simp
   rw [e,List.count_set]
   ·have h1:listed.toList[i]'(by simpa using aC)=false:=by simpa using hnl'
    rw [h1]
    have h2:((true:Bool)==false)=false:=rfl
    rw [h2,if_pos (beq_self_eq_true false),if_neg (by simp)]
    have:0 < listed.toList.count false:=List.count_pos_iff.2 (by rw [<-hnl'];simp)
    omega
   ·simpa using aC
  have cl:tG ops (fun k=>(listed.setIfInBounds i true).getD k false):=by
   intro k ok aR hD e he hb
   simp only [hnew] at hD |-
   by_cases h:k=i
   ·subst h
    rw [ho] at aR;cases aR
    simp [hall e he hb]
   ·have h2:decide (k=i)=false:=by simp [h]
    rw [h2,rh] at hD
    have h3:listed.getD e.on false=true:=hcl k ok aR hD e he hb
    rw [h3,tF]
  have memNew:cN q=true->ML l st (fun k=>(listed.setIfInBounds i true).getD k false) ops.size=(st (i+1)).mem:=by
   intro hw
   rw [<-(my htr (i+1) (by omega)).2,<-Hp (i+1) ops.size (by omega)]
   refine yr _ fun k hk hwk=>?_
   obtain ⟨ok,aR,hwo⟩:=wr_of k hwk
   rw [hnew]
   rcases vY k i with h | h | h
   ·rw [before k ok h aR (by simp [gW,nc,hwo,hw,sp1 ok hwo (ldw hw)])]
    simp;omega
   ·subst h;simp
   ·rw [behind k ok h aR (by simp [gW,nc,hwo,hw,sp2 ok hwo (ldw hw)])]
    have:¬k=i:=by omega
    simp [this];omega
  have memOld:cN q=false->ML l st (fun k=>(listed.setIfInBounds i true).getD k false) ops.size=ML l st (fun k=>listed.getD k false) ops.size:=by
   intro hw
   refine yr _ fun k hk hwk=>?_
   rw [hnew]
   have:¬k=i:=by
    intro e
    subst e
    simp [fh,hq,hw] at hwk
   simp [this]
  obtain ⟨Z1,j1,h1,h2,h3,h4,hpend⟩:=hinv
  have hsz':(listed.setIfInBounds i true).size=ops.size:=by simpa using hsz
  unfold wpOpIn
  simp only [ho]
  have hwe:dN (EL (st 0).env l vs (fun k=>listed.getD k false) ops.size) q.guard=dN (st i).env q.guard:=by
   cases hqg:q.guard with
   | none=>rfl
   | some tw =>
    simp only [dN]
    rw [looks tw.1 (by simp [gP,hqg])]
  have first:∀k k' ok ok',k < k'->l[k]? = some ok->l[k']? = some ok'->cN ok=true->cN ok'=true->listed.getD k' false=true->listed.getD k false=true:=by
   intro k k' ok ok' hkk hk hk' hwo hwo' hd'
   have hin':=hclash k k' ok ok' hkk hk hk' (by simp [gW,nc,iA,hwo,hwo',pi hwo,pi hwo',nP hwo,nP hwo'])
   obtain ⟨o',ho'⟩:=oper k' ok' hk'
   exact wF hcl k' o' ho' (fun e he hbb=>hcl k' o' ho' hd' e he hbb) k hin'
  obtain ⟨am,hale,haML,halo,hahi⟩:∃a,a<=ops.size/\ML l st (fun k=>listed.getD k false) ops.size=(st a).mem/\(∀k ok,k < a->l[k]? = some ok->cN ok=true->listed.getD k false=true) /\
    (∀k ok,a<=k->l[k]? = some ok->cN ok=true->listed.getD k false=false):=by
   have gen:∀n,n<=ops.size->∃a,a<=n/\ML l st (fun k=>listed.getD k false) n=(st a).mem/\(∀k ok,k < a->l[k]? = some ok->cN ok=true->listed.getD k false=true) /\
     (∀k ok,a<=k->k < n->l[k]? = some ok->cN ok=true->listed.getD k false=false):=by
    intro n
    induction n with
    | zero=>intro _;exact ⟨0,bG _,rfl,fun k ok hk=>by omega,fun k ok h1 h2=>by omega⟩
    | succ n ihn =>
     intro hn
     obtain ⟨a,b1,b2,b3,b4⟩:=ihn (by omega)
     by_cases hdn:listed.getD n false=true/\fh l n=true
     ·obtain ⟨okn,hokn,hwn⟩:=wr_of n hdn.2
      refine ⟨n+1,bG _,by simp only [ML,hdn.1,hdn.2,nS,if_true],fun k ok hk aR hwo=>?_,fun k ok h1 h2=>by omega⟩
      rcases jV k n with q | q
      ·exact first k n ok okn q aR hokn hwo hwn hdn.1
      ·have:k=n:=by omega
       subst this;exact hdn.1
     ·refine ⟨a,by omega,?_,b3,fun k ok h1 h2 aR hwo=>?_⟩
      ·simp only [ML]
       rw [if_neg (by simpa [bv] using hdn)]
       exact b2
      ·rcases jV k n with q | q
       ·exact b4 k ok h1 q aR hwo
       ·have:k=n:=by omega
        subst this
        cases hdk:listed.getD k false with
        | false=>rfl
        | true =>
         exact (hdn ⟨hdk,by simp only [fh,aR,hwo]⟩).elim
   obtain ⟨a,b1,b2,b3,b4⟩:=gen ops.size (bG _)
   exact ⟨a,b1,b2,b3,fun k ok h1 aR hwo=>b4 k ok h1 (by rw [<-hll];exact (bj.1 aR).1) aR hwo⟩
  have loads:il q=true->da cfg call (dw true q) q (st i).env (st i).mem=some (vs i,(st (i+1)).mem) ->
    da cfg call (dw true q) q (st i).env (ML l st (fun k=>listed.getD k false) ops.size)=some (vs i,ML l st (fun k=>(listed.setIfInBounds i true).getD k false) ops.size):=by
   intro hbx hop
   have hbxl:=hbx
   simp only [il,bv] at hbx
   obtain ⟨⟨⟨hrx,hbx1⟩,hsq1⟩,hld⟩:=hbx
   have hsq1:q.sq=false:=by simpa using hsq1
   have hrx:q.rx=false:=by simpa using hrx
   rw [ma hrx] at hop |-
   have hwr:cN q=false:=by
    unfold cN
    cases hop':q.op<;>rw [hop'] at hld<;>first | (cases hld;done) | simp [iT,ej]
   have hrd:nH q=true:=by
    unfold nH
    rw [hrx]
    cases hop':q.op<;>rw [hop'] at hld<;>first | (cases hld;done) | simp [oV,mP]
   rw [memOld hwr]
   have D1:∀k ok,k < i->l[k]? = some ok->cN ok=true->listed.getD k false=false->nE ok=true:=by
    intro k ok hki hk hwo hnd
    cases hpu:nE ok with
    | true=>rfl
    | false =>
     have:=before k ok hki hk (by simp [gW,nc,iA,hwo,hrd,hpu,pi hwo,nP hwo,B8 hbxl])
     rw [this] at hnd;cases hnd
   have D2:∀k ok,i < k->l[k]? = some ok->cN ok=true->listed.getD k false=true->nE ok=true:=by
    intro k ok hki hk hwo hnd
    cases hpu:nE ok with
    | true=>rfl
    | false =>
     have:=behind k ok hki hk (by simp [gW,nc,iA,hwo,hrd,hpu,pi hwo,nP hwo,B8 hbxl])
     rw [this] at hnd;cases hnd
   rw [haML]
   have stepB:∀(p:V) k ok,l[k]? = some ok->(cN ok=true->nE ok=true)->(iM cfg ok=true->∀id kk off,p = .ptr id kk off->id∉lg (st k).env ok)->kz p (st k).mem (st (k+1)).mem:=by
    intro p k ok aR hpu hnf
    have hs:=htr k _ aR
    by_cases hwo:cN ok=true
    ·rcases hs with ⟨_,hs,_⟩ | ⟨_,_,hs,_⟩
     ·cases hfr:iM cfg ok with
      | false=>exact (Xb (hpu hwo) hfr hs).at p
      | true =>
       obtain ⟨e1,e2⟩:=TA hfr hs
       exact ⟨e1,fun id kk off e hi t x=>by rw [e2 id hi (hnf hfr id kk off e)]⟩
     ·rw [hs];exact .refl _ _
    ·rw [Gy hs (by simpa using hwo)];exact .refl _ _
   have runB:∀(p:V) d k,k+d<=ops.size->(∀n ok,k<=n->n < k+d->l[n]? = some ok->(cN ok=true->nE ok=true)/\(iM cfg ok=true->∀id kk off,p = .ptr id kk off->id∉lg (st n).env ok))->kz p (st k).mem (st (k+d)).mem:=by
    intro p d
    induction d with
    | zero=>intro k _ _;exact .refl _ _
    | succ d ihd =>
     intro k hk hall'
     refine (ihd k (by omega) fun n ok h1 h2=>hall' n ok h1 (by omega)).trans ?_
     have hon:l[k+d]? = some (l[k+d]'(by omega)):=bC (by omega)
     obtain ⟨c1,c2⟩:=hall' (k+d) _ (by omega) (by omega) hon
     exact stepB p (k+d) _ hon c1 c2
   have hpE:∀x∈q.op.operands,aO (EL (st 0).env l vs (fun k=>listed.getD k false) ops.size) x=aO (st i).env x:=fun x hx=>rS fun t ht=>looks t (by
    simp only [gP,bp,tL]
    exact .inl ⟨x,by simpa using hx,by rw [ht]⟩)
   cases hop':q.op<;>rw [hop'] at hld<;>first | (cases hld;done) | skip
   rename_i t ad
   simp only [bQ,hop'] at hop |-
   cases hx:aO (st i).env ad with
   | none=>simp [hx] at hop
   | some p =>
    have hxE:aO (EL (st 0).env l vs (fun k=>listed.getD k false) ops.size) ad=some p:=by
     rw [hpE ad (by rw [hop'];simp [Op.operands]),hx]
    obtain ⟨u,hvr⟩:∃u,VR Z1 w1 j1 p u:=⟨_,h1.eval ad p hxE⟩
    have hlt1:∀id k off,p = .ptr id k off->id < (st am).mem.length:=by
     intro id k off e
     subst e
     rw [<-haML]
     cases hvr with
     | ptr hj _ =>
      rcases jV id (ML l st (fun k=>listed.getD k false) ops.size).length with q | q
      ·exact q
      ·rw [h2.out id q] at hj;cases hj
    simp only [hx,hbx1,hsq1,cond_false,aJ,dI] at hop |-
    have hnf:∀n ok,l[n]? = some ok->iM cfg ok=true->∀id kk off,p = .ptr id kk off->id∉lg (st n).env ok:=by
     intro n ok aR hfr id kk off e
     have hrd2:s9 (st i).env q=[id]:=by simp only [s9,hop',lh,hx,e,ji,nI,xB,fO]
     have:=Tx htr hll hchk hq hbxl aR hfr id (by rw [hrd2];simp)
     exact this
    cases hbp:j6 (st i).mem p with
    | false=>rw [hbp] at hop;simp at hop
    | true =>
     rw [hbp] at hop
     simp only [bR,cK,if_false,omi] at hop
     obtain ⟨v,hv,he⟩:=hop
     have hve:v=vs i:=congrArg Prod.fst he
     have hlt2:∀id k off,p = .ptr id k off->id < (st i).mem.length:=by
      intro id k off e
      subst e
      simp only [j6] at hbp
      cases hm:(st i).mem[id]? with
      | none=>rw [hm] at hbp;cases hbp
      | some _=>exact (bj.1 hm).1
     have both:j6 (st am).mem p=true/\eP cfg.P (st am).mem t p=eP cfg.P (st i).mem t p:=by
      rcases Nat.le_total am i with hai | hia
      ·have hB:kz p (st am).mem (st i).mem:=by
        have:=runB p (i - am) am (by omega) fun n ok h1 h2 aR=>⟨fun hwo=>D1 n ok (by omega) aR hwo (hahi n ok h1 aR hwo),hnf n ok aR⟩
        rwa [show am+(i - am)=i by omega] at this
       obtain ⟨c1,c2⟩:=H2 (P:=cfg.P) (t:=t) hB hlt1
       have:j6 (st am).mem p=true:=by rw [<-c1,hbp]
       exact ⟨this,(c2 this).symm⟩
      ·have hB:kz p (st i).mem (st am).mem:=by
        have:=runB p (am - i) i (by omega) fun n ok h1 h2 aR=>⟨fun hwo=>(by
         have hd':=halo n ok (by omega) aR hwo
         rcases jV i n with q | q
         ·exact D2 n ok q aR hwo hd'
         ·have:n=i:=by omega
          subst this
          rw [hq] at aR;cases aR
          rw [hwr] at hwo;cases hwo),hnf n ok aR⟩
        rwa [show i+(am - i)=am by omega] at this
       obtain ⟨c1,c2⟩:=H2 (P:=cfg.P) (t:=t) hB hlt2
       exact ⟨by rw [c1,hbp],c2 hbp⟩
     rw [both.1]
     simp only [bR,cK,if_false,both.2,hv,cg,hve]
  have loads2:hJ q=true->da cfg call (dw true q) q (st i).env (st i).mem=some (vs i,(st (i+1)).mem) ->
    da cfg call (dw true q) q (st i).env (ML l st (fun k=>listed.getD k false) ops.size)=some (vs i,ML l st (fun k=>(listed.setIfInBounds i true).getD k false) ops.size):=by
   intro hls hop
   have hrx:q.rx=false:=by simp only [hJ,bv] at hls;simpa using hls.1.1.1
   have hwr:cN q=false:=by
    cases h:cN q with
    | false=>rfl
    | true=>rw [nP h] at hls;cases hls
   have hrd:nH q=true:=by
    simp only [hJ,bv] at hls
    obtain ⟨⟨⟨_,hb⟩,hs⟩,hr⟩:=hls
    unfold nH
    rw [hrx,hb,hs]
    cases hop':q.op<;>rw [hop'] at hr<;>first | (cases hr;done) | (simp [oV,mP];done) | skip
    rename_i c
    cases hc:c.callee<;>simp only [o4,hc] at hr<;>first | (cases hr;done) | skip
    rename_i b
    cases b<;>first | (cases hr;done) | simp [oV,hc]
   have hme:=EJ hwr hop
   rw [ma hrx] at hop |-
   rw [hme] at hop
   rw [memOld hwr,haML]
   have D1:∀k ok,k < i->l[k]? = some ok->cN ok=true->listed.getD k false=false->fG ok=true:=by
    intro k ok hki hk hwo hnd
    cases hpu:fG ok with
    | true=>rfl
    | false =>
     have:=before k ok hki hk (by simp [gW,nc,iA,hwo,hrd,hpu,pi hwo,nP hwo,K9 hls])
     rw [this] at hnd;cases hnd
   have D2:∀k ok,i < k->l[k]? = some ok->cN ok=true->listed.getD k false=true->fG ok=true:=by
    intro k ok hki hk hwo hnd
    cases hpu:fG ok with
    | true=>rfl
    | false =>
     have:=behind k ok hki hk (by simp [gW,nc,iA,hwo,hrd,hpu,pi hwo,nP hwo,K9 hls])
     rw [this] at hnd;cases hnd
   have stepK:∀k ok,l[k]? = some ok->(cN ok=true->fG ok=true)->KI (iQ (st i).env q) (st k).mem (st (k+1)).mem:=by
    intro k ok aR hpu
    have hs:=htr k _ aR
    by_cases hwo:cN ok=true
    ·rcases hs with ⟨hw1,hs,_⟩ | ⟨_,_,hs,_⟩
     ·obtain ⟨c1,c2⟩:=hcp i q k ok hq hls aR (hpu hwo)
      obtain ⟨⟨e1,e2⟩,e3⟩:=Qu (hpu hwo) c1 hs
      rcases c2 with c2 | c2
      ·exact ⟨e1,fun id hid aC q _ _=>by rw [<-List.getElem?_take_of_lt aC,e3 c2]⟩
      ·exact ⟨e1,fun id hid aC=>e2 id aC (c2 hw1 id hid)⟩
     ·rw [hs];exact .refl _ _
    ·rw [Gy hs (by simpa using hwo)];exact .refl _ _
   have runK:∀d k,k+d<=ops.size->(∀n ok,k<=n->n < k+d->l[n]? = some ok->cN ok=true->fG ok=true)->KI (iQ (st i).env q) (st k).mem (st (k+d)).mem:=by
    intro d
    induction d with
    | zero=>intro k _ _;exact .refl _ _
    | succ d ihd =>
     intro k hk hall'
     refine (ihd k (by omega) fun n ok h1 h2=>hall' n ok h1 (by omega)).trans ?_
     have hon:l[k+d]? = some (l[k+d]'(by omega)):=bC (by omega)
     exact stepK (k+d) _ hon (hall' (k+d) _ (by omega) (by omega) hon)
   have hpE:∀x∈q.op.operands,aO (EL (st 0).env l vs (fun k=>listed.getD k false) ops.size) x=aO (st i).env x:=fun x hx=>rS fun t ht=>looks t (by
    simp only [gP,bp,tL]
    exact .inl ⟨x,by simpa using hx,by rw [ht]⟩)
   have hlt0:∀id∈iQ (st i).env q,id < (st am).mem.length:=by
    rw [<-K8 hpE,<-haML]
    have one:∀x,∀id∈jg (EL (st 0).env l vs (fun k=>listed.getD k false) ops.size) x,id < (ML l st (fun k=>listed.getD k false) ops.size).length:=by
     intro x id hid
     unfold jg at hid
     cases hx:aO (EL (st 0).env l vs (fun k=>listed.getD k false) ops.size) x with
     | none=>rw [hx] at hid;cases hid
     | some v=>rw [hx] at hid;exact Z6 h2 (h1.eval x v hx) id hid
    intro id hid
    unfold iQ at hid
    split at hid
    ·exact one _ id hid
    ·exact one _ id hid
    ·exact one _ id hid
    ·obtain ⟨x,_,hx⟩:=gK.1 hid
     exact one x id hx
    ·cases hid
   have hkp:KP (iQ (st i).env q) (st i).mem (st am).mem:=by
    rcases Nat.le_total am i with hai | hia
    ·have hB:KI (iQ (st i).env q) (st am).mem (st i).mem:=by
      have:=runK (i - am) am (by omega) fun n ok h1 h2 aR hwo=>D1 n ok (by omega) aR hwo (hahi n ok h1 aR hwo)
      rwa [show am+(i - am)=i by omega] at this
     exact fun id hid o h1 h2 h3=>(hB.2 id hid (hlt0 id hid) o h1 h2).1 h3
    ·have hB:KI (iQ (st i).env q) (st i).mem (st am).mem:=by
      have:=runK (am - i) i (by omega) fun n ok h1 h2 aR hwo=>(by
       have hd':=halo n ok (by omega) aR hwo
       rcases jV i n with q | q
       ·exact D2 n ok q aR hwo hd'
       ·have:n=i:=by omega
        subst this
        rw [hq] at aR;cases aR
        rw [hwr] at hwo;cases hwo)
      rwa [show i+(am - i)=am by omega] at this
     exact fun id hid o h1 h2 h3=>(hB.2 id hid (bj.1 h3).1 o h1 h2).2 h3
   exact Vu hls hkp hop
  have hlz:xh l=true:=by
   unfold wM at hd
   simp only [bv] at hd
   exact hd.1.1
  have hDi:∀k,k≠i->(listed.setIfInBounds i true).getD k false=listed.getD k false:=fun k hk=>by rw [hnew];simp [hk]
  have hDi':(listed.setIfInBounds i true).getD i false=true:=by rw [hnew];simp
  have beside:∀k m d T,jY l k m d T->(listed.setIfInBounds i true).getD k false=true->(listed.setIfInBounds i true).getD m false=false->k≠i->listed.getD k false=true/\listed.getD m false=false/\q.dst≠some d:=by
   intro k m d T hp e1 e2 hki
   have hmi:m≠i:=fun e=>by subst e;rw [hDi'] at e2;cases e2
   refine ⟨by rw [<-hDi k hki];exact e1,by rw [<-hDi m hmi];exact e2,fun e=>?_⟩
   rcases (jY.writers hlz hp).2 i q hq e with e | e
   ·exact hki e.symm
   ·exact hmi e.symm
  rcases hpq with hpq | ⟨T,d,x,ty,sq,rx,hop0,hdst,hgd,rfl⟩
  rotate_left
  ·obtain ⟨k,d',e1,_,e3,hp,hkm,hu⟩:=KG hlz hq
   cases e1
   subst e3
   have hkD:listed.getD k false=true:=by
    obtain ⟨⟨ty',sq',hk⟩,_⟩:=hp
    exact before k _ hkm hk (by simp [gW,jz])
   have hmD:listed.getD i false=false:=by simpa [gG,eW aC] using hnl'
   obtain ⟨g,us,f1,f2,f3,f4,f5,f6⟩:=hpend.1 k i d T hp hkD hmD
   rcases hstep with ⟨hw,hop,hse⟩ | ⟨hw,_⟩
   rotate_left
   ·cases hw
   have hwr:cN ⟨some d,.box T x,ty,none,true,sq,false⟩=true:=rfl
   rw [ma rfl] at hop
   have hM:=memEq (.inr hwr) (By hwr)
   have hM':=memNew hwr
   simp only [bQ,obi] at hop
   obtain ⟨v,hv,hop⟩:=hop
   split at hop
   ·cases hop
   rename_i hz0
   split at hop
   rotate_left
   ·cases hop
   rename_i hc
   split at hop
   ·cases hop
   rename_i hna
   have hop:some (newBox cfg.P (st i).mem T v)=some (vs i,(st (i+1)).mem):=by
    have hd:dw true ⟨some d,.box T x,ty,none,true,sq,false⟩=true:=rfl
    rw [hd,dI] at hna
    unfold qD at hop
    cases hf:iq T 0 (st i).mem with
    | none=>rw [hf] at hop;exact hop
    | some r=>rw [hf] at hna;simp at hna
   injection hop with hop
   have hvx:aO (EL (st 0).env l vs (fun k=>listed.getD k false) ops.size) x=some v:=by
    rw [<-hv]
    exact rS fun t ht=>looks t (by simp [gP,Op.operands,ht])
   have hvr:=h1.eval x v hvx
   have hpos:0 < cfg.P.cellsOf T:=by
    rcases yv (cfg.P.cellsOf T) with h | h
    ·exact (hz0 (by simp [h])).elim
    ·exact h
   rw [hM] at h2 f5
   obtain ⟨w2,j2,r1,r2,r3,r4,r5,r6,r7,r8,r9,r10,r11⟩:=U5 h2 f3 f4 f5 f6 hc.1 hc.2 hpos hvr
   have hev:a.eval (.tmp d) = .pointer (some ⟨g,0,none⟩):=by simp [Act.eval,f1,gG]
   have hwt:Region.wanted o (yielded ops a.tmps)=true:=by simp [Region.wanted,hgd]
   rw [if_pos hwt]
   refine xp (Post:=fun u w'=>w'=w2) (fun c h=>by rw [hop0] at h;cases h) ?_ ?_
   ·unfold execOp
    simp only [hop0,hev,Sem.run_bind,r1,Result.andThen_ok]
    rfl
   ·rintro u w' rfl
    have e0:a.put o.dst u=a:=by rw [hdst];rfl
    rw [e0]
    have hm2:(newBox cfg.P (st i).mem T v).2=(st (i+1)).mem:=congrArg Prod.snd hop
    have hv2:(newBox cfg.P (st i).mem T v).1=vs i:=congrArg Prod.fst hop
    rw [hM] at h3
    have hlt2:g < w1.heap.size:=(eX.1 f3).1
    refine ih _ _ w' hsz' cnt cl ⟨Z1,j2,?_,?_,?_,h4.trans r4,?_⟩ hkp
    ·rw [envEq]
     exact (h1.mono r5 r4).fill f1 (hv2 ▸ r3)
    ·rw [hM',<-hm2];exact r2
    ·rw [hM',<-hm2]
     exact ⟨r8.trans h3.os,r9.trans h3.tape,r10.trans h3.output,by rw [r7];exact h3.size,fun g' hg' hn=>⟨(r6 g' (by omega)).trans (h3.keep g' hg' hn).1,(h3.keep g' hg' hn).2⟩,fun g' hg' ho=>by
      rcases r11 g' (n6 hg' h3.size) ho with ho | ho
      ·exact h3.owned g' hg' ho
      ·omega,h3.z.trans r5,fun t h=>⟨((h3.ar t h).1).newBox _ _,(h3.ar t h).2⟩⟩
    ·rw [hM',<-hm2]
     rw [hM] at hpend
     refine ⟨fun k' m' d' T' hp' e1 e2=>?_,fun k' m' d' T' k'' m'' d'' T'' g' hp' e1 e2 hp'' e1' e2' hne hf hf'=>?_⟩
     ·have hki:k'≠i:=by
       rintro rfl
       obtain ⟨⟨_,_,hk'⟩,_⟩:=hp'
       rw [hq] at hk';cases hk'
      obtain ⟨c1,c2,c3⟩:=beside k' m' d' T' hp' e1 e2 hki
      obtain ⟨g',us',p1,p2,p3,p4,p5,p6⟩:=hpend.1 k' m' d' T' hp' c1 c2
      have hgg:g'≠g:=by
       rintro rfl
       exact hpend.2 k i d T k' m' d' T' g' hp hkD hmD hp' c1 c2 (fun e=>c3 (by rw [e])) ⟨us,f1,f2,f3,f4,f5,f6⟩ ⟨us',p1,p2,p3,p4,p5,p6⟩
      exact ⟨g',us',p1,p2,(r6 g' hgg).trans p3,p4,fun ho=>by
       rcases r11 g' (eX.1 p3).1 ho with ho | ho
       ·exact p5 ho
       ·exact hgg ho,p6⟩
     ·have hki:∀k' m' d' T',jY l k' m' d' T'->k'≠i:=by
       rintro k' m' d' T' hp' rfl
       obtain ⟨⟨_,_,hk'⟩,_⟩:=hp'
       rw [hq] at hk';cases hk'
      obtain ⟨c1,c2,_⟩:=beside k' m' d' T' hp' e1 e2 (hki _ _ _ _ hp')
      obtain ⟨c1',c2',_⟩:=beside k'' m'' d'' T'' hp'' e1' e2' (hki _ _ _ _ hp'')
      obtain ⟨g1,hg1⟩:=hpend.1 k' m' d' T' hp' c1 c2
      obtain ⟨g2,hg2⟩:=hpend.1 k'' m'' d'' T'' hp'' c1' c2'
      have q1:=fQ.same hg1 rfl hf
      have q2:=fQ.same hg2 rfl hf'
      subst q1
      subst q2
      exact hpend.2 k' m' d' T' k'' m'' d'' T'' _ hp' c1 c2 hp'' c1' c2' hne hg1 hg2
  obtain ⟨g,bx,sq,rx,rfl,hg⟩:=id hpq
  rcases hstep with ⟨hw,hop,_⟩ | ⟨hw,hv,hm,_⟩
  ·have hwt:=Bt hpq h1 (hwe.trans hw)
   rw [if_pos hwt]
   have hop2:da cfg call (dw true ⟨o.dst,o.op,o.type,g,bx,sq,rx⟩) ⟨o.dst,o.op,o.type,g,bx,sq,rx⟩ (EL (st 0).env l vs (fun k=>listed.getD k false) ops.size) (ML l st (fun k=>listed.getD k false) ops.size)=some (vs i,ML l st (fun k=>(listed.setIfInBounds i true).getD k false) ops.size):=by
    rw [Wp (e2:=(st i).env) fun x hx=>rS fun t ht=>looks t (by
     simp only [gP,bp,tL]
     exact .inl ⟨x,by simpa using hx,by rw [ht]⟩)]
    by_cases hwr:cN ⟨o.dst,o.op,o.type,g,bx,sq,rx⟩=true
    ·rw [memEq (.inr hwr) (By hwr),memNew hwr];exact hop
    ·have hwr':cN ⟨o.dst,o.op,o.type,g,bx,sq,rx⟩=false:=by simpa using hwr
     have hme:=EJ hwr' hop
     by_cases hrd:nH ⟨o.dst,o.op,o.type,g,bx,sq,rx⟩=true
     ·by_cases hbx:il ⟨o.dst,o.op,o.type,g,bx,sq,rx⟩=true
      ·exact loads hbx hop
      ·by_cases hls:hJ ⟨o.dst,o.op,o.type,g,bx,sq,rx⟩=true
       ·exact loads2 hls hop
       ·rw [memOld hwr',memEq (.inl hrd) (by unfold ld;rw [re];exact ⟨by simpa using hbx,by simpa using hls⟩),<-hme]
        rw [hme] at hop |-
        exact hop
     ·rw [memOld hwr']
      exact Wc hwr' (by simpa using hrd) hop _
   by_cases hal:∃T,o.op = .alloc T/\bx=true/\rx=false
   ·obtain ⟨T,hoT,rfl,rfl⟩:=hal
    have hop3:=hop2
    rw [ma rfl] at hop3
    simp only [bQ,hoT,obi] at hop3
    obtain ⟨z,hz,hop3⟩:=hop3
    split at hop3
    rotate_left
    ·cases hop3
    rename_i hc
    simp only [if_true,Option.some.injEq,Prod.mk.injEq] at hop3
    obtain ⟨hvj,hmm⟩:=hop3
    obtain ⟨us,r1,r2⟩:=KF (w:=w1) hz hc.1 hc.2
    refine xp (Post:=fun u w'=>u = .pointer (some ⟨w1.heap.size,0,none⟩)/\w'=w1.alloc (.cells us T)) (EO hop2) ?_ ?_
    ·unfold execOp
     simp only [hoT]
     exact dy r1 ⟨rfl,rfl⟩
    ·rintro u w2 ⟨rfl,rfl⟩
     have stp:=aI.alloc h2 (.cells us T)
     have hmm':ML l st (fun k=>(listed.setIfInBounds i true).getD k false) ops.size=ML l st (fun k=>listed.getD k false) ops.size:=hmm.symm
     refine ih _ _ _ hsz' cnt cl ⟨Z1,j1,?_,by rw [hmm'];exact h2.alloc _,by rw [hmm'];exact h3.trans stp,h4,?_⟩ (hkp.put (o:=⟨o.dst,o.op,o.type,g,true,sq,false⟩) (cG hq) _)
     ·rw [envEq,<-hvj]
      exact (h1.mono stp.z (aQ.refl _)).put o.dst .junk
     ·rw [hmm']
      have hold:∀k m d T',jY l k m d T'->(listed.setIfInBounds i true).getD k false=true->(listed.setIfInBounds i true).getD m false=false->k≠i->∃g,fQ cfg.P w.heap.size Z1 w1 j1 (ML l st (fun k=>listed.getD k false) ops.size) a d T' g/\fQ cfg.P w.heap.size Z1 (w1.alloc (.cells us T)) j1 (ML l st (fun k=>listed.getD k false) ops.size) (a.put o.dst (.pointer (some ⟨w1.heap.size,0,none⟩))) d T' g/\listed.getD k false=true/\listed.getD m false=false:=by
       intro k m d T' hp e1 e2 hki
       obtain ⟨c1,c2,c3⟩:=beside k m d T' hp e1 e2 hki
       obtain ⟨g,hg⟩:=hpend.1 k m d T' hp c1 c2
       exact ⟨g,hg,hg.step stp (E9 c3 _),c1,c2⟩
      have hnewF:∀m d T',jY l i m d T'->fQ cfg.P w.heap.size Z1 (w1.alloc (.cells us T)) j1 (ML l st (fun k=>listed.getD k false) ops.size) (a.put o.dst (.pointer (some ⟨w1.heap.size,0,none⟩))) d T' w1.heap.size:=by
       intro m d T' hp
       obtain ⟨⟨ty',sq',hk⟩,_⟩:=hp
       rw [hq] at hk
       simp only [Option.some.injEq,aF.mk.injEq] at hk
       obtain ⟨hd1,hd2,_⟩:=hk
       rw [hoT] at hd2
       cases hd2
       have hdl:d < a.tmps.size:=by
        have e1:=h1.len
        rw [tH] at e1
        have e2:∀n,n<=ops.size->(st n).env.length=(st 0).env.length:=by
         intro n
         induction n with
         | zero=>intro _;rfl
         | succ n ihn =>
          intro hn
          have hon:l[n]? = some (l[n]'(by omega)):=bC (by omega)
          rw [xX (htr n _ hon),ND,ihn (by omega)]
        unfold pZ at hchk
        rw [bv] at hchk
        have e3:=di.1 hchk.1 _ (cG hq)
        rw [hoT,hd1] at e3
        simp only [oD,nS,bR,iU,tV,mG] at e3
        rw [e2 ops.size (bG _)] at e3
        omega
       refine ⟨us,?_,h3.size,heap_alloc_new w1 _,r2,fun ho=>?_,fun o ho=>?_⟩
       ·rw [hd1]
        show (a.tmps.setIfInBounds d _)[d]? = _
        rw [Array.getElem?_setIfInBounds_self_of_lt hdl]
       ·have:=bd.lt h2 ho;omega
       ·have:=h2.zin _ _ ho;omega
      refine ⟨fun k m d T' hp e1 e2=>?_,fun k m d T' k' m' d' T'' g' hp e1 e2 hp' e1' e2' hne hf hf'=>?_⟩
      ·by_cases hki:k=i
       ·subst hki;exact ⟨_,hnewF m d T' hp⟩
       ·obtain ⟨g,_,hg,_⟩:=hold k m d T' hp e1 e2 hki
        exact ⟨g,hg⟩
      ·by_cases hki:k=i
       ·subst hki
        have hki':k'≠k:=by
         rintro rfl
         obtain ⟨⟨_,_,a1⟩,_⟩:=hp
         obtain ⟨⟨_,_,a2⟩,_⟩:=hp'
         rw [a1] at a2
         simp only [Option.some.injEq,aF.mk.injEq] at a2
         exact hne a2.1
        obtain ⟨g2,hg2,hg3,_⟩:=hold k' m' d' T'' hp' e1' e2' hki'
        have q1:=fQ.same (hnewF m d T' hp) rfl hf
        have q2:=fQ.same hg3 rfl hf'
        obtain ⟨_,_,_,p3,_⟩:=hg2
        have:=(eX.1 p3).1
        omega
       ·by_cases hki':k'=i
        ·subst hki'
         obtain ⟨g2,hg2,hg3,_⟩:=hold k m d T' hp e1 e2 hki
         have q1:=fQ.same (hnewF m' d' T'' hp') rfl hf'
         have q2:=fQ.same hg3 rfl hf
         obtain ⟨_,_,_,p3,_⟩:=hg2
         have:=(eX.1 p3).1
         omega
        ·obtain ⟨g1,hg1,hg1',c1,c2⟩:=hold k m d T' hp e1 e2 hki
         obtain ⟨g2,hg2,hg2',c1',c2'⟩:=hold k' m' d' T'' hp' e1' e2' hki'
         have q1:=fQ.same hg1' rfl hf
         have q2:=fQ.same hg2' rfl hf'
         subst q1
         subst q2
         exact hpend.2 k m d T' k' m' d' T'' _ hp c1 c2 hp' c1' c2' hne hg1 hg2
   have noPair:∀m d T,¬jY l i m d T:=by
    rintro m d T ⟨⟨ty',sq',hk⟩,_⟩
    rw [hq] at hk
    simp only [Option.some.injEq,aF.mk.injEq] at hk
    exact hal ⟨T,hk.2.1,hk.2.2.2.2.1,hk.2.2.2.2.2.2⟩
   have hres:=LN hp hi h2 h1.eval hop2
   refine xp (EO hop2) hres ?_
   rintro u w2 ⟨Z2,j2,q1,q2,q3,q4⟩
   refine ih _ _ w2 hsz' cnt cl ⟨Z2,j2,?_,q2,h3.trans q3,h4.trans q4,hpend.step q3 fun k m d T hp e1 e2=>?_⟩ (hkp.put (o:=⟨o.dst,o.op,o.type,g,bx,sq,rx⟩) (cG hq) u)
   ·rw [envEq]
    exact (h1.mono q3.z q4).put o.dst q1
   ·obtain ⟨c1,c2,c3⟩:=beside k m d T hp e1 e2 (fun e=>by subst e;exact noPair m d T hp)
    exact ⟨c1,c2,E9 c3 _⟩
  ·have hwt:=Bt hpq h1 (hwe.trans hw)
   rw [if_neg (by rw [hwt];simp)]
   have hmm:ML l st (fun k=>(listed.setIfInBounds i true).getD k false) ops.size=ML l st (fun k=>listed.getD k false) ops.size:=by
    by_cases hwr:cN ⟨o.dst,o.op,o.type,g,bx,sq,rx⟩=true
    ·rw [memNew hwr,hm,memEq (.inr hwr) (By hwr)]
    ·exact memOld (by simpa using hwr)
   refine ⟨fun _ _=>trivial,ih _ _ w1 hsz' cnt cl ⟨Z1,j1,?_,by rw [hmm];exact h2,by rw [hmm];exact h3,h4,?_⟩ (hkp.put (o:=⟨o.dst,o.op,o.type,g,bx,sq,rx⟩) (cG hq) undef)⟩
   ·rw [envEq,hv]
    exact h1.put o.dst (.tup (us:=[]) rfl fun i c u hc=>by simp at hc)
   ·rw [hmm]
    refine hpend.step (aI.refl _ _ _ _) fun k m d T hp e1 e2=>?_
    obtain ⟨c1,c2,c3⟩:=beside k m d T hp e1 e2 (fun e=>by
     subst e
     obtain ⟨⟨ty',sq',hk⟩,_⟩:=hp
     rw [hq] at hk
     simp only [Option.some.injEq,aF.mk.injEq] at hk
     have hg0:g=none:=hk.2.2.2.1
     subst hg0
     cases hw)
    exact ⟨c1,c2,E9 c3 _⟩
theorem WC {r:Option Nat} {n:Nat} {ops:Array Oper} {Q:Exit->Act->World->Prop} {Inv:(Nat->Bool)->Act->World->Prop}
  (hbind:∀k o,ops[k]? = some o->∀e∈o.after,Region.binds .any e=true->e.on < k)
  (hdone:∀D a w,(∀k,k < ops.size->D k=true)->Inv D a w->Q .normal a w)
  (hstep:∀D a w i o,ops[i]? = some o->D i=false->tG ops D->(∀e∈o.after,Region.binds .any e=true->D e.on=true)->Inv D a w ->
   Region.wanted o (yielded ops a.tmps)=true/\(∀c,o.op≠.defer c)/\kH P (fun u w'=>Inv (fun k=>D k || decide (k=i)) (a.put o.dst u) w') ((execOp a.eval o).run P w)) :
  ∀(fuel:Nat) (listed:Array Bool) (a:Act) (w1:World),listed.size=ops.size->listed.toList.count false<=fuel->tG ops (fun k=>listed.getD k false)->Inv (fun k=>listed.getD k false) a w1 ->
   wpAnyIn (FR r) n P .any ops Q fuel listed a w1:=by
 have get:∀(listed:Array Bool) k (h:k < listed.size),listed.getD k false=listed[k]:=fun listed k h=>by simp [gG,eW h]
 have notdone:∀(listed:Array Bool),listed.size=ops.size->Region.ready .any ops listed=[]->∀k,k < ops.size->listed.getD k false=true:=by
  intro listed hsz hr k
  induction k using Nat.strongRecOn with
  | _ k ih =>
   intro hk
   by_cases h:listed.getD k false=true
   ·exact h
   ·exfalso
    have aR:ops[k]? = some ops[k]:=eW hk
    have:k∈Region.ready .any ops listed:=by
     rw [mem_ready]
     refine ⟨?_,ops[k],aR,fun e he hb=>?_⟩
     ·rw [get listed k (by omega)] at h
      simpa [gG,eW (show k < listed.size by omega)] using h
     ·have h2:=hbind k _ aR e he hb
      exact ih e.on h2 (by omega)
    rw [hr] at this
    simp at this
 intro fuel
 induction fuel with
 | zero =>
  intro listed a w1 hsz hcnt hcl hinv
  have hall:∀k,k < ops.size->listed.getD k false=true:=by
   intro k hk
   have aC:k < listed.size:=by omega
   have h0:listed.toList.count false=0:=by omega
   have:=List.count_eq_zero.1 h0
   have h2:listed[k]∈listed.toList:=by simp
   rw [get listed k aC]
   cases hb:listed[k] with
   | true=>rfl
   | false=>rw [hb] at h2;exact (this h2).elim
  refine ⟨?_,hdone _ a w1 hall hinv⟩
  apply OL.2
  intro i hi'
  rw [mem_ready] at hi'
  obtain ⟨h1,o,ho,_⟩:=hi'
  have aC:i < ops.size:=(eX.1 ho).1
  have h2:=hall i aC
  have hlt':i < listed.size:=by omega
  simp [gG,eW hlt'] at h1 h2
  rw [h1] at h2;cases h2
 | succ fuel ih =>
  intro listed a w1 hsz hcnt hcl hinv
  refine ⟨fun hr=>hdone _ a w1 (notdone listed hsz hr) hinv,fun i hir=>?_⟩
  rw [mem_ready] at hir
  obtain ⟨hnl,o,ho,hall⟩:=hir
  have hin:i < ops.size:=(eX.1 ho).1
  have aC:i < listed.size:=by omega
  have hnl':listed[i]=false:=by simpa [gG,eW aC] using hnl
  have hnew:(fun k=>(listed.setIfInBounds i true).getD k false)=fun k=>listed.getD k false || decide (k=i):=by
   funext k
   simp only [gG,BA]
   by_cases h:i=k
   ·subst h;simp [aC]
   ·have:¬k=i:=fun e=>h e.symm
    simp [h,this]
  have cnt:(listed.setIfInBounds i true).toList.count false<=fuel:=by
   have e:(listed.setIfInBounds i true).toList=listed.toList.set i true:=by simp
   rw [e,List.count_set]
   ·have h1:listed.toList[i]'(by simpa using aC)=false:=by simpa using hnl'
    rw [h1]
    have h2:((true:Bool)==false)=false:=rfl
    rw [h2,if_pos (beq_self_eq_true false),if_neg (by simp)]
    have:0 < listed.toList.count false:=List.count_pos_iff.2 (by rw [<-hnl'];simp)
    omega
   ·simpa using aC
  have cl:tG ops (fun k=>(listed.setIfInBounds i true).getD k false):=by
   rw [hnew]
   intro k ok aR hD e he hb
   by_cases h:k=i
   ·subst h
    rw [ho] at aR;cases aR
    simp [hall e he hb]
   ·have h2:decide (k=i)=false:=by simp [h]
    simp only [h2,rh] at hD
    have h3:listed.getD e.on false=true:=hcl k ok aR hD e he hb
    show (listed.getD e.on false || _)=true
    rw [h3,tF]
  obtain ⟨hwt,hnd,aR⟩:=hstep _ a w1 i o ho (by rw [get listed i aC];exact hnl') hcl hall hinv
  unfold wpOpIn
  simp only [ho]
  rw [if_pos hwt]
  refine xp hnd aR fun u w' hu=>ih _ _ w' (by simpa using hsz) cnt cl (by rw [hnew];exact hu)
theorem SR.slot (s:SR P Z w j mem) {id:Nat} (hm:mem[id]? = some .dead) (hj:j id=none) {w1:World} {ob:Obj} (hh:w1.heap=w.heap.push ob) (hos:w1.os=w.os) (htape:w1.tape=w.tape) (hout:w1.output=w.output)
  (n:Nat) {h:bz} (hb:∀g,h.blk=some g->g=w.heap.size) {o:O} (ho:OR P (fS Z w.heap.size n) w1 (dz j id h) id o) (har:o.ar=none:=by rfl) :
  SR P (fS Z w.heap.size n) w1 (dz j id h) (mem.set id o)/\aI Z w j mem (fS Z w.heap.size n) w1 (dz j id h) (mem.set id o)/\aQ j (dz j id h):=by
 have hz:=be.heap (Z:=Z) hh s.zin n
 have iff:∀g,g < w.heap.size->∀o,fS Z w.heap.size n g o↔Z g o:=fun g hg o=>⟨fun h=>h.resolve_right fun h=>by omega,.inl⟩
 have hsz:w1.heap.size=w.heap.size+1:=by rw [hh];simp
 have aC:id < mem.length:=(bj.1 hm).1
 have s1:SR P (fS Z w.heap.size n) w1 j mem:=s.world hz (fun g hg=>⟨kp hh (bd.lt s hg),iff g (bd.lt s hg)⟩) (fun g o h=>by
  rcases h with h | h
  ·have:=s.zin g o h;omega
  ·omega)
 have je:aQ j (dz j id h):=by
  intro k x hx
  by_cases e:k=id
  ·rw [e,hj] at hx;cases hx
  ·rw [qX j h e];exact hx
 have side:∀(k:Nat) (x:O) (g:Nat),(mem.set id o)[k]? = some x->bf (fS Z w.heap.size n) (dz j id h) k x g->(k=id/\g=w.heap.size)∨(mem[k]? = some x/\bf Z j k x g):=by
  intro k x g hx hg
  by_cases e:id=k
  ·subst e
   rw [fj aC] at hx
   cases hx
   have hg:=(bf.plain har).1 hg
   unfold cf at hg
   rw [eU] at hg
   exact .inl ⟨rfl,hb g hg⟩
  ·rw [fE e] at hx
   exact .inr ⟨hx,(bf.eqA rfl).1 ((bf.jeq (qX j h (fun h=>e h.symm))).1 hg)⟩
 refine ⟨⟨fun k x hx=>?_,fun k k' x x' g hx hx' hl hl' hg hg'=>?_,fun k hk=>?_,s1.zin⟩,⟨hos,htape,hout,by omega,fun g hg _=>⟨kp hh hg,iff g hg⟩,fun g hg ⟨k,x,hx,hl,hgb⟩=>?_,hz,fun t hn=>⟨hn.set hm (fun n e=>absurd (har.symm.trans e) (by simp)),rfl⟩⟩,je⟩
 ·by_cases e:id=k
  ·subst e
   rw [fj aC] at hx
   cases hx
   exact ho
  ·rw [fE e] at hx
   exact (s1.obj k x hx).mono (be.refl _ _) je (fun _ _=>⟨rfl,fun _=>Iff.rfl⟩) (fun _ _ _=>rfl)
 ·rcases side k x g hx hg with ⟨rfl,e⟩ | ⟨h1,h2⟩<;>rcases side k' x' g hx' hg' with ⟨rfl,e'⟩ | ⟨h1',h2'⟩
  ·rfl
  ·have:=bd.lt s ⟨k',x',h1',hl',h2'⟩;omega
  ·have:=bd.lt s ⟨k,x,h1,hl,h2⟩;omega
  ·exact s.inj k k' x x' g h1 h1' hl hl' h2 h2'
 ·rw [nZ] at hk
  rw [qX j h (by omega)]
  exact s.out k hk
 ·rcases side k x g hx hgb with ⟨_,e⟩ | ⟨h1,h2⟩
  ·omega
  ·exact ⟨k,x,h1,hl,h2⟩
theorem X2 (s:SR P Z w j mem) {id:Nat} (hm:mem[id]? = some .dead) (hj:j id=none) {w1:World} {t:TypeId} {us:Array Value} {els:List V} {c:Nat} (hh:w1.heap=w.heap.push (.cells us t)) (hos:w1.os=w.os) (htape:w1.tape=w.tape) (hout:w1.output=w.output)
  (hpos:0 < P.cellsOf t) (hels:∀x∈els,x.cells.length=P.cellsOf t) (hlc:els.length<=c) (hc:c<=maxLen) (hus:us.size=c * P.cellsOf t)
  (hcl:∀(k:Nat) (x:V) (i:Nat) (y:V),els[k]? = some x->x.cells[i]? = some y->y.one=true/\∃u,us[k * P.cellsOf t+i]? = some u/\VR Z w j0 y u) :
  ∃Z' h,VR Z' w1 (dz j id h) (.own id) (.slice (some ⟨w.heap.size,0,none⟩) els.length c)/\SR P Z' w1 (dz j id h) (mem.set id (.row t els 0))/\aI Z w j mem Z' w1 (dz j id h) (mem.set id (.row t els 0))/\aQ j (dz j id h):=by
 obtain ⟨s1,st,je⟩:=s.slot hm hj hh hos htape hout (0 * P.cellsOf t) (h:=⟨.slice (some ⟨w.heap.size,0,none⟩) els.length c,P.cellsOf t⟩) (by simp [bz.blk]) (o:=.row t els 0) (MB s.zin id hh hpos hels (iE _) hlc hc hus hcl)
 exact ⟨_,_,.own (eU _ _ _) (fun a ha=>by cases ha;rfl),s1,st,je⟩
def MF (l:List aF) (st:Nat->S) (D:Nat->Bool):Nat->List O
 | 0=>(st 0).mem
 | k+1=>if fh l k then MF l st D k++[if D k then ((st (k+1)).mem[(st k).mem.length]?).getD .dead else .dead] else MF l st D k
theorem TC {ops:Array Oper} {l:List aF} (h:zK ops l=true):(∀k o,ops[k]? = some o->∀e∈o.after,Region.binds .any e=true->e.on < k) /\
  (∀i k oi ok,i < k->l[i]? = some oi->l[k]? = some ok->jz oi ok=true->i∈(iG ops.toList []).getD k []) /\
  ∀o∈l,o.guard=none/\o.rx=false/\((∃x,o.op = .assign x/\o.bx=false)∨∃t n c,o.op = .makeSlice t n c):=by
 simp only [zK,bv,di,yp] at h
 obtain ⟨⟨h0,h1⟩,h2⟩:=h
 refine ⟨fun k o ho e he hb=>?_,fun i k oi ok hik hi hk hc=>?_,fun o ho=>?_⟩
 ·have:=h1 (o,k) (by rw [ON];simpa using ho) e (by simpa using he)
  simpa [hb] using this
 ·have hkl:k < l.length:=(bj.1 hk).1
  have:=h2 k hkl i hik
  simp only [hi,hk,hc,bR,iU] at this
  simpa using this
 ·have:=h0 o ho
  simp only [BQ,iC] at this
  obtain ⟨⟨a,b⟩,c⟩:=this
  refine ⟨a,b,?_⟩
  cases hop:o.op<;>simp only [hop] at c<;>first | (cases c;done) | skip
  ·exact .inl ⟨_,rfl,by simpa using c⟩
  ·exact .inr ⟨_,_,_,rfl⟩
theorem SR.dead (s:SR P Z w j mem):SR P Z w j (mem++[.dead])/\aI Z w j mem Z w j (mem++[.dead]):=by
 have old:∀(k:Nat) (x:O),(mem++[O.dead])[k]? = some x->x.live=true->mem[k]? = some x:=by
  intro k x hx hl
  by_cases e:k < mem.length
  ·rwa [db e] at hx
  ·rw [cY (by omega)] at hx
   rcases yv (k - mem.length) with e0 | e0
   ·rw [e0] at hx
    cases hx;cases hl
   ·rw [vS (by simp;omega)] at hx;cases hx
 refine ⟨⟨fun k x hx=>?_,fun k k' x x' g hx hx' hl hl'=>s.inj k k' x x' g (old k x hx hl) (old k' x' hx' hl') hl hl',fun k hk=>s.out k (by simp at hk;omega),s.zin⟩,
  ⟨rfl,rfl,rfl,bG _,fun _ _ _=>⟨rfl,fun _=>Iff.rfl⟩,fun _ _ ⟨k,x,hx,hl,hg⟩=>⟨k,x,old k x hx hl,hl,hg⟩,be.refl _ _,fun t hn=>⟨hn.add rfl,rfl⟩⟩⟩
 by_cases hl:x.live=true
 ·exact s.obj k x (old k x hx hl)
 ·cases x<;>first | exact True.intro | (simp [O.live] at hl)
theorem La {t:TypeId} {a b v:V} (h:oH P mem t a b=some (v,mem')):v = .own mem.length/\∃ob,mem'=mem++[ob]:=by
 unfold oH at h
 simp only [obi] at h
 obtain ⟨_,_,h⟩:=h
 split at h
 ·split at h
  ·simp only [obi,omi] at h
   obtain ⟨_,_,_,_,h⟩:=h
   cases h;exact ⟨rfl,_,rfl⟩
  ·cases h
 ·cases h
section
variable {l:List aF} {st:Nat->S}
def pn (l:List aF) (st:Nat->S):Prop:=∀k,k < l.length->(fh l k=true/\∃ob,(st (k+1)).mem=(st k).mem++[ob])∨(fh l k=false/\(st (k+1)).mem=(st k).mem)
theorem pn.le (h:pn l st) (n:Nat):∀d,n+d<=l.length->(st n).mem.length<=(st (n+d)).mem.length:=by
 intro d
 induction d with
 | zero=>intro _;exact bG _
 | succ d ih =>
  intro hd
  have:=ih (by omega)
  rcases h (n+d) (by omega) with ⟨_,ob,e⟩ | ⟨_,e⟩<;>rw [<-gT,e]<;>simp<;>omega
theorem pn.lt (h:pn l st) {i k:Nat} (hi:fh l i=true) (hik:i < k) (hk:k<=l.length):(st i).mem.length < (st k).mem.length:=by
 have h1:=h.le (i+1) (k - (i+1)) (by omega)
 rw [show i+1+(k - (i+1))=k by omega] at h1
 rcases h i (by omega) with ⟨_,ob,e⟩ | ⟨e,_⟩
 ·rw [e] at h1;simp at h1;omega
 ·rw [e] at hi;cases hi
theorem Ov {k:Nat} (h:fh l k=true):k < l.length:=by
 unfold fh at h
 split at h
 ·rename_i e;exact (bj.1 e).1
 ·cases h
theorem OQ (h:pn l st) (D:Nat->Bool):∀n,n<=l.length->(MF l st D n).length=(st n).mem.length:=by
 intro n
 induction n with
 | zero=>intro _;rfl
 | succ n ih =>
  intro hn
  have:=ih (by omega)
  simp only [MF]
  rcases h n (by omega) with ⟨e1,ob,e⟩ | ⟨e1,e⟩<;>rw [e1,e]<;>simp [this]
theorem OP (h:pn l st) {D:Nat->Bool}:∀n,n<=l.length->(∀k,k < n->D k=true)->MF l st D n=(st n).mem:=by
 intro n
 induction n with
 | zero=>intro _ _;rfl
 | succ n ih =>
  intro hn hD
  have:=ih (by omega) fun k hk=>hD k (by omega)
  simp only [MF,this]
  rcases h n (by omega) with ⟨e1,ob,e⟩ | ⟨e1,e⟩<;>rw [e1,e]<;>simp [hD n (by omega)]
theorem Ho {D:Nat->Bool} {i:Nat} (hi:fh l i=false):∀n,MF l st (fun k=>D k || decide (k=i)) n=MF l st D n:=by
 intro n
 induction n with
 | zero=>rfl
 | succ n ih =>
  simp only [MF,ih]
  by_cases e:n=i
  ·subst e;rw [hi];rfl
  ·simp [e]
theorem OT (h:pn l st) {D:Nat->Bool} {i:Nat} {ob:O} (hi:fh l i=true) (hD:D i=false) (hob:(st (i+1)).mem=(st i).mem++[ob]):∀n,n<=l.length->(n<=i->MF l st (fun k=>D k || decide (k=i)) n=MF l st D n) /\
  (i < n->MF l st (fun k=>D k || decide (k=i)) n=(MF l st D n).set (st i).mem.length ob/\(MF l st D n)[(st i).mem.length]? = some .dead):=by
 intro n
 induction n with
 | zero=>intro _;exact ⟨fun _=>rfl,fun h=>by omega⟩
 | succ n ih =>
  intro hn
  obtain ⟨h1,h2⟩:=ih (by omega)
  refine ⟨fun hle=>?_,fun aC=>?_⟩
  ·have e:¬n=i:=by omega
   simp only [MF,h1 (by omega)]
   simp [e]
  ·have hlen:=OQ h D n (by omega)
   by_cases e:n=i
   ·subst e
    simp only [MF,h1 (bG _),hi,hD,if_true,hob]
    have e1:(MF l st D n).length=(st n).mem.length:=hlen
    simp [e1]
   ·obtain ⟨h3,h4⟩:=h2 (by omega)
    have hl:=h.lt hi (show i < n by omega) (by omega)
    simp only [MF,h3]
    cases hw:fh l n
    ·exact ⟨rfl,h4⟩
    ·simp only [if_true,e,decide_false,rh]
     have hl':(st i).mem.length < (MF l st D n).length:=by rw [hlen];exact hl
     rw [List.set_append,if_pos hl',db hl']
     exact ⟨rfl,h4⟩
theorem OS (s:SR P Z w j (st 0).mem):∀n,SR P Z w j (MF l st (fun _=>false) n)/\aI Z w j (st 0).mem Z w j (MF l st (fun _=>false) n):=by
 intro n
 induction n with
 | zero=>exact ⟨s,aI.refl _ _ _ _⟩
 | succ n ih =>
  simp only [MF]
  split
  ·exact ⟨ih.1.dead.1,ih.2.trans ih.1.dead.2⟩
  ·exact ih
end
theorem TF {r:Option Nat} {n:Nat} {cfg:bi} {call:b9} {ops:Array Oper} {Q:Exit->Act->World->Prop} {l:List aF} {vs:Nat->V} {st:Nat->S} {a0:Act}
  (hl:lE ops ops.toList l) (hd:zK ops l=true) (htr:∀(k:Nat) (o:aF),l[k]? = some o->i4 cfg call o (st k) (vs k) (st (k+1)))
  (hQ:∀a' w',vO cfg.P Z w j (st 0).mem (st ops.size) a' w'->fi l a0 a'->Q .normal a' w')
  (fuel:Nat) (listed:Array Bool) (a:Act) {w1:World} (hsz:listed.size=ops.size) (hcnt:listed.toList.count false<=fuel) (hno:∀k,listed.getD k false=false)
  (hst:St Z w1 j (st 0).env a) (sr:SR cfg.P Z w1 j (st 0).mem) (stp:aI Z w j (st 0).mem Z w1 j (st 0).mem) (hkp:fi l a0 a) :
   wpAnyIn (FR r) n cfg.P .any ops Q fuel listed a w1:=by
 have hll:l.length=ops.size:=by have:=hl.1;simpa using this
 obtain ⟨hbind,hclash,hops⟩:=TC hd
 have wrA_mk:∀{q:aF} {t:TypeId} {x c:Operand},q.rx=false->q.op = .makeSlice t x c->cN q=true:=by
  intro q t x c hx hop
  simp [cN,hx,hop,iT,m8,so,oD]
 have wrA_as:∀{q:aF} {x:Operand},q.op = .assign x->cN q=false:=by
  intro q x hop
  simp [cN,hop,iT,ej]
 have gr:pn l st:=by
  intro k hk
  have hq:l[k]? = some l[k]:=bC hk
  obtain ⟨hg,hx,h⟩:=hops _ (cG hq)
  rcases htr k _ hq with ⟨_,hop,_⟩ | ⟨hw,_⟩
  rotate_left
  ·rw [hg] at hw;simp [dN] at hw
  rw [ma hx] at hop
  rcases h with ⟨x,e,hb⟩ | ⟨t,x,c,e⟩
  ·refine .inr ⟨by simp only [fh,hq,wrA_as e],?_⟩
   exact Lt (cfg:=cfg) (call:=call) (o:=l[k]) (by simp [e,iT]) (by simp [e,ej]) (by simpa [dw,e,ej] using hop)
  ·refine .inl ⟨by simp only [fh,hq,wrA_mk hx e],?_⟩
   simp only [bQ,e,obi] at hop
   obtain ⟨_,_,_,_,hop⟩:=hop
   exact (La hop).2
 have dst_of:∀k t,ki l k=some t->∃ok,l[k]? = some ok/\ok.dst=some t:=by
  intro k t hk
  unfold ki at hk
  cases hlk:l[k]? with
  | none=>simp [hlk] at hk
  | some qk =>
   simp [hlk] at hk
   exact ⟨qk,rfl,hk⟩
 have i0:(fun k=>listed.getD k false)=fun _=>false:=funext hno
 refine WC (Inv:=fun D a w1=>fi l a0 a/\∃Z1 j1,St Z1 w1 j1 (EL (st 0).env l vs D ops.size) a/\SR cfg.P Z1 w1 j1 (MF l st D ops.size)/\aI Z w j (st 0).mem Z1 w1 j1 (MF l st D ops.size)/\aQ j j1 /\
   ∀k,fh l k=true->D k=false->j1 (st k).mem.length=none) hbind ?_ ?_ fuel listed a w1 hsz hcnt (fun k o _ hk=>absurd ((hno k).symm.trans hk) (by simp)) ?_
 ·rintro D a w1 hall ⟨hkp,Z1,j1,h1,h2,h3,h4,_⟩
  have eE:EL (st 0).env l vs D ops.size=(st ops.size).env:=by
   rw [<-(my htr ops.size (by omega)).1]
   apply tK
   intro t
   exact pk _ fun k hk _=>hall k hk
  rw [eE] at h1
  rw [OP gr _ (by omega) hall] at h2 h3
  exact hQ a w1 ⟨Z1,j1,h1,h2,h3,h4⟩ hkp
 ·rintro D a w1 i o ho hDi hcl hall ⟨hkp,Z1,j1,h1,h2,h3,h4,h5⟩
  have hin:i < ops.size:=(eX.1 ho).1
  obtain ⟨q,hq,hpq⟩:=Ma hl ho
  have hanc:∀k,k∈(iG ops.toList []).getD i []->D k=true:=wF hcl i o ho hall
  have before:∀k ok,k < i->l[k]? = some ok->jz ok q=true->D k=true:=fun k ok hki hk hc=>hanc k (hclash k i ok _ hki hk hq hc)
  have behind:∀k ok,i < k->l[k]? = some ok->jz q ok=true->D k=false:=by
   intro k ok hik hk hc
   cases hb:D k with
   | false=>rfl
   | true =>
    have hkl:k < ops.size:=by rw [<-hll];exact (bj.1 hk).1
    have:=wF hcl k ops[k] (eW hkl) (fun e he hbb=>hcl k _ (eW hkl) hb e he hbb) i (hclash i k _ ok hik hq hk hc)
    rw [hDi] at this;cases this
  have looks:∀t,t∈gP q->(EL (st 0).env l vs D ops.size)[t]? = (st i).env[t]?:=by
   intro t ht
   have ht':=ht
   rw [<-(my htr i (by omega)).1,<-yi i ops.size (by omega)]
   refine pk _ fun k hk hdk=>?_
   obtain ⟨ok,aR,hdo⟩:=dst_of k t hdk
   rcases vY k i with h | h | h
   ·rw [before k ok h aR (by simp only [jz,hdo];simp [ht'])]
    simp [h]
   ·subst h;simp [hDi]
   ·rw [behind k ok h aR (by simp only [jz,hdo];simp [ht'])]
    simp;omega
  have hstep:=htr i _ hq
  have envEq:EL (st 0).env l vs (fun k=>D k || decide (k=i)) ops.size=dM (EL (st 0).env l vs D ops.size) q.dst (vs i):=by
   apply tK
   intro t
   by_cases hdt:q.dst=some t
   ·have e1:(EL (st 0).env l vs (fun k=>D k || decide (k=i)) ops.size)[t]? = (EL (st 0).env l vs (fun k=>decide (k < i+1)) ops.size)[t]?:=by
     refine pk _ fun k hk hdk=>?_
     obtain ⟨ok,aR,hdo⟩:=dst_of k t hdk
     rcases vY k i with h | h | h
     ·rw [before k ok h aR (by simp only [jz,hdo];simp [hdt])]
      simp;omega
     ·subst h;simp
     ·rw [behind k ok h aR (by simp only [jz,hdt];simp [hdo])]
      have:¬k=i:=by omega
      simp [this];omega
    rw [e1,yi (i+1) ops.size (by omega),(my htr (i+1) (by omega)).1,xX hstep]
    simp only [hdt,vv,if_true,tH]
    rw [<-(my htr i (by omega)).1,tH]
   ·rw [vv,if_neg hdt]
    refine pk _ fun k hk hdk=>?_
    have:¬k=i:=by
     intro e
     subst e
     simp [ki,hq] at hdk
     exact hdt hdk
    simp [this]
  obtain ⟨hg,hx,hop⟩:=hops _ (cG hq)
  have ev:∀x∈q.op.operands,aO (EL (st 0).env l vs D ops.size) x=aO (st i).env x:=fun x hx=>rS fun t ht=>looks t (by
   simp only [gP,bp,tL]
   exact .inl ⟨x,by simpa using hx,by rw [ht]⟩)
  rcases hstep with ⟨_,hrun,_⟩ | ⟨hw,_⟩
  rotate_left
  ·rw [hg] at hw;simp [dN] at hw
  rw [ma hx] at hrun
  have hpq':rn ops o q:=by
   rcases hpq with hpq | ⟨T,d,x,ty,sq,rx,_,_,_,rfl⟩
   ·exact hpq
   ·rcases hop with ⟨_,e,_⟩ | ⟨_,_,_,e⟩<;>cases e
  have hwt:Region.wanted o (yielded ops a.tmps)=true:=Bt hpq' h1 (b:=true) (by rw [hg];rfl)
  have hml:=cG hq
  obtain ⟨g,bx,sq,rx,rfl,_⟩:=hpq'
  simp only at hg hx hop
  refine ⟨hwt,fun c hc=>(by rcases hop with ⟨_,e,_⟩ | ⟨_,_,_,e⟩<;>rw [hc] at e<;>cases e),?_⟩
  rcases hop with ⟨x,e,hb⟩ | ⟨t,x,c,e⟩
  ·have hv:aO (st i).env x=some (vs i):=by
    have hrun:=Lu (cfg:=cfg) (call:=call) (o:=⟨o.dst,o.op,o.type,g,bx,sq,rx⟩) (by simp [e,iT]) (by simp [e,oV]) (by simpa [dw,e,ej] using hrun) []
    simp only [bQ,e,hb,mr,obi] at hrun
    obtain ⟨v,hv,hrun⟩:=hrun
    cases v<;>simp at hrun<;>rw [hv,hrun]
   have hvr:=h1.eval x (vs i) (by rw [ev x (by simp [e,Op.operands])];exact hv)
   have hw0:fh l i=false:=by simp only [fh,hq];exact wrA_as e
   unfold execOp
   simp only [e]
   show _/\_
   refine ⟨hkp.put (o:=⟨o.dst,o.op,o.type,g,bx,sq,rx⟩) hml _,Z1,j1,?_,by rw [Ho hw0];exact h2,by rw [Ho hw0];exact h3,h4,fun k hk hD=>h5 k hk (by simp at hD;exact hD.1)⟩
   rw [envEq]
   exact h1.put o.dst hvr
  ·simp only [bQ,e,obi] at hrun
   obtain ⟨va,ha,vb,hb,hrun⟩:=hrun
   obtain ⟨hvi,ob,hob⟩:=La hrun
   obtain ⟨el,us,els,cc,hr,_,hm2,p1,p2,p3,p4,p5,p6⟩:=Lb hrun (h1.eval x va (by rw [ev x (by simp [e,Op.operands])];exact ha)) (h1.eval c vb (by rw [ev c (by simp [e,Op.operands])];exact hb))
   have hwi:fh l i=true:=by simp only [fh,hq];exact wrA_mk hx e
   obtain ⟨m1,m2⟩:=(OT gr hwi hDi hm2 ops.size (by omega)).2 hin
   obtain ⟨Z2,hh,q1,q2,q3,q4⟩:=X2 h2 m2 (h5 i hwi hDi) (w1:=w1.alloc (.cells us el)) rfl rfl rfl rfl p1 p2 p3 p4 p5 p6
   unfold execOp
   simp only [e]
   refine dy hr ⟨hkp.put (o:=⟨o.dst,o.op,o.type,g,bx,sq,rx⟩) hml _,Z2,dz j1 (st i).mem.length hh,?_,by rw [m1];exact q2,by rw [m1];exact h3.trans q3,h4.trans q4,fun k hk hD=>?_⟩
   ·rw [envEq,hvi]
    exact (h1.mono q3.z q4).put o.dst q1
   ·simp only [re,decide_eq_false_iff_not] at hD
    rw [qX]
    ·exact h5 k hk hD.1
    ·have hkl:=Ov hk
     rcases jV k i with h | h
     ·have:=gr.lt hk h (by omega);omega
     ·have:=gr.lt hwi (show i < k by omega) (by omega);omega
 ·rw [i0]
  obtain ⟨a1,a2⟩:=OS (l:=l) sr ops.size
  refine ⟨hkp,Z,j,?_,a1,stp.trans a2,aQ.refl _,fun k hk _=>?_⟩
  ·have eE:∀n,EL (st 0).env l vs (fun _=>false) n=(st 0).env:=by
    intro n
    induction n with
    | zero=>rfl
    | succ n ih=>simp only [EL];exact ih
   rw [eE];exact hst
  ·have hkl:=Ov hk
   have:=gr.le 0 k (by omega)
   rw [dZ] at this
   exact sr.out _ this
theorem QR {r:Option Nat} {n:Nat} {cfg:bi} {call:b9} (hm:cfg.P.follows .mixedOrders=true) (hp:gh cfg.P call.pc) (hi:eY cfg.P call.ic) {ops:Array Oper} {Q:Exit->Act->World->Prop} {id:Nat} {l:List aF} {env:List V} {s':S} {a:Act}
  (hd:uB ops l=true) (hl:lE ops ops.toList l) (hchk:pZ cfg l s'.env=true) (h:jF cfg call true l ⟨env,mem⟩=some s') (st:St Z w j env a) (sr:SR cfg.P Z w j mem) (hQ:∀a' w',vO cfg.P Z w j mem s' a' w'->fi l a a'->Q .normal a' w') :
  (Code.region id ops true).wpIn (FR r) n cfg.P Q a w:=by
 have hll:l.length=ops.size:=by have:=hl.1;simpa using this
 obtain ⟨vs,sts,e0,e1,htr,hcp⟩:∃(vs:Nat->V) (st:Nat->S),st 0=⟨env,mem⟩/\st l.length=s'/\(∀(k:Nat) (o:aF),l[k]? = some o->i4 cfg call o (st k) (vs k) (st (k+1)))/\BE cfg l st:=by
  unfold jF at h
  split at h
  rotate_left
  ·rename_i hno
   have hno:l.any fG=false:=by simpa using hno
   obtain ⟨vs,sts,e0,e1,htr⟩:=ZL l ⟨env,mem⟩ s' h
   exact ⟨vs,sts,e0,e1,htr,fun i q n ok _ _ aR hc=>by have:=tI.1 hno ok (cG aR);rw [hc] at this;simp at this⟩
  ·simp only [obi] at h
   obtain ⟨⟨s1,fs⟩,h,hc⟩:=h
   split at hc
   rotate_left
   ·cases hc
   cases hc
   rename_i hc
   obtain ⟨vs,sts,e0,e1,htr,_,hf⟩:=Wx l ⟨env,mem⟩ _ [] fs h
   exact ⟨vs,sts,e0,e1,htr,Qt htr (by rw [e1];exact hc) hf⟩
 refine wpIn_region_any hm ?_
 have hz:be Z w Z { w with drawn:=w.drawn+1 }:=.of fun g o h=>⟨h,rfl,rfl⟩
 have no:∀k,(BD ops.size false).getD k false=false:=by intro k;simp [gG,Array.getElem?_replicate];split<;>rfl
 have eE:∀n,EL (sts 0).env l vs (fun k=>(BD ops.size false).getD k false) n=env:=by
  intro n
  induction n with
  | zero=>simp [EL,e0]
  | succ n ih=>simp only [EL];rw [if_neg (by simp only [no n];simp)];exact ih
 have eM:∀n,ML l sts (fun k=>(BD ops.size false).getD k false) n=mem:=by
  intro n
  induction n with
  | zero=>simp [ML,e0]
  | succ n ih=>simp only [ML];rw [if_neg (by simp only [no n];simp)];exact ih
 unfold uB at hd
 rw [mTz] at hd
 rcases hd with hd | hd
 rotate_left
 ·exact TF (Z:=Z) (w:=w) (j:=j) hl hd htr (by rw [<-hll,e1,e0];exact hQ) ops.size _ a (by simp) (by simp) no (by rw [e0];exact st.mono hz (aQ.refl _)) (by rw [e0];exact sr.world hz (fun g _=>⟨rfl,fun _=>Iff.rfl⟩) sr.zin)
   (by rw [e0];exact ⟨rfl,rfl,rfl,bG _,fun _ _ _=>⟨rfl,fun _=>Iff.rfl⟩,fun _ _ h=>h,hz,fun _ h=>⟨h,rfl⟩⟩) (fi.refl l a)
 refine O9 (Z:=Z) (w:=w) (j:=j) hp hi hl hd (by rw [<-hll,e1];exact hchk) hcp htr ?_ ops.size _ a _ (by simp) (by simp) (fun k o ho hD=>by simp [no] at hD) ⟨Z,j,?_,?_,?_,aQ.refl _,⟨fun k m d T _ hk=>by simp [no] at hk,fun k m d T _ _ _ _ _ _ hk=>by simp [no] at hk⟩⟩ (fi.refl l a)
 ·rw [<-hll,e1,e0];exact hQ
 ·rw [eE];exact st.mono hz (aQ.refl _)
 ·rw [eM];exact sr.world hz (fun g _=>⟨rfl,fun _=>Iff.rfl⟩) sr.zin
 ·rw [eM,e0]
  exact ⟨rfl,rfl,rfl,bG _,fun _ _ _=>⟨rfl,fun _=>Iff.rfl⟩,fun _ _ h=>h,hz,fun _ h=>⟨h,rfl⟩⟩
end
section
variable {P:Program} {Z Z':Zs} {w w':World} {j j':J} {mem mem':List O}
theorem ZJ {s:S} {a:Act} {n0:Nat} {ids:List Nat} (hn:n0<=s.mem.length) (hnd:ids.Nodup) (hge:∀i∈ids,n0<=i) (st:St Z w j s.env a) (sr:SR P Z w j s.mem) :
  St Z w (fc n0 ids j) (iB n0 ids s).env a/\SR P Z w (fc n0 ids j) (iB n0 ids s).mem/\aI Z w j s.mem Z w (fc n0 ids j) (iB n0 ids s).mem/\∀id,id < n0->fc n0 ids j id=j id:=by
 obtain ⟨h1,h2,h3⟩:=N9 hn hnd hge sr
 refine ⟨⟨by simp [iB,st.len],fun i v hv=>?_⟩,h1,⟨rfl,rfl,rfl,bG _,fun _ _ _=>⟨rfl,fun _=>Iff.rfl⟩,fun g _ hg=>?_,be.refl _ _,fun t hno=>⟨fun k o n ho hr=>?_,rfl⟩⟩,h3⟩
 ·simp only [iB,dB,omi] at hv
  obtain ⟨v0,h0,rfl⟩:=hv
  obtain ⟨u,hu,hvr⟩:=st.val i v0 h0
  exact ⟨u,hu,hvr.ren2 (Fp n0 ids j)⟩
 ·obtain ⟨k,o,ho,hl,hb⟩:=hg
  obtain ⟨i,o0,h0,hl0,ha,hji,_⟩:=h2 k o ho hl
  exact ⟨i,o0,h0,hl0,ZH ha hji hb⟩
 ·obtain ⟨i,o0,h0,hl0,ha,_,_⟩:=h2 k o ho (mN hr)
  exact hno i o0 n h0 (by rw [<-ha];exact hr)
theorem Tu {a:Act}:∀(ts:List Nat) (env:List V),St Z w j env a->St Z w j (e9 env ts) a:=by
 intro ts
 induction ts with
 | nil=>intro env h;exact h
 | cons t ts ih =>
  intro env h
  refine ih _ ⟨by simp [h.len],fun i v hv=>?_⟩
  by_cases e:t=i
  ·subst e
   have aC:t < env.length:=by have:=(bj.1 hv).1;simpa using this
   rw [fj aC] at hv
   cases hv
   exact ⟨a.tmps[t]'(by rw [h.len];exact aC),eW _,.junk⟩
  ·rw [fE e] at hv
   exact h.val i v hv
def JK (n0:Nat) (j j':J):Prop:=∀id h,id < n0->j id=some h->j' id=some h
theorem j8 {s:S} {a:Act} (n0:Nat) (f:List Nat) (st:St Z w j s.env a) (sr:SR P Z w j s.mem) :
  ∃j',St Z w j' (cM n0 f s).env a/\SR P Z w j' (cM n0 f s).mem/\aI Z w j s.mem Z w j' (cM n0 f s).mem/\JK n0 j j':=by
 obtain ⟨h1,h2⟩:=Uj (min n0 s.mem.length) ⟨e9 s.env f,s.mem⟩
 obtain ⟨a1,a2,a3,a4⟩:=ZJ (s:=⟨e9 s.env f,s.mem⟩) (Nat.min_le_right n0 s.mem.length) h1 h2 (Tu f s.env st) sr
 refine ⟨_,a1,a2,a3,fun id h hid hj=>?_⟩
 by_cases hl:id < s.mem.length
 ·rw [a4 id (by omega)];exact hj
 ·rw [sr.out id (by omega)] at hj;cases hj
end
set_option linter.unusedVariables false
section
variable {P:Program} {Z Z':Zs} {w w':World} {j j':J} {mem mem':List O}
theorem JK.refl (n0:Nat) (j:J):JK n0 j j:=fun _ _ _ h=>h
theorem JK.trans {n0:Nat} {j1:J} (h:JK n0 j j1) (h':JK n0 j1 j'):JK n0 j j':=fun id x hl e=>h' id x hl (h id x hl e)
theorem JK.of {n0:Nat} (h:aQ j j'):JK n0 j j':=fun id x _ e=>h id x e
def lj:Obj->Bool
 | .loop _=>true
 | .deferred _=>true
 | .mapIter _ _ _ _=>true
 | _=>false
theorem WJ (s:SR P Z w j mem) {g:Nat} (h:bd Z j mem g):∃o,w.heap[g]? = some o/\lj o=false:=by
 obtain ⟨id,o,hm,hl,hb⟩:=h
 have hO:=s.obj id o hm
 cases o with
 | dead=>cases hl
 | row t els fz =>
  obtain ⟨h,hh,_,_,_,_,h5⟩:=hO
  rcases h5 with ⟨hu,_⟩ | ⟨g',b,c,us,hu,_,_,hg,_⟩
  ·cases h;simp only at hu;subst hu;simp [bf,O.ar,cf,hh,bz.blk] at hb
  ·cases h;simp only at hu;subst hu;simp [bf,O.ar,cf,hh,bz.blk] at hb;subst hb;exact ⟨_,hg,rfl⟩
 | arena t els =>
  obtain ⟨k,hk,hg⟩:=hb
  obtain ⟨us,h1,_⟩:=hO.2 k _ g (bC hk) hg
  exact ⟨_,h1,rfl⟩
 | marena t ms =>
  obtain ⟨k,hk,hg⟩:=hb
  obtain ⟨es',clock,h1,_⟩:=hO.2 k _ g (bC hk) hg
  exact ⟨_,h1,rfl⟩
 | box t v fz =>
  obtain ⟨g',us,h1,h2,_⟩:=hO
  simp [bf,O.ar,cf,h1,bz.blk] at hb
  subst hb
  exact ⟨_,h2,rfl⟩
 | map es =>
  obtain ⟨r,es',clock,h1,h2,_⟩:=hO
  simp [bf,O.ar,cf,h1,bz.blk] at hb
  subst hb
  exact ⟨_,h2,rfl⟩
theorem Au (s:SR P Z w j mem) {g:Nat} {o:Obj} (h:w.heap[g]? = some o) (hk:lj o=true):¬bd Z j mem g:=by
 intro ho
 obtain ⟨o',h1,h2⟩:=WJ s ho
 rw [h] at h1;cases h1
 rw [hk] at h2;cases h2
theorem HY {g x:Nat} {o:Obj} (h:w.heap[g]? = some o) (hk:lj o=true):w.cell? ⟨g,x,none⟩=none/\gy w g=none:=by
 cases o<;>first | (cases hk;done) | (exact ⟨by simp [World.cell?,h],by simp [gy,h]⟩)
theorem rE {L:Nat} {o o':Obj} (h:w.heap[L]? = some o) (hk:lj o=true) (hk':lj o'=true):be Z w Z (w.putObj L o'):=by
 have aC:=(eX.1 h).1
 refine .of fun g x hz=>⟨hz,?_⟩
 by_cases e:g=L
 ·subst e
  obtain ⟨a,b⟩:=HY (x:=x) h hk
  obtain ⟨a',b'⟩:=HY (x:=x) (World.putObj_heap_same (o:=o') aC) hk'
  exact ⟨a'.trans a.symm,b'.trans b.symm⟩
 ·exact gC (World.putObj_heap_other e) x
theorem SR.book (s:SR P Z w j mem) {L:Nat} {o o':Obj} (h:w.heap[L]? = some o) (hk:lj o=true) (hk':lj o'=true):SR P Z (w.putObj L o') j mem :=
 s.world (rE h hk hk') (fun g hg=>⟨World.putObj_heap_other fun e=>Au s h hk (e ▸ hg),fun _=>Iff.rfl⟩) (fun g x hz=>by rw [World.putObj_size];exact s.zin g x hz)
theorem aI.book {Z0:Zs} {w0:World} {j0':J} {mem0:List O} (st:aI Z0 w0 j0' mem0 Z w j mem) {L:Nat} {o o':Obj} (hL:w0.heap.size<=L) (h:w.heap[L]? = some o) (hk:lj o=true) (hk':lj o'=true) :
  aI Z0 w0 j0' mem0 Z (w.putObj L o') j mem :=
 ⟨st.os,st.tape,st.output,by rw [World.putObj_size];exact st.size,fun g hg hno=>⟨(World.putObj_heap_other (by omega)).trans (st.keep g hg hno).1,(st.keep g hg hno).2⟩,st.owned,st.z.trans (rE h hk hk'),st.ar⟩
def v7 (w w':World):Prop:=w'.heap=w.heap/\w'.os=w.os/\w'.tape=w.tape/\w'.output=w.output
theorem xS (h:v7 w w'):be Z w Z w':=.of fun g x hz=>⟨hz,gC (by rw [h.1]) x⟩
theorem SR.same (s:SR P Z w j mem) (h:v7 w w'):SR P Z w' j mem:=s.world (xS h) (fun g _=>⟨by rw [h.1],fun _=>Iff.rfl⟩) (fun g x hz=>by rw [h.1];exact s.zin g x hz)
theorem aI.same {Z0:Zs} {w0:World} {j0':J} {mem0:List O} (st:aI Z0 w0 j0' mem0 Z w j mem) (h:v7 w w'):aI Z0 w0 j0' mem0 Z w' j mem :=
 ⟨h.2.1.trans st.os,h.2.2.1.trans st.tape,h.2.2.2.trans st.output,by rw [h.1];exact st.size,fun g hg hno=>⟨by rw [h.1];exact (st.keep g hg hno).1,(st.keep g hg hno).2⟩,st.owned,st.z.trans (xS h),st.ar⟩
def xl (D:Nat):Deferred:={ target:=.collected D,args:=#[] }
def Mk (B:Nat) (w:World) (ds ds':List Deferred):Prop:=∃Ds:List Nat,ds'=Ds.map xl++ds/\Ds.Nodup/\∀D∈Ds,B<=D/\w.heap[D]? = some (.deferred (some []))
structure d8 (ws:List Nat) (w:World) (a a':Act) (w':World):Prop where
 marks:Mk w.heap.size w' a.defers a'.defers
 size:a'.tmps.size=a.tmps.size
 tmps:∀i,i∉ws->a'.tmps[i]? = a.tmps[i]?
theorem Mk.refl (B:Nat) (w:World) (ds:List Deferred):Mk B w ds ds:=⟨[],rfl,.nil,fun D h=>by simp at h⟩
theorem d8.refl (ws:List Nat) (w:World) (a:Act) (w':World):d8 ws w a a w':=⟨Mk.refl _ _ _,rfl,fun _ _=>rfl⟩
theorem d8.of {l:List aF} {a a':Act} (h:fi l a a') (w w':World):d8 (l.filterMap (·.dst)) w a a' w' :=
 ⟨by rw [h.defs];exact Mk.refl _ _ _,h.size,fun i hi=>h.tmps i fun o ho e=>hi (tL.2 ⟨o,ho,e⟩)⟩
theorem d8.weak {ws ws':List Nat} {a a':Act} (h:d8 ws w a a' w') (hs:∀i∈ws,i∈ws'):d8 ws' w a a' w':=⟨h.marks,h.size,fun i hi=>h.tmps i fun e=>hi (hs i e)⟩
theorem d8.trans {ws ws':List Nat} {a a1 a2:Act} {w0 w1 w2:World} {Z1 Z2:Zs} {j1 j2:J} {mem1 mem2:List O} (h:d8 ws w0 a a1 w1) (s1:SR P Z1 w1 j1 mem1) (st:aI Z1 w1 j1 mem1 Z2 w2 j2 mem2) (hs:w0.heap.size<=w1.heap.size) (h':d8 ws' w1 a1 a2 w2) :
  d8 (ws++ws') w0 a a2 w2:=by
 obtain ⟨⟨D1,e1,n1,k1⟩,z1,t1⟩:=h
 obtain ⟨⟨D2,e2,n2,k2⟩,z2,t2⟩:=h'
 have lt1:∀D∈D1,D < w1.heap.size:=fun D hD=>(eX.1 (k1 D hD).2).1
 refine ⟨⟨D2++D1,by rw [e2,e1];simp,?_,fun D hD=>?_⟩,z2.trans z1,fun i hi=>?_⟩
 ·rw [yq]
  refine ⟨n2,n1,fun x hx y hy e=>?_⟩
  have:=(k2 x hx).1
  have:=lt1 y hy
  omega
 ·rcases bp.1 hD with hD | hD
  ·exact ⟨lD hs (k2 D hD).1,(k2 D hD).2⟩
  ·exact ⟨(k1 D hD).1,((st.keep D (lt1 D hD) (Au s1 (k1 D hD).2 rfl)).1).trans (k1 D hD).2⟩
 ·simp only [bp,not_or] at hi
  exact (t2 i hi.2).trans (t1 i hi.1)
def jp (P:Program) (n0:Nat) (Z:Zs) (w:World) (j:J) (mem:List O) (s':S) (a:Act) (w':World):Prop :=
 ∃Z' j',St Z' w' j' s'.env a/\SR P Z' w' j' s'.mem/\aI Z w j mem Z' w' j' s'.mem/\JK n0 j j'
theorem jp.trans {n0:Nat} {Z1:Zs} {w1:World} {j1:J} {mem1:List O} {s':S} {a:Act} (h:aI Z w j mem Z1 w1 j1 mem1) (hj:JK n0 j j1) (h':jp P n0 Z1 w1 j1 mem1 s' a w'):jp P n0 Z w j mem s' a w' :=
 let ⟨Z2,j2,a1,a2,a3,a4⟩:=h'
 ⟨Z2,j2,a1,a2,h.trans a3,hj.trans a4⟩
def Ex.toExit:Ex->Exit
 | .norm=>.normal
 | .exit i=>.exit i
 | .ret=>.ret
theorem UL {step:S->Option (Ex × S)} {Q:Ex->Prop} (hq:∀s r,step s=some r->r.1≠.norm->Q r.1):∀(n:Nat) (s:S) (r:Ex × S),dm step n s=some r->Q r.1/\r.1≠.norm:=by
 intro n
 induction n with
 | zero=>intro s r h;simp [dm] at h
 | succ n ih =>
  intro s r h
  simp only [dm] at h
  cases hs:step s with
  | none=>simp [hs] at h
  | some r1 =>
   obtain ⟨x,s1⟩:=r1
   simp only [hs,aJ] at h
   cases x with
   | norm=>exact ih _ _ h
   | exit i=>cases h;exact ⟨hq _ _ hs (by simp),by simp⟩
   | ret=>cases h;exact ⟨hq _ _ hs (by simp),by simp⟩
theorem JJ {cfg:bi} {call:b9} {n n0:Nat}:∀(c:C) (s:S) (i:Nat) (s':S),exec cfg call n n0 c s=some (.exit i,s')->i∈dq c:=by
 intro c
 induction c with
 | skip=>intro s i s' h;simp [exec] at h
 | ops dr l =>
  intro s i s' h
  simp only [exec,obi] at h
  obtain ⟨_,_,h⟩:=h
  split at h<;>cases h
 | seq a b iha ihb =>
  intro s i s' h
  simp only [exec] at h
  cases h1:exec cfg call n n0 a s with
  | none=>simp [h1] at h
  | some r =>
   obtain ⟨x,s1⟩:=r
   simp only [h1,aJ] at h
   cases x with
   | norm=>exact bp.2 (.inr (ihb _ _ _ h))
   | exit k=>cases h;exact bp.2 (.inl (iha _ _ _ h1))
   | ret=>cases h
 | cseq f a b iha ihb =>
  intro s i s' h
  simp only [exec] at h
  cases h1:exec cfg call n n0 a s with
  | none=>simp [h1] at h
  | some r =>
   obtain ⟨x,s1⟩:=r
   simp only [h1,aJ] at h
   cases x with
   | norm=>exact bp.2 (.inr (ihb _ _ _ h))
   | exit k=>cases h;exact bp.2 (.inl (iha _ _ _ h1))
   | ret=>cases h
 | cond c a b iha ihb =>
  intro s i s' h
  simp only [exec] at h
  cases h1:aO s.env c with
  | none=>simp [h1] at h
  | some v =>
   cases v<;>simp only [h1,aJ] at h<;>first | (cases h;done) | skip
   split at h
   ·exact bp.2 (.inl (iha _ _ _ h))
   ·exact bp.2 (.inr (ihb _ _ _ h))
 | block id c ih =>
  intro s i s' h
  simp only [exec,omi] at h
  obtain ⟨⟨x,s1⟩,h1,h2⟩:=h
  cases x with
  | norm=>cases h2
  | ret=>cases h2
  | exit k =>
   simp only at h2
   split at h2
   ·cases h2
   ·cases h2;exact ih _ _ _ h1
 | loop f c ih =>
  intro s i s' h
  simp only [exec,omi] at h
  obtain ⟨⟨x,s1⟩,h1,h2⟩:=h
  cases h2
  have:=UL (Q:=fun x=>∀k,x = .exit k->k∈dq c) (fun s r hr _ k e=>ih _ k r.2 (by rw [<-e];exact hr)) _ _ _ h1
  exact this.1 i rfl
 | exit k=>intro s i s' h;simp only [exec,Option.some.injEq,Prod.mk.injEq,Ex.exit.injEq] at h;rw [<-h.1];exact eZ.2 rfl
 | ret=>intro s i s' h;simp [exec] at h
 | start g=>intro s i s' h;simp only [exec,omi] at h;obtain ⟨_,_,h⟩:=h;cases h
 | uncons g ps ws a b iha ihb =>
  intro s i s' h
  simp only [exec] at h
  split at h
  ·exact bp.2 (.inr (ihb _ _ _ h))
  ·split at h
   ·simp only [omi] at h
    obtain ⟨⟨x,s1⟩,h1,h2⟩:=h
    cases h2
    exact bp.2 (.inl (iha _ _ _ h1))
   ·cases h
  ·cases h
theorem Zo {cfg:bi} {call:b9} {n n0:Nat}:∀(c:C),vG c=true->∀(s:S) (x:Ex) (s':S),exec cfg call n n0 c s=some (x,s')->x = .norm:=by
 intro c
 induction c with
 | skip=>intro _ s x s' h;simp [exec] at h;exact h.1.symm
 | ops dr l =>
  intro _ s x s' h
  simp only [exec,obi] at h
  obtain ⟨_,_,h⟩:=h
  split at h<;>cases h
  rfl
 | seq a b iha ihb =>
  intro hs s x s' h
  simp only [vG,bv] at hs
  simp only [exec] at h
  cases h1:exec cfg call n n0 a s with
  | none=>simp [h1] at h
  | some r =>
   obtain ⟨x1,s1⟩:=r
   have:=iha hs.1 _ _ _ h1
   subst this
   simp only [h1,aJ] at h
   exact ihb hs.2 _ _ _ h
 | _=>intro hs;cases hs
theorem Ts:∀(f:List Nat) (env:List V) (i:Nat),(e9 env f)[i]? = env[i]?∨(e9 env f)[i]? = some .junk:=by
 intro f
 induction f with
 | nil=>intro env i;exact .inl rfl
 | cons t f ih =>
  intro env i
  simp only [e9]
  rcases ih (env.set t .junk) i with h | h
  ·rw [h]
   by_cases e:t=i
   ·subst e
    by_cases hl:t < env.length
    ·exact .inr (fj hl)
    ·left;rw [List.set_eq_of_length_le (by omega)]
   ·exact .inl (fE e)
  ·exact .inr h
theorem Dx:∀(f:List Nat) (env:List V),(e9 env f).length=env.length:=by
 intro f
 induction f with
 | nil=>intro env;rfl
 | cons t f ih=>intro env;simp only [e9];rw [ih,nZ]
theorem Tt:∀(f:List Nat) (env:List V) (i:Nat) (v:V),(e9 env f)[i]? = some v->v = .junk∨(i∉f/\env[i]? = some v):=by
 intro f
 induction f with
 | nil=>intro env i v h;exact .inr ⟨by simp,h⟩
 | cons t f ih =>
  intro env i v h
  simp only [e9] at h
  rcases ih _ i v h with e | ⟨h1,h2⟩
  ·exact .inl e
  ·by_cases e:t=i
   ·subst e
    have aC:t < env.length:=by have:=(bj.1 h2).1;simpa using this
    rw [fj aC] at h2
    exact .inl (Option.some.inj h2).symm
   ·rw [fE e] at h2
    exact .inr ⟨by simp [h1,Ne.symm e],h2⟩
theorem Ij {n0:Nat} {f:List Nat} {s:S} {g:Nat} {ts:List TypeId} {l:List V} (h:s.env[g]? = some (.rest ts l)):(cM n0 f s).env[g]? = some (.rest ts l)∨(cM n0 f s).env[g]? = some .junk:=by
 simp only [cM,N8,iB,dB]
 rcases Ts f s.env g with e | e
 ·rw [e,h];exact .inl rfl
 ·rw [e];exact .inr rfl
end
section
variable {P:Program} {Z Z':Zs} {w w':World} {j j':J} {mem mem':List O}
def yj (Z:Zs) (w w':World):Prop:=w.heap.size<=w'.heap.size/\∀g o,Z g o->w'.cell? ⟨g,o,none⟩=w.cell? ⟨g,o,none⟩
theorem yj.of (hs:w.heap.size<=w'.heap.size) (h:be Z w Z' w'):yj Z w w':=⟨hs,fun g o hz=>(h g o hz).2.1⟩
def pA (P:Program) (seqp:FuncId->Option (List TypeId × (List V->Option (List (List V))))):Prop :=
 ∀f ts h as0 rounds,seqp f=some (ts,h)->h as0=some rounds->∀(Z:Zs) (w:World) (us:List Value),(∀g o,Z g o->g < w.heap.size)->eB Z w j0 as0 us ->
  (∀args w,(callFunc f args).run P w = .ok (.enter f args) w) /\
  ∃encs:List (List Value),encs.length=rounds.length/\(∀(k:Nat) (x:List V) (u:List Value),rounds[k]? = some x->encs[k]? = some u->eB Z w j0 x u) /\
   ∀(l:Nat) (I:Nat->World->Prop) (Ix:World->Prop) (W:World),(∀k W1 W2,I k W1->v7 W1 W2->I k W2)->(∀W1 W2,Ix W1->v7 W1 W2->Ix W2)->(∀k W1,I k W1->yj Z w W1) ->
    (∀(k:Nat) (u:List Value) (W1:World),encs[k]? = some u->I k W1->YieldAt Fence.wide 0 P l u.toArray W1 fun e W2=>(e = .returned (.bool true)/\I (k+1) W2)∨(e = .returned (.bool false)/\Ix W2)) ->
    I 0 W->Calls P f (#[.func (.yield l) #[] #[]]++us.toArray) W fun e W'=>(∃v,e = .returned v)/\(I encs.length W'∨Ix W')
theorem VR.tmps {env:List V} {a a':Act} (s:St Z w j env a) (h:a'.tmps=a.tmps):St Z w j env a':=⟨by rw [h];exact s.len,by rw [h];exact s.val⟩
theorem St.setJunk {env:List V} {a:Act} (s:St Z w j env a) (g:Nat) (v:V) (hv:∀u,VR Z w j v u):St Z w j (env.set g v) a:=by
 refine ⟨by simp [s.len],fun i x hx=>?_⟩
 by_cases e:g=i
 ·subst e
  have aC:g < env.length:=by have:=(bj.1 hx).1;simpa using this
  rw [fj aC] at hx
  cases hx
  exact ⟨a.tmps[g]'(by rw [s.len];exact aC),eW _,hv _⟩
 ·rw [fE e] at hx
  exact s.val i x hx
theorem YF {ds:List Deferred}:∀(ps:List Nat) (vs:List V) (us:List Value) (env:List V) (T:Array Value),vs.length=ps.length->eB Z w j vs us->St Z w j env { tmps:=T,defers:=ds } ->
  St Z w j (tj env ps vs) { tmps:=(ps.zip us).foldl (fun t (p,v)=>t.setIfInBounds p v) T,defers:=ds }/\((ps.zip us).foldl (fun t (p,v)=>t.setIfInBounds p v) T).size=T.size /\
   ∀i,i∉ps->((ps.zip us).foldl (fun t (p,v)=>t.setIfInBounds p v) T)[i]? = T[i]?:=by
 intro ps
 induction ps with
 | nil=>intro vs us env T hl hv st;cases vs<;>exact ⟨st,rfl,fun _ _=>rfl⟩
 | cons p ps ih =>
  intro vs us env T hl hv st
  cases vs with
  | nil=>simp at hl
  | cons v vs =>
   cases us with
   | nil=>have:=hv.1;simp at this
   | cons u us =>
    have hv':eB Z w j vs us:=⟨by have:=hv.1;simpa using this,fun i x y h1 h2=>hv.2 (i+1) x y (by simpa using h1) (by simpa using h2)⟩
    have s1:St Z w j (env.set p v) { tmps:=T.setIfInBounds p u,defers:=ds }:=st.put (some p) (hv.2 0 v u rfl rfl)
    obtain ⟨a,b,c⟩:=ih vs us _ _ (by simpa using hl) hv' s1
    refine ⟨a,b.trans (by simp),fun i hi=>?_⟩
    simp only [bP,not_or] at hi
    exact (c i hi.2).trans (G1 (Ne.symm hi.1))
theorem aae (ps:Array Tmp) (us:List Value) (T:Array Value):(ps.zip us.toArray).foldl (fun t (p,v)=>t.setIfInBounds p v) T=(ps.toList.zip us).foldl (fun t (p,v)=>t.setIfInBounds p v) T:=by
 rw [<-Array.foldl_toList]
 congr 1
 simp
def xq (B:Nat):Ex->Exit
 | .exit i=>if i=B then .normal else .exit i
 | y=>y.toExit
theorem Xv {cfg:bi} {call:b9} (hq:pA cfg.P cfg.seqp) {n n0:Nat} {g:Nat} {ps:Array Tmp} {rC body:Code} {F:List Nat} {ca cb:C} {ws:List Nat} {B:Nat}
  (hws:∀i,i∈ps.toList∨i∈cV ca∨i∈cV cb->i∈ws) (hst:vG ca=true) (hex:B∉dq cb)
  (iha:∀(r:Nat) (s:S) (x:Ex) (s':S),exec cfg call n n0 ca s=some (x,s')->∀(a:Act) (w:World) (Z:Zs) (j:J),St Z w j s.env a->SR cfg.P Z w j s.mem ->
   ∀(Q:Exit->Act->World->Prop),(∀a' w',jp cfg.P n0 Z w j s.mem s' a' w'->d8 (cV ca) w a a' w'->Q x.toExit a' w')->rC.wpIn (FR (some r)) 0 cfg.P Q a w)
  (ihb:∀(r:Nat) (s:S) (x:Ex) (s':S),exec cfg call n n0 cb s=some (x,s')->∀(a:Act) (w:World) (Z:Zs) (j:J),St Z w j s.env a->SR cfg.P Z w j s.mem ->
   ∀(Q:Exit->Act->World->Prop),(∀a' w',jp cfg.P n0 Z w j s.mem s' a' w'->d8 (cV cb) w a a' w'->Q x.toExit a' w')->body.wpIn (FR (some r)) 0 cfg.P Q a w)
  {s s1:S} (h1:tz cfg g s=some s1) {y0:Ex} {s20:S} {N:Nat} (h2:dm (fun s=>exec cfg call n n0 (.uncons g ps.toList ws (.seq ca cb) (.exit B)) (cM n0 F s)) N s1=some (y0,s20))
  {a:Act} {w:World} {Z:Zs} {j:J} (st:St Z w j s.env a) (sr:SR cfg.P Z w j s.mem) {Q:Exit->Act->World->Prop}
  (hQ:∀a' w',jp cfg.P n0 Z w j s.mem (cM n0 F s20) a' w'->d8 [] w a a' w'->Q (xq B y0) a' w') (m:Nat) :
  (Code.rangeFunc (.tmp g) ps rC body).wpIn (FR none) m cfg.P Q a w:=by
 unfold tz at h1
 split at h1
 rotate_left
 ·cases h1
 rename_i f caps henv
 split at h1
 ·cases h1
 rename_i hfb
 simp only [obi,omi] at h1
 obtain ⟨⟨ts,hh⟩,hseq,as0,hsn,l,hl,hs1⟩:=h1
 simp only at hl hs1
 obtain ⟨u0,hu0,hv0⟩:=st.val g _ henv
 have hv1:=YX (q:=cfg.sqj f) sr hsn hv0
 obtain ⟨sr1,ow1⟩:=sd (w:=w) (j:=j) (caps.flatMap (m5 (cfg.sqj f) s.mem)) Z s.mem sr
 obtain ⟨Z1,hZ1⟩:∃Z1,Z1=cS Z (Fz cfg.P j s.mem (caps.flatMap (m5 (cfg.sqj f) s.mem))):=⟨_,rfl⟩
 rw [<-hZ1] at hv1 sr1
 have stp1:aI Z w j s.mem Z1 w j (freezeAll (caps.flatMap (m5 (cfg.sqj f) s.mem)) s.mem):=by
  subst hZ1
  exact ⟨rfl,rfl,rfl,bG _,fun g' hg hno=>⟨rfl,fun o=>⟨fun h=>h.resolve_right fun ⟨id,_,hb,ho⟩=>hno (nw sr hb ho),.inl⟩⟩,fun g' _ ho=>(ow1 g').1 ho,be.or _ _ _,fun _ h=>⟨h.freezeAll _,rfl⟩⟩
 have hz1:be Z w Z1 w:=stp1.z
 obtain ⟨us,rfl,hus⟩:∃us:List Value,u0 = .func (.func f) #[] us.toArray/\eB Z1 w j0 as0 us:=by
  cases hv1 with
  | fn hl' hh'=>exact ⟨_,zI (Nat.lt_of_not_le hfb),hl',hh'⟩
 have heval:a.eval (.tmp g) = .func (.func f) #[] us.toArray:=by simp [Act.eval,hu0,gG]
 obtain ⟨hin,encs,e1,e2,e3⟩:=hq f ts hh as0 l hseq hl Z1 w us sr1.zin hus
 refine wpIn_rangeFunc ?_
 intro fn _
 obtain ⟨rec,hrec⟩:∃rec:LoopState->Option Code->Loop,rec=fun st pe=>{ state:=st,pending:=pe,fn,tmps:=a.tmps,params:=ps,assign:=rC,body,defers:=w.heap.size }:=⟨_,rfl⟩
 have hpend:∀st pe,(rec st pe).pending=pe:=fun st pe=>by rw [hrec]
 have hstate:∀st pe,(rec st pe).state=st:=fun st pe=>by rw [hrec]
 obtain ⟨W1,hW1⟩:∃W1,(w.alloc (.deferred (some []))).alloc (.loop (rec .ready none))=W1:=⟨_,rfl⟩
 have hL1:W1.heap[w.heap.size+1]? = some (.loop (rec .ready none)):=by
  rw [<-hW1];have:=World.alloc_heap_new (w.alloc (.deferred (some []))) (.loop (rec .ready none));rwa [World.size_alloc] at this
 have hD1:W1.heap[w.heap.size]? = some (.deferred (some [])):=by
  rw [<-hW1];exact (kp (w:=w.alloc (.deferred (some []))) (w1:=(w.alloc (.deferred (some []))).alloc (.loop (rec .ready none))) rfl (by rw [World.size_alloc];omega)).trans (World.alloc_heap_new w _)
 have srW:SR cfg.P Z1 W1 j s1.mem:=by rw [<-hW1,<-hs1];exact (sr1.alloc _).alloc _
 have stpW:aI Z w j s.mem Z1 W1 j s1.mem:=by
  rw [<-hW1,<-hs1];exact (stp1.trans (aI.alloc sr1 _)).trans (aI.alloc (sr1.alloc _) _)
 have zW:be Z1 w Z1 W1:=by
  rw [<-hW1];exact (yR sr1.zin).trans (yR (sr1.alloc _).zin)
 have st0:St Z1 W1 j s1.env a:=by
  rw [<-hs1]
  exact ((st.mono hz1 (aQ.refl _)).mono zW (aQ.refl _)).setJunk g _ (fun _=>.rest)
 obtain ⟨step,hstep⟩:∃step,step=fun s=>exec cfg call n n0 (.uncons g ps.toList ws (.seq ca cb) (.exit B)) (cM n0 F s):=⟨_,rfl⟩
 rw [<-hstep] at h2
 let I:Nat->World->Prop:=fun k W=>∃(Z':Zs) (j':J) (sk:S) (mm:Nat),SR cfg.P Z' W j' sk.mem/\St Z' W j' sk.env a/\aI Z w j s.mem Z' W j' sk.mem/\JK n0 j j'/\be Z1 w Z' W /\
  sk.env[g]? = some (.rest ts ((l.drop k).map .tup))/\dm step mm sk=some (y0,s20)/\W.heap[w.heap.size+1]? = some (.loop (rec .ready none))/\W.heap[w.heap.size]? = some (.deferred (some []))
 let Ix:World->Prop:=fun W=>∃(Z':Zs) (j':J) (c:Code),SR cfg.P Z' W j' s20.mem/\St Z' W j' s20.env a/\aI Z w j s.mem Z' W j' s20.mem/\JK n0 j j' /\
  ((y0 = .ret/\c = .ret)∨∃i,y0 = .exit i/\i≠B/\c = .exit i)/\W.heap[w.heap.size+1]? = some (.loop (rec .done (some c)))/\W.heap[w.heap.size]? = some (.deferred (some []))
 have main:=e3 (w.heap.size+1) I Ix W1
  (fun k A B' ⟨Z',j',sk,mm,q1,q2,q3,q4,q5,q6,q7,q8,q9⟩ hs=>⟨Z',j',sk,mm,q1.same hs,q2.mono (xS hs) (aQ.refl _),q3.same hs,q4,q5.trans (xS hs),q6,q7,by rw [hs.1];exact q8,by rw [hs.1];exact q9⟩)
  (fun A B' ⟨Z',j',c,q1,q2,q3,q4,q5,q6,q7⟩ hs=>⟨Z',j',c,q1.same hs,q2.mono (xS hs) (aQ.refl _),q3.same hs,q4,q5,by rw [hs.1];exact q6,by rw [hs.1];exact q7⟩)
  (fun k W ⟨Z',j',sk,mm,q1,q2,q3,q4,q5,_⟩=>yj.of q3.size q5)
  ?_
  ⟨Z1,j,s1,N,srW,st0,stpW,JK.refl _ _,zW,by rw [<-hs1];simp only [pu];exact fj (bj.1 henv).1,h2,hL1,hD1⟩
 ·-- entering,and behind the function
  refine ⟨w.heap.size+1,[xl w.heap.size],W1,{ target:=.fn (.func f) us.toArray,args:=#[.func (.yield (w.heap.size+1)) #[] #[]] },W1,f,#[.func (.yield (w.heap.size+1)) #[] #[]]++us.toArray,W1,?_,?_,?_,?_,fun h=>(by cases h),?_⟩
  ·rw [<-hW1,hrec];exact run_enterLoop_outer _ _ _ _ _
  ·simp only [resolve,heval]
   simp [go_sem]
  ·intro _ _;trivial
  ·simp [invoke,go_sem,hin]
  ·refine CallsIn.mono (H7 (r:=none) (n:=m - 1) main) ?_
   rintro e W2 ⟨⟨v,rfl⟩,(hI | hI)⟩
   ·obtain ⟨Z',j',sk,mm,q1,q2,q3,q4,q5,q6,q7,q8,q9⟩:=hI
    have hend:=(run_endLoop (P:=cfg.P) q8 (by rw [hstate];simp)).trans (congrArg (fun p=>Result.ok p (W2.putObj (w.heap.size+1) (.loop { rec .ready none with state:=.exhausted }))) (hpend .ready none))
    refine ⟨none,_,hend,?_⟩
    cases mm with
    | zero=>simp [dm] at q7
    | succ mm =>
    simp only [dm] at q7
    obtain ⟨jc,c1,c2,c3,c4⟩:=j8 n0 F q2 q1
    have hrest:sk.env[g]? = some (.rest ts []):=by rw [q6,e1,List.drop_length];rfl
    have hgo:step sk=some (.exit B,cM n0 F sk):=by
     have:step sk≠none:=by intro e;rw [e] at q7;cases q7
     rw [hstep] at this |-
     rcases Ij (n0:=n0) (f:=F) hrest with e | e
     ·simp only [exec,e]
     ·simp only [exec,e] at this;exact (this rfl).elim
    rw [hgo] at q7
    simp only [aJ,Option.some.injEq,Prod.mk.injEq] at q7
    obtain ⟨rfl,rfl⟩:=q7
    have hb:lj (.loop (rec .ready none))=true:=rfl
    have c1':=c1
    obtain ⟨jd,d1,d2,d3,d4⟩:=j8 n0 F c1 c2
    have hz:=rE (Z:=Z') (o':=.loop { rec .ready none with state:=.exhausted }) q8 rfl rfl
    have:=hQ { a with defers:=[xl w.heap.size]++a.defers } (W2.putObj (w.heap.size+1) (.loop { rec .ready none with state:=.exhausted }))
     ⟨Z',jd,VR.tmps (d1.mono hz (aQ.refl _)) rfl,d2.book q8 rfl rfl,((q3.trans c3).trans d3).book (by omega) q8 rfl rfl,(q4.trans c4).trans d4⟩
     ⟨⟨[w.heap.size],rfl,by simp,fun D hD=>by
      simp at hD;subst hD
      exact ⟨bG _,(World.putObj_heap_other (by omega)).trans q9⟩⟩,rfl,fun _ _=>rfl⟩
    simp only [xq,if_true] at this
    exact this
   ·obtain ⟨Z',j',c,q1,q2,q3,q4,q5,q6,q7⟩:=hI
    have hend:=(run_endLoop (P:=cfg.P) q6 (by rw [hstate];simp)).trans (congrArg (fun p=>Result.ok p (W2.putObj (w.heap.size+1) (.loop { rec .done (some c) with state:=.exhausted }))) (hpend .done (some c)))
    obtain ⟨jd,d1,d2,d3,d4⟩:=j8 n0 F q2 q1
    have hz:=rE (Z:=Z') (o':=.loop { rec .done (some c) with state:=.exhausted }) q6 rfl rfl
    have:=hQ { a with defers:=[xl w.heap.size]++a.defers } (W2.putObj (w.heap.size+1) (.loop { rec .done (some c) with state:=.exhausted }))
     ⟨Z',jd,VR.tmps (d1.mono hz (aQ.refl _)) rfl,d2.book q6 rfl rfl,(q3.trans d3).book (by omega) q6 rfl rfl,q4.trans d4⟩
     ⟨⟨[w.heap.size],rfl,by simp,fun D hD=>by
      simp at hD;subst hD
      exact ⟨bG _,(World.putObj_heap_other (by omega)).trans q7⟩⟩,rfl,fun _ _=>rfl⟩
    refine ⟨some c,_,hend,?_⟩
    rcases q5 with ⟨rfl,rfl⟩ | ⟨i,rfl,hi,rfl⟩
    ·exact wpIn_ret this
    ·simp only [xq,if_neg hi] at this
     exact wpIn_exit this
 ·-- one round
  rintro k u W hku ⟨Z',j',sk,mm,q1,q2,q3,q4,q5,q6,q7,q8,q9⟩
  have hkl:k < l.length:=by rw [<-e1];exact (bj.1 hku).1
  have hlk:l[k]? = some l[k]:=bC hkl
  generalize l[k]=x at hlk
  have hvx:=e2 k x u hlk hku
  have hdrop:l.drop k=x::l.drop (k+1):=by
   rw [rl hkl]
   congr 1
   rw [bC hkl] at hlk
   exact Option.some.inj hlk
  cases mm with
  | zero=>simp [dm] at q7
  | succ mm =>
  simp only [dm] at q7
  obtain ⟨jc,c1,c2,c3,c4⟩:=j8 n0 F q2 q1
  rw [hdrop] at q6
  cases hgo:step sk with
  | none=>rw [hgo] at q7;cases q7
  | some r1 =>
  obtain ⟨y1,s'⟩:=r1
  rw [hgo] at q7
  simp only [aJ] at q7
  rw [hstep] at hgo
  have hck:(cM n0 F sk).env[g]? = some (.rest ts (.tup x::(l.drop (k+1)).map .tup)):=by
   rcases Ij (n0:=n0) (f:=F) q6 with e | e
   ·exact e
   ·simp only [exec,e] at hgo;cases hgo
  simp only [exec,hck] at hgo
  split at hgo
  rotate_left
  ·cases hgo
  rename_i hxl
  simp only [omi] at hgo
  obtain ⟨⟨y2,t⟩,hgo,he⟩:=hgo
  cases he
  cases hea:exec cfg call n n0 ca ⟨tj ((cM n0 F sk).env.set g .junk) ps.toList x,(cM n0 F sk).mem⟩ with
  | none=>rw [hea] at hgo;cases hgo
  | some ra =>
  obtain ⟨xa,ta⟩:=ra
  have:=Zo ca hst _ _ _ hea
  subst this
  rw [hea] at hgo
  simp only [aJ] at hgo
  have heb:exec cfg call n n0 cb ta=some (y2,t):=hgo
  have hus':u.length=ps.size:=by rw [<-hvx.1,hxl];simp
  have hy:=run_yield (P:=cfg.P) (args:=u.toArray) q8 (by rw [hrec];simpa using hus')
  have hvx':eB Z' W jc x u:=⟨hvx.1,fun i v z h1 h2=>(hvx.2 i v z h1 h2).mono q5 (aQ.zero _)⟩
  obtain ⟨p1,p2,p3⟩:=YF (ds:=[]) ps.toList x u ((cM n0 F sk).env.set g .junk) a.tmps hxl hvx' (VR.tmps (c1.setJunk g .junk (fun _=>.junk)) rfl)
  rw [<-aae] at p1 p2 p3
  obtain ⟨T0,hT0⟩:∃T0,(ps.zip u.toArray).foldl (fun t (p,v)=>t.setIfInBounds p v) a.tmps=T0:=⟨_,rfl⟩
  rw [hT0] at p1 p2 p3
  refine ⟨fn,T0,rC,body,by rw [hrec] at hy;rw [<-hT0];exact hy,roundIn_of_wpIn trivial (iha (w.heap.size+1) _ _ _ hea { tmps:=T0,defers:=[] } W Z' jc p1 c2 _ ?_)⟩
  intro a1 Wa ⟨Z2,j2,b1,b2,b3,b4⟩ hka
  have keepA:∀(D:Nat) (o:Obj),W.heap[D]? = some o->lj o=true->Wa.heap[D]? = some o:=fun D o hD hk=>(b3.keep D (eX.1 hD).1 (Au c2 hD hk)).1.trans hD
  have hLa:=keepA _ _ q8 rfl
  have hDa:=keepA _ _ q9 rfl
  refine ⟨_,run_beginRound hLa (hstate _ _),?_⟩
  obtain ⟨W2,hW2⟩:∃W2,Wa.putObj (w.heap.size+1) (.loop { rec .ready none with state:=.busy })=W2:=⟨_,rfl⟩
  have hltL:w.heap.size+1 < Wa.heap.size:=(eX.1 hLa).1
  have hz2:be Z2 Wa Z2 W2:=by rw [<-hW2];exact rE hLa rfl rfl
  have sr2:SR cfg.P Z2 W2 j2 ta.mem:=by rw [<-hW2];exact b2.book hLa rfl rfl
  have st2:aI Z w j s.mem Z2 W2 j2 ta.mem:=by rw [<-hW2];exact ((q3.trans c3).trans b3).book (by omega) hLa rfl rfl
  have hL2:W2.heap[w.heap.size+1]? = some (.loop { rec .ready none with state:=.busy }):=by rw [<-hW2];exact World.putObj_heap_same hltL
  have hD2:W2.heap[w.heap.size]? = some (.deferred (some [])):=by rw [<-hW2];exact (World.putObj_heap_other (by omega)).trans hDa
  rw [hW2]
  refine ihb (w.heap.size+1) _ _ _ heb a1 W2 Z2 j2 (b1.mono hz2 (aQ.refl _)) sr2 _ ?_
  intro a3 W3 ⟨Z3,j3,d1,d2,d3,d4⟩ hkb
  have keepB:∀(D:Nat) (o:Obj),W2.heap[D]? = some o->lj o=true->W3.heap[D]? = some o:=fun D o hD hk=>(d3.keep D (eX.1 hD).1 (Au sr2 hD hk)).1.trans hD
  have hL3:=keepB _ _ hL2 rfl
  have hD3:=keepB _ _ hD2 rfl
  have hlt3:w.heap.size+1 < W3.heap.size:=(eX.1 hL3).1
  have hsz:a3.tmps.size=a.tmps.size:=(hkb.size.trans hka.size).trans p2
  have stE:∀(V0:V),(∀u,VR Z3 W3 j3 V0 u)->St Z3 W3 j3 ((e9 t.env ws).set g V0) a:=by
   intro V0 hV0
   refine St.setJunk ⟨by rw [Dx,<-d1.len,hsz],fun i v hi=>?_⟩ g V0 hV0
   rcases Tt ws t.env i v hi with rfl | ⟨hni,hi⟩
   ·have aC:i < a.tmps.size:=by
     have:=(bj.1 hi).1
     rw [Dx,<-d1.len,hsz] at this
     exact this
    exact ⟨_,eW aC,.junk⟩
   ·obtain ⟨z,hz,hvz⟩:=d1.val i v hi
    refine ⟨z,?_,hvz⟩
    rw [<-hz]
    exact (((hkb.tmps i fun h=>hni (hws i (.inr (.inr h)))).trans (hka.tmps i fun h=>hni (hws i (.inr (.inl h))))).trans (p3 i fun h=>hni (hws i (.inl h)))).symm
  have zAll:be Z1 w Z3 W3:=((q5.trans c3.z).trans b3.z).trans (hz2.trans d3.z)
  have stAll:aI Z w j s.mem Z3 W3 j3 t.mem:=st2.trans d3
  have jAll:JK n0 j j3:=((q4.trans c4).trans b4).trans d4
  have fin:∀(jump:Option Code),(Instr.endRound (w.heap.size+1) jump).run cfg.P W3 = .ok (.bool jump.isNone) (W3.putObj (w.heap.size+1) (.loop (rec (if jump.isNone then .ready else .done) jump))) /\
    (W3.putObj (w.heap.size+1) (.loop (rec (if jump.isNone then .ready else .done) jump))).heap[w.heap.size+1]? = some (.loop (rec (if jump.isNone then .ready else .done) jump)) /\
    (W3.putObj (w.heap.size+1) (.loop (rec (if jump.isNone then .ready else .done) jump))).heap[w.heap.size]? = some (.deferred (some [])) /\
    be Z3 W3 Z3 (W3.putObj (w.heap.size+1) (.loop (rec (if jump.isNone then .ready else .done) jump))):=by
   intro jump
   have:=run_endRound (P:=cfg.P) jump hL3
   refine ⟨by rw [hrec] at this |-;exact this,World.putObj_heap_same hlt3,(World.putObj_heap_other (by omega)).trans hD3,rE hL3 rfl rfl⟩
  cases y2 with
  | norm =>
   obtain ⟨f1,f2,f3,f4⟩:=fin none
   refine ⟨_,_,f1,.inl ⟨rfl,Z3,j3,⟨(e9 t.env ws).set g (.rest ts ((l.drop (k+1)).map .tup)),t.mem⟩,mm,d2.book hL3 rfl rfl,(stE _ fun _=>.rest).mono f4 (aQ.refl _),stAll.book (by omega) hL3 rfl rfl,jAll,zAll.trans f4,?_,q7,f2,f3⟩⟩
   have hlen:g < ((e9 t.env ws).set g (.rest ts ((l.drop (k+1)).map .tup))).length:=by
    rw [nZ,Dx,<-d1.len,hsz]
    exact (eX.1 hu0).1
   rw [nZ] at hlen
   exact fj hlen
  | exit i =>
   have q7':some (Ex.exit i,(⟨(e9 t.env ws).set g (.rest ts ((l.drop (k+1)).map .tup)),t.mem⟩:S))=some (y0,s20):=q7
   clear q7
   cases q7'
   obtain ⟨f1,f2,f3,f4⟩:=fin (some (.exit i))
   exact ⟨_,_,f1,.inr ⟨rfl,Z3,j3,_,d2.book hL3 rfl rfl,(stE _ fun _=>.rest).mono f4 (aQ.refl _),stAll.book (by omega) hL3 rfl rfl,jAll,.inr ⟨i,rfl,fun e=>hex (e ▸ JJ _ _ _ _ heb),rfl⟩,f2,f3⟩⟩
  | ret =>
   have q7':some (Ex.ret,(⟨(e9 t.env ws).set g (.rest ts ((l.drop (k+1)).map .tup)),t.mem⟩:S))=some (y0,s20):=q7
   clear q7
   cases q7'
   obtain ⟨f1,f2,f3,f4⟩:=fin (some .ret)
   exact ⟨_,_,f1,.inr ⟨rfl,Z3,j3,_,d2.book hL3 rfl rfl,(stE _ fun _=>.rest).mono f4 (aQ.refl _),stAll.book (by omega) hL3 rfl rfl,jAll,.inl ⟨rfl,rfl⟩,f2,f3⟩⟩
end
section
variable {P:Program} {Z Z':Zs} {w w':World} {j j':J} {mem mem':List O}
theorem xv {pr:Nat->Bool}:∀(c:Code) (p:C),cJ pr c=some p->bH p=p:=by
 intro c
 induction c with
 | skip=>intro p h;simp [cJ] at h;subst h;rfl
 | region id ops draw =>
  intro p h
  simp only [cJ,obi] at h
  obtain ⟨l,_,h⟩:=h
  cases draw
  ·simp only [cK,if_false] at h
   cases h
   rfl
  ·simp only [if_true,omi] at h
   obtain ⟨_,_,rfl⟩:=h
   rfl
 | seq a b iha ihb =>
  intro p h
  simp only [cJ,obi,omi] at h
  obtain ⟨x,h1,y,h2,rfl⟩:=h
  simp only [bH,iha _ h1,ihb _ h2]
 | cond c a b iha ihb =>
  intro p h
  simp only [cJ,obi,omi] at h
  obtain ⟨x,h1,y,h2,rfl⟩:=h
  simp only [bH,iha _ h1,ihb _ h2]
 | block i a iha =>
  intro p h
  simp only [cJ,omi] at h
  obtain ⟨x,h1,rfl⟩:=h
  simp only [bH,iha _ h1]
 | loop a iha =>
  intro p h
  simp only [cJ,omi] at h
  obtain ⟨x,h1,rfl⟩:=h
  simp only [bH,iha _ h1]
 | exit i=>intro p h;simp [cJ] at h;subst h;rfl
 | ret=>intro p h;simp [cJ] at h;subst h;rfl
 | rangeFunc g ps a c iha ihc =>
  intro p h
  cases g<;>first | (simp [cJ] at h;done) | skip
  simp only [cJ,obi] at h
  obtain ⟨x,h1,y,h2,h⟩:=h
  unfold AL at h
  split at h
  ·cases h
   simp only [bH]
  ·cases h
 | _=>intro p h;simp [cJ] at h
theorem NC {pr:Nat->Bool} {nt:Nat} {res:List Nat} (c:C) (env:List (Nat × List Nat)) (out:List Nat):fX (gD pr nt res env c out)=fX c:=by
 cases c with
 | seq a b =>
  simp only [gD]
  cases (Cl pr b && !fX a)<;>rfl
 | _=>rfl
theorem EZ {pr:Nat->Bool} {c:Code} {g:Nat} {ps ws:List Nat} {a b:C}:cJ pr c≠some (.uncons g ps ws a b):=by
 intro h
 cases c with
 | skip=>cases h
 | region i ops dr =>
  simp only [cJ,obi] at h
  obtain ⟨l,_,h⟩:=h
  split at h
  all_goals simp_all
 | seq p q =>
  simp only [cJ,obi,omi] at h
  grind
 | cond c p q =>
  simp only [cJ,obi,omi] at h
  grind
 | block i p =>
  simp only [cJ,omi] at h
  grind
 | loop p =>
  simp only [cJ,omi] at h
  grind
 | exit i=>cases h
 | ret=>cases h
 | rangeFunc g ps rC body =>
  cases g<;>first | (cases h;done) | skip
  simp only [cJ,obi] at h
  obtain ⟨_,_,_,_,h⟩:=h
  unfold AL at h
  all_goals grind
 | _=>cases h
theorem YE {pr:Nat->Bool} {nt:Nat} {res:List Nat}:∀(c:C) (env:List (Nat × List Nat)) (out:List Nat),bH (gD pr nt res env c out)=bH c:=by
 intro c
 induction c with
 | seq a b iha ihb =>
  intro env out
  simp only [gD]
  cases h:(Cl pr b && !fX a) with
  | false=>simp only [cond_false,bH,iha,ihb]
  | true =>
   have h2:fX a=false:=by
    grind
   simp only [cond_true,bH,NC,h2,cond_false,iha,ihb]
 | cseq f a b iha ihb=>intro env out;simp only [gD,bH,NC,iha,ihb]
 | cond c a b iha ihb=>intro env out;simp only [gD,bH,iha,ihb]
 | block i a iha=>intro env out;simp only [gD,bH,iha]
 | loop f a iha=>intro env out;simp only [gD,bH,iha]
 | _=>intro env out;rfl
theorem zD {pr:Nat->Bool} {cfg:bi} {call:b9} (hm:cfg.P.follows .mixedOrders=true) (hp:gh cfg.P call.pc) (hi:eY cfg.P call.ic) (hsq:pA cfg.P cfg.seqp) {n n0:Nat} :
  ∀(c:Code) (ro:Option Nat) (cc:C) (s:S) (x:Ex) (s':S),cJ pr c=some (bH cc)->(ro≠none->fJ cc=false)->exec cfg call n n0 cc s=some (x,s')->∀(a:Act) (w:World) (Z:Zs) (j:J),St Z w j s.env a->SR cfg.P Z w j s.mem ->
   ∀(Q:Exit->Act->World->Prop),(∀a' w',jp cfg.P n0 Z w j s.mem s' a' w'->d8 (cV cc) w a a' w'->Q x.toExit a' w')->∀(m:Nat),c.wpIn (FR ro) m cfg.P Q a w:=by
 intro c
 induction c with
 | skip =>
  intro ro cc s x s' hc hns h a w Z j st sr Q hQ m
  cases cc<;>simp [cJ,bH] at hc
  simp [exec] at h
  obtain ⟨rfl,rfl⟩:=h
  exact wpIn_skip (hQ a w ⟨Z,j,st,sr,aI.refl _ _ _ _,JK.refl _ _⟩ (d8.refl _ _ _ _))
 | region id ops draw =>
  intro ro cc s x s' hc hns h a w Z j st sr Q hQ m
  simp only [cJ] at hc
  cases hl:bo (xu ops) ops.toList with
  | none=>grind
  | some l =>
   simp only [hl,aJ] at hc
   have hpl:=W6 hl
   split at hc
   ·rename_i hdr
    simp only [omi] at hc
    obtain ⟨l',ht,hc⟩:=hc
    obtain ⟨hpd,hd⟩:=ZP hpl _ ht
    cases cc<;>simp [bH] at hc
    obtain ⟨rfl,rfl⟩:=hc
    simp only [exec,obi] at h
    obtain ⟨s1,h1,h2⟩:=h
    split at h2
    rotate_left
    ·grind
    rename_i hchk
    cases h2
    simp only [bR,iU] at hchk
    rw [hdr]
    exact QR hm hp hi hd hpd hchk h1 st sr fun a' w' ⟨Z1,j1,q1,q2,q3,q4⟩ hk=>hQ a' w' ⟨Z1,j1,q1,q2,q3,JK.of q4⟩ (d8.of hk w w')
   ·rename_i hdr
    cases cc<;>simp [bH] at hc
    obtain ⟨rfl,rfl⟩:=hc
    simp only [exec,obi] at h
    obtain ⟨s1,h1,h2⟩:=h
    simp only [jq,tF,if_true,Option.some.injEq,Prod.mk.injEq] at h2
    obtain ⟨rfl,rfl⟩:=h2
    have hdr:draw=false:=by grind
    rw [hdr]
    exact Xz hp hi (W0 pr hpl) h1 st sr fun a' w' ⟨Z1,j1,q1,q2,q3,q4⟩ hk=>hQ a' w' ⟨Z1,j1,q1,q2,q3,JK.of q4⟩ (d8.of hk w w')
 | seq p q ihp ihq =>
  intro ro cc s x s' hc hns h a w Z j st sr Q hQ m
  simp only [cJ] at hc
  cases hcp:cJ pr p with
  | none=>grind
  | some cp =>
   cases hcq:cJ pr q with
   | none=>grind
   | some cq =>
    cases cc<;>simp [hcp,hcq,bH] at hc
    rotate_left
    ·rename_i fl ca cb
     obtain ⟨hc1,rfl⟩:=hc
     have hst0:fX ca=false:=by
      cases hh:fX ca with
      | false=>rfl
      | true=>rw [hh] at hc1;exact absurd (hcp.trans (congrArg some hc1)) EZ
     rw [hst0] at hc1
     have hcp:cJ pr p=some (bH ca):=by grind
     simp only [exec] at h
     cases h1:exec cfg call n n0 ca s with
     | none=>grind
     | some r =>
      obtain ⟨x1,s1⟩:=r
      simp only [h1,aJ] at h
      have hns':ro≠none->fJ ca=false/\fJ cb=false:=fun e=>by have:=hns e;simpa [fJ] using this
      refine wpIn_seq (ihp ro ca s x1 s1 hcp (fun e=>(hns' e).1) h1 a w Z j st sr _ (fun a1 w1 haf hk=>?_) m)
      cases x1 with
      | norm =>
       obtain ⟨Z1,j1,q1,q2,q3,q4⟩:=haf
       obtain ⟨j2,t1,t2,t3,t4⟩:=j8 n0 fl q1 q2
       refine ihq ro cb (cM n0 fl s1) x s' hcq (fun e=>(hns' e).2) h a1 w1 Z1 j2 t1 t2 Q (fun a' w' h' hk'=>?_) m
       obtain ⟨Z2,j3,r1,r2,r3,r4⟩:=h'
       exact hQ a' w' ⟨Z2,j3,r1,r2,(q3.trans t3).trans r3,(q4.trans t4).trans r4⟩ (hk.trans q2 (t3.trans r3) q3.size hk')
      | exit i=>cases h;exact hQ a1 w1 haf (hk.weak fun i hi=>bp.2 (.inl hi))
      | ret=>cases h;exact hQ a1 w1 haf (hk.weak fun i hi=>bp.2 (.inl hi))
    rename_i ca cb
    obtain ⟨rfl,rfl⟩:=hc
    simp only [exec] at h
    cases h1:exec cfg call n n0 ca s with
    | none=>grind
    | some r =>
     obtain ⟨x1,s1⟩:=r
     simp only [h1,aJ] at h
     have hns':ro≠none->fJ ca=false/\fJ cb=false:=fun e=>by have:=hns e;simpa [fJ] using this
     refine wpIn_seq (ihp ro ca s x1 s1 hcp (fun e=>(hns' e).1) h1 a w Z j st sr _ (fun a1 w1 haf hk=>?_) m)
     cases x1 with
     | norm =>
      obtain ⟨Z1,j1,q1,q2,q3,q4⟩:=haf
      refine ihq ro cb s1 x s' hcq (fun e=>(hns' e).2) h a1 w1 Z1 j1 q1 q2 Q (fun a' w' h' hk'=>?_) m
      obtain ⟨Z2,j2,r1,r2,r3,r4⟩:=h'
      exact hQ a' w' ⟨Z2,j2,r1,r2,q3.trans r3,q4.trans r4⟩ (hk.trans q2 r3 q3.size hk')
     | exit i=>cases h;exact hQ a1 w1 haf (hk.weak fun i hi=>bp.2 (.inl hi))
     | ret=>cases h;exact hQ a1 w1 haf (hk.weak fun i hi=>bp.2 (.inl hi))
 | cond cnd p q ihp ihq =>
  intro ro cc s x s' hc hns h a w Z j st sr Q hQ m
  simp only [cJ] at hc
  cases hcp:cJ pr p with
  | none=>grind
  | some cp =>
   cases hcq:cJ pr q with
   | none=>grind
   | some cq =>
    cases cc<;>simp [hcp,hcq,bH] at hc
    rename_i c0 ca cb
    obtain ⟨rfl,rfl,rfl⟩:=hc
    simp only [exec] at h
    cases h1:aO s.env cnd with
    | none=>grind
    | some v =>
     have hv:=st.eval cnd v h1
     cases v<;>simp only [h1,aJ] at h<;>first | (cases h;done) | skip
     rename_i t
     cases hu:a.eval cnd<;>rw [hu] at hv<;>cases hv
     have hns':ro≠none->fJ ca=false/\fJ cb=false:=fun e=>by have:=hns e;simpa [fJ] using this
     cases t
     ·exact wpIn_cond hu (ihq ro cb s x s' hcq (fun e=>(hns' e).2) (by grind) a w Z j st sr Q (fun a' w' h1 h2=>hQ a' w' h1 (h2.weak fun i hi=>bp.2 (.inr hi))) m)
     ·exact wpIn_cond hu (ihp ro ca s x s' hcp (fun e=>(hns' e).1) (by grind) a w Z j st sr Q (fun a' w' h1 h2=>hQ a' w' h1 (h2.weak fun i hi=>bp.2 (.inl hi))) m)
 | block id p ihp =>
  intro ro cc s x s' hc hns h a w Z j st sr Q hQ m
  simp only [cJ,omi] at hc
  obtain ⟨cp0,hcp,hb⟩:=hc
  cases cc<;>simp [bH] at hb
  rename_i id2 cp
  obtain ⟨rfl,rfl⟩:=hb
  simp only [exec,omi] at h
  obtain ⟨⟨x1,s1⟩,h1,h2⟩:=h
  refine wpIn_block (ihp ro cp s x1 s1 hcp hns h1 a w Z j st sr _ (fun a1 w1 haf hk=>?_) m)
  cases x1 with
  | norm=>cases h2;exact hQ a1 w1 haf hk
  | ret=>cases h2;exact hQ a1 w1 haf hk
  | exit i =>
   simp only at h2
   show (if i=id then Q .normal a1 w1 else Q (.exit i) a1 w1)
   split at h2
   ·rename_i e;cases h2;rw [if_pos e];exact hQ a1 w1 haf hk
   ·rename_i e;cases h2;rw [if_neg e];exact hQ a1 w1 haf hk
 | loop p ihp =>
  intro ro cc s x s' hc hns h a w Z j st sr Q hQ m
  simp only [cJ,omi] at hc
  obtain ⟨cp0,hcp,hb⟩:=hc
  cases cc<;>simp [bH] at hb
  rename_i fl cp
  subst hb
  simp only [exec,omi] at h
  obtain ⟨⟨x1,s1⟩,h1,h2⟩:=h
  cases h2
  refine wpIn_loop_rounds n ?_
  have key:∀(k:Nat) (s:S) (x1:Ex) (s1:S),dm (fun s=>exec cfg call n n0 cp (cM n0 fl s)) k s=some (x1,s1)->∀(a:Act) (w:World) (Z:Zs) (j:J),St Z w j s.env a->SR cfg.P Z w j s.mem ->
    (∀a' w',jp cfg.P n0 Z w j s.mem (cM n0 fl s1) a' w'->d8 (cV cp) w a a' w'->Q x1.toExit a' w')->Code.roundsIn (FR ro) m cfg.P p Q k a w:=by
   intro k
   induction k with
   | zero=>intro s x1 s1 h;simp [dm] at h
   | succ k ihk =>
    intro s x1 s1 h a w Z j st sr hQ
    simp only [dm] at h
    obtain ⟨j0',t1,t2,t3,t4⟩:=j8 n0 fl st sr
    cases hs:exec cfg call n n0 cp (cM n0 fl s) with
    | none=>grind
    | some r =>
     obtain ⟨x2,s2⟩:=r
     simp only [hs,aJ] at h
     rw [roundsIn_succ]
     refine ihp ro cp _ x2 s2 hcp hns hs a w Z j0' t1 t2 _ (fun a2 w2 haf hk=>?_) m
     have fin:some (x2,s2)=some (x1,s1)->Q x1.toExit a2 w2:=by
      intro h
      cases h
      obtain ⟨Z1,j1,q1,q2,q3,q4⟩:=haf
      obtain ⟨j2,r1,r2,r3,r4⟩:=j8 n0 fl q1 q2
      exact hQ a2 w2 ⟨Z1,j2,r1,r2,(t3.trans q3).trans r3,(t4.trans q4).trans r4⟩ hk
     cases x2 with
     | norm =>
      obtain ⟨Z1,j1,q1,q2,q3,q4⟩:=haf
      refine ihk s2 x1 s1 h a2 w2 Z1 j1 q1 q2 fun a' w' h' hk'=>?_
      obtain ⟨Z2,j2,r1,r2,r3,r4⟩:=h'
      exact hQ a' w' ⟨Z2,j2,r1,r2,(t3.trans q3).trans r3,(t4.trans q4).trans r4⟩ ((hk.trans q2 r3 q3.size hk').weak fun i hi=>(bp.1 hi).elim id id)
     | exit i=>have:=fin h;cases h;exact this
     | ret=>have:=fin h;cases h;exact this
  exact key n s _ s1 h1 a w Z j st sr hQ
 | rangeFunc g ps rC body iha ihb =>
  intro ro cc s x s' hc hns h a w Z j st sr Q hQ m
  cases g<;>first | (simp [cJ] at hc;done) | skip
  rename_i g
  simp only [cJ,obi] at hc
  obtain ⟨pa,hpa,pc,hpc,hc⟩:=hc
  unfold AL at hc
  split at hc
  rotate_left
  ·grind
  rename_i hcond
  simp only [bv,iC] at hcond
  obtain ⟨⟨⟨hst,hs1⟩,hs2⟩,hex⟩:=hcond
  have hc0:=Option.some.inj hc
  clear hc
  cases cc<;>simp [bH] at hc0
  rotate_left
  ·rename_i fl ca cb
   obtain ⟨hc1,_⟩:=hc0
   cases hh:fX ca with
   | true=>grind
   | false =>
    rw [hh] at hc1
    cases ca<;>simp [bH] at hc1
    cases hh
  rename_i c1 c2
  obtain ⟨hc1,hc2⟩:=hc0
  cases c1<;>simp [bH] at hc1
  subst hc1
  cases c2<;>simp [bH] at hc2
  rename_i bid c3
  obtain ⟨rfl,hc3⟩:=hc2
  cases c3<;>simp [bH] at hc3
  rename_i F c4
  cases c4<;>simp [bH] at hc3
  rename_i g' ps' ws c5 c6
  obtain ⟨rfl,rfl,rfl,hc5,hc6⟩:=hc3
  subst hc5 hc6
  have hro:ro=none:=by
   cases ro with
   | none=>rfl
   | some l=>have:=hns (by simp);simp [fJ] at this
  subst hro
  cases hsa:tz cfg g s with
  | none=>simp [exec,hsa] at h
  | some s1 =>
   have hx:exec cfg call n n0 (.block (oW g) (.loop F (.uncons g ps.toList (ps.toList++(cV pa++cV pc)) (.seq pa pc) (.exit (oW g))))) s1=some (x,s'):=by
    rw [exec] at h
    simp only [exec,hsa,cg,aJ] at h |-
    exact h
   clear h
   rw [exec,exec] at hx
   simp only [omi] at hx
   obtain ⟨⟨y,s2⟩,⟨⟨y0,s20⟩,hit,hr⟩,h2⟩:=hx
   have hr1:y0=y:=congrArg Prod.fst hr
   have hr2:cM n0 F s20=s2:=congrArg Prod.snd hr
   subst hr1 hr2
   refine Xv (ca:=pa) (cb:=pc) hsq (fun i hi=>?_) hst ?_ (fun l s x s' h a w Z j st sr Q hQ=>iha (some l) pa s x s' (hpa.trans (congrArg some (xv _ _ hpa).symm)) (fun _=>hs1) h a w Z j st sr Q hQ 0) (fun l s x s' h a w Z j st sr Q hQ=>ihb (some l) pc s x s' (hpc.trans (congrArg some (xv _ _ hpc).symm)) (fun _=>hs2) h a w Z j st sr Q hQ 0) hsa hit st sr (fun a' w' haf hk=>?_) m
   ·grind
   ·intro hb
    have:(dq (.seq pa pc)).contains (oW g)=true:=by
     simp only [dq,List.contains_iff_mem,bp]
     grind
    grind
   ·have hk':=hk.weak (ws':=cV (.seq (.start g) (.block (oW g) (.loop F (.uncons g ps.toList (ps.toList++(cV pa++cV pc)) (.seq pa pc) (.exit (oW g))))))) (fun i hi=>by grind)
    cases y0 with
    | norm=>cases h2;exact hQ a' w' haf hk'
    | ret=>cases h2;exact hQ a' w' haf hk'
    | exit i =>
     simp only at h2
     show Q (xq (oW g) (.exit i)) a' w'
     simp only [xq]
     split at h2
     ·rename_i e;cases h2;rw [if_pos e];exact hQ a' w' haf hk'
     ·rename_i e;cases h2;rw [if_neg e];exact hQ a' w' haf hk'
 | exit i =>
  intro ro cc s x s' hc hns h a w Z j st sr Q hQ m
  cases cc<;>simp [cJ,bH] at hc
  subst hc
  simp [exec] at h
  obtain ⟨rfl,rfl⟩:=h
  exact wpIn_exit (hQ a w ⟨Z,j,st,sr,aI.refl _ _ _ _,JK.refl _ _⟩ (d8.refl _ _ _ _))
 | ret =>
  intro ro cc s x s' hc hns h a w Z j st sr Q hQ m
  cases cc<;>simp [cJ,bH] at hc
  simp [exec] at h
  obtain ⟨rfl,rfl⟩:=h
  exact wpIn_ret (hQ a w ⟨Z,j,st,sr,aI.refl _ _ _ _,JK.refl _ _⟩ (d8.refl _ _ _ _))
 | _=>intro ro cc s x s' hc;simp [cJ] at hc
def ib:Ex->Exit
 | .norm=>.normal
 | .exit i=>if i < 3000000 then .exit i else .goto ((i - 3000000) / 2)
 | .ret=>.ret
def u7 (l:Nat):Ex->Exit
 | .exit i=>if i=lN l then .normal else ib (.exit i)
 | y=>ib y
theorem Ob {x:Ex} (h:∀i,x = .exit i->i < 3000000):ib x=x.toExit:=by
 cases x with
 | exit i=>simp only [ib,if_pos (h i rfl)];rfl
 | _=>rfl
theorem Oa (l:Nat):ib (.exit (ko l)) = .goto l:=by
 have h1:¬(3000000+2 * l < 3000000):=by omega
 have h2:(3000000+2 * l - 3000000) / 2=l:=by omega
 simp only [ib,ko,if_neg h1,h2]
theorem Dj {cfg:bi} {call:b9} {n n0:Nat}:∀(c:C) (s:S) (i:Nat) (s':S),exec cfg call n n0 c s=some (.exit i,s')->i∈cZ c:=by
 intro c
 induction c with
 | skip=>intro s i s' h;simp [exec] at h
 | ops dr l =>
  intro s i s' h
  simp only [exec,obi] at h
  grind
 | seq a b iha ihb =>
  intro s i s' h
  simp only [exec,obi] at h
  obtain ⟨⟨x,s1⟩,h1,h⟩:=h
  simp only [cZ,bp]
  grind
 | cseq f a b iha ihb =>
  intro s i s' h
  simp only [exec,obi] at h
  obtain ⟨⟨x,s1⟩,h1,h⟩:=h
  simp only [cZ,bp]
  grind
 | cond c a b iha ihb =>
  intro s i s' h
  simp only [exec,obi] at h
  obtain ⟨v,_,h⟩:=h
  simp only [cZ,bp]
  grind
 | block id c ih =>
  intro s i s' h
  simp only [exec,omi] at h
  obtain ⟨⟨x,s1⟩,h1,h⟩:=h
  cases x with
  | norm=>cases h
  | ret=>cases h
  | exit e =>
   simp only at h
   split at h
   ·cases h
   ·rename_i hne
    cases h
    simp only [cZ,mD]
    grind
 | loop f c ih =>
  intro s i s' h
  simp only [exec,omi] at h
  obtain ⟨⟨x,s1⟩,h1,h⟩:=h
  simp only [cZ]
  have key:∀(k:Nat) (s:S) (r:Ex × S),dm (fun s=>exec cfg call n n0 c (cM n0 f s)) k s=some r->∀i,r.1 = .exit i->i∈cZ c:=by
   intro k
   induction k with
   | zero=>intro s r h;simp [dm] at h
   | succ k ihk =>
    intro s r h i hi
    simp only [dm,obi] at h
    grind
  grind
 | exit j=>intro s i s' h;simp [exec] at h;simp [cZ,h.1]
 | ret=>intro s i s' h;simp [exec] at h
 | start g=>intro s i s' h;simp [exec] at h
 | uncons g ps ws a b iha ihb =>
  intro s i s' h
  simp only [cZ,bp]
  simp only [exec] at h
  split at h
  ·grind
  ·split at h
   ·simp only [omi] at h
    grind
   grind
  grind
theorem DC:∀(c:C),cZ (bH c)=cZ c:=by
 intro c
 induction c with
 | seq a b iha ihb=>simp only [bH,cZ,iha,ihb]
 | cond c a b iha ihb=>simp only [bH,cZ,iha,ihb]
 | block i a iha=>simp only [bH,cZ,iha]
 | loop f a iha=>simp only [bH,cZ,iha]
 | cseq f a b iha ihb =>
  simp only [bH,cZ,ihb]
  cases ha:fX a with
  | false=>grind
  | true =>
   cases a<;>simp [fX] at ha
   simp only [cond_true,cZ,dA]
 | _=>rfl
theorem S9:∀(c:C) (i:Nat),i∈dq c->i∈dq (bH c):=by
 intro c
 induction c with
 | seq a b iha ihb=>intro i h;simp only [bH,dq,bp] at h |-;grind
 | cond c a b iha ihb=>intro i h;simp only [bH,dq,bp] at h |-;grind
 | block i a iha=>intro i h;simp only [bH,dq] at h |-;grind
 | loop f a iha=>intro i h;simp only [bH,dq] at h |-;grind
 | cseq f a b iha ihb =>
  intro i h
  simp only [bH,dq,bp] at h |-
  rcases h with h | h
  ·cases ha:fX a with
   | false=>grind
   | true=>cases a<;>simp [fX] at ha;simp [dq] at h
  grind
 | _=>intro i h;exact h
def pd (F:Fence) (n:Nat) (P:Program) (c0 d:Code) (Q:Exit->Act->World->Prop) (a:Act) (w:World):Prop :=
 ∀(b:Frame) (k:List Item) (cs:List Frame),b.roundOf=F.round->F.fn b.fn->F.room (cs.length+1+n) ->
  ∃e a' w',Q e a' w'/\ArrivesIn (Machine.fenced P F) P (lone (b.atR a (.code d::.inScope c0::k)) cs w) b (.inScope c0::k) cs e a' w'
section
variable {F:Fence} {m:Nat} {P:Program} {c0:Code} {Q:Exit->Act->World->Prop} {a:Act} {w:World}
theorem aac {d:Code} (h:d.wpIn F m P Q a w):pd F m P c0 d Q a w:=fun b k cs hro hb hr=>h b (.inScope c0::k) cs hro hb hr
theorem Bw {x y:Code} (h:x.wpIn F m P (Exit.then (pd F m P c0 y Q) Q) a w):pd F m P c0 (.seq x y) Q a w:=by
 intro b k cs hro hb hr
 have h0:(lone (b.atR a (.code (.seq x y)::.inScope c0::k)) cs w).fenced P F:=fenced_calm hb hr rfl
 obtain ⟨e,a₁,w₁,hq,harr⟩:=h b (.code y::.inScope c0::k) cs hro hb hr
 cases e with
 | normal =>
  obtain ⟨e₂,a₂,w₂,hq₂,harr₂⟩:=hq b k cs hro hb hr
  exact ⟨e₂,a₂,w₂,hq₂,.of_steps (.head h0 stepR_seq harr) harr₂⟩
 | exit id=>exact ⟨_,a₁,w₁,hq,.of_steps (.one h0 stepR_seq) (.pass (x:=.code y) rfl (fun _ _=>.inl (by simp)) harr)⟩
 | goto l=>exact ⟨_,a₁,w₁,hq,.of_steps (.one h0 stepR_seq) (.pass (x:=.code y) rfl (fun _ _=>.inl (by simp)) harr)⟩
 | ret=>exact ⟨_,a₁,w₁,hq,.of_steps (.one h0 stepR_seq) (.pass (x:=.code y) rfl (fun _ _=>.inl (by simp)) harr)⟩
 | panic ch=>exact ⟨_,a₁,w₁,hq,.of_steps (.one h0 stepR_seq) (.pass (x:=.code y) rfl (fun _ _=>.inl (by simp)) harr)⟩
 | outgrown=>exact ⟨_,a₁,w₁,hq,.of_steps (.one h0 stepR_seq) (.pass (x:=.code y) rfl (fun _ _=>.inl (by simp)) harr)⟩
theorem aab {d rest:Code} {l:Nat} (hf:findLabel c0 l=some rest)
  (h:pd F m P c0 d (fun e a1 w1=>match e with | .goto l'=>if l'=l then pd F m P c0 rest Q a1 w1 else Q (.goto l') a1 w1 | e=>Q e a1 w1) a w):pd F m P c0 d Q a w:=by
 intro b k cs hro hb hr
 obtain ⟨e,a₁,w₁,hq,harr⟩:=h b k cs hro hb hr
 cases e with
 | goto l' =>
  simp only at hq
  split at hq
  ·rename_i e
   subst e
   obtain ⟨e₂,a₂,w₂,hq₂,harr₂⟩:=hq b k cs hro hb hr
   have hg:gotoIn l' (.inScope c0::k)=some (.code rest::.inScope c0::k):=by simp [gotoIn,hf]
   exact ⟨e₂,a₂,w₂,hq₂,.of_steps (harr.1 _ hg) harr₂⟩
  grind
 | normal=>grind
 | exit id=>grind
 | ret=>grind
 | panic ch=>grind
 | outgrown=>grind
theorem vF {b:Frame} {k:List Item} {cs:List Frame}:step P (lone (b.atR a (.code (.scope c0)::k)) cs w) = .next (lone (b.atR a (.code c0::.inScope c0::k)) cs w) :=
 step_lone_go (by simp [stepG,stepG.exec,Frame.atR])
theorem Zi {b:Frame} {k:List Item} {cs:List Frame}:step P (lone (b.atR a (.inScope c0::k)) cs w) = .next (lone (b.atR a k) cs w) :=
 step_lone_go (by simp [stepG,stepG.exec,Frame.atR])
theorem aaa (h:pd F m P c0 c0 (fun e a1 w1=>(∀l,e≠.goto l)/\Q e a1 w1) a w):(Code.scope c0).wpIn F m P Q a w:=by
 intro b k cs hro hb hr
 have h0:(lone (b.atR a (.code (.scope c0)::k)) cs w).fenced P F:=fenced_calm hb hr rfl
 obtain ⟨e,a₁,w₁,⟨hng,hq⟩,harr⟩:=h b k cs hro hb hr
 cases e with
 | normal=>exact ⟨.normal,a₁,w₁,hq,.head h0 vF (StepsIn.trans harr (.one (fenced_calm hb hr rfl) Zi))⟩
 | exit id =>
  have hx:exitTo id (.inScope c0::k)=exitTo id k:=by simp [exitTo]
  exact ⟨.exit id,a₁,w₁,hq,fun k' hk=>.head h0 vF (harr.1 k' (by grind)),
   fun hr' hk=>let ⟨k₁,h1,h2⟩:=harr.2 hr' (by grind);⟨k₁,h1,.head h0 vF h2⟩⟩
 | goto l=>grind
 | ret=>exact ⟨_,a₁,w₁,hq,.of_steps (.one h0 vF) harr⟩
 | panic ch=>exact ⟨_,a₁,w₁,hq,.of_steps (.one h0 vF) harr⟩
 | outgrown=>exact ⟨_,a₁,w₁,hq,.of_steps (.one h0 vF) harr⟩
end
theorem JP {l:Nat}:∀{c:Code},l∉er c->findLabel c l=none:=by
 intro c
 induction c with
 | seq a b iha ihb =>
  intro h
  simp only [er,bp,not_or] at h
  simp only [findLabel,iha h.1,ihb h.2]
 | label l' =>
  intro h
  simp only [er,eZ] at h
  simp only [findLabel]
  all_goals grind
 | _=>intro _;rfl
theorem WY {pr:Nat->Bool}:∀(c:Code) (p:C),df pr c=some p->bH p=p:=by
 intro c
 have leaf:∀c p,((cJ pr c).bind fun cc=>if (dq cc).all fun i=>gL i 3000000 then some cc else none)=some p->bH p=p:=by
  intro c p h
  simp only [obi] at h
  obtain ⟨cc,h1,h2⟩:=h
  split at h2
  ·cases h2;exact xv _ _ h1
  ·cases h2
 induction c with
 | seq a b iha ihb =>
  intro p h
  simp only [df] at h
  split at h
  ·simp only [omi] at h
   obtain ⟨cb,h1,rfl⟩:=h
   simp only [bH,ihb _ h1]
  ·split at h
   ·simp only [obi,omi] at h
    obtain ⟨ca,h1,cb,h2,rfl⟩:=h
    simp only [bH,iha _ h1,ihb _ h2]
   ·cases h
 | cond c a b iha ihb =>
  intro p h
  simp only [df] at h
  split at h
  ·simp only [obi,omi] at h
   obtain ⟨ca,h1,cb,h2,rfl⟩:=h
   simp only [bH,iha _ h1,ihb _ h2]
  ·cases h
 | goto l=>intro p h;simp only [df,Option.some.injEq] at h;subst h;rfl
 | block id a ih =>
  intro p h
  simp only [df] at h
  split at h
  ·obtain ⟨cp,h1,rfl⟩:=omi.1 h
   simp only [bH,ih _ h1]
  ·cases h
 | _=>intro p h;simp only [df] at h;exact leaf _ _ h
theorem EY {pr:Nat->Bool} {c:Code} {g:Nat} {ps ws:List Nat} {a b:C}:df pr c≠some (.uncons g ps ws a b):=by
 intro h
 cases c with
 | seq x y =>
  simp only [df] at h
  split at h
  ·simp only [omi] at h
   obtain ⟨cb,_,h⟩:=h
   cases h
  ·split at h
   ·simp only [obi,omi] at h
    obtain ⟨ca,_,cb,_,h⟩:=h
    cases h
   ·cases h
 | cond t x y =>
  simp only [df] at h
  split at h
  ·simp only [obi,omi] at h
   obtain ⟨ca,_,cb,_,h⟩:=h
   cases h
  ·cases h
 | goto l=>simp only [df,Option.some.injEq] at h;cases h
 | block id a =>
  simp only [df] at h
  split at h
  ·obtain ⟨_,_,h⟩:=omi.1 h
   cases h
  ·cases h
 | _ =>
  simp only [df,obi] at h
  obtain ⟨cc,h1,h2⟩:=h
  split at h2
  ·cases h2;exact EZ h1
  ·cases h2
theorem TD:∀(c:C) (i:Nat),i∈cZ c->i∈dq c:=by
 intro c
 induction c with
 | seq a b iha ihb=>intro i h;simp only [dq,cZ,bp] at h |-;grind
 | cond c a b iha ihb=>intro i h;simp only [dq,cZ,bp] at h |-;grind
 | block k a iha=>intro i h;simp only [dq,cZ,mD] at h |-;grind
 | loop f a iha=>intro i h;simp only [dq,cZ] at h |-;grind
 | cseq f a b iha ihb=>intro i h;simp only [dq,cZ,bp] at h |-;grind
 | uncons g ps ws a b iha ihb=>intro i h;simp only [dq,cZ,bp] at h |-;grind
 | _=>intro i h;exact h
theorem L9 {pr:Nat->Bool}:∀(c:Code) (p:C),df pr c=some p->∀i∈cZ p,i < 3000000∨∃l,i=ko l:=by
 intro c
 have leaf:∀c p,((cJ pr c).bind fun cc=>if (dq cc).all fun i=>gL i 3000000 then some cc else none)=some p->∀i∈cZ p,i < 3000000∨∃l,i=ko l:=by
  intro c p h i hi
  simp only [obi] at h
  obtain ⟨cc,h1,h2⟩:=h
  split at h2
  ·rename_i hall
   cases h2
   have:=di.1 hall i (TD _ _ hi)
   exact .inl (by simpa [mG] using this)
  ·cases h2
 induction c with
 | seq a b iha ihb =>
  intro p h i hi
  simp only [df] at h
  split at h
  ·simp only [omi] at h
   obtain ⟨cb,h1,rfl⟩:=h
   simp only [cZ,mD,bp,eZ] at hi
   obtain ⟨⟨hi | hi,_⟩,h3⟩:=hi
   ·exact ihb _ h1 i hi
   ·subst hi;simp at h3
  ·split at h
   ·simp only [obi,omi] at h
    obtain ⟨ca,h1,cb,h2,rfl⟩:=h
    simp only [cZ,bp] at hi
    exact hi.elim (iha _ h1 i) (ihb _ h2 i)
   ·cases h
 | cond c a b iha ihb =>
  intro p h i hi
  simp only [df] at h
  split at h
  ·simp only [obi,omi] at h
   obtain ⟨ca,h1,cb,h2,rfl⟩:=h
   simp only [cZ,bp] at hi
   exact hi.elim (iha _ h1 i) (ihb _ h2 i)
  ·cases h
 | goto l =>
  intro p h i hi
  simp only [df,Option.some.injEq] at h
  subst h
  simp only [cZ,eZ] at hi
  exact .inr ⟨l,hi⟩
 | block id a ih =>
  intro p h i hi
  simp only [df] at h
  split at h
  ·obtain ⟨cp,h1,rfl⟩:=omi.1 h
   simp only [cZ,mD] at hi
   exact ih _ h1 i hi.1
  ·cases h
 | _=>intro p h;simp only [df] at h;exact leaf _ _ h
theorem EV {pr:Nat->Bool} {cfg:bi} {call:b9} (hm:cfg.P.follows .mixedOrders=true) (hp:gh cfg.P call.pc) (hi:eY cfg.P call.ic) (hsq:pA cfg.P cfg.seqp) {n n0:Nat} :
  ∀(c:Code) (cc:C) (s:S) (x:Ex) (s':S),df pr c=some (bH cc)->er c=[]->exec cfg call n n0 cc s=some (x,s')->∀(a:Act) (w:World) (Z:Zs) (j:J),St Z w j s.env a->SR cfg.P Z w j s.mem ->
   ∀(Q:Exit->Act->World->Prop),(∀a' w',jp cfg.P n0 Z w j s.mem s' a' w'->d8 (cV cc) w a a' w'->Q (ib x) a' w')->∀(m:Nat),c.wpIn (FR none) m cfg.P Q a w:=by
 intro c
 have leaf:∀(c:Code) (cc:C) (s:S) (x:Ex) (s':S),((cJ pr c).bind fun cc=>if (dq cc).all fun i=>gL i 3000000 then some cc else none)=some (bH cc)->exec cfg call n n0 cc s=some (x,s')->∀(a:Act) (w:World) (Z:Zs) (j:J),St Z w j s.env a->SR cfg.P Z w j s.mem ->
   ∀(Q:Exit->Act->World->Prop),(∀a' w',jp cfg.P n0 Z w j s.mem s' a' w'->d8 (cV cc) w a a' w'->Q (ib x) a' w')->∀(m:Nat),c.wpIn (FR none) m cfg.P Q a w:=by
  intro c cc s x s' hc h a w Z j st sr Q hQ m
  simp only [obi] at hc
  obtain ⟨c1,h1,h2⟩:=hc
  split at h2
  rotate_left
  ·cases h2
  rename_i hall
  have e1:c1=bH cc:=Option.some.inj h2
  rw [e1] at h1 hall
  have hx:∀i,x = .exit i->i < 3000000:=fun i hi=>by
   subst hi
   have:=di.1 hall i (S9 _ _ (JJ _ _ _ _ h))
   simpa [mG] using this
  refine zD hm hp hi hsq c none cc s x s' h1 (fun e=>(e rfl).elim) h a w Z j st sr Q (fun a' w' g1 g2=>?_) m
  rw [<-Ob hx]
  exact hQ a' w' g1 g2
 induction c with
 | seq p q ihp ihq =>
  intro cc s x s' hc hsp h a w Z j st sr Q hQ m
  simp only [er,po] at hsp
  simp only [df] at hc
  split at hc
  ·rename_i l hl
   cases p<;>simp [z8] at hl
   simp [er] at hsp
  rw [if_pos (by rw [hsp.1];rfl)] at hc
  simp only [obi,omi] at hc
  obtain ⟨cp,hcp,cq,hcq,hcc⟩:=hc
  cases cc<;>simp [bH] at hcc
  rotate_left
  ·rename_i fl ca cb
   obtain ⟨hc1,rfl⟩:=hcc
   have hst0:fX ca=false:=by
    cases hh:fX ca with
    | false=>rfl
    | true=>rw [hh] at hc1;exact absurd (hcp.trans (congrArg some hc1)) EY
   rw [hst0] at hc1
   have hcp:df pr p=some (bH ca):=by rw [hcp,hc1];rfl
   simp only [exec] at h
   cases h1:exec cfg call n n0 ca s with
   | none=>simp [h1] at h
   | some r =>
    obtain ⟨x1,s1⟩:=r
    simp only [h1,aJ] at h
    refine wpIn_seq (ihp ca s x1 s1 hcp hsp.1 h1 a w Z j st sr _ (fun a1 w1 haf hk=>?_) m)
    cases x1 with
    | norm =>
     obtain ⟨Z1,j1,q1,q2,q3,q4⟩:=haf
     obtain ⟨j2,t1,t2,t3,t4⟩:=j8 n0 fl q1 q2
     refine ihq cb (cM n0 fl s1) x s' hcq hsp.2 h a1 w1 Z1 j2 t1 t2 Q (fun a' w' h' hk'=>?_) m
     obtain ⟨Z2,j3,r1,r2,r3,r4⟩:=h'
     exact hQ a' w' ⟨Z2,j3,r1,r2,(q3.trans t3).trans r3,(q4.trans t4).trans r4⟩ (hk.trans q2 (t3.trans r3) q3.size hk')
    | exit i =>
     cases h
     have:=hQ a1 w1 haf (hk.weak fun i hi=>bp.2 (.inl hi))
     simp only [ib] at this |-
     split at this<;>rename_i aC
     ·simp only [if_pos aC];exact this
     ·simp only [if_neg aC];exact this
    | ret=>cases h;exact hQ a1 w1 haf (hk.weak fun i hi=>bp.2 (.inl hi))
  rename_i ca cb
  obtain ⟨rfl,rfl⟩:=hcc
  simp only [exec] at h
  cases h1:exec cfg call n n0 ca s with
  | none=>simp [h1] at h
  | some r =>
   obtain ⟨x1,s1⟩:=r
   simp only [h1,aJ] at h
   refine wpIn_seq (ihp ca s x1 s1 hcp hsp.1 h1 a w Z j st sr _ (fun a1 w1 haf hk=>?_) m)
   cases x1 with
   | norm =>
    obtain ⟨Z1,j1,q1,q2,q3,q4⟩:=haf
    refine ihq cb s1 x s' hcq hsp.2 h a1 w1 Z1 j1 q1 q2 Q (fun a' w' h' hk'=>?_) m
    obtain ⟨Z2,j2,r1,r2,r3,r4⟩:=h'
    exact hQ a' w' ⟨Z2,j2,r1,r2,q3.trans r3,q4.trans r4⟩ (hk.trans q2 r3 q3.size hk')
   | exit i =>
    cases h
    have:=hQ a1 w1 haf (hk.weak fun i hi=>bp.2 (.inl hi))
    simp only [ib] at this |-
    split at this<;>rename_i aC
    ·simp only [if_pos aC];exact this
    ·simp only [if_neg aC];exact this
   | ret=>cases h;exact hQ a1 w1 haf (hk.weak fun i hi=>bp.2 (.inl hi))
 | cond cnd p q ihp ihq =>
  intro cc s x s' hc hsp h a w Z j st sr Q hQ m
  simp only [df] at hc
  split at hc
  rotate_left
  ·cases hc
  rename_i hsp
  simp only [bv,List.isEmpty_iff] at hsp
  simp only [obi,omi] at hc
  obtain ⟨cp,hcp,cq,hcq,hcc⟩:=hc
  cases cc<;>simp [bH] at hcc
  rename_i c0 ca cb
  obtain ⟨rfl,rfl,rfl⟩:=hcc
  simp only [exec] at h
  cases h1:aO s.env cnd with
  | none=>simp [h1] at h
  | some v =>
   have hv:=st.eval cnd v h1
   cases v<;>simp only [h1,aJ] at h<;>first | (cases h;done) | skip
   rename_i t
   cases hu:a.eval cnd<;>rw [hu] at hv<;>cases hv
   cases t
   ·exact wpIn_cond hu (ihq cb s x s' hcq hsp.2 (by simpa using h) a w Z j st sr Q (fun a' w' h1 h2=>hQ a' w' h1 (h2.weak fun i hi=>bp.2 (.inr hi))) m)
   ·exact wpIn_cond hu (ihp ca s x s' hcp hsp.1 (by simpa using h) a w Z j st sr Q (fun a' w' h1 h2=>hQ a' w' h1 (h2.weak fun i hi=>bp.2 (.inl hi))) m)
 | goto l =>
  intro cc s x s' hc hsp h a w Z j st sr Q hQ m
  cases cc<;>simp [df,bH] at hc
  subst hc
  simp [exec] at h
  obtain ⟨rfl,rfl⟩:=h
  have:=hQ a w ⟨Z,j,st,sr,aI.refl _ _ _ _,JK.refl _ _⟩ (d8.refl _ _ _ _)
  rw [Oa] at this
  exact wpIn_goto this
 | block id p ih =>
  intro cc s x s' hc hsp h a w Z j st sr Q hQ m
  simp only [df] at hc
  split at hc
  rotate_left
  ·cases hc
  rename_i hcnd
  simp only [bv,List.isEmpty_iff,mG] at hcnd
  obtain ⟨cp0,hcp,hb⟩:=omi.1 hc
  cases cc<;>simp [bH] at hb
  rename_i id2 cp
  obtain ⟨rfl,rfl⟩:=hb
  simp only [exec,omi] at h
  obtain ⟨⟨x1,s1⟩,h1,h2⟩:=h
  refine wpIn_block (ih cp s x1 s1 hcp hcnd.1 h1 a w Z j st sr _ (fun a1 w1 haf hk=>?_) m)
  cases x1 with
  | norm=>cases h2;exact hQ a1 w1 haf hk
  | ret=>cases h2;exact hQ a1 w1 haf hk
  | exit i =>
   simp only at h2
   by_cases aC:i < 3000000
   ·simp only [ib,if_pos aC]
    show (if i=id then Q .normal a1 w1 else Q (.exit i) a1 w1)
    split at h2
    ·rename_i e;cases h2;rw [if_pos e];exact hQ a1 w1 haf hk
    ·rename_i e
     cases h2
     rw [if_neg e]
     have:=hQ a1 w1 haf hk
     simp only [ib,if_pos aC] at this
     exact this
   ·rw [if_neg (by omega)] at h2
    cases h2
    have:=hQ a1 w1 haf hk
    simp only [ib,if_neg aC] at this |-
    exact this
 | _=>intro cc s x s' hc hsp h;simp only [df] at hc;exact leaf _ cc s x s' hc h
theorem Yv {pr:Nat->Bool} {cfg:bi} {call:b9} (hm:cfg.P.follows .mixedOrders=true) (hp:gh cfg.P call.pc) (hi:eY cfg.P call.ic) (hsq:pA cfg.P cfg.seqp) {n n0:Nat} {c0:Code} :
  ∀(c:Code) (cc:C) (s:S) (x:Ex) (s':S),df pr c=some (bH cc)->(er c).Nodup->(∀l∈er c,findLabel c0 l=findLabel c l)->exec cfg call n n0 cc s=some (x,s')->∀(a:Act) (w:World) (Z:Zs) (j:J),St Z w j s.env a->SR cfg.P Z w j s.mem ->
   ∀(Q:Exit->Act->World->Prop),(∀a' w',jp cfg.P n0 Z w j s.mem s' a' w'->d8 (cV cc) w a a' w'->Q (ib x) a' w')->∀(m:Nat),pd (FR none) m cfg.P c0 c Q a w:=by
 intro c
 induction c with
 | seq p q _ ihq =>
  intro cc s x s' hc hnd hlab h a w Z j st sr Q hQ m
  cases hl:z8 p with
  | none =>
   have hc0:=hc
   simp only [df,hl] at hc
   split at hc
   rotate_left
   ·grind
   rename_i hpe
   have hpe:er p=[]:=by grind
   simp only [obi,omi] at hc
   obtain ⟨cp,hcp,cq,hcq,hcc⟩:=hc
   have hnd':(er q).Nodup:=by simpa [er,hpe] using hnd
   have hlab':∀l∈er q,findLabel c0 l=findLabel q l:=fun l hl=>by
    rw [hlab l (by simp [er,hpe,hl])]
    have:findLabel p l=none:=JP (by grind)
    simp only [findLabel,this]
   cases cc<;>simp [bH] at hcc
   rotate_left
   ·rename_i fl ca cb
    obtain ⟨hc1,rfl⟩:=hcc
    have hst0:fX ca=false:=by
     cases hh:fX ca with
     | false=>rfl
     | true=>rw [hh] at hc1;exact absurd (hcp.trans (congrArg some hc1)) EY
    rw [hst0] at hc1
    have hcp:df pr p=some (bH ca):=by grind
    simp only [exec] at h
    cases h1:exec cfg call n n0 ca s with
    | none=>grind
    | some r =>
     obtain ⟨x1,s1⟩:=r
     simp only [h1,aJ] at h
     refine Bw (EV hm hp hi hsq p ca s x1 s1 hcp hpe h1 a w Z j st sr _ (fun a1 w1 haf hk=>?_) m)
     cases x1 with
     | norm =>
      obtain ⟨Z1,j1,q1,q2,q3,q4⟩:=haf
      obtain ⟨j2,t1,t2,t3,t4⟩:=j8 n0 fl q1 q2
      refine ihq cb (cM n0 fl s1) x s' hcq hnd' hlab' h a1 w1 Z1 j2 t1 t2 Q (fun a' w' h' hk'=>?_) m
      obtain ⟨Z2,j3,r1,r2,r3,r4⟩:=h'
      exact hQ a' w' ⟨Z2,j3,r1,r2,(q3.trans t3).trans r3,(q4.trans t4).trans r4⟩ (hk.trans q2 (t3.trans r3) q3.size hk')
     | exit i =>
      cases h
      have:=hQ a1 w1 haf (hk.weak fun i hi=>bp.2 (.inl hi))
      simp only [ib] at this |-
      split at this<;>rename_i aC
      ·simp only [if_pos aC];exact this
      ·simp only [if_neg aC];exact this
     | ret=>cases h;exact hQ a1 w1 haf (hk.weak fun i hi=>bp.2 (.inl hi))
   rename_i ca cb
   obtain ⟨rfl,rfl⟩:=hcc
   simp only [exec] at h
   cases h1:exec cfg call n n0 ca s with
   | none=>grind
   | some r =>
    obtain ⟨x1,s1⟩:=r
    simp only [h1,aJ] at h
    refine Bw (EV hm hp hi hsq p ca s x1 s1 hcp hpe h1 a w Z j st sr _ (fun a1 w1 haf hk=>?_) m)
    cases x1 with
    | norm =>
     obtain ⟨Z1,j1,q1,q2,q3,q4⟩:=haf
     refine ihq cb s1 x s' hcq hnd' hlab' h a1 w1 Z1 j1 q1 q2 Q (fun a' w' h' hk'=>?_) m
     obtain ⟨Z2,j2,r1,r2,r3,r4⟩:=h'
     exact hQ a' w' ⟨Z2,j2,r1,r2,q3.trans r3,q4.trans r4⟩ (hk.trans q2 r3 q3.size hk')
    | exit i =>
     cases h
     have:=hQ a1 w1 haf (hk.weak fun i hi=>bp.2 (.inl hi))
     simp only [ib] at this |-
     split at this<;>rename_i aC
     ·simp only [if_pos aC];exact this
     ·simp only [if_neg aC];exact this
    | ret=>cases h;exact hQ a1 w1 haf (hk.weak fun i hi=>bp.2 (.inl hi))
  | some l =>
   simp only [df,hl,omi] at hc
   obtain ⟨cq,hcq,hcc⟩:=hc
   have hpl:p = .label l:=by cases p<;>simp [z8] at hl;rw [hl]
   subst hpl
   have hnd1:l∉er q/\(er q).Nodup:=by simpa [er] using hnd
   have hlab':∀l'∈er q,findLabel c0 l'=findLabel q l':=fun l' hl'=>by
    rw [hlab l' (by simp [er,hl'])]
    have:findLabel (.label l) l'=none:=JP (by simp [er];grind)
    simp only [findLabel] at this |-
    grind
   have hfl:findLabel c0 l=some (.seq .skip q):=by
    rw [hlab l (by simp [er])]
    simp [findLabel]
   cases cc<;>simp [bH] at hcc
   rename_i e1 c1
   obtain ⟨rfl,hcc⟩:=hcc
   cases c1<;>simp [bH] at hcc
   rename_i fl c2
   cases c2<;>simp [bH] at hcc
   rename_i g1 c3
   obtain ⟨rfl,hcc⟩:=hcc
   have shape:∃ca,df pr q=some (bH ca)/\(∀i,i∈cV ca->i∈cV (.block (lN l) (.loop fl (.block (ko l) c3))))/\∀s r,exec cfg call n n0 c3 s=some r->∃y t,exec cfg call n n0 ca s=some (y,t) /\
     ((y = .norm/\r.1 = .exit (lN l)/\(r.2=t∨∃f,r.2=cM n0 f t))∨(y≠.norm/\r=(y,t))):=by
    cases c3<;>simp [bH] at hcc
    ·rename_i ca cb
     obtain ⟨rfl,hcb⟩:=hcc
     cases cb<;>simp [bH] at hcb
     subst hcb
     refine ⟨ca,hcq,fun i hi=>by simp only [cV,dA];grind,fun s r hr=>?_⟩
     simp only [exec,obi] at hr
     grind
    ·rename_i f2 ca cb
     obtain ⟨hc1,hcb⟩:=hcc
     cases cb<;>simp [bH] at hcb
     subst hcb
     have hst0:fX ca=false:=by
      cases hh:fX ca with
      | false=>rfl
      | true=>rw [hh] at hc1;exact absurd (hcq.trans (congrArg some hc1)) EY
     rw [hst0] at hc1
     refine ⟨ca,by grind,fun i hi=>by simp only [cV,dA];grind,fun s r hr=>?_⟩
     simp only [exec,obi] at hr
     grind
   obtain ⟨ca,hca,hwr,hsh⟩:=shape
   have hge:ko l≠lN l:=by unfold ko lN;omega
   have key:∀(k:Nat) (s:S) (x1:Ex) (s1:S),dm (fun s=>exec cfg call n n0 (.block (ko l) c3) (cM n0 fl s)) k s=some (x1,s1)->∀(a:Act) (w:World) (Z:Zs) (j:J),St Z w j s.env a->SR cfg.P Z w j s.mem ->
     ∀(Q:Exit->Act->World->Prop),(∀a' w',jp cfg.P n0 Z w j s.mem (cM n0 fl s1) a' w'->d8 (cV (.block (lN l) (.loop fl (.block (ko l) c3)))) w a a' w'->Q (u7 l x1) a' w')->pd (FR none) m cfg.P c0 q Q a w:=by
    intro k
    induction k with
    | zero=>intro s x1 s1 h;simp [dm] at h
    | succ k ihk =>
     intro s x1 s1 h a w Z j st sr Q hQ
     simp only [dm,obi] at h
     obtain ⟨⟨x2,s2⟩,hb,h⟩:=h
     simp only [exec,omi] at hb
     obtain ⟨r,hr,hb⟩:=hb
     obtain ⟨y,t,hy,hcase⟩:=hsh _ _ hr
     obtain ⟨j0',t1,t2,t3,t4⟩:=j8 n0 fl st sr
     refine aab hfl (ihq ca _ y t hca hnd1.2 hlab' hy a w Z j0' t1 t2 _ (fun a2 w2 haf hk=>?_) m)
     have hk:=hk.weak hwr
     have last:∀(t':S),(t'=t∨∃f,t'=cM n0 f t)->s1=t'->Q (u7 l x1) a2 w2:=by
      intro t' ht' es
      obtain ⟨Z1,j1,q1,q2,q3,q4⟩:=haf
      have:∃j2,St Z1 w2 j2 t'.env a2/\SR cfg.P Z1 w2 j2 t'.mem/\aI Z1 w2 j1 t.mem Z1 w2 j2 t'.mem/\JK n0 j1 j2:=by
       rcases ht' with rfl | ⟨f,rfl⟩
       ·exact ⟨j1,q1,q2,aI.refl _ _ _ _,JK.refl _ _⟩
       ·exact j8 n0 f q1 q2
      obtain ⟨j2,p1,p2,p3,p4⟩:=this
      obtain ⟨j3,r1,r2,r3,r4⟩:=j8 n0 fl p1 p2
      subst es
      exact hQ a2 w2 ⟨Z1,j3,r1,r2,(((t3.trans q3).trans p3).trans r3),((t4.trans q4).trans p4).trans r4⟩ hk
     rcases hcase with ⟨rfl,hr1,hr2⟩ | ⟨hyn,rfl⟩
     ·-- to the end
      obtain ⟨r1,r2⟩:=r
      simp only at hr1 hr2
      subst hr1
      simp only at hb
      rw [if_neg (Ne.symm hge)] at hb
      cases hb
      cases h
      have:=last _ hr2 rfl
      simp only [u7,if_true] at this
      exact this
     ·cases y with
      | norm=>grind
      | ret =>
       cases hb
       cases h
       exact last _ (.inl rfl) rfl
      | exit i =>
       simp only at hb
       split at hb
       ·-- once more
        rename_i hig
        subst hig
        cases hb
        rw [Oa]
        simp only [if_true]
        obtain ⟨Z1,j1,q1,q2,q3,q4⟩:=haf
        refine Bw (wpIn_skip (ihk _ x1 s1 h a2 w2 Z1 j1 q1 q2 Q fun a' w' h' hk'=>?_))
        obtain ⟨Z2,j2,r1,r2,r3,r4⟩:=h'
        exact hQ a' w' ⟨Z2,j2,r1,r2,(t3.trans q3).trans r3,(t4.trans q4).trans r4⟩ ((hk.trans q2 r3 q3.size hk').weak fun i hi=>(bp.1 hi).elim id id)
       ·rename_i hig
        cases hb
        cases h
        by_cases hie:i=lN l
        ·rcases L9 _ _ hca i (by rw [DC];exact Dj _ _ _ _ hy) with aC | ⟨l',hl'⟩
         ·unfold lN at hie;omega
         ·unfold lN at hie;unfold ko at hl';omega
        ·have:=last _ (.inl rfl) rfl
         simp only [u7,if_neg hie,ib] at this
         simp only [ib]
         split at this<;>rename_i aC
         ·grind
         ·simp only [if_neg aC]
          have hne:¬((i - 3000000) / 2=l):=by
           rcases L9 _ _ hca i (by rw [DC];exact Dj _ _ _ _ hy) with hlt2 | ⟨l',hl'⟩
           ·omega
           ·unfold ko at hl' hig;omega
          simp only [if_neg hne]
          grind
   simp only [exec,omi] at h
   obtain ⟨⟨y,t⟩,⟨⟨x0,s0⟩,hit,hr⟩,h⟩:=h
   have hr1:x0=y:=congrArg Prod.fst hr
   have hr2:cM n0 fl s0=t:=congrArg Prod.snd hr
   subst hr1 hr2
   refine Bw (wpIn_label (key n s x0 s0 hit a w Z j st sr Q fun a' w' haf hk=>?_))
   cases x0 with
   | norm=>cases h;exact hQ a' w' haf hk
   | ret=>cases h;exact hQ a' w' haf hk
   | exit i =>
    simp only at h
    split at h
    ·rename_i e;cases h;simp only [u7,if_pos e];exact hQ a' w' haf hk
    ·rename_i e;cases h;simp only [u7,if_neg e];grind
 | _ =>
  intro cc s x s' hc hnd hlab h a w Z j st sr Q hQ m
  first
  | exact aac (EV hm hp hi hsq _ cc s x s' hc rfl h a w Z j st sr Q hQ m)
  |(simp [df,cJ] at hc)
theorem Yu {c r c0:Code} (h:Gh c=some (r,c0)):c = .seq r (.scope c0):=by
 unfold Gh at h
 grind
theorem WX {pr:Nat->Bool} {c:Code} {p:C} (h:vh pr c=some p):bH p=p:=by
 unfold vh at h
 split at h
 ·simp only [obi] at h
  obtain ⟨cr,h1,cs,h2,h3⟩:=h
  split at h3
  ·cases h3;simp only [bH,xv _ _ h1,WY _ _ h2]
  grind
 ·exact xv _ _ h
theorem Pz {pr:Nat->Bool} {cfg:bi} {call:b9} (hm:cfg.P.follows .mixedOrders=true) (hp:gh cfg.P call.pc) (hi:eY cfg.P call.ic) (hsq:pA cfg.P cfg.seqp) {n n0:Nat}
  (c:Code) (cc:C) (s:S) (x:Ex) (s':S) (hc:vh pr c=some (bH cc)) (h:exec cfg call n n0 cc s=some (x,s')) (a:Act) (w:World) (Z:Zs) (j:J) (st:St Z w j s.env a) (sr:SR cfg.P Z w j s.mem)
  (Q:Exit->Act->World->Prop) (hQ:∀a' w',jp cfg.P n0 Z w j s.mem s' a' w'->d8 (cV cc) w a a' w'->Q x.toExit a' w') (m:Nat):c.wpIn (FR none) m cfg.P Q a w:=by
 unfold vh at hc
 split at hc
 rotate_left
 ·exact zD hm hp hi hsq c none cc s x s' hc (fun e=>(e rfl).elim) h a w Z j st sr Q hQ m
 rename_i r c0 hsc
 have:=Yu hsc
 subst this
 simp only [obi] at hc
 obtain ⟨cr,hcr,cs,hcs,hc⟩:=hc
 split at hc
 rotate_left
 ·grind
 rename_i aR
 simp only [Nv,bv,decide_eq_true_eq] at aR
 obtain ⟨hnd,hfree⟩:=aR
 have hc:=Option.some.inj hc
 have tail:∀(cb:C) (s:S) (x:Ex) (s':S),cs=bH cb->exec cfg call n n0 cb s=some (x,s')->∀(a:Act) (w:World) (Z:Zs) (j:J),St Z w j s.env a->SR cfg.P Z w j s.mem ->
   ∀(Q:Exit->Act->World->Prop),(∀a' w',jp cfg.P n0 Z w j s.mem s' a' w'->d8 (cV cb) w a a' w'->Q x.toExit a' w')->(Code.scope c0).wpIn (FR none) m cfg.P Q a w:=by
  intro cb s x s' e h a w Z j st sr Q hQ
  have hx:∀i,x = .exit i->i < 3000000:=fun i hi=>by
   subst hi
   have h1:=Dj _ _ _ _ h
   rw [<-DC,<-e] at h1
   simp_all
  refine aaa (Yv hm hp hi hsq c0 cb s x s' (hcs.trans (congrArg some e)) hnd (fun _ _=>rfl) h a w Z j st sr _ (fun a' w' g1 g2=>?_) m)
  rw [Ob hx]
  refine ⟨fun l e=>?_,hQ a' w' g1 g2⟩
  cases x<;>cases e
 cases cc with
 | cseq fl ca cb =>
  simp only [bH,C.seq.injEq] at hc
  obtain ⟨hc1,hcb⟩:=hc
  have hst0:fX ca=false:=by
   cases hh:fX ca with
   | false=>rfl
   | true=>rw [hh] at hc1;exact absurd (hcr.trans (congrArg some hc1)) EZ
  rw [hst0] at hc1
  have hcp:cJ pr r=some (bH ca):=by grind
  simp only [exec] at h
  cases h1:exec cfg call n n0 ca s with
  | none=>grind
  | some q =>
   obtain ⟨x1,s1⟩:=q
   simp only [h1,aJ] at h
   refine wpIn_seq (zD hm hp hi hsq r none ca s x1 s1 hcp (fun e=>(e rfl).elim) h1 a w Z j st sr _ (fun a1 w1 haf hk=>?_) m)
   cases x1 with
   | norm =>
    obtain ⟨Z1,j1,q1,q2,q3,q4⟩:=haf
    obtain ⟨j2,t1,t2,t3,t4⟩:=j8 n0 fl q1 q2
    refine tail cb (cM n0 fl s1) x s' hcb h a1 w1 Z1 j2 t1 t2 Q (fun a' w' h' hk'=>?_)
    obtain ⟨Z2,j3,r1,r2,r3,r4⟩:=h'
    exact hQ a' w' ⟨Z2,j3,r1,r2,(q3.trans t3).trans r3,(q4.trans t4).trans r4⟩ (hk.trans q2 (t3.trans r3) q3.size hk')
   | exit i=>cases h;exact hQ a1 w1 haf (hk.weak fun i hi=>bp.2 (.inl hi))
   | ret=>cases h;exact hQ a1 w1 haf (hk.weak fun i hi=>bp.2 (.inl hi))
 | seq ca cb =>
  simp only [bH,C.seq.injEq] at hc
  obtain ⟨hca,hcb⟩:=hc
  simp only [exec] at h
  cases h1:exec cfg call n n0 ca s with
  | none=>grind
  | some q =>
   obtain ⟨x1,s1⟩:=q
   simp only [h1,aJ] at h
   refine wpIn_seq (zD hm hp hi hsq r none ca s x1 s1 (hcr.trans (congrArg some hca)) (fun e=>(e rfl).elim) h1 a w Z j st sr _ (fun a1 w1 haf hk=>?_) m)
   cases x1 with
   | norm =>
    obtain ⟨Z1,j1,q1,q2,q3,q4⟩:=haf
    refine tail cb s1 x s' hcb h a1 w1 Z1 j1 q1 q2 Q (fun a' w' h' hk'=>?_)
    obtain ⟨Z2,j2,r1,r2,r3,r4⟩:=h'
    exact hQ a' w' ⟨Z2,j2,r1,r2,q3.trans r3,q4.trans r4⟩ (hk.trans q2 r3 q3.size hk')
   | exit i=>cases h;exact hQ a1 w1 haf (hk.weak fun i hi=>bp.2 (.inl hi))
   | ret=>cases h;exact hQ a1 w1 haf (hk.weak fun i hi=>bp.2 (.inl hi))
 | _=>simp [bH] at hc
def vl (a:Act):ResultVar->Sem Value
 | .tmp t=>pure (a.tmps.getD t undef)
 | .cell b t=>do loadVar t (<-asAddr (a.tmps.getD b undef))
theorem XE {fn:Func} {s:S} {a:Act} {vs:List V} (st:St Z w j s.env a) (sr:SR P Z w j s.mem)
  (h:bo (md P s) (fn.results.toList.map tD)=some vs) :
  ∃us:List Value,us.length=vs.length/\(∀(i:Nat) (v:V) (u:Value),vs[i]? = some v->us[i]? = some u->VR Z w j v u) /\
   (results fn a.tmps).run P w = .ok (if h:us.toArray.size=1 then us.toArray[0] else .tuple us.toArray) w:=by
 have key:∀(l:List ResultVar) (vs:List V),bo (md P s) (l.map tD)=some vs ->
   ∃us:List Value,us.length=vs.length/\(∀(i:Nat) (v:V) (u:Value),vs[i]? = some v->us[i]? = some u->VR Z w j v u) /\
    (l.mapM (m:=Sem) (vl a)).run P w = .ok us w:=by
  intro l
  induction l with
  | nil=>intro vs h;simp [bo] at h;simp_all
  | cons r l ih =>
   intro vs h
   simp only [dj,bo] at h
   cases h2:bo (md P s) (l.map tD) with
   | none=>all_goals simp_all
   | some ws =>
    obtain ⟨us,e1,e2,e3⟩:=ih ws h2
    have fin:∀(v:V) (u:Value),vs=v::ws->VR Z w j v u->(vl a r).run P w = .ok u w ->
      ∃us:List Value,us.length=vs.length/\(∀(i:Nat) (v:V) (u:Value),vs[i]? = some v->us[i]? = some u->VR Z w j v u) /\
       ((r::l).mapM (m:=Sem) (vl a)).run P w = .ok us w:=by
     intro v u hvs hv hr
     subst hvs
     refine ⟨u::us,by grind,fun i v' u' hv' hu'=>?_,?_⟩
     ·grind
     simp_all
    cases r with
    | tmp t =>
     simp only [tD,md] at h
     cases h1:s.env[t]? with
     | none=>grind
     | some v =>
      simp [h1,h2] at h
      obtain ⟨u,hu,hv⟩:=st.val t v h1
      exact fin v u h.symm hv (by simp [vl,gG,hu])
    | cell b t =>
     simp only [tD,md] at h
     cases h1:s.env[b]? with
     | none=>grind
     | some p =>
      cases hl:eP P s.mem t p with
      | none=>grind
      | some v =>
       simp [h1,hl,h2] at h
       obtain ⟨u,hu,hv⟩:=st.val b p h1
       obtain ⟨u',h3,h4⟩:=K3 sr hl hv
       refine fin v u' h.symm h4 ?_
       have hp:∃ad,u = .pointer (some ad):=by
        unfold eP at hl
        cases hlk:d6 s.mem p with
        | none=>grind
        | some r =>
         obtain ⟨x,off⟩:=r
         obtain ⟨g,b',hu',_⟩:=K6 sr hlk hv
         grind
       obtain ⟨ad,rfl⟩:=hp
       simp only [Instr.loadAt,Instr.sureAddr,Sem.run_bind,Sem.run_pure,Result.andThen_ok] at h3
       simp [vl,gG,hu,asAddr,h3]
 obtain ⟨us,e1,e2,e3⟩:=key fn.results.toList vs h
 refine ⟨us,e1,e2,?_⟩
 unfold results
 rw [OG]
 refine Eq.trans (b:=(do let vs <-List.toArray <$> List.mapM (vl a) fn.results.toList;pure (if h:vs.size=1 then vs[0] else .tuple vs):Sem Value).run P w) ?_ ?_
 ·rfl
 simp_all
theorem Zh {args:List V} {us:List Value} {nt:Nat} (ha:eB Z w j args us):St Z w j (args++bE (nt - args.length) (.tup [])) { tmps:=us.toArray++BD (nt - us.toArray.size) undef,defers:=[] }:=by
 refine ⟨by simp [ha.1],fun i v hv=>?_⟩
 by_cases hi:i < args.length
 ·rw [db hi] at hv
  have hi':i < us.length:=by rw [<-ha.1];grind
  exact ⟨us[i],by grind,ha.2 i v _ hv (bC hi')⟩
 ·rw [cY (by omega)] at hv
  have aC:=(bj.1 hv).1
  simp only [vV] at aC
  have e:v = .tup []:=by
   grind
  subst e
  refine ⟨undef,?_,.tup (us:=[]) rfl fun i c u hc=>by grind⟩
  have hl:=ha.1
  grind
theorem Va {fn:Func} {a:Act} {env:List V} {R:Ending->World->Prop} {Z0:Zs} {w0:World} {j0':J} {mem0:List O}:∀(Ds:List Nat) (w:World),Ds.Nodup->(∀D∈Ds,w0.heap.size<=D/\w.heap[D]? = some (.deferred (some []))) ->
  St Z w j env a->SR P Z w j mem->aI Z0 w0 j0' mem0 Z w j mem ->
  (∀w',St Z w' j env a->SR P Z w' j mem->aI Z0 w0 j0' mem0 Z w' j mem->∃v,(results fn a.tmps).run P w' = .ok v w'/\R (.returned v) w')->LeavesInM (FR none) 0 P fn a.tmps R (Ds.map xl) .returning w:=by
 intro Ds
 induction Ds with
 | nil=>intro w _ _ st sr stp h;exact h w st sr stp
 | cons D Ds ih =>
  intro w hn hD st sr stp h
  obtain ⟨h1,h2⟩:=hD D (by simp)
  have hne:D∉Ds:=(tN.1 hn).1
  refine ⟨by simp,.inl ⟨D,_,rfl,run_takeDeferred h2,ih _ (tN.1 hn).2 (fun D' hD'=>?_) (st.mono (rE h2 rfl rfl) (aQ.refl _)) (sr.book h2 rfl rfl) (stp.book h1 h2 rfl rfl) h⟩⟩
  obtain ⟨k1,k2⟩:=hD D' (by grind)
  exact ⟨k1,(World.putObj_heap_other (by grind)).trans k2⟩
theorem FB {cfg:bi} {call:b9} (hm:cfg.P.follows .mixedOrders=true) (hp:gh cfg.P call.pc) (hi:eY cfg.P call.ic) (hsq:pA cfg.P cfg.seqp) {n:Nat} {f:FuncId} {fa:FA} {args:List V} {us:List Value} {vs:List V}
  (hf:fH cfg.P (cfg.rxf f) f=some fa) (h:oZ cfg call n fa args mem=some (vs,mem')) (sr:SR cfg.P Z w j mem) (ha:eB Z w j args us) :
  Calls cfg.P f us.toArray w fun e w1=>∃(xs:List Value) (Z1:Zs) (j1:J),e = .returned (if h:xs.toArray.size=1 then xs.toArray[0] else .tuple xs.toArray)/\xs.length=vs.length /\
   (∀(i:Nat) (v:V) (u:Value),vs[i]? = some v->xs[i]? = some u->VR Z1 w1 j1 v u)/\SR cfg.P Z1 w1 j1 mem'/\aI Z w j mem Z1 w1 j1 mem'/\JK mem.length j j1:=by
 unfold fH at hf
 cases hfn:cfg.P.funcs[f]? with
 | none=>grind
 | some fn =>
  simp only [hfn] at hf
  split at hf
  ·grind
  ·cases hb:fn.body with
   | none=>grind
   | some c =>
    simp only [hb,omi] at hf
    obtain ⟨cc,hcc,rfl⟩:=hf
    unfold oZ at h
    split at h
    ·rename_i hn
     obtain ⟨hn1,hn2⟩:=hn
     simp only at hn1 hn2
     simp only at h
     rw [<-hn1] at h
     generalize hce:gD (cfg.rxf f) fn.ntmps (fn.results.toList.map fun r=>match r with | .tmp t=>t | .cell t _=>t) [] cc []=ce at h
     have hcc':vh (cfg.rxf f) c=some (bH ce):=by rw [<-hce,YE,WX hcc];grind
     cases hx:exec cfg call n mem.length ce ⟨args++bE (fn.ntmps - args.length) (.tup []),mem⟩ with
     | none=>grind
     | some r =>
      obtain ⟨x,s'⟩:=r
      simp only [hx,aJ] at h
      have st:=Zh (nt:=fn.ntmps) ha
      have hex:=Pz hm hp hi hsq c ce _ x s' hcc' hx _ w Z j st sr
      refine callsIn_wide.1 (callsIn_of_wp_marks (F:=Fence.wide) (n:=0) hfn hb trivial (hex _ (fun a' w' haf hk=>?_) 0))
      obtain ⟨Z1,j1,q1,q2,q3,q4⟩:=haf
      have fin:(bo (md cfg.P s') (fn.results.toList.map tD)).map (fun vs=>(vs,s'.mem))=some (vs,mem')->LeavesInM (FR none) 0 cfg.P fn a'.tmps (fun e w1=>∃(xs:List Value) (Z1:Zs) (j1:J),e = .returned (if h:xs.toArray.size=1 then xs.toArray[0] else .tuple xs.toArray)/\xs.length=vs.length /\
   (∀(i:Nat) (v:V) (u:Value),vs[i]? = some v->xs[i]? = some u->VR Z1 w1 j1 v u)/\SR cfg.P Z1 w1 j1 mem'/\aI Z w j mem Z1 w1 j1 mem'/\JK mem.length j j1) a'.defers .returning w':=by
       intro h
       simp only [omi] at h
       obtain ⟨vs',hv,h⟩:=h
       cases h
       obtain ⟨Ds,hDs,hnd,hDk⟩:=hk.marks
       rw [hDs,dA]
       refine Va Ds w' hnd hDk q1 q2 q3 fun w'' t1 t2 t3=>?_
       obtain ⟨xs,e1,e2,e3⟩:=XE (fn:=fn) t1 t2 hv
       grind
      cases x with
      | norm=>exact fin h
      | ret=>exact fin h
      | exit i=>cases h
    grind
theorem Wo {Z1:Zs} {w1:World} {j1:J} {xs:List Value} {vs:List V} (hl:xs.length=vs.length) (hv:∀(i:Nat) (v:V) (u:Value),vs[i]? = some v->xs[i]? = some u->VR Z1 w1 j1 v u) :
  VR Z1 w1 j1 (o7 vs) (if h:xs.toArray.size=1 then xs.toArray[0] else .tuple xs.toArray):=by
 match vs,xs,hl with
 | [v],[u],_=>exact hv 0 v u rfl rfl
 | [],[],_=>exact .tup rfl fun i c u hc=>by grind
 | v::v'::vs,u::u'::xs,hl =>
  rw [dif_neg (by simp)]
  exact .tup (by grind) hv
structure vQ (cfg:bi):Prop where
 mixed:cfg.P.follows .mixedOrders=true
 pp:∀f g,cfg.pprim f=some g->gh cfg.P fun f' as0=>if f'=f then g as0 else none
 ip:∀f g,cfg.iprim f=some g->eY cfg.P fun f' as0 mem=>if f'=f then g as0 mem else none
 seq:pA cfg.P cfg.seqp:=by exact fun _ _ _ _ _ h=>nomatch h
theorem Un {cfg:bi} (hc:vQ cfg) {call:b9} (hp:gh cfg.P call.pc) (hi:eY cfg.P call.ic) (n:Nat):eY cfg.P (m4 cfg call n):=by
 intro f as0 mem r mem' h aR Z w j us sr ha
 unfold m4 at h
 cases hpr:cfg.iprim f with
 | some g =>
  simp only [hpr] at h
  exact hc.ip f g hpr f as0 mem r mem' (by grind) aR Z w j us sr ha
 | none =>
  simp only [hpr,obi,omi] at h
  obtain ⟨fa,hfa,⟨vs,m⟩,hrun,h⟩:=h
  cases h
  refine (FB hc.mixed hp hi hc.seq hfa hrun sr ha).mono ?_
  rintro e w1 ⟨xs,Z1,j1,rfl,e1,e2,e3,e4,e5⟩
  refine ⟨_,rfl,Z1,j1,Wo e1 e2,e3,e4,fun id x hx=>?_⟩
  by_cases aC:id < mem.length
  ·exact e5 id x aC hx
  ·rw [sr.out id (by omega)] at hx;grind
theorem AB {g:Nat}:¬bd Z j [] g:=by rintro ⟨id,o,h,_⟩;grind
theorem DN {mem:List O} {v v':V} (h:mZ mem v=some v'):gR mem v=some v':=by
 cases v<;>first | (simp [mZ] at h;done) | exact h
theorem sX:∀{l:List V} {i:Nat} {x:V},mb l=true->l[i]? = some x->x.plain=true
 | [],i,x,_,h=>by grind
 | y::l,i,x,hp,h=>by
  simp only [mb,bv] at hp
  cases i with
  | zero=>grind
  | succ i=>exact sX hp.2 (by simpa using h)
theorem Ic {v y:V} {i:Nat} (h:v.plain=true) (hy:v.cells[i]? = some y):y.plain=true:=by
 have one:∀v:V,v.plain=true->v.cells=[v]->v.cells[i]? = some y->y.plain=true:=by
  grind
 cases v with
 | agg cs=>exact sX (l:=cs) (by simpa [V.plain] using h) hy
 | _=>exact one _ h rfl hy
theorem VR.swap {A:TypeId->Nat->Option Nat} {I:TypeId->Option Nat} {v:V} {u:Value} (h:VR Z w j v u):v.plain=true->VR { Z with a:=A,i:=I } w j v u:=by
 induction h with
 | junk=>intro _;exact .junk
 | bool=>intro _;exact .bool
 | int=>intro _;exact .int
 | str=>intro _;exact .str
 | agg hl _ ih=>intro hp;exact .agg hl fun i c u h1 h2=>ih i c u h1 h2 (sX (by simpa [V.plain] using hp) h1)
 | tup hl _ ih=>intro hp;exact .tup hl fun i c u h1 h2=>ih i c u h1 h2 (sX (by simpa [V.plain] using hp) h1)
 | nilS=>intro _;exact .nilS
 | sl0=>intro _;exact .sl0
 | sl f hlc hsz hl hc _ ih =>
  intro hp
  exact .sl f hlc hsz hl hc (fun k x i y h1 h2=>ih k x i y h1 h2 (Ic (sX (by simpa [V.plain] using hp) h1) h2))
 | own hj h0=>intro _;exact .own hj h0
 | win hj hn hlc hcc ha=>intro _;exact .win hj hn hlc hcc ha
 | ptr hj hs=>intro _;exact .ptr hj hs
 | ref f hc _ ih=>intro hp;exact .ref f hc (fun i y h1=>ih i y h1 (Ic (by simpa [V.plain] using hp) h1))
 | fn hl _ ih=>intro hp;exact .fn hl fun i c u h1 h2=>ih i c u h1 h2 (sX (by simpa [V.plain] using hp) h1)
 | mp hj=>intro _;exact .mp hj
 | nilP=>intro _;exact .nilP
 | nilF=>intro _;exact .nilF
 | nilM=>intro _;exact .nilM
 | nilI=>intro _;exact .nilI
 | unk h=>intro _;exact .unk h
 | ifc _ ih=>intro hp;exact .ifc (ih (by simpa [V.plain] using hp))
 | hp h=>intro hp;simp [V.plain] at hp
 | hm h=>intro hp;simp [V.plain] at hp
 | rest=>intro _;exact .rest
 | tail hj hn _ ih=>intro hp;exact .tail hj hn (ih rfl)
 | lit h hk hzz ih=>intro hp;exact .lit (ih (by simpa [V.plain] using hp)) hk hzz
theorem Ko:∀{l:List Nat} {k t:Nat},u4 l=true->l[k]? = some t->jb t l=some k
 | [],k,t,_,h=>by grind
 | x::l,k,t,hn,h=>by
  simp only [u4,bv] at hn
  cases k with
  | zero=>simp at h;subst h;simp [jb]
  | succ k =>
   have h':l[k]? = some t:=by grind
   have hne:¬x=t:=by
    grind
   simp only [jb,if_neg hne,Ko hn.2 h',cg]
def BW (Z:Zs) (ts:List TypeId):Zs:={ Z with a:=fun _ _=>none,i:=fun t=>jb t ts }
theorem Pg (P:Program) (t:TypeId):(wC P t).ar=some (t,0):=by unfold wC;split<;>rfl
theorem HL {cfg:bi} {f:FuncId} {k:Nat} {o:O} (h:(og cfg f)[k]? = some o):∃t,(cfg.ars f)[k]? = some t/\o=wC cfg.P t:=by
 unfold og at h
 grind
theorem HM {cfg:bi} {f:FuncId} {g:Nat}:¬bd Z j (og cfg f) g:=by
 rintro ⟨id,o,h,_,hb⟩
 obtain ⟨t,_,rfl⟩:=HL h
 unfold bf at hb
 rw [Pg] at hb
 grind
theorem Pl {cfg:bi} {f:FuncId} (hn:u4 (cfg.ars f)=true) (hzin:∀g o,Z g o->g < w.heap.size):SR P (BW Z (cfg.ars f)) w j0 (og cfg f):=by
 refine ⟨fun id o h=>?_,fun id id' o o' g h h' hl hl' hb _=>?_,fun _ _=>rfl,hzin⟩
 ·obtain ⟨t,ht,rfl⟩:=HL h
  have hA:nQ (BW Z (cfg.ars f)) id t 0:=⟨Ko hn ht,fun k hk=>by omega,fun k _=>rfl,fun k k' g h=>by cases h⟩
  unfold wC
  split
  ·exact ⟨hA,fun k x g h=>by grind⟩
  ·exact ⟨hA,fun k x g h=>by grind⟩
 ·exact (HM ⟨id,o,h,hl,hb⟩).elim
theorem Xa {cfg:bi} (hc:vQ cfg) {call:b9} (hp:gh cfg.P call.pc) (hi:eY cfg.P call.ic) (n:Nat):gh cfg.P (nC cfg call n):=by
 intro f as0 r h aR Z w us hzin ha
 unfold nC at h
 cases hpr:cfg.pprim f with
 | some g =>
  simp only [hpr] at h
  exact hc.pp f g hpr f as0 r (by grind) aR Z w us hzin ha
 | none =>
  simp only [hpr] at h
  split at h
  rotate_left
  ·cases h
  rename_i hars
  simp only [obi] at h
  obtain ⟨fa,hfa,⟨vs,m⟩,hrun,h⟩:=h
  by_cases hem:cfg.ars f=[]
  rotate_left
  ·-- arenas of its own
   have hars:u4 (cfg.ars f)=true/\mb as0=true:=by
    unfold yT at hars
    grind
   have ha':eB (BW Z (cfg.ars f)) w j0 as0 us:=⟨ha.1,fun i v u h1 h2=>(ha.2 i v u h1 h2).swap (sX hars.2 h1)⟩
   refine (FB hc.mixed hp hi hc.seq hfa hrun (Pl hars.1 hzin) ha').mono ?_
   rintro e w1 ⟨xs,Z1,j1,rfl,e1,e2,e3,e4,_⟩
   have hv1:∃v,vs=[v]/\v.flat1=true/\r=v:=by
    unfold zO at h
    grind
   obtain ⟨v,rfl,hfl,rfl⟩:=hv1
   match xs,e1 with
   | [u],_ =>
    have hv:=e2 0 r u rfl rfl
    have hv2:VR { Z1 with a:=Z.a,i:=Z.i } w1 j0 r u:=JX (hv.flat hfl j0) hfl
    refine ⟨u,{ Z1 with a:=Z.a,i:=Z.i },rfl,?_,⟨e4.os,e4.tape,e4.output,e4.size,fun g hg=>e4.keep g hg HM,e3.zin,rfl,rfl⟩⟩
    cases r<;>first | exact hv2 | (simp [V.flat1] at hfl)
  have hem0:og cfg f=[]:=by unfold og;grind
  rw [hem0] at hrun
  replace h:lS cfg.P m fa.rtypes vs=some r:=by unfold zO at h;grind
  have sr:SR cfg.P Z w j0 []:=⟨fun id o h=>by grind,fun id id' o o' g h=>by grind,fun _ _=>rfl,hzin⟩
  refine (FB hc.mixed hp hi hc.seq hfa hrun sr ha).mono ?_
  rintro e w1 ⟨xs,Z1,j1,rfl,e1,e2,e3,e4,_⟩
  have za:Z1.a=Z.a:=funext fun t=>(e4.ar t fun id o n ho=>by grind).2
  have st0:pC Z w Z1 w1:=⟨e4.os,e4.tape,e4.output,e4.size,fun g hg=>e4.keep g hg AB,e3.zin,za,e4.z.i⟩
  have young:∀g,bd Z1 j1 m g->w.heap.size<=g:=fun g hg=>by
   rcases jV g w.heap.size with aC | hge
   ·exact (AB (e4.owned g aC hg)).elim
   grind
  have frz:∀ids:List Nat,pC Z w (cS Z1 (Fz cfg.P j1 m ids)) w1:=fun ids=>⟨st0.os,st0.tape,st0.output,st0.size,fun g hg=>⟨(st0.keep g hg).1,fun o=>⟨fun h=>((st0.keep g hg).2 o).1 (h.resolve_right fun ⟨id,_,hb,ho⟩=>by
    have:=young g (nw e3 hb ho);omega),fun h=>.inl (((st0.keep g hg).2 o).2 h)⟩⟩,fun g o h=>by
   rcases h with h | ⟨id,_,hb,ho⟩
   ·exact e3.zin g o h
   ·exact bd.lt e3 (nw e3 hb ho),za,e4.z.i⟩
  have snapOne:∀(v v':V) (u:Value),mZ m v=some v'->VR Z1 w1 j1 v u->∃ids,VR (cS Z1 (Fz cfg.P j1 m ids)) w1 j0 v' u:=fun v v' u hg hv=>⟨iO m v,Gt e3 (DN hg) (fun _ h=>h) hv⟩
  have notTup2:∀(v v':V),fD m v=some v'->(∀ws,v'≠.tup ws)/\(∀t els,v'≠.fr t els):=by
   intro v v' hs
   have s1:∀v v',dX m v=some v'->(∀ws,v'≠.tup ws)/\(∀t els,v'≠.fr t els):=by
    intro v v' h1
    have:=(Gr h1).1
    exact ⟨fun ws e=>(by rw [e] at this;cases this),fun t els e=>(by rw [e] at this;cases this)⟩
   cases v with
   | agg cs =>
    simp only [fD,omi] at hs
    grind
   | ptr id k off =>
    simp only [fD,obi] at hs
    obtain ⟨⟨x,o⟩,_,hs⟩:=hs
    cases x<;>simp only [omi] at hs<;>(grind)
   | _=>exact s1 _ _ (by simpa [fD] using hs)
  have notTup:∀(v v':V),gR m v=some v'->(∀ws,v'≠.tup ws)/\(∀t els,v'≠.fr t els):=by
   intro v v' hs
   by_cases hf:∃f caps,v = .fn f caps
   ·obtain ⟨f,caps,rfl⟩:=hf
    simp only [gR,omi] at hs
    grind
   ·have e0:gR m v=fD m v:=by cases v<;>first | rfl | grind
    grind
  have r1of:∀(Z2:Zs) (v':V) (u:Value),(∀t els,v'≠.fr t els)->VR Z2 w1 j0 v' u->R1 cfg.P Z2 w w1 v' u:=by
   intro Z2 v' u hn hv
   cases v'<;>first | exact hv | grind
  match vs,xs,e1 with
  | [v],[u],_ =>
   have hv:=e2 0 v u rfl rfl
   have goal:∀(r':V),r=r'->∀Z2,RR cfg.P Z2 w w1 r' u->pC Z w Z2 w1->∃u' Z1,Ending.returned (if h:([u]:List Value).toArray.size=1 then ([u]:List Value).toArray[0] else .tuple ([u]:List Value).toArray) = .returned u'/\RR cfg.P Z1 w w1 r u'/\pC Z w Z1 w1:=by
    grind
   have snapG:mZ m v=some r->∃u' Z1,Ending.returned (if h:([u]:List Value).toArray.size=1 then ([u]:List Value).toArray[0] else .tuple ([u]:List Value).toArray) = .returned u'/\RR cfg.P Z1 w w1 r u'/\pC Z w Z1 w1:=by
    intro hg
    obtain ⟨ids,hs⟩:=snapOne v r u hg hv
    obtain ⟨n1,n2⟩:=notTup v r (DN hg)
    exact goal r rfl _ (RR.mk (r1of _ r u n2 hs) n1) (frz ids)
   have h':∃t,p9 cfg.P m t v=some r:=by
    unfold lS at h
    grind
   obtain ⟨t,h⟩:=h'
   unfold p9 at h
   split at h
   ·rename_i id _ _
    cases hmm:m[id]? with
    | none=>grind
    | some o =>
     cases o<;>simp only [hmm] at h<;>first | (cases h;done) | skip
     rename_i et els fz
     have hO:=e3.obj id _ hmm
     obtain ⟨hn,hh,hrow⟩:=hO
     cases hv with
     | own hj h00 =>
      rw [hj] at hh;cases hh
      split at h
      rotate_left
      ·have hs:dX m (.own id)=some (.sl els):=by simp [dX,cy,hmm]
       exact snapG (by simp [mZ,gR,fD,hs];grind)
      split at h
      ·rename_i hfz
       subst hfz
       split at h
       rotate_left
       ·cases h
       rename_i hfl
       have h1:=hrow.1
       simp only at h1
       subst h1
       refine goal _ (Option.some.inj h).symm Z1 ?_ st0
       refine ⟨_,_,_,rfl,hrow,fun x hx y hy=>?_,fun g hg=>?_,h00⟩
       ·grind
       ·have ho:bd Z1 j1 m g:=⟨id,_,hmm,rfl,(bf.plain rfl).2 (by simpa [cf,hj] using hg)⟩
        exact ⟨young g ho,bd.lt e3 ho⟩
      ·have hs:dX m (.own id)=some (.sl els):=by simp [dX,cy,hmm]
       exact snapG (by simp [mZ,gR,fD,hs];grind)
   ·cases hel:ef cfg.P t with
    | none=>grind
    | some et =>
     simp only [hel,aJ] at h
     split at h
     ·rename_i hpos
      split at h
      rotate_left
      ·exact snapG (by simp [mZ,gR,fD,dX];grind)
      cases hv
      refine goal _ (Option.some.inj h).symm Z1 ?_ st0
      exact ⟨none,0,0,rfl,⟨rfl,hpos,bG _,by simp,.inl ⟨rfl,rfl⟩⟩,by simp,fun g hg=>by simp [bz.blk] at hg,fun a ha=>by grind⟩
     grind
   grind
  | [],[],_ =>
   have:r = .tup []:=by
    unfold lS at h
    cases hrt:fa.rtypes<;>simp [hrt,bo] at h<;>first | grind | (rename_i ts;cases ts<;>simp [hrt,bo] at h<;>exact h.symm)
   subst this
   exact ⟨_,Z1,rfl,⟨[],rfl,rfl,fun i v x h=>by grind⟩,st0⟩
  | v::v'::vs,u::u'::xs,hl =>
   have h':(bo (mZ m) (v::v'::vs)).map V.tup=some r:=by
    unfold lS at h
    grind
   simp only [omi] at h'
   obtain ⟨gs,hgs,rfl⟩:=h'
   obtain ⟨g1,g2⟩:=iR hgs
   refine ⟨.tuple (u::u'::xs).toArray,cS Z1 (Fz cfg.P j1 m ((v::v'::vs).flatMap (iO m))),by grind,⟨u::u'::xs,rfl,by grind,fun i y x hy hx=>?_⟩,frz _⟩
   obtain ⟨y0,hy0,hgy⟩:=g2 i y hy
   have hsn:=DN hgy
   refine r1of _ y x (notTup y0 y hsn).2 (Gt e3 hsn (fun k hk=>?_) (e2 i y0 x hy0 hx))
   grind
theorem PS {cfg:bi} (hc:vQ cfg):∀n,gh cfg.P (dD cfg n).pc/\eY cfg.P (dD cfg n).ic:=by
 intro n
 induction n with
 | zero=>exact ⟨fun f as0 r h=>by simp [dD] at h,fun f as0 mem r mem' h=>by simp [dD] at h⟩
 | succ n ih=>exact ⟨Xa hc ih.1 ih.2 n,Un hc ih.1 ih.2 n⟩
end
end Go.Lite
namespace Go.Lite
open Go
def gb (a b:b9):Prop:=(∀f as0 r,a.pc f as0=some r->b.pc f as0=some r)/\∀f as0 m r,a.ic f as0 m=some r->b.ic f as0 m=some r
section
variable {cfg:bi} {a b:b9}
theorem H5 (h:gb a b) {dr:Bool} {f:FuncId} {args:List V} {mem:List O} {r:V × List O} (hr:gN cfg a dr f args mem=some r):gN cfg b dr f args mem=some r:=by
 unfold gN at hr |-
 split at hr
 ·cases hr
 ·rename_i h1
  rw [if_neg h1]
  split at hr
  ·rename_i h2
   rw [if_pos h2]
   simp only [obi] at hr |-
   obtain ⟨as0,q1,x,q2,q3⟩:=hr
   exact ⟨as0,q1,x,h.1 _ _ _ q2,q3⟩
  ·rename_i h2
   rw [if_neg h2]
   split at hr
   ·cases hr
   ·rename_i h3
    rw [if_neg h3]
    cases hcf:cfg.can f with
    | none=>rw [hcf] at hr;exact h.2 _ _ _ _ hr
    | some rd =>
     rw [hcf] at hr
     obtain ⟨hr,hro⟩:=AR hr
     refine Fs ?_ hro
     simp only [pM,omi] at hr |-
     obtain ⟨x,q1,q2⟩:=hr
     exact ⟨x,h.2 _ _ _ _ q1,q2⟩
theorem Ty (h:gb a b) {f:FuncId} {args:List V} {mem:List O} {r:V × List O} (hr:mX a f args mem=some r):mX b f args mem=some r:=by
 unfold mX at hr |-
 split at hr
 ·cases hr
 rename_i hna
 rw [if_neg hna]
 simp only [obi] at hr |-
 obtain ⟨x,h1,h2⟩:=hr
 exact ⟨x,h.2 _ _ _ _ h1,h2⟩
theorem LH (h:gb a b) {dr:Bool} {o:aF} {env:List V} {mem:List O} {r:V × List O} (hr:bQ cfg a dr o env mem=some r):bQ cfg b dr o env mem=some r:=by
 rcases o with ⟨dst,op,ty,gu⟩
 cases op
 case call c =>
  obtain ⟨callee,args,ats⟩:=c
  cases callee
  case value f =>
   simp only [bQ,obi] at hr |-
   obtain ⟨fv,q1,args,q2,q3⟩:=hr
   refine ⟨fv,q1,args,q2,?_⟩
   cases fv<;>first | exact q3 | skip
   simp only at q3 |-
   split at q3
   ·rename_i hx
    rw [if_pos hx]
    split at q3
    ·cases q3
    ·rename_i hy;rw [if_neg hy];exact H5 h q3
   rename_i hx0
   rw [if_neg hx0]
   split at q3
   ·rename_i hx
    rw [if_pos hx]
    split at q3
    ·rename_i hy;rw [if_pos hy];exact Ty h q3
    ·cases q3
   ·rename_i hx;rw [if_neg hx];exact H5 h q3
  all_goals exact hr
 case makeFunc fn first caps=>cases fn<;>exact hr
 case makeMap t rs=>cases rs<;>exact hr
 all_goals exact hr
theorem Az (h:gb a b) {dr:Bool} {o:aF} {env:List V} {mem:List O} {r:V × List O} (hr:da cfg a dr o env mem=some r):da cfg b dr o env mem=some r:=by
 unfold da at hr |-
 split at hr
 ·rename_i hx
  rw [if_pos hx]
  simp only [obi] at hr |-
  obtain ⟨x,q1,q2⟩:=hr
  exact ⟨x,LH h q1,q2⟩
 ·rename_i hx
  rw [if_neg hx]
  exact LH h hr
theorem LO (h:gb a b) {dr:Bool}:∀(l:List aF) (s s':S),fB cfg a dr l s=some s'->fB cfg b dr l s=some s':=by
 intro l
 induction l with
 | nil=>intro s s' hr;exact hr
 | cons o l ih =>
  intro s s' hr
  simp only [fB,obi] at hr |-
  obtain ⟨w,q1,q2⟩:=hr
  refine ⟨w,q1,?_⟩
  cases w
  ·exact ih _ _ q2
  ·simp only [if_true,obi] at q2 |-
   obtain ⟨x,q3,q4⟩:=q2
   exact ⟨x,Az h q3,ih _ _ q4⟩
theorem LP (h:gb a b):∀(l:List aF) (s:S) (fs:List Nat) (r:S × List Nat),gB cfg a l s fs=some r->gB cfg b l s fs=some r:=by
 intro l
 induction l with
 | nil=>intro s fs r hr;exact hr
 | cons o l ih =>
  intro s fs r hr
  simp only [gB,obi] at hr |-
  obtain ⟨w,q1,q2⟩:=hr
  refine ⟨w,q1,?_⟩
  cases w
  ·exact ih _ _ _ q2
  ·simp only [if_true,obi] at q2 |-
   obtain ⟨x,q3,q4⟩:=q2
   exact ⟨x,Az h q3,ih _ _ _ q4⟩
theorem Wt (h:gb a b) {dr:Bool} (l:List aF) (s s':S) (hr:jF cfg a dr l s=some s'):jF cfg b dr l s=some s':=by
 unfold jF at hr |-
 split at hr
 ·rename_i hc
  rw [if_pos hc]
  simp only [obi] at hr |-
  obtain ⟨r,q1,q2⟩:=hr
  exact ⟨r,LP h _ _ _ _ q1,q2⟩
 ·rename_i hc
  rw [if_neg hc]
  exact LO h _ _ _ hr
theorem Ek {f g:S->Option (Ex × S)} (h:∀s r,f s=some r->g s=some r):∀(n m:Nat) (s:S) (r:Ex × S),n<=m->dm f n s=some r->dm g m s=some r:=by
 intro n
 induction n with
 | zero=>intro m s r _ hr;simp [dm] at hr
 | succ n ih =>
  intro m s r hm hr
  cases m with
  | zero=>omega
  | succ m =>
   simp only [dm,obi] at hr |-
   obtain ⟨⟨x,s'⟩,q1,q2⟩:=hr
   refine ⟨(x,s'),h _ _ q1,?_⟩
   cases x
   ·exact ih m s' r (by omega) q2
   ·exact q2
   ·exact q2
theorem rT (h:gb a b) {n m n0:Nat} (hm:n<=m):∀(c:C) (s:S) (r:Ex × S),exec cfg a n n0 c s=some r->exec cfg b m n0 c s=some r:=by
 intro c
 induction c with
 | skip=>intro s r hr;exact hr
 | ops dr l =>
  intro s r hr
  simp only [exec,obi] at hr |-
  obtain ⟨s',q1,q2⟩:=hr
  exact ⟨s',Wt h _ _ _ q1,q2⟩
 | seq p q ihp ihq =>
  intro s r hr
  simp only [exec,obi] at hr |-
  obtain ⟨⟨x,s'⟩,q1,q2⟩:=hr
  refine ⟨(x,s'),ihp _ _ q1,?_⟩
  cases x
  ·exact ihq _ _ q2
  ·exact q2
  ·exact q2
 | cond c p q ihp ihq =>
  intro s r hr
  simp only [exec,obi] at hr |-
  obtain ⟨v,q1,q2⟩:=hr
  refine ⟨v,q1,?_⟩
  cases v<;>simp only at q2 |-<;>first | (cases q2;done) | skip
  split at q2
  ·rename_i t;rw [if_pos t];exact ihp _ _ q2
  ·rename_i t;rw [if_neg t];exact ihq _ _ q2
 | block id p ih =>
  intro s r hr
  simp only [exec,omi] at hr |-
  obtain ⟨x,q1,q2⟩:=hr
  exact ⟨x,ih _ _ q1,q2⟩
 | loop f p ih =>
  intro s r hr
  simp only [exec,omi] at hr |-
  obtain ⟨x,q1,q2⟩:=hr
  exact ⟨x,Ek (fun s r h=>ih _ _ h) n m s x hm q1,q2⟩
 | exit i=>intro s r hr;exact hr
 | ret=>intro s r hr;exact hr
 | start g=>intro s r hr;exact hr
 | cseq f p q ihp ihq =>
  intro s r hr
  simp only [exec,obi] at hr |-
  obtain ⟨⟨x,s'⟩,q1,q2⟩:=hr
  refine ⟨(x,s'),ihp _ _ q1,?_⟩
  cases x with
  | norm=>exact ihq _ _ q2
  | exit i=>exact q2
  | ret=>exact q2
 | uncons g ps ws p q ihp ihq =>
  intro s r hr
  simp only [exec] at hr |-
  cases he:s.env[g]? with
  | none=>simp only [he] at hr;cases hr
  | some v =>
   simp only [he] at hr |-
   cases v<;>first | (cases hr;done) | skip
   rename_i ts l
   cases l with
   | nil=>exact ihq _ _ hr
   | cons x l =>
    cases x<;>first | (cases hr;done) | skip
    try simp only at hr
    try simp only
    split at hr
    ·rename_i hc
     rw [if_pos hc]
     simp only [omi] at hr |-
     obtain ⟨x,q1,q2⟩:=hr
     exact ⟨x,ihp _ _ q1,q2⟩
    ·cases hr
theorem MH (h:gb a b) {n m:Nat} (hm:n<=m) {fa:FA} {args:List V} {mem:List O} {r:List V × List O} (hr:oZ cfg a n fa args mem=some r):oZ cfg b m fa args mem=some r:=by
 unfold oZ at hr |-
 split at hr
 ·rename_i hc
  rw [if_pos hc]
  simp only [obi] at hr |-
  obtain ⟨x,q1,q2⟩:=hr
  exact ⟨x,rT h hm _ _ _ q1,q2⟩
 ·cases hr
theorem WO (h:gb a b) {n m:Nat} (hm:n<=m) {f:FuncId} {as0:List V} {r:V} (hr:nC cfg a n f as0=some r):nC cfg b m f as0=some r:=by
 unfold nC at hr |-
 split at hr
 ·exact hr
 ·split at hr
  rotate_left
  ·cases hr
  rename_i hc
  rw [if_pos hc]
  simp only [obi] at hr |-
  obtain ⟨fa,q1,x,q2,q3⟩:=hr
  exact ⟨fa,q1,x,MH h hm q2,q3⟩
theorem Uh (h:gb a b) {n m:Nat} (hm:n<=m) {f:FuncId} {as0:List V} {mem:List O} {r:V × List O} (hr:m4 cfg a n f as0 mem=some r):m4 cfg b m f as0 mem=some r:=by
 unfold m4 at hr |-
 split at hr
 ·exact hr
 ·simp only [obi,omi] at hr |-
  obtain ⟨fa,q1,x,q2,q3⟩:=hr
  exact ⟨fa,q1,x,MH h hm q2,q3⟩
theorem PT (n:Nat):gb (dD cfg n) (dD cfg (n+1)):=by
 induction n with
 | zero=>exact ⟨fun f as0 r h=>by simp [dD] at h,fun f as0 m r h=>by simp [dD] at h⟩
 | succ n ih=>exact ⟨fun f as0 r h=>WO ih (Nat.le_succ n) h,fun f as0 m r h=>Uh ih (Nat.le_succ n) h⟩
theorem gb.refl (a:b9):gb a a:=⟨fun _ _ _ h=>h,fun _ _ _ _ h=>h⟩
theorem gb.trans {c:b9} (h:gb a b) (h':gb b c):gb a c:=⟨fun f as0 r q=>h'.1 f as0 r (h.1 f as0 r q),fun f as0 m r q=>h'.2 f as0 m r (h.2 f as0 m r q)⟩
theorem kN {n m:Nat} (h:n<=m):gb (dD cfg n) (dD cfg m):=by
 induction m with
 | zero=>have:n=0:=by omega
         subst this;exact gb.refl _
 | succ m ih =>
  by_cases e:n=m+1
  ·subst e;exact gb.refl _
  ·exact (ih (by omega)).trans (PT m)
open Classical in
noncomputable def sD {α:Type} (f:Nat->Option α):Option α:=if h:∃n,(f n).isSome=true then f (Classical.choose h) else none
def yu {α:Type} (f:Nat->Option α):Prop:=∀n m x,n<=m->f n=some x->f m=some x
theorem Ah {α:Type} {f:Nat->Option α} {x:α} (h:sD f=some x):∃n,f n=some x:=by
 unfold sD at h
 split at h
 ·exact ⟨_,h⟩
 ·cases h
theorem uU {α:Type} {f:Nat->Option α} (hf:yu f) {n:Nat} {x:α} (h:f n=some x):sD f=some x:=by
 unfold sD
 have he:∃n,(f n).isSome=true:=⟨n,by simp [h]⟩
 rw [dif_pos he]
 have h1:(f (Classical.choose he)).isSome=true:=Classical.choose_spec he
 generalize Classical.choose he=k at h1
 cases h2:f k with
 | none=>simp [h2] at h1
 | some y =>
  have e1:=hf k (max k n) y (tT _ _) h2
  have e2:=hf n (max k n) x (tU _ _) h
  rw [e1] at e2
  exact e2
end
end Go.Lite
namespace Go.Lite
open Go
noncomputable def bK (cfg:bi) (f:FuncId) (as0:List V):Option V:=sD fun n=>(dD cfg n).pc f as0
noncomputable def lV (cfg:bi) (f:FuncId) (as0:List V) (mem:List O):Option (V × List O):=sD fun n=>(dD cfg n).ic f as0 mem
noncomputable def gO (cfg:bi):b9:=⟨bK cfg,lV cfg⟩
noncomputable def xf (step:S->Option (Ex × S)) (s:S):Option (Ex × S):=sD fun n=>dm step n s
noncomputable def bV (cfg:bi) (n0:Nat):C->S->Option (Ex × S)
 | .skip,s=>some (.norm,s)
 | .ops dr l,s=>(jF cfg (gO cfg) dr l s).bind fun s=>if !dr || pZ cfg l s.env then some (.norm,s) else none
 | .seq a b,s=>(bV cfg n0 a s).bind fun r =>
   match r with
   |(.norm,s')=>bV cfg n0 b s'
   |(.exit i,s')=>some (.exit i,s')
   |(.ret,s')=>some (.ret,s')
 | .cond c a b,s=>(aO s.env c).bind fun v =>
   match v with
   | .bool t=>if t then bV cfg n0 a s else bV cfg n0 b s
   | _=>none
 | .block id c,s=>(bV cfg n0 c s).map fun r =>
   match r with
   |(.norm,s')=>(.norm,s')
   |(.exit i,s')=>if i=id then (.norm,s') else (.exit i,s')
   |(.ret,s')=>(.ret,s')
 | .loop f c,s=>(xf (fun s=>bV cfg n0 c (cM n0 f s)) s).map fun r=>(r.1,cM n0 f r.2)
 | .exit i,s=>some (.exit i,s)
 | .ret,s=>some (.ret,s)
 | .start g,s=>(tz cfg g s).map fun s=>(.norm,s)
 | .uncons g ps ws a b,s =>
  match s.env[g]? with
  | some (.rest _ [])=>bV cfg n0 b s
  | some (.rest ts (.tup vs::l)) =>
   if vs.length=ps.length then (bV cfg n0 a ⟨tj (s.env.set g .junk) ps vs,s.mem⟩).map fun r=>(r.1,⟨(e9 r.2.env ws).set g (.rest ts l),r.2.mem⟩) else none
  | _=>none
 | .cseq f a b,s=>(bV cfg n0 a s).bind fun r =>
   match r with
   |(.norm,s')=>bV cfg n0 b (cM n0 f s')
   |(.exit i,s')=>some (.exit i,s')
   |(.ret,s')=>some (.ret,s')
noncomputable def qN (cfg:bi) (fa:FA) (args:List V) (mem:List O):Option (List V × List O) :=
 if args.length=fa.np/\fa.np<=fa.nt then
  (bV cfg mem.length fa.body ⟨args++bE (fa.nt - fa.np) (.tup []),mem⟩).bind fun r =>
   match r with
   |(.exit _,_)=>none
   |(_,s)=>(bo (md cfg.P s) fa.results).map fun vs=>(vs,s.mem)
 else none
section
variable {cfg:bi}
theorem WQ (f:FuncId) (as0:List V):yu fun n=>(dD cfg n).pc f as0:=fun _ _ _ h q=>(kN h).1 _ _ _ q
theorem Kn (f:FuncId) (as0:List V) (mem:List O):yu fun n=>(dD cfg n).ic f as0 mem:=fun _ _ _ h q=>(kN h).2 _ _ _ _ q
theorem L3 {f:FuncId} {as0:List V} {r:V} (h:bK cfg f as0=some r):∃n,(dD cfg n).pc f as0=some r:=Ah h
theorem D3 {f:FuncId} {as0:List V} {mem:List O} {r:V × List O} (h:lV cfg f as0 mem=some r):∃n,(dD cfg n).ic f as0 mem=some r:=Ah h
theorem L4 {f:FuncId} {as0:List V} {r:V} (n:Nat) (h:(dD cfg n).pc f as0=some r):bK cfg f as0=some r:=uU (WQ f as0) h
theorem H4 {dr:Bool} {f:FuncId} {args:List V} {mem:List O} {r:V × List O} (hr:gN cfg (gO cfg) dr f args mem=some r):∃n,gN cfg (dD cfg n) dr f args mem=some r:=by
 unfold gN at hr
 split at hr
 ·cases hr
 ·rename_i h1
  split at hr
  ·rename_i h2
   simp only [obi] at hr
   obtain ⟨as0,q1,x,q2,q3⟩:=hr
   obtain ⟨n,hn⟩:=L3 q2
   refine ⟨n,?_⟩
   unfold gN
   rw [if_neg h1,if_pos h2]
   simp only [obi]
   exact ⟨as0,q1,x,hn,q3⟩
  ·rename_i h2
   split at hr
   ·cases hr
   ·rename_i h3
    cases hcf:cfg.can f with
    | none =>
     rw [hcf] at hr
     obtain ⟨n,hn⟩:=D3 hr
     refine ⟨n,?_⟩
     unfold gN
     rw [if_neg h1,if_neg h2,if_neg h3,hcf]
     exact hn
    | some rd =>
     rw [hcf] at hr
     obtain ⟨hr,hro⟩:=AR hr
     simp only [pM,omi] at hr
     obtain ⟨x,q1,q2⟩:=hr
     obtain ⟨n,hn⟩:=D3 q1
     refine ⟨n,?_⟩
     unfold gN
     rw [if_neg h1,if_neg h2,if_neg h3,hcf]
     refine Fs ?_ hro
     simp only [pM,omi]
     exact ⟨x,hn,q2⟩
theorem LF {dr:Bool} {o:aF} {env:List V} {mem:List O} {r:V × List O} (hr:bQ cfg (gO cfg) dr o env mem=some r):∃n,bQ cfg (dD cfg n) dr o env mem=some r:=by
 rcases o with ⟨dst,op,ty,gu⟩
 cases op
 case call c =>
  obtain ⟨callee,args,ats⟩:=c
  cases callee
  case value f =>
   simp only [bQ,obi] at hr |-
   obtain ⟨fv,q1,args,q2,q3⟩:=hr
   cases fv
   case fn f caps =>
    simp only at q3
    split at q3
    ·rename_i hx
     split at q3
     ·cases q3
     rename_i hy
     obtain ⟨n,hn⟩:=H4 q3
     exact ⟨n,_,q1,args,q2,by simp only;rw [if_pos hx,if_neg hy];exact hn⟩
    rename_i hx0
    split at q3
    ·rename_i hx
     split at q3
     ·rename_i hy
      unfold mX at q3
      split at q3
      ·cases q3
      rename_i hna
      simp only [obi] at q3
      obtain ⟨x,h1,h2⟩:=q3
      obtain ⟨n,hn⟩:=D3 h1
      refine ⟨n,_,q1,args,q2,?_⟩
      simp only
      rw [if_neg hx0,if_pos hx,if_pos hy]
      unfold mX
      rw [if_neg hna]
      simp only [obi]
      exact ⟨x,hn,h2⟩
     ·cases q3
    ·rename_i hx
     obtain ⟨n,hn⟩:=H4 q3
     exact ⟨n,_,q1,args,q2,by simp only;rw [if_neg hx0,if_neg hx];exact hn⟩
   all_goals cases q3
  all_goals exact ⟨0,hr⟩
 case makeFunc fn first caps=>cases fn<;>exact ⟨0,hr⟩
 case makeMap t rs=>cases rs<;>exact ⟨0,hr⟩
 all_goals exact ⟨0,hr⟩
theorem LK {dr:Bool} {o:aF} {env:List V} {mem:List O} {r:V × List O} (hr:da cfg (gO cfg) dr o env mem=some r):∃n,da cfg (dD cfg n) dr o env mem=some r:=by
 unfold da at hr
 split at hr
 ·rename_i hx
  simp only [obi] at hr
  obtain ⟨x,q1,q2⟩:=hr
  obtain ⟨n,hn⟩:=LF q1
  refine ⟨n,?_⟩
  unfold da
  rw [if_pos hx,hn]
  exact q2
 ·rename_i hx
  obtain ⟨n,hn⟩:=LF hr
  refine ⟨n,?_⟩
  unfold da
  rw [if_neg hx]
  exact hn
theorem Wq {dr:Bool}:∀(l:List aF) (s s':S),fB cfg (gO cfg) dr l s=some s'->∃n,fB cfg (dD cfg n) dr l s=some s':=by
 intro l
 induction l with
 | nil=>intro s s' hr;exact ⟨0,hr⟩
 | cons o l ih =>
  intro s s' hr
  simp only [fB,obi] at hr |-
  obtain ⟨w,q1,q2⟩:=hr
  cases w
  ·obtain ⟨n,hn⟩:=ih _ _ q2
   exact ⟨n,false,q1,hn⟩
  ·simp only [if_true,obi] at q2
   obtain ⟨x,q3,q4⟩:=q2
   obtain ⟨n,hn⟩:=ih _ _ q4
   obtain ⟨m,hm⟩:=LK q3
   refine ⟨max n m,true,q1,?_⟩
   simp only [if_true,obi]
   exact ⟨x,Az (kN (tU n m)) hm,LO (kN (tT n m)) _ _ _ hn⟩
theorem Ww:∀(l:List aF) (s:S) (fs:List Nat) (r:S × List Nat),gB cfg (gO cfg) l s fs=some r->∃n,gB cfg (dD cfg n) l s fs=some r:=by
 intro l
 induction l with
 | nil=>intro s fs r hr;exact ⟨0,hr⟩
 | cons o l ih =>
  intro s fs r hr
  simp only [gB,obi] at hr |-
  obtain ⟨w,q1,q2⟩:=hr
  cases w
  ·obtain ⟨n,hn⟩:=ih _ _ _ q2
   exact ⟨n,false,q1,hn⟩
  ·simp only [if_true,obi] at q2
   obtain ⟨x,q3,q4⟩:=q2
   obtain ⟨n,hn⟩:=ih _ _ _ q4
   obtain ⟨m,hm⟩:=LK q3
   refine ⟨max n m,true,q1,?_⟩
   simp only [if_true,obi]
   exact ⟨x,Az (kN (tU n m)) hm,LP (kN (tT n m)) _ _ _ _ hn⟩
theorem Ws {dr:Bool} (l:List aF) (s s':S) (hr:jF cfg (gO cfg) dr l s=some s'):∃n,jF cfg (dD cfg n) dr l s=some s':=by
 unfold jF at hr
 split at hr
 ·rename_i hc
  simp only [obi] at hr
  obtain ⟨r,q1,q2⟩:=hr
  obtain ⟨n,hn⟩:=Ww _ _ _ _ q1
  exact ⟨n,by unfold jF;rw [if_pos hc,hn];exact q2⟩
 ·rename_i hc
  obtain ⟨n,hn⟩:=Wq _ _ _ hr
  exact ⟨n,by unfold jF;rw [if_neg hc];exact hn⟩
def BG (cfg:bi) (n0:Nat) (c:C) (s:S) (r:Ex × S):Prop:=∃n,exec cfg (dD cfg n) n n0 c s=some r
theorem UK {n0:Nat} {c:C} {g:S->S} {step:S->Option (Ex × S)} (h:∀s r,step s=some r->BG cfg n0 c (g s) r):∀(k:Nat) (s:S) (r:Ex × S),dm step k s=some r ->
  ∃n,dm (fun s=>exec cfg (dD cfg n) n n0 c (g s)) n s=some r:=by
 intro k
 induction k with
 | zero=>intro s r hr;simp [dm] at hr
 | succ k ih =>
  intro s r hr
  simp only [dm,obi] at hr
  obtain ⟨⟨x,s'⟩,q1,q2⟩:=hr
  obtain ⟨n,hn⟩:=h _ _ q1
  have up:∀N,n<=N->exec cfg (dD cfg N) N n0 c (g s)=some (x,s'):=fun N hN=>rT (kN hN) hN _ _ _ hn
  cases x with
  | norm =>
   obtain ⟨m,hm⟩:=ih s' r q2
   refine ⟨max n m+1,?_⟩
   simp only [dm,obi]
   refine ⟨(.norm,s'),up _ (by omega),?_⟩
   exact Ek (fun s r q=>rT (kN (by omega:m<=max n m+1)) (by omega) _ _ _ q) m (max n m) s' r (by omega) hm
  | exit i=>exact ⟨n+1,by simp only [dm,obi];exact ⟨_,up _ (by omega),q2⟩⟩
  | ret=>exact ⟨n+1,by simp only [dm,obi];exact ⟨_,up _ (by omega),q2⟩⟩
theorem S8 {n0:Nat}:∀(c:C) (s:S) (r:Ex × S),bV cfg n0 c s=some r->BG cfg n0 c s r:=by
 intro c
 induction c with
 | skip=>intro s r hr;exact ⟨0,hr⟩
 | ops dr l =>
  intro s r hr
  simp only [bV,obi] at hr
  obtain ⟨s',q1,q2⟩:=hr
  obtain ⟨n,hn⟩:=Ws _ _ _ q1
  exact ⟨n,by simp only [exec,obi];exact ⟨s',hn,q2⟩⟩
 | seq p q ihp ihq =>
  intro s r hr
  simp only [bV,obi] at hr
  obtain ⟨⟨x,s'⟩,q1,q2⟩:=hr
  obtain ⟨n,hn⟩:=ihp _ _ q1
  cases x with
  | norm =>
   obtain ⟨m,hm⟩:=ihq _ _ q2
   refine ⟨max n m,?_⟩
   simp only [exec,obi]
   exact ⟨_,rT (kN (tT n m)) (tT n m) _ _ _ hn,rT (kN (tU n m)) (tU n m) _ _ _ hm⟩
  | exit i=>exact ⟨n,by simp only [exec,obi];exact ⟨_,hn,q2⟩⟩
  | ret=>exact ⟨n,by simp only [exec,obi];exact ⟨_,hn,q2⟩⟩
 | cond c p q ihp ihq =>
  intro s r hr
  simp only [bV,obi] at hr
  obtain ⟨v,q1,q2⟩:=hr
  cases v<;>simp only at q2<;>first | (cases q2;done) | skip
  rename_i t
  cases t
  ·obtain ⟨n,hn⟩:=ihq _ _ q2
   exact ⟨n,by simp only [exec,obi];exact ⟨_,q1,hn⟩⟩
  ·obtain ⟨n,hn⟩:=ihp _ _ q2
   exact ⟨n,by simp only [exec,obi];exact ⟨_,q1,hn⟩⟩
 | block id p ih =>
  intro s r hr
  simp only [bV,omi] at hr
  obtain ⟨x,q1,q2⟩:=hr
  obtain ⟨n,hn⟩:=ih _ _ q1
  exact ⟨n,by simp only [exec,omi];exact ⟨x,hn,q2⟩⟩
 | loop f p ih =>
  intro s r hr
  simp only [bV,omi] at hr
  obtain ⟨x,q1,q2⟩:=hr
  obtain ⟨k,hk⟩:=Ah q1
  obtain ⟨n,hn⟩:=UK (g:=cM n0 f) (fun s r h=>ih _ _ h) k s x hk
  exact ⟨n,by simp only [exec,omi];exact ⟨x,hn,q2⟩⟩
 | exit i=>intro s r hr;exact ⟨0,hr⟩
 | ret=>intro s r hr;exact ⟨0,hr⟩
 | start g=>intro s r hr;exact ⟨0,hr⟩
 | cseq f p q ihp ihq =>
  intro s r hr
  simp only [bV,obi] at hr
  obtain ⟨⟨x,s'⟩,q1,q2⟩:=hr
  obtain ⟨n,hn⟩:=ihp _ _ q1
  cases x with
  | norm =>
   obtain ⟨m,hm⟩:=ihq _ _ q2
   refine ⟨max n m,?_⟩
   simp only [exec,obi]
   exact ⟨_,rT (kN (tT n m)) (tT n m) _ _ _ hn,rT (kN (tU n m)) (tU n m) _ _ _ hm⟩
  | exit i=>exact ⟨n,by simp only [exec,obi];exact ⟨_,hn,q2⟩⟩
  | ret=>exact ⟨n,by simp only [exec,obi];exact ⟨_,hn,q2⟩⟩
 | uncons g ps ws p q ihp ihq =>
  intro s r hr
  unfold BG
  simp only [bV] at hr
  simp only [exec]
  cases he:s.env[g]? with
  | none=>simp only [he] at hr;cases hr
  | some v =>
   simp only [he] at hr |-
   cases v<;>first | (cases hr;done) | skip
   rename_i ts l
   cases l with
   | nil=>exact ihq _ _ hr
   | cons x l =>
    cases x<;>first | (cases hr;done) | skip
    try simp only at hr
    try simp only
    split at hr
    ·rename_i hc
     simp only [omi] at hr
     obtain ⟨x,q1,q2⟩:=hr
     obtain ⟨n,hn⟩:=ihp _ _ q1
     exact ⟨n,by rw [if_pos hc,hn,cg,q2]⟩
    ·cases hr
theorem MI {fa:FA} {args:List V} {mem:List O} {r:List V × List O} (hr:qN cfg fa args mem=some r):∃n,oZ cfg (dD cfg n) n fa args mem=some r:=by
 unfold qN at hr
 split at hr
 ·rename_i hc
  simp only [obi] at hr
  obtain ⟨x,q1,q2⟩:=hr
  obtain ⟨n,hn⟩:=S8 _ _ _ q1
  refine ⟨n,?_⟩
  unfold oZ
  rw [if_pos hc]
  simp only [obi]
  exact ⟨x,hn,q2⟩
 ·cases hr
theorem WP {f:FuncId} {as0:List V} {fa:FA} {vs:List V} {mem:List O} {r:V} (hp:cfg.pprim f=none) (hf:fH cfg.P (cfg.rxf f) f=some fa) (hr:qN cfg fa as0 []=some (vs,mem)) (hg:lS cfg.P mem fa.rtypes vs=some r) (ha:cfg.ars f=[]:=by rfl) :
  bK cfg f as0=some r:=by
 obtain ⟨n,hn⟩:=MI hr
 apply L4 (n+1)
 show nC cfg (dD cfg n) n f as0=some r
 unfold nC
 rw [hp]
 have h1:yT cfg f as0=true:=by unfold yT;rw [ha];rfl
 have h2:og cfg f=[]:=by unfold og;rw [ha];rfl
 simp only [h1,h2,if_true,hf,aJ,hn]
 unfold zO
 rw [ha]
 exact hg
theorem Km {f:FuncId} {as0:List V} {fa:FA} {vs:List V} {mem mem':List O} (hp:cfg.iprim f=none) (hf:fH cfg.P (cfg.rxf f) f=some fa) (hr:qN cfg fa as0 mem=some (vs,mem')) :
  lV cfg f as0 mem=some (o7 vs,mem'):=by
 obtain ⟨n,hn⟩:=MI hr
 refine uU (Kn f as0 mem) (n:=n+1) ?_
 show m4 cfg (dD cfg n) n f as0 mem=_
 unfold m4
 rw [hp]
 simp only [hf,aJ,hn,cg]
theorem AD {f:FuncId} {as0:List V} {g:List V->Option V} {r:V} (hp:cfg.pprim f=some g) (h:g as0=some r):bK cfg f as0=some r:=by
 apply L4 1
 show nC cfg (dD cfg 0) 0 f as0=some r
 unfold nC
 rw [hp]
 exact h
theorem sh {f:FuncId} {as0:List V} {mem:List O} {g:List V->List O->Option (V × List O)} {r:V × List O} (hp:cfg.iprim f=some g) (h:g as0 mem=some r):lV cfg f as0 mem=some r:=by
 refine uU (Kn f as0 mem) (n:=1) ?_
 show m4 cfg (dD cfg 0) 0 f as0 mem=some r
 unfold m4
 rw [hp]
 exact h
theorem Ej (step:S->Option (Ex × S)) (s:S):yu fun n=>dm step n s:=fun n m x h q=>Ek (fun _ _ h=>h) n m s x h q
theorem UI {step:S->Option (Ex × S)} {s s':S} {r:Ex × S} (h:step s=some (.norm,s')) (hr:xf step s'=some r):xf step s=some r:=by
 obtain ⟨k,hk⟩:=Ah hr
 refine uU (Ej step s) (n:=k+1) ?_
 simp only [dm,h,aJ,hk]
theorem UH {step:S->Option (Ex × S)} {s s':S} {i:Nat} (h:step s=some (.exit i,s')):xf step s=some (.exit i,s'):=by
 refine uU (Ej step s) (n:=1) ?_
 simp only [dm,h,aJ]
theorem UJ {step:S->Option (Ex × S)} {s s':S} (h:step s=some (.ret,s')):xf step s=some (.ret,s'):=by
 refine uU (Ej step s) (n:=1) ?_
 simp only [dm,h,aJ]
end
structure OI where
 f:FuncId
 args:List V
 mem:List O
 res:V × List O
section
variable {cfg:bi} {T:List OI} {U:List (FuncId × List V × V)}
end
end Go.Lite
