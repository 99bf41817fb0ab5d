/-
  Texts that the last one stands on.
-/
import Derived.Test.YtlphgcjepphhcaaGreatY2
open List renaming getElem?_append_left->dx,getElem?_append_right->df,getElem?_cons_zero->Ja,getD_eq_getElem?_getD->zy,mem_flatMap->ib,mem_cons->bO,getElem?_eq_none->wV,all_eq_true->dB,mem_range->zC,mem_zipIdx_iff_getElem?->Rp,getElem?_eq_some_iff->bn,getElem?_eq_getElem->bG,mem_filter->m9,getElem_of_mem->kG,mem_of_getElem?->cH,any_eq_true->zx,mem_append->br,mem_filterMap->uF,flatMap_cons->fT,mem_singleton->eV,ext_getElem?->uE,eq_nil_iff_forall_not_mem->Rl,getElem?_set_self->fJ,getElem?_set_ne->fU,length_set->jY,any_eq_false->mY,getElem?_map->dQ,nodup_append->zD,drop_zero->si,drop_eq_getElem_cons->sh,append_nil->dH,append_eq_nil_iff->pX,map_cons->di,replicate->bH,length_replicate->wY,nodup_cons->uG
open Nat renaming le_refl->bK,sub_self->jB,add_zero->d0,lt_or_ge->kN,add_assoc->iA,add_comm->p8,le_trans->j4,lt_of_lt_of_le->oL,lt_trichotomy->w6,eq_zero_or_pos->zI,blt_eq->nf,zero_le->iB,zero_add->ew,blt->ig,le_max_left->uM,le_max_right->uN
open Option renaming getD_some->uO,bind_some->aL,isNone_iff_eq_none->Dw,map_some->cB
open Bool renaming and_eq_true->bD,not_true->bv,false_or->gL,false_and->jA,false_eq_true->cM,true_and->du,and_false->iL,not_eq_true'->i7,or_eq_false_iff->rR,or_eq_true->mU,or_false->lr,true_or->mc,and_self->oC,not_false->gi
open Array renaming getElem?_eq_some_iff->fA,getElem?_setIfInBounds_ne->IX,getElem?_eq_getElem->fq,getD_eq_getD_getElem?->hJ,getElem?_setIfInBounds->C9,replicate->Db,mapM_eq_mapM_toList->Rb
namespace Go.Lite
open Go Go.MapKept
section
variable {P:Program} {Z Z':Zs} {w w':World} {j j':J} {mem mem':List O}
theorem JD:∀(l:List Oper) (acc:List (List Nat)),(ja l acc).length=acc.length+l.length/\(∀k,k < acc.length->(ja l acc)[k]? = acc[k]?) /\
  ∀(m:Nat) (o:Oper),l[m]? = some o->∀i,i∈(ja l acc).getD (acc.length+m) []->∃e∈o.after,Region.binds .any e=true/\(i=e.on∨(e.on < acc.length+m/\i∈(ja l acc).getD e.on [])):=by
 intro l
 induction l with
 | nil=>intro acc;exact ⟨rfl,fun _ _=>rfl,fun m o h=>by simp at h⟩
 | cons o l ih =>
  intro acc
  simp only [ja]
  obtain ⟨h1,h2,h3⟩:=ih (acc++[(o.after.toList.flatMap fun e=>if Region.binds .any e then e.on::acc.getD e.on [] else []).eraseDups])
  refine ⟨by rw [h1];simp;omega,fun k hk=>by rw [h2 k (by simp;omega),dx hk],fun m q hq i hi=>?_⟩
  cases m with
  | zero =>
   simp at hq
   subst hq
   have e0:=h2 acc.length (by simp)
   rw [df (bK _)] at e0
   simp only [jB,Ja] at e0
   rw [d0,zy,e0] at hi
   simp only [uO,List.mem_eraseDups,ib] at hi
   obtain ⟨e,he,hi⟩:=hi
   split at hi
   ·rename_i hb
    refine ⟨e,by simpa using he,hb,?_⟩
    simp only [bO] at hi
    rcases hi with rfl | hi
    ·exact .inl rfl
    ·right
     have aD:e.on < acc.length:=by
      rcases kN e.on acc.length with h | h
      ·exact h
      ·rw [zy,wV h] at hi;simp at hi
     refine ⟨by omega,?_⟩
     rw [zy,h2 _ (by simp;omega),dx aD,<-zy]
     exact hi
   ·simp at hi
  | succ m =>
   have:=h3 m q (by simpa using hq) i (by simpa [iA,p8 1 m] using hi)
   simpa [iA,p8 1 m] using this
def uC (ops:Array Oper) (D:Nat->Bool):Prop:=∀k o,ops[k]? = some o->D k=true->∀e∈o.after,Region.binds .any e=true->D e.on=true
theorem xD {ops:Array Oper} {D:Nat->Bool} (hc:uC ops D):∀(k:Nat) (o:Oper),ops[k]? = some o->(∀e∈o.after,Region.binds .any e=true->D e.on=true)->∀i,i∈(ja ops.toList []).getD k []->D i=true:=by
 intro k
 induction k using Nat.strongRecOn with
 | _ k ih =>
  intro o ho hall i hi
  have:=(JD ops.toList []).2.2 k o (by simpa using ho) i (by simpa using hi)
  obtain ⟨e,he,hb,h⟩:=this
  rcases h with rfl | ⟨aD,h⟩
  ·exact hall e he hb
  ·simp at aD
   have hD:=hall e he hb
   cases hoe:ops[e.on]? with
   | none =>
    have hlen:=(JD ops.toList []).1
    have:ops.size<=e.on:=by simpa using hoe
    rw [zy,wV (by rw [hlen];simpa using this)] at h
    simp at h
   | some oe=>exact ih e.on aD oe hoe (hc e.on oe hoe hD) i h
theorem TD {ops:Array Oper} {l:List aI} (h:xK ops l=true):(∀k o,ops[k]? = some o->∀e∈o.after,Region.binds .any e=true->e.on < k) /\
  ∀i k oi ok,i < k->l[i]? = some oi->l[k]? = some ok->iD oi ok=true->i∈(ja ops.toList []).getD k []:=by
 simp only [xK,bD,dB,zC] at h
 obtain ⟨⟨_,h1⟩,h2⟩:=h
 refine ⟨fun k o ho e he hb=>?_,fun i k oi ok hik hi hk hc=>?_⟩
 ·have:=h1 (o,k) (by rw [Rp];simpa using ho) e (by simpa using he)
  simpa [hb] using this
 ·have hkl:k < l.length:=(bn.1 hk).1
  have:=h2 k hkl i hik
  simp only [hi,hk,hc,bv,gL] at this
  simpa using this
def k9 (l:List aI) (k:Nat):Option Nat:=(l[k]?).bind (·.dst)
def fH (l:List aI) (k:Nat):Bool:=match l[k]? with | some o=>cV o | none=>false
def EL (e0:List V) (l:List aI) (vs:Nat->V) (D:Nat->Bool):Nat->List V
 | 0=>e0
 | k+1=>if D k then d7 (EL e0 l vs D k) (k9 l k) (vs k) else EL e0 l vs D k
def ML (l:List aI) (st:Nat->S) (D:Nat->Bool):Nat->List O
 | 0=>(st 0).mem
 | k+1=>if D k && fH l k then (st (k+1)).mem else ML l st D k
theorem P7 (e:List V) (d:Option Nat) (v:V):(d7 e d v).length=e.length:=by cases d<;>simp [d7]
theorem uD (e0:List V) (l:List aI) (vs:Nat->V) (D:Nat->Bool) (n:Nat):(EL e0 l vs D n).length=e0.length:=by
 induction n with
 | zero=>rfl
 | succ n ih=>simp only [EL];split<;>simp [P7,ih]
theorem wx {e:List V} {d:Option Nat} {v:V} {t:Nat}:(d7 e d v)[t]? = if d=some t then (if t < e.length then some v else none) else e[t]?:=by
 cases d with
 | none=>simp [d7]
 | some d =>
  simp only [d7,Option.some.injEq]
  rw [List.getElem?_set]
  by_cases h:d=t
  ·subst h;rfl
  ·rw [if_neg h,if_neg h]
theorem pT {e0:List V} {l:List aI} {vs:Nat->V} {D D':Nat->Bool} {t:Nat}:∀n,(∀k,k < n->k9 l k=some t->D k=D' k)->(EL e0 l vs D n)[t]? = (EL e0 l vs D' n)[t]?:=by
 intro n
 induction n with
 | zero=>intro _;rfl
 | succ n ih =>
  intro h
  have ih':=ih fun k hk=>h k (by omega)
  have e:∀D,(EL e0 l vs D (n+1))[t]? = if D n=true/\k9 l n=some t then (if t < e0.length then some (vs n) else none) else (EL e0 l vs D n)[t]?:=by
   intro D
   simp only [EL]
   by_cases hD:D n=true
   ·rw [if_pos hD,wx,uD]
    by_cases hd:k9 l n=some t
    ·have h2:D n=true/\k9 l n=some t:=⟨hD,hd⟩
     rw [if_pos hd,if_pos h2]
    ·rw [if_neg hd,if_neg fun h=>hd h.2]
   ·rw [if_neg hD,if_neg fun h=>hD h.1]
  rw [e,e]
  by_cases hd:k9 l n=some t
  ·rw [h n (by omega) hd,ih']
  ·rw [if_neg fun h=>hd h.2,if_neg fun h=>hd h.2,ih']
theorem zG {l:List aI} {st:Nat->S} {D D':Nat->Bool}:∀n,(∀k,k < n->fH l k=true->D k=D' k)->ML l st D n=ML l st D' n:=by
 intro n
 induction n with
 | zero=>intro _;rfl
 | succ n ih =>
  intro h
  simp only [ML]
  rw [ih fun k hk=>h k (by omega)]
  by_cases hw:fH l n=true
  ·rw [h n (by omega) hw]
  ·simp only [Bool.not_eq_true] at hw
   simp [hw]
theorem zt {e0:List V} {l:List aI} {vs:Nat->V} (m:Nat):∀n,m<=n->EL e0 l vs (fun k=>decide (k < m)) n=EL e0 l vs (fun _=>true) m:=by
 intro n
 induction n with
 | zero=>intro h;have:m=0:=by omega
         subst this;rfl
 | succ n ih =>
  intro h
  by_cases hm:m=n+1
  ·subst hm
   have:∀p,p<=n+1->EL e0 l vs (fun k=>decide (k < n+1)) p=EL e0 l vs (fun _=>true) p:=by
    intro p
    induction p with
    | zero=>intro _;rfl
    | succ p ihp=>intro hp;simp only [EL];rw [ihp (by omega),if_pos (by simp;omega)];rfl
   exact this _ (bK _)
  ·simp only [EL]
   rw [if_neg (by simp;omega)]
   exact ih (by omega)
theorem Jk {l:List aI} {st:Nat->S} (m:Nat):∀n,m<=n->ML l st (fun k=>decide (k < m)) n=ML l st (fun _=>true) m:=by
 intro n
 induction n with
 | zero=>intro h;have:m=0:=by omega
         subst this;rfl
 | succ n ih =>
  intro h
  by_cases hm:m=n+1
  ·subst hm
   have:∀p,p<=n+1->ML l st (fun k=>decide (k < n+1)) p=ML l st (fun _=>true) p:=by
    intro p
    induction p with
    | zero=>intro _;rfl
    | succ p ihp=>intro hp;simp only [ML];rw [ihp (by omega)];simp [show p < n+1 by omega]
   exact this _ (bK _)
  ·simp only [ML]
   have:decide (n < m)=false:=by simp;omega
   simp only [this,jA,cM,if_false]
   exact ih (by omega)
theorem zd {cfg:bl} {call:cv} {o:aI} {s s':S} {v:V} (h:jE cfg call o s v s'):s'.env=d7 s.env o.dst v:=by
 rcases h with ⟨_,_,h⟩ | ⟨_,_,_,h⟩<;>exact h
theorem Iv {cfg:bl} {call:cv} {o:aI} {s s':S} {v:V} (h:jE cfg call o s v s') (hw:cV o=false):s'.mem=s.mem:=by
 rcases h with ⟨_,h,_⟩ | ⟨_,_,h,_⟩
 ·exact Gu hw h
 ·exact h
theorem mW {cfg:bl} {call:cv} {l:List aI} {vs:Nat->V} {st:Nat->S} (htr:∀(k:Nat) (o:aI),l[k]? = some o->jE cfg call o (st k) (vs k) (st (k+1))):∀m,m<=l.length->EL (st 0).env l vs (fun _=>true) m=(st m).env/\ML l st (fun _=>true) m=(st m).mem:=by
 intro m
 induction m with
 | zero=>intro _;exact ⟨rfl,rfl⟩
 | succ m ih =>
  intro hm
  obtain ⟨h1,h2⟩:=ih (by omega)
  have ho:l[m]? = some (l[m]'(by omega)):=bG (by omega)
  have hs:=htr m _ ho
  refine ⟨?_,?_⟩
  ·simp only [EL,if_true,h1,zd hs,k9,ho,aL]
  ·simp only [ML,du,h2,fH,ho]
   split
   ·rfl
   ·rename_i hw
    exact (Iv hs (by simpa using hw)).symm
theorem Oo {ops:Array Oper} {l:List aI} (hl:me ops ops.toList l) {k:Nat} {o:Oper} (ho:ops[k]? = some o):∃q,l[k]? = some q/\Jo ops o q:=by
 have hk:k < l.length:=by rw [hl.1];simpa using (fA.1 ho).1
 exact ⟨l[k],bG hk,hl.2 k o _ (by simpa using ho) (bG hk)⟩
def ld (o:aI):Bool:=iP o || iF o
theorem pQ {o:aI} (h:cV o=true):iP o=false:=by
 unfold cV at h
 unfold iP
 rw [bD] at h
 have h2:=h.2
 cases hop:o.op<;>first | (simp [vC];done) | (rw [hop] at h2;simp [jy,eQ] at h2)
theorem ox {o:aI} (h:cV o=true):iF o=false:=by
 unfold cV at h
 unfold iF
 rw [bD] at h
 have h2:=h.2
 cases hop:o.op<;>first | (simp [pH];done) | (rw [hop] at h2;simp [jy,eQ] at h2;done) | skip
 rename_i c
 rw [hop] at h2
 cases hc:c.callee<;>simp only [pH,hc,iL]
 rename_i b
 cases b<;>simp [jy,eQ,hc] at h2 |-
theorem C7 {o:aI} (h:cV o=true):ld o=false:=by unfold ld;rw [pQ h,ox h];rfl
theorem D5 {o:aI} (h:iP o=true):iF o=false:=by
 unfold iP at h
 unfold iF
 simp only [bD,i7] at h
 rw [h.1.2];simp
theorem Nq {o:aI} (h:iF o=true):iP o=false:=by
 cases hb:iP o with
 | false=>rfl
 | true=>rw [D5 hb] at h;cases h
theorem abG {a b:aI} (hw:cV a=true) (hn:ld b=false):i5 a b=false:=by
 unfold ld at hn
 rw [rR] at hn
 unfold i5
 rw [pQ hw,ox hw,hn.1,hn.2];simp
theorem abH {a b:aI} (hw:cV b=true) (hn:ld a=false):i5 a b=false:=by
 unfold ld at hn
 rw [rR] at hn
 unfold i5
 rw [pQ hw,ox hw,hn.1,hn.2];simp
def kR (l:List aI) (k m d T:Nat):Prop:=(∃ty sq,l[k]? = some ⟨some d,.alloc T,ty,none,true,sq,false⟩)/\∃x ty sq,l[m]? = some ⟨some d,.box T x,ty,none,true,sq,false⟩
theorem Q4 {l:List aI} {d:Nat}:∀i,i∈writers l d↔∃q,l[i]? = some q/\q.dst=some d:=by
 intro i
 unfold writers
 simp only [m9,zC,beq_iff_eq,obi]
 constructor
 ·rintro ⟨_,q,h1,h2⟩;exact ⟨q,h1,h2⟩
 ·rintro ⟨q,h1,h2⟩;exact ⟨(bn.1 h1).1,q,h1,h2⟩
theorem MW {l:List aI} (h:yn l=true) {m:Nat} {dst:Option Nat} {T:Nat} {x:Operand} {ty:Nat} {g:Option (Nat × Bool)} {sq rx:Bool} (hm:l[m]? = some ⟨dst,.box T x,ty,g,true,sq,rx⟩) :
  ∃k d,dst=some d/\g=none/\rx=false/\kR l k m d T/\k < m/\∀i q,l[i]? = some q->q.dst=some d->i=k∨i=m:=by
 unfold yn at h
 have h:=dB.1 h m (zC.2 (bn.1 hm).1)
 rw [hm] at h
 cases dst with
 | none=>simp at h
 | some d =>
  simp only [bD,Dw,i7] at h
  obtain ⟨⟨rfl,rfl⟩,h⟩:=h
  have hsort:(writers l d).Pairwise (· < ·):=List.Pairwise.filter _ List.pairwise_lt_range
  split at h
  rotate_left
  ·cases h
  rename_i k m' hw
  simp only [bD,beq_iff_eq] at h
  obtain ⟨rfl,h⟩:=h
  rw [hw] at hsort
  have hkm:k < m':=by simpa using hsort
  have hmem:∀i q,l[i]? = some q->q.dst=some d->i=k∨i=m':=fun i q h1 h2=>by
   have:=(Q4 (l:=l) (d:=d) i).2 ⟨q,h1,h2⟩
   rw [hw] at this
   simpa using this
  obtain ⟨qk,hqk,hdk⟩:=(Q4 (l:=l) (d:=d) k).1 (by rw [hw];simp)
  rw [hqk] at h
  obtain ⟨dst',op',ty',g',bx',sq',rx'⟩:=qk
  simp only at hdk
  subst hdk
  cases op'<;>simp only at h<;>first | (cases h;done) | skip
  simp only [bD,beq_iff_eq,Dw,i7] at h
  obtain ⟨⟨⟨rfl,rfl⟩,rfl⟩,rfl⟩:=h
  exact ⟨k,d,rfl,rfl,rfl,⟨⟨_,_,hqk⟩,_,_,_,hm⟩,hkm,hmem⟩
theorem kR.writers {l:List aI} (h:yn l=true) {k m d T:Nat} (hp:kR l k m d T):k < m/\∀i q,l[i]? = some q->q.dst=some d->i=k∨i=m:=by
 obtain ⟨⟨ty,sq,hk⟩,x,ty',sq',hm⟩:=hp
 obtain ⟨k',d',e1,_,_,_,hkm,hu⟩:=MW h hm
 cases e1
 rcases hu k _ hk rfl with rfl | rfl
 ·exact ⟨hkm,hu⟩
 ·rw [hk] at hm;cases hm
def gj (P:Program) (n0:Nat) (Z:Zs) (w:World) (j:J) (mem:List O) (a:Act) (d T g:Nat):Prop :=
 ∃us,a.tmps[d]? = some (.pointer (some ⟨g,0,none⟩))/\n0<=g/\w.heap[g]? = some (.cells us T (0,0))/\us.size=P.cellsOf T/\¬bg Z j mem g/\∀o,¬Z g o
def w9 (P:Program) (l:List aI) (n0:Nat) (Z:Zs) (w:World) (j:J) (mem:List O) (a:Act) (D:Nat->Bool):Prop :=
 (∀k m d T,kR l k m d T->D k=true->D m=false->∃g,gj P n0 Z w j mem a d T g) /\
 ∀k m d T k' m' d' T' g,kR l k m d T->D k=true->D m=false->kR l k' m' d' T'->D k'=true->D m'=false->d≠d'->gj P n0 Z w j mem a d T g->¬gj P n0 Z w j mem a d' T' g
theorem gj.step {n0:Nat} {a:Act} {d T g:Nat} (h:gj P n0 Z w j mem a d T g) (st:aJ Z w j mem Z' w' j' mem') {a':Act} (ha:a'.tmps[d]? = a.tmps[d]?):gj P n0 Z' w' j' mem' a' d T g:=by
 obtain ⟨us,h1,h2,h3,h4,h5,h6⟩:=h
 have aD:=(fA.1 h3).1
 obtain ⟨k1,k2⟩:=st.keep g aD h5
 exact ⟨us,ha.trans h1,h2,k1.trans h3,h4,fun ho=>h5 (st.owned g aD ho),fun o ho=>h6 o ((k2 o).1 ho)⟩
theorem gj.same {n0:Nat} {a a':Act} {d T g g':Nat} {w2:World} {Z2:Zs} {j2:J} {mem2:List O} (h:gj P n0 Z w j mem a d T g) (ha:a'.tmps[d]? = a.tmps[d]?) {T':Nat} (h':gj P n0 Z2 w2 j2 mem2 a' d T' g'):g'=g:=by
 obtain ⟨us,h1,_⟩:=h
 obtain ⟨us',h1',_⟩:=h'
 rw [ha,h1] at h1'
 cases h1'
 rfl
theorem GZ {a:Act} {dst:Option Nat} {d:Nat} (h:dst≠some d) (u:Value):(a.put dst u).tmps[d]? = a.tmps[d]?:=by
 cases dst with
 | none=>rfl
 | some e =>
  show (a.tmps.setIfInBounds e u)[d]? = _
  exact IX fun h'=>h (by rw [h'])
theorem w9.step {l:List aI} {n0:Nat} {a a':Act} {D D':Nat->Bool} (h:w9 P l n0 Z w j mem a D) (st:aJ Z w j mem Z' w' j' mem')
  (hD:∀k m d T,kR l k m d T->D' k=true->D' m=false->D k=true/\D m=false/\a'.tmps[d]? = a.tmps[d]?):w9 P l n0 Z' w' j' mem' a' D':=by
 refine ⟨fun k m d T hp h1 h2=>?_,fun k m d T k' m' d' T' g hp h1 h2 hp' h1' h2' hne hf hf'=>?_⟩
 ·obtain ⟨e1,e2,e3⟩:=hD k m d T hp h1 h2
  obtain ⟨g,hg⟩:=h.1 k m d T hp e1 e2
  exact ⟨g,hg.step st e3⟩
 ·obtain ⟨e1,e2,e3⟩:=hD k m d T hp h1 h2
  obtain ⟨f1,f2,f3⟩:=hD k' m' d' T' hp' h1' h2'
  obtain ⟨g1,hg1⟩:=h.1 k m d T hp e1 e2
  obtain ⟨g2,hg2⟩:=h.1 k' m' d' T' hp' f1 f2
  have q1:=gj.same hg1 e3 hf
  have q2:=gj.same hg2 f3 hf'
  subst q1
  subst q2
  exact h.2 k m d T k' m' d' T' _ hp e1 e2 hp' f1 f2 hne hg1 hg2
theorem XL (s:SR P Z w j mem) {g T:Nat} {us:Array Value} {v:V} {u:Value} (hg:w.heap[g]? = some (.cells us T (0,0))) (hus:us.size=P.cellsOf T) (hno:¬bg Z j mem g) (hnz:∀o,¬Z g o)
  (hl:v.cells.length=P.cellsOf T) (ho:v.cells.all V.one=true) (hpos:0 < P.cellsOf T) (hv:VR Z w j v u) :
  ∃w2 j2,(Instr.storeAt T (.pointer (some ⟨g,0,none⟩)) u).run P w = .ok () w2/\SR P Z w2 j2 (newBox P mem T v).2/\VR Z w2 j2 (newBox P mem T v).1 (.pointer (some ⟨g,0,none⟩))/\aX j j2/\bh Z w Z w2 /\
   (∀g',g'≠g->w2.heap[g']? = w.heap[g']?)/\w2.heap.size=w.heap.size/\w2.os=w.os/\w2.tape=w.tape/\w2.output=w.output/\(∀g',g' < w.heap.size->bg Z j2 (newBox P mem T v).2 g'->bg Z j mem g'∨g'=g):=by
 have fin:∀(v':V) (m':List O) (j':J),oT P mem T v=(v',m')->SR P Z w j' m'->aJ Z w j mem Z w j' m'->aX j j'->v'.cells.length=P.cellsOf T->v'.cells.all V.one=true->VR Z w j' v' u ->
   ∃w2 j2,(Instr.storeAt T (.pointer (some ⟨g,0,none⟩)) u).run P w = .ok () w2/\SR P Z w2 j2 (newBox P mem T v).2/\VR Z w2 j2 (newBox P mem T v).1 (.pointer (some ⟨g,0,none⟩))/\aX j j2/\bh Z w Z w2 /\
   (∀g',g'≠g->w2.heap[g']? = w.heap[g']?)/\w2.heap.size=w.heap.size/\w2.os=w.os/\w2.tape=w.tape/\w2.output=w.output/\(∀g',g' < w.heap.size->bg Z j2 (newBox P mem T v).2 g'->bg Z j mem g'∨g'=g):=by
  intro v' m' j' e s' stp je hl' ho' hv'
  obtain ⟨hcs,hcl⟩:=hv'.cellsOf (nY ho')
  have hu1:∀c∈u.cells.toList,c.oneCell'=true:=by
   intro c hcm
   obtain ⟨i,hi,rfl⟩:=kG hcm
   have hi':i < v'.cells.length:=by simp at hi;omega
   obtain ⟨c',hc',hvr⟩:=hcl i _ (bG hi')
   have:u.cells.toList[i]=c':=by
    have:u.cells[i]? = some u.cells.toList[i]:=by simp at hi |-
    rw [this] at hc'
    exact Option.some.inj hc'
   rw [this]
   exact hvr.oneCell (nY ho' _ (cH (bG hi')))
  have hul:u.cells.toList.length=P.cellsOf T:=by simp;omega
  obtain ⟨q1,q2,q3⟩:=zf (w:=w) (p:=0) (vals:=u.cells.toList) hg (by omega)
  obtain ⟨w2,hw2⟩:∃w2,w2=w.setRow g (us.toList.take 0++u.cells.toList++us.toList.drop (0+u.cells.toList.length)).toArray:=⟨_,rfl⟩
  have hot:∀k,k≠g->w2.heap[k]? = w.heap[k]?:=fun k hk=>by rw [hw2];exact setRow_other w g k _ hk
  have hrun:=Hl (P:=P) (p:=0) (t:=T) (u:=u) hg (by simpa using hul) hpos hu1 (by omega)
  rw [<-hw2] at q1 q3 hrun
  have hz:bh Z w Z w2:=.of fun g' o hz=>⟨hz,gW (hot g' fun e=>hnz o (e ▸ hz)) o⟩
  have aD:g < w.heap.size:=(fA.1 hg).1
  have hno':¬bg Z j' m' g:=fun ho=>hno (stp.owned g aD ho)
  have s2:SR P Z w2 j' m':=s'.world hz (fun g' hg'=>⟨hot g' fun e=>hno' (e ▸ hg'),fun _=>Iff.rfl⟩) (fun g' o ho=>by rw [hw2];simpa using s'.zin g' o ho)
  have s3:=s2.add (h:=⟨.pointer (some ⟨g,0,none⟩),P.cellsOf T⟩) (o:=.box T v' false) (fun g' hg'=>by simp [bF.blk] at hg';subst hg';exact hno')
   ⟨g,_,fS _ _ _,q1,hl',by rw [q2];exact hus,fun i y hy=>by
    obtain ⟨c,hc,hvr⟩:=hcl i y hy
    have hi:i < v'.cells.length:=(bn.1 hy).1
    refine ⟨nY ho' y (cH hy),c,?_,hvr.mono hz (s'.ext _)⟩
    rw [q3,if_pos (by omega)]
    simpa using hc,fun o ho=>(hnz o ho).elim,fun h=>by cases h⟩
  refine ⟨w2,dP j' m'.length ⟨.pointer (some ⟨g,0,none⟩),P.cellsOf T⟩,hrun,?_,?_,je.trans (s'.ext _),hz,hot,by rw [hw2];simp,by rw [hw2];rfl,by rw [hw2];rfl,by rw [hw2];rfl,fun g' hg' ho=>?_⟩
  ·unfold newBox;rw [e];exact s3
  ·unfold newBox;rw [e]
   have:=VR.ptr (Z:=Z) (w:=w2) (j:=dP j' m'.length ⟨.pointer (some ⟨g,0,none⟩),P.cellsOf T⟩) (id:=m'.length) (k:=0) (off:=0) (g:=g) (b:=0) (fS _ _ _) rfl
   simpa using this
  ·unfold newBox at ho;rw [e] at ho
   rcases bg.add ho with ho | ho
   ·exact .inl (stp.owned g' hg' ho)
   ·simp [bF.blk] at ho;exact .inr ho.symm
 have rD:(∀cs,v≠.agg cs)->∃w2 j2,(Instr.storeAt T (.pointer (some ⟨g,0,none⟩)) u).run P w = .ok () w2/\SR P Z w2 j2 (newBox P mem T v).2/\VR Z w2 j2 (newBox P mem T v).1 (.pointer (some ⟨g,0,none⟩))/\aX j j2/\bh Z w Z w2 /\
   (∀g',g'≠g->w2.heap[g']? = w.heap[g']?)/\w2.heap.size=w.heap.size/\w2.os=w.os/\w2.tape=w.tape/\w2.output=w.output/\(∀g',g' < w.heap.size->bg Z j2 (newBox P mem T v).2 g'->bg Z j mem g'∨g'=g):=by
  intro hna
  obtain ⟨j',a1,a2,a3,a4,a5,a6⟩:=Ay (P:=P) (ny P T) [v] [u] mem j s rfl (fun i x z hx hz=>by
   cases i with
   | zero=>simp at hx hz;subst hx hz;exact hv
   | succ i=>simp at hx)
  have hc1:v.cells=[v]:=by cases v<;>first | rfl | exact (hna _ rfl).elim
  have h1:v.one=true:=by rw [hc1] at ho;simpa using ho
  match hb:boxed P (ny P T) [v] mem,a1,a2,a4,a5,a6 with
  |([x],m),a1,a2,a4,a5,a6 =>
   have hx1:x.one=true:=a6 (fun y hy=>by simp at hy;subst hy;exact h1) x (by simp)
   have hxc:=j7 hx1
   refine fin x m j' ?_ a1 a2 a3 (by rw [hxc];rw [hc1] at hl;exact hl) (by rw [hxc];simp [hx1]) (a5 0 x u rfl rfl)
   unfold oT
   cases v<;>first | exact (hna _ rfl).elim | (simp only [hb])
  |([],m),a1,a2,a4,a5,a6=>simp at a4
  |(_::_::_,m),a1,a2,a4,a5,a6=>simp at a4
 cases v with
 | agg cs =>
  cases hv with
  | agg hl2 hh =>
   rename_i us
   obtain ⟨j',a1,a2,a3,a4,a5,a6⟩:=Ay (P:=P) (ny P T) cs us mem j s hl2 hh
   refine fin _ _ j' rfl a1 a2 a3 ?_ ?_ (.agg (by rw [a4];exact hl2) a5)
   ·simp only [V.cells] at hl |-
    rw [a4];exact hl
   ·simp only [V.cells,dB] at ho |-
    exact a6 ho
 | _=>exact rD (by intro cs h;cases h)
theorem abQ {cfg:bl}:∀{l:List aI},CR cfg l=true->∀i o,l[i]? = some o->(iP o || jk cfg o)=true->∀t∈iw o,∀(k:Nat) (q:aI),i<=k->l[k]? = some q->q.dst≠some t:=by
 intro l
 induction l with
 | nil=>intro _ i o h;simp at h
 | cons p l ih =>
  intro h i o hi ho t ht k q hik hk
  simp only [CR,bD,mU,i7] at h
  cases i with
  | zero =>
   simp at hi
   subst hi
   have h1:=h.1.resolve_left (by rw [ho];simp)
   have h2:=dB.1 h1 t ht
   simp only [bD,bne_iff_ne,dB] at h2
   cases k with
   | zero=>simp at hk;subst hk;exact h2.1
   | succ k=>exact h2.2 q (cH (by simpa using hk))
  | succ i =>
   cases k with
   | zero=>omega
   | succ k=>exact ih h.2 i o (by simpa using hi) ho t ht k q (by omega) (by simpa using hk)
theorem LK {cfg:bl} {call:cv} {l:List aI} {vs:Nat->V} {st:Nat->S} (htr:∀(k:Nat) (o:aI),l[k]? = some o->jE cfg call o (st k) (vs k) (st (k+1))) {t:Nat}:∀d i,i+d=l.length->(∀k q,i<=k->l[k]? = some q->q.dst≠some t)->(st l.length).env[t]? = (st i).env[t]?:=by
 intro d
 induction d with
 | zero=>intro i h _;rw [d0] at h;rw [h]
 | succ d ih =>
  intro i h hno
  rw [ih (i+1) (by omega) fun k q hk=>hno k q (by omega)]
  have ho:l[i]? = some (l[i]'(by omega)):=bG (by omega)
  rw [zd (htr i _ ho),wx,if_neg (hno i _ (bK _) ho)]
theorem FZ {e1 e2:List V} {x:Operand} (h:∀t,x = .tmp t->e1[t]? = e2[t]?):lT e1 x=lT e2 x:=by
 unfold lT
 rw [sY h]
theorem Wd {cfg:bl} {call:cv} {l:List aI} {vs:Nat->V} {st:Nat->S} {N:Nat} (htr:∀(k:Nat) (o:aI),l[k]? = some o->jE cfg call o (st k) (vs k) (st (k+1))) (hN:l.length=N) (hchk:qB cfg l (st N).env=true)
  {i n:Nat} {q ok:aI} (hq:l[i]? = some q) (hb:iP q=true) (aV:l[n]? = some ok) (hfr:jk cfg ok=true):∀id,id∈tY (st i).env q->id∉lS (st n).env ok:=by
 subst hN
 unfold qB at hchk
 have hany:l.any (jk cfg)=true:=zx.2 ⟨ok,cH aV,hfr⟩
 rw [hany] at hchk
 simp only [bv,gL,bD] at hchk
 obtain ⟨_,hssa,hall⟩:=hchk
 have late:∀i o,l[i]? = some o->(iP o || jk cfg o)=true->∀t∈iw o,(st l.length).env[t]? = (st i).env[t]?:=fun i o hi ho t ht =>
  LK htr (l.length - i) i (by have:=(bn.1 hi).1;omega) (abQ hssa i o hi ho t ht)
 have looks:∀(o:aI) (x:Operand),x∈o.op.operands->∀t,x = .tmp t->t∈iw o:=fun o x hx t ht=>by
  simp only [iw,br,uF]
  exact .inl ⟨x,by simpa using hx,by rw [ht]⟩
 have e1:tY (st l.length).env q=tY (st i).env q:=by
  unfold tY
  cases hop:q.op<;>simp only
  exact FZ fun t ht=>late i q hq (by rw [hb];rfl) t (looks q _ (by rw [hop];simp [Op.operands]) t ht)
 have e2:lS (st l.length).env ok=lS (st n).env ok:=by
  unfold lS
  cases hop:ok.op<;>simp only
  case store t ad x=>exact FZ fun t ht=>late n ok aV (by rw [hfr];simp) t (looks ok _ (by rw [hop];simp [Op.operands]) t ht)
  rename_i c
  have:∀(as0:List Operand),(∀x∈as0,x∈ok.op.operands)->as0.flatMap (lT (st l.length).env)=as0.flatMap (lT (st n).env):=by
   intro as0
   induction as0 with
   | nil=>intro _;rfl
   | cons x as0 ih =>
    intro h
    rw [fT,fT,ih fun y hy=>h y (by simp [hy]),FZ fun t ht=>late n ok aV (by rw [hfr];simp) t (looks ok x (h x (by simp)) t ht)]
  refine this _ fun x hx=>?_
  rw [hop]
  simp only [Op.operands,Call.operands]
  cases c.callee<;>simp<;>first | exact .inr (by simpa using hx) | simpa using hx
 intro id hid
 rw [<-e1] at hid
 rw [<-e2]
 have a1:=dB.1 hall ok (cH aV)
 rw [hfr,bv,gL] at a1
 have a2:=dB.1 a1 q (cH hq)
 rw [hb,bv,gL] at a2
 have a3:=dB.1 a2 id hid
 simpa using a3
theorem acM {v:V} {u:Value} (s:SR P Z w j mem) (h:VR Z w j v u):∀id∈gf v,id < mem.length:=by
 have key:∀id∈gf v,j id≠none:=by
  cases h<;>intro id hi<;>simp only [gf,eV] at hi<;>first | (cases hi;done) | (subst hi;rename_i hj;rw [hj];simp;done) | (subst hi;simp_all)
 intro id hi
 rcases kN id mem.length with h | h
 ·exact h
 ·exact (key id hi (s.out id h)).elim
def KI (ids:List Nat) (m m':List O):Prop:=m.length<=m'.length/\∀id∈ids,id < m.length->∀q,fD q=true->q≠.dead->(m'[id]? = some q↔m[id]? = some q)
theorem KI.refl (ids:List Nat) (m:List O):KI ids m m:=⟨bK _,fun _ _ _ _ _ _=>Iff.rfl⟩
theorem KI.trans {ids:List Nat} {a b c:List O} (h:KI ids a b) (h':KI ids b c):KI ids a c :=
 ⟨j4 h.1 h'.1,fun id hi hl q h1 h2=>(h'.2 id hi (oL hl h.1) q h1 h2).trans (h.2 id hi hl q h1 h2)⟩
theorem Y2 {cfg:bl} {call:cv}:∀(l:List aI) (s s':S) (fs fs':List Nat),gV cfg call l s fs=some (s',fs') ->
  ∃(vs:Nat->V) (st:Nat->S),st 0=s/\st l.length=s'/\(∀(k:Nat) (o:aI),l[k]? = some o->jE cfg call o (st k) (vs k) (st (k+1)))/\(∀x∈fs,x∈fs') /\
   ∀(k:Nat) (o:aI),l[k]? = some o->fW o=true->lH cfg o=false->d8 (st k).env o.guard=some true->∀x∈lG o (st k).env (st k).mem,x∈fs':=by
 intro l
 induction l with
 | nil=>intro s s' fs fs' h;simp [gV] at h;obtain ⟨rfl,rfl⟩:=h;exact ⟨fun _=>.junk,fun _=>s,rfl,rfl,fun k o h=>by simp at h,fun _ h=>h,fun k o h=>by simp at h⟩
 | cons o l ih =>
  intro s s' fs fs' h
  simp only [gV] at h
  have fin:∀(v:V) (s1:S) (f1:List Nat),jE cfg call o s v s1->(∀x∈fs,x∈f1)->(fW o=true->lH cfg o=false->d8 s.env o.guard=some true->∀x∈lG o s.env s.mem,x∈f1)->gV cfg call l s1 f1=some (s',fs') ->
    ∃(vs:Nat->V) (st:Nat->S),st 0=s/\st (o::l).length=s'/\(∀(k:Nat) (q:aI),(o::l)[k]? = some q->jE cfg call q (st k) (vs k) (st (k+1)))/\(∀x∈fs,x∈fs') /\
     ∀(k:Nat) (q:aI),(o::l)[k]? = some q->fW q=true->lH cfg q=false->d8 (st k).env q.guard=some true->∀x∈lG q (st k).env (st k).mem,x∈fs':=by
   intro v s1 f1 h1 h2 h3 h4
   obtain ⟨vs,st,e0,e1,e2,e3,e4⟩:=ih s1 s' f1 fs' h4
   refine ⟨fun k=>match k with | 0=>v | k+1=>vs k,fun k=>match k with | 0=>s | k+1=>st k,rfl,e1,fun k q hq=>?_,fun x hx=>e3 x (h2 x hx),fun k q hq hc hr hw x hx=>?_⟩
   ·cases k with
    | zero=>simp at hq;subst hq;simpa [e0] using h1
    | succ k=>exact e2 k q (by simpa using hq)
   ·cases k with
    | zero=>simp at hq;subst hq;exact e3 x (h3 hc hr hw x hx)
    | succ k=>exact e4 k q (by simpa using hq) hc hr hw x hx
  cases hw:d8 s.env o.guard with
  | none=>simp [hw] at h
  | some b =>
   cases b
   ·simp [hw] at h
    exact fin (.tup []) ⟨d7 s.env o.dst (.tup []),s.mem⟩ fs (.inr ⟨hw,rfl,rfl,rfl⟩) (fun _ h=>h) (fun _ _ h=>by rw [hw] at h;cases h) h
   ·simp only [hw,aL,if_true] at h
    cases ho:dw cfg call (dM true o) o s.env s.mem with
    | none=>simp [ho] at h
    | some r =>
     obtain ⟨v,m⟩:=r
     simp only [ho,aL] at h
     refine fin v _ _ (.inl ⟨hw,ho,rfl⟩) (fun x hx=>?_) (fun hc hr _ x hx=>?_) h
     ·split
      ·exact br.2 (.inr hx)
      ·exact hx
     ·rw [if_pos (by rw [hc,hr];rfl)];exact br.2 (.inl hx)
theorem abP:∀{l:List aI},CS l=true->∀i o,l[i]? = some o->iF o=true->∀t∈iw o,∀(k:Nat) (q:aI),i<=k->l[k]? = some q->q.dst≠some t:=by
 intro l
 induction l with
 | nil=>intro _ i o h;simp at h
 | cons p l ih =>
  intro h i o hi ho t ht k q hik hk
  simp only [CS,bD,mU,i7] at h
  cases i with
  | zero =>
   simp at hi
   subst hi
   have h1:=h.1.resolve_left (by rw [ho];simp)
   have h2:=dB.1 h1 t ht
   simp only [bD,bne_iff_ne,dB] at h2
   cases k with
   | zero=>simp at hk;subst hk;exact h2.1
   | succ k=>exact h2.2 q (cH (by simpa using hk))
  | succ i =>
   cases k with
   | zero=>omega
   | succ k=>exact ih h.2 i o (by simpa using hi) ho t ht k q (by omega) (by simpa using hk)
theorem Np {e1 e2:List V} {o:aI} (h:∀x∈o.op.operands,aP e1 x=aP e2 x):jq e1 o=jq e2 o:=by
 have one:∀x∈o.op.operands,jM e1 x=jM e2 x:=fun x hx=>by unfold jM;rw [h x hx]
 unfold jq
 cases hop:o.op<;>simp only
 case load t a=>exact one _ (by rw [hop];simp [Op.operands])
 case indexAddr t x i=>exact one _ (by rw [hop];simp [Op.operands])
 case slice t x a b c=>exact one _ (by rw [hop];simp [Op.operands])
 case call c =>
  have:∀(as0:List Operand),(∀x∈as0,x∈o.op.operands)->as0.flatMap (jM e1)=as0.flatMap (jM e2):=by
   intro as0
   induction as0 with
   | nil=>intro _;rfl
   | cons x as0 ih =>
    intro h
    rw [fT,fT,ih fun y hy=>h y (by simp [hy]),one x (h x (by simp))]
  refine this _ fun x hx=>?_
  rw [hop]
  simp only [Op.operands,Call.operands]
  cases c.callee<;>simp<;>first | exact .inr (by simpa using hx) | simpa using hx
def Dd (cfg:bl) (l:List aI) (st:Nat->S):Prop :=
 ∀i q n ok,l[i]? = some q->iF q=true->l[n]? = some ok->fW ok=true->AH cfg ok=true/\(lH cfg ok=true∨(d8 (st n).env ok.guard=some true->∀id∈jq (st i).env q,id∉lG ok (st n).env (st n).mem))
theorem S9 {cfg:bl} {call:cv} {l:List aI} {vs:Nat->V} {st:Nat->S} {fs:List Nat} (htr:∀(k:Nat) (o:aI),l[k]? = some o->jE cfg call o (st k) (vs k) (st (k+1))) (hc:AI cfg l (st l.length).env fs=true)
  (hf:∀(k:Nat) (o:aI),l[k]? = some o->fW o=true->lH cfg o=false->d8 (st k).env o.guard=some true->∀x∈lG o (st k).env (st k).mem,x∈fs):Dd cfg l st:=by
 intro i q n ok hq hl aV hcp
 simp only [AI,bD] at hc
 obtain ⟨⟨hssa,hcan⟩,hall⟩:=hc
 have a1:=dB.1 hcan ok (cH aV)
 rw [hcp,bv,gL] at a1
 refine ⟨a1,?_⟩
 cases hro:lH cfg ok with
 | true=>exact .inl rfl
 | false =>
 refine .inr fun hw id hid hin=>?_
 have e1:jq (st l.length).env q=jq (st i).env q:=Np fun x hx=>sY fun t ht =>
  LK htr (l.length - i) i (by have:=(bn.1 hq).1;omega) (abP hssa i q hq hl t (by
   simp only [iw,br,uF]
   exact .inl ⟨x,by simpa using hx,by rw [ht]⟩))
 have a2:=dB.1 hall q (cH hq)
 rw [hl,bv,gL,e1] at a2
 have a3:=dB.1 a2 id hid
 have a4:=hf n ok aV hcp hro hw id hin
 rw [List.contains_iff_mem.2 a4] at a3
 cases a3
theorem RP {r:Option Nat} {n:Nat} {cfg:bl} {call:cv} (hp:gN cfg.P call.pc) (hi:gk cfg.P call.ic) {ops:Array Oper} {Q:Exit->Act->World->Prop} {l:List aI} {vs:Nat->V} {st:Nat->S} {a0:Act}
  (hl:me ops ops.toList l) (hd:xK ops l=true) (hchk:qB cfg l (st ops.size).env=true) (hcp:Dd cfg l st) (htr:∀(k:Nat) (o:aI),l[k]? = some o->jE cfg call o (st k) (vs k) (st (k+1)))
  (hQ:∀a' w',wS cfg.P Z w j (st 0).mem (st ops.size) a' w'->fI l a0 a'->Q .normal a' w') :
  ∀(fuel:Nat) (listed:Array Bool) (a:Act) (w1:World),listed.size=ops.size->listed.toList.count false<=fuel->uC ops (fun k=>listed.getD k false) ->
   (∃Z1 j1,St Z1 w1 j1 (EL (st 0).env l vs (fun k=>listed.getD k false) ops.size) a/\SR cfg.P Z1 w1 j1 (ML l st (fun k=>listed.getD k false) ops.size)/\aJ Z w j (st 0).mem Z1 w1 j1 (ML l st (fun k=>listed.getD k false) ops.size)/\aX j j1/\w9 cfg.P l w.heap.size Z1 w1 j1 (ML l st (fun k=>listed.getD k false) ops.size) a fun k=>listed.getD k false)->fI l a0 a ->
   wpAnyIn (FR r) n cfg.P .any ops Q fuel listed a w1:=by
 have hll:l.length=ops.size:=by have:=hl.1;simpa using this
 obtain ⟨hbind,hclash⟩:=TD hd
 have done:∀(listed:Array Bool) (a:Act) (w1:World),listed.size=ops.size->(∀k,k < ops.size->listed.getD k false=true) ->
   (∃Z1 j1,St Z1 w1 j1 (EL (st 0).env l vs (fun k=>listed.getD k false) ops.size) a/\SR cfg.P Z1 w1 j1 (ML l st (fun k=>listed.getD k false) ops.size)/\aJ Z w j (st 0).mem Z1 w1 j1 (ML l st (fun k=>listed.getD k false) ops.size)/\aX j j1/\w9 cfg.P l w.heap.size Z1 w1 j1 (ML l st (fun k=>listed.getD k false) ops.size) a fun k=>listed.getD k false)->fI l a0 a->Q .normal a w1:=by
  intro listed a w1 hsz hall ⟨Z1,j1,h1,h2,h3,h4,_⟩ hkp
  obtain ⟨e1,e2⟩:=mW htr ops.size (by omega)
  have eE:EL (st 0).env l vs (fun k=>listed.getD k false) ops.size=(st ops.size).env:=by
   rw [<-e1]
   apply uE
   intro t
   exact pT _ fun k hk _=>hall k hk
  have eM:ML l st (fun k=>listed.getD k false) ops.size=(st ops.size).mem:=by
   rw [<-e2]
   exact zG _ fun k hk _=>hall k hk
  rw [eE] at h1
  rw [eM] at h2 h3
  exact hQ a w1 ⟨Z1,j1,h1,h2,h3,h4⟩ hkp
 have notdone:∀(listed:Array Bool),listed.size=ops.size->Region.ready .any ops listed=[]->∀k,k < ops.size->listed.getD k false=true:=by
  intro listed hsz hr k
  induction k using Nat.strongRecOn with
  | _ k ih =>
   intro hk
   by_cases h:listed.getD k false=true
   ·exact h
   ·exfalso
    have aV:ops[k]? = some ops[k]:=fq hk
    have:k∈Region.ready .any ops listed:=by
     rw [mem_ready]
     refine ⟨?_,ops[k],aV,fun e he hb=>?_⟩
     ·have aD:k < listed.size:=by omega
      simp [hJ,fq aD] at h |-
      exact h
     ·have h2:=hbind k _ aV e he hb
      exact ih e.on h2 (by omega)
    rw [hr] at this
    simp at this
 intro fuel
 induction fuel with
 | zero =>
  intro listed a w1 hsz hcnt hcl hinv hkp
  have hall:∀k,k < ops.size->listed.getD k false=true:=by
   intro k hk
   have aD:k < listed.size:=by omega
   have h0:listed.toList.count false=0:=by omega
   have:=List.count_eq_zero.1 h0
   have h2:listed[k]∈listed.toList:=by simp
   cases hb:listed[k] with
   | true=>simp [hJ,fq aD,hb]
   | false=>rw [hb] at h2;exact (this h2).elim
  refine ⟨?_,done listed a w1 hsz hall hinv hkp⟩
  apply Rl.2
  intro i hi'
  rw [mem_ready] at hi'
  obtain ⟨h1,o,ho,_⟩:=hi'
  have aD:i < ops.size:=(fA.1 ho).1
  have h2:=hall i aD
  have hlt':i < listed.size:=by omega
  simp [hJ,fq hlt'] at h1 h2
  rw [h1] at h2;cases h2
 | succ fuel ih =>
  intro listed a w1 hsz hcnt hcl hinv hkp
  refine ⟨fun hr=>done listed a w1 hsz (notdone listed hsz hr) hinv hkp,fun i hir=>?_⟩
  have hir':=hir
  rw [mem_ready] at hir'
  obtain ⟨hnl,o,ho,hall⟩:=hir'
  have hin:i < ops.size:=(fA.1 ho).1
  have aD:i < listed.size:=by omega
  have hnl':listed[i]=false:=by simpa [hJ,fq aD] using hnl
  obtain ⟨q,hq,hpq⟩:=Oo hl ho
  have hstep:=htr i _ hq
  have hanc:∀k,k∈(ja ops.toList []).getD i []->listed.getD k false=true:=xD hcl i o ho hall
  have before:∀k ok,k < i->l[k]? = some ok->iD ok q=true->listed.getD k false=true:=fun k ok hki hk hc=>hanc k (hclash k i ok _ hki hk hq hc)
  have oper:∀k q,l[k]? = some q->∃ok,ops[k]? = some ok:=fun k q hk=>by
   have:k < ops.size:=by rw [<-hll];exact (bn.1 hk).1
   exact ⟨ops[k],fq this⟩
  have behind:∀k ok,i < k->l[k]? = some ok->iD q ok=true->listed.getD k false=false:=by
   intro k ok hik hk hc
   cases hb:listed.getD k false with
   | false=>rfl
   | true =>
    obtain ⟨ok',hok'⟩:=oper k ok hk
    have:=xD hcl k ok' hok' (fun e he hbb=>hcl k ok' hok' hb e he hbb) i (hclash i k _ ok hik hq hk hc)
    simp [hJ,fq aD,hnl'] at this
  have dst_of:∀k t,k9 l k=some t->∃ok,l[k]? = some ok/\ok.dst=some t:=by
   intro k t hk
   unfold k9 at hk
   cases hlk:l[k]? with
   | none=>simp [hlk] at hk
   | some qk =>
    simp [hlk] at hk
    exact ⟨qk,rfl,hk⟩
  have wr_of:∀k,fH l k=true->∃ok,l[k]? = some ok/\cV ok=true:=by
   intro k hk
   unfold fH at hk
   cases hlk:l[k]? with
   | none=>simp [hlk] at hk
   | some qk =>
    simp only [hlk] at hk
    exact ⟨qk,rfl,hk⟩
  have sp1:∀ok:aI,cV ok=true->ld q=false->i5 ok q=false:=fun ok h hn=>abG h hn
  have sp2:∀ok:aI,cV ok=true->ld q=false->i5 q ok=false:=fun ok h hn=>abH h hn
  have ldw:cV q=true->ld q=false:=fun h=>C7 h
  have looks:∀t,t∈iw q->(EL (st 0).env l vs (fun k=>listed.getD k false) ops.size)[t]? = (st i).env[t]?:=by
   intro t ht
   have ht':=ht
   rw [<-(mW htr i (by omega)).1,<-zt i ops.size (by omega)]
   refine pT _ fun k hk hdk=>?_
   obtain ⟨ok,aV,hdo⟩:=dst_of k t hdk
   rcases w6 k i with h | h | h
   ·rw [before k ok h aV (by simp only [iD,j9,hdo];simp [ht'])]
    simp [h]
   ·subst h
    simp [hJ,fq aD,hnl']
   ·rw [behind k ok h aV (by simp only [iD,j9,hdo];simp [ht'])]
    simp;omega
  have self:∀k,k=i->listed.getD k false=decide (k < i):=by
   intro k h
   subst h
   simp [hJ,fq aD,hnl']
  have memEq:(oa q=true∨cV q=true)->ld q=false->ML l st (fun k=>listed.getD k false) ops.size=(st i).mem:=by
   intro hrw hnl0
   rw [<-(mW htr i (by omega)).2,<-Jk i ops.size (by omega)]
   refine zG _ fun k hk hwk=>?_
   obtain ⟨ok,aV,hwo⟩:=wr_of k hwk
   rcases w6 k i with h | h | h
   ·rw [before k ok h aV (by simp only [iD,nQ,hwo,sp1 ok hwo hnl0];rcases hrw with h | h<;>simp [h])]
    simp [h]
   ·exact self k h
   ·rw [behind k ok h aV (by simp only [iD,nQ,hwo,sp2 ok hwo hnl0];rcases hrw with h | h<;>simp [h])]
    simp;omega
  have hnew:∀k,(listed.setIfInBounds i true).getD k false=(listed.getD k false || decide (k=i)):=by
   intro k
   simp only [hJ,C9]
   by_cases h:i=k
   ·subst h;simp [aD]
   ·have:¬k=i:=fun e=>h e.symm
    simp [h,this]
  have envEq:EL (st 0).env l vs (fun k=>(listed.setIfInBounds i true).getD k false) ops.size=d7 (EL (st 0).env l vs (fun k=>listed.getD k false) ops.size) q.dst (vs i):=by
   apply uE
   intro t
   by_cases hdt:q.dst=some t
   ·have e1:(EL (st 0).env l vs (fun k=>(listed.setIfInBounds i true).getD k false) ops.size)[t]? = (EL (st 0).env l vs (fun k=>decide (k < i+1)) ops.size)[t]?:=by
     refine pT _ fun k hk hdk=>?_
     obtain ⟨ok,aV,hdo⟩:=dst_of k t hdk
     rw [hnew]
     rcases w6 k i with h | h | h
     ·rw [before k ok h aV (by simp only [iD,j9,hdo];simp [hdt])]
      simp;omega
     ·subst h;simp
     ·rw [behind k ok h aV (by simp only [iD,j9,hdt];simp [hdo])]
      have:¬k=i:=by omega
      simp [this];omega
    rw [e1,zt (i+1) ops.size (by omega),(mW htr (i+1) (by omega)).1,zd hstep]
    simp only [hdt,wx,if_true,uD]
    rw [<-(mW htr i (by omega)).1,uD]
   ·rw [wx,if_neg hdt]
    refine pT _ fun k hk hdk=>?_
    rw [hnew]
    have:¬k=i:=by
     intro e
     subst e
     simp [k9,hq] at hdk
     exact hdt hdk
    simp [this]
  have cnt:(listed.setIfInBounds i true).toList.count false<=fuel:=by
   have e:(listed.setIfInBounds i true).toList=listed.toList.set i true:=by simp
   rw [e,List.count_set]
   ·have h1:listed.toList[i]'(by simpa using aD)=false:=by simpa using hnl'
    rw [h1]
    have h2:((true:Bool)==false)=false:=rfl
    rw [h2,if_pos (beq_self_eq_true false),if_neg (by simp)]
    have:0 < listed.toList.count false:=List.count_pos_iff.2 (by rw [<-hnl'];simp)
    omega
   ·simpa using aD
  have cl:uC ops (fun k=>(listed.setIfInBounds i true).getD k false):=by
   intro k ok aV hD e he hb
   simp only [hnew] at hD |-
   by_cases h:k=i
   ·subst h
    rw [ho] at aV;cases aV
    simp [hall e he hb]
   ·have h2:decide (k=i)=false:=by simp [h]
    rw [h2,lr] at hD
    have h3:listed.getD e.on false=true:=hcl k ok aV hD e he hb
    rw [h3,mc]
  have memNew:cV q=true->ML l st (fun k=>(listed.setIfInBounds i true).getD k false) ops.size=(st (i+1)).mem:=by
   intro hw
   rw [<-(mW htr (i+1) (by omega)).2,<-Jk (i+1) ops.size (by omega)]
   refine zG _ fun k hk hwk=>?_
   obtain ⟨ok,aV,hwo⟩:=wr_of k hwk
   rw [hnew]
   rcases w6 k i with h | h | h
   ·rw [before k ok h aV (by simp [iD,nQ,hwo,hw,sp1 ok hwo (ldw hw)])]
    simp;omega
   ·subst h;simp
   ·rw [behind k ok h aV (by simp [iD,nQ,hwo,hw,sp2 ok hwo (ldw hw)])]
    have:¬k=i:=by omega
    simp [this];omega
  have memOld:cV q=false->ML l st (fun k=>(listed.setIfInBounds i true).getD k false) ops.size=ML l st (fun k=>listed.getD k false) ops.size:=by
   intro hw
   refine zG _ fun k hk hwk=>?_
   rw [hnew]
   have:¬k=i:=by
    intro e
    subst e
    simp [fH,hq,hw] at hwk
   simp [this]
  obtain ⟨Z1,j1,h1,h2,h3,h4,hpend⟩:=hinv
  have hsz':(listed.setIfInBounds i true).size=ops.size:=by simpa using hsz
  unfold wpOpIn
  simp only [ho]
  have hwe:d8 (EL (st 0).env l vs (fun k=>listed.getD k false) ops.size) q.guard=d8 (st i).env q.guard:=by
   cases hqg:q.guard with
   | none=>rfl
   | some tw =>
    simp only [d8]
    rw [looks tw.1 (by simp [iw,hqg])]
  have first:∀k k' ok ok',k < k'->l[k]? = some ok->l[k']? = some ok'->cV ok=true->cV ok'=true->listed.getD k' false=true->listed.getD k false=true:=by
   intro k k' ok ok' hkk hk hk' hwo hwo' hd'
   have hin':=hclash k k' ok ok' hkk hk hk' (by simp [iD,nQ,i5,hwo,hwo',pQ hwo,pQ hwo',ox hwo,ox hwo'])
   obtain ⟨o',ho'⟩:=oper k' ok' hk'
   exact xD hcl k' o' ho' (fun e he hbb=>hcl k' o' ho' hd' e he hbb) k hin'
  obtain ⟨am,hale,haML,halo,hahi⟩:∃a,a<=ops.size/\ML l st (fun k=>listed.getD k false) ops.size=(st a).mem/\(∀k ok,k < a->l[k]? = some ok->cV ok=true->listed.getD k false=true) /\
    (∀k ok,a<=k->l[k]? = some ok->cV ok=true->listed.getD k false=false):=by
   have gen:∀n,n<=ops.size->∃a,a<=n/\ML l st (fun k=>listed.getD k false) n=(st a).mem/\(∀k ok,k < a->l[k]? = some ok->cV ok=true->listed.getD k false=true) /\
     (∀k ok,a<=k->k < n->l[k]? = some ok->cV ok=true->listed.getD k false=false):=by
    intro n
    induction n with
    | zero=>intro _;exact ⟨0,bK _,rfl,fun k ok hk=>by omega,fun k ok h1 h2=>by omega⟩
    | succ n ihn =>
     intro hn
     obtain ⟨a,b1,b2,b3,b4⟩:=ihn (by omega)
     by_cases hdn:listed.getD n false=true/\fH l n=true
     ·obtain ⟨okn,hokn,hwn⟩:=wr_of n hdn.2
      refine ⟨n+1,bK _,by simp only [ML,hdn.1,hdn.2,oC,if_true],fun k ok hk aV hwo=>?_,fun k ok h1 h2=>by omega⟩
      rcases kN k n with q | q
      ·exact first k n ok okn q aV hokn hwo hwn hdn.1
      ·have:k=n:=by omega
       subst this;exact hdn.1
     ·refine ⟨a,by omega,?_,b3,fun k ok h1 h2 aV hwo=>?_⟩
      ·simp only [ML]
       rw [if_neg (by simpa [bD] using hdn)]
       exact b2
      ·rcases kN k n with q | q
       ·exact b4 k ok h1 q aV hwo
       ·have:k=n:=by omega
        subst this
        cases hdk:listed.getD k false with
        | false=>rfl
        | true =>
         exact (hdn ⟨hdk,by simp only [fH,aV,hwo]⟩).elim
   obtain ⟨a,b1,b2,b3,b4⟩:=gen ops.size (bK _)
   exact ⟨a,b1,b2,b3,fun k ok h1 aV hwo=>b4 k ok h1 (by rw [<-hll];exact (bn.1 aV).1) aV hwo⟩
  have loads:iP q=true->dw cfg call (dM true q) q (st i).env (st i).mem=some (vs i,(st (i+1)).mem) ->
    dw cfg call (dM true q) q (st i).env (ML l st (fun k=>listed.getD k false) ops.size)=some (vs i,ML l st (fun k=>(listed.setIfInBounds i true).getD k false) ops.size):=by
   intro hbx hop
   have hbxl:=hbx
   simp only [iP,bD] at hbx
   obtain ⟨⟨⟨hrx,hbx1⟩,hsq1⟩,hld⟩:=hbx
   have hsq1:q.sq=false:=by simpa using hsq1
   have hrx:q.rx=false:=by simpa using hrx
   rw [mK hrx] at hop |-
   have hwr:cV q=false:=by
    unfold cV
    cases hop':q.op<;>rw [hop'] at hld<;>first | (cases hld;done) | simp [jy,eQ]
   have hrd:oa q=true:=by
    unfold oa
    rw [hrx]
    cases hop':q.op<;>rw [hop'] at hld<;>first | (cases hld;done) | simp [pC,nw]
   rw [memOld hwr]
   have D1:∀k ok,k < i->l[k]? = some ok->cV ok=true->listed.getD k false=false->n7 ok=true:=by
    intro k ok hki hk hwo hnd
    cases hpu:n7 ok with
    | true=>rfl
    | false =>
     have:=before k ok hki hk (by simp [iD,nQ,i5,hwo,hrd,hpu,pQ hwo,ox hwo,D5 hbxl])
     rw [this] at hnd;cases hnd
   have D2:∀k ok,i < k->l[k]? = some ok->cV ok=true->listed.getD k false=true->n7 ok=true:=by
    intro k ok hki hk hwo hnd
    cases hpu:n7 ok with
    | true=>rfl
    | false =>
     have:=behind k ok hki hk (by simp [iD,nQ,i5,hwo,hrd,hpu,pQ hwo,ox hwo,D5 hbxl])
     rw [this] at hnd;cases hnd
   rw [haML]
   have stepB:∀(p:V) k ok,l[k]? = some ok->(cV ok=true->n7 ok=true)->(jk cfg ok=true->∀id kk off,p = .ptr id kk off->id∉lS (st k).env ok)->lu p (st k).mem (st (k+1)).mem:=by
    intro p k ok aV hpu hnf
    have hs:=htr k _ aV
    by_cases hwo:cV ok=true
    ·rcases hs with ⟨_,hs,_⟩ | ⟨_,_,hs,_⟩
     ·cases hfr:jk cfg ok with
      | false=>exact (ZB (hpu hwo) hfr hs).at p
      | true =>
       obtain ⟨e1,e2⟩:=Wg hfr hs
       exact ⟨e1,fun id kk off e hi t x=>by rw [e2 id hi (hnf hfr id kk off e)]⟩
     ·rw [hs];exact .refl _ _
    ·rw [Iv hs (by simpa using hwo)];exact .refl _ _
   have runB:∀(p:V) d k,k+d<=ops.size->(∀n ok,k<=n->n < k+d->l[n]? = some ok->(cV ok=true->n7 ok=true)/\(jk cfg ok=true->∀id kk off,p = .ptr id kk off->id∉lS (st n).env ok))->lu p (st k).mem (st (k+d)).mem:=by
    intro p d
    induction d with
    | zero=>intro k _ _;exact .refl _ _
    | succ d ihd =>
     intro k hk hall'
     refine (ihd k (by omega) fun n ok h1 h2=>hall' n ok h1 (by omega)).trans ?_
     have hon:l[k+d]? = some (l[k+d]'(by omega)):=bG (by omega)
     obtain ⟨c1,c2⟩:=hall' (k+d) _ (by omega) (by omega) hon
     exact stepB p (k+d) _ hon c1 c2
   have hpE:∀x∈q.op.operands,aP (EL (st 0).env l vs (fun k=>listed.getD k false) ops.size) x=aP (st i).env x:=fun x hx=>sY fun t ht=>looks t (by
    simp only [iw,br,uF]
    exact .inl ⟨x,by simpa using hx,by rw [ht]⟩)
   cases hop':q.op<;>rw [hop'] at hld<;>first | (cases hld;done) | skip
   rename_i t ad
   simp only [bY,hop'] at hop |-
   cases hx:aP (st i).env ad with
   | none=>simp [hx] at hop
   | some p =>
    have hxE:aP (EL (st 0).env l vs (fun k=>listed.getD k false) ops.size) ad=some p:=by
     rw [hpE ad (by rw [hop'];simp [Op.operands]),hx]
    obtain ⟨u,hvr⟩:∃u,VR Z1 w1 j1 p u:=⟨_,h1.eval ad p hxE⟩
    have hlt1:∀id k off,p = .ptr id k off->id < (st am).mem.length:=by
     intro id k off e
     subst e
     rw [<-haML]
     cases hvr with
     | ptr hj _ =>
      rcases kN id (ML l st (fun k=>listed.getD k false) ops.size).length with q | q
      ·exact q
      ·rw [h2.out id q] at hj;cases hj
    simp only [hx,hbx1,hsq1,cond_false,aL,du] at hop |-
    have hnf:∀n ok,l[n]? = some ok->jk cfg ok=true->∀id kk off,p = .ptr id kk off->id∉lS (st n).env ok:=by
     intro n ok aV hfr id kk off e
     have hrd2:tY (st i).env q=[id]:=by simp only [tY,hop',lT,hx,e,jQ,oc,yK,gf]
     have:=Wd htr hll hchk hq hbxl aV hfr id (by rw [hrd2];simp)
     exact this
    cases hbp:kX (st i).mem p with
    | false=>rw [hbp] at hop;simp at hop
    | true =>
     rw [hbp] at hop
     simp only [bv,cM,if_false,omi] at hop
     obtain ⟨v,hv,he⟩:=hop
     have hve:v=vs i:=congrArg Prod.fst he
     have hlt2:∀id k off,p = .ptr id k off->id < (st i).mem.length:=by
      intro id k off e
      subst e
      simp only [kX] at hbp
      cases hm:(st i).mem[id]? with
      | none=>rw [hm] at hbp;cases hbp
      | some _=>exact (bn.1 hm).1
     have both:kX (st am).mem p=true/\fj cfg.P (st am).mem t p=fj cfg.P (st i).mem t p:=by
      rcases Nat.le_total am i with hai | hia
      ·have hB:lu p (st am).mem (st i).mem:=by
        have:=runB p (i - am) am (by omega) fun n ok h1 h2 aV=>⟨fun hwo=>D1 n ok (by omega) aV hwo (hahi n ok h1 aV hwo),hnf n ok aV⟩
        rwa [show am+(i - am)=i by omega] at this
       obtain ⟨c1,c2⟩:=J0 (P:=cfg.P) (t:=t) hB hlt1
       have:kX (st am).mem p=true:=by rw [<-c1,hbp]
       exact ⟨this,(c2 this).symm⟩
      ·have hB:lu p (st i).mem (st am).mem:=by
        have:=runB p (am - i) i (by omega) fun n ok h1 h2 aV=>⟨fun hwo=>(by
         have hd':=halo n ok (by omega) aV hwo
         rcases kN i n with q | q
         ·exact D2 n ok q aV hwo hd'
         ·have:n=i:=by omega
          subst this
          rw [hq] at aV;cases aV
          rw [hwr] at hwo;cases hwo),hnf n ok aV⟩
        rwa [show i+(am - i)=am by omega] at this
       obtain ⟨c1,c2⟩:=J0 (P:=cfg.P) (t:=t) hB hlt2
       exact ⟨by rw [c1,hbp],c2 hbp⟩
     rw [both.1]
     simp only [bv,cM,if_false,both.2,hv,cB,hve]
  have loads2:iF q=true->dw cfg call (dM true q) q (st i).env (st i).mem=some (vs i,(st (i+1)).mem) ->
    dw cfg call (dM true q) q (st i).env (ML l st (fun k=>listed.getD k false) ops.size)=some (vs i,ML l st (fun k=>(listed.setIfInBounds i true).getD k false) ops.size):=by
   intro hls hop
   have hrx:q.rx=false:=by simp only [iF,bD] at hls;simpa using hls.1.1.1
   have hwr:cV q=false:=by
    cases h:cV q with
    | false=>rfl
    | true=>rw [ox h] at hls;cases hls
   have hrd:oa q=true:=by
    simp only [iF,bD] at hls
    obtain ⟨⟨⟨_,hb⟩,hs⟩,hr⟩:=hls
    unfold oa
    rw [hrx,hb,hs]
    cases hop':q.op<;>rw [hop'] at hr<;>first | (cases hr;done) | (simp [pC,nw];done) | skip
    rename_i c
    cases hc:c.callee<;>simp only [pH,hc] at hr<;>first | (cases hr;done) | skip
    rename_i b
    cases b<;>first | (cases hr;done) | simp [pC,hc]
   have hme:=Gu hwr hop
   rw [mK hrx] at hop |-
   rw [hme] at hop
   rw [memOld hwr,haML]
   have D1:∀k ok,k < i->l[k]? = some ok->cV ok=true->listed.getD k false=false->fW ok=true:=by
    intro k ok hki hk hwo hnd
    cases hpu:fW ok with
    | true=>rfl
    | false =>
     have:=before k ok hki hk (by simp [iD,nQ,i5,hwo,hrd,hpu,pQ hwo,ox hwo,Nq hls])
     rw [this] at hnd;cases hnd
   have D2:∀k ok,i < k->l[k]? = some ok->cV ok=true->listed.getD k false=true->fW ok=true:=by
    intro k ok hki hk hwo hnd
    cases hpu:fW ok with
    | true=>rfl
    | false =>
     have:=behind k ok hki hk (by simp [iD,nQ,i5,hwo,hrd,hpu,pQ hwo,ox hwo,Nq hls])
     rw [this] at hnd;cases hnd
   have stepK:∀k ok,l[k]? = some ok->(cV ok=true->fW ok=true)->KI (jq (st i).env q) (st k).mem (st (k+1)).mem:=by
    intro k ok aV hpu
    have hs:=htr k _ aV
    by_cases hwo:cV ok=true
    ·rcases hs with ⟨hw1,hs,_⟩ | ⟨_,_,hs,_⟩
     ·obtain ⟨c1,c2⟩:=hcp i q k ok hq hls aV (hpu hwo)
      obtain ⟨⟨e1,e2⟩,e3⟩:=Ta (hpu hwo) c1 hs
      rcases c2 with c2 | c2
      ·exact ⟨e1,fun id hid aD q _ _=>by rw [<-List.getElem?_take_of_lt aD,e3 c2]⟩
      ·exact ⟨e1,fun id hid aD=>e2 id aD (c2 hw1 id hid)⟩
     ·rw [hs];exact .refl _ _
    ·rw [Iv hs (by simpa using hwo)];exact .refl _ _
   have runK:∀d k,k+d<=ops.size->(∀n ok,k<=n->n < k+d->l[n]? = some ok->cV ok=true->fW ok=true)->KI (jq (st i).env q) (st k).mem (st (k+d)).mem:=by
    intro d
    induction d with
    | zero=>intro k _ _;exact .refl _ _
    | succ d ihd =>
     intro k hk hall'
     refine (ihd k (by omega) fun n ok h1 h2=>hall' n ok h1 (by omega)).trans ?_
     have hon:l[k+d]? = some (l[k+d]'(by omega)):=bG (by omega)
     exact stepK (k+d) _ hon (hall' (k+d) _ (by omega) (by omega) hon)
   have hpE:∀x∈q.op.operands,aP (EL (st 0).env l vs (fun k=>listed.getD k false) ops.size) x=aP (st i).env x:=fun x hx=>sY fun t ht=>looks t (by
    simp only [iw,br,uF]
    exact .inl ⟨x,by simpa using hx,by rw [ht]⟩)
   have hlt0:∀id∈jq (st i).env q,id < (st am).mem.length:=by
    rw [<-Np hpE,<-haML]
    have one:∀x,∀id∈jM (EL (st 0).env l vs (fun k=>listed.getD k false) ops.size) x,id < (ML l st (fun k=>listed.getD k false) ops.size).length:=by
     intro x id hid
     unfold jM at hid
     cases hx:aP (EL (st 0).env l vs (fun k=>listed.getD k false) ops.size) x with
     | none=>rw [hx] at hid;cases hid
     | some v=>rw [hx] at hid;exact acM h2 (h1.eval x v hx) id hid
    intro id hid
    unfold jq at hid
    split at hid
    ·exact one _ id hid
    ·exact one _ id hid
    ·exact one _ id hid
    ·obtain ⟨x,_,hx⟩:=ib.1 hid
     exact one x id hx
    ·cases hid
   have hkp:KP (jq (st i).env q) (st i).mem (st am).mem:=by
    rcases Nat.le_total am i with hai | hia
    ·have hB:KI (jq (st i).env q) (st am).mem (st i).mem:=by
      have:=runK (i - am) am (by omega) fun n ok h1 h2 aV hwo=>D1 n ok (by omega) aV hwo (hahi n ok h1 aV hwo)
      rwa [show am+(i - am)=i by omega] at this
     exact fun id hid o h1 h2 h3=>(hB.2 id hid (hlt0 id hid) o h1 h2).1 h3
    ·have hB:KI (jq (st i).env q) (st i).mem (st am).mem:=by
      have:=runK (am - i) i (by omega) fun n ok h1 h2 aV hwo=>(by
       have hd':=halo n ok (by omega) aV hwo
       rcases kN i n with q | q
       ·exact D2 n ok q aV hwo hd'
       ·have:n=i:=by omega
        subst this
        rw [hq] at aV;cases aV
        rw [hwr] at hwo;cases hwo)
      rwa [show i+(am - i)=am by omega] at this
     exact fun id hid o h1 h2 h3=>(hB.2 id hid (bn.1 h3).1 o h1 h2).2 h3
   exact Yb hls hkp hop
  have hlz:yn l=true:=by
   unfold xK at hd
   simp only [bD] at hd
   exact hd.1.1
  have hDi:∀k,k≠i->(listed.setIfInBounds i true).getD k false=listed.getD k false:=fun k hk=>by rw [hnew];simp [hk]
  have hDi':(listed.setIfInBounds i true).getD i false=true:=by rw [hnew];simp
  have beside:∀k m d T,kR l k m d T->(listed.setIfInBounds i true).getD k false=true->(listed.setIfInBounds i true).getD m false=false->k≠i->listed.getD k false=true/\listed.getD m false=false/\q.dst≠some d:=by
   intro k m d T hp e1 e2 hki
   have hmi:m≠i:=fun e=>by subst e;rw [hDi'] at e2;cases e2
   refine ⟨by rw [<-hDi k hki];exact e1,by rw [<-hDi m hmi];exact e2,fun e=>?_⟩
   rcases (kR.writers hlz hp).2 i q hq e with e | e
   ·exact hki e.symm
   ·exact hmi e.symm
  rcases hpq with hpq | ⟨T,d,x,ty,sq,rx,hop0,hdst,hgd,rfl⟩
  rotate_left
  ·obtain ⟨k,d',e1,_,e3,hp,hkm,hu⟩:=MW hlz hq
   cases e1
   subst e3
   have hkD:listed.getD k false=true:=by
    obtain ⟨⟨ty',sq',hk⟩,_⟩:=hp
    exact before k _ hkm hk (by simp [iD,j9])
   have hmD:listed.getD i false=false:=by simpa [hJ,fq aD] using hnl'
   obtain ⟨g,us,f1,f2,f3,f4,f5,f6⟩:=hpend.1 k i d T hp hkD hmD
   rcases hstep with ⟨hw,hop,hse⟩ | ⟨hw,_⟩
   rotate_left
   ·cases hw
   have hwr:cV ⟨some d,.box T x,ty,none,true,sq,false⟩=true:=rfl
   rw [mK rfl] at hop
   have hM:=memEq (.inr hwr) (C7 hwr)
   have hM':=memNew hwr
   simp only [bY,obi] at hop
   obtain ⟨v,hv,hop⟩:=hop
   split at hop
   ·cases hop
   rename_i hz0
   split at hop
   rotate_left
   ·cases hop
   rename_i hc
   split at hop
   ·cases hop
   rename_i hna
   have hop:some (newBox cfg.P (st i).mem T v)=some (vs i,(st (i+1)).mem):=by
    have hd:dM true ⟨some d,.box T x,ty,none,true,sq,false⟩=true:=rfl
    rw [hd,du] at hna
    unfold re at hop
    cases hf:iT T 0 (st i).mem with
    | none=>rw [hf] at hop;exact hop
    | some r=>rw [hf] at hna;simp at hna
   injection hop with hop
   have hvx:aP (EL (st 0).env l vs (fun k=>listed.getD k false) ops.size) x=some v:=by
    rw [<-hv]
    exact sY fun t ht=>looks t (by simp [iw,Op.operands,ht])
   have hvr:=h1.eval x v hvx
   have hpos:0 < cfg.P.cellsOf T:=by
    rcases zI (cfg.P.cellsOf T) with h | h
    ·exact (hz0 (by simp [h])).elim
    ·exact h
   rw [hM] at h2 f5
   obtain ⟨w2,j2,r1,r2,r3,r4,r5,r6,r7,r8,r9,r10,r11⟩:=XL h2 f3 f4 f5 f6 hc.1 hc.2 hpos hvr
   have hev:a.eval (.tmp d) = .pointer (some ⟨g,0,none⟩):=by simp [Act.eval,f1,hJ]
   have hwt:Region.wanted o (yielded ops a.tmps)=true:=by simp [Region.wanted,hgd]
   rw [if_pos hwt]
   refine yx (Post:=fun u w'=>w'=w2) (fun c h=>by rw [hop0] at h;cases h) ?_ ?_
   ·unfold execOp
    simp only [hop0,hev,Sem.run_bind,r1,Result.andThen_ok]
    rfl
   ·rintro u w' rfl
    have e0:a.put o.dst u=a:=by rw [hdst];rfl
    rw [e0]
    have hm2:(newBox cfg.P (st i).mem T v).2=(st (i+1)).mem:=congrArg Prod.snd hop
    have hv2:(newBox cfg.P (st i).mem T v).1=vs i:=congrArg Prod.fst hop
    rw [hM] at h3
    have hlt2:g < w1.heap.size:=(fA.1 f3).1
    refine ih _ _ w' hsz' cnt cl ⟨Z1,j2,?_,?_,?_,h4.trans r4,?_⟩ hkp
    ·rw [envEq]
     exact (h1.mono r5 r4).fill f1 (hv2 ▸ r3)
    ·rw [hM',<-hm2];exact r2
    ·rw [hM',<-hm2]
     exact ⟨r8.trans h3.os,r9.trans h3.tape,r10.trans h3.output,by rw [r7];exact h3.size,fun g' hg' hn=>⟨(r6 g' (by omega)).trans (h3.keep g' hg' hn).1,(h3.keep g' hg' hn).2⟩,fun g' hg' ho=>by
      rcases r11 g' (oL hg' h3.size) ho with ho | ho
      ·exact h3.owned g' hg' ho
      ·omega,h3.z.trans r5,fun t h=>⟨((h3.ar t h).1).newBox _ _,(h3.ar t h).2⟩⟩
    ·rw [hM',<-hm2]
     rw [hM] at hpend
     refine ⟨fun k' m' d' T' hp' e1 e2=>?_,fun k' m' d' T' k'' m'' d'' T'' g' hp' e1 e2 hp'' e1' e2' hne hf hf'=>?_⟩
     ·have hki:k'≠i:=by
       rintro rfl
       obtain ⟨⟨_,_,hk'⟩,_⟩:=hp'
       rw [hq] at hk';cases hk'
      obtain ⟨c1,c2,c3⟩:=beside k' m' d' T' hp' e1 e2 hki
      obtain ⟨g',us',p1,p2,p3,p4,p5,p6⟩:=hpend.1 k' m' d' T' hp' c1 c2
      have hgg:g'≠g:=by
       rintro rfl
       exact hpend.2 k i d T k' m' d' T' g' hp hkD hmD hp' c1 c2 (fun e=>c3 (by rw [e])) ⟨us,f1,f2,f3,f4,f5,f6⟩ ⟨us',p1,p2,p3,p4,p5,p6⟩
      exact ⟨g',us',p1,p2,(r6 g' hgg).trans p3,p4,fun ho=>by
       rcases r11 g' (fA.1 p3).1 ho with ho | ho
       ·exact p5 ho
       ·exact hgg ho,p6⟩
     ·have hki:∀k' m' d' T',kR l k' m' d' T'->k'≠i:=by
       rintro k' m' d' T' hp' rfl
       obtain ⟨⟨_,_,hk'⟩,_⟩:=hp'
       rw [hq] at hk';cases hk'
      obtain ⟨c1,c2,_⟩:=beside k' m' d' T' hp' e1 e2 (hki _ _ _ _ hp')
      obtain ⟨c1',c2',_⟩:=beside k'' m'' d'' T'' hp'' e1' e2' (hki _ _ _ _ hp'')
      obtain ⟨g1,hg1⟩:=hpend.1 k' m' d' T' hp' c1 c2
      obtain ⟨g2,hg2⟩:=hpend.1 k'' m'' d'' T'' hp'' c1' c2'
      have q1:=gj.same hg1 rfl hf
      have q2:=gj.same hg2 rfl hf'
      subst q1
      subst q2
      exact hpend.2 k' m' d' T' k'' m'' d'' T'' _ hp' c1 c2 hp'' c1' c2' hne hg1 hg2
  obtain ⟨g,bx,sq,rx,rfl,hg⟩:=id hpq
  rcases hstep with ⟨hw,hop,_⟩ | ⟨hw,hv,hm,_⟩
  ·have hwt:=C3 hpq h1 (hwe.trans hw)
   rw [if_pos hwt]
   have hop2:dw cfg call (dM true ⟨o.dst,o.op,o.type,g,bx,sq,rx⟩) ⟨o.dst,o.op,o.type,g,bx,sq,rx⟩ (EL (st 0).env l vs (fun k=>listed.getD k false) ops.size) (ML l st (fun k=>listed.getD k false) ops.size)=some (vs i,ML l st (fun k=>(listed.setIfInBounds i true).getD k false) ops.size):=by
    rw [YU (e2:=(st i).env) fun x hx=>sY fun t ht=>looks t (by
     simp only [iw,br,uF]
     exact .inl ⟨x,by simpa using hx,by rw [ht]⟩)]
    by_cases hwr:cV ⟨o.dst,o.op,o.type,g,bx,sq,rx⟩=true
    ·rw [memEq (.inr hwr) (C7 hwr),memNew hwr];exact hop
    ·have hwr':cV ⟨o.dst,o.op,o.type,g,bx,sq,rx⟩=false:=by simpa using hwr
     have hme:=Gu hwr' hop
     by_cases hrd:oa ⟨o.dst,o.op,o.type,g,bx,sq,rx⟩=true
     ·by_cases hbx:iP ⟨o.dst,o.op,o.type,g,bx,sq,rx⟩=true
      ·exact loads hbx hop
      ·by_cases hls:iF ⟨o.dst,o.op,o.type,g,bx,sq,rx⟩=true
       ·exact loads2 hls hop
       ·rw [memOld hwr',memEq (.inl hrd) (by unfold ld;rw [rR];exact ⟨by simpa using hbx,by simpa using hls⟩),<-hme]
        rw [hme] at hop |-
        exact hop
     ·rw [memOld hwr']
      exact YG hwr' (by simpa using hrd) hop _
   by_cases hal:∃T,o.op = .alloc T/\bx=true/\rx=false
   ·obtain ⟨T,hoT,rfl,rfl⟩:=hal
    have hop3:=hop2
    rw [mK rfl] at hop3
    simp only [bY,hoT,obi] at hop3
    obtain ⟨z,hz,hop3⟩:=hop3
    split at hop3
    rotate_left
    ·cases hop3
    rename_i hc
    simp only [if_true,Option.some.injEq,Prod.mk.injEq] at hop3
    obtain ⟨hvj,hmm⟩:=hop3
    obtain ⟨us,r1,r2⟩:=MV (w:=w1) hz hc.1 hc.2
    refine yx (Post:=fun u w'=>u = .pointer (some ⟨w1.heap.size,0,none⟩)/\w'=w1.alloc (.cells us T)) (Gy hop2) ?_ ?_
    ·unfold execOp
     simp only [hoT]
     exact dO r1 ⟨rfl,rfl⟩
    ·rintro u w2 ⟨rfl,rfl⟩
     have stp:=aJ.alloc h2 (.cells us T)
     have hmm':ML l st (fun k=>(listed.setIfInBounds i true).getD k false) ops.size=ML l st (fun k=>listed.getD k false) ops.size:=hmm.symm
     refine ih _ _ _ hsz' cnt cl ⟨Z1,j1,?_,by rw [hmm'];exact h2.alloc _,by rw [hmm'];exact h3.trans stp,h4,?_⟩ (hkp.put (o:=⟨o.dst,o.op,o.type,g,true,sq,false⟩) (cH hq) _)
     ·rw [envEq,<-hvj]
      exact (h1.mono stp.z (aX.refl _)).put o.dst .junk
     ·rw [hmm']
      have hold:∀k m d T',kR l k m d T'->(listed.setIfInBounds i true).getD k false=true->(listed.setIfInBounds i true).getD m false=false->k≠i->∃g,gj cfg.P w.heap.size Z1 w1 j1 (ML l st (fun k=>listed.getD k false) ops.size) a d T' g/\gj cfg.P w.heap.size Z1 (w1.alloc (.cells us T)) j1 (ML l st (fun k=>listed.getD k false) ops.size) (a.put o.dst (.pointer (some ⟨w1.heap.size,0,none⟩))) d T' g/\listed.getD k false=true/\listed.getD m false=false:=by
       intro k m d T' hp e1 e2 hki
       obtain ⟨c1,c2,c3⟩:=beside k m d T' hp e1 e2 hki
       obtain ⟨g,hg⟩:=hpend.1 k m d T' hp c1 c2
       exact ⟨g,hg,hg.step stp (GZ c3 _),c1,c2⟩
      have hnewF:∀m d T',kR l i m d T'->gj cfg.P w.heap.size Z1 (w1.alloc (.cells us T)) j1 (ML l st (fun k=>listed.getD k false) ops.size) (a.put o.dst (.pointer (some ⟨w1.heap.size,0,none⟩))) d T' w1.heap.size:=by
       intro m d T' hp
       obtain ⟨⟨ty',sq',hk⟩,_⟩:=hp
       rw [hq] at hk
       simp only [Option.some.injEq,aI.mk.injEq] at hk
       obtain ⟨hd1,hd2,_⟩:=hk
       rw [hoT] at hd2
       cases hd2
       have hdl:d < a.tmps.size:=by
        have e1:=h1.len
        rw [uD] at e1
        have e2:∀n,n<=ops.size->(st n).env.length=(st 0).env.length:=by
         intro n
         induction n with
         | zero=>intro _;rfl
         | succ n ihn =>
          intro hn
          have hon:l[n]? = some (l[n]'(by omega)):=bG (by omega)
          rw [zd (htr n _ hon),P7,ihn (by omega)]
        unfold qB at hchk
        rw [bD] at hchk
        have e3:=dB.1 hchk.1 _ (cH hq)
        rw [hoT,hd1] at e3
        simp only [o7,oC,bv,gL,uO,nf] at e3
        rw [e2 ops.size (bK _)] at e3
        omega
       refine ⟨us,?_,h3.size,heap_alloc_new w1 _,r2,fun ho=>?_,fun o ho=>?_⟩
       ·rw [hd1]
        show (a.tmps.setIfInBounds d _)[d]? = _
        rw [Array.getElem?_setIfInBounds_self_of_lt hdl]
       ·have:=bg.lt h2 ho;omega
       ·have:=h2.zin _ _ ho;omega
      refine ⟨fun k m d T' hp e1 e2=>?_,fun k m d T' k' m' d' T'' g' hp e1 e2 hp' e1' e2' hne hf hf'=>?_⟩
      ·by_cases hki:k=i
       ·subst hki;exact ⟨_,hnewF m d T' hp⟩
       ·obtain ⟨g,_,hg,_⟩:=hold k m d T' hp e1 e2 hki
        exact ⟨g,hg⟩
      ·by_cases hki:k=i
       ·subst hki
        have hki':k'≠k:=by
         rintro rfl
         obtain ⟨⟨_,_,a1⟩,_⟩:=hp
         obtain ⟨⟨_,_,a2⟩,_⟩:=hp'
         rw [a1] at a2
         simp only [Option.some.injEq,aI.mk.injEq] at a2
         exact hne a2.1
        obtain ⟨g2,hg2,hg3,_⟩:=hold k' m' d' T'' hp' e1' e2' hki'
        have q1:=gj.same (hnewF m d T' hp) rfl hf
        have q2:=gj.same hg3 rfl hf'
        obtain ⟨_,_,_,p3,_⟩:=hg2
        have:=(fA.1 p3).1
        omega
       ·by_cases hki':k'=i
        ·subst hki'
         obtain ⟨g2,hg2,hg3,_⟩:=hold k m d T' hp e1 e2 hki
         have q1:=gj.same (hnewF m' d' T'' hp') rfl hf'
         have q2:=gj.same hg3 rfl hf
         obtain ⟨_,_,_,p3,_⟩:=hg2
         have:=(fA.1 p3).1
         omega
        ·obtain ⟨g1,hg1,hg1',c1,c2⟩:=hold k m d T' hp e1 e2 hki
         obtain ⟨g2,hg2,hg2',c1',c2'⟩:=hold k' m' d' T'' hp' e1' e2' hki'
         have q1:=gj.same hg1' rfl hf
         have q2:=gj.same hg2' rfl hf'
         subst q1
         subst q2
         exact hpend.2 k m d T' k' m' d' T'' _ hp c1 c2 hp' c1' c2' hne hg1 hg2
   have noPair:∀m d T,¬kR l i m d T:=by
    rintro m d T ⟨⟨ty',sq',hk⟩,_⟩
    rw [hq] at hk
    simp only [Option.some.injEq,aI.mk.injEq] at hk
    exact hal ⟨T,hk.2.1,hk.2.2.2.2.1,hk.2.2.2.2.2.2⟩
   have hres:=N1 hp hi h2 h1.eval hop2
   refine yx (Gy hop2) hres ?_
   rintro u w2 ⟨Z2,j2,q1,q2,q3,q4⟩
   refine ih _ _ w2 hsz' cnt cl ⟨Z2,j2,?_,q2,h3.trans q3,h4.trans q4,hpend.step q3 fun k m d T hp e1 e2=>?_⟩ (hkp.put (o:=⟨o.dst,o.op,o.type,g,bx,sq,rx⟩) (cH hq) u)
   ·rw [envEq]
    exact (h1.mono q3.z q4).put o.dst q1
   ·obtain ⟨c1,c2,c3⟩:=beside k m d T hp e1 e2 (fun e=>by subst e;exact noPair m d T hp)
    exact ⟨c1,c2,GZ c3 _⟩
  ·have hwt:=C3 hpq h1 (hwe.trans hw)
   rw [if_neg (by rw [hwt];simp)]
   have hmm:ML l st (fun k=>(listed.setIfInBounds i true).getD k false) ops.size=ML l st (fun k=>listed.getD k false) ops.size:=by
    by_cases hwr:cV ⟨o.dst,o.op,o.type,g,bx,sq,rx⟩=true
    ·rw [memNew hwr,hm,memEq (.inr hwr) (C7 hwr)]
    ·exact memOld (by simpa using hwr)
   refine ⟨fun _ _=>trivial,ih _ _ w1 hsz' cnt cl ⟨Z1,j1,?_,by rw [hmm];exact h2,by rw [hmm];exact h3,h4,?_⟩ (hkp.put (o:=⟨o.dst,o.op,o.type,g,bx,sq,rx⟩) (cH hq) undef)⟩
   ·rw [envEq,hv]
    exact h1.put o.dst (.tup (us:=[]) rfl fun i c u hc=>by simp at hc)
   ·rw [hmm]
    refine hpend.step (aJ.refl _ _ _ _) fun k m d T hp e1 e2=>?_
    obtain ⟨c1,c2,c3⟩:=beside k m d T hp e1 e2 (fun e=>by
     subst e
     obtain ⟨⟨ty',sq',hk⟩,_⟩:=hp
     rw [hq] at hk
     simp only [Option.some.injEq,aI.mk.injEq] at hk
     have hg0:g=none:=hk.2.2.2.1
     subst hg0
     cases hw)
    exact ⟨c1,c2,GZ c3 _⟩
theorem Y7 {r:Option Nat} {n:Nat} {ops:Array Oper} {Q:Exit->Act->World->Prop} {Inv:(Nat->Bool)->Act->World->Prop}
  (hbind:∀k o,ops[k]? = some o->∀e∈o.after,Region.binds .any e=true->e.on < k)
  (hdone:∀D a w,(∀k,k < ops.size->D k=true)->Inv D a w->Q .normal a w)
  (hstep:∀D a w i o,ops[i]? = some o->D i=false->uC ops D->(∀e∈o.after,Region.binds .any e=true->D e.on=true)->Inv D a w ->
   Region.wanted o (yielded ops a.tmps)=true/\(∀c,o.op≠.defer c)/\lA P (fun u w'=>Inv (fun k=>D k || decide (k=i)) (a.put o.dst u) w') ((execOp a.eval o).run P w)) :
  ∀(fuel:Nat) (listed:Array Bool) (a:Act) (w1:World),listed.size=ops.size->listed.toList.count false<=fuel->uC ops (fun k=>listed.getD k false)->Inv (fun k=>listed.getD k false) a w1 ->
   wpAnyIn (FR r) n P .any ops Q fuel listed a w1:=by
 have get:∀(listed:Array Bool) k (h:k < listed.size),listed.getD k false=listed[k]:=fun listed k h=>by simp [hJ,fq h]
 have notdone:∀(listed:Array Bool),listed.size=ops.size->Region.ready .any ops listed=[]->∀k,k < ops.size->listed.getD k false=true:=by
  intro listed hsz hr k
  induction k using Nat.strongRecOn with
  | _ k ih =>
   intro hk
   by_cases h:listed.getD k false=true
   ·exact h
   ·exfalso
    have aV:ops[k]? = some ops[k]:=fq hk
    have:k∈Region.ready .any ops listed:=by
     rw [mem_ready]
     refine ⟨?_,ops[k],aV,fun e he hb=>?_⟩
     ·rw [get listed k (by omega)] at h
      simpa [hJ,fq (show k < listed.size by omega)] using h
     ·have h2:=hbind k _ aV e he hb
      exact ih e.on h2 (by omega)
    rw [hr] at this
    simp at this
 intro fuel
 induction fuel with
 | zero =>
  intro listed a w1 hsz hcnt hcl hinv
  have hall:∀k,k < ops.size->listed.getD k false=true:=by
   intro k hk
   have aD:k < listed.size:=by omega
   have h0:listed.toList.count false=0:=by omega
   have:=List.count_eq_zero.1 h0
   have h2:listed[k]∈listed.toList:=by simp
   rw [get listed k aD]
   cases hb:listed[k] with
   | true=>rfl
   | false=>rw [hb] at h2;exact (this h2).elim
  refine ⟨?_,hdone _ a w1 hall hinv⟩
  apply Rl.2
  intro i hi'
  rw [mem_ready] at hi'
  obtain ⟨h1,o,ho,_⟩:=hi'
  have aD:i < ops.size:=(fA.1 ho).1
  have h2:=hall i aD
  have hlt':i < listed.size:=by omega
  simp [hJ,fq hlt'] at h1 h2
  rw [h1] at h2;cases h2
 | succ fuel ih =>
  intro listed a w1 hsz hcnt hcl hinv
  refine ⟨fun hr=>hdone _ a w1 (notdone listed hsz hr) hinv,fun i hir=>?_⟩
  rw [mem_ready] at hir
  obtain ⟨hnl,o,ho,hall⟩:=hir
  have hin:i < ops.size:=(fA.1 ho).1
  have aD:i < listed.size:=by omega
  have hnl':listed[i]=false:=by simpa [hJ,fq aD] using hnl
  have hnew:(fun k=>(listed.setIfInBounds i true).getD k false)=fun k=>listed.getD k false || decide (k=i):=by
   funext k
   simp only [hJ,C9]
   by_cases h:i=k
   ·subst h;simp [aD]
   ·have:¬k=i:=fun e=>h e.symm
    simp [h,this]
  have cnt:(listed.setIfInBounds i true).toList.count false<=fuel:=by
   have e:(listed.setIfInBounds i true).toList=listed.toList.set i true:=by simp
   rw [e,List.count_set]
   ·have h1:listed.toList[i]'(by simpa using aD)=false:=by simpa using hnl'
    rw [h1]
    have h2:((true:Bool)==false)=false:=rfl
    rw [h2,if_pos (beq_self_eq_true false),if_neg (by simp)]
    have:0 < listed.toList.count false:=List.count_pos_iff.2 (by rw [<-hnl'];simp)
    omega
   ·simpa using aD
  have cl:uC ops (fun k=>(listed.setIfInBounds i true).getD k false):=by
   rw [hnew]
   intro k ok aV hD e he hb
   by_cases h:k=i
   ·subst h
    rw [ho] at aV;cases aV
    simp [hall e he hb]
   ·have h2:decide (k=i)=false:=by simp [h]
    simp only [h2,lr] at hD
    have h3:listed.getD e.on false=true:=hcl k ok aV hD e he hb
    show (listed.getD e.on false || _)=true
    rw [h3,mc]
  obtain ⟨hwt,hnd,aV⟩:=hstep _ a w1 i o ho (by rw [get listed i aD];exact hnl') hcl hall hinv
  unfold wpOpIn
  simp only [ho]
  rw [if_pos hwt]
  refine yx hnd aV fun u w' hu=>ih _ _ w' (by simpa using hsz) cnt cl (by rw [hnew];exact hu)
theorem SR.slot (s:SR P Z w j mem) {id:Nat} (hm:mem[id]? = some .dead) (hj:j id=none) {w1:World} {ob:Obj} (hh:w1.heap=w.heap.push ob) (hos:w1.os=w.os) (htape:w1.tape=w.tape) (hout:w1.output=w.output)
  (n:Nat) {h:bF} (hb:∀g,h.blk=some g->g=w.heap.size) {o:O} (ho:OR P (gl Z w.heap.size n) w1 (dP j id h) id o) (har:o.ar=none:=by rfl) :
  SR P (gl Z w.heap.size n) w1 (dP j id h) (mem.set id o)/\aJ Z w j mem (gl Z w.heap.size n) w1 (dP j id h) (mem.set id o)/\aX j (dP j id h):=by
 have hz:=bh.heap (Z:=Z) hh s.zin n
 have iff:∀g,g < w.heap.size->∀o,gl Z w.heap.size n g o↔Z g o:=fun g hg o=>⟨fun h=>h.resolve_right fun h=>by omega,.inl⟩
 have hsz:w1.heap.size=w.heap.size+1:=by rw [hh];simp
 have aD:id < mem.length:=(bn.1 hm).1
 have s1:SR P (gl Z w.heap.size n) w1 j mem:=s.world hz (fun g hg=>⟨li hh (bg.lt s hg),iff g (bg.lt s hg)⟩) (fun g o h=>by
  rcases h with h | h
  ·have:=s.zin g o h;omega
  ·omega)
 have je:aX j (dP j id h):=by
  intro k x hx
  by_cases e:k=id
  ·rw [e,hj] at hx;cases hx
  ·rw [rM j h e];exact hx
 have side:∀(k:Nat) (x:O) (g:Nat),(mem.set id o)[k]? = some x->bi (gl Z w.heap.size n) (dP j id h) k x g->(k=id/\g=w.heap.size)∨(mem[k]? = some x/\bi Z j k x g):=by
  intro k x g hx hg
  by_cases e:id=k
  ·subst e
   rw [fJ aD] at hx
   cases hx
   have hg:=(bi.plain har).1 hg
   unfold cy at hg
   rw [fS] at hg
   exact .inl ⟨rfl,hb g hg⟩
  ·rw [fU e] at hx
   exact .inr ⟨hx,(bi.eqA rfl).1 ((bi.jeq (rM j h (fun h=>e h.symm))).1 hg)⟩
 refine ⟨⟨fun k x hx=>?_,fun k k' x x' g hx hx' hl hl' hg hg'=>?_,fun k hk=>?_,s1.zin⟩,⟨hos,htape,hout,by omega,fun g hg _=>⟨li hh hg,iff g hg⟩,fun g hg ⟨k,x,hx,hl,hgb⟩=>?_,hz,fun t hn=>⟨hn.set hm (fun n e=>absurd (har.symm.trans e) (by simp)),rfl⟩⟩,je⟩
 ·by_cases e:id=k
  ·subst e
   rw [fJ aD] at hx
   cases hx
   exact ho
  ·rw [fU e] at hx
   exact (s1.obj k x hx).mono (bh.refl _ _) je (fun _ _=>⟨rfl,fun _=>Iff.rfl⟩) (fun _ _ _=>rfl)
 ·rcases side k x g hx hg with ⟨rfl,e⟩ | ⟨h1,h2⟩<;>rcases side k' x' g hx' hg' with ⟨rfl,e'⟩ | ⟨h1',h2'⟩
  ·rfl
  ·have:=bg.lt s ⟨k',x',h1',hl',h2'⟩;omega
  ·have:=bg.lt s ⟨k,x,h1,hl,h2⟩;omega
  ·exact s.inj k k' x x' g h1 h1' hl hl' h2 h2'
 ·rw [jY] at hk
  rw [rM j h (by omega)]
  exact s.out k hk
 ·rcases side k x g hx hgb with ⟨_,e⟩ | ⟨h1,h2⟩
  ·omega
  ·exact ⟨k,x,h1,hl,h2⟩
theorem aax (s:SR P Z w j mem) {id:Nat} (hm:mem[id]? = some .dead) (hj:j id=none) {w1:World} {t:TypeId} {us:Array Value} {els:List V} {c:Nat} (hh:w1.heap=w.heap.push (.cells us t)) (hos:w1.os=w.os) (htape:w1.tape=w.tape) (hout:w1.output=w.output)
  (hpos:0 < P.cellsOf t) (hels:∀x∈els,x.cells.length=P.cellsOf t) (hlc:els.length<=c) (hc:c<=maxLen) (hus:us.size=c * P.cellsOf t)
  (hcl:∀(k:Nat) (x:V) (i:Nat) (y:V),els[k]? = some x->x.cells[i]? = some y->y.one=true/\∃u,us[k * P.cellsOf t+i]? = some u/\VR Z w j0 y u) :
  ∃Z' h,VR Z' w1 (dP j id h) (.own id) (.slice (some ⟨w.heap.size,0,none⟩) els.length c)/\SR P Z' w1 (dP j id h) (mem.set id (.row t els 0))/\aJ Z w j mem Z' w1 (dP j id h) (mem.set id (.row t els 0))/\aX j (dP j id h):=by
 obtain ⟨s1,st,je⟩:=s.slot hm hj hh hos htape hout (0 * P.cellsOf t) (h:=⟨.slice (some ⟨w.heap.size,0,none⟩) els.length c,P.cellsOf t⟩) (by simp [bF.blk]) (o:=.row t els 0) (OP s.zin id hh hpos hels (iB _) hlc hc hus hcl)
 exact ⟨_,_,.own (fS _ _ _) (fun a ha=>by cases ha;rfl),s1,st,je⟩
def MF (l:List aI) (st:Nat->S) (D:Nat->Bool):Nat->List O
 | 0=>(st 0).mem
 | k+1=>if fH l k then MF l st D k++[if D k then ((st (k+1)).mem[(st k).mem.length]?).getD .dead else .dead] else MF l st D k
theorem Wi {ops:Array Oper} {l:List aI} (h:Bd ops l=true):(∀k o,ops[k]? = some o->∀e∈o.after,Region.binds .any e=true->e.on < k) /\
  (∀i k oi ok,i < k->l[i]? = some oi->l[k]? = some ok->j9 oi ok=true->i∈(ja ops.toList []).getD k []) /\
  ∀o∈l,o.guard=none/\o.rx=false/\((∃x,o.op = .assign x/\o.bx=false)∨∃t n c,o.op = .makeSlice t n c):=by
 simp only [Bd,bD,dB,zC] at h
 obtain ⟨⟨h0,h1⟩,h2⟩:=h
 refine ⟨fun k o ho e he hb=>?_,fun i k oi ok hik hi hk hc=>?_,fun o ho=>?_⟩
 ·have:=h1 (o,k) (by rw [Rp];simpa using ho) e (by simpa using he)
  simpa [hb] using this
 ·have hkl:k < l.length:=(bn.1 hk).1
  have:=h2 k hkl i hik
  simp only [hi,hk,hc,bv,gL] at this
  simpa using this
 ·have:=h0 o ho
  simp only [Dw,i7] at this
  obtain ⟨⟨a,b⟩,c⟩:=this
  refine ⟨a,b,?_⟩
  cases hop:o.op<;>simp only [hop] at c<;>first | (cases c;done) | skip
  ·exact .inl ⟨_,rfl,by simpa using c⟩
  ·exact .inr ⟨_,_,_,rfl⟩
theorem SR.dead (s:SR P Z w j mem):SR P Z w j (mem++[.dead])/\aJ Z w j mem Z w j (mem++[.dead]):=by
 have old:∀(k:Nat) (x:O),(mem++[O.dead])[k]? = some x->x.live=true->mem[k]? = some x:=by
  intro k x hx hl
  by_cases e:k < mem.length
  ·rwa [dx e] at hx
  ·rw [df (by omega)] at hx
   rcases zI (k - mem.length) with e0 | e0
   ·rw [e0] at hx
    cases hx;cases hl
   ·rw [wV (by simp;omega)] at hx;cases hx
 refine ⟨⟨fun k x hx=>?_,fun k k' x x' g hx hx' hl hl'=>s.inj k k' x x' g (old k x hx hl) (old k' x' hx' hl') hl hl',fun k hk=>s.out k (by simp at hk;omega),s.zin⟩,
  ⟨rfl,rfl,rfl,bK _,fun _ _ _=>⟨rfl,fun _=>Iff.rfl⟩,fun _ _ ⟨k,x,hx,hl,hg⟩=>⟨k,x,old k x hx hl,hl,hg⟩,bh.refl _ _,fun t hn=>⟨hn.add rfl,rfl⟩⟩⟩
 by_cases hl:x.live=true
 ·exact s.obj k x (old k x hx hl)
 ·cases x<;>first | exact True.intro | (simp [O.live] at hl)
theorem Ns {t:TypeId} {a b v:V} (h:pf P mem t a b=some (v,mem')):v = .own mem.length/\∃ob,mem'=mem++[ob]:=by
 unfold pf at h
 simp only [obi] at h
 obtain ⟨_,_,h⟩:=h
 split at h
 ·split at h
  ·simp only [obi,omi] at h
   obtain ⟨_,_,_,_,h⟩:=h
   cases h;exact ⟨rfl,_,rfl⟩
  ·cases h
 ·cases h
section
variable {l:List aI} {st:Nat->S}
def pW (l:List aI) (st:Nat->S):Prop:=∀k,k < l.length->(fH l k=true/\∃ob,(st (k+1)).mem=(st k).mem++[ob])∨(fH l k=false/\(st (k+1)).mem=(st k).mem)
theorem pW.le (h:pW l st) (n:Nat):∀d,n+d<=l.length->(st n).mem.length<=(st (n+d)).mem.length:=by
 intro d
 induction d with
 | zero=>intro _;exact bK _
 | succ d ih =>
  intro hd
  have:=ih (by omega)
  rcases h (n+d) (by omega) with ⟨_,ob,e⟩ | ⟨_,e⟩<;>rw [<-iA,e]<;>simp<;>omega
theorem pW.lt (h:pW l st) {i k:Nat} (hi:fH l i=true) (hik:i < k) (hk:k<=l.length):(st i).mem.length < (st k).mem.length:=by
 have h1:=h.le (i+1) (k - (i+1)) (by omega)
 rw [show i+1+(k - (i+1))=k by omega] at h1
 rcases h i (by omega) with ⟨_,ob,e⟩ | ⟨e,_⟩
 ·rw [e] at h1;simp at h1;omega
 ·rw [e] at hi;cases hi
theorem Q2 {k:Nat} (h:fH l k=true):k < l.length:=by
 unfold fH at h
 split at h
 ·rename_i e;exact (bn.1 e).1
 ·cases h
theorem Rv (h:pW l st) (D:Nat->Bool):∀n,n<=l.length->(MF l st D n).length=(st n).mem.length:=by
 intro n
 induction n with
 | zero=>intro _;rfl
 | succ n ih =>
  intro hn
  have:=ih (by omega)
  simp only [MF]
  rcases h n (by omega) with ⟨e1,ob,e⟩ | ⟨e1,e⟩<;>rw [e1,e]<;>simp [this]
theorem Ru (h:pW l st) {D:Nat->Bool}:∀n,n<=l.length->(∀k,k < n->D k=true)->MF l st D n=(st n).mem:=by
 intro n
 induction n with
 | zero=>intro _ _;rfl
 | succ n ih =>
  intro hn hD
  have:=ih (by omega) fun k hk=>hD k (by omega)
  simp only [MF,this]
  rcases h n (by omega) with ⟨e1,ob,e⟩ | ⟨e1,e⟩<;>rw [e1,e]<;>simp [hD n (by omega)]
theorem Jj {D:Nat->Bool} {i:Nat} (hi:fH l i=false):∀n,MF l st (fun k=>D k || decide (k=i)) n=MF l st D n:=by
 intro n
 induction n with
 | zero=>rfl
 | succ n ih =>
  simp only [MF,ih]
  by_cases e:n=i
  ·subst e;rw [hi];rfl
  ·simp [e]
theorem Rx (h:pW l st) {D:Nat->Bool} {i:Nat} {ob:O} (hi:fH l i=true) (hD:D i=false) (hob:(st (i+1)).mem=(st i).mem++[ob]):∀n,n<=l.length->(n<=i->MF l st (fun k=>D k || decide (k=i)) n=MF l st D n) /\
  (i < n->MF l st (fun k=>D k || decide (k=i)) n=(MF l st D n).set (st i).mem.length ob/\(MF l st D n)[(st i).mem.length]? = some .dead):=by
 intro n
 induction n with
 | zero=>intro _;exact ⟨fun _=>rfl,fun h=>by omega⟩
 | succ n ih =>
  intro hn
  obtain ⟨h1,h2⟩:=ih (by omega)
  refine ⟨fun hle=>?_,fun aD=>?_⟩
  ·have e:¬n=i:=by omega
   simp only [MF,h1 (by omega)]
   simp [e]
  ·have hlen:=Rv h D n (by omega)
   by_cases e:n=i
   ·subst e
    simp only [MF,h1 (bK _),hi,hD,if_true,hob]
    have e1:(MF l st D n).length=(st n).mem.length:=hlen
    simp [e1]
   ·obtain ⟨h3,h4⟩:=h2 (by omega)
    have hl:=h.lt hi (show i < n by omega) (by omega)
    simp only [MF,h3]
    cases hw:fH l n
    ·exact ⟨rfl,h4⟩
    ·simp only [if_true,e,decide_false,lr]
     have hl':(st i).mem.length < (MF l st D n).length:=by rw [hlen];exact hl
     rw [List.set_append,if_pos hl',dx hl']
     exact ⟨rfl,h4⟩
theorem Rw (s:SR P Z w j (st 0).mem):∀n,SR P Z w j (MF l st (fun _=>false) n)/\aJ Z w j (st 0).mem Z w j (MF l st (fun _=>false) n):=by
 intro n
 induction n with
 | zero=>exact ⟨s,aJ.refl _ _ _ _⟩
 | succ n ih =>
  simp only [MF]
  split
  ·exact ⟨ih.1.dead.1,ih.2.trans ih.1.dead.2⟩
  ·exact ih
end
theorem Wl {r:Option Nat} {n:Nat} {cfg:bl} {call:cv} {ops:Array Oper} {Q:Exit->Act->World->Prop} {l:List aI} {vs:Nat->V} {st:Nat->S} {a0:Act}
  (hl:me ops ops.toList l) (hd:Bd ops l=true) (htr:∀(k:Nat) (o:aI),l[k]? = some o->jE cfg call o (st k) (vs k) (st (k+1)))
  (hQ:∀a' w',wS cfg.P Z w j (st 0).mem (st ops.size) a' w'->fI l a0 a'->Q .normal a' w')
  (fuel:Nat) (listed:Array Bool) (a:Act) {w1:World} (hsz:listed.size=ops.size) (hcnt:listed.toList.count false<=fuel) (hno:∀k,listed.getD k false=false)
  (hst:St Z w1 j (st 0).env a) (sr:SR cfg.P Z w1 j (st 0).mem) (stp:aJ Z w j (st 0).mem Z w1 j (st 0).mem) (hkp:fI l a0 a) :
   wpAnyIn (FR r) n cfg.P .any ops Q fuel listed a w1:=by
 have hll:l.length=ops.size:=by have:=hl.1;simpa using this
 obtain ⟨hbind,hclash,hops⟩:=Wi hd
 have wrA_mk:∀{q:aI} {t:TypeId} {x c:Operand},q.rx=false->q.op = .makeSlice t x c->cV q=true:=by
  intro q t x c hx hop
  simp [cV,hx,hop,jy,nP,tg,o7]
 have wrA_as:∀{q:aI} {x:Operand},q.op = .assign x->cV q=false:=by
  intro q x hop
  simp [cV,hop,jy,eQ]
 have gr:pW l st:=by
  intro k hk
  have hq:l[k]? = some l[k]:=bG hk
  obtain ⟨hg,hx,h⟩:=hops _ (cH hq)
  rcases htr k _ hq with ⟨_,hop,_⟩ | ⟨hw,_⟩
  rotate_left
  ·rw [hg] at hw;simp [d8] at hw
  rw [mK hx] at hop
  rcases h with ⟨x,e,hb⟩ | ⟨t,x,c,e⟩
  ·refine .inr ⟨by simp only [fH,hq,wrA_as e],?_⟩
   exact NH (cfg:=cfg) (call:=call) (o:=l[k]) (by simp [e,jy]) (by simp [e,eQ]) (by simpa [dM,e,eQ] using hop)
  ·refine .inl ⟨by simp only [fH,hq,wrA_mk hx e],?_⟩
   simp only [bY,e,obi] at hop
   obtain ⟨_,_,_,_,hop⟩:=hop
   exact (Ns hop).2
 have dst_of:∀k t,k9 l k=some t->∃ok,l[k]? = some ok/\ok.dst=some t:=by
  intro k t hk
  unfold k9 at hk
  cases hlk:l[k]? with
  | none=>simp [hlk] at hk
  | some qk =>
   simp [hlk] at hk
   exact ⟨qk,rfl,hk⟩
 have i0:(fun k=>listed.getD k false)=fun _=>false:=funext hno
 refine Y7 (Inv:=fun D a w1=>fI l a0 a/\∃Z1 j1,St Z1 w1 j1 (EL (st 0).env l vs D ops.size) a/\SR cfg.P Z1 w1 j1 (MF l st D ops.size)/\aJ Z w j (st 0).mem Z1 w1 j1 (MF l st D ops.size)/\aX j j1 /\
   ∀k,fH l k=true->D k=false->j1 (st k).mem.length=none) hbind ?_ ?_ fuel listed a w1 hsz hcnt (fun k o _ hk=>absurd ((hno k).symm.trans hk) (by simp)) ?_
 ·rintro D a w1 hall ⟨hkp,Z1,j1,h1,h2,h3,h4,_⟩
  have eE:EL (st 0).env l vs D ops.size=(st ops.size).env:=by
   rw [<-(mW htr ops.size (by omega)).1]
   apply uE
   intro t
   exact pT _ fun k hk _=>hall k hk
  rw [eE] at h1
  rw [Ru gr _ (by omega) hall] at h2 h3
  exact hQ a w1 ⟨Z1,j1,h1,h2,h3,h4⟩ hkp
 ·rintro D a w1 i o ho hDi hcl hall ⟨hkp,Z1,j1,h1,h2,h3,h4,h5⟩
  have hin:i < ops.size:=(fA.1 ho).1
  obtain ⟨q,hq,hpq⟩:=Oo hl ho
  have hanc:∀k,k∈(ja ops.toList []).getD i []->D k=true:=xD hcl i o ho hall
  have before:∀k ok,k < i->l[k]? = some ok->j9 ok q=true->D k=true:=fun k ok hki hk hc=>hanc k (hclash k i ok _ hki hk hq hc)
  have behind:∀k ok,i < k->l[k]? = some ok->j9 q ok=true->D k=false:=by
   intro k ok hik hk hc
   cases hb:D k with
   | false=>rfl
   | true =>
    have hkl:k < ops.size:=by rw [<-hll];exact (bn.1 hk).1
    have:=xD hcl k ops[k] (fq hkl) (fun e he hbb=>hcl k _ (fq hkl) hb e he hbb) i (hclash i k _ ok hik hq hk hc)
    rw [hDi] at this;cases this
  have looks:∀t,t∈iw q->(EL (st 0).env l vs D ops.size)[t]? = (st i).env[t]?:=by
   intro t ht
   have ht':=ht
   rw [<-(mW htr i (by omega)).1,<-zt i ops.size (by omega)]
   refine pT _ fun k hk hdk=>?_
   obtain ⟨ok,aV,hdo⟩:=dst_of k t hdk
   rcases w6 k i with h | h | h
   ·rw [before k ok h aV (by simp only [j9,hdo];simp [ht'])]
    simp [h]
   ·subst h;simp [hDi]
   ·rw [behind k ok h aV (by simp only [j9,hdo];simp [ht'])]
    simp;omega
  have hstep:=htr i _ hq
  have envEq:EL (st 0).env l vs (fun k=>D k || decide (k=i)) ops.size=d7 (EL (st 0).env l vs D ops.size) q.dst (vs i):=by
   apply uE
   intro t
   by_cases hdt:q.dst=some t
   ·have e1:(EL (st 0).env l vs (fun k=>D k || decide (k=i)) ops.size)[t]? = (EL (st 0).env l vs (fun k=>decide (k < i+1)) ops.size)[t]?:=by
     refine pT _ fun k hk hdk=>?_
     obtain ⟨ok,aV,hdo⟩:=dst_of k t hdk
     rcases w6 k i with h | h | h
     ·rw [before k ok h aV (by simp only [j9,hdo];simp [hdt])]
      simp;omega
     ·subst h;simp
     ·rw [behind k ok h aV (by simp only [j9,hdt];simp [hdo])]
      have:¬k=i:=by omega
      simp [this];omega
    rw [e1,zt (i+1) ops.size (by omega),(mW htr (i+1) (by omega)).1,zd hstep]
    simp only [hdt,wx,if_true,uD]
    rw [<-(mW htr i (by omega)).1,uD]
   ·rw [wx,if_neg hdt]
    refine pT _ fun k hk hdk=>?_
    have:¬k=i:=by
     intro e
     subst e
     simp [k9,hq] at hdk
     exact hdt hdk
    simp [this]
  obtain ⟨hg,hx,hop⟩:=hops _ (cH hq)
  have ev:∀x∈q.op.operands,aP (EL (st 0).env l vs D ops.size) x=aP (st i).env x:=fun x hx=>sY fun t ht=>looks t (by
   simp only [iw,br,uF]
   exact .inl ⟨x,by simpa using hx,by rw [ht]⟩)
  rcases hstep with ⟨_,hrun,_⟩ | ⟨hw,_⟩
  rotate_left
  ·rw [hg] at hw;simp [d8] at hw
  rw [mK hx] at hrun
  have hpq':so ops o q:=by
   rcases hpq with hpq | ⟨T,d,x,ty,sq,rx,_,_,_,rfl⟩
   ·exact hpq
   ·rcases hop with ⟨_,e,_⟩ | ⟨_,_,_,e⟩<;>cases e
  have hwt:Region.wanted o (yielded ops a.tmps)=true:=C3 hpq' h1 (b:=true) (by rw [hg];rfl)
  have hml:=cH hq
  obtain ⟨g,bx,sq,rx,rfl,_⟩:=hpq'
  simp only at hg hx hop
  refine ⟨hwt,fun c hc=>(by rcases hop with ⟨_,e,_⟩ | ⟨_,_,_,e⟩<;>rw [hc] at e<;>cases e),?_⟩
  rcases hop with ⟨x,e,hb⟩ | ⟨t,x,c,e⟩
  ·have hv:aP (st i).env x=some (vs i):=by
    have hrun:=NI (cfg:=cfg) (call:=call) (o:=⟨o.dst,o.op,o.type,g,bx,sq,rx⟩) (by simp [e,jy]) (by simp [e,pC]) (by simpa [dM,e,eQ] using hrun) []
    simp only [bY,e,hb,jA,obi] at hrun
    obtain ⟨v,hv,hrun⟩:=hrun
    cases v<;>simp at hrun<;>rw [hv,hrun]
   have hvr:=h1.eval x (vs i) (by rw [ev x (by simp [e,Op.operands])];exact hv)
   have hw0:fH l i=false:=by simp only [fH,hq];exact wrA_as e
   unfold execOp
   simp only [e]
   show _/\_
   refine ⟨hkp.put (o:=⟨o.dst,o.op,o.type,g,bx,sq,rx⟩) hml _,Z1,j1,?_,by rw [Jj hw0];exact h2,by rw [Jj hw0];exact h3,h4,fun k hk hD=>h5 k hk (by simp at hD;exact hD.1)⟩
   rw [envEq]
   exact h1.put o.dst hvr
  ·simp only [bY,e,obi] at hrun
   obtain ⟨va,ha,vb,hb,hrun⟩:=hrun
   obtain ⟨hvi,ob,hob⟩:=Ns hrun
   obtain ⟨el,us,els,cc,hr,_,hm2,p1,p2,p3,p4,p5,p6⟩:=Nt hrun (h1.eval x va (by rw [ev x (by simp [e,Op.operands])];exact ha)) (h1.eval c vb (by rw [ev c (by simp [e,Op.operands])];exact hb))
   have hwi:fH l i=true:=by simp only [fH,hq];exact wrA_mk hx e
   obtain ⟨m1,m2⟩:=(Rx gr hwi hDi hm2 ops.size (by omega)).2 hin
   obtain ⟨Z2,hh,q1,q2,q3,q4⟩:=aax h2 m2 (h5 i hwi hDi) (w1:=w1.alloc (.cells us el)) rfl rfl rfl rfl p1 p2 p3 p4 p5 p6
   unfold execOp
   simp only [e]
   refine dO hr ⟨hkp.put (o:=⟨o.dst,o.op,o.type,g,bx,sq,rx⟩) hml _,Z2,dP j1 (st i).mem.length hh,?_,by rw [m1];exact q2,by rw [m1];exact h3.trans q3,h4.trans q4,fun k hk hD=>?_⟩
   ·rw [envEq,hvi]
    exact (h1.mono q3.z q4).put o.dst q1
   ·simp only [rR,decide_eq_false_iff_not] at hD
    rw [rM]
    ·exact h5 k hk hD.1
    ·have hkl:=Q2 hk
     rcases kN k i with h | h
     ·have:=gr.lt hk h (by omega);omega
     ·have:=gr.lt hwi (show i < k by omega) (by omega);omega
 ·rw [i0]
  obtain ⟨a1,a2⟩:=Rw (l:=l) sr ops.size
  refine ⟨hkp,Z,j,?_,a1,stp.trans a2,aX.refl _,fun k hk _=>?_⟩
  ·have eE:∀n,EL (st 0).env l vs (fun _=>false) n=(st 0).env:=by
    intro n
    induction n with
    | zero=>rfl
    | succ n ih=>simp only [EL];exact ih
   rw [eE];exact hst
  ·have hkl:=Q2 hk
   have:=gr.le 0 k (by omega)
   rw [ew] at this
   exact sr.out _ this
theorem TE {r:Option Nat} {n:Nat} {cfg:bl} {call:cv} (hm:cfg.P.follows .mixedOrders=true) (hp:gN cfg.P call.pc) (hi:gk cfg.P call.ic) {ops:Array Oper} {Q:Exit->Act->World->Prop} {id:Nat} {l:List aI} {env:List V} {s':S} {a:Act}
  (hd:vl ops l=true) (hl:me ops ops.toList l) (hchk:qB cfg l s'.env=true) (h:kq cfg call true l ⟨env,mem⟩=some s') (st:St Z w j env a) (sr:SR cfg.P Z w j mem) (hQ:∀a' w',wS cfg.P Z w j mem s' a' w'->fI l a a'->Q .normal a' w') :
  (Code.region id ops true).wpIn (FR r) n cfg.P Q a w:=by
 have hll:l.length=ops.size:=by have:=hl.1;simpa using this
 obtain ⟨vs,sts,e0,e1,htr,hcp⟩:∃(vs:Nat->V) (st:Nat->S),st 0=⟨env,mem⟩/\st l.length=s'/\(∀(k:Nat) (o:aI),l[k]? = some o->jE cfg call o (st k) (vs k) (st (k+1)))/\Dd cfg l st:=by
  unfold kq at h
  split at h
  rotate_left
  ·rename_i hno
   have hno:l.any fW=false:=by simpa using hno
   obtain ⟨vs,sts,e0,e1,htr⟩:=acn l ⟨env,mem⟩ s' h
   exact ⟨vs,sts,e0,e1,htr,fun i q n ok _ _ aV hc=>by have:=mY.1 hno ok (cH aV);rw [hc] at this;simp at this⟩
  ·simp only [obi] at h
   obtain ⟨⟨s1,fs⟩,h,hc⟩:=h
   split at hc
   rotate_left
   ·cases hc
   cases hc
   rename_i hc
   obtain ⟨vs,sts,e0,e1,htr,_,hf⟩:=Y2 l ⟨env,mem⟩ _ [] fs h
   exact ⟨vs,sts,e0,e1,htr,S9 htr (by rw [e1];exact hc) hf⟩
 refine wpIn_region_any hm ?_
 have hz:bh Z w Z { w with drawn:=w.drawn+1 }:=.of fun g o h=>⟨h,rfl,rfl⟩
 have no:∀k,(Db ops.size false).getD k false=false:=by intro k;simp [hJ,Array.getElem?_replicate];split<;>rfl
 have eE:∀n,EL (sts 0).env l vs (fun k=>(Db ops.size false).getD k false) n=env:=by
  intro n
  induction n with
  | zero=>simp [EL,e0]
  | succ n ih=>simp only [EL];rw [if_neg (by simp only [no n];simp)];exact ih
 have eM:∀n,ML l sts (fun k=>(Db ops.size false).getD k false) n=mem:=by
  intro n
  induction n with
  | zero=>simp [ML,e0]
  | succ n ih=>simp only [ML];rw [if_neg (by simp only [no n];simp)];exact ih
 unfold vl at hd
 rw [mU] at hd
 rcases hd with hd | hd
 rotate_left
 ·exact Wl (Z:=Z) (w:=w) (j:=j) hl hd htr (by rw [<-hll,e1,e0];exact hQ) ops.size _ a (by simp) (by simp) no (by rw [e0];exact st.mono hz (aX.refl _)) (by rw [e0];exact sr.world hz (fun g _=>⟨rfl,fun _=>Iff.rfl⟩) sr.zin)
   (by rw [e0];exact ⟨rfl,rfl,rfl,bK _,fun _ _ _=>⟨rfl,fun _=>Iff.rfl⟩,fun _ _ h=>h,hz,fun _ h=>⟨h,rfl⟩⟩) (fI.refl l a)
 refine RP (Z:=Z) (w:=w) (j:=j) hp hi hl hd (by rw [<-hll,e1];exact hchk) hcp htr ?_ ops.size _ a _ (by simp) (by simp) (fun k o ho hD=>by simp [no] at hD) ⟨Z,j,?_,?_,?_,aX.refl _,⟨fun k m d T _ hk=>by simp [no] at hk,fun k m d T _ _ _ _ _ _ hk=>by simp [no] at hk⟩⟩ (fI.refl l a)
 ·rw [<-hll,e1,e0];exact hQ
 ·rw [eE];exact st.mono hz (aX.refl _)
 ·rw [eM];exact sr.world hz (fun g _=>⟨rfl,fun _=>Iff.rfl⟩) sr.zin
 ·rw [eM,e0]
  exact ⟨rfl,rfl,rfl,bK _,fun _ _ _=>⟨rfl,fun _=>Iff.rfl⟩,fun _ _ h=>h,hz,fun _ h=>⟨h,rfl⟩⟩
end
section
variable {P:Program} {Z Z':Zs} {w w':World} {j j':J} {mem mem':List O}
theorem acj {s:S} {a:Act} {n0:Nat} {ids:List Nat} (hn:n0<=s.mem.length) (hnd:ids.Nodup) (hge:∀i∈ids,n0<=i) (st:St Z w j s.env a) (sr:SR P Z w j s.mem) :
  St Z w (fM n0 ids j) (i6 n0 ids s).env a/\SR P Z w (fM n0 ids j) (i6 n0 ids s).mem/\aJ Z w j s.mem Z w (fM n0 ids j) (i6 n0 ids s).mem/\∀id,id < n0->fM n0 ids j id=j id:=by
 obtain ⟨h1,h2,h3⟩:=QA hn hnd hge sr
 refine ⟨⟨by simp [i6,st.len],fun i v hv=>?_⟩,h1,⟨rfl,rfl,rfl,bK _,fun _ _ _=>⟨rfl,fun _=>Iff.rfl⟩,fun g _ hg=>?_,bh.refl _ _,fun t hno=>⟨fun k o n ho hr=>?_,rfl⟩⟩,h3⟩
 ·simp only [i6,dQ,omi] at hv
  obtain ⟨v0,h0,rfl⟩:=hv
  obtain ⟨u,hu,hvr⟩:=st.val i v0 h0
  exact ⟨u,hu,hvr.ren2 (Hb n0 ids j)⟩
 ·obtain ⟨k,o,ho,hl,hb⟩:=hg
  obtain ⟨i,o0,h0,hl0,ha,hji,_⟩:=h2 k o ho hl
  exact ⟨i,o0,h0,hl0,ach ha hji hb⟩
 ·obtain ⟨i,o0,h0,hl0,ha,_,_⟩:=h2 k o ho (nu hr)
  exact hno i o0 n h0 (by rw [<-ha];exact hr)
theorem V9 {a:Act}:∀(ts:List Nat) (env:List V),St Z w j env a->St Z w j (fB env ts) a:=by
 intro ts
 induction ts with
 | nil=>intro env h;exact h
 | cons t ts ih =>
  intro env h
  refine ih _ ⟨by simp [h.len],fun i v hv=>?_⟩
  by_cases e:t=i
  ·subst e
   have aD:t < env.length:=by have:=(bn.1 hv).1;simpa using this
   rw [fJ aD] at hv
   cases hv
   exact ⟨a.tmps[t]'(by rw [h.len];exact aD),fq _,.junk⟩
  ·rw [fU e] at hv
   exact h.val i v hv
def JK (n0:Nat) (j j':J):Prop:=∀id h,id < n0->j id=some h->j' id=some h
theorem kZ {s:S} {a:Act} (n0:Nat) (f:List Nat) (st:St Z w j s.env a) (sr:SR P Z w j s.mem) :
  ∃j',St Z w j' (cU n0 f s).env a/\SR P Z w j' (cU n0 f s).mem/\aJ Z w j s.mem Z w j' (cU n0 f s).mem/\JK n0 j j':=by
 obtain ⟨h1,h2⟩:=WY (min n0 s.mem.length) ⟨fB s.env f,s.mem⟩
 obtain ⟨a1,a2,a3,a4⟩:=acj (s:=⟨fB s.env f,s.mem⟩) (Nat.min_le_right n0 s.mem.length) h1 h2 (V9 f s.env st) sr
 refine ⟨_,a1,a2,a3,fun id h hid hj=>?_⟩
 by_cases hl:id < s.mem.length
 ·rw [a4 id (by omega)];exact hj
 ·rw [sr.out id (by omega)] at hj;cases hj
end
set_option linter.unusedVariables false
section
variable {P:Program} {Z Z':Zs} {w w':World} {j j':J} {mem mem':List O}
theorem JK.refl (n0:Nat) (j:J):JK n0 j j:=fun _ _ _ h=>h
theorem JK.trans {n0:Nat} {j1:J} (h:JK n0 j j1) (h':JK n0 j1 j'):JK n0 j j':=fun id x hl e=>h' id x hl (h id x hl e)
theorem JK.of {n0:Nat} (h:aX j j'):JK n0 j j':=fun id x _ e=>h id x e
def lU:Obj->Bool
 | .loop _=>true
 | .deferred _=>true
 | .mapIter _ _ _ _=>true
 | _=>false
theorem Zd (s:SR P Z w j mem) {g:Nat} (h:bg Z j mem g):∃o,w.heap[g]? = some o/\lU o=false:=by
 obtain ⟨id,o,hm,hl,hb⟩:=h
 have hO:=s.obj id o hm
 cases o with
 | dead=>cases hl
 | row t els fz =>
  obtain ⟨h,hh,_,_,_,_,h5⟩:=hO
  rcases h5 with ⟨hu,_⟩ | ⟨g',b,c,us,hu,_,_,hg,_⟩
  ·cases h;simp only at hu;subst hu;simp [bi,O.ar,cy,hh,bF.blk] at hb
  ·cases h;simp only at hu;subst hu;simp [bi,O.ar,cy,hh,bF.blk] at hb;subst hb;exact ⟨_,hg,rfl⟩
 | arena t els =>
  obtain ⟨k,hk,hg⟩:=hb
  obtain ⟨us,h1,_⟩:=hO.2 k _ g (bG hk) hg
  exact ⟨_,h1,rfl⟩
 | marena t ms =>
  obtain ⟨k,hk,hg⟩:=hb
  obtain ⟨es',clock,h1,_⟩:=hO.2 k _ g (bG hk) hg
  exact ⟨_,h1,rfl⟩
 | box t v fz =>
  obtain ⟨g',us,h1,h2,_⟩:=hO
  simp [bi,O.ar,cy,h1,bF.blk] at hb
  subst hb
  exact ⟨_,h2,rfl⟩
 | map es =>
  obtain ⟨r,es',clock,h1,h2,_⟩:=hO
  simp [bi,O.ar,cy,h1,bF.blk] at hb
  subst hb
  exact ⟨_,h2,rfl⟩
theorem BQ (s:SR P Z w j mem) {g:Nat} {o:Obj} (h:w.heap[g]? = some o) (hk:lU o=true):¬bg Z j mem g:=by
 intro ho
 obtain ⟨o',h1,h2⟩:=Zd s ho
 rw [h] at h1;cases h1
 rw [hk] at h2;cases h2
theorem JW {g x:Nat} {o:Obj} (h:w.heap[g]? = some o) (hk:lU o=true):w.cell? ⟨g,x,none⟩=none/\gR w g=none:=by
 cases o<;>first | (cases hk;done) | (exact ⟨by simp [World.cell?,h],by simp [gR,h]⟩)
theorem sG {L:Nat} {o o':Obj} (h:w.heap[L]? = some o) (hk:lU o=true) (hk':lU o'=true):bh Z w Z (w.putObj L o'):=by
 have aD:=(fA.1 h).1
 refine .of fun g x hz=>⟨hz,?_⟩
 by_cases e:g=L
 ·subst e
  obtain ⟨a,b⟩:=JW (x:=x) h hk
  obtain ⟨a',b'⟩:=JW (x:=x) (World.putObj_heap_same (o:=o') aD) hk'
  exact ⟨a'.trans a.symm,b'.trans b.symm⟩
 ·exact gW (World.putObj_heap_other e) x
theorem SR.book (s:SR P Z w j mem) {L:Nat} {o o':Obj} (h:w.heap[L]? = some o) (hk:lU o=true) (hk':lU o'=true):SR P Z (w.putObj L o') j mem :=
 s.world (sG h hk hk') (fun g hg=>⟨World.putObj_heap_other fun e=>BQ s h hk (e ▸ hg),fun _=>Iff.rfl⟩) (fun g x hz=>by rw [World.putObj_size];exact s.zin g x hz)
theorem aJ.book {Z0:Zs} {w0:World} {j0':J} {mem0:List O} (st:aJ Z0 w0 j0' mem0 Z w j mem) {L:Nat} {o o':Obj} (hL:w0.heap.size<=L) (h:w.heap[L]? = some o) (hk:lU o=true) (hk':lU o'=true) :
  aJ Z0 w0 j0' mem0 Z (w.putObj L o') j mem :=
 ⟨st.os,st.tape,st.output,by rw [World.putObj_size];exact st.size,fun g hg hno=>⟨(World.putObj_heap_other (by omega)).trans (st.keep g hg hno).1,(st.keep g hg hno).2⟩,st.owned,st.z.trans (sG h hk hk'),st.ar⟩
def xc (w w':World):Prop:=w'.heap=w.heap/\w'.os=w.os/\w'.tape=w.tape/\w'.output=w.output
theorem y7 (h:xc w w'):bh Z w Z w':=.of fun g x hz=>⟨hz,gW (by rw [h.1]) x⟩
theorem SR.same (s:SR P Z w j mem) (h:xc w w'):SR P Z w' j mem:=s.world (y7 h) (fun g _=>⟨by rw [h.1],fun _=>Iff.rfl⟩) (fun g x hz=>by rw [h.1];exact s.zin g x hz)
theorem aJ.same {Z0:Zs} {w0:World} {j0':J} {mem0:List O} (st:aJ Z0 w0 j0' mem0 Z w j mem) (h:xc w w'):aJ Z0 w0 j0' mem0 Z w' j mem :=
 ⟨h.2.1.trans st.os,h.2.2.1.trans st.tape,h.2.2.2.trans st.output,by rw [h.1];exact st.size,fun g hg hno=>⟨by rw [h.1];exact (st.keep g hg hno).1,(st.keep g hg hno).2⟩,st.owned,st.z.trans (y7 h),st.ar⟩
def yr (D:Nat):Deferred:={ target:=.collected D,args:=#[] }
def Mk (B:Nat) (w:World) (ds ds':List Deferred):Prop:=∃Ds:List Nat,ds'=Ds.map yr++ds/\Ds.Nodup/\∀D∈Ds,B<=D/\w.heap[D]? = some (.deferred (some []))
structure eJ (ws:List Nat) (w:World) (a a':Act) (w':World):Prop where
 marks:Mk w.heap.size w' a.defers a'.defers
 size:a'.tmps.size=a.tmps.size
 tmps:∀i,i∉ws->a'.tmps[i]? = a.tmps[i]?
theorem Mk.refl (B:Nat) (w:World) (ds:List Deferred):Mk B w ds ds:=⟨[],rfl,.nil,fun D h=>by simp at h⟩
theorem eJ.refl (ws:List Nat) (w:World) (a:Act) (w':World):eJ ws w a a w':=⟨Mk.refl _ _ _,rfl,fun _ _=>rfl⟩
theorem eJ.of {l:List aI} {a a':Act} (h:fI l a a') (w w':World):eJ (l.filterMap (·.dst)) w a a' w' :=
 ⟨by rw [h.defs];exact Mk.refl _ _ _,h.size,fun i hi=>h.tmps i fun o ho e=>hi (uF.2 ⟨o,ho,e⟩)⟩
theorem eJ.weak {ws ws':List Nat} {a a':Act} (h:eJ ws w a a' w') (hs:∀i∈ws,i∈ws'):eJ ws' w a a' w':=⟨h.marks,h.size,fun i hi=>h.tmps i fun e=>hi (hs i e)⟩
theorem eJ.trans {ws ws':List Nat} {a a1 a2:Act} {w0 w1 w2:World} {Z1 Z2:Zs} {j1 j2:J} {mem1 mem2:List O} (h:eJ ws w0 a a1 w1) (s1:SR P Z1 w1 j1 mem1) (st:aJ Z1 w1 j1 mem1 Z2 w2 j2 mem2) (hs:w0.heap.size<=w1.heap.size) (h':eJ ws' w1 a1 a2 w2) :
  eJ (ws++ws') w0 a a2 w2:=by
 obtain ⟨⟨D1,e1,n1,k1⟩,z1,t1⟩:=h
 obtain ⟨⟨D2,e2,n2,k2⟩,z2,t2⟩:=h'
 have lt1:∀D∈D1,D < w1.heap.size:=fun D hD=>(fA.1 (k1 D hD).2).1
 refine ⟨⟨D2++D1,by rw [e2,e1];simp,?_,fun D hD=>?_⟩,z2.trans z1,fun i hi=>?_⟩
 ·rw [zD]
  refine ⟨n2,n1,fun x hx y hy e=>?_⟩
  have:=(k2 x hx).1
  have:=lt1 y hy
  omega
 ·rcases br.1 hD with hD | hD
  ·exact ⟨j4 hs (k2 D hD).1,(k2 D hD).2⟩
  ·exact ⟨(k1 D hD).1,((st.keep D (lt1 D hD) (BQ s1 (k1 D hD).2 rfl)).1).trans (k1 D hD).2⟩
 ·simp only [br,not_or] at hi
  exact (t2 i hi.2).trans (t1 i hi.1)
def jW (P:Program) (n0:Nat) (Z:Zs) (w:World) (j:J) (mem:List O) (s':S) (a:Act) (w':World):Prop :=
 ∃Z' j',St Z' w' j' s'.env a/\SR P Z' w' j' s'.mem/\aJ Z w j mem Z' w' j' s'.mem/\JK n0 j j'
theorem jW.trans {n0:Nat} {Z1:Zs} {w1:World} {j1:J} {mem1:List O} {s':S} {a:Act} (h:aJ Z w j mem Z1 w1 j1 mem1) (hj:JK n0 j j1) (h':jW P n0 Z1 w1 j1 mem1 s' a w'):jW P n0 Z w j mem s' a w' :=
 let ⟨Z2,j2,a1,a2,a3,a4⟩:=h'
 ⟨Z2,j2,a1,a2,h.trans a3,hj.trans a4⟩
def Ex.toExit:Ex->Exit
 | .norm=>.normal
 | .exit i=>.exit i
 | .ret=>.ret
theorem Xs {step:S->Option (Ex × S)} {Q:Ex->Prop} (hq:∀s r,step s=some r->r.1≠.norm->Q r.1):∀(n:Nat) (s:S) (r:Ex × S),dF step n s=some r->Q r.1/\r.1≠.norm:=by
 intro n
 induction n with
 | zero=>intro s r h;simp [dF] at h
 | succ n ih =>
  intro s r h
  simp only [dF] at h
  cases hs:step s with
  | none=>simp [hs] at h
  | some r1 =>
   obtain ⟨x,s1⟩:=r1
   simp only [hs,aL] at h
   cases x with
   | norm=>exact ih _ _ h
   | exit i=>cases h;exact ⟨hq _ _ hs (by simp),by simp⟩
   | ret=>cases h;exact ⟨hq _ _ hs (by simp),by simp⟩
theorem LS {cfg:bl} {call:cv} {n n0:Nat}:∀(c:C) (s:S) (i:Nat) (s':S),exec cfg call n n0 c s=some (.exit i,s')->i∈dJ c:=by
 intro c
 induction c with
 | skip=>intro s i s' h;simp [exec] at h
 | ops dr l =>
  intro s i s' h
  simp only [exec,obi] at h
  obtain ⟨_,_,h⟩:=h
  split at h<;>cases h
 | seq a b iha ihb =>
  intro s i s' h
  simp only [exec] at h
  cases h1:exec cfg call n n0 a s with
  | none=>simp [h1] at h
  | some r =>
   obtain ⟨x,s1⟩:=r
   simp only [h1,aL] at h
   cases x with
   | norm=>exact br.2 (.inr (ihb _ _ _ h))
   | exit k=>cases h;exact br.2 (.inl (iha _ _ _ h1))
   | ret=>cases h
 | cseq f a b iha ihb =>
  intro s i s' h
  simp only [exec] at h
  cases h1:exec cfg call n n0 a s with
  | none=>simp [h1] at h
  | some r =>
   obtain ⟨x,s1⟩:=r
   simp only [h1,aL] at h
   cases x with
   | norm=>exact br.2 (.inr (ihb _ _ _ h))
   | exit k=>cases h;exact br.2 (.inl (iha _ _ _ h1))
   | ret=>cases h
 | cond c a b iha ihb =>
  intro s i s' h
  simp only [exec] at h
  cases h1:aP s.env c with
  | none=>simp [h1] at h
  | some v =>
   cases v<;>simp only [h1,aL] at h<;>first | (cases h;done) | skip
   split at h
   ·exact br.2 (.inl (iha _ _ _ h))
   ·exact br.2 (.inr (ihb _ _ _ h))
 | block id c ih =>
  intro s i s' h
  simp only [exec,omi] at h
  obtain ⟨⟨x,s1⟩,h1,h2⟩:=h
  cases x with
  | norm=>cases h2
  | ret=>cases h2
  | exit k =>
   simp only at h2
   split at h2
   ·cases h2
   ·cases h2;exact ih _ _ _ h1
 | loop f c ih =>
  intro s i s' h
  simp only [exec,omi] at h
  obtain ⟨⟨x,s1⟩,h1,h2⟩:=h
  cases h2
  have:=Xs (Q:=fun x=>∀k,x = .exit k->k∈dJ c) (fun s r hr _ k e=>ih _ k r.2 (by rw [<-e];exact hr)) _ _ _ h1
  exact this.1 i rfl
 | exit k=>intro s i s' h;simp only [exec,Option.some.injEq,Prod.mk.injEq,Ex.exit.injEq] at h;rw [<-h.1];exact eV.2 rfl
 | ret=>intro s i s' h;simp [exec] at h
 | start g=>intro s i s' h;simp only [exec,omi] at h;obtain ⟨_,_,h⟩:=h;cases h
 | uncons g ps ws a b iha ihb =>
  intro s i s' h
  simp only [exec] at h
  split at h
  ·exact br.2 (.inr (ihb _ _ _ h))
  ·split at h
   ·simp only [omi] at h
    obtain ⟨⟨x,s1⟩,h1,h2⟩:=h
    cases h2
    exact br.2 (.inl (iha _ _ _ h1))
   ·cases h
  ·cases h
theorem abY {cfg:bl} {call:cv} {n n0:Nat}:∀(c:C),wI c=true->∀(s:S) (x:Ex) (s':S),exec cfg call n n0 c s=some (x,s')->x = .norm:=by
 intro c
 induction c with
 | skip=>intro _ s x s' h;simp [exec] at h;exact h.1.symm
 | ops dr l =>
  intro _ s x s' h
  simp only [exec,obi] at h
  obtain ⟨_,_,h⟩:=h
  split at h<;>cases h
  rfl
 | seq a b iha ihb =>
  intro hs s x s' h
  simp only [wI,bD] at hs
  simp only [exec] at h
  cases h1:exec cfg call n n0 a s with
  | none=>simp [h1] at h
  | some r =>
   obtain ⟨x1,s1⟩:=r
   have:=iha hs.1 _ _ _ h1
   subst this
   simp only [h1,aL] at h
   exact ihb hs.2 _ _ _ h
 | _=>intro hs;cases hs
theorem V7:∀(f:List Nat) (env:List V) (i:Nat),(fB env f)[i]? = env[i]?∨(fB env f)[i]? = some .junk:=by
 intro f
 induction f with
 | nil=>intro env i;exact .inl rfl
 | cons t f ih =>
  intro env i
  simp only [fB]
  rcases ih (env.set t .junk) i with h | h
  ·rw [h]
   by_cases e:t=i
   ·subst e
    by_cases hl:t < env.length
    ·exact .inr (fJ hl)
    ·left;rw [List.set_eq_of_length_le (by omega)]
   ·exact .inl (fU e)
  ·exact .inr h
theorem FD:∀(f:List Nat) (env:List V),(fB env f).length=env.length:=by
 intro f
 induction f with
 | nil=>intro env;rfl
 | cons t f ih=>intro env;simp only [fB];rw [ih,jY]
theorem V8:∀(f:List Nat) (env:List V) (i:Nat) (v:V),(fB env f)[i]? = some v->v = .junk∨(i∉f/\env[i]? = some v):=by
 intro f
 induction f with
 | nil=>intro env i v h;exact .inr ⟨by simp,h⟩
 | cons t f ih =>
  intro env i v h
  simp only [fB] at h
  rcases ih _ i v h with e | ⟨h1,h2⟩
  ·exact .inl e
  ·by_cases e:t=i
   ·subst e
    have aD:t < env.length:=by have:=(bn.1 h2).1;simpa using this
    rw [fJ aD] at h2
    exact .inl (Option.some.inj h2).symm
   ·rw [fU e] at h2
    exact .inr ⟨by simp [h1,Ne.symm e],h2⟩
theorem Kh {n0:Nat} {f:List Nat} {s:S} {g:Nat} {ts:List TypeId} {l:List V} (h:s.env[g]? = some (.rest ts l)):(cU n0 f s).env[g]? = some (.rest ts l)∨(cU n0 f s).env[g]? = some .junk:=by
 simp only [cU,Qz,i6,dQ]
 rcases V7 f s.env g with e | e
 ·rw [e,h];exact .inl rfl
 ·rw [e];exact .inr rfl
end
section
variable {P:Program} {Z Z':Zs} {w w':World} {j j':J} {mem mem':List O}
def zu (Z:Zs) (w w':World):Prop:=w.heap.size<=w'.heap.size/\∀g o,Z g o->w'.cell? ⟨g,o,none⟩=w.cell? ⟨g,o,none⟩
theorem zu.of (hs:w.heap.size<=w'.heap.size) (h:bh Z w Z' w'):zu Z w w':=⟨hs,fun g o hz=>(h g o hz).2.1⟩
def p9 (P:Program) (seqp:FuncId->Option (List TypeId × (List V->Option (List (List V))))):Prop :=
 ∀f ts h as0 rounds,seqp f=some (ts,h)->h as0=some rounds->∀(Z:Zs) (w:World) (us:List Value),(∀g o,Z g o->g < w.heap.size)->eZ Z w j0 as0 us ->
  (∀args w,(callFunc f args).run P w = .ok (.enter f args) w) /\
  ∃encs:List (List Value),encs.length=rounds.length/\(∀(k:Nat) (x:List V) (u:List Value),rounds[k]? = some x->encs[k]? = some u->eZ Z w j0 x u) /\
   ∀(l:Nat) (I:Nat->World->Prop) (Ix:World->Prop) (W:World),(∀k W1 W2,I k W1->xc W1 W2->I k W2)->(∀W1 W2,Ix W1->xc W1 W2->Ix W2)->(∀k W1,I k W1->zu Z w W1) ->
    (∀(k:Nat) (u:List Value) (W1:World),encs[k]? = some u->I k W1->YieldAt Fence.wide 0 P l u.toArray W1 fun e W2=>(e = .returned (.bool true)/\I (k+1) W2)∨(e = .returned (.bool false)/\Ix W2)) ->
    I 0 W->Calls P f (#[.func (.yield l) #[] #[]]++us.toArray) W fun e W'=>(∃v,e = .returned v)/\(I encs.length W'∨Ix W')
theorem VR.tmps {env:List V} {a a':Act} (s:St Z w j env a) (h:a'.tmps=a.tmps):St Z w j env a':=⟨by rw [h];exact s.len,by rw [h];exact s.val⟩
theorem St.setJunk {env:List V} {a:Act} (s:St Z w j env a) (g:Nat) (v:V) (hv:∀u,VR Z w j v u):St Z w j (env.set g v) a:=by
 refine ⟨by simp [s.len],fun i x hx=>?_⟩
 by_cases e:g=i
 ·subst e
  have aD:g < env.length:=by have:=(bn.1 hx).1;simpa using this
  rw [fJ aD] at hx
  cases hx
  exact ⟨a.tmps[g]'(by rw [s.len];exact aD),fq _,hv _⟩
 ·rw [fU e] at hx
  exact s.val i x hx
theorem abe {ds:List Deferred}:∀(ps:List Nat) (vs:List V) (us:List Value) (env:List V) (T:Array Value),vs.length=ps.length->eZ Z w j vs us->St Z w j env { tmps:=T,defers:=ds } ->
  St Z w j (ug env ps vs) { tmps:=(ps.zip us).foldl (fun t (p,v)=>t.setIfInBounds p v) T,defers:=ds }/\((ps.zip us).foldl (fun t (p,v)=>t.setIfInBounds p v) T).size=T.size /\
   ∀i,i∉ps->((ps.zip us).foldl (fun t (p,v)=>t.setIfInBounds p v) T)[i]? = T[i]?:=by
 intro ps
 induction ps with
 | nil=>intro vs us env T hl hv st;cases vs<;>exact ⟨st,rfl,fun _ _=>rfl⟩
 | cons p ps ih =>
  intro vs us env T hl hv st
  cases vs with
  | nil=>simp at hl
  | cons v vs =>
   cases us with
   | nil=>have:=hv.1;simp at this
   | cons u us =>
    have hv':eZ Z w j vs us:=⟨by have:=hv.1;simpa using this,fun i x y h1 h2=>hv.2 (i+1) x y (by simpa using h1) (by simpa using h2)⟩
    have s1:St Z w j (env.set p v) { tmps:=T.setIfInBounds p u,defers:=ds }:=st.put (some p) (hv.2 0 v u rfl rfl)
    obtain ⟨a,b,c⟩:=ih vs us _ _ (by simpa using hl) hv' s1
    refine ⟨a,b.trans (by simp),fun i hi=>?_⟩
    simp only [bO,not_or] at hi
    exact (c i hi.2).trans (IX (Ne.symm hi.1))
theorem acU (ps:Array Tmp) (us:List Value) (T:Array Value):(ps.zip us.toArray).foldl (fun t (p,v)=>t.setIfInBounds p v) T=(ps.toList.zip us).foldl (fun t (p,v)=>t.setIfInBounds p v) T:=by
 rw [<-Array.foldl_toList]
 congr 1
 simp
def yy (B:Nat):Ex->Exit
 | .exit i=>if i=B then .normal else .exit i
 | y=>y.toExit
theorem ZW {cfg:bl} {call:cv} (hq:p9 cfg.P cfg.seqp) {n n0:Nat} {g:Nat} {ps:Array Tmp} {sE body:Code} {F:List Nat} {ca cb:C} {ws:List Nat} {B:Nat}
  (hws:∀i,i∈ps.toList∨i∈c8 ca∨i∈c8 cb->i∈ws) (hst:wI ca=true) (hex:B∉dJ cb)
  (iha:∀(r:Nat) (s:S) (x:Ex) (s':S),exec cfg call n n0 ca s=some (x,s')->∀(a:Act) (w:World) (Z:Zs) (j:J),St Z w j s.env a->SR cfg.P Z w j s.mem ->
   ∀(Q:Exit->Act->World->Prop),(∀a' w',jW cfg.P n0 Z w j s.mem s' a' w'->eJ (c8 ca) w a a' w'->Q x.toExit a' w')->sE.wpIn (FR (some r)) 0 cfg.P Q a w)
  (ihb:∀(r:Nat) (s:S) (x:Ex) (s':S),exec cfg call n n0 cb s=some (x,s')->∀(a:Act) (w:World) (Z:Zs) (j:J),St Z w j s.env a->SR cfg.P Z w j s.mem ->
   ∀(Q:Exit->Act->World->Prop),(∀a' w',jW cfg.P n0 Z w j s.mem s' a' w'->eJ (c8 cb) w a a' w'->Q x.toExit a' w')->body.wpIn (FR (some r)) 0 cfg.P Q a w)
  {s s1:S} (h1:uu cfg g s=some s1) {y0:Ex} {s20:S} {N:Nat} (h2:dF (fun s=>exec cfg call n n0 (.uncons g ps.toList ws (.seq ca cb) (.exit B)) (cU n0 F s)) N s1=some (y0,s20))
  {a:Act} {w:World} {Z:Zs} {j:J} (st:St Z w j s.env a) (sr:SR cfg.P Z w j s.mem) {Q:Exit->Act->World->Prop}
  (hQ:∀a' w',jW cfg.P n0 Z w j s.mem (cU n0 F s20) a' w'->eJ [] w a a' w'->Q (yy B y0) a' w') (m:Nat) :
  (Code.rangeFunc (.tmp g) ps sE body).wpIn (FR none) m cfg.P Q a w:=by
 unfold uu at h1
 split at h1
 rotate_left
 ·cases h1
 rename_i f caps henv
 split at h1
 ·cases h1
 rename_i hfb
 simp only [obi,omi] at h1
 obtain ⟨⟨ts,hh⟩,hseq,as0,hsn,l,hl,hs1⟩:=h1
 simp only at hl hs1
 obtain ⟨u0,hu0,hv0⟩:=st.val g _ henv
 have hv1:=abx (q:=cfg.sqj f) sr hsn hv0
 obtain ⟨sr1,ow1⟩:=vx (w:=w) (j:=j) (caps.flatMap (nN (cfg.sqj f) s.mem)) Z s.mem sr
 obtain ⟨Z1,hZ1⟩:∃Z1,Z1=c9 Z (Fz cfg.P j s.mem (caps.flatMap (nN (cfg.sqj f) s.mem))):=⟨_,rfl⟩
 rw [<-hZ1] at hv1 sr1
 have stp1:aJ Z w j s.mem Z1 w j (freezeAll (caps.flatMap (nN (cfg.sqj f) s.mem)) s.mem):=by
  subst hZ1
  exact ⟨rfl,rfl,rfl,bK _,fun g' hg hno=>⟨rfl,fun o=>⟨fun h=>h.resolve_right fun ⟨id,_,hb,ho⟩=>hno (pu sr hb ho),.inl⟩⟩,fun g' _ ho=>(ow1 g').1 ho,bh.or _ _ _,fun _ h=>⟨h.freezeAll _,rfl⟩⟩
 have hz1:bh Z w Z1 w:=stp1.z
 obtain ⟨us,rfl,hus⟩:∃us:List Value,u0 = .func (.func f) #[] us.toArray/\eZ Z1 w j0 as0 us:=by
  cases hv1 with
  | fn hl' hh'=>exact ⟨_,Bb (Nat.lt_of_not_le hfb),hl',hh'⟩
 have heval:a.eval (.tmp g) = .func (.func f) #[] us.toArray:=by simp [Act.eval,hu0,hJ]
 obtain ⟨hin,encs,e1,e2,e3⟩:=hq f ts hh as0 l hseq hl Z1 w us sr1.zin hus
 refine wpIn_rangeFunc ?_
 intro fn _
 obtain ⟨rec,hrec⟩:∃rec:LoopState->Option Code->Loop,rec=fun st pe=>{ state:=st,pending:=pe,fn,tmps:=a.tmps,params:=ps,assign:=sE,body,defers:=w.heap.size }:=⟨_,rfl⟩
 have hpend:∀st pe,(rec st pe).pending=pe:=fun st pe=>by rw [hrec]
 have hstate:∀st pe,(rec st pe).state=st:=fun st pe=>by rw [hrec]
 obtain ⟨W1,hW1⟩:∃W1,(w.alloc (.deferred (some []))).alloc (.loop (rec .ready none))=W1:=⟨_,rfl⟩
 have hL1:W1.heap[w.heap.size+1]? = some (.loop (rec .ready none)):=by
  rw [<-hW1];have:=World.alloc_heap_new (w.alloc (.deferred (some []))) (.loop (rec .ready none));rwa [World.size_alloc] at this
 have hD1:W1.heap[w.heap.size]? = some (.deferred (some [])):=by
  rw [<-hW1];exact (li (w:=w.alloc (.deferred (some []))) (w1:=(w.alloc (.deferred (some []))).alloc (.loop (rec .ready none))) rfl (by rw [World.size_alloc];omega)).trans (World.alloc_heap_new w _)
 have srW:SR cfg.P Z1 W1 j s1.mem:=by rw [<-hW1,<-hs1];exact (sr1.alloc _).alloc _
 have stpW:aJ Z w j s.mem Z1 W1 j s1.mem:=by
  rw [<-hW1,<-hs1];exact (stp1.trans (aJ.alloc sr1 _)).trans (aJ.alloc (sr1.alloc _) _)
 have zW:bh Z1 w Z1 W1:=by
  rw [<-hW1];exact (An sr1.zin).trans (An (sr1.alloc _).zin)
 have st0:St Z1 W1 j s1.env a:=by
  rw [<-hs1]
  exact ((st.mono hz1 (aX.refl _)).mono zW (aX.refl _)).setJunk g _ (fun _=>.rest)
 obtain ⟨step,hstep⟩:∃step,step=fun s=>exec cfg call n n0 (.uncons g ps.toList ws (.seq ca cb) (.exit B)) (cU n0 F s):=⟨_,rfl⟩
 rw [<-hstep] at h2
 let I:Nat->World->Prop:=fun k W=>∃(Z':Zs) (j':J) (sk:S) (mm:Nat),SR cfg.P Z' W j' sk.mem/\St Z' W j' sk.env a/\aJ Z w j s.mem Z' W j' sk.mem/\JK n0 j j'/\bh Z1 w Z' W /\
  sk.env[g]? = some (.rest ts ((l.drop k).map .tup))/\dF step mm sk=some (y0,s20)/\W.heap[w.heap.size+1]? = some (.loop (rec .ready none))/\W.heap[w.heap.size]? = some (.deferred (some []))
 let Ix:World->Prop:=fun W=>∃(Z':Zs) (j':J) (c:Code),SR cfg.P Z' W j' s20.mem/\St Z' W j' s20.env a/\aJ Z w j s.mem Z' W j' s20.mem/\JK n0 j j' /\
  ((y0 = .ret/\c = .ret)∨∃i,y0 = .exit i/\i≠B/\c = .exit i)/\W.heap[w.heap.size+1]? = some (.loop (rec .done (some c)))/\W.heap[w.heap.size]? = some (.deferred (some []))
 have main:=e3 (w.heap.size+1) I Ix W1
  (fun k A B' ⟨Z',j',sk,mm,q1,q2,q3,q4,q5,q6,q7,q8,q9⟩ hs=>⟨Z',j',sk,mm,q1.same hs,q2.mono (y7 hs) (aX.refl _),q3.same hs,q4,q5.trans (y7 hs),q6,q7,by rw [hs.1];exact q8,by rw [hs.1];exact q9⟩)
  (fun A B' ⟨Z',j',c,q1,q2,q3,q4,q5,q6,q7⟩ hs=>⟨Z',j',c,q1.same hs,q2.mono (y7 hs) (aX.refl _),q3.same hs,q4,q5,by rw [hs.1];exact q6,by rw [hs.1];exact q7⟩)
  (fun k W ⟨Z',j',sk,mm,q1,q2,q3,q4,q5,_⟩=>zu.of q3.size q5)
  ?_
  ⟨Z1,j,s1,N,srW,st0,stpW,JK.refl _ _,zW,by rw [<-hs1];simp only [si];exact fJ (bn.1 henv).1,h2,hL1,hD1⟩
 ·-- entering,and behind the function
  refine ⟨w.heap.size+1,[yr w.heap.size],W1,{ target:=.fn (.func f) us.toArray,args:=#[.func (.yield (w.heap.size+1)) #[] #[]] },W1,f,#[.func (.yield (w.heap.size+1)) #[] #[]]++us.toArray,W1,?_,?_,?_,?_,fun h=>(by cases h),?_⟩
  ·rw [<-hW1,hrec];exact run_enterLoop_outer _ _ _ _ _
  ·simp only [resolve,heval]
   simp [go_sem]
  ·intro _ _;trivial
  ·simp [invoke,go_sem,hin]
  ·refine CallsIn.mono (J6 (r:=none) (n:=m - 1) main) ?_
   rintro e W2 ⟨⟨v,rfl⟩,(hI | hI)⟩
   ·obtain ⟨Z',j',sk,mm,q1,q2,q3,q4,q5,q6,q7,q8,q9⟩:=hI
    have hend:=(run_endLoop (P:=cfg.P) q8 (by rw [hstate];simp)).trans (congrArg (fun p=>Result.ok p (W2.putObj (w.heap.size+1) (.loop { rec .ready none with state:=.exhausted }))) (hpend .ready none))
    refine ⟨none,_,hend,?_⟩
    cases mm with
    | zero=>simp [dF] at q7
    | succ mm =>
    simp only [dF] at q7
    obtain ⟨jc,c1,c2,c3,c4⟩:=kZ n0 F q2 q1
    have hrest:sk.env[g]? = some (.rest ts []):=by rw [q6,e1,List.drop_length];rfl
    have hgo:step sk=some (.exit B,cU n0 F sk):=by
     have:step sk≠none:=by intro e;rw [e] at q7;cases q7
     rw [hstep] at this |-
     rcases Kh (n0:=n0) (f:=F) hrest with e | e
     ·simp only [exec,e]
     ·simp only [exec,e] at this;exact (this rfl).elim
    rw [hgo] at q7
    simp only [aL,Option.some.injEq,Prod.mk.injEq] at q7
    obtain ⟨rfl,rfl⟩:=q7
    have hb:lU (.loop (rec .ready none))=true:=rfl
    have c1':=c1
    obtain ⟨jd,d1,d2,d3,d4⟩:=kZ n0 F c1 c2
    have hz:=sG (Z:=Z') (o':=.loop { rec .ready none with state:=.exhausted }) q8 rfl rfl
    have:=hQ { a with defers:=[yr w.heap.size]++a.defers } (W2.putObj (w.heap.size+1) (.loop { rec .ready none with state:=.exhausted }))
     ⟨Z',jd,VR.tmps (d1.mono hz (aX.refl _)) rfl,d2.book q8 rfl rfl,((q3.trans c3).trans d3).book (by omega) q8 rfl rfl,(q4.trans c4).trans d4⟩
     ⟨⟨[w.heap.size],rfl,by simp,fun D hD=>by
      simp at hD;subst hD
      exact ⟨bK _,(World.putObj_heap_other (by omega)).trans q9⟩⟩,rfl,fun _ _=>rfl⟩
    simp only [yy,if_true] at this
    exact this
   ·obtain ⟨Z',j',c,q1,q2,q3,q4,q5,q6,q7⟩:=hI
    have hend:=(run_endLoop (P:=cfg.P) q6 (by rw [hstate];simp)).trans (congrArg (fun p=>Result.ok p (W2.putObj (w.heap.size+1) (.loop { rec .done (some c) with state:=.exhausted }))) (hpend .done (some c)))
    obtain ⟨jd,d1,d2,d3,d4⟩:=kZ n0 F q2 q1
    have hz:=sG (Z:=Z') (o':=.loop { rec .done (some c) with state:=.exhausted }) q6 rfl rfl
    have:=hQ { a with defers:=[yr w.heap.size]++a.defers } (W2.putObj (w.heap.size+1) (.loop { rec .done (some c) with state:=.exhausted }))
     ⟨Z',jd,VR.tmps (d1.mono hz (aX.refl _)) rfl,d2.book q6 rfl rfl,(q3.trans d3).book (by omega) q6 rfl rfl,q4.trans d4⟩
     ⟨⟨[w.heap.size],rfl,by simp,fun D hD=>by
      simp at hD;subst hD
      exact ⟨bK _,(World.putObj_heap_other (by omega)).trans q7⟩⟩,rfl,fun _ _=>rfl⟩
    refine ⟨some c,_,hend,?_⟩
    rcases q5 with ⟨rfl,rfl⟩ | ⟨i,rfl,hi,rfl⟩
    ·exact wpIn_ret this
    ·simp only [yy,if_neg hi] at this
     exact wpIn_exit this
 ·-- one round
  rintro k u W hku ⟨Z',j',sk,mm,q1,q2,q3,q4,q5,q6,q7,q8,q9⟩
  have hkl:k < l.length:=by rw [<-e1];exact (bn.1 hku).1
  have hlk:l[k]? = some l[k]:=bG hkl
  generalize l[k]=x at hlk
  have hvx:=e2 k x u hlk hku
  have hdrop:l.drop k=x::l.drop (k+1):=by
   rw [sh hkl]
   congr 1
   rw [bG hkl] at hlk
   exact Option.some.inj hlk
  cases mm with
  | zero=>simp [dF] at q7
  | succ mm =>
  simp only [dF] at q7
  obtain ⟨jc,c1,c2,c3,c4⟩:=kZ n0 F q2 q1
  rw [hdrop] at q6
  cases hgo:step sk with
  | none=>rw [hgo] at q7;cases q7
  | some r1 =>
  obtain ⟨y1,s'⟩:=r1
  rw [hgo] at q7
  simp only [aL] at q7
  rw [hstep] at hgo
  have hck:(cU n0 F sk).env[g]? = some (.rest ts (.tup x::(l.drop (k+1)).map .tup)):=by
   rcases Kh (n0:=n0) (f:=F) q6 with e | e
   ·exact e
   ·simp only [exec,e] at hgo;cases hgo
  simp only [exec,hck] at hgo
  split at hgo
  rotate_left
  ·cases hgo
  rename_i hxl
  simp only [omi] at hgo
  obtain ⟨⟨y2,t⟩,hgo,he⟩:=hgo
  cases he
  cases hea:exec cfg call n n0 ca ⟨ug ((cU n0 F sk).env.set g .junk) ps.toList x,(cU n0 F sk).mem⟩ with
  | none=>rw [hea] at hgo;cases hgo
  | some ra =>
  obtain ⟨xa,ta⟩:=ra
  have:=abY ca hst _ _ _ hea
  subst this
  rw [hea] at hgo
  simp only [aL] at hgo
  have heb:exec cfg call n n0 cb ta=some (y2,t):=hgo
  have hus':u.length=ps.size:=by rw [<-hvx.1,hxl];simp
  have hy:=run_yield (P:=cfg.P) (args:=u.toArray) q8 (by rw [hrec];simpa using hus')
  have hvx':eZ Z' W jc x u:=⟨hvx.1,fun i v z h1 h2=>(hvx.2 i v z h1 h2).mono q5 (aX.zero _)⟩
  obtain ⟨p1,p2,p3⟩:=abe (ds:=[]) ps.toList x u ((cU n0 F sk).env.set g .junk) a.tmps hxl hvx' (VR.tmps (c1.setJunk g .junk (fun _=>.junk)) rfl)
  rw [<-acU] at p1 p2 p3
  obtain ⟨T0,hT0⟩:∃T0,(ps.zip u.toArray).foldl (fun t (p,v)=>t.setIfInBounds p v) a.tmps=T0:=⟨_,rfl⟩
  rw [hT0] at p1 p2 p3
  refine ⟨fn,T0,sE,body,by rw [hrec] at hy;rw [<-hT0];exact hy,roundIn_of_wpIn trivial (iha (w.heap.size+1) _ _ _ hea { tmps:=T0,defers:=[] } W Z' jc p1 c2 _ ?_)⟩
  intro a1 Wa ⟨Z2,j2,b1,b2,b3,b4⟩ hka
  have keepA:∀(D:Nat) (o:Obj),W.heap[D]? = some o->lU o=true->Wa.heap[D]? = some o:=fun D o hD hk=>(b3.keep D (fA.1 hD).1 (BQ c2 hD hk)).1.trans hD
  have hLa:=keepA _ _ q8 rfl
  have hDa:=keepA _ _ q9 rfl
  refine ⟨_,run_beginRound hLa (hstate _ _),?_⟩
  obtain ⟨W2,hW2⟩:∃W2,Wa.putObj (w.heap.size+1) (.loop { rec .ready none with state:=.busy })=W2:=⟨_,rfl⟩
  have hltL:w.heap.size+1 < Wa.heap.size:=(fA.1 hLa).1
  have hz2:bh Z2 Wa Z2 W2:=by rw [<-hW2];exact sG hLa rfl rfl
  have sr2:SR cfg.P Z2 W2 j2 ta.mem:=by rw [<-hW2];exact b2.book hLa rfl rfl
  have st2:aJ Z w j s.mem Z2 W2 j2 ta.mem:=by rw [<-hW2];exact ((q3.trans c3).trans b3).book (by omega) hLa rfl rfl
  have hL2:W2.heap[w.heap.size+1]? = some (.loop { rec .ready none with state:=.busy }):=by rw [<-hW2];exact World.putObj_heap_same hltL
  have hD2:W2.heap[w.heap.size]? = some (.deferred (some [])):=by rw [<-hW2];exact (World.putObj_heap_other (by omega)).trans hDa
  rw [hW2]
  refine ihb (w.heap.size+1) _ _ _ heb a1 W2 Z2 j2 (b1.mono hz2 (aX.refl _)) sr2 _ ?_
  intro a3 W3 ⟨Z3,j3,d1,d2,d3,d4⟩ hkb
  have keepB:∀(D:Nat) (o:Obj),W2.heap[D]? = some o->lU o=true->W3.heap[D]? = some o:=fun D o hD hk=>(d3.keep D (fA.1 hD).1 (BQ sr2 hD hk)).1.trans hD
  have hL3:=keepB _ _ hL2 rfl
  have hD3:=keepB _ _ hD2 rfl
  have hlt3:w.heap.size+1 < W3.heap.size:=(fA.1 hL3).1
  have hsz:a3.tmps.size=a.tmps.size:=(hkb.size.trans hka.size).trans p2
  have stE:∀(V0:V),(∀u,VR Z3 W3 j3 V0 u)->St Z3 W3 j3 ((fB t.env ws).set g V0) a:=by
   intro V0 hV0
   refine St.setJunk ⟨by rw [FD,<-d1.len,hsz],fun i v hi=>?_⟩ g V0 hV0
   rcases V8 ws t.env i v hi with rfl | ⟨hni,hi⟩
   ·have aD:i < a.tmps.size:=by
     have:=(bn.1 hi).1
     rw [FD,<-d1.len,hsz] at this
     exact this
    exact ⟨_,fq aD,.junk⟩
   ·obtain ⟨z,hz,hvz⟩:=d1.val i v hi
    refine ⟨z,?_,hvz⟩
    rw [<-hz]
    exact (((hkb.tmps i fun h=>hni (hws i (.inr (.inr h)))).trans (hka.tmps i fun h=>hni (hws i (.inr (.inl h))))).trans (p3 i fun h=>hni (hws i (.inl h)))).symm
  have zAll:bh Z1 w Z3 W3:=((q5.trans c3.z).trans b3.z).trans (hz2.trans d3.z)
  have stAll:aJ Z w j s.mem Z3 W3 j3 t.mem:=st2.trans d3
  have jAll:JK n0 j j3:=((q4.trans c4).trans b4).trans d4
  have fin:∀(jump:Option Code),(Instr.endRound (w.heap.size+1) jump).run cfg.P W3 = .ok (.bool jump.isNone) (W3.putObj (w.heap.size+1) (.loop (rec (if jump.isNone then .ready else .done) jump))) /\
    (W3.putObj (w.heap.size+1) (.loop (rec (if jump.isNone then .ready else .done) jump))).heap[w.heap.size+1]? = some (.loop (rec (if jump.isNone then .ready else .done) jump)) /\
    (W3.putObj (w.heap.size+1) (.loop (rec (if jump.isNone then .ready else .done) jump))).heap[w.heap.size]? = some (.deferred (some [])) /\
    bh Z3 W3 Z3 (W3.putObj (w.heap.size+1) (.loop (rec (if jump.isNone then .ready else .done) jump))):=by
   intro jump
   have:=run_endRound (P:=cfg.P) jump hL3
   refine ⟨by rw [hrec] at this |-;exact this,World.putObj_heap_same hlt3,(World.putObj_heap_other (by omega)).trans hD3,sG hL3 rfl rfl⟩
  cases y2 with
  | norm =>
   obtain ⟨f1,f2,f3,f4⟩:=fin none
   refine ⟨_,_,f1,.inl ⟨rfl,Z3,j3,⟨(fB t.env ws).set g (.rest ts ((l.drop (k+1)).map .tup)),t.mem⟩,mm,d2.book hL3 rfl rfl,(stE _ fun _=>.rest).mono f4 (aX.refl _),stAll.book (by omega) hL3 rfl rfl,jAll,zAll.trans f4,?_,q7,f2,f3⟩⟩
   have hlen:g < ((fB t.env ws).set g (.rest ts ((l.drop (k+1)).map .tup))).length:=by
    rw [jY,FD,<-d1.len,hsz]
    exact (fA.1 hu0).1
   rw [jY] at hlen
   exact fJ hlen
  | exit i =>
   have q7':some (Ex.exit i,(⟨(fB t.env ws).set g (.rest ts ((l.drop (k+1)).map .tup)),t.mem⟩:S))=some (y0,s20):=q7
   clear q7
   cases q7'
   obtain ⟨f1,f2,f3,f4⟩:=fin (some (.exit i))
   exact ⟨_,_,f1,.inr ⟨rfl,Z3,j3,_,d2.book hL3 rfl rfl,(stE _ fun _=>.rest).mono f4 (aX.refl _),stAll.book (by omega) hL3 rfl rfl,jAll,.inr ⟨i,rfl,fun e=>hex (e ▸ LS _ _ _ _ heb),rfl⟩,f2,f3⟩⟩
  | ret =>
   have q7':some (Ex.ret,(⟨(fB t.env ws).set g (.rest ts ((l.drop (k+1)).map .tup)),t.mem⟩:S))=some (y0,s20):=q7
   clear q7
   cases q7'
   obtain ⟨f1,f2,f3,f4⟩:=fin (some .ret)
   exact ⟨_,_,f1,.inr ⟨rfl,Z3,j3,_,d2.book hL3 rfl rfl,(stE _ fun _=>.rest).mono f4 (aX.refl _),stAll.book (by omega) hL3 rfl rfl,jAll,.inl ⟨rfl,rfl⟩,f2,f3⟩⟩
end
section
variable {P:Program} {Z Z':Zs} {w w':World} {j j':J} {mem mem':List O}
theorem yE {pr:Nat->Bool}:∀(c:Code) (p:C),cT pr c=some p->bM p=p:=by
 intro c
 induction c with
 | skip=>intro p h;simp [cT] at h;subst h;rfl
 | region id ops draw =>
  intro p h
  simp only [cT,obi] at h
  obtain ⟨l,_,h⟩:=h
  cases draw
  ·simp only [cM,if_false] at h
   cases h
   rfl
  ·simp only [if_true,omi] at h
   obtain ⟨_,_,rfl⟩:=h
   rfl
 | seq a b iha ihb =>
  intro p h
  simp only [cT,obi,omi] at h
  obtain ⟨x,h1,y,h2,rfl⟩:=h
  simp only [bM,iha _ h1,ihb _ h2]
 | cond c a b iha ihb =>
  intro p h
  simp only [cT,obi,omi] at h
  obtain ⟨x,h1,y,h2,rfl⟩:=h
  simp only [bM,iha _ h1,ihb _ h2]
 | block i a iha =>
  intro p h
  simp only [cT,omi] at h
  obtain ⟨x,h1,rfl⟩:=h
  simp only [bM,iha _ h1]
 | loop a iha =>
  intro p h
  simp only [cT,omi] at h
  obtain ⟨x,h1,rfl⟩:=h
  simp only [bM,iha _ h1]
 | exit i=>intro p h;simp [cT] at h;subst h;rfl
 | ret=>intro p h;simp [cT] at h;subst h;rfl
 | rangeFunc g ps a c iha ihc =>
  intro p h
  cases g<;>first | (simp [cT] at h;done) | skip
  simp only [cT,obi] at h
  obtain ⟨x,h1,y,h2,h⟩:=h
  unfold Cd at h
  split at h
  ·cases h
   simp only [bM]
  ·cases h
 | _=>intro p h;simp [cT] at h
theorem P6 {pr:Nat->Bool} {nt:Nat} {res:List Nat} (c:C) (env:List (Nat × List Nat)) (out:List Nat):gt (gX pr nt res env c out)=gt c:=by
 cases c with
 | seq a b =>
  simp only [gX]
  cases (Ej pr b && !gt a)<;>rfl
 | _=>rfl
theorem GL {pr:Nat->Bool} {c:Code} {g:Nat} {ps ws:List Nat} {a b:C}:cT pr c≠some (.uncons g ps ws a b):=by
 intro h
 cases c with
 | skip=>cases h
 | region i ops dr =>
  simp only [cT,obi] at h
  obtain ⟨l,_,h⟩:=h
  split at h
  all_goals simp_all
 | seq p q =>
  simp only [cT,obi,omi] at h
  grind
 | cond c p q =>
  simp only [cT,obi,omi] at h
  grind
 | block i p =>
  simp only [cT,omi] at h
  grind
 | loop p =>
  simp only [cT,omi] at h
  grind
 | exit i=>cases h
 | ret=>cases h
 | rangeFunc g ps sE body =>
  cases g<;>first | (cases h;done) | skip
  simp only [cT,obi] at h
  obtain ⟨_,_,_,_,h⟩:=h
  unfold Cd at h
  all_goals grind
 | _=>cases h
theorem abd {pr:Nat->Bool} {nt:Nat} {res:List Nat}:∀(c:C) (env:List (Nat × List Nat)) (out:List Nat),bM (gX pr nt res env c out)=bM c:=by
 intro c
 induction c with
 | seq a b iha ihb =>
  intro env out
  simp only [gX]
  cases h:(Ej pr b && !gt a) with
  | false=>simp only [cond_false,bM,iha,ihb]
  | true =>
   have h2:gt a=false:=by
    grind
   simp only [cond_true,bM,P6,h2,cond_false,iha,ihb]
 | cseq f a b iha ihb=>intro env out;simp only [gX,bM,P6,iha,ihb]
 | cond c a b iha ihb=>intro env out;simp only [gX,bM,iha,ihb]
 | block i a iha=>intro env out;simp only [gX,bM,iha]
 | loop f a iha=>intro env out;simp only [gX,bM,iha]
 | _=>intro env out;rfl
theorem A5 {pr:Nat->Bool} {cfg:bl} {call:cv} (hm:cfg.P.follows .mixedOrders=true) (hp:gN cfg.P call.pc) (hi:gk cfg.P call.ic) (hsq:p9 cfg.P cfg.seqp) {n n0:Nat} :
  ∀(c:Code) (ro:Option Nat) (cc:C) (s:S) (x:Ex) (s':S),cT pr c=some (bM cc)->(ro≠none->fZ cc=false)->exec cfg call n n0 cc s=some (x,s')->∀(a:Act) (w:World) (Z:Zs) (j:J),St Z w j s.env a->SR cfg.P Z w j s.mem ->
   ∀(Q:Exit->Act->World->Prop),(∀a' w',jW cfg.P n0 Z w j s.mem s' a' w'->eJ (c8 cc) w a a' w'->Q x.toExit a' w')->∀(m:Nat),c.wpIn (FR ro) m cfg.P Q a w:=by
 intro c
 induction c with
 | skip =>
  intro ro cc s x s' hc hns h a w Z j st sr Q hQ m
  cases cc<;>simp [cT,bM] at hc
  simp [exec] at h
  obtain ⟨rfl,rfl⟩:=h
  exact wpIn_skip (hQ a w ⟨Z,j,st,sr,aJ.refl _ _ _ _,JK.refl _ _⟩ (eJ.refl _ _ _ _))
 | region id ops draw =>
  intro ro cc s x s' hc hns h a w Z j st sr Q hQ m
  simp only [cT] at hc
  cases hl:bA (yD ops) ops.toList with
  | none=>grind
  | some l =>
   simp only [hl,aL] at hc
   have hpl:=Zv hl
   split at hc
   ·rename_i hdr
    simp only [omi] at hc
    obtain ⟨l',ht,hc⟩:=hc
    obtain ⟨hpd,hd⟩:=acz hpl _ ht
    cases cc<;>simp [bM] at hc
    obtain ⟨rfl,rfl⟩:=hc
    simp only [exec,obi] at h
    obtain ⟨s1,h1,h2⟩:=h
    split at h2
    rotate_left
    ·grind
    rename_i hchk
    cases h2
    simp only [bv,gL] at hchk
    rw [hdr]
    exact TE hm hp hi hd hpd hchk h1 st sr fun a' w' ⟨Z1,j1,q1,q2,q3,q4⟩ hk=>hQ a' w' ⟨Z1,j1,q1,q2,q3,JK.of q4⟩ (eJ.of hk w w')
   ·rename_i hdr
    cases cc<;>simp [bM] at hc
    obtain ⟨rfl,rfl⟩:=hc
    simp only [exec,obi] at h
    obtain ⟨s1,h1,h2⟩:=h
    simp only [gi,mc,if_true,Option.some.injEq,Prod.mk.injEq] at h2
    obtain ⟨rfl,rfl⟩:=h2
    have hdr:draw=false:=by grind
    rw [hdr]
    exact Z4 hp hi (Zr pr hpl) h1 st sr fun a' w' ⟨Z1,j1,q1,q2,q3,q4⟩ hk=>hQ a' w' ⟨Z1,j1,q1,q2,q3,JK.of q4⟩ (eJ.of hk w w')
 | seq p q ihp ihq =>
  intro ro cc s x s' hc hns h a w Z j st sr Q hQ m
  simp only [cT] at hc
  cases hcp:cT pr p with
  | none=>grind
  | some cp =>
   cases hcq:cT pr q with
   | none=>grind
   | some cq =>
    cases cc<;>simp [hcp,hcq,bM] at hc
    rotate_left
    ·rename_i fl ca cb
     obtain ⟨hc1,rfl⟩:=hc
     have hst0:gt ca=false:=by
      cases hh:gt ca with
      | false=>rfl
      | true=>rw [hh] at hc1;exact absurd (hcp.trans (congrArg some hc1)) GL
     rw [hst0] at hc1
     have hcp:cT pr p=some (bM ca):=by grind
     simp only [exec] at h
     cases h1:exec cfg call n n0 ca s with
     | none=>grind
     | some r =>
      obtain ⟨x1,s1⟩:=r
      simp only [h1,aL] at h
      have hns':ro≠none->fZ ca=false/\fZ cb=false:=fun e=>by have:=hns e;simpa [fZ] using this
      refine wpIn_seq (ihp ro ca s x1 s1 hcp (fun e=>(hns' e).1) h1 a w Z j st sr _ (fun a1 w1 haf hk=>?_) m)
      cases x1 with
      | norm =>
       obtain ⟨Z1,j1,q1,q2,q3,q4⟩:=haf
       obtain ⟨j2,t1,t2,t3,t4⟩:=kZ n0 fl q1 q2
       refine ihq ro cb (cU n0 fl s1) x s' hcq (fun e=>(hns' e).2) h a1 w1 Z1 j2 t1 t2 Q (fun a' w' h' hk'=>?_) m
       obtain ⟨Z2,j3,r1,r2,r3,r4⟩:=h'
       exact hQ a' w' ⟨Z2,j3,r1,r2,(q3.trans t3).trans r3,(q4.trans t4).trans r4⟩ (hk.trans q2 (t3.trans r3) q3.size hk')
      | exit i=>cases h;exact hQ a1 w1 haf (hk.weak fun i hi=>br.2 (.inl hi))
      | ret=>cases h;exact hQ a1 w1 haf (hk.weak fun i hi=>br.2 (.inl hi))
    rename_i ca cb
    obtain ⟨rfl,rfl⟩:=hc
    simp only [exec] at h
    cases h1:exec cfg call n n0 ca s with
    | none=>grind
    | some r =>
     obtain ⟨x1,s1⟩:=r
     simp only [h1,aL] at h
     have hns':ro≠none->fZ ca=false/\fZ cb=false:=fun e=>by have:=hns e;simpa [fZ] using this
     refine wpIn_seq (ihp ro ca s x1 s1 hcp (fun e=>(hns' e).1) h1 a w Z j st sr _ (fun a1 w1 haf hk=>?_) m)
     cases x1 with
     | norm =>
      obtain ⟨Z1,j1,q1,q2,q3,q4⟩:=haf
      refine ihq ro cb s1 x s' hcq (fun e=>(hns' e).2) h a1 w1 Z1 j1 q1 q2 Q (fun a' w' h' hk'=>?_) m
      obtain ⟨Z2,j2,r1,r2,r3,r4⟩:=h'
      exact hQ a' w' ⟨Z2,j2,r1,r2,q3.trans r3,q4.trans r4⟩ (hk.trans q2 r3 q3.size hk')
     | exit i=>cases h;exact hQ a1 w1 haf (hk.weak fun i hi=>br.2 (.inl hi))
     | ret=>cases h;exact hQ a1 w1 haf (hk.weak fun i hi=>br.2 (.inl hi))
 | cond cnd p q ihp ihq =>
  intro ro cc s x s' hc hns h a w Z j st sr Q hQ m
  simp only [cT] at hc
  cases hcp:cT pr p with
  | none=>grind
  | some cp =>
   cases hcq:cT pr q with
   | none=>grind
   | some cq =>
    cases cc<;>simp [hcp,hcq,bM] at hc
    rename_i c0 ca cb
    obtain ⟨rfl,rfl,rfl⟩:=hc
    simp only [exec] at h
    cases h1:aP s.env cnd with
    | none=>grind
    | some v =>
     have hv:=st.eval cnd v h1
     cases v<;>simp only [h1,aL] at h<;>first | (cases h;done) | skip
     rename_i t
     cases hu:a.eval cnd<;>rw [hu] at hv<;>cases hv
     have hns':ro≠none->fZ ca=false/\fZ cb=false:=fun e=>by have:=hns e;simpa [fZ] using this
     cases t
     ·exact wpIn_cond hu (ihq ro cb s x s' hcq (fun e=>(hns' e).2) (by grind) a w Z j st sr Q (fun a' w' h1 h2=>hQ a' w' h1 (h2.weak fun i hi=>br.2 (.inr hi))) m)
     ·exact wpIn_cond hu (ihp ro ca s x s' hcp (fun e=>(hns' e).1) (by grind) a w Z j st sr Q (fun a' w' h1 h2=>hQ a' w' h1 (h2.weak fun i hi=>br.2 (.inl hi))) m)
 | block id p ihp =>
  intro ro cc s x s' hc hns h a w Z j st sr Q hQ m
  simp only [cT,omi] at hc
  obtain ⟨cp0,hcp,hb⟩:=hc
  cases cc<;>simp [bM] at hb
  rename_i id2 cp
  obtain ⟨rfl,rfl⟩:=hb
  simp only [exec,omi] at h
  obtain ⟨⟨x1,s1⟩,h1,h2⟩:=h
  refine wpIn_block (ihp ro cp s x1 s1 hcp hns h1 a w Z j st sr _ (fun a1 w1 haf hk=>?_) m)
  cases x1 with
  | norm=>cases h2;exact hQ a1 w1 haf hk
  | ret=>cases h2;exact hQ a1 w1 haf hk
  | exit i =>
   simp only at h2
   show (if i=id then Q .normal a1 w1 else Q (.exit i) a1 w1)
   split at h2
   ·rename_i e;cases h2;rw [if_pos e];exact hQ a1 w1 haf hk
   ·rename_i e;cases h2;rw [if_neg e];exact hQ a1 w1 haf hk
 | loop p ihp =>
  intro ro cc s x s' hc hns h a w Z j st sr Q hQ m
  simp only [cT,omi] at hc
  obtain ⟨cp0,hcp,hb⟩:=hc
  cases cc<;>simp [bM] at hb
  rename_i fl cp
  subst hb
  simp only [exec,omi] at h
  obtain ⟨⟨x1,s1⟩,h1,h2⟩:=h
  cases h2
  refine wpIn_loop_rounds n ?_
  have key:∀(k:Nat) (s:S) (x1:Ex) (s1:S),dF (fun s=>exec cfg call n n0 cp (cU n0 fl s)) k s=some (x1,s1)->∀(a:Act) (w:World) (Z:Zs) (j:J),St Z w j s.env a->SR cfg.P Z w j s.mem ->
    (∀a' w',jW cfg.P n0 Z w j s.mem (cU n0 fl s1) a' w'->eJ (c8 cp) w a a' w'->Q x1.toExit a' w')->Code.roundsIn (FR ro) m cfg.P p Q k a w:=by
   intro k
   induction k with
   | zero=>intro s x1 s1 h;simp [dF] at h
   | succ k ihk =>
    intro s x1 s1 h a w Z j st sr hQ
    simp only [dF] at h
    obtain ⟨j0',t1,t2,t3,t4⟩:=kZ n0 fl st sr
    cases hs:exec cfg call n n0 cp (cU n0 fl s) with
    | none=>grind
    | some r =>
     obtain ⟨x2,s2⟩:=r
     simp only [hs,aL] at h
     rw [roundsIn_succ]
     refine ihp ro cp _ x2 s2 hcp hns hs a w Z j0' t1 t2 _ (fun a2 w2 haf hk=>?_) m
     have fin:some (x2,s2)=some (x1,s1)->Q x1.toExit a2 w2:=by
      intro h
      cases h
      obtain ⟨Z1,j1,q1,q2,q3,q4⟩:=haf
      obtain ⟨j2,r1,r2,r3,r4⟩:=kZ n0 fl q1 q2
      exact hQ a2 w2 ⟨Z1,j2,r1,r2,(t3.trans q3).trans r3,(t4.trans q4).trans r4⟩ hk
     cases x2 with
     | norm =>
      obtain ⟨Z1,j1,q1,q2,q3,q4⟩:=haf
      refine ihk s2 x1 s1 h a2 w2 Z1 j1 q1 q2 fun a' w' h' hk'=>?_
      obtain ⟨Z2,j2,r1,r2,r3,r4⟩:=h'
      exact hQ a' w' ⟨Z2,j2,r1,r2,(t3.trans q3).trans r3,(t4.trans q4).trans r4⟩ ((hk.trans q2 r3 q3.size hk').weak fun i hi=>(br.1 hi).elim id id)
     | exit i=>have:=fin h;cases h;exact this
     | ret=>have:=fin h;cases h;exact this
  exact key n s _ s1 h1 a w Z j st sr hQ
 | rangeFunc g ps sE body iha ihb =>
  intro ro cc s x s' hc hns h a w Z j st sr Q hQ m
  cases g<;>first | (simp [cT] at hc;done) | skip
  rename_i g
  simp only [cT,obi] at hc
  obtain ⟨pa,hpa,pc,hpc,hc⟩:=hc
  unfold Cd at hc
  split at hc
  rotate_left
  ·grind
  rename_i hcond
  simp only [bD,i7] at hcond
  obtain ⟨⟨⟨hst,hs1⟩,hs2⟩,hex⟩:=hcond
  have hc0:=Option.some.inj hc
  clear hc
  cases cc<;>simp [bM] at hc0
  rotate_left
  ·rename_i fl ca cb
   obtain ⟨hc1,_⟩:=hc0
   cases hh:gt ca with
   | true=>grind
   | false =>
    rw [hh] at hc1
    cases ca<;>simp [bM] at hc1
    cases hh
  rename_i c1 c2
  obtain ⟨hc1,hc2⟩:=hc0
  cases c1<;>simp [bM] at hc1
  subst hc1
  cases c2<;>simp [bM] at hc2
  rename_i bid c3
  obtain ⟨rfl,hc3⟩:=hc2
  cases c3<;>simp [bM] at hc3
  rename_i F c4
  cases c4<;>simp [bM] at hc3
  rename_i g' ps' ws c5 c6
  obtain ⟨rfl,rfl,rfl,hc5,hc6⟩:=hc3
  subst hc5 hc6
  have hro:ro=none:=by
   cases ro with
   | none=>rfl
   | some l=>have:=hns (by simp);simp [fZ] at this
  subst hro
  cases hsa:uu cfg g s with
  | none=>simp [exec,hsa] at h
  | some s1 =>
   have hx:exec cfg call n n0 (.block (pD g) (.loop F (.uncons g ps.toList (ps.toList++(c8 pa++c8 pc)) (.seq pa pc) (.exit (pD g))))) s1=some (x,s'):=by
    rw [exec] at h
    simp only [exec,hsa,cB,aL] at h |-
    exact h
   clear h
   rw [exec,exec] at hx
   simp only [omi] at hx
   obtain ⟨⟨y,s2⟩,⟨⟨y0,s20⟩,hit,hr⟩,h2⟩:=hx
   have hr1:y0=y:=congrArg Prod.fst hr
   have hr2:cU n0 F s20=s2:=congrArg Prod.snd hr
   subst hr1 hr2
   refine ZW (ca:=pa) (cb:=pc) hsq (fun i hi=>?_) hst ?_ (fun l s x s' h a w Z j st sr Q hQ=>iha (some l) pa s x s' (hpa.trans (congrArg some (yE _ _ hpa).symm)) (fun _=>hs1) h a w Z j st sr Q hQ 0) (fun l s x s' h a w Z j st sr Q hQ=>ihb (some l) pc s x s' (hpc.trans (congrArg some (yE _ _ hpc).symm)) (fun _=>hs2) h a w Z j st sr Q hQ 0) hsa hit st sr (fun a' w' haf hk=>?_) m
   ·grind
   ·intro hb
    have:(dJ (.seq pa pc)).contains (pD g)=true:=by
     simp only [dJ,List.contains_iff_mem,br]
     grind
    grind
   ·have hk':=hk.weak (ws':=c8 (.seq (.start g) (.block (pD g) (.loop F (.uncons g ps.toList (ps.toList++(c8 pa++c8 pc)) (.seq pa pc) (.exit (pD g))))))) (fun i hi=>by grind)
    cases y0 with
    | norm=>cases h2;exact hQ a' w' haf hk'
    | ret=>cases h2;exact hQ a' w' haf hk'
    | exit i =>
     simp only at h2
     show Q (yy (pD g) (.exit i)) a' w'
     simp only [yy]
     split at h2
     ·rename_i e;cases h2;rw [if_pos e];exact hQ a' w' haf hk'
     ·rename_i e;cases h2;rw [if_neg e];exact hQ a' w' haf hk'
 | exit i =>
  intro ro cc s x s' hc hns h a w Z j st sr Q hQ m
  cases cc<;>simp [cT,bM] at hc
  subst hc
  simp [exec] at h
  obtain ⟨rfl,rfl⟩:=h
  exact wpIn_exit (hQ a w ⟨Z,j,st,sr,aJ.refl _ _ _ _,JK.refl _ _⟩ (eJ.refl _ _ _ _))
 | ret =>
  intro ro cc s x s' hc hns h a w Z j st sr Q hQ m
  cases cc<;>simp [cT,bM] at hc
  simp [exec] at h
  obtain ⟨rfl,rfl⟩:=h
  exact wpIn_ret (hQ a w ⟨Z,j,st,sr,aJ.refl _ _ _ _,JK.refl _ _⟩ (eJ.refl _ _ _ _))
 | _=>intro ro cc s x s' hc;simp [cT] at hc
def iK:Ex->Exit
 | .norm=>.normal
 | .exit i=>if i < 3000000 then .exit i else .goto ((i - 3000000) / 2)
 | .ret=>.ret
def vS (l:Nat):Ex->Exit
 | .exit i=>if i=mq l then .normal else iK (.exit i)
 | y=>iK y
theorem QI {x:Ex} (h:∀i,x = .exit i->i < 3000000):iK x=x.toExit:=by
 cases x with
 | exit i=>simp only [iK,if_pos (h i rfl)];rfl
 | _=>rfl
theorem QH (l:Nat):iK (.exit (lh l)) = .goto l:=by
 have h1:¬(3000000+2 * l < 3000000):=by omega
 have h2:(3000000+2 * l - 3000000) / 2=l:=by omega
 simp only [iK,lh,if_neg h1,h2]
theorem Fo {cfg:bl} {call:cv} {n n0:Nat}:∀(c:C) (s:S) (i:Nat) (s':S),exec cfg call n n0 c s=some (.exit i,s')->i∈dj c:=by
 intro c
 induction c with
 | skip=>intro s i s' h;simp [exec] at h
 | ops dr l =>
  intro s i s' h
  simp only [exec,obi] at h
  grind
 | seq a b iha ihb =>
  intro s i s' h
  simp only [exec,obi] at h
  obtain ⟨⟨x,s1⟩,h1,h⟩:=h
  simp only [dj,br]
  grind
 | cseq f a b iha ihb =>
  intro s i s' h
  simp only [exec,obi] at h
  obtain ⟨⟨x,s1⟩,h1,h⟩:=h
  simp only [dj,br]
  grind
 | cond c a b iha ihb =>
  intro s i s' h
  simp only [exec,obi] at h
  obtain ⟨v,_,h⟩:=h
  simp only [dj,br]
  grind
 | block id c ih =>
  intro s i s' h
  simp only [exec,omi] at h
  obtain ⟨⟨x,s1⟩,h1,h⟩:=h
  cases x with
  | norm=>cases h
  | ret=>cases h
  | exit e =>
   simp only at h
   split at h
   ·cases h
   ·rename_i hne
    cases h
    simp only [dj,m9]
    grind
 | loop f c ih =>
  intro s i s' h
  simp only [exec,omi] at h
  obtain ⟨⟨x,s1⟩,h1,h⟩:=h
  simp only [dj]
  have key:∀(k:Nat) (s:S) (r:Ex × S),dF (fun s=>exec cfg call n n0 c (cU n0 f s)) k s=some r->∀i,r.1 = .exit i->i∈dj c:=by
   intro k
   induction k with
   | zero=>intro s r h;simp [dF] at h
   | succ k ihk =>
    intro s r h i hi
    simp only [dF,obi] at h
    grind
  grind
 | exit j=>intro s i s' h;simp [exec] at h;simp [dj,h.1]
 | ret=>intro s i s' h;simp [exec] at h
 | start g=>intro s i s' h;simp [exec] at h
 | uncons g ps ws a b iha ihb =>
  intro s i s' h
  simp only [dj,br]
  simp only [exec] at h
  split at h
  ·grind
  ·split at h
   ·simp only [omi] at h
    grind
   grind
  grind
theorem FG:∀(c:C),dj (bM c)=dj c:=by
 intro c
 induction c with
 | seq a b iha ihb=>simp only [bM,dj,iha,ihb]
 | cond c a b iha ihb=>simp only [bM,dj,iha,ihb]
 | block i a iha=>simp only [bM,dj,iha]
 | loop f a iha=>simp only [bM,dj,iha]
 | cseq f a b iha ihb =>
  simp only [bM,dj,ihb]
  cases ha:gt a with
  | false=>grind
  | true =>
   cases a<;>simp [gt] at ha
   simp only [cond_true,dj,dH]
 | _=>rfl
theorem VQ:∀(c:C) (i:Nat),i∈dJ c->i∈dJ (bM c):=by
 intro c
 induction c with
 | seq a b iha ihb=>intro i h;simp only [bM,dJ,br] at h |-;grind
 | cond c a b iha ihb=>intro i h;simp only [bM,dJ,br] at h |-;grind
 | block i a iha=>intro i h;simp only [bM,dJ] at h |-;grind
 | loop f a iha=>intro i h;simp only [bM,dJ] at h |-;grind
 | cseq f a b iha ihb =>
  intro i h
  simp only [bM,dJ,br] at h |-
  rcases h with h | h
  ·cases ha:gt a with
   | false=>grind
   | true=>cases a<;>simp [gt] at ha;simp [dJ] at h
  grind
 | _=>intro i h;exact h
def pO (F:Fence) (n:Nat) (P:Program) (c0 d:Code) (Q:Exit->Act->World->Prop) (a:Act) (w:World):Prop :=
 ∀(b:Frame) (k:List Item) (cs:List Frame),b.roundOf=F.round->F.fn b.fn->F.room (cs.length+1+n) ->
  ∃e a' w',Q e a' w'/\ArrivesIn (Machine.fenced P F) P (lone (b.atR a (.code d::.inScope c0::k)) cs w) b (.inScope c0::k) cs e a' w'
section
variable {F:Fence} {m:Nat} {P:Program} {c0:Code} {Q:Exit->Act->World->Prop} {a:Act} {w:World}
theorem acS {d:Code} (h:d.wpIn F m P Q a w):pO F m P c0 d Q a w:=fun b k cs hro hb hr=>h b (.inScope c0::k) cs hro hb hr
theorem C6 {x y:Code} (h:x.wpIn F m P (Exit.then (pO F m P c0 y Q) Q) a w):pO F m P c0 (.seq x y) Q a w:=by
 intro b k cs hro hb hr
 have h0:(lone (b.atR a (.code (.seq x y)::.inScope c0::k)) cs w).fenced P F:=fenced_calm hb hr rfl
 obtain ⟨e,a₁,w₁,hq,harr⟩:=h b (.code y::.inScope c0::k) cs hro hb hr
 cases e with
 | normal =>
  obtain ⟨e₂,a₂,w₂,hq₂,harr₂⟩:=hq b k cs hro hb hr
  exact ⟨e₂,a₂,w₂,hq₂,.of_steps (.head h0 stepR_seq harr) harr₂⟩
 | exit id=>exact ⟨_,a₁,w₁,hq,.of_steps (.one h0 stepR_seq) (.pass (x:=.code y) rfl (fun _ _=>.inl (by simp)) harr)⟩
 | goto l=>exact ⟨_,a₁,w₁,hq,.of_steps (.one h0 stepR_seq) (.pass (x:=.code y) rfl (fun _ _=>.inl (by simp)) harr)⟩
 | ret=>exact ⟨_,a₁,w₁,hq,.of_steps (.one h0 stepR_seq) (.pass (x:=.code y) rfl (fun _ _=>.inl (by simp)) harr)⟩
 | panic ch=>exact ⟨_,a₁,w₁,hq,.of_steps (.one h0 stepR_seq) (.pass (x:=.code y) rfl (fun _ _=>.inl (by simp)) harr)⟩
 | outgrown=>exact ⟨_,a₁,w₁,hq,.of_steps (.one h0 stepR_seq) (.pass (x:=.code y) rfl (fun _ _=>.inl (by simp)) harr)⟩
theorem acR {d rest:Code} {l:Nat} (hf:findLabel c0 l=some rest)
  (h:pO F m P c0 d (fun e a1 w1=>match e with | .goto l'=>if l'=l then pO F m P c0 rest Q a1 w1 else Q (.goto l') a1 w1 | e=>Q e a1 w1) a w):pO F m P c0 d Q a w:=by
 intro b k cs hro hb hr
 obtain ⟨e,a₁,w₁,hq,harr⟩:=h b k cs hro hb hr
 cases e with
 | goto l' =>
  simp only at hq
  split at hq
  ·rename_i e
   subst e
   obtain ⟨e₂,a₂,w₂,hq₂,harr₂⟩:=hq b k cs hro hb hr
   have hg:gotoIn l' (.inScope c0::k)=some (.code rest::.inScope c0::k):=by simp [gotoIn,hf]
   exact ⟨e₂,a₂,w₂,hq₂,.of_steps (harr.1 _ hg) harr₂⟩
  grind
 | normal=>grind
 | exit id=>grind
 | ret=>grind
 | panic ch=>grind
 | outgrown=>grind
theorem wH {b:Frame} {k:List Item} {cs:List Frame}:step P (lone (b.atR a (.code (.scope c0)::k)) cs w) = .next (lone (b.atR a (.code c0::.inScope c0::k)) cs w) :=
 step_lone_go (by simp [stepG,stepG.exec,Frame.atR])
theorem abS {b:Frame} {k:List Item} {cs:List Frame}:step P (lone (b.atR a (.inScope c0::k)) cs w) = .next (lone (b.atR a k) cs w) :=
 step_lone_go (by simp [stepG,stepG.exec,Frame.atR])
theorem acQ (h:pO F m P c0 c0 (fun e a1 w1=>(∀l,e≠.goto l)/\Q e a1 w1) a w):(Code.scope c0).wpIn F m P Q a w:=by
 intro b k cs hro hb hr
 have h0:(lone (b.atR a (.code (.scope c0)::k)) cs w).fenced P F:=fenced_calm hb hr rfl
 obtain ⟨e,a₁,w₁,⟨hng,hq⟩,harr⟩:=h b k cs hro hb hr
 cases e with
 | normal=>exact ⟨.normal,a₁,w₁,hq,.head h0 wH (StepsIn.trans harr (.one (fenced_calm hb hr rfl) abS))⟩
 | exit id =>
  have hx:exitTo id (.inScope c0::k)=exitTo id k:=by simp [exitTo]
  exact ⟨.exit id,a₁,w₁,hq,fun k' hk=>.head h0 wH (harr.1 k' (by grind)),
   fun hr' hk=>let ⟨k₁,h1,h2⟩:=harr.2 hr' (by grind);⟨k₁,h1,.head h0 wH h2⟩⟩
 | goto l=>grind
 | ret=>exact ⟨_,a₁,w₁,hq,.of_steps (.one h0 wH) harr⟩
 | panic ch=>exact ⟨_,a₁,w₁,hq,.of_steps (.one h0 wH) harr⟩
 | outgrown=>exact ⟨_,a₁,w₁,hq,.of_steps (.one h0 wH) harr⟩
end
theorem LY {l:Nat}:∀{c:Code},l∉eW c->findLabel c l=none:=by
 intro c
 induction c with
 | seq a b iha ihb =>
  intro h
  simp only [eW,br,not_or] at h
  simp only [findLabel,iha h.1,ihb h.2]
 | label l' =>
  intro h
  simp only [eW,eV] at h
  simp only [findLabel]
  all_goals grind
 | _=>intro _;rfl
theorem Zp {pr:Nat->Bool}:∀(c:Code) (p:C),dz pr c=some p->bM p=p:=by
 intro c
 have leaf:∀c p,((cT pr c).bind fun cc=>if (dJ cc).all fun i=>ig i 3000000 then some cc else none)=some p->bM p=p:=by
  intro c p h
  simp only [obi] at h
  obtain ⟨cc,h1,h2⟩:=h
  split at h2
  ·cases h2;exact yE _ _ h1
  ·cases h2
 induction c with
 | seq a b iha ihb =>
  intro p h
  simp only [dz] at h
  split at h
  ·simp only [omi] at h
   obtain ⟨cb,h1,rfl⟩:=h
   simp only [bM,ihb _ h1]
  ·split at h
   ·simp only [obi,omi] at h
    obtain ⟨ca,h1,cb,h2,rfl⟩:=h
    simp only [bM,iha _ h1,ihb _ h2]
   ·cases h
 | cond c a b iha ihb =>
  intro p h
  simp only [dz] at h
  split at h
  ·simp only [obi,omi] at h
   obtain ⟨ca,h1,cb,h2,rfl⟩:=h
   simp only [bM,iha _ h1,ihb _ h2]
  ·cases h
 | goto l=>intro p h;simp only [dz,Option.some.injEq] at h;subst h;rfl
 | block id a ih =>
  intro p h
  simp only [dz] at h
  split at h
  ·obtain ⟨cp,h1,rfl⟩:=omi.1 h
   simp only [bM,ih _ h1]
  ·cases h
 | _=>intro p h;simp only [dz] at h;exact leaf _ _ h
theorem GK {pr:Nat->Bool} {c:Code} {g:Nat} {ps ws:List Nat} {a b:C}:dz pr c≠some (.uncons g ps ws a b):=by
 intro h
 cases c with
 | seq x y =>
  simp only [dz] at h
  split at h
  ·simp only [omi] at h
   obtain ⟨cb,_,h⟩:=h
   cases h
  ·split at h
   ·simp only [obi,omi] at h
    obtain ⟨ca,_,cb,_,h⟩:=h
    cases h
   ·cases h
 | cond t x y =>
  simp only [dz] at h
  split at h
  ·simp only [obi,omi] at h
   obtain ⟨ca,_,cb,_,h⟩:=h
   cases h
  ·cases h
 | goto l=>simp only [dz,Option.some.injEq] at h;cases h
 | block id a =>
  simp only [dz] at h
  split at h
  ·obtain ⟨_,_,h⟩:=omi.1 h
   cases h
  ·cases h
 | _ =>
  simp only [dz,obi] at h
  obtain ⟨cc,h1,h2⟩:=h
  split at h2
  ·cases h2;exact GL h1
  ·cases h2
theorem Wj:∀(c:C) (i:Nat),i∈dj c->i∈dJ c:=by
 intro c
 induction c with
 | seq a b iha ihb=>intro i h;simp only [dJ,dj,br] at h |-;grind
 | cond c a b iha ihb=>intro i h;simp only [dJ,dj,br] at h |-;grind
 | block k a iha=>intro i h;simp only [dJ,dj,m9] at h |-;grind
 | loop f a iha=>intro i h;simp only [dJ,dj] at h |-;grind
 | cseq f a b iha ihb=>intro i h;simp only [dJ,dj,br] at h |-;grind
 | uncons g ps ws a b iha ihb=>intro i h;simp only [dJ,dj,br] at h |-;grind
 | _=>intro i h;exact h
theorem On {pr:Nat->Bool}:∀(c:Code) (p:C),dz pr c=some p->∀i∈dj p,i < 3000000∨∃l,i=lh l:=by
 intro c
 have leaf:∀c p,((cT pr c).bind fun cc=>if (dJ cc).all fun i=>ig i 3000000 then some cc else none)=some p->∀i∈dj p,i < 3000000∨∃l,i=lh l:=by
  intro c p h i hi
  simp only [obi] at h
  obtain ⟨cc,h1,h2⟩:=h
  split at h2
  ·rename_i hall
   cases h2
   have:=dB.1 hall i (Wj _ _ hi)
   exact .inl (by simpa [nf] using this)
  ·cases h2
 induction c with
 | seq a b iha ihb =>
  intro p h i hi
  simp only [dz] at h
  split at h
  ·simp only [omi] at h
   obtain ⟨cb,h1,rfl⟩:=h
   simp only [dj,m9,br,eV] at hi
   obtain ⟨⟨hi | hi,_⟩,h3⟩:=hi
   ·exact ihb _ h1 i hi
   ·subst hi;simp at h3
  ·split at h
   ·simp only [obi,omi] at h
    obtain ⟨ca,h1,cb,h2,rfl⟩:=h
    simp only [dj,br] at hi
    exact hi.elim (iha _ h1 i) (ihb _ h2 i)
   ·cases h
 | cond c a b iha ihb =>
  intro p h i hi
  simp only [dz] at h
  split at h
  ·simp only [obi,omi] at h
   obtain ⟨ca,h1,cb,h2,rfl⟩:=h
   simp only [dj,br] at hi
   exact hi.elim (iha _ h1 i) (ihb _ h2 i)
  ·cases h
 | goto l =>
  intro p h i hi
  simp only [dz,Option.some.injEq] at h
  subst h
  simp only [dj,eV] at hi
  exact .inr ⟨l,hi⟩
 | block id a ih =>
  intro p h i hi
  simp only [dz] at h
  split at h
  ·obtain ⟨cp,h1,rfl⟩:=omi.1 h
   simp only [dj,m9] at hi
   exact ih _ h1 i hi.1
  ·cases h
 | _=>intro p h;simp only [dz] at h;exact leaf _ _ h
theorem GG {pr:Nat->Bool} {cfg:bl} {call:cv} (hm:cfg.P.follows .mixedOrders=true) (hp:gN cfg.P call.pc) (hi:gk cfg.P call.ic) (hsq:p9 cfg.P cfg.seqp) {n n0:Nat} :
  ∀(c:Code) (cc:C) (s:S) (x:Ex) (s':S),dz pr c=some (bM cc)->eW c=[]->exec cfg call n n0 cc s=some (x,s')->∀(a:Act) (w:World) (Z:Zs) (j:J),St Z w j s.env a->SR cfg.P Z w j s.mem ->
   ∀(Q:Exit->Act->World->Prop),(∀a' w',jW cfg.P n0 Z w j s.mem s' a' w'->eJ (c8 cc) w a a' w'->Q (iK x) a' w')->∀(m:Nat),c.wpIn (FR none) m cfg.P Q a w:=by
 intro c
 have leaf:∀(c:Code) (cc:C) (s:S) (x:Ex) (s':S),((cT pr c).bind fun cc=>if (dJ cc).all fun i=>ig i 3000000 then some cc else none)=some (bM cc)->exec cfg call n n0 cc s=some (x,s')->∀(a:Act) (w:World) (Z:Zs) (j:J),St Z w j s.env a->SR cfg.P Z w j s.mem ->
   ∀(Q:Exit->Act->World->Prop),(∀a' w',jW cfg.P n0 Z w j s.mem s' a' w'->eJ (c8 cc) w a a' w'->Q (iK x) a' w')->∀(m:Nat),c.wpIn (FR none) m cfg.P Q a w:=by
  intro c cc s x s' hc h a w Z j st sr Q hQ m
  simp only [obi] at hc
  obtain ⟨c1,h1,h2⟩:=hc
  split at h2
  rotate_left
  ·cases h2
  rename_i hall
  have e1:c1=bM cc:=Option.some.inj h2
  rw [e1] at h1 hall
  have hx:∀i,x = .exit i->i < 3000000:=fun i hi=>by
   subst hi
   have:=dB.1 hall i (VQ _ _ (LS _ _ _ _ h))
   simpa [nf] using this
  refine A5 hm hp hi hsq c none cc s x s' h1 (fun e=>(e rfl).elim) h a w Z j st sr Q (fun a' w' g1 g2=>?_) m
  rw [<-QI hx]
  exact hQ a' w' g1 g2
 induction c with
 | seq p q ihp ihq =>
  intro cc s x s' hc hsp h a w Z j st sr Q hQ m
  simp only [eW,pX] at hsp
  simp only [dz] at hc
  split at hc
  ·rename_i l hl
   cases p<;>simp [Bv] at hl
   simp [eW] at hsp
  rw [if_pos (by rw [hsp.1];rfl)] at hc
  simp only [obi,omi] at hc
  obtain ⟨cp,hcp,cq,hcq,hcc⟩:=hc
  cases cc<;>simp [bM] at hcc
  rotate_left
  ·rename_i fl ca cb
   obtain ⟨hc1,rfl⟩:=hcc
   have hst0:gt ca=false:=by
    cases hh:gt ca with
    | false=>rfl
    | true=>rw [hh] at hc1;exact absurd (hcp.trans (congrArg some hc1)) GK
   rw [hst0] at hc1
   have hcp:dz pr p=some (bM ca):=by rw [hcp,hc1];rfl
   simp only [exec] at h
   cases h1:exec cfg call n n0 ca s with
   | none=>simp [h1] at h
   | some r =>
    obtain ⟨x1,s1⟩:=r
    simp only [h1,aL] at h
    refine wpIn_seq (ihp ca s x1 s1 hcp hsp.1 h1 a w Z j st sr _ (fun a1 w1 haf hk=>?_) m)
    cases x1 with
    | norm =>
     obtain ⟨Z1,j1,q1,q2,q3,q4⟩:=haf
     obtain ⟨j2,t1,t2,t3,t4⟩:=kZ n0 fl q1 q2
     refine ihq cb (cU n0 fl s1) x s' hcq hsp.2 h a1 w1 Z1 j2 t1 t2 Q (fun a' w' h' hk'=>?_) m
     obtain ⟨Z2,j3,r1,r2,r3,r4⟩:=h'
     exact hQ a' w' ⟨Z2,j3,r1,r2,(q3.trans t3).trans r3,(q4.trans t4).trans r4⟩ (hk.trans q2 (t3.trans r3) q3.size hk')
    | exit i =>
     cases h
     have:=hQ a1 w1 haf (hk.weak fun i hi=>br.2 (.inl hi))
     simp only [iK] at this |-
     split at this<;>rename_i aD
     ·simp only [if_pos aD];exact this
     ·simp only [if_neg aD];exact this
    | ret=>cases h;exact hQ a1 w1 haf (hk.weak fun i hi=>br.2 (.inl hi))
  rename_i ca cb
  obtain ⟨rfl,rfl⟩:=hcc
  simp only [exec] at h
  cases h1:exec cfg call n n0 ca s with
  | none=>simp [h1] at h
  | some r =>
   obtain ⟨x1,s1⟩:=r
   simp only [h1,aL] at h
   refine wpIn_seq (ihp ca s x1 s1 hcp hsp.1 h1 a w Z j st sr _ (fun a1 w1 haf hk=>?_) m)
   cases x1 with
   | norm =>
    obtain ⟨Z1,j1,q1,q2,q3,q4⟩:=haf
    refine ihq cb s1 x s' hcq hsp.2 h a1 w1 Z1 j1 q1 q2 Q (fun a' w' h' hk'=>?_) m
    obtain ⟨Z2,j2,r1,r2,r3,r4⟩:=h'
    exact hQ a' w' ⟨Z2,j2,r1,r2,q3.trans r3,q4.trans r4⟩ (hk.trans q2 r3 q3.size hk')
   | exit i =>
    cases h
    have:=hQ a1 w1 haf (hk.weak fun i hi=>br.2 (.inl hi))
    simp only [iK] at this |-
    split at this<;>rename_i aD
    ·simp only [if_pos aD];exact this
    ·simp only [if_neg aD];exact this
   | ret=>cases h;exact hQ a1 w1 haf (hk.weak fun i hi=>br.2 (.inl hi))
 | cond cnd p q ihp ihq =>
  intro cc s x s' hc hsp h a w Z j st sr Q hQ m
  simp only [dz] at hc
  split at hc
  rotate_left
  ·cases hc
  rename_i hsp
  simp only [bD,List.isEmpty_iff] at hsp
  simp only [obi,omi] at hc
  obtain ⟨cp,hcp,cq,hcq,hcc⟩:=hc
  cases cc<;>simp [bM] at hcc
  rename_i c0 ca cb
  obtain ⟨rfl,rfl,rfl⟩:=hcc
  simp only [exec] at h
  cases h1:aP s.env cnd with
  | none=>simp [h1] at h
  | some v =>
   have hv:=st.eval cnd v h1
   cases v<;>simp only [h1,aL] at h<;>first | (cases h;done) | skip
   rename_i t
   cases hu:a.eval cnd<;>rw [hu] at hv<;>cases hv
   cases t
   ·exact wpIn_cond hu (ihq cb s x s' hcq hsp.2 (by simpa using h) a w Z j st sr Q (fun a' w' h1 h2=>hQ a' w' h1 (h2.weak fun i hi=>br.2 (.inr hi))) m)
   ·exact wpIn_cond hu (ihp ca s x s' hcp hsp.1 (by simpa using h) a w Z j st sr Q (fun a' w' h1 h2=>hQ a' w' h1 (h2.weak fun i hi=>br.2 (.inl hi))) m)
 | goto l =>
  intro cc s x s' hc hsp h a w Z j st sr Q hQ m
  cases cc<;>simp [dz,bM] at hc
  subst hc
  simp [exec] at h
  obtain ⟨rfl,rfl⟩:=h
  have:=hQ a w ⟨Z,j,st,sr,aJ.refl _ _ _ _,JK.refl _ _⟩ (eJ.refl _ _ _ _)
  rw [QH] at this
  exact wpIn_goto this
 | block id p ih =>
  intro cc s x s' hc hsp h a w Z j st sr Q hQ m
  simp only [dz] at hc
  split at hc
  rotate_left
  ·cases hc
  rename_i hcnd
  simp only [bD,List.isEmpty_iff,nf] at hcnd
  obtain ⟨cp0,hcp,hb⟩:=omi.1 hc
  cases cc<;>simp [bM] at hb
  rename_i id2 cp
  obtain ⟨rfl,rfl⟩:=hb
  simp only [exec,omi] at h
  obtain ⟨⟨x1,s1⟩,h1,h2⟩:=h
  refine wpIn_block (ih cp s x1 s1 hcp hcnd.1 h1 a w Z j st sr _ (fun a1 w1 haf hk=>?_) m)
  cases x1 with
  | norm=>cases h2;exact hQ a1 w1 haf hk
  | ret=>cases h2;exact hQ a1 w1 haf hk
  | exit i =>
   simp only at h2
   by_cases aD:i < 3000000
   ·simp only [iK,if_pos aD]
    show (if i=id then Q .normal a1 w1 else Q (.exit i) a1 w1)
    split at h2
    ·rename_i e;cases h2;rw [if_pos e];exact hQ a1 w1 haf hk
    ·rename_i e
     cases h2
     rw [if_neg e]
     have:=hQ a1 w1 haf hk
     simp only [iK,if_pos aD] at this
     exact this
   ·rw [if_neg (by omega)] at h2
    cases h2
    have:=hQ a1 w1 haf hk
    simp only [iK,if_neg aD] at this |-
    exact this
 | _=>intro cc s x s' hc hsp h;simp only [dz] at hc;exact leaf _ cc s x s' hc h
theorem aa4 {pr:Nat->Bool} {cfg:bl} {call:cv} (hm:cfg.P.follows .mixedOrders=true) (hp:gN cfg.P call.pc) (hi:gk cfg.P call.ic) (hsq:p9 cfg.P cfg.seqp) {n n0:Nat} {c0:Code} :
  ∀(c:Code) (cc:C) (s:S) (x:Ex) (s':S),dz pr c=some (bM cc)->(eW c).Nodup->(∀l∈eW c,findLabel c0 l=findLabel c l)->exec cfg call n n0 cc s=some (x,s')->∀(a:Act) (w:World) (Z:Zs) (j:J),St Z w j s.env a->SR cfg.P Z w j s.mem ->
   ∀(Q:Exit->Act->World->Prop),(∀a' w',jW cfg.P n0 Z w j s.mem s' a' w'->eJ (c8 cc) w a a' w'->Q (iK x) a' w')->∀(m:Nat),pO (FR none) m cfg.P c0 c Q a w:=by
 intro c
 induction c with
 | seq p q _ ihq =>
  intro cc s x s' hc hnd hlab h a w Z j st sr Q hQ m
  cases hl:Bv p with
  | none =>
   have hc0:=hc
   simp only [dz,hl] at hc
   split at hc
   rotate_left
   ·grind
   rename_i hpe
   have hpe:eW p=[]:=by grind
   simp only [obi,omi] at hc
   obtain ⟨cp,hcp,cq,hcq,hcc⟩:=hc
   have hnd':(eW q).Nodup:=by simpa [eW,hpe] using hnd
   have hlab':∀l∈eW q,findLabel c0 l=findLabel q l:=fun l hl=>by
    rw [hlab l (by simp [eW,hpe,hl])]
    have:findLabel p l=none:=LY (by grind)
    simp only [findLabel,this]
   cases cc<;>simp [bM] at hcc
   rotate_left
   ·rename_i fl ca cb
    obtain ⟨hc1,rfl⟩:=hcc
    have hst0:gt ca=false:=by
     cases hh:gt ca with
     | false=>rfl
     | true=>rw [hh] at hc1;exact absurd (hcp.trans (congrArg some hc1)) GK
    rw [hst0] at hc1
    have hcp:dz pr p=some (bM ca):=by grind
    simp only [exec] at h
    cases h1:exec cfg call n n0 ca s with
    | none=>grind
    | some r =>
     obtain ⟨x1,s1⟩:=r
     simp only [h1,aL] at h
     refine C6 (GG hm hp hi hsq p ca s x1 s1 hcp hpe h1 a w Z j st sr _ (fun a1 w1 haf hk=>?_) m)
     cases x1 with
     | norm =>
      obtain ⟨Z1,j1,q1,q2,q3,q4⟩:=haf
      obtain ⟨j2,t1,t2,t3,t4⟩:=kZ n0 fl q1 q2
      refine ihq cb (cU n0 fl s1) x s' hcq hnd' hlab' h a1 w1 Z1 j2 t1 t2 Q (fun a' w' h' hk'=>?_) m
      obtain ⟨Z2,j3,r1,r2,r3,r4⟩:=h'
      exact hQ a' w' ⟨Z2,j3,r1,r2,(q3.trans t3).trans r3,(q4.trans t4).trans r4⟩ (hk.trans q2 (t3.trans r3) q3.size hk')
     | exit i =>
      cases h
      have:=hQ a1 w1 haf (hk.weak fun i hi=>br.2 (.inl hi))
      simp only [iK] at this |-
      split at this<;>rename_i aD
      ·simp only [if_pos aD];exact this
      ·simp only [if_neg aD];exact this
     | ret=>cases h;exact hQ a1 w1 haf (hk.weak fun i hi=>br.2 (.inl hi))
   rename_i ca cb
   obtain ⟨rfl,rfl⟩:=hcc
   simp only [exec] at h
   cases h1:exec cfg call n n0 ca s with
   | none=>grind
   | some r =>
    obtain ⟨x1,s1⟩:=r
    simp only [h1,aL] at h
    refine C6 (GG hm hp hi hsq p ca s x1 s1 hcp hpe h1 a w Z j st sr _ (fun a1 w1 haf hk=>?_) m)
    cases x1 with
    | norm =>
     obtain ⟨Z1,j1,q1,q2,q3,q4⟩:=haf
     refine ihq cb s1 x s' hcq hnd' hlab' h a1 w1 Z1 j1 q1 q2 Q (fun a' w' h' hk'=>?_) m
     obtain ⟨Z2,j2,r1,r2,r3,r4⟩:=h'
     exact hQ a' w' ⟨Z2,j2,r1,r2,q3.trans r3,q4.trans r4⟩ (hk.trans q2 r3 q3.size hk')
    | exit i =>
     cases h
     have:=hQ a1 w1 haf (hk.weak fun i hi=>br.2 (.inl hi))
     simp only [iK] at this |-
     split at this<;>rename_i aD
     ·simp only [if_pos aD];exact this
     ·simp only [if_neg aD];exact this
    | ret=>cases h;exact hQ a1 w1 haf (hk.weak fun i hi=>br.2 (.inl hi))
  | some l =>
   simp only [dz,hl,omi] at hc
   obtain ⟨cq,hcq,hcc⟩:=hc
   have hpl:p = .label l:=by cases p<;>simp [Bv] at hl;rw [hl]
   subst hpl
   have hnd1:l∉eW q/\(eW q).Nodup:=by simpa [eW] using hnd
   have hlab':∀l'∈eW q,findLabel c0 l'=findLabel q l':=fun l' hl'=>by
    rw [hlab l' (by simp [eW,hl'])]
    have:findLabel (.label l) l'=none:=LY (by simp [eW];grind)
    simp only [findLabel] at this |-
    grind
   have hfl:findLabel c0 l=some (.seq .skip q):=by
    rw [hlab l (by simp [eW])]
    simp [findLabel]
   cases cc<;>simp [bM] at hcc
   rename_i e1 c1
   obtain ⟨rfl,hcc⟩:=hcc
   cases c1<;>simp [bM] at hcc
   rename_i fl c2
   cases c2<;>simp [bM] at hcc
   rename_i g1 c3
   obtain ⟨rfl,hcc⟩:=hcc
   have shape:∃ca,dz pr q=some (bM ca)/\(∀i,i∈c8 ca->i∈c8 (.block (mq l) (.loop fl (.block (lh l) c3))))/\∀s r,exec cfg call n n0 c3 s=some r->∃y t,exec cfg call n n0 ca s=some (y,t) /\
     ((y = .norm/\r.1 = .exit (mq l)/\(r.2=t∨∃f,r.2=cU n0 f t))∨(y≠.norm/\r=(y,t))):=by
    cases c3<;>simp [bM] at hcc
    ·rename_i ca cb
     obtain ⟨rfl,hcb⟩:=hcc
     cases cb<;>simp [bM] at hcb
     subst hcb
     refine ⟨ca,hcq,fun i hi=>by simp only [c8,dH];grind,fun s r hr=>?_⟩
     simp only [exec,obi] at hr
     grind
    ·rename_i f2 ca cb
     obtain ⟨hc1,hcb⟩:=hcc
     cases cb<;>simp [bM] at hcb
     subst hcb
     have hst0:gt ca=false:=by
      cases hh:gt ca with
      | false=>rfl
      | true=>rw [hh] at hc1;exact absurd (hcq.trans (congrArg some hc1)) GK
     rw [hst0] at hc1
     refine ⟨ca,by grind,fun i hi=>by simp only [c8,dH];grind,fun s r hr=>?_⟩
     simp only [exec,obi] at hr
     grind
   obtain ⟨ca,hca,hwr,hsh⟩:=shape
   have hge:lh l≠mq l:=by unfold lh mq;omega
   have key:∀(k:Nat) (s:S) (x1:Ex) (s1:S),dF (fun s=>exec cfg call n n0 (.block (lh l) c3) (cU n0 fl s)) k s=some (x1,s1)->∀(a:Act) (w:World) (Z:Zs) (j:J),St Z w j s.env a->SR cfg.P Z w j s.mem ->
     ∀(Q:Exit->Act->World->Prop),(∀a' w',jW cfg.P n0 Z w j s.mem (cU n0 fl s1) a' w'->eJ (c8 (.block (mq l) (.loop fl (.block (lh l) c3)))) w a a' w'->Q (vS l x1) a' w')->pO (FR none) m cfg.P c0 q Q a w:=by
    intro k
    induction k with
    | zero=>intro s x1 s1 h;simp [dF] at h
    | succ k ihk =>
     intro s x1 s1 h a w Z j st sr Q hQ
     simp only [dF,obi] at h
     obtain ⟨⟨x2,s2⟩,hb,h⟩:=h
     simp only [exec,omi] at hb
     obtain ⟨r,hr,hb⟩:=hb
     obtain ⟨y,t,hy,hcase⟩:=hsh _ _ hr
     obtain ⟨j0',t1,t2,t3,t4⟩:=kZ n0 fl st sr
     refine acR hfl (ihq ca _ y t hca hnd1.2 hlab' hy a w Z j0' t1 t2 _ (fun a2 w2 haf hk=>?_) m)
     have hk:=hk.weak hwr
     have last:∀(t':S),(t'=t∨∃f,t'=cU n0 f t)->s1=t'->Q (vS l x1) a2 w2:=by
      intro t' ht' es
      obtain ⟨Z1,j1,q1,q2,q3,q4⟩:=haf
      have:∃j2,St Z1 w2 j2 t'.env a2/\SR cfg.P Z1 w2 j2 t'.mem/\aJ Z1 w2 j1 t.mem Z1 w2 j2 t'.mem/\JK n0 j1 j2:=by
       rcases ht' with rfl | ⟨f,rfl⟩
       ·exact ⟨j1,q1,q2,aJ.refl _ _ _ _,JK.refl _ _⟩
       ·exact kZ n0 f q1 q2
      obtain ⟨j2,p1,p2,p3,p4⟩:=this
      obtain ⟨j3,r1,r2,r3,r4⟩:=kZ n0 fl p1 p2
      subst es
      exact hQ a2 w2 ⟨Z1,j3,r1,r2,(((t3.trans q3).trans p3).trans r3),((t4.trans q4).trans p4).trans r4⟩ hk
     rcases hcase with ⟨rfl,hr1,hr2⟩ | ⟨hyn,rfl⟩
     ·-- to the end
      obtain ⟨r1,r2⟩:=r
      simp only at hr1 hr2
      subst hr1
      simp only at hb
      rw [if_neg (Ne.symm hge)] at hb
      cases hb
      cases h
      have:=last _ hr2 rfl
      simp only [vS,if_true] at this
      exact this
     ·cases y with
      | norm=>grind
      | ret =>
       cases hb
       cases h
       exact last _ (.inl rfl) rfl
      | exit i =>
       simp only at hb
       split at hb
       ·-- once more
        rename_i hig
        subst hig
        cases hb
        rw [QH]
        simp only [if_true]
        obtain ⟨Z1,j1,q1,q2,q3,q4⟩:=haf
        refine C6 (wpIn_skip (ihk _ x1 s1 h a2 w2 Z1 j1 q1 q2 Q fun a' w' h' hk'=>?_))
        obtain ⟨Z2,j2,r1,r2,r3,r4⟩:=h'
        exact hQ a' w' ⟨Z2,j2,r1,r2,(t3.trans q3).trans r3,(t4.trans q4).trans r4⟩ ((hk.trans q2 r3 q3.size hk').weak fun i hi=>(br.1 hi).elim id id)
       ·rename_i hig
        cases hb
        cases h
        by_cases hie:i=mq l
        ·rcases On _ _ hca i (by rw [FG];exact Fo _ _ _ _ hy) with aD | ⟨l',hl'⟩
         ·unfold mq at hie;omega
         ·unfold mq at hie;unfold lh at hl';omega
        ·have:=last _ (.inl rfl) rfl
         simp only [vS,if_neg hie,iK] at this
         simp only [iK]
         split at this<;>rename_i aD
         ·grind
         ·simp only [if_neg aD]
          have hne:¬((i - 3000000) / 2=l):=by
           rcases On _ _ hca i (by rw [FG];exact Fo _ _ _ _ hy) with hlt2 | ⟨l',hl'⟩
           ·omega
           ·unfold lh at hl' hig;omega
          simp only [if_neg hne]
          grind
   simp only [exec,omi] at h
   obtain ⟨⟨y,t⟩,⟨⟨x0,s0⟩,hit,hr⟩,h⟩:=h
   have hr1:x0=y:=congrArg Prod.fst hr
   have hr2:cU n0 fl s0=t:=congrArg Prod.snd hr
   subst hr1 hr2
   refine C6 (wpIn_label (key n s x0 s0 hit a w Z j st sr Q fun a' w' haf hk=>?_))
   cases x0 with
   | norm=>cases h;exact hQ a' w' haf hk
   | ret=>cases h;exact hQ a' w' haf hk
   | exit i =>
    simp only at h
    split at h
    ·rename_i e;cases h;simp only [vS,if_pos e];exact hQ a' w' haf hk
    ·rename_i e;cases h;simp only [vS,if_neg e];grind
 | _ =>
  intro cc s x s' hc hnd hlab h a w Z j st sr Q hQ m
  first
  | exact acS (GG hm hp hi hsq _ cc s x s' hc rfl h a w Z j st sr Q hQ m)
  |(simp [dz,cT] at hc)
theorem aa3 {c r c0:Code} (h:Ic c=some (r,c0)):c = .seq r (.scope c0):=by
 unfold Ic at h
 grind
theorem Zo {pr:Nat->Bool} {c:Code} {p:C} (h:vX pr c=some p):bM p=p:=by
 unfold vX at h
 split at h
 ·simp only [obi] at h
  obtain ⟨cr,h1,cs,h2,h3⟩:=h
  split at h3
  ·cases h3;simp only [bM,yE _ _ h1,Zp _ _ h2]
  grind
 ·exact yE _ _ h
theorem Si {pr:Nat->Bool} {cfg:bl} {call:cv} (hm:cfg.P.follows .mixedOrders=true) (hp:gN cfg.P call.pc) (hi:gk cfg.P call.ic) (hsq:p9 cfg.P cfg.seqp) {n n0:Nat}
  (c:Code) (cc:C) (s:S) (x:Ex) (s':S) (hc:vX pr c=some (bM cc)) (h:exec cfg call n n0 cc s=some (x,s')) (a:Act) (w:World) (Z:Zs) (j:J) (st:St Z w j s.env a) (sr:SR cfg.P Z w j s.mem)
  (Q:Exit->Act->World->Prop) (hQ:∀a' w',jW cfg.P n0 Z w j s.mem s' a' w'->eJ (c8 cc) w a a' w'->Q x.toExit a' w') (m:Nat):c.wpIn (FR none) m cfg.P Q a w:=by
 unfold vX at hc
 split at hc
 rotate_left
 ·exact A5 hm hp hi hsq c none cc s x s' hc (fun e=>(e rfl).elim) h a w Z j st sr Q hQ m
 rename_i r c0 hsc
 have:=aa3 hsc
 subst this
 simp only [obi] at hc
 obtain ⟨cr,hcr,cs,hcs,hc⟩:=hc
 split at hc
 rotate_left
 ·grind
 rename_i aV
 simp only [PY,bD,decide_eq_true_eq] at aV
 obtain ⟨hnd,hfree⟩:=aV
 have hc:=Option.some.inj hc
 have tail:∀(cb:C) (s:S) (x:Ex) (s':S),cs=bM cb->exec cfg call n n0 cb s=some (x,s')->∀(a:Act) (w:World) (Z:Zs) (j:J),St Z w j s.env a->SR cfg.P Z w j s.mem ->
   ∀(Q:Exit->Act->World->Prop),(∀a' w',jW cfg.P n0 Z w j s.mem s' a' w'->eJ (c8 cb) w a a' w'->Q x.toExit a' w')->(Code.scope c0).wpIn (FR none) m cfg.P Q a w:=by
  intro cb s x s' e h a w Z j st sr Q hQ
  have hx:∀i,x = .exit i->i < 3000000:=fun i hi=>by
   subst hi
   have h1:=Fo _ _ _ _ h
   rw [<-FG,<-e] at h1
   simp_all
  refine acQ (aa4 hm hp hi hsq c0 cb s x s' (hcs.trans (congrArg some e)) hnd (fun _ _=>rfl) h a w Z j st sr _ (fun a' w' g1 g2=>?_) m)
  rw [QI hx]
  refine ⟨fun l e=>?_,hQ a' w' g1 g2⟩
  cases x<;>cases e
 cases cc with
 | cseq fl ca cb =>
  simp only [bM,C.seq.injEq] at hc
  obtain ⟨hc1,hcb⟩:=hc
  have hst0:gt ca=false:=by
   cases hh:gt ca with
   | false=>rfl
   | true=>rw [hh] at hc1;exact absurd (hcr.trans (congrArg some hc1)) GL
  rw [hst0] at hc1
  have hcp:cT pr r=some (bM ca):=by grind
  simp only [exec] at h
  cases h1:exec cfg call n n0 ca s with
  | none=>grind
  | some q =>
   obtain ⟨x1,s1⟩:=q
   simp only [h1,aL] at h
   refine wpIn_seq (A5 hm hp hi hsq r none ca s x1 s1 hcp (fun e=>(e rfl).elim) h1 a w Z j st sr _ (fun a1 w1 haf hk=>?_) m)
   cases x1 with
   | norm =>
    obtain ⟨Z1,j1,q1,q2,q3,q4⟩:=haf
    obtain ⟨j2,t1,t2,t3,t4⟩:=kZ n0 fl q1 q2
    refine tail cb (cU n0 fl s1) x s' hcb h a1 w1 Z1 j2 t1 t2 Q (fun a' w' h' hk'=>?_)
    obtain ⟨Z2,j3,r1,r2,r3,r4⟩:=h'
    exact hQ a' w' ⟨Z2,j3,r1,r2,(q3.trans t3).trans r3,(q4.trans t4).trans r4⟩ (hk.trans q2 (t3.trans r3) q3.size hk')
   | exit i=>cases h;exact hQ a1 w1 haf (hk.weak fun i hi=>br.2 (.inl hi))
   | ret=>cases h;exact hQ a1 w1 haf (hk.weak fun i hi=>br.2 (.inl hi))
 | seq ca cb =>
  simp only [bM,C.seq.injEq] at hc
  obtain ⟨hca,hcb⟩:=hc
  simp only [exec] at h
  cases h1:exec cfg call n n0 ca s with
  | none=>grind
  | some q =>
   obtain ⟨x1,s1⟩:=q
   simp only [h1,aL] at h
   refine wpIn_seq (A5 hm hp hi hsq r none ca s x1 s1 (hcr.trans (congrArg some hca)) (fun e=>(e rfl).elim) h1 a w Z j st sr _ (fun a1 w1 haf hk=>?_) m)
   cases x1 with
   | norm =>
    obtain ⟨Z1,j1,q1,q2,q3,q4⟩:=haf
    refine tail cb s1 x s' hcb h a1 w1 Z1 j1 q1 q2 Q (fun a' w' h' hk'=>?_)
    obtain ⟨Z2,j2,r1,r2,r3,r4⟩:=h'
    exact hQ a' w' ⟨Z2,j2,r1,r2,q3.trans r3,q4.trans r4⟩ (hk.trans q2 r3 q3.size hk')
   | exit i=>cases h;exact hQ a1 w1 haf (hk.weak fun i hi=>br.2 (.inl hi))
   | ret=>cases h;exact hQ a1 w1 haf (hk.weak fun i hi=>br.2 (.inl hi))
 | _=>simp [bM] at hc
def v7 (a:Act):ResultVar->Sem Value
 | .tmp t=>pure (a.tmps.getD t undef)
 | .cell b t=>do loadVar t (<-asAddr (a.tmps.getD b undef))
theorem Z9 {fn:Func} {s:S} {a:Act} {vs:List V} (st:St Z w j s.env a) (sr:SR P Z w j s.mem)
  (h:bA (mN P s) (fn.results.toList.map uz)=some vs) :
  ∃us:List Value,us.length=vs.length/\(∀(i:Nat) (v:V) (u:Value),vs[i]? = some v->us[i]? = some u->VR Z w j v u) /\
   (results fn a.tmps).run P w = .ok (if h:us.toArray.size=1 then us.toArray[0] else .tuple us.toArray) w:=by
 have key:∀(l:List ResultVar) (vs:List V),bA (mN P s) (l.map uz)=some vs ->
   ∃us:List Value,us.length=vs.length/\(∀(i:Nat) (v:V) (u:Value),vs[i]? = some v->us[i]? = some u->VR Z w j v u) /\
    (l.mapM (m:=Sem) (v7 a)).run P w = .ok us w:=by
  intro l
  induction l with
  | nil=>intro vs h;simp [bA] at h;simp_all
  | cons r l ih =>
   intro vs h
   simp only [di,bA] at h
   cases h2:bA (mN P s) (l.map uz) with
   | none=>all_goals simp_all
   | some ws =>
    obtain ⟨us,e1,e2,e3⟩:=ih ws h2
    have fin:∀(v:V) (u:Value),vs=v::ws->VR Z w j v u->(v7 a r).run P w = .ok u w ->
      ∃us:List Value,us.length=vs.length/\(∀(i:Nat) (v:V) (u:Value),vs[i]? = some v->us[i]? = some u->VR Z w j v u) /\
       ((r::l).mapM (m:=Sem) (v7 a)).run P w = .ok us w:=by
     intro v u hvs hv hr
     subst hvs
     refine ⟨u::us,by grind,fun i v' u' hv' hu'=>?_,?_⟩
     ·grind
     simp_all
    cases r with
    | tmp t =>
     simp only [uz,mN] at h
     cases h1:s.env[t]? with
     | none=>grind
     | some v =>
      simp [h1,h2] at h
      obtain ⟨u,hu,hv⟩:=st.val t v h1
      exact fin v u h.symm hv (by simp [v7,hJ,hu])
    | cell b t =>
     simp only [uz,mN] at h
     cases h1:s.env[b]? with
     | none=>grind
     | some p =>
      cases hl:fj P s.mem t p with
      | none=>grind
      | some v =>
       simp [h1,hl,h2] at h
       obtain ⟨u,hu,hv⟩:=st.val b p h1
       obtain ⟨u',h3,h4⟩:=Nj sr hl hv
       refine fin v u' h.symm h4 ?_
       have hp:∃ad,u = .pointer (some ad):=by
        unfold fj at hl
        cases hlk:eC s.mem p with
        | none=>grind
        | some r =>
         obtain ⟨x,off⟩:=r
         obtain ⟨g,b',hu',_⟩:=Nn sr hlk hv
         grind
       obtain ⟨ad,rfl⟩:=hp
       simp only [Instr.loadAt,Instr.sureAddr,Sem.run_bind,Sem.run_pure,Result.andThen_ok] at h3
       simp [v7,hJ,hu,asAddr,h3]
 obtain ⟨us,e1,e2,e3⟩:=key fn.results.toList vs h
 refine ⟨us,e1,e2,?_⟩
 unfold results
 rw [Rb]
 refine Eq.trans (b:=(do let vs <-List.toArray <$> List.mapM (v7 a) fn.results.toList;pure (if h:vs.size=1 then vs[0] else .tuple vs):Sem Value).run P w) ?_ ?_
 ·rfl
 simp_all
theorem abR {args:List V} {us:List Value} {nt:Nat} (ha:eZ Z w j args us):St Z w j (args++bH (nt - args.length) (.tup [])) { tmps:=us.toArray++Db (nt - us.toArray.size) undef,defers:=[] }:=by
 refine ⟨by simp [ha.1],fun i v hv=>?_⟩
 by_cases hi:i < args.length
 ·rw [dx hi] at hv
  have hi':i < us.length:=by rw [<-ha.1];grind
  exact ⟨us[i],by grind,ha.2 i v _ hv (bG hi')⟩
 ·rw [df (by omega)] at hv
  have aD:=(bn.1 hv).1
  simp only [wY] at aD
  have e:v = .tup []:=by
   grind
  subst e
  refine ⟨undef,?_,.tup (us:=[]) rfl fun i c u hc=>by grind⟩
  have hl:=ha.1
  grind
theorem XP {fn:Func} {a:Act} {env:List V} {R:Ending->World->Prop} {Z0:Zs} {w0:World} {j0':J} {mem0:List O}:∀(Ds:List Nat) (w:World),Ds.Nodup->(∀D∈Ds,w0.heap.size<=D/\w.heap[D]? = some (.deferred (some []))) ->
  St Z w j env a->SR P Z w j mem->aJ Z0 w0 j0' mem0 Z w j mem ->
  (∀w',St Z w' j env a->SR P Z w' j mem->aJ Z0 w0 j0' mem0 Z w' j mem->∃v,(results fn a.tmps).run P w' = .ok v w'/\R (.returned v) w')->LeavesInM (FR none) 0 P fn a.tmps R (Ds.map yr) .returning w:=by
 intro Ds
 induction Ds with
 | nil=>intro w _ _ st sr stp h;exact h w st sr stp
 | cons D Ds ih =>
  intro w hn hD st sr stp h
  obtain ⟨h1,h2⟩:=hD D (by simp)
  have hne:D∉Ds:=(uG.1 hn).1
  refine ⟨by simp,.inl ⟨D,_,rfl,run_takeDeferred h2,ih _ (uG.1 hn).2 (fun D' hD'=>?_) (st.mono (sG h2 rfl rfl) (aX.refl _)) (sr.book h2 rfl rfl) (stp.book h1 h2 rfl rfl) h⟩⟩
  obtain ⟨k1,k2⟩:=hD D' (by grind)
  exact ⟨k1,(World.putObj_heap_other (by grind)).trans k2⟩
theorem Hk {cfg:bl} {call:cv} (hm:cfg.P.follows .mixedOrders=true) (hp:gN cfg.P call.pc) (hi:gk cfg.P call.ic) (hsq:p9 cfg.P cfg.seqp) {n:Nat} {f:FuncId} {fa:FA} {args:List V} {us:List Value} {vs:List V}
  (hf:fX cfg.P (cfg.rxf f) f=some fa) (h:pG cfg call n fa args mem=some (vs,mem')) (sr:SR cfg.P Z w j mem) (ha:eZ Z w j args us) :
  Calls cfg.P f us.toArray w fun e w1=>∃(xs:List Value) (Z1:Zs) (j1:J),e = .returned (if h:xs.toArray.size=1 then xs.toArray[0] else .tuple xs.toArray)/\xs.length=vs.length /\
   (∀(i:Nat) (v:V) (u:Value),vs[i]? = some v->xs[i]? = some u->VR Z1 w1 j1 v u)/\SR cfg.P Z1 w1 j1 mem'/\aJ Z w j mem Z1 w1 j1 mem'/\JK mem.length j j1:=by
 unfold fX at hf
 cases hfn:cfg.P.funcs[f]? with
 | none=>grind
 | some fn =>
  simp only [hfn] at hf
  split at hf
  ·grind
  ·cases hb:fn.body with
   | none=>grind
   | some c =>
    simp only [hb,omi] at hf
    obtain ⟨cc,hcc,rfl⟩:=hf
    unfold pG at h
    split at h
    ·rename_i hn
     obtain ⟨hn1,hn2⟩:=hn
     simp only at hn1 hn2
     simp only at h
     rw [<-hn1] at h
     generalize hce:gX (cfg.rxf f) fn.ntmps (fn.results.toList.map fun r=>match r with | .tmp t=>t | .cell t _=>t) [] cc []=ce at h
     have hcc':vX (cfg.rxf f) c=some (bM ce):=by rw [<-hce,abd,Zo hcc];grind
     cases hx:exec cfg call n mem.length ce ⟨args++bH (fn.ntmps - args.length) (.tup []),mem⟩ with
     | none=>grind
     | some r =>
      obtain ⟨x,s'⟩:=r
      simp only [hx,aL] at h
      have st:=abR (nt:=fn.ntmps) ha
      have hex:=Si hm hp hi hsq c ce _ x s' hcc' hx _ w Z j st sr
      refine callsIn_wide.1 (callsIn_of_wp_marks (F:=Fence.wide) (n:=0) hfn hb trivial (hex _ (fun a' w' haf hk=>?_) 0))
      obtain ⟨Z1,j1,q1,q2,q3,q4⟩:=haf
      have fin:(bA (mN cfg.P s') (fn.results.toList.map uz)).map (fun vs=>(vs,s'.mem))=some (vs,mem')->LeavesInM (FR none) 0 cfg.P fn a'.tmps (fun e w1=>∃(xs:List Value) (Z1:Zs) (j1:J),e = .returned (if h:xs.toArray.size=1 then xs.toArray[0] else .tuple xs.toArray)/\xs.length=vs.length /\
   (∀(i:Nat) (v:V) (u:Value),vs[i]? = some v->xs[i]? = some u->VR Z1 w1 j1 v u)/\SR cfg.P Z1 w1 j1 mem'/\aJ Z w j mem Z1 w1 j1 mem'/\JK mem.length j j1) a'.defers .returning w':=by
       intro h
       simp only [omi] at h
       obtain ⟨vs',hv,h⟩:=h
       cases h
       obtain ⟨Ds,hDs,hnd,hDk⟩:=hk.marks
       rw [hDs,dH]
       refine XP Ds w' hnd hDk q1 q2 q3 fun w'' t1 t2 t3=>?_
       obtain ⟨xs,e1,e2,e3⟩:=Z9 (fn:=fn) t1 t2 hv
       grind
      cases x with
      | norm=>exact fin h
      | ret=>exact fin h
      | exit i=>cases h
    grind
theorem YT {Z1:Zs} {w1:World} {j1:J} {xs:List Value} {vs:List V} (hl:xs.length=vs.length) (hv:∀(i:Nat) (v:V) (u:Value),vs[i]? = some v->xs[i]? = some u->VR Z1 w1 j1 v u) :
  VR Z1 w1 j1 (pL vs) (if h:xs.toArray.size=1 then xs.toArray[0] else .tuple xs.toArray):=by
 match vs,xs,hl with
 | [v],[u],_=>exact hv 0 v u rfl rfl
 | [],[],_=>exact .tup rfl fun i c u hc=>by grind
 | v::v'::vs,u::u'::xs,hl =>
  rw [dif_neg (by simp)]
  exact .tup (by grind) hv
structure wT (cfg:bl):Prop where
 mixed:cfg.P.follows .mixedOrders=true
 pp:∀f g,cfg.pprim f=some g->gN cfg.P fun f' as0=>if f'=f then g as0 else none
 ip:∀f g,cfg.iprim f=some g->gk cfg.P fun f' as0 mem=>if f'=f then g as0 mem else none
 seq:p9 cfg.P cfg.seqp:=by exact fun _ _ _ _ _ h=>nomatch h
theorem W5 {cfg:bl} (hc:wT cfg) {call:cv} (hp:gN cfg.P call.pc) (hi:gk cfg.P call.ic) (n:Nat):gk cfg.P (nL cfg call n):=by
 intro f as0 mem r mem' h aV Z w j us sr ha
 unfold nL at h
 cases hpr:cfg.iprim f with
 | some g =>
  simp only [hpr] at h
  exact hc.ip f g hpr f as0 mem r mem' (by grind) aV Z w j us sr ha
 | none =>
  simp only [hpr,obi,omi] at h
  obtain ⟨fa,hfa,⟨vs,m⟩,hrun,h⟩:=h
  cases h
  refine (Hk hc.mixed hp hi hc.seq hfa hrun sr ha).mono ?_
  rintro e w1 ⟨xs,Z1,j1,rfl,e1,e2,e3,e4,e5⟩
  refine ⟨_,rfl,Z1,j1,YT e1 e2,e3,e4,fun id x hx=>?_⟩
  by_cases aD:id < mem.length
  ·exact e5 id x aD hx
  ·rw [sr.out id (by omega)] at hx;grind
theorem BZ {g:Nat}:¬bg Z j [] g:=by rintro ⟨id,o,h,_⟩;grind
theorem FN {mem:List O} {v v':V} (h:nK mem v=some v'):jt mem v=some v':=by
 cases v<;>first | (simp [nK] at h;done) | exact h
theorem tS:∀{l:List V} {i:Nat} {x:V},mL l=true->l[i]? = some x->x.plain=true
 | [],i,x,_,h=>by grind
 | y::l,i,x,hp,h=>by
  simp only [mL,bD] at hp
  cases i with
  | zero=>grind
  | succ i=>exact tS hp.2 (by simpa using h)
theorem Kc {v y:V} {i:Nat} (h:v.plain=true) (hy:v.cells[i]? = some y):y.plain=true:=by
 have one:∀v:V,v.plain=true->v.cells=[v]->v.cells[i]? = some y->y.plain=true:=by
  grind
 cases v with
 | agg cs=>exact tS (l:=cs) (by simpa [V.plain] using h) hy
 | _=>exact one _ h rfl hy
theorem VR.swap {A:TypeId->Nat->Option Nat} {I:TypeId->Option Nat} {v:V} {u:Value} (h:VR Z w j v u):v.plain=true->VR { Z with a:=A,i:=I } w j v u:=by
 induction h with
 | junk=>intro _;exact .junk
 | bool=>intro _;exact .bool
 | int=>intro _;exact .int
 | str=>intro _;exact .str
 | agg hl _ ih=>intro hp;exact .agg hl fun i c u h1 h2=>ih i c u h1 h2 (tS (by simpa [V.plain] using hp) h1)
 | tup hl _ ih=>intro hp;exact .tup hl fun i c u h1 h2=>ih i c u h1 h2 (tS (by simpa [V.plain] using hp) h1)
 | nilS=>intro _;exact .nilS
 | sl0=>intro _;exact .sl0
 | sl f hlc hsz hl hc _ ih =>
  intro hp
  exact .sl f hlc hsz hl hc (fun k x i y h1 h2=>ih k x i y h1 h2 (Kc (tS (by simpa [V.plain] using hp) h1) h2))
 | own hj h0=>intro _;exact .own hj h0
 | win hj hn hlc hcc ha=>intro _;exact .win hj hn hlc hcc ha
 | ptr hj hs=>intro _;exact .ptr hj hs
 | ref f hc _ ih=>intro hp;exact .ref f hc (fun i y h1=>ih i y h1 (Kc (by simpa [V.plain] using hp) h1))
 | fn hl _ ih=>intro hp;exact .fn hl fun i c u h1 h2=>ih i c u h1 h2 (tS (by simpa [V.plain] using hp) h1)
 | mp hj=>intro _;exact .mp hj
 | nilP=>intro _;exact .nilP
 | nilF=>intro _;exact .nilF
 | nilM=>intro _;exact .nilM
 | nilI=>intro _;exact .nilI
 | unk h=>intro _;exact .unk h
 | ifc _ ih=>intro hp;exact .ifc (ih (by simpa [V.plain] using hp))
 | hp h=>intro hp;simp [V.plain] at hp
 | hm h=>intro hp;simp [V.plain] at hp
 | rest=>intro _;exact .rest
 | tail hj hn _ ih=>intro hp;exact .tail hj hn (ih rfl)
 | lit h hk hzz ih=>intro hp;exact .lit (ih (by simpa [V.plain] using hp)) hk hzz
theorem MA:∀{l:List Nat} {k t:Nat},vQ l=true->l[k]? = some t->jK t l=some k
 | [],k,t,_,h=>by grind
 | x::l,k,t,hn,h=>by
  simp only [vQ,bD] at hn
  cases k with
  | zero=>simp at h;subst h;simp [jK]
  | succ k =>
   have h':l[k]? = some t:=by grind
   have hne:¬x=t:=by
    grind
   simp only [jK,if_neg hne,MA hn.2 h',cB]
def DN (Z:Zs) (ts:List TypeId):Zs:={ Z with a:=fun _ _=>none,i:=fun t=>jK t ts }
theorem RY (P:Program) (t:TypeId):(xA P t).ar=some (t,0):=by unfold xA;split<;>rfl
theorem JH {cfg:bl} {f:FuncId} {k:Nat} {o:O} (h:(oR cfg f)[k]? = some o):∃t,(cfg.ars f)[k]? = some t/\o=xA cfg.P t:=by
 unfold oR at h
 grind
theorem JI {cfg:bl} {f:FuncId} {g:Nat}:¬bg Z j (oR cfg f) g:=by
 rintro ⟨id,o,h,_,hb⟩
 obtain ⟨t,_,rfl⟩:=JH h
 unfold bi at hb
 rw [RY] at hb
 grind
theorem R4 {cfg:bl} {f:FuncId} (hn:vQ (cfg.ars f)=true) (hzin:∀g o,Z g o->g < w.heap.size):SR P (DN Z (cfg.ars f)) w j0 (oR cfg f):=by
 refine ⟨fun id o h=>?_,fun id id' o o' g h h' hl hl' hb _=>?_,fun _ _=>rfl,hzin⟩
 ·obtain ⟨t,ht,rfl⟩:=JH h
  have hA:oy (DN Z (cfg.ars f)) id t 0:=⟨MA hn ht,fun k hk=>by omega,fun k _=>rfl,fun k k' g h=>by cases h⟩
  unfold xA
  split
  ·exact ⟨hA,fun k x g h=>by grind⟩
  ·exact ⟨hA,fun k x g h=>by grind⟩
 ·exact (JI ⟨id,o,h,hl,hb⟩).elim
theorem ZA {cfg:bl} (hc:wT cfg) {call:cv} (hp:gN cfg.P call.pc) (hi:gk cfg.P call.ic) (n:Nat):gN cfg.P (n4 cfg call n):=by
 intro f as0 r h aV Z w us hzin ha
 unfold n4 at h
 cases hpr:cfg.pprim f with
 | some g =>
  simp only [hpr] at h
  exact hc.pp f g hpr f as0 r (by grind) aV Z w us hzin ha
 | none =>
  simp only [hpr] at h
  split at h
  rotate_left
  ·cases h
  rename_i hars
  simp only [obi] at h
  obtain ⟨fa,hfa,⟨vs,m⟩,hrun,h⟩:=h
  by_cases hem:cfg.ars f=[]
  rotate_left
  ·-- arenas of its own
   have hars:vQ (cfg.ars f)=true/\mL as0=true:=by
    unfold Aq at hars
    grind
   have ha':eZ (DN Z (cfg.ars f)) w j0 as0 us:=⟨ha.1,fun i v u h1 h2=>(ha.2 i v u h1 h2).swap (tS hars.2 h1)⟩
   refine (Hk hc.mixed hp hi hc.seq hfa hrun (R4 hars.1 hzin) ha').mono ?_
   rintro e w1 ⟨xs,Z1,j1,rfl,e1,e2,e3,e4,_⟩
   have hv1:∃v,vs=[v]/\v.flat1=true/\r=v:=by
    unfold Bg at h
    grind
   obtain ⟨v,rfl,hfl,rfl⟩:=hv1
   match xs,e1 with
   | [u],_ =>
    have hv:=e2 0 r u rfl rfl
    have hv2:VR { Z1 with a:=Z.a,i:=Z.i } w1 j0 r u:=L5 (hv.flat hfl j0) hfl
    refine ⟨u,{ Z1 with a:=Z.a,i:=Z.i },rfl,?_,⟨e4.os,e4.tape,e4.output,e4.size,fun g hg=>e4.keep g hg JI,e3.zin,rfl,rfl⟩⟩
    cases r<;>first | exact hv2 | (simp [V.flat1] at hfl)
  have hem0:oR cfg f=[]:=by unfold oR;grind
  rw [hem0] at hrun
  replace h:mz cfg.P m fa.rtypes vs=some r:=by unfold Bg at h;grind
  have sr:SR cfg.P Z w j0 []:=⟨fun id o h=>by grind,fun id id' o o' g h=>by grind,fun _ _=>rfl,hzin⟩
  refine (Hk hc.mixed hp hi hc.seq hfa hrun sr ha).mono ?_
  rintro e w1 ⟨xs,Z1,j1,rfl,e1,e2,e3,e4,_⟩
  have za:Z1.a=Z.a:=funext fun t=>(e4.ar t fun id o n ho=>by grind).2
  have st0:qb Z w Z1 w1:=⟨e4.os,e4.tape,e4.output,e4.size,fun g hg=>e4.keep g hg BZ,e3.zin,za,e4.z.i⟩
  have young:∀g,bg Z1 j1 m g->w.heap.size<=g:=fun g hg=>by
   rcases kN g w.heap.size with aD | hge
   ·exact (BZ (e4.owned g aD hg)).elim
   grind
  have frz:∀ids:List Nat,qb Z w (c9 Z1 (Fz cfg.P j1 m ids)) w1:=fun ids=>⟨st0.os,st0.tape,st0.output,st0.size,fun g hg=>⟨(st0.keep g hg).1,fun o=>⟨fun h=>((st0.keep g hg).2 o).1 (h.resolve_right fun ⟨id,_,hb,ho⟩=>by
    have:=young g (pu e3 hb ho);omega),fun h=>.inl (((st0.keep g hg).2 o).2 h)⟩⟩,fun g o h=>by
   rcases h with h | ⟨id,_,hb,ho⟩
   ·exact e3.zin g o h
   ·exact bg.lt e3 (pu e3 hb ho),za,e4.z.i⟩
  have snapOne:∀(v v':V) (u:Value),nK m v=some v'->VR Z1 w1 j1 v u->∃ids,VR (c9 Z1 (Fz cfg.P j1 m ids)) w1 j0 v' u:=fun v v' u hg hv=>⟨jn m v,Iq e3 (FN hg) (fun _ h=>h) hv⟩
  have notTup2:∀(v v':V),gg m v=some v'->(∀ws,v'≠.tup ws)/\(∀t els,v'≠.fr t els):=by
   intro v v' hs
   have s1:∀v v',eH m v=some v'->(∀ws,v'≠.tup ws)/\(∀t els,v'≠.fr t els):=by
    intro v v' h1
    have:=(Io h1).1
    exact ⟨fun ws e=>(by rw [e] at this;cases this),fun t els e=>(by rw [e] at this;cases this)⟩
   cases v with
   | agg cs =>
    simp only [gg,omi] at hs
    grind
   | ptr id k off =>
    simp only [gg,obi] at hs
    obtain ⟨⟨x,o⟩,_,hs⟩:=hs
    cases x<;>simp only [omi] at hs<;>(grind)
   | _=>exact s1 _ _ (by simpa [gg] using hs)
  have notTup:∀(v v':V),jt m v=some v'->(∀ws,v'≠.tup ws)/\(∀t els,v'≠.fr t els):=by
   intro v v' hs
   by_cases hf:∃f caps,v = .fn f caps
   ·obtain ⟨f,caps,rfl⟩:=hf
    simp only [jt,omi] at hs
    grind
   ·have e0:jt m v=gg m v:=by cases v<;>first | rfl | grind
    grind
  have r1of:∀(Z2:Zs) (v':V) (u:Value),(∀t els,v'≠.fr t els)->VR Z2 w1 j0 v' u->R1 cfg.P Z2 w w1 v' u:=by
   intro Z2 v' u hn hv
   cases v'<;>first | exact hv | grind
  match vs,xs,e1 with
  | [v],[u],_ =>
   have hv:=e2 0 v u rfl rfl
   have goal:∀(r':V),r=r'->∀Z2,RR cfg.P Z2 w w1 r' u->qb Z w Z2 w1->∃u' Z1,Ending.returned (if h:([u]:List Value).toArray.size=1 then ([u]:List Value).toArray[0] else .tuple ([u]:List Value).toArray) = .returned u'/\RR cfg.P Z1 w w1 r u'/\qb Z w Z1 w1:=by
    grind
   have snapG:nK m v=some r->∃u' Z1,Ending.returned (if h:([u]:List Value).toArray.size=1 then ([u]:List Value).toArray[0] else .tuple ([u]:List Value).toArray) = .returned u'/\RR cfg.P Z1 w w1 r u'/\qb Z w Z1 w1:=by
    intro hg
    obtain ⟨ids,hs⟩:=snapOne v r u hg hv
    obtain ⟨n1,n2⟩:=notTup v r (FN hg)
    exact goal r rfl _ (RR.mk (r1of _ r u n2 hs) n1) (frz ids)
   have h':∃t,qD cfg.P m t v=some r:=by
    unfold mz at h
    grind
   obtain ⟨t,h⟩:=h'
   unfold qD at h
   split at h
   ·rename_i id _ _
    cases hmm:m[id]? with
    | none=>grind
    | some o =>
     cases o<;>simp only [hmm] at h<;>first | (cases h;done) | skip
     rename_i et els fz
     have hO:=e3.obj id _ hmm
     obtain ⟨hn,hh,hrow⟩:=hO
     cases hv with
     | own hj h00 =>
      rw [hj] at hh;cases hh
      split at h
      rotate_left
      ·have hs:eH m (.own id)=some (.sl els):=by simp [eH,cE,hmm]
       exact snapG (by simp [nK,jt,gg,hs];grind)
      split at h
      ·rename_i hfz
       subst hfz
       split at h
       rotate_left
       ·cases h
       rename_i hfl
       have h1:=hrow.1
       simp only at h1
       subst h1
       refine goal _ (Option.some.inj h).symm Z1 ?_ st0
       refine ⟨_,_,_,rfl,hrow,fun x hx y hy=>?_,fun g hg=>?_,h00⟩
       ·grind
       ·have ho:bg Z1 j1 m g:=⟨id,_,hmm,rfl,(bi.plain rfl).2 (by simpa [cy,hj] using hg)⟩
        exact ⟨young g ho,bg.lt e3 ho⟩
      ·have hs:eH m (.own id)=some (.sl els):=by simp [eH,cE,hmm]
       exact snapG (by simp [nK,jt,gg,hs];grind)
   ·cases hel:eP cfg.P t with
    | none=>grind
    | some et =>
     simp only [hel,aL] at h
     split at h
     ·rename_i hpos
      split at h
      rotate_left
      ·exact snapG (by simp [nK,jt,gg,eH];grind)
      cases hv
      refine goal _ (Option.some.inj h).symm Z1 ?_ st0
      exact ⟨none,0,0,rfl,⟨rfl,hpos,bK _,by simp,.inl ⟨rfl,rfl⟩⟩,by simp,fun g hg=>by simp [bF.blk] at hg,fun a ha=>by grind⟩
     grind
   grind
  | [],[],_ =>
   have:r = .tup []:=by
    unfold mz at h
    cases hrt:fa.rtypes<;>simp [hrt,bA] at h<;>first | grind | (rename_i ts;cases ts<;>simp [hrt,bA] at h<;>exact h.symm)
   subst this
   exact ⟨_,Z1,rfl,⟨[],rfl,rfl,fun i v x h=>by grind⟩,st0⟩
  | v::v'::vs,u::u'::xs,hl =>
   have h':(bA (nK m) (v::v'::vs)).map V.tup=some r:=by
    unfold mz at h
    grind
   simp only [omi] at h'
   obtain ⟨gs,hgs,rfl⟩:=h'
   obtain ⟨g1,g2⟩:=jr hgs
   refine ⟨.tuple (u::u'::xs).toArray,c9 Z1 (Fz cfg.P j1 m ((v::v'::vs).flatMap (jn m))),by grind,⟨u::u'::xs,rfl,by grind,fun i y x hy hx=>?_⟩,frz _⟩
   obtain ⟨y0,hy0,hgy⟩:=g2 i y hy
   have hsn:=FN hgy
   refine r1of _ y x (notTup y0 y hsn).2 (Iq e3 hsn (fun k hk=>?_) (e2 i y0 x hy0 hx))
   grind
theorem SA {cfg:bl} (hc:wT cfg):∀n,gN cfg.P (dU cfg n).pc/\gk cfg.P (dU cfg n).ic:=by
 intro n
 induction n with
 | zero=>exact ⟨fun f as0 r h=>by simp [dU] at h,fun f as0 mem r mem' h=>by simp [dU] at h⟩
 | succ n ih=>exact ⟨ZA hc ih.1 ih.2 n,W5 hc ih.1 ih.2 n⟩
end
end Go.Lite
namespace Go.Lite
open Go
def gz (a b:cv):Prop:=(∀f as0 r,a.pc f as0=some r->b.pc f as0=some r)/\∀f as0 m r,a.ic f as0 m=some r->b.ic f as0 m=some r
section
variable {cfg:bl} {a b:cv}
theorem J3 (h:gz a b) {dr:Bool} {f:FuncId} {args:List V} {mem:List O} {r:V × List O} (hr:iC cfg a dr f args mem=some r):iC cfg b dr f args mem=some r:=by
 unfold iC at hr |-
 split at hr
 ·cases hr
 ·rename_i h1
  rw [if_neg h1]
  split at hr
  ·rename_i h2
   rw [if_pos h2]
   simp only [obi] at hr |-
   obtain ⟨as0,q1,x,q2,q3⟩:=hr
   exact ⟨as0,q1,x,h.1 _ _ _ q2,q3⟩
  ·rename_i h2
   rw [if_neg h2]
   split at hr
   ·cases hr
   ·rename_i h3
    rw [if_neg h3]
    cases hcf:cfg.can f with
    | none=>rw [hcf] at hr;exact h.2 _ _ _ _ hr
    | some rd =>
     rw [hcf] at hr
     obtain ⟨hr,hro⟩:=Cj hr
     refine Hd ?_ hro
     simp only [qm,omi] at hr |-
     obtain ⟨x,q1,q2⟩:=hr
     exact ⟨x,h.2 _ _ _ _ q1,q2⟩
theorem We (h:gz a b) {f:FuncId} {args:List V} {mem:List O} {r:V × List O} (hr:nI a f args mem=some r):nI b f args mem=some r:=by
 unfold nI at hr |-
 split at hr
 ·cases hr
 rename_i hna
 rw [if_neg hna]
 simp only [obi] at hr |-
 obtain ⟨x,h1,h2⟩:=hr
 exact ⟨x,h.2 _ _ _ _ h1,h2⟩
theorem NV (h:gz a b) {dr:Bool} {o:aI} {env:List V} {mem:List O} {r:V × List O} (hr:bY cfg a dr o env mem=some r):bY cfg b dr o env mem=some r:=by
 rcases o with ⟨dst,op,ty,gu⟩
 cases op
 case call c =>
  obtain ⟨callee,args,ats⟩:=c
  cases callee
  case value f =>
   simp only [bY,obi] at hr |-
   obtain ⟨fv,q1,args,q2,q3⟩:=hr
   refine ⟨fv,q1,args,q2,?_⟩
   cases fv<;>first | exact q3 | skip
   simp only at q3 |-
   split at q3
   ·rename_i hx
    rw [if_pos hx]
    split at q3
    ·cases q3
    ·rename_i hy;rw [if_neg hy];exact J3 h q3
   rename_i hx0
   rw [if_neg hx0]
   split at q3
   ·rename_i hx
    rw [if_pos hx]
    split at q3
    ·rename_i hy;rw [if_pos hy];exact We h q3
    ·cases q3
   ·rename_i hx;rw [if_neg hx];exact J3 h q3
  all_goals exact hr
 case makeFunc fn first caps=>cases fn<;>exact hr
 case makeMap t rs=>cases rs<;>exact hr
 all_goals exact hr
theorem BW (h:gz a b) {dr:Bool} {o:aI} {env:List V} {mem:List O} {r:V × List O} (hr:dw cfg a dr o env mem=some r):dw cfg b dr o env mem=some r:=by
 unfold dw at hr |-
 split at hr
 ·rename_i hx
  rw [if_pos hx]
  simp only [obi] at hr |-
  obtain ⟨x,q1,q2⟩:=hr
  exact ⟨x,NV h q1,q2⟩
 ·rename_i hx
  rw [if_neg hx]
  exact NV h hr
theorem N2 (h:gz a b) {dr:Bool}:∀(l:List aI) (s s':S),fQ cfg a dr l s=some s'->fQ cfg b dr l s=some s':=by
 intro l
 induction l with
 | nil=>intro s s' hr;exact hr
 | cons o l ih =>
  intro s s' hr
  simp only [fQ,obi] at hr |-
  obtain ⟨w,q1,q2⟩:=hr
  refine ⟨w,q1,?_⟩
  cases w
  ·exact ih _ _ q2
  ·simp only [if_true,obi] at q2 |-
   obtain ⟨x,q3,q4⟩:=q2
   exact ⟨x,BW h q3,ih _ _ q4⟩
theorem N3 (h:gz a b):∀(l:List aI) (s:S) (fs:List Nat) (r:S × List Nat),gV cfg a l s fs=some r->gV cfg b l s fs=some r:=by
 intro l
 induction l with
 | nil=>intro s fs r hr;exact hr
 | cons o l ih =>
  intro s fs r hr
  simp only [gV,obi] at hr |-
  obtain ⟨w,q1,q2⟩:=hr
  refine ⟨w,q1,?_⟩
  cases w
  ·exact ih _ _ _ q2
  ·simp only [if_true,obi] at q2 |-
   obtain ⟨x,q3,q4⟩:=q2
   exact ⟨x,BW h q3,ih _ _ _ q4⟩
theorem YY (h:gz a b) {dr:Bool} (l:List aI) (s s':S) (hr:kq cfg a dr l s=some s'):kq cfg b dr l s=some s':=by
 unfold kq at hr |-
 split at hr
 ·rename_i hc
  rw [if_pos hc]
  simp only [obi] at hr |-
  obtain ⟨r,q1,q2⟩:=hr
  exact ⟨r,N3 h _ _ _ _ q1,q2⟩
 ·rename_i hc
  rw [if_neg hc]
  exact N2 h _ _ _ hr
theorem Gd {f g:S->Option (Ex × S)} (h:∀s r,f s=some r->g s=some r):∀(n m:Nat) (s:S) (r:Ex × S),n<=m->dF f n s=some r->dF g m s=some r:=by
 intro n
 induction n with
 | zero=>intro m s r _ hr;simp [dF] at hr
 | succ n ih =>
  intro m s r hm hr
  cases m with
  | zero=>omega
  | succ m =>
   simp only [dF,obi] at hr |-
   obtain ⟨⟨x,s'⟩,q1,q2⟩:=hr
   refine ⟨(x,s'),h _ _ q1,?_⟩
   cases x
   ·exact ih m s' r (by omega) q2
   ·exact q2
   ·exact q2
theorem sZ (h:gz a b) {n m n0:Nat} (hm:n<=m):∀(c:C) (s:S) (r:Ex × S),exec cfg a n n0 c s=some r->exec cfg b m n0 c s=some r:=by
 intro c
 induction c with
 | skip=>intro s r hr;exact hr
 | ops dr l =>
  intro s r hr
  simp only [exec,obi] at hr |-
  obtain ⟨s',q1,q2⟩:=hr
  exact ⟨s',YY h _ _ _ q1,q2⟩
 | seq p q ihp ihq =>
  intro s r hr
  simp only [exec,obi] at hr |-
  obtain ⟨⟨x,s'⟩,q1,q2⟩:=hr
  refine ⟨(x,s'),ihp _ _ q1,?_⟩
  cases x
  ·exact ihq _ _ q2
  ·exact q2
  ·exact q2
 | cond c p q ihp ihq =>
  intro s r hr
  simp only [exec,obi] at hr |-
  obtain ⟨v,q1,q2⟩:=hr
  refine ⟨v,q1,?_⟩
  cases v<;>simp only at q2 |-<;>first | (cases q2;done) | skip
  split at q2
  ·rename_i t;rw [if_pos t];exact ihp _ _ q2
  ·rename_i t;rw [if_neg t];exact ihq _ _ q2
 | block id p ih =>
  intro s r hr
  simp only [exec,omi] at hr |-
  obtain ⟨x,q1,q2⟩:=hr
  exact ⟨x,ih _ _ q1,q2⟩
 | loop f p ih =>
  intro s r hr
  simp only [exec,omi] at hr |-
  obtain ⟨x,q1,q2⟩:=hr
  exact ⟨x,Gd (fun s r h=>ih _ _ h) n m s x hm q1,q2⟩
 | exit i=>intro s r hr;exact hr
 | ret=>intro s r hr;exact hr
 | start g=>intro s r hr;exact hr
 | cseq f p q ihp ihq =>
  intro s r hr
  simp only [exec,obi] at hr |-
  obtain ⟨⟨x,s'⟩,q1,q2⟩:=hr
  refine ⟨(x,s'),ihp _ _ q1,?_⟩
  cases x with
  | norm=>exact ihq _ _ q2
  | exit i=>exact q2
  | ret=>exact q2
 | uncons g ps ws p q ihp ihq =>
  intro s r hr
  simp only [exec] at hr |-
  cases he:s.env[g]? with
  | none=>simp only [he] at hr;cases hr
  | some v =>
   simp only [he] at hr |-
   cases v<;>first | (cases hr;done) | skip
   rename_i ts l
   cases l with
   | nil=>exact ihq _ _ hr
   | cons x l =>
    cases x<;>first | (cases hr;done) | skip
    try simp only at hr
    try simp only
    split at hr
    ·rename_i hc
     rw [if_pos hc]
     simp only [omi] at hr |-
     obtain ⟨x,q1,q2⟩:=hr
     exact ⟨x,ihp _ _ q1,q2⟩
    ·cases hr
theorem OW (h:gz a b) {n m:Nat} (hm:n<=m) {fa:FA} {args:List V} {mem:List O} {r:List V × List O} (hr:pG cfg a n fa args mem=some r):pG cfg b m fa args mem=some r:=by
 unfold pG at hr |-
 split at hr
 ·rename_i hc
  rw [if_pos hc]
  simp only [obi] at hr |-
  obtain ⟨x,q1,q2⟩:=hr
  exact ⟨x,sZ h hm _ _ _ q1,q2⟩
 ·cases hr
theorem Zh (h:gz a b) {n m:Nat} (hm:n<=m) {f:FuncId} {as0:List V} {r:V} (hr:n4 cfg a n f as0=some r):n4 cfg b m f as0=some r:=by
 unfold n4 at hr |-
 split at hr
 ·exact hr
 ·split at hr
  rotate_left
  ·cases hr
  rename_i hc
  rw [if_pos hc]
  simp only [obi] at hr |-
  obtain ⟨fa,q1,x,q2,q3⟩:=hr
  exact ⟨fa,q1,x,OW h hm q2,q3⟩
theorem WW (h:gz a b) {n m:Nat} (hm:n<=m) {f:FuncId} {as0:List V} {mem:List O} {r:V × List O} (hr:nL cfg a n f as0 mem=some r):nL cfg b m f as0 mem=some r:=by
 unfold nL at hr |-
 split at hr
 ·exact hr
 ·simp only [obi,omi] at hr |-
  obtain ⟨fa,q1,x,q2,q3⟩:=hr
  exact ⟨fa,q1,x,OW h hm q2,q3⟩
theorem SB (n:Nat):gz (dU cfg n) (dU cfg (n+1)):=by
 induction n with
 | zero=>exact ⟨fun f as0 r h=>by simp [dU] at h,fun f as0 m r h=>by simp [dU] at h⟩
 | succ n ih=>exact ⟨fun f as0 r h=>Zh ih (Nat.le_succ n) h,fun f as0 m r h=>WW ih (Nat.le_succ n) h⟩
theorem gz.refl (a:cv):gz a a:=⟨fun _ _ _ h=>h,fun _ _ _ _ h=>h⟩
theorem gz.trans {c:cv} (h:gz a b) (h':gz b c):gz a c:=⟨fun f as0 r q=>h'.1 f as0 r (h.1 f as0 r q),fun f as0 m r q=>h'.2 f as0 m r (h.2 f as0 m r q)⟩
theorem lD {n m:Nat} (h:n<=m):gz (dU cfg n) (dU cfg m):=by
 induction m with
 | zero=>have:n=0:=by omega
         subst this;exact gz.refl _
 | succ m ih =>
  by_cases e:n=m+1
  ·subst e;exact gz.refl _
  ·exact (ih (by omega)).trans (SB m)
open Classical in
noncomputable def tv {α:Type} (f:Nat->Option α):Option α:=if h:∃n,(f n).isSome=true then f (Classical.choose h) else none
def zH {α:Type} (f:Nat->Option α):Prop:=∀n m x,n<=m->f n=some x->f m=some x
theorem BG {α:Type} {f:Nat->Option α} {x:α} (h:tv f=some x):∃n,f n=some x:=by
 unfold tv at h
 split at h
 ·exact ⟨_,h⟩
 ·cases h
theorem vL {α:Type} {f:Nat->Option α} (hf:zH f) {n:Nat} {x:α} (h:f n=some x):tv f=some x:=by
 unfold tv
 have he:∃n,(f n).isSome=true:=⟨n,by simp [h]⟩
 rw [dif_pos he]
 have h1:(f (Classical.choose he)).isSome=true:=Classical.choose_spec he
 generalize Classical.choose he=k at h1
 cases h2:f k with
 | none=>simp [h2] at h1
 | some y =>
  have e1:=hf k (max k n) y (uM _ _) h2
  have e2:=hf n (max k n) x (uN _ _) h
  rw [e1] at e2
  exact e2
end
end Go.Lite
namespace Go.Lite
open Go
noncomputable def bo (cfg:bl) (f:FuncId) (as0:List V):Option V:=tv fun n=>(dU cfg n).pc f as0
noncomputable def mB (cfg:bl) (f:FuncId) (as0:List V) (mem:List O):Option (V × List O):=tv fun n=>(dU cfg n).ic f as0 mem
noncomputable def iq (cfg:bl):cv:=⟨bo cfg,mB cfg⟩
noncomputable def yi (step:S->Option (Ex × S)) (s:S):Option (Ex × S):=tv fun n=>dF step n s
noncomputable def cg (cfg:bl) (n0:Nat):C->S->Option (Ex × S)
 | .skip,s=>some (.norm,s)
 | .ops dr l,s=>(kq cfg (iq cfg) dr l s).bind fun s=>if !dr || qB cfg l s.env then some (.norm,s) else none
 | .seq a b,s=>(cg cfg n0 a s).bind fun r =>
   match r with
   |(.norm,s')=>cg cfg n0 b s'
   |(.exit i,s')=>some (.exit i,s')
   |(.ret,s')=>some (.ret,s')
 | .cond c a b,s=>(aP s.env c).bind fun v =>
   match v with
   | .bool t=>if t then cg cfg n0 a s else cg cfg n0 b s
   | _=>none
 | .block id c,s=>(cg cfg n0 c s).map fun r =>
   match r with
   |(.norm,s')=>(.norm,s')
   |(.exit i,s')=>if i=id then (.norm,s') else (.exit i,s')
   |(.ret,s')=>(.ret,s')
 | .loop f c,s=>(yi (fun s=>cg cfg n0 c (cU n0 f s)) s).map fun r=>(r.1,cU n0 f r.2)
 | .exit i,s=>some (.exit i,s)
 | .ret,s=>some (.ret,s)
 | .start g,s=>(uu cfg g s).map fun s=>(.norm,s)
 | .uncons g ps ws a b,s =>
  match s.env[g]? with
  | some (.rest _ [])=>cg cfg n0 b s
  | some (.rest ts (.tup vs::l)) =>
   if vs.length=ps.length then (cg cfg n0 a ⟨ug (s.env.set g .junk) ps vs,s.mem⟩).map fun r=>(r.1,⟨(fB r.2.env ws).set g (.rest ts l),r.2.mem⟩) else none
  | _=>none
 | .cseq f a b,s=>(cg cfg n0 a s).bind fun r =>
   match r with
   |(.norm,s')=>cg cfg n0 b (cU n0 f s')
   |(.exit i,s')=>some (.exit i,s')
   |(.ret,s')=>some (.ret,s')
noncomputable def rv (cfg:bl) (fa:FA) (args:List V) (mem:List O):Option (List V × List O) :=
 if args.length=fa.np/\fa.np<=fa.nt then
  (cg cfg mem.length fa.body ⟨args++bH (fa.nt - fa.np) (.tup []),mem⟩).bind fun r =>
   match r with
   |(.exit _,_)=>none
   |(_,s)=>(bA (mN cfg.P s) fa.results).map fun vs=>(vs,s.mem)
 else none
section
variable {cfg:bl}
theorem Zj (f:FuncId) (as0:List V):zH fun n=>(dU cfg n).pc f as0:=fun _ _ _ h q=>(lD h).1 _ _ _ q
theorem Mz (f:FuncId) (as0:List V) (mem:List O):zH fun n=>(dU cfg n).ic f as0 mem:=fun _ _ _ h q=>(lD h).2 _ _ _ _ q
theorem Oh {f:FuncId} {as0:List V} {r:V} (h:bo cfg f as0=some r):∃n,(dU cfg n).pc f as0=some r:=BG h
theorem FX {f:FuncId} {as0:List V} {mem:List O} {r:V × List O} (h:mB cfg f as0 mem=some r):∃n,(dU cfg n).ic f as0 mem=some r:=BG h
theorem Oi {f:FuncId} {as0:List V} {r:V} (n:Nat) (h:(dU cfg n).pc f as0=some r):bo cfg f as0=some r:=vL (Zj f as0) h
theorem J2 {dr:Bool} {f:FuncId} {args:List V} {mem:List O} {r:V × List O} (hr:iC cfg (iq cfg) dr f args mem=some r):∃n,iC cfg (dU cfg n) dr f args mem=some r:=by
 unfold iC at hr
 split at hr
 ·cases hr
 ·rename_i h1
  split at hr
  ·rename_i h2
   simp only [obi] at hr
   obtain ⟨as0,q1,x,q2,q3⟩:=hr
   obtain ⟨n,hn⟩:=Oh q2
   refine ⟨n,?_⟩
   unfold iC
   rw [if_neg h1,if_pos h2]
   simp only [obi]
   exact ⟨as0,q1,x,hn,q3⟩
  ·rename_i h2
   split at hr
   ·cases hr
   ·rename_i h3
    cases hcf:cfg.can f with
    | none =>
     rw [hcf] at hr
     obtain ⟨n,hn⟩:=FX hr
     refine ⟨n,?_⟩
     unfold iC
     rw [if_neg h1,if_neg h2,if_neg h3,hcf]
     exact hn
    | some rd =>
     rw [hcf] at hr
     obtain ⟨hr,hro⟩:=Cj hr
     simp only [qm,omi] at hr
     obtain ⟨x,q1,q2⟩:=hr
     obtain ⟨n,hn⟩:=FX q1
     refine ⟨n,?_⟩
     unfold iC
     rw [if_neg h1,if_neg h2,if_neg h3,hcf]
     refine Hd ?_ hro
     simp only [qm,omi]
     exact ⟨x,hn,q2⟩
theorem NT {dr:Bool} {o:aI} {env:List V} {mem:List O} {r:V × List O} (hr:bY cfg (iq cfg) dr o env mem=some r):∃n,bY cfg (dU cfg n) dr o env mem=some r:=by
 rcases o with ⟨dst,op,ty,gu⟩
 cases op
 case call c =>
  obtain ⟨callee,args,ats⟩:=c
  cases callee
  case value f =>
   simp only [bY,obi] at hr |-
   obtain ⟨fv,q1,args,q2,q3⟩:=hr
   cases fv
   case fn f caps =>
    simp only at q3
    split at q3
    ·rename_i hx
     split at q3
     ·cases q3
     rename_i hy
     obtain ⟨n,hn⟩:=J2 q3
     exact ⟨n,_,q1,args,q2,by simp only;rw [if_pos hx,if_neg hy];exact hn⟩
    rename_i hx0
    split at q3
    ·rename_i hx
     split at q3
     ·rename_i hy
      unfold nI at q3
      split at q3
      ·cases q3
      rename_i hna
      simp only [obi] at q3
      obtain ⟨x,h1,h2⟩:=q3
      obtain ⟨n,hn⟩:=FX h1
      refine ⟨n,_,q1,args,q2,?_⟩
      simp only
      rw [if_neg hx0,if_pos hx,if_pos hy]
      unfold nI
      rw [if_neg hna]
      simp only [obi]
      exact ⟨x,hn,h2⟩
     ·cases q3
    ·rename_i hx
     obtain ⟨n,hn⟩:=J2 q3
     exact ⟨n,_,q1,args,q2,by simp only;rw [if_neg hx0,if_neg hx];exact hn⟩
   all_goals cases q3
  all_goals exact ⟨0,hr⟩
 case makeFunc fn first caps=>cases fn<;>exact ⟨0,hr⟩
 case makeMap t rs=>cases rs<;>exact ⟨0,hr⟩
 all_goals exact ⟨0,hr⟩
theorem NZ {dr:Bool} {o:aI} {env:List V} {mem:List O} {r:V × List O} (hr:dw cfg (iq cfg) dr o env mem=some r):∃n,dw cfg (dU cfg n) dr o env mem=some r:=by
 unfold dw at hr
 split at hr
 ·rename_i hx
  simp only [obi] at hr
  obtain ⟨x,q1,q2⟩:=hr
  obtain ⟨n,hn⟩:=NT q1
  refine ⟨n,?_⟩
  unfold dw
  rw [if_pos hx,hn]
  exact q2
 ·rename_i hx
  obtain ⟨n,hn⟩:=NT hr
  refine ⟨n,?_⟩
  unfold dw
  rw [if_neg hx]
  exact hn
theorem YV {dr:Bool}:∀(l:List aI) (s s':S),fQ cfg (iq cfg) dr l s=some s'->∃n,fQ cfg (dU cfg n) dr l s=some s':=by
 intro l
 induction l with
 | nil=>intro s s' hr;exact ⟨0,hr⟩
 | cons o l ih =>
  intro s s' hr
  simp only [fQ,obi] at hr |-
  obtain ⟨w,q1,q2⟩:=hr
  cases w
  ·obtain ⟨n,hn⟩:=ih _ _ q2
   exact ⟨n,false,q1,hn⟩
  ·simp only [if_true,obi] at q2
   obtain ⟨x,q3,q4⟩:=q2
   obtain ⟨n,hn⟩:=ih _ _ q4
   obtain ⟨m,hm⟩:=NZ q3
   refine ⟨max n m,true,q1,?_⟩
   simp only [if_true,obi]
   exact ⟨x,BW (lD (uN n m)) hm,N2 (lD (uM n m)) _ _ _ hn⟩
theorem Y1:∀(l:List aI) (s:S) (fs:List Nat) (r:S × List Nat),gV cfg (iq cfg) l s fs=some r->∃n,gV cfg (dU cfg n) l s fs=some r:=by
 intro l
 induction l with
 | nil=>intro s fs r hr;exact ⟨0,hr⟩
 | cons o l ih =>
  intro s fs r hr
  simp only [gV,obi] at hr |-
  obtain ⟨w,q1,q2⟩:=hr
  cases w
  ·obtain ⟨n,hn⟩:=ih _ _ _ q2
   exact ⟨n,false,q1,hn⟩
  ·simp only [if_true,obi] at q2
   obtain ⟨x,q3,q4⟩:=q2
   obtain ⟨n,hn⟩:=ih _ _ _ q4
   obtain ⟨m,hm⟩:=NZ q3
   refine ⟨max n m,true,q1,?_⟩
   simp only [if_true,obi]
   exact ⟨x,BW (lD (uN n m)) hm,N3 (lD (uM n m)) _ _ _ _ hn⟩
theorem YX {dr:Bool} (l:List aI) (s s':S) (hr:kq cfg (iq cfg) dr l s=some s'):∃n,kq cfg (dU cfg n) dr l s=some s':=by
 unfold kq at hr
 split at hr
 ·rename_i hc
  simp only [obi] at hr
  obtain ⟨r,q1,q2⟩:=hr
  obtain ⟨n,hn⟩:=Y1 _ _ _ _ q1
  exact ⟨n,by unfold kq;rw [if_pos hc,hn];exact q2⟩
 ·rename_i hc
  obtain ⟨n,hn⟩:=YV _ _ _ hr
  exact ⟨n,by unfold kq;rw [if_neg hc];exact hn⟩
def Dh (cfg:bl) (n0:Nat) (c:C) (s:S) (r:Ex × S):Prop:=∃n,exec cfg (dU cfg n) n n0 c s=some r
theorem Xr {n0:Nat} {c:C} {g:S->S} {step:S->Option (Ex × S)} (h:∀s r,step s=some r->Dh cfg n0 c (g s) r):∀(k:Nat) (s:S) (r:Ex × S),dF step k s=some r ->
  ∃n,dF (fun s=>exec cfg (dU cfg n) n n0 c (g s)) n s=some r:=by
 intro k
 induction k with
 | zero=>intro s r hr;simp [dF] at hr
 | succ k ih =>
  intro s r hr
  simp only [dF,obi] at hr
  obtain ⟨⟨x,s'⟩,q1,q2⟩:=hr
  obtain ⟨n,hn⟩:=h _ _ q1
  have up:∀N,n<=N->exec cfg (dU cfg N) N n0 c (g s)=some (x,s'):=fun N hN=>sZ (lD hN) hN _ _ _ hn
  cases x with
  | norm =>
   obtain ⟨m,hm⟩:=ih s' r q2
   refine ⟨max n m+1,?_⟩
   simp only [dF,obi]
   refine ⟨(.norm,s'),up _ (by omega),?_⟩
   exact Gd (fun s r q=>sZ (lD (by omega:m<=max n m+1)) (by omega) _ _ _ q) m (max n m) s' r (by omega) hm
  | exit i=>exact ⟨n+1,by simp only [dF,obi];exact ⟨_,up _ (by omega),q2⟩⟩
  | ret=>exact ⟨n+1,by simp only [dF,obi];exact ⟨_,up _ (by omega),q2⟩⟩
theorem VP {n0:Nat}:∀(c:C) (s:S) (r:Ex × S),cg cfg n0 c s=some r->Dh cfg n0 c s r:=by
 intro c
 induction c with
 | skip=>intro s r hr;exact ⟨0,hr⟩
 | ops dr l =>
  intro s r hr
  simp only [cg,obi] at hr
  obtain ⟨s',q1,q2⟩:=hr
  obtain ⟨n,hn⟩:=YX _ _ _ q1
  exact ⟨n,by simp only [exec,obi];exact ⟨s',hn,q2⟩⟩
 | seq p q ihp ihq =>
  intro s r hr
  simp only [cg,obi] at hr
  obtain ⟨⟨x,s'⟩,q1,q2⟩:=hr
  obtain ⟨n,hn⟩:=ihp _ _ q1
  cases x with
  | norm =>
   obtain ⟨m,hm⟩:=ihq _ _ q2
   refine ⟨max n m,?_⟩
   simp only [exec,obi]
   exact ⟨_,sZ (lD (uM n m)) (uM n m) _ _ _ hn,sZ (lD (uN n m)) (uN n m) _ _ _ hm⟩
  | exit i=>exact ⟨n,by simp only [exec,obi];exact ⟨_,hn,q2⟩⟩
  | ret=>exact ⟨n,by simp only [exec,obi];exact ⟨_,hn,q2⟩⟩
 | cond c p q ihp ihq =>
  intro s r hr
  simp only [cg,obi] at hr
  obtain ⟨v,q1,q2⟩:=hr
  cases v<;>simp only at q2<;>first | (cases q2;done) | skip
  rename_i t
  cases t
  ·obtain ⟨n,hn⟩:=ihq _ _ q2
   exact ⟨n,by simp only [exec,obi];exact ⟨_,q1,hn⟩⟩
  ·obtain ⟨n,hn⟩:=ihp _ _ q2
   exact ⟨n,by simp only [exec,obi];exact ⟨_,q1,hn⟩⟩
 | block id p ih =>
  intro s r hr
  simp only [cg,omi] at hr
  obtain ⟨x,q1,q2⟩:=hr
  obtain ⟨n,hn⟩:=ih _ _ q1
  exact ⟨n,by simp only [exec,omi];exact ⟨x,hn,q2⟩⟩
 | loop f p ih =>
  intro s r hr
  simp only [cg,omi] at hr
  obtain ⟨x,q1,q2⟩:=hr
  obtain ⟨k,hk⟩:=BG q1
  obtain ⟨n,hn⟩:=Xr (g:=cU n0 f) (fun s r h=>ih _ _ h) k s x hk
  exact ⟨n,by simp only [exec,omi];exact ⟨x,hn,q2⟩⟩
 | exit i=>intro s r hr;exact ⟨0,hr⟩
 | ret=>intro s r hr;exact ⟨0,hr⟩
 | start g=>intro s r hr;exact ⟨0,hr⟩
 | cseq f p q ihp ihq =>
  intro s r hr
  simp only [cg,obi] at hr
  obtain ⟨⟨x,s'⟩,q1,q2⟩:=hr
  obtain ⟨n,hn⟩:=ihp _ _ q1
  cases x with
  | norm =>
   obtain ⟨m,hm⟩:=ihq _ _ q2
   refine ⟨max n m,?_⟩
   simp only [exec,obi]
   exact ⟨_,sZ (lD (uM n m)) (uM n m) _ _ _ hn,sZ (lD (uN n m)) (uN n m) _ _ _ hm⟩
  | exit i=>exact ⟨n,by simp only [exec,obi];exact ⟨_,hn,q2⟩⟩
  | ret=>exact ⟨n,by simp only [exec,obi];exact ⟨_,hn,q2⟩⟩
 | uncons g ps ws p q ihp ihq =>
  intro s r hr
  unfold Dh
  simp only [cg] at hr
  simp only [exec]
  cases he:s.env[g]? with
  | none=>simp only [he] at hr;cases hr
  | some v =>
   simp only [he] at hr |-
   cases v<;>first | (cases hr;done) | skip
   rename_i ts l
   cases l with
   | nil=>exact ihq _ _ hr
   | cons x l =>
    cases x<;>first | (cases hr;done) | skip
    try simp only at hr
    try simp only
    split at hr
    ·rename_i hc
     simp only [omi] at hr
     obtain ⟨x,q1,q2⟩:=hr
     obtain ⟨n,hn⟩:=ihp _ _ q1
     exact ⟨n,by rw [if_pos hc,hn,cB,q2]⟩
    ·cases hr
theorem OX {fa:FA} {args:List V} {mem:List O} {r:List V × List O} (hr:rv cfg fa args mem=some r):∃n,pG cfg (dU cfg n) n fa args mem=some r:=by
 unfold rv at hr
 split at hr
 ·rename_i hc
  simp only [obi] at hr
  obtain ⟨x,q1,q2⟩:=hr
  obtain ⟨n,hn⟩:=VP _ _ _ q1
  refine ⟨n,?_⟩
  unfold pG
  rw [if_pos hc]
  simp only [obi]
  exact ⟨x,hn,q2⟩
 ·cases hr
theorem Zi {f:FuncId} {as0:List V} {fa:FA} {vs:List V} {mem:List O} {r:V} (hp:cfg.pprim f=none) (hf:fX cfg.P (cfg.rxf f) f=some fa) (hr:rv cfg fa as0 []=some (vs,mem)) (hg:mz cfg.P mem fa.rtypes vs=some r) (ha:cfg.ars f=[]:=by rfl) :
  bo cfg f as0=some r:=by
 obtain ⟨n,hn⟩:=OX hr
 apply Oi (n+1)
 show n4 cfg (dU cfg n) n f as0=some r
 unfold n4
 rw [hp]
 have h1:Aq cfg f as0=true:=by unfold Aq;rw [ha];rfl
 have h2:oR cfg f=[]:=by unfold oR;rw [ha];rfl
 simp only [h1,h2,if_true,hf,aL,hn]
 unfold Bg
 rw [ha]
 exact hg
theorem My {f:FuncId} {as0:List V} {fa:FA} {vs:List V} {mem mem':List O} (hp:cfg.iprim f=none) (hf:fX cfg.P (cfg.rxf f) f=some fa) (hr:rv cfg fa as0 mem=some (vs,mem')) :
  mB cfg f as0 mem=some (pL vs,mem'):=by
 obtain ⟨n,hn⟩:=OX hr
 refine vL (Mz f as0 mem) (n:=n+1) ?_
 show nL cfg (dU cfg n) n f as0 mem=_
 unfold nL
 rw [hp]
 simp only [hf,aL,hn,cB]
theorem B3 {f:FuncId} {as0:List V} {g:List V->Option V} {r:V} (hp:cfg.pprim f=some g) (h:g as0=some r):bo cfg f as0=some r:=by
 apply Oi 1
 show n4 cfg (dU cfg 0) 0 f as0=some r
 unfold n4
 rw [hp]
 exact h
theorem yd {f:FuncId} {as0:List V} {mem:List O} {g:List V->List O->Option (V × List O)} {r:V × List O} (hp:cfg.iprim f=some g) (h:g as0 mem=some r):mB cfg f as0 mem=some r:=by
 refine vL (Mz f as0 mem) (n:=1) ?_
 show nL cfg (dU cfg 0) 0 f as0 mem=some r
 unfold nL
 rw [hp]
 exact h
theorem Gc (step:S->Option (Ex × S)) (s:S):zH fun n=>dF step n s:=fun n m x h q=>Gd (fun _ _ h=>h) n m s x h q
theorem Xp {step:S->Option (Ex × S)} {s s':S} {r:Ex × S} (h:step s=some (.norm,s')) (hr:yi step s'=some r):yi step s=some r:=by
 obtain ⟨k,hk⟩:=BG hr
 refine vL (Gc step s) (n:=k+1) ?_
 simp only [dF,h,aL,hk]
theorem Xo {step:S->Option (Ex × S)} {s s':S} {i:Nat} (h:step s=some (.exit i,s')):yi step s=some (.exit i,s'):=by
 refine vL (Gc step s) (n:=1) ?_
 simp only [dF,h,aL]
theorem Xq {step:S->Option (Ex × S)} {s s':S} (h:step s=some (.ret,s')):yi step s=some (.ret,s'):=by
 refine vL (Gc step s) (n:=1) ?_
 simp only [dF,h,aL]
end
structure Rc where
 f:FuncId
 args:List V
 mem:List O
 res:V × List O
section
variable {cfg:bl} {T:List Rc} {U:List (FuncId × List V × V)}
end
end Go.Lite
