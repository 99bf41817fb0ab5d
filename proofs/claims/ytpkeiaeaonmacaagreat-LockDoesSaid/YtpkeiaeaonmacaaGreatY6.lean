/-
  Texts that the last one stands on.
-/
import Derived.Test.YtpkeiaeaonmacaaGreatY5
namespace Go.Proofs.YtpkeiaeaonmacaaGreat
open Go Go.Lite
set_option linter.unusedSimpArgs false
set_option linter.unusedVariables false
set_option linter.unnecessarySimpa false
set_option maxRecDepth 10000
section
variable {α:Type} {l:List (Int × α)} {o o':Int} {a:α}
abbrev keys (l:List (Int × α)):List Int:=l.map (·.1)
theorem getA_out (h:o∉keys l):getA l o=none:=by
 cases hg:getA l o with
 | none=>rfl
 | some a=>exact absurd (List.mem_map.2 ⟨_,getA_mem hg,rfl⟩) h
theorem getA_of (hn:(keys l).Nodup) (h:(o,a)∈l):getA l o=some a:=by
 induction l with
 | nil=>cases h
 | cons p l ih =>
  rw [getA_cons]
  rcases List.mem_cons.1 h with rfl | h
  ·rw [if_pos rfl]
  ·have hne:p.1≠o:=fun e=>(List.nodup_cons.1 hn).1 (List.mem_map.2 ⟨_,h,e.symm⟩)
   rw [if_neg hne]
   exact ih (List.nodup_cons.1 hn).2 h
theorem getA_put_self:getA (putA l o a) o=some a:=by
 induction l with
 | nil=>simp [putA,getA]
 | cons p l ih =>
  unfold putA
  by_cases h:(o==p.1)=true
  ·rw [if_pos h,getA_cons,if_pos (by simpa using (by simpa using h:o=p.1).symm)]
  ·rw [if_neg h,getA_cons,if_neg (by simpa using fun e=>h (by simp [e])),ih]
theorem getA_put_ne (h:o'≠o):getA (putA l o a) o'=getA l o':=by
 induction l with
 | nil=>simp [putA,getA,Ne.symm h]
 | cons p l ih =>
  unfold putA
  by_cases hp:(o==p.1)=true
  ·have hp':o=p.1:=by simpa using hp
   rw [if_pos hp,getA_cons,getA_cons,if_neg (by rw [<-hp'];exact h.symm),if_neg (by rw [<-hp'];exact h.symm)]
  ·rw [if_neg hp,getA_cons,getA_cons,ih]
theorem keys_put:keys (putA l o a)=if o∈keys l then keys l else keys l++[o]:=by
 induction l with
 | nil=>simp [putA,keys]
 | cons p l ih =>
  unfold putA
  by_cases hp:(o==p.1)=true
  ·have hp':o=p.1:=by simpa using hp
   rw [if_pos hp,if_pos (by simp [keys,hp'])];rfl
  ·have hp':o≠p.1:=by simpa using hp
   rw [if_neg hp]
   show p.1::keys (putA l o a)=_
   rw [ih]
   by_cases hm:o∈keys l
   ·rw [if_pos hm,if_pos (show o∈keys (p::l) from List.mem_cons_of_mem _ hm)];rfl
   ·rw [if_neg hm,if_neg (show o∉keys (p::l) from fun h=>by rcases List.mem_cons.1 h with h | h;exact hp' h;exact hm h)];rfl
theorem nodup_put (hn:(keys l).Nodup):(keys (putA l o a)).Nodup:=by
 rw [keys_put]
 split
 ·exact hn
 ·rename_i h
  rw [List.nodup_append]
  refine ⟨hn,by simp,fun x hx y hy=>?_⟩
  simp only [List.mem_singleton] at hy
  rw [hy];rintro rfl;exact h hx
theorem nodup_del (hn:(keys l).Nodup):(keys (delA l o)).Nodup:=hn.sublist ((delA_sub l o).map _)
theorem mem_put (hn:(keys l).Nodup) {p:Int × α} (h:p∈putA l o a):(p∈l/\p.1≠o)∨p=(o,a):=by
 by_cases hp:p.1=o
 ·right
  have h1:=getA_of (nodup_put (o:=o) (a:=a) hn) (show (p.1,p.2)∈putA l o a from h)
  rw [hp,getA_put_self] at h1
  rw [Option.some.inj h1,<-hp]
 ·rcases putA_mem h with h | rfl
  ·exact .inl ⟨h,hp⟩
  ·exact absurd rfl hp
theorem put_mem:(o,a)∈putA l o a:=getA_mem getA_put_self
theorem put_old {p:Int × α} (h:p∈l) (hp:p.1≠o):p∈putA l o a:=by
 induction l with
 | nil=>cases h
 | cons x l ih =>
  unfold putA
  by_cases hx:(o==x.1)=true
  ·have hx':o=x.1:=by simpa using hx
   rw [if_pos hx]
   rcases List.mem_cons.1 h with rfl | h
   ·exact absurd hx'.symm hp
   ·simp [h]
  ·rw [if_neg hx]
   rcases List.mem_cons.1 h with rfl | h
   ·simp
   ·simp [ih h]
theorem mem_del (hn:(keys l).Nodup) {p:Int × α}:p∈delA l o↔p∈l/\p.1≠o:=by
 induction l with
 | nil=>simp [delA]
 | cons x l ih =>
  have hx:=List.nodup_cons.1 hn
  unfold delA
  by_cases h:(o==x.1)=true
  ·have h':o=x.1:=by simpa using h
   rw [if_pos h]
   constructor
   ·intro hp
    exact ⟨by simp [hp],fun e=>hx.1 (List.mem_map.2 ⟨p,hp,e.trans h'⟩)⟩
   ·rintro ⟨hp,hne⟩
    rcases List.mem_cons.1 hp with rfl | hp
    ·exact absurd h'.symm hne
    ·exact hp
  ·have h':o≠x.1:=by simpa using h
   rw [if_neg h,List.mem_cons,ih hx.2,List.mem_cons]
   constructor
   ·rintro (rfl | ⟨h1,h2⟩)
    ·exact ⟨.inl rfl,Ne.symm h'⟩
    ·exact ⟨.inr h1,h2⟩
   ·rintro ⟨rfl | h1,h2⟩
    ·exact .inl rfl
    ·exact .inr ⟨h1,h2⟩
theorem getA_del_self (hn:(keys l).Nodup):getA (delA l o) o=none:=getA_out fun h=>by
 obtain ⟨p,hp,e⟩:=List.mem_map.1 h
 exact ((mem_del hn).1 hp).2 e
theorem getA_del_ne (h:o'≠o):getA (delA l o) o'=getA l o':=by
 induction l with
 | nil=>rfl
 | cons p l ih =>
  unfold delA
  by_cases hp:(o==p.1)=true
  ·have hp':o=p.1:=by simpa using hp
   rw [if_pos hp,getA_cons,if_neg (by rw [<-hp'];exact h.symm)]
  ·rw [if_neg hp,getA_cons,getA_cons,ih]
end
theorem fits_symm (a b:Int):fitsB a b=fitsB b a:=by
 by_cases ha:0<=a/\a < 7
 ·by_cases hb:0<=b/\b < 7
  ·rcases seven ha with rfl | rfl | rfl | rfl | rfl | rfl | rfl<;>rcases seven hb with rfl | rfl | rfl | rfl | rfl | rfl | rfl<;>rfl
  ·rw [fitsB_out fun h=>hb h.2,fitsB_out fun h=>hb h.1]
 ·rw [fitsB_out fun h=>ha h.1,fitsB_out fun h=>ha h.2]
theorem six {a:Int} (h:1<=a/\a<=6):a=1∨a=2∨a=3∨a=4∨a=5∨a=6:=by omega
theorem join_rng {a b:Int} (ha:0<=a/\a < 7) (hb:1<=b/\b<=6):1<=joinB a b/\joinB a b<=6:=by
 rcases seven ha with rfl | rfl | rfl | rfl | rfl | rfl | rfl<;>rcases six hb with rfl | rfl | rfl | rfl | rfl | rfl<;>decide
theorem join_cov {a b:Int} (ha:0<=a/\a < 7) (hb:1<=b/\b<=6):coversB (joinB a b) a=true/\coversB (joinB a b) b=true:=by
 rcases seven ha with rfl | rfl | rfl | rfl | rfl | rfl | rfl<;>rcases six hb with rfl | rfl | rfl | rfl | rfl | rfl<;>decide
theorem cov_fit {a b x:Int} (h:coversB a b=true) (hf:fitsB a x=true):fitsB b x=true:=by
 have hab:(0<=a/\a < 7)/\0<=b/\b < 7:=Classical.byContradiction fun hn=>by rw [coversB_out hn] at h;cases h
 have hx:0<=x/\x < 7:=Classical.byContradiction fun hn=>by rw [fitsB_out fun h=>hn h.2] at hf;cases hf
 revert h hf
 rcases seven hab.1 with rfl | rfl | rfl | rfl | rfl | rfl | rfl<;>rcases seven hab.2 with rfl | rfl | rfl | rfl | rfl | rfl | rfl<;>rcases seven hx with rfl | rfl | rfl | rfl | rfl | rfl | rfl<;>decide
theorem canB_iff {hs:HQ} {o m:Int}:canB hs o m=true↔∀p∈hs,p.1=o∨fitsB p.2 m=true:=by
 unfold canB
 rw [List.all_eq_true]
 constructor
 ·intro h p hp;simpa using h p hp
 ·intro h p hp;simpa using h p hp
theorem canB_not {hs:HQ} {o m:Int}:canB hs o m=false↔∃p∈hs,p.1≠o/\fitsB p.2 m=false:=by
 rw [<-Bool.not_eq_true,canB_iff]
 constructor
 ·intro h
  apply Classical.byContradiction
  intro hn
  refine h fun p hp=>?_
  by_cases h1:p.1=o
  ·exact .inl h1
  ·right
   cases hf:fitsB p.2 m with
   | true=>rfl
   | false=>exact absurd ⟨p,hp,h1,hf⟩ hn
 ·rintro ⟨p,hp,h1,h2⟩ h
  rcases h p hp with h | h
  ·exact h1 h
  ·rw [h2] at h;cases h
section
variable {B B':Int->List Int}
theorem Rch.mono (h:∀o x,x∈B' o->x∈B o) {a b:Int} (hr:Rch B' a b):Rch B a b:=by
 induction hr with
 | one hx=>exact .one (h _ _ hx)
 | step hx _ ih=>exact .step (h _ _ hx) ih
theorem Rch.ne {a b:Int} (hr:Rch B a b):B a≠[]:=by
 cases hr with
 | one hx=>exact List.ne_nil_of_mem hx
 | step hx _=>exact List.ne_nil_of_mem hx
theorem acy_sink (h:∀o x,x∈B' o->x∈B o∨B' x=[]) (ha:∀o,¬Rch B o o):∀o,¬Rch B' o o:=by
 have key:∀a b,Rch B' a b->Rch B a b∨B' b=[]:=by
  intro a b hr
  induction hr with
  | one hx=>rcases h _ _ hx with h1 | h1;exact .inl (.one h1);exact .inr h1
  | step hx hr ih =>
   rcases h _ _ hx with h1 | h1
   ·rcases ih with h2 | h2
    ·exact .inl (.step h1 h2)
    ·exact .inr h2
   ·exact absurd h1 hr.ne
 intro o hr
 rcases key o o hr with h1 | h1
 ·exact ha o h1
 ·exact hr.ne h1
theorem acy_one {o:Int} (h:∀a x,a≠o->x∈B' a->x∈B a∨x=o) (ho:¬Rch B' o o) (ha:∀o,¬Rch B o o):∀a,¬Rch B' a a:=by
 have key:∀a b,Rch B' a b->a=o∨Rch B a b∨(Rch B' a o/\(b=o∨Rch B' o b)):=by
  intro a b hr
  induction hr with
  | @one a x hx =>
   by_cases e:a=o
   ·exact .inl e
   ·rcases h _ _ e hx with h1 | rfl
    ·exact .inr (.inl (.one h1))
    ·exact .inr (.inr ⟨.one hx,.inl rfl⟩)
  | @step a x b hx hr ih =>
   by_cases e:a=o
   ·exact .inl e
   ·rcases h _ _ e hx with h1 | rfl
    ·rcases ih with rfl | ih | ⟨ih1,ih2⟩
     ·exact .inr (.inr ⟨.one hx,.inr hr⟩)
     ·exact .inr (.inl (.step h1 ih))
     ·exact .inr (.inr ⟨.step hx ih1,ih2⟩)
    ·exact .inr (.inr ⟨.one hx,.inr hr⟩)
 intro a hr
 rcases key a a hr with rfl | h1 | ⟨h1,rfl | h2⟩
 ·exact ho hr
 ·exact ha a h1
 ·exact ho hr
 ·exact ho (h2.trans h1)
end
def tot (L:List Lk):Nat:=(L.map fun e=>e.held.length+e.q.length).sum
structure WG (b:Int) (n:Nat) (S:Bs->Prop) (L:List Lk) (W:WL):Prop where
 bb:b<=9223372036854775808
 nd:(nms L).Nodup
 hn:∀e∈L,(keys e.held).Nodup
 qn:∀e∈L,(keys e.q).Nodup
 wn:(keys W).Nodup
 wq:WQ L W
 wok:WOK L W
 tot:tot L<=n
 rh:∀e∈L,∀p∈e.held,0<=p.1/\p.1 < b
 rq:∀e∈L,∀p∈e.q,0<=p.1/\p.1 < b
 hm:∀e∈L,∀p∈e.held,1<=p.2/\p.2<=6
 qm:∀e∈L,∀p∈e.q,1<=p.2/\p.2<=6
 fit:∀e∈L,∀p∈e.held,∀p'∈e.held,p.1≠p'.1->fitsB p.2 p'.2=true
 nb:∀e∈L,∀p∈e.q,getA e.held p.1≠some p.2
 acy:∀o,¬Rch (behA L W) o o
 ne:∀e∈L,¬S e.nm->e.held≠[]∨e.q≠[]
 first:∀e∈L,¬S e.nm->∀p r,e.q=p::r->canB e.held p.1 p.2=false
abbrev Good (b:Int) (n:Nat) (L:List Lk) (W:WL):Prop:=WG b n (fun _=>False) L W
def Edge (L:List Lk) (o x:Int):Prop:=∃e∈L,∃(i:Nat) (m:Int),e.q[i]? = some (o,m)/\(x∈(e.q.take i).map (·.1)∨∃p∈e.held,p.1=x/\p.1≠o/\fitsB p.2 m=false)
section
variable {L:List Lk} {W:WL} {b:Int} {n:Nat} {S:Bs->Prop} {nm:Bs} {e:Lk}
theorem key_idx {α:Type} {l:List (Int × α)} (hn:(keys l).Nodup) {i j:Nat} {p p':Int × α} (hi:l[i]? = some p) (hj:l[j]? = some p') (h:p.1=p'.1):i=j:=by
 have h1:(keys l)[i]? = some p.1:=by simp [keys,hi]
 have h2:(keys l)[j]? = some p.1:=by simp [keys,hj,h]
 have l1:=(List.getElem?_eq_some_iff.1 h1).1
 have l2:=(List.getElem?_eq_some_iff.1 h2).1
 have e1:=(List.getElem?_eq_some_iff.1 h1).2
 have e2:=(List.getElem?_eq_some_iff.1 h2).2
 rcases Nat.lt_trichotomy i j with q | q | q
 ·exact absurd (e1.trans e2.symm) (List.pairwise_iff_getElem.1 hn i j l1 l2 q)
 ·exact q
 ·exact absurd (e2.trans e1.symm) (List.pairwise_iff_getElem.1 hn j i l2 l1 q)
theorem behA_iff (hnd:(nms L).Nodup) (hqn:∀e∈L,(keys e.q).Nodup) (hwq:WQ L W) (hwok:WOK L W) {o x:Int}:x∈behA L W o↔Edge L o x:=by
 constructor
 ·intro h
  unfold behA at h
  split at h
  ·cases h
  ·rename_i nm2 hg
   split at h
   ·cases h
   ·rename_i e he
    split at h
    ·rename_i i hi
     obtain ⟨hlt,h1,h2⟩:=List.findIdx?_eq_some_iff_getElem.1 hi
     have h1:(e.q[i]).1=o:=by simpa using h1
     have hq:e.q[i]? = some (o,(e.q[i]).2):=by rw [List.getElem?_eq_getElem hlt,<-h1]
     rw [hq] at h
     exact ⟨e,(getL_some he).1,i,_,hq,behindL_mem.1 h⟩
    ·cases h
 ·rintro ⟨e,he,i,m,hq,h⟩
  have hmq:(o,m)∈e.q:=List.mem_of_getElem? hq
  have hw:=hwq e he _ hmq
  have hgl:=getL_of hnd he
  obtain ⟨j,hj⟩:=findIdx_of (getA_of (hqn e he) hmq)
  obtain ⟨hlt,h1,h2⟩:=List.findIdx?_eq_some_iff_getElem.1 hj
  have hji:j=i:=key_idx (hqn e he) (List.getElem?_eq_getElem hlt) hq (by simpa using h1)
  subst hji
  unfold behA
  simp only [hw,hgl,hj,hq,Option.getD_some]
  exact behindL_mem.2 h
theorem WG.edge (h:WG b n S L W) {o x:Int}:x∈behA L W o↔Edge L o x:=behA_iff h.nd h.qn h.wq h.wok
theorem mem_set {hs q:HQ} {x:Lk} (h:x∈setL L nm hs q):x=⟨nm,hs,q⟩∨(x∈L/\x.nm≠nm):=by
 obtain ⟨y,hy,⟨h1,rfl⟩ | ⟨h1,rfl⟩⟩:=mem_upd h
 ·left;rw [<-h1]
 ·exact .inr ⟨hy,h1⟩
theorem set_in (he:getL L nm=some e) (hs q:HQ):(⟨nm,hs,q⟩:Lk)∈setL L nm hs q:=by
 have:=(getL_some (getL_set he hs q)).1
 rw [(getL_some he).2] at this
 exact this
theorem set_other {x:Lk} (hx:x∈L) (hn:x.nm≠nm) (hs q:HQ):x∈setL L nm hs q:=List.mem_map.2 ⟨x,hx,if_neg hn⟩
theorem nms_set (hs q:HQ):nms (setL L nm hs q)=nms L:=nms_upd (f:=fun e=>{ e with held:=hs,q:=q }) (fun _=>rfl)
theorem getL_set_ne {n2:Bs} (h:n2≠nm) (hs q:HQ):getL (setL L nm hs q) n2=getL L n2:=by
 unfold setL
 rw [getL_upd (fun e=>{ e with held:=hs,q:=q }) (fun _=>rfl)]
 cases hg:getL L n2 with
 | none=>rfl
 | some e=>rw [Option.map_some,if_neg (by rw [(getL_some hg).2];exact h)]
theorem tot_set (hn:(nms L).Nodup) (he:getL L nm=some e) (hs q:HQ):tot (setL L nm hs q)+(e.held.length+e.q.length)=tot L+(hs.length+q.length):=by
 induction L with
 | nil=>cases he
 | cons y L ih =>
  have hn':=List.nodup_cons.1 hn
  unfold getL at he
  rw [List.find?_cons] at he
  unfold tot setL updL
  rw [List.map_cons,List.map_cons,List.map_cons,List.sum_cons,List.sum_cons]
  by_cases h:y.nm=nm
  ·rw [show (y.nm==nm)=true by simp [h]] at he
   cases he
   rw [if_pos h]
   have:(L.map fun e=>if e.nm=nm then ({ e with held:=hs,q:=q }:Lk) else e)=L:=by
    conv=>rhs;rw [<-List.map_id L]
    apply List.map_congr_left
    intro x hx
    rw [if_neg fun e1=>hn'.1 (List.mem_map.2 ⟨x,hx,e1.trans h.symm⟩)];rfl
   rw [this]
   dsimp only;omega
  ·rw [show (y.nm==nm)=false by simpa using h] at he
   have:=ih hn'.2 he
   unfold tot setL updL at this
   rw [if_neg h]
   omega
theorem tot_mem (he:e∈L):e.held.length+e.q.length<=tot L:=by
 induction L with
 | nil=>cases he
 | cons y L ih =>
  unfold tot
  rw [List.map_cons,List.sum_cons]
  rcases List.mem_cons.1 he with rfl | he
  ·omega
  ·have:=ih he
   unfold tot at this;omega
theorem tot_len (hne:∀e∈L,e.held≠[]∨e.q≠[]):L.length<=tot L:=by
 induction L with
 | nil=>exact Nat.zero_le _
 | cons y L ih =>
  have h1:=ih fun e he=>hne e (by simp [he])
  have h2:1<=y.held.length+y.q.length:=by
   rcases hne y (by simp) with h | h
   ·have:=List.length_pos_iff.2 h;omega
   ·have:=List.length_pos_iff.2 h;omega
  unfold tot at h1 |-
  rw [List.map_cons,List.sum_cons,List.length_cons]
  omega
theorem Good.sz (h:Good b n L W) (hn:n<=4000):Sz n L:=by
 have hb:=h.bb
 refine ⟨hn,Nat.le_trans (tot_len fun e he=>h.ne e he fun f=>f) h.tot,fun e he=>Nat.le_trans (tot_mem he) h.tot,fun e he p hp=>?_,fun e he p hp=>?_⟩
 ·have:=h.rh e he p hp;omega
 ·have:=h.rq e he p hp;omega
end
section
variable {L:List Lk} {W W':WL} {b:Int} {n n':Nat} {S S2:Bs->Prop} {nm:Bs} {e:Lk}
theorem WG.weak (h:WG b n S L W) (hs:∀x,S x->S2 x) (hn:n<=n'):WG b n' S2 L W :=
 ⟨h.bb,h.nd,h.hn,h.qn,h.wn,h.wq,h.wok,Nat.le_trans h.tot hn,h.rh,h.rq,h.hm,h.qm,h.fit,h.nb,h.acy,fun e he hx=>h.ne e he fun hh=>hx (hs _ hh),fun e he hx=>h.first e he fun hh=>hx (hs _ hh)⟩
theorem edge_set {hs q:HQ} {o x:Int} (h:Edge (setL L nm hs q) o x) :
  (∃(i:Nat) (m:Int),q[i]? = some (o,m)/\(x∈(q.take i).map (·.1)∨∃p∈hs,p.1=x/\p.1≠o/\fitsB p.2 m=false)) ∨
  ∃y∈L,y.nm≠nm/\∃(i:Nat) (m:Int),y.q[i]? = some (o,m)/\(x∈(y.q.take i).map (·.1)∨∃p∈y.held,p.1=x/\p.1≠o/\fitsB p.2 m=false):=by
 obtain ⟨y,hy,i,m,h1,h2⟩:=h
 rcases mem_set hy with rfl | ⟨hy,hn⟩
 ·exact .inl ⟨i,m,h1,h2⟩
 ·exact .inr ⟨y,hy,hn,i,m,h1,h2⟩
theorem WG.set (h:WG b n S L W) (he:getL L nm=some e) {hs q:HQ} (hS2:∀x,¬S2 x->x≠nm->¬S x)
  (k1:(keys hs).Nodup) (k2:(keys q).Nodup) (k3:(keys W').Nodup)
  (wq:∀p∈q,getA W' p.1=some nm) (wq2:∀y∈L,y.nm≠nm->∀p∈y.q,getA W' p.1=some y.nm)
  (wok:∀o n2,getA W' o=some n2->(n2=nm/\∃m,getA q o=some m)∨(n2≠nm/\getA W o=some n2))
  (ht:hs.length+q.length+n<=e.held.length+e.q.length+n')
  (rh:∀p∈hs,(0<=p.1/\p.1 < b)/\1<=p.2/\p.2<=6) (rq:∀p∈q,(0<=p.1/\p.1 < b)/\1<=p.2/\p.2<=6)
  (fit:∀p∈hs,∀p'∈hs,p.1≠p'.1->fitsB p.2 p'.2=true) (nb:∀p∈q,getA hs p.1≠some p.2)
  (acy:∀B':Int->List Int,(∀o x,x∈B' o↔Edge (setL L nm hs q) o x)->∀o,¬Rch B' o o)
  (ne:¬S2 nm->hs≠[]∨q≠[]) (first:¬S2 nm->∀p r,q=p::r->canB hs p.1 p.2=false):WG b n' S2 (setL L nm hs q) W':=by
 have hnd:(nms (setL L nm hs q)).Nodup:=by rw [nms_set];exact h.nd
 have hqn:∀x∈setL L nm hs q,(keys x.q).Nodup:=fun x hx=>by rcases mem_set hx with rfl | ⟨hx,_⟩;exact k2;exact h.qn x hx
 have hwq:WQ (setL L nm hs q) W':=fun x hx p hp=>by
  rcases mem_set hx with rfl | ⟨hx,hn⟩
  ·exact wq p hp
  ·exact wq2 x hx hn p hp
 have hwok:WOK (setL L nm hs q) W':=fun o n2 hg=>by
  rcases wok o n2 hg with ⟨rfl,m,hm⟩ | ⟨hn,hg⟩
  ·exact ⟨_,m,getL_set he hs q,hm⟩
  ·obtain ⟨e2,m,h1,h2⟩:=h.wok o n2 hg
   exact ⟨e2,m,by rw [getL_set_ne hn];exact h1,h2⟩
 refine ⟨h.bb,hnd,?_,hqn,k3,hwq,hwok,?_,?_,?_,?_,?_,?_,?_,acy _ fun o x=>behA_iff hnd hqn hwq hwok,?_,?_⟩
 ·exact fun x hx=>by rcases mem_set hx with rfl | ⟨hx,_⟩;exact k1;exact h.hn x hx
 ·have:=tot_set h.nd he hs q
  have:=h.tot
  omega
 ·exact fun x hx p hp=>by rcases mem_set hx with rfl | ⟨hx,_⟩;exact (rh p hp).1;exact h.rh x hx p hp
 ·exact fun x hx p hp=>by rcases mem_set hx with rfl | ⟨hx,_⟩;exact (rq p hp).1;exact h.rq x hx p hp
 ·exact fun x hx p hp=>by rcases mem_set hx with rfl | ⟨hx,_⟩;exact (rh p hp).2;exact h.hm x hx p hp
 ·exact fun x hx p hp=>by rcases mem_set hx with rfl | ⟨hx,_⟩;exact (rq p hp).2;exact h.qm x hx p hp
 ·exact fun x hx=>by rcases mem_set hx with rfl | ⟨hx,_⟩;exact fit;exact h.fit x hx
 ·exact fun x hx=>by rcases mem_set hx with rfl | ⟨hx,_⟩;exact nb;exact h.nb x hx
 ·exact fun x hx hsx=>by rcases mem_set hx with rfl | ⟨hx,hn⟩;exact ne hsx;exact h.ne x hx (hS2 _ hsx hn)
 ·exact fun x hx hsx=>by rcases mem_set hx with rfl | ⟨hx,hn⟩;exact first hsx;exact h.first x hx (hS2 _ hsx hn)
theorem WG.other (h:WG b n S L W) {y:Lk} (hy:y∈L) {p p':Int × Int} (hp:p∈y.q) {x:Lk} (hx:x∈L) (hp':p'∈x.q) (hn:y.nm≠x.nm):p.1≠p'.1:=by
 intro e1
 have h1:=h.wq y hy p hp
 have h2:=h.wq x hx p' hp'
 rw [e1,h2] at h1
 exact hn (Option.some.inj h1).symm
theorem WG.come1 (h:WG b n S L W) (he:getL L nm=some e) {p:Int × Int} {q:HQ} (hq:e.q=p::q) (hc:canB e.held p.1 p.2=true) (hS:S nm):WG b n S (setL L nm (putA e.held p.1 p.2) q) (delA W p.1):=by
 obtain ⟨hm,hnm⟩:=getL_some he
 have hqn:=h.qn e hm
 rw [hq] at hqn
 have hqn':=List.nodup_cons.1 hqn
 have hpq:p∈e.q:=by rw [hq];simp
 have hqs:∀x∈q,x∈e.q:=fun x hx=>by rw [hq];simp [hx]
 have hne:∀x∈q,x.1≠p.1:=fun x hx e1=>hqn'.1 (List.mem_map.2 ⟨x,hx,e1⟩)
 have hcan:=canB_iff.1 hc
 refine h.set he (fun x hx _=>hx) (nodup_put (h.hn e hm)) hqn'.2 (nodup_del h.wn) ?_ ?_ ?_ ?_ ?_ ?_ ?_ ?_ ?_ (fun hx=>absurd hS hx) (fun hx=>absurd hS hx)
 ·intro x hx
  rw [getA_del_ne (hne x hx),h.wq e hm x (hqs x hx),hnm]
 ·intro y hy hyn x hx
  rw [getA_del_ne (h.other hy hx hm hpq (hnm ▸ hyn))]
  exact h.wq y hy x hx
 ·intro o n2 hg
  have ho:o≠p.1:=fun e1=>by rw [e1,getA_del_self h.wn] at hg;cases hg
  rw [getA_del_ne ho] at hg
  by_cases hn2:n2=nm
  ·obtain ⟨e2,m,h1,h2⟩:=h.wok o n2 hg
   rw [hn2,he] at h1
   cases h1
   rw [hq,getA_cons,if_neg (Ne.symm ho)] at h2
   exact .inl ⟨hn2,m,h2⟩
  ·exact .inr ⟨hn2,hg⟩
 ·have:=putA_len e.held p.1 p.2
  rw [hq,List.length_cons];omega
 ·intro x hx
  rcases mem_put (h.hn e hm) hx with ⟨h1,_⟩ | rfl
  ·exact ⟨h.rh e hm x h1,h.hm e hm x h1⟩
  ·exact ⟨h.rq e hm p hpq,h.qm e hm p hpq⟩
 ·exact fun x hx=>⟨h.rq e hm x (hqs x hx),h.qm e hm x (hqs x hx)⟩
 ·intro x hx y hy hxy
  rcases mem_put (h.hn e hm) hx with ⟨h1,h2⟩ | rfl<;>rcases mem_put (h.hn e hm) hy with ⟨h3,h4⟩ | rfl
  ·exact h.fit e hm x h1 y h3 hxy
  ·rcases hcan x h1 with h5 | h5
   ·exact absurd h5 h2
   ·exact h5
  ·rcases hcan y h3 with h5 | h5
   ·exact absurd h5 h4
   ·rw [fits_symm];exact h5
  ·exact absurd rfl hxy
 ·intro x hx
  rw [getA_put_ne (hne x hx)]
  exact h.nb e hm x (hqs x hx)
 ·intro B' hB o hr
  refine h.acy o (hr.mono fun o x hx=>?_)
  rw [hB] at hx
  rw [h.edge]
  rcases edge_set hx with ⟨i,m,h1,h2⟩ | ⟨y,hy,_,i,m,h1,h2⟩
  ·refine ⟨e,hm,i+1,m,by rw [hq];simpa using h1,?_⟩
   rcases h2 with h2 | ⟨p',hp',rfl,h3,h4⟩
   ·left;rw [hq,List.take_succ_cons,List.map_cons];exact List.mem_cons_of_mem _ h2
   ·rcases mem_put (h.hn e hm) hp' with ⟨h5,_⟩ | rfl
    ·exact .inr ⟨p',h5,rfl,h3,h4⟩
    ·left;rw [hq,List.take_succ_cons,List.map_cons];exact List.mem_cons_self
  ·exact ⟨y,hy,i,m,h1,h2⟩
theorem comeQ_stop:∀(q hs:HQ),(comeQ q hs).2.1=[]∨∃p r,(comeQ q hs).2.1=p::r/\canB (comeQ q hs).1 p.1 p.2=false
 | [],hs=>.inl rfl
 | p::q,hs=>by
  unfold comeQ
  split
  ·exact comeQ_stop q (putA hs p.1 p.2)
  ·rename_i hc
   exact .inr ⟨p,q,rfl,by simpa using hc⟩
theorem WG.comes:∀(q hs:HQ) (L:List Lk) (W:WL) (e:Lk),WG b n S L W->getL L nm=some e->e.q=q->e.held=hs->S nm->WG b n S (setL L nm (comeQ q hs).1 (comeQ q hs).2.1) (delAll W (comeQ q hs).2.2)
 | [],hs,L,W,e,h,he,hq,hh,hS=>by
  show WG b n S (setL L nm hs []) W
  rw [<-hh,<-hq,set_same h.nd he];exact h
 | p::q,hs,L,W,e,h,he,hq,hh,hS=>by
  unfold comeQ
  split
  ·rename_i hc
   have h2:=h.come1 he hq (hh ▸ hc) hS
   rw [hh] at h2
   have:=WG.comes q (putA hs p.1 p.2) _ _ _ h2 (getL_set he (putA hs p.1 p.2) q) rfl rfl hS
   rw [set_set] at this
   exact this
  ·show WG b n S (setL L nm hs (p::q)) W
   rw [<-hh,<-hq,set_same h.nd he];exact h
theorem tot_cut (L:List Lk) (nm:Bs):tot (cutL L nm)<=tot L:=by
 induction L with
 | nil=>exact Nat.le_refl _
 | cons y L ih =>
  unfold cutL tot at ih |-
  by_cases hy:(y.nm != nm)=true
  ·rw [List.filter_cons_of_pos (p:=fun e:Lk=>e.nm != nm) hy,List.map_cons,List.sum_cons,List.map_cons,List.sum_cons];omega
  ·rw [List.filter_cons_of_neg (p:=fun e:Lk=>e.nm != nm) hy,List.map_cons,List.sum_cons];omega
theorem getL_cut_ne {n2:Bs} (h:n2≠nm):getL (cutL L nm) n2=getL L n2:=by
 unfold getL cutL
 rw [List.find?_filter]
 congr 1
 funext x
 by_cases hx:x.nm=n2
 ·simp [hx,h]
 ·simp [hx]
theorem WG.cut (h:WG b n S L W) (he:getL L nm=some e) (h1:e.q=[]):WG b n (fun x=>S x/\x≠nm) (cutL L nm) W:=by
 obtain ⟨hm,hnm⟩:=getL_some he
 have sub:∀x∈cutL L nm,x∈L/\x.nm≠nm:=fun x hx=>by
  have:=List.mem_filter.1 hx
  exact ⟨this.1,by simpa using this.2⟩
 have hnd:(nms (cutL L nm)).Nodup:=by rw [nms_cut];exact h.nd.filter _
 have hqn:∀x∈cutL L nm,(keys x.q).Nodup:=fun x hx=>h.qn x (sub x hx).1
 have hwq:WQ (cutL L nm) W:=fun x hx=>h.wq x (sub x hx).1
 have hwok:WOK (cutL L nm) W:=fun o n2 hg=>by
  obtain ⟨e2,m,g1,g2⟩:=h.wok o n2 hg
  have:n2≠nm:=by
   rintro rfl
   rw [he] at g1;cases g1
   rw [h1] at g2;cases g2
  exact ⟨e2,m,by rw [getL_cut_ne this];exact g1,g2⟩
 refine ⟨h.bb,hnd,fun x hx=>h.hn x (sub x hx).1,hqn,h.wn,hwq,hwok,Nat.le_trans (tot_cut L nm) h.tot,fun x hx=>h.rh x (sub x hx).1,fun x hx=>h.rq x (sub x hx).1,fun x hx=>h.hm x (sub x hx).1,fun x hx=>h.qm x (sub x hx).1,fun x hx=>h.fit x (sub x hx).1,fun x hx=>h.nb x (sub x hx).1,?_,?_,?_⟩
 ·intro o hr
  refine h.acy o (hr.mono fun o x hx=>?_)
  rw [behA_iff hnd hqn hwq hwok] at hx
  rw [h.edge]
  obtain ⟨y,hy,hh⟩:=hx
  exact ⟨y,(sub y hy).1,hh⟩
 ·exact fun x hx hs=>h.ne x (sub x hx).1 fun hh=>hs ⟨hh,(sub x hx).2⟩
 ·exact fun x hx hs=>h.first x (sub x hx).1 fun hh=>hs ⟨hh,(sub x hx).2⟩
theorem WG.come (h:WG b n S L W) (nm:Bs):WG b n (fun x=>S x/\x≠nm) (comeL L W nm).1 (comeL L W nm).2.1:=by
 cases he:getL L nm with
 | none =>
  rw [come_none he]
  refine ⟨h.bb,h.nd,h.hn,h.qn,h.wn,h.wq,h.wok,h.tot,h.rh,h.rq,h.hm,h.qm,h.fit,h.nb,h.acy,fun e hm hs=>h.ne e hm fun hh=>hs ⟨hh,fun e1=>getL_none he (List.mem_map.2 ⟨e,hm,e1⟩)⟩,fun e hm hs=>h.first e hm fun hh=>hs ⟨hh,fun e1=>getL_none he (List.mem_map.2 ⟨e,hm,e1⟩)⟩⟩
 | some e =>
  rw [come_some he]
  have h1:WG b n (fun x=>S x∨x=nm) L W:=h.weak (fun x hx=>.inl hx) (Nat.le_refl _)
  have h2:=WG.comes e.q e.held L W e h1 he rfl rfl (.inr rfl)
  have he2:=getL_set he (comeQ e.q e.held).1 (comeQ e.q e.held).2.1
  dsimp only
  unfold tidyL
  rw [he2]
  dsimp only
  split
  ·rename_i hemp
   exact (h2.cut he2 hemp.2).weak (fun x hx=>⟨hx.1.resolve_right hx.2,hx.2⟩) (Nat.le_refl _)
  ·rename_i hne
   have hin:∀x∈setL L nm (comeQ e.q e.held).1 (comeQ e.q e.held).2.1,¬(S x.nm/\x.nm≠nm)->¬(S x.nm∨x.nm=nm)∨x=⟨nm,(comeQ e.q e.held).1,(comeQ e.q e.held).2.1⟩:=by
    intro x hx hs
    rcases mem_set hx with rfl | ⟨_,hn⟩
    ·exact .inr rfl
    ·exact .inl fun hh=>hs ⟨hh.resolve_right hn,hn⟩
   refine ⟨h2.bb,h2.nd,h2.hn,h2.qn,h2.wn,h2.wq,h2.wok,h2.tot,h2.rh,h2.rq,h2.hm,h2.qm,h2.fit,h2.nb,h2.acy,fun x hx hs=>?_,fun x hx hs=>?_⟩
   ·rcases hin x hx hs with h3 | rfl
    ·exact h2.ne x hx h3
    ·by_cases h4:(comeQ e.q e.held).1=[]
     ·exact .inr fun h5=>hne ⟨h4,h5⟩
     ·exact .inl h4
   ·rcases hin x hx hs with h3 | rfl
    ·exact h2.first x hx h3
    ·intro p r hpr
     rcases comeQ_stop e.q e.held with h4 | ⟨p',r',h4,h5⟩
     ·rw [h4] at hpr;cases hpr
     ·rw [h4] at hpr;cases hpr;exact h5
theorem WG.comeAll:∀(ks:List Bs) (L:List Lk) (W:WL),WG b n (fun x=>x∈ks) L W->Good b n (comeAll ks L W).1 (comeAll ks L W).2.1
 | [],L,W,h=>h.weak (fun x hx=>by cases hx) (Nat.le_refl _)
 | c::ks,L,W,h=>WG.comeAll ks _ _ ((h.come c).weak (fun x hx=>(List.mem_cons.1 hx.1).resolve_left hx.2) (Nat.le_refl _))
theorem dropL_mem {o:Int} {x:Lk} (h:x∈dropL L o):∃y∈L,x=dropE o y:=by
 obtain ⟨y,hy,rfl⟩:=List.mem_map.1 h
 exact ⟨y,hy,rfl⟩
theorem getL_drop (o:Int) (n2:Bs):getL (dropL L o) n2=(getL L n2).map (dropE o):=by
 unfold getL dropL
 rw [List.find?_map]
 rfl
theorem tot_drop (L:List Lk) (o:Int):tot (dropL L o)<=tot L:=by
 induction L with
 | nil=>exact Nat.le_refl _
 | cons y L ih =>
  unfold dropL tot at ih |-
  rw [List.map_cons,List.map_cons,List.sum_cons,List.map_cons,List.sum_cons]
  have h1:=(delA_sub y.held o).length_le
  have h2:=List.length_filter_le (fun p:Int × Int=>p.1 != o) y.q
  show (delA y.held o).length+(y.q.filter (·.1 != o)).length+_<=_
  omega
theorem getA_filter {l:HQ} {o o':Int} (h:o'≠o):getA (l.filter (·.1 != o)) o'=getA l o':=by
 unfold getA
 rw [List.find?_filter]
 congr 1
 congr 1
 funext x
 by_cases hx:x.1=o'
 ·simp [hx,h]
 ·simp [hx]
theorem filter_idx {α:Type} (f:α->Bool):∀(l:List α) (i:Nat) (x:α),(l.filter f)[i]? = some x->∃j,l[j]? = some x/\∀y∈(l.filter f).take i,y∈l.take j
 | [],i,x,h=>by simp at h
 | a::l,i,x,h=>by
  by_cases ha:f a=true
  ·rw [List.filter_cons_of_pos ha] at h |-
   cases i with
   | zero=>exact ⟨0,by simpa using h,by simp⟩
   | succ i =>
    obtain ⟨j,h1,h2⟩:=filter_idx f l i x (by simpa using h)
    refine ⟨j+1,by simpa using h1,fun y hy=>?_⟩
    rw [List.take_succ_cons] at hy |-
    rcases List.mem_cons.1 hy with rfl | hy
    ·simp
    ·exact List.mem_cons_of_mem _ (h2 y hy)
  ·rw [List.filter_cons_of_neg ha] at h |-
   obtain ⟨j,h1,h2⟩:=filter_idx f l i x h
   exact ⟨j+1,by simpa using h1,fun y hy=>by rw [List.take_succ_cons];exact List.mem_cons_of_mem _ (h2 y hy)⟩
theorem WG.drop (h:WG b n S L W) (o:Int):WG b n (fun _=>True) (dropL L o) (delA W o):=by
 have hnd:(nms (dropL L o)).Nodup:=by rw [nms_drop];exact h.nd
 have hqn:∀x∈dropL L o,(keys x.q).Nodup:=fun x hx=>by
  obtain ⟨y,hy,rfl⟩:=dropL_mem hx
  exact (h.qn y hy).sublist (List.filter_sublist.map _)
 have hwq:WQ (dropL L o) (delA W o):=fun x hx p hp=>by
  obtain ⟨y,hy,rfl⟩:=dropL_mem hx
  obtain ⟨h1,h2⟩:=List.mem_filter.1 hp
  rw [getA_del_ne (by simpa using h2)]
  exact h.wq y hy p h1
 have hwok:WOK (dropL L o) (delA W o):=fun o' n2 hg=>by
  have ho:o'≠o:=fun e1=>by rw [e1,getA_del_self h.wn] at hg;cases hg
  rw [getA_del_ne ho] at hg
  obtain ⟨e2,m,g1,g2⟩:=h.wok o' n2 hg
  refine ⟨dropE o e2,m,by rw [getL_drop,g1];rfl,?_⟩
  show getA (e2.q.filter (·.1 != o)) o'=some m
  rw [getA_filter ho];exact g2
 have sub:∀y:Lk,(∀p∈(dropE o y).held,p∈y.held)/\∀p∈(dropE o y).q,p∈y.q:=fun y=>⟨fun p hp=>(delA_sub _ _).subset hp,fun p hp=>(List.mem_filter.1 hp).1⟩
 refine ⟨h.bb,hnd,?_,hqn,nodup_del h.wn,hwq,hwok,Nat.le_trans (tot_drop L o) h.tot,?_,?_,?_,?_,?_,?_,?_,fun _ _ hs=>absurd trivial hs,fun _ _ hs=>absurd trivial hs⟩
 ·intro x hx
  obtain ⟨y,hy,rfl⟩:=dropL_mem hx
  exact nodup_del (h.hn y hy)
 ·intro x hx p hp
  obtain ⟨y,hy,rfl⟩:=dropL_mem hx
  exact h.rh y hy p ((sub y).1 p hp)
 ·intro x hx p hp
  obtain ⟨y,hy,rfl⟩:=dropL_mem hx
  exact h.rq y hy p ((sub y).2 p hp)
 ·intro x hx p hp
  obtain ⟨y,hy,rfl⟩:=dropL_mem hx
  exact h.hm y hy p ((sub y).1 p hp)
 ·intro x hx p hp
  obtain ⟨y,hy,rfl⟩:=dropL_mem hx
  exact h.qm y hy p ((sub y).2 p hp)
 ·intro x hx p hp p' hp'
  obtain ⟨y,hy,rfl⟩:=dropL_mem hx
  exact h.fit y hy p ((sub y).1 p hp) p' ((sub y).1 p' hp')
 ·intro x hx p hp
  obtain ⟨y,hy,rfl⟩:=dropL_mem hx
  have:=(List.mem_filter.1 hp).2
  show getA (delA y.held o) p.1≠some p.2
  rw [getA_del_ne (by simpa using this)]
  exact h.nb y hy p ((sub y).2 p hp)
 ·intro o' hr
  refine h.acy o' (hr.mono fun a x hx=>?_)
  rw [behA_iff hnd hqn hwq hwok] at hx
  rw [h.edge]
  obtain ⟨z,hz,i,m,h1,h2⟩:=hx
  obtain ⟨y,hy,rfl⟩:=dropL_mem hz
  obtain ⟨j,h3,h4⟩:=filter_idx _ y.q i _ h1
  refine ⟨y,hy,j,m,h3,?_⟩
  rcases h2 with h2 | ⟨p,hp,h5⟩
  ·obtain ⟨p,hp,rfl⟩:=List.mem_map.1 h2
   exact .inl (List.mem_map.2 ⟨p,h4 p hp,rfl⟩)
  ·exact .inr ⟨p,(sub y).1 p hp,h5⟩
theorem Good.drop (h:Good b n L W) (o:Int):Good b n (dropA L W o).1 (dropA L W o).2.1:=by
 unfold dropA
 refine WG.comeAll _ _ _ ?_
 have h1:=WG.drop h o
 have:∀e∈dropL L o,e.nm∈srtS (nms L):=fun e he=>srtS_mem.2 (by rw [<-nms_drop (L:=L) o];exact List.mem_map.2 ⟨e,he,rfl⟩)
 exact ⟨h1.bb,h1.nd,h1.hn,h1.qn,h1.wn,h1.wq,h1.wok,h1.tot,h1.rh,h1.rq,h1.hm,h1.qm,h1.fit,h1.nb,h1.acy,fun e he hs=>absurd (this e he) hs,fun e he hs=>absurd (this e he) hs⟩
end
section
variable {L:List Lk} {W W':WL} {b:Int} {n n':Nat} {S S2:Bs->Prop} {nm:Bs} {e:Lk}
theorem Good.free1 (h:Good b n L W) {o:Int} (he:getL L nm=some e) (hg:getA W o≠some nm):WG b n (fun x=>x=nm) (setL L nm (delA e.held o) e.q) W:=by
 obtain ⟨hm,hnm⟩:=getL_some he
 have hoq:∀p∈e.q,p.1≠o:=fun p hp e1=>hg (by have:=h.wq e hm p hp;rw [e1,hnm] at this;exact this)
 have hsub:∀p∈delA e.held o,p∈e.held:=fun p hp=>(delA_sub _ _).subset hp
 refine WG.set h he (fun x hx hn=>fun hh=>hh) (nodup_del (h.hn e hm)) (h.qn e hm) h.wn (fun p hp=>by rw [h.wq e hm p hp,hnm]) (fun y hy _ p hp=>h.wq y hy p hp) ?_ ?_ (fun p hp=>⟨h.rh e hm p (hsub p hp),h.hm e hm p (hsub p hp)⟩) (fun p hp=>⟨h.rq e hm p hp,h.qm e hm p hp⟩) (fun p hp p' hp'=>h.fit e hm p (hsub p hp) p' (hsub p' hp')) ?_ ?_ (fun hx=>absurd rfl hx) (fun hx=>absurd rfl hx)
 ·intro o' n2 hg
  by_cases hn2:n2=nm
  ·obtain ⟨e2,m,h1,h2⟩:=h.wok o' n2 hg
   rw [hn2,he] at h1
   cases h1
   exact .inl ⟨hn2,m,h2⟩
  ·exact .inr ⟨hn2,hg⟩
 ·have:=(delA_sub e.held o).length_le;omega
 ·intro p hp
  rw [getA_del_ne (hoq p hp)]
  exact h.nb e hm p hp
 ·intro B' hB o' hr
  refine h.acy o' (hr.mono fun a x hx=>?_)
  rw [hB] at hx
  rw [WG.edge h]
  rcases edge_set hx with ⟨i,m,h1,h2⟩ | ⟨y,hy,_,i,m,h1,h2⟩
  ·refine ⟨e,hm,i,m,h1,?_⟩
   rcases h2 with h2 | ⟨p,hp,h5⟩
   ·exact .inl h2
   ·exact .inr ⟨p,hsub p hp,h5⟩
  ·exact ⟨y,hy,i,m,h1,h2⟩
theorem Good.free (h:Good b n L W) (o:Int) (nm:Bs):Good b n (freeA L W o nm).2.1 (freeA L W o nm).2.2.1:=by
 unfold freeA
 split
 ·exact h
 ·split
  ·exact h
  ·rename_i h1 h2
   cases he:getL L nm with
   | none=>exact h
   | some e=>exact ((Good.free1 h he h2).come nm).weak (fun x hx=>hx.2 hx.1) (Nat.le_refl _)
theorem WG.at (h:Good b n L W) (nm:Bs):WG b n (fun x=>x=nm) (atL L nm) W:=by
 unfold atL
 cases hg:getL L nm with
 | some e=>exact WG.weak h (fun x hx=>hx.elim) (Nat.le_refl _)
 | none =>
  have hmem:∀x∈L++[newL nm],x∈L∨x=newL nm:=fun x hx=>by
   rcases List.mem_append.1 hx with h | h
   ·exact .inl h
   ·exact .inr (by simpa using h)
  have hnd:(nms (L++[newL nm])).Nodup:=by
   simp only [nms,List.map_append,List.map_cons,List.map_nil]
   rw [List.nodup_append]
   refine ⟨h.nd,by simp,fun a ha b hb=>?_⟩
   simp only [List.mem_singleton] at hb
   rw [hb];rintro rfl
   exact getL_none hg ha
  have hqn:∀e∈L++[newL nm],(keys e.q).Nodup:=fun e he=>by rcases hmem e he with he | rfl;exact h.qn e he;exact List.nodup_nil
  have hwq:WQ (L++[newL nm]) W:=fun e he p hp=>by rcases hmem e he with he | rfl;exact h.wq e he p hp;cases hp
  have hwok:WOK (L++[newL nm]) W:=fun o n2 hw=>by
   obtain ⟨e2,m,g1,g2⟩:=h.wok o n2 hw
   refine ⟨e2,m,?_,g2⟩
   unfold getL at g1 |-
   rw [List.find?_append,g1];rfl
  refine ⟨h.bb,hnd,fun e he=>by rcases hmem e he with he | rfl;exact h.hn e he;exact List.nodup_nil,hqn,h.wn,hwq,hwok,?_,fun e he p hp=>?_,fun e he p hp=>?_,fun e he p hp=>?_,fun e he p hp=>?_,fun e he p hp=>?_,fun e he p hp=>?_,?_,fun e he hs=>?_,fun e he hs=>?_⟩
  ·have:Go.Proofs.YtpkeiaeaonmacaaGreat.tot (L++[newL nm])=Go.Proofs.YtpkeiaeaonmacaaGreat.tot L:=by simp [Go.Proofs.YtpkeiaeaonmacaaGreat.tot,newL]
   rw [this];exact h.tot
  ·rcases hmem e he with he | rfl;exact h.rh e he p hp;cases hp
  ·rcases hmem e he with he | rfl;exact h.rq e he p hp;cases hp
  ·rcases hmem e he with he | rfl;exact h.hm e he p hp;cases hp
  ·rcases hmem e he with he | rfl;exact h.qm e he p hp;cases hp
  ·rcases hmem e he with he | rfl;exact h.fit e he p hp;cases hp
  ·rcases hmem e he with he | rfl;exact h.nb e he p hp;cases hp
  ·intro o hr
   refine h.acy o (hr.mono fun a x hx=>?_)
   rw [behA_iff hnd hqn hwq hwok] at hx
   rw [WG.edge h]
   obtain ⟨y,hy,i,m,h1,h2⟩:=hx
   rcases hmem y hy with hy | rfl
   ·exact ⟨y,hy,i,m,h1,h2⟩
   ·simp [newL] at h1
  ·rcases hmem e he with he | rfl
   ·exact h.ne e he fun f=>f
   ·exact absurd rfl hs
  ·rcases hmem e he with he | rfl
   ·exact h.first e he fun f=>f
   ·exact absurd rfl hs
theorem WG.had (h:WG b n S L W) (he:e∈L) (o:Int):0<=(getA e.held o).getD 0/\(getA e.held o).getD 0 < 7:=by
 cases hg:getA e.held o with
 | none=>exact ⟨by simp,by simp⟩
 | some m=>have:=h.hm e he _ (getA_mem hg);simp only [Option.getD_some];omega
theorem WG.grant (h:WG b n (fun x=>x=nm) L W) (he:getL L nm=some e) {o m:Int} (ho:0<=o/\o < b) (hm:1<=m/\m<=6) (hg:getA W o=none)
  (hc:canB e.held o (joinB ((getA e.held o).getD 0) m)=true) (hf:∀p r,e.q=p::r->canB e.held p.1 p.2=false) :
  Good b (n+1) (setL L nm (putA e.held o (joinB ((getA e.held o).getD 0) m)) e.q) W:=by
 obtain ⟨hme,hnm⟩:=getL_some he
 have hhad:=h.had hme o
 have hj:=join_rng hhad hm
 have hcan:=canB_iff.1 hc
 have hoq:∀p∈e.q,p.1≠o:=fun p hp e1=>by have:=h.wq e hme p hp;rw [e1,hg] at this;cases this
 refine h.set he (fun x _ hn hx=>hn hx) (nodup_put (h.hn e hme)) (h.qn e hme) h.wn (fun p hp=>by rw [h.wq e hme p hp,hnm]) (fun y hy _ p hp=>h.wq y hy p hp) ?_ ?_ ?_ (fun p hp=>⟨h.rq e hme p hp,h.qm e hme p hp⟩) ?_ ?_ ?_ (fun _=>.inl ?_) (fun _ p r hpr=>?_)
 ·intro o' n2 hg
  by_cases hn2:n2=nm
  ·obtain ⟨e2,m,h1,h2⟩:=h.wok o' n2 hg
   rw [hn2,he] at h1
   cases h1
   exact .inl ⟨hn2,m,h2⟩
  ·exact .inr ⟨hn2,hg⟩
 ·have:=putA_len e.held o (joinB ((getA e.held o).getD 0) m);omega
 ·intro x hx
  rcases mem_put (h.hn e hme) hx with ⟨h1,_⟩ | rfl
  ·exact ⟨h.rh e hme x h1,h.hm e hme x h1⟩
  ·exact ⟨ho,hj⟩
 ·intro x hx y hy hxy
  rcases mem_put (h.hn e hme) hx with ⟨h1,h2⟩ | rfl<;>rcases mem_put (h.hn e hme) hy with ⟨h3,h4⟩ | rfl
  ·exact h.fit e hme x h1 y h3 hxy
  ·exact (hcan x h1).resolve_left h2
  ·rw [fits_symm];exact (hcan y h3).resolve_left h4
  ·exact absurd rfl hxy
 ·intro p hp
  rw [getA_put_ne (hoq p hp)]
  exact h.nb e hme p hp
 ·intro B' hB
  refine acy_sink (B:=behA L W) (fun a x hx=>?_) h.acy
  rw [hB] at hx
  by_cases hxo:x=o
  ·right
   rw [List.eq_nil_iff_forall_not_mem]
   intro y hy
   rw [hxo,hB] at hy
   rcases edge_set hy with ⟨i,m',h1,_⟩ | ⟨z,hz,_,i,m',h1,_⟩
   ·exact hoq _ (List.mem_of_getElem? h1) rfl
   ·have:=h.wq z hz _ (List.mem_of_getElem? h1)
    rw [hg] at this;cases this
  ·left
   rw [h.edge]
   rcases edge_set hx with ⟨i,m',h1,h2⟩ | ⟨z,hz,_,i,m',h1,h2⟩
   ·refine ⟨e,hme,i,m',h1,?_⟩
    rcases h2 with h2 | ⟨p,hp,h5,h6,h7⟩
    ·exact .inl h2
    ·rcases mem_put (h.hn e hme) hp with ⟨h8,_⟩ | rfl
     ·exact .inr ⟨p,h8,h5,h6,h7⟩
     ·exact absurd h5.symm hxo
   ·exact ⟨z,hz,i,m',h1,h2⟩
 ·intro h0
  have:=put_mem (l:=e.held) (o:=o) (a:=joinB ((getA e.held o).getD 0) m)
  rw [h0] at this;cases this
 ·obtain ⟨p',hp',h1,h2⟩:=canB_not.1 (hf p r hpr)
  rw [canB_not]
  have hpo:p.1≠o:=hoq p (by rw [hpr];simp)
  by_cases hpo':p'.1=o
  ·refine ⟨_,put_mem,Ne.symm hpo,?_⟩
   have hge:getA e.held o=some p'.2:=getA_of (h.hn e hme) (by rw [<-hpo'];exact hp')
   have hcv:=(join_cov hhad hm).1
   rw [hge] at hcv |-
   cases hff:fitsB (joinB ((some p'.2).getD 0) m) p.2 with
   | false=>rfl
   | true=>have:=cov_fit hcv hff;rw [Option.getD_some,h2] at this;cases this
  ·exact ⟨p',put_old hp' hpo',h1,h2⟩
theorem insQ_mem {o m:Int} {p:Int × Int}:p∈insQ e o m↔p∈e.q∨p=(o,m):=by
 unfold insQ
 rw [List.mem_append,List.mem_cons]
 constructor
 ·rintro (h | rfl | h)
  ·exact .inl (List.mem_of_mem_take h)
  ·exact .inr rfl
  ·exact .inl (List.mem_of_mem_drop h)
 ·rintro (h | rfl)
  ·rw [<-List.take_append_drop (placeN e o) e.q] at h
   rcases List.mem_append.1 h with h | h
   ·exact .inl h
   ·exact .inr (.inr h)
  ·exact .inr (.inl rfl)
theorem insQ_len (o m:Int):(insQ e o m).length=e.q.length+1:=by
 have:=placeN_le e o
 unfold insQ
 simp;omega
theorem insQ_nodup {o m:Int} (hn:(keys e.q).Nodup) (ho:o∉keys e.q):(keys (insQ e o m)).Nodup:=by
 have hp:(insQ e o m).Perm ((o,m)::e.q):=by
  unfold insQ
  refine List.perm_middle.trans ?_
  rw [List.take_append_drop]
 refine (hp.map _).nodup_iff.2 ?_
 rw [List.map_cons]
 exact List.nodup_cons.2 ⟨ho,hn⟩
theorem insQ_first {o m:Int} {p:Int × Int} {r:HQ} (h:insQ e o m=p::r):p=(o,m)/\(getA e.held o≠none∨e.q=[])∨∃r',e.q=p::r':=by
 unfold insQ at h
 cases hq:e.q with
 | nil =>
  rw [hq] at h
  simp at h
  exact .inl ⟨h.1.symm,.inr rfl⟩
 | cons x q =>
  cases hk:placeN e o with
  | zero =>
   rw [hk] at h
   simp at h
   refine .inl ⟨h.1.symm,.inl fun h0=>?_⟩
   unfold placeN at hk
   rw [h0,hq] at hk
   simp at hk
  | succ k =>
   rw [hk,hq,List.take_succ_cons] at h
   injection h with h1 h2
   exact .inr ⟨q,by rw [h1]⟩
theorem insQ_idx {o m o' m':Int} {i:Nat} (hn:(keys e.q).Nodup) (ho:o∉keys e.q) (h:(insQ e o m)[i]? = some (o',m')) (hne:o'≠o):∃j,e.q[j]? = some (o',m')/\∀x∈((insQ e o m).take i).map (·.1),x∈(e.q.take j).map (·.1)∨x=o:=by
 have hk:=placeN_le e o
 unfold insQ at h |-
 have htl:(e.q.take (placeN e o)).length=placeN e o:=by simp;omega
 rcases Nat.lt_trichotomy i (placeN e o) with hlt | heq | hgt
 ·rw [List.getElem?_append_left (by omega),List.getElem?_take,if_pos hlt] at h
  refine ⟨i,h,fun x hx=>.inl ?_⟩
  rw [List.take_append_of_le_length (by omega),List.take_take,Nat.min_eq_left (by omega)] at hx
  exact hx
 ·rw [List.getElem?_append_right (by omega),heq,htl,Nat.sub_self] at h
  simp at h
  exact absurd h.1.symm hne
 ·obtain ⟨d,rfl⟩:∃d,i=placeN e o+1+d:=⟨i - (placeN e o+1),by omega⟩
  rw [List.getElem?_append_right (by omega),htl,show placeN e o+1+d - placeN e o=d+1 by omega,List.getElem?_cons_succ,List.getElem?_drop] at h
  refine ⟨placeN e o+d,h,fun x hx=>?_⟩
  rw [List.take_append,List.take_of_length_le (by omega),htl,show placeN e o+1+d - placeN e o=d+1 by omega,List.take_succ_cons,List.map_append,List.map_cons] at hx
  rcases List.mem_append.1 hx with hx | hx
  ·left
   obtain ⟨p,hp,rfl⟩:=List.mem_map.1 hx
   exact List.mem_map.2 ⟨p,by
    have:e.q.take (placeN e o)=(e.q.take (placeN e o+d)).take (placeN e o):=by rw [List.take_take,Nat.min_eq_left (by omega)]
    rw [this] at hp
    exact List.mem_of_mem_take hp,rfl⟩
  ·rcases List.mem_cons.1 hx with rfl | hx
   ·exact .inr rfl
   ·left
    obtain ⟨p,hp,rfl⟩:=List.mem_map.1 hx
    refine List.mem_map.2 ⟨p,?_,rfl⟩
    rw [List.take_add,List.mem_append]
    exact .inr hp
theorem stay_pre (h:WG b n S L W) (he:getL L nm=some e) {o m:Int} (hg:getA W o=none) :
  (nms (setL L nm e.held (insQ e o m))).Nodup/\(∀x∈setL L nm e.held (insQ e o m),(keys x.q).Nodup)/\WQ (setL L nm e.held (insQ e o m)) (putA W o nm)/\WOK (setL L nm e.held (insQ e o m)) (putA W o nm)/\o∉keys e.q:=by
 obtain ⟨hme,hnm⟩:=getL_some he
 have hoall:∀y∈L,∀p∈y.q,p.1≠o:=fun y hy p hp e1=>by have:=h.wq y hy p hp;rw [e1,hg] at this;cases this
 have ho:o∉keys e.q:=fun hm=>by obtain ⟨p,hp,e1⟩:=List.mem_map.1 hm;exact hoall e hme p hp e1
 refine ⟨by rw [nms_set];exact h.nd,fun x hx=>?_,fun x hx p hp=>?_,fun o' n2 hg'=>?_,ho⟩
 ·rcases mem_set hx with rfl | ⟨hx,_⟩
  ·exact insQ_nodup (h.qn e hme) ho
  ·exact h.qn x hx
 ·rcases mem_set hx with rfl | ⟨hx,_⟩
  ·rcases insQ_mem.1 hp with hp | rfl
   ·rw [getA_put_ne (hoall e hme p hp),h.wq e hme p hp,hnm]
   ·exact getA_put_self
  ·rw [getA_put_ne (hoall x hx p hp)];exact h.wq x hx p hp
 ·by_cases ho':o'=o
  ·rw [ho',getA_put_self] at hg'
   cases hg'
   exact ⟨_,m,getL_set he e.held _,by rw [ho'];exact getA_of (insQ_nodup (h.qn e hme) ho) (insQ_mem.2 (.inr rfl))⟩
  ·rw [getA_put_ne ho'] at hg'
   obtain ⟨e2,m2,g1,g2⟩:=h.wok o' n2 hg'
   by_cases hn2:n2=nm
   ·rw [hn2,he] at g1
    cases g1
    exact ⟨_,m2,by rw [hn2];exact getL_set he e.held _,getA_of (insQ_nodup (h.qn e hme) ho) (insQ_mem.2 (.inl (getA_mem g2)))⟩
   ·exact ⟨e2,m2,by rw [getL_set_ne hn2];exact g1,g2⟩
theorem WG.stay (h:WG b n (fun x=>x=nm) L W) (he:getL L nm=some e) {o m:Int} (ho:0<=o/\o < b) (hm:1<=m/\m<=6) (hg:getA W o=none)
  (hnb:getA e.held o≠some m) (hc:(getA e.held o≠none∨e.q=[])->canB e.held o m=false) (hf:∀p r,e.q=p::r->canB e.held p.1 p.2=false)
  (hd:¬Rch (behA (setL L nm e.held (insQ e o m)) (putA W o nm)) o o) :
  Good b (n+1) (setL L nm e.held (insQ e o m)) (putA W o nm):=by
 obtain ⟨hme,hnm⟩:=getL_some he
 obtain ⟨s1,s2,s3,s4,hoq⟩:=stay_pre (m:=m) h he hg
 refine h.set he (fun x _ hn hx=>hn hx) (h.hn e hme) (insQ_nodup (h.qn e hme) hoq) (nodup_put h.wn) (fun p hp=>s3 _ (set_in he _ _) p hp) (fun y hy hyn p hp=>s3 y (set_other hy hyn _ _) p hp) ?_ (by rw [insQ_len];omega) (fun p hp=>⟨h.rh e hme p hp,h.hm e hme p hp⟩) ?_ (h.fit e hme) ?_ ?_ (fun _=>.inr ?_) (fun _ p r hpr=>?_)
 ·intro o' n2 hg'
  by_cases ho':o'=o
  ·rw [ho',getA_put_self] at hg'
   cases hg'
   exact .inl ⟨rfl,m,by rw [ho'];exact getA_of (insQ_nodup (h.qn e hme) hoq) (insQ_mem.2 (.inr rfl))⟩
  ·rw [getA_put_ne ho'] at hg'
   obtain ⟨e2,m2,g1,g2⟩:=h.wok o' n2 hg'
   by_cases hn2:n2=nm
   ·rw [hn2,he] at g1
    cases g1
    exact .inl ⟨hn2,m2,getA_of (insQ_nodup (h.qn e hme) hoq) (insQ_mem.2 (.inl (getA_mem g2)))⟩
   ·exact .inr ⟨hn2,hg'⟩
 ·intro p hp
  rcases insQ_mem.1 hp with hp | rfl
  ·exact ⟨h.rq e hme p hp,h.qm e hme p hp⟩
  ·exact ⟨ho,hm⟩
 ·intro p hp
  rcases insQ_mem.1 hp with hp | rfl
  ·exact h.nb e hme p hp
  ·exact hnb
 ·intro B' hB
  have hBB:∀a x,x∈B' a↔x∈behA (setL L nm e.held (insQ e o m)) (putA W o nm) a:=fun a x=>(hB a x).trans (behA_iff s1 s2 s3 s4).symm
  refine acy_one (B:=behA L W) (o:=o) (fun a x ha hx=>?_) (fun hr=>hd (hr.mono fun a x hx=>(hBB a x).1 hx)) h.acy
  rw [hB] at hx
  rw [h.edge]
  rcases edge_set hx with ⟨i,m',h1,h2⟩ | ⟨z,hz,_,i,m',h1,h2⟩
  ·obtain ⟨j,h3,h4⟩:=insQ_idx (h.qn e hme) hoq h1 ha
   rcases h2 with h2 | h2
   ·rcases h4 x h2 with h5 | h5
    ·exact .inl ⟨e,hme,j,m',h3,.inl h5⟩
    ·exact .inr h5
   ·exact .inl ⟨e,hme,j,m',h3,.inr h2⟩
  ·exact .inl ⟨z,hz,i,m',h1,h2⟩
 ·intro h0
  have:=insQ_len (e:=e) o m
  rw [h0] at this;simp at this
 ·rcases insQ_first hpr with ⟨rfl,h1⟩ | ⟨r',h1⟩
  ·exact hc h1
  ·exact hf p r' h1
end
section
variable {els:List V} {ms:List (List (V × V))} {lk ws:List (V × V)} {ix:Bs->Nat} {L:List Lk} {W W':WL} {b:Int} {n n' N:Nat} {S S2:Bs->Prop} {nm:Bs} {e:Lk}
theorem canB_nil (o m:Int):canB [] o m=true:=rfl
theorem Good.more (h:Good b n L W) (hn:n<=n'):Good b n' L W:=WG.weak h (fun _ h=>h) hn
theorem Good.ask (h:Good b n L W) {o:Int} (ho:o < b) (nm:Bs) (m:Int):Good b (n+1) (askA L W o nm m).2.1 (askA L W o nm m).2.2:=by
 have hw:Good b (n+1) L W:=h.more (by omega)
 unfold askA
 split
 ·exact hw
 rename_i h1
 split
 ·exact hw
 rename_i hg
 have hg:getA W o=none:=Classical.not_not.1 hg
 have ho':0<=o/\o < b:=by omega
 have hm:1<=m/\m<=6:=by omega
 obtain ⟨e,he,hor⟩:=atL_get L nm
 have ha:=WG.at h nm
 have hf:∀p r,e.q=p::r->canB e.held p.1 p.2=false:=by
  rcases hor with h2 | ⟨_,rfl⟩
  ·exact h.first e (getL_some h2).1 (fun f=>f)
  ·intro p r hpr;cases hpr
 have hhad:=ha.had (getL_some he).1 o
 rw [he]
 dsimp only
 split
 ·rename_i h2
  rcases hor with h3 | ⟨_,rfl⟩
  ·rw [atL_some h3];exact hw
  ·cases h2.1
 ·rename_i h2
  split
  ·rename_i h3
   exact ha.grant he ho' hm hg h3.1 hf
  ·rename_i h3
   unfold stayA
   rw [atL_at,he]
   dsimp only
   split
   ·rcases hor with h4 | ⟨_,rfl⟩
    ·rw [atL_some h4];exact hw
    ·exact absurd ⟨canB_nil _ _,.inr rfl⟩ h3
   ·rename_i hd
    refine ha.stay he ho' (join_rng hhad hm) hg (fun h4=>h2 ?_) (fun h4=>?_) hf ?_
    ·generalize hj:joinB ((getA e.held o).getD 0) m=j at h4 h2 |-
     rw [h4];exact ⟨rfl,rfl⟩
    ·cases hc:canB e.held o (joinB ((getA e.held o).getD 0) m) with
     | false=>rfl
     | true =>
      refine absurd ⟨hc,?_⟩ h3
      rcases h4 with h4 | h4
      ·left;cases hq:getA e.held o with | none=>exact absurd hq h4 | some _=>rfl
      ·exact .inr h4
    ·intro hr
     exact hd (@decide_eq_true _ (Classical.propDecidable _) hr)
theorem tot_ge:∀L:List Lk,(∀e∈L,e.held≠[]∨e.q≠[])->L.length<=tot L
 | [],_=>Nat.le_refl _
 | x::L,h=>by
  have h1:=tot_ge L fun e he=>h e (by simp [he])
  have h2:0 < x.held.length+x.q.length:=by
   rcases h x (by simp) with h | h
   ·have:=List.length_pos_iff.2 h;omega
   ·have:=List.length_pos_iff.2 h;omega
  unfold tot at h1 |-
  rw [List.map_cons,List.sum_cons,List.length_cons]
  omega
theorem Good.szN (h:Good b n L W) (hn:n<=N) (hN:N<=4000):Sz N L:=by
 have hb:=h.bb
 have ht:=h.tot
 refine ⟨hN,?_,fun e he=>?_,fun e he p hp=>?_,fun e he p hp=>?_⟩
 ·have:=tot_ge L fun e he=>h.ne e he fun f=>f
  omega
 ·have:=tot_mem he;omega
 ·have:=h.rh e he p hp;omega
 ·have:=h.rq e he p hp;omega
theorem Good.sza (h:Good b n L W) (hn:n+1<=N) (hN:N<=4000) (nm:Bs):Sz N (atL L nm):=by
 have hs:=h.szN (show n<=N by omega) hN
 have hl:=h.szN (N:=n) (Nat.le_refl _) (by omega)
 obtain ⟨h1,h2,h3⟩:=Sz.at (nm:=nm) hs
 refine ⟨hN,?_,fun e he=>(h1 e he).1,fun e he=>(h1 e he).2.1,fun e he=>(h1 e he).2.2⟩
 cases hg:getL L nm with
 | none=>rw [h2 hg];have:=hl.len;omega
 | some e=>rw [h3 (by rw [hg];rfl)];exact hs.len
theorem Good.szi (h:Good b n L W) (hn:n+1<=N) (hN:N<=4000) {o:Int} (ho:I64 o) (hg:getA W o=none) (w:Int) (he:getL (atL L nm) nm=some e) :
  Sz N (setL (atL L nm) nm e.held (insQ e o w))/\WOK (setL (atL L nm) nm e.held (insQ e o w)) (putA W o nm):=by
 have ha:=WG.at h nm
 have hs:=h.sza hn hN nm
 have hl:=h.szN (N:=n) (Nat.le_refl _) (by omega)
 obtain ⟨h1,_,_⟩:=Sz.at (nm:=nm) hl
 have hm:=(getL_some he).1
 have:=(h1 e hm).1
 refine ⟨hs.set (by rw [insQ_len];omega) (h1 e hm).2.1 (fun p hp=>?_),(stay_pre (m:=w) ha he hg).2.2.2.1⟩
 rcases insQ_mem.1 hp with hp | rfl
 ·exact (h1 e hm).2.2 p hp
 ·exact ho
theorem ask_at (h:Rep els ms lk ws ix L W) (g:Good b n L W) (hn:n<=3000) (o:Int) (ho:I64 o) (nm:Bs) (m:Int) (hnm:Nm nm:=by first | assumption | decide) :
  ∃els' ms' lk' ix',icC cfgB ⟨true,false⟩ 8 [.ptr 2 0 0,.int .i64 o,.str nm,.int .i64 m] (tm els ms lk ws)=some (mk8 ((askA L W o nm m).1,els',ms',lk',(askA L W o nm m).2.2.map wE)) /\
   Rep els' ms' lk' ((askA L W o nm m).2.2.map wE) ix' (askA L W o nm m).2.1 (askA L W o nm m).2.2 :=
 ask_ok hnm h (g.sza (N:=4000) (by omega) (by omega) nm) (g.szN (N:=4000) (by omega) (by omega)) o m fun hg e w he=>g.szi (by omega) (by omega) ho hg w he
theorem free_at (h:Rep els ms lk ws ix L W) (g:Good b n L W) (hn:n<=3000) (o:Int) (nm:Bs) (hnm:Nm nm:=by first | assumption | decide) :
  ∃els' ms' lk' ix',icC cfgB ⟨true,false⟩ 10 [.ptr 2 0 0,.int .i64 o,.str nm] (tm els ms lk ws)=some (mk10 ((freeA L W o nm).1,els',ms',lk',(freeA L W o nm).2.2.1.map wE,ints (freeA L W o nm).2.2.2)) /\
   Rep els' ms' lk' ((freeA L W o nm).2.2.1.map wE) ix' (freeA L W o nm).2.1 (freeA L W o nm).2.2.1 :=
 free_ok h (g.szN (N:=4000) (by omega) (by omega)) o nm hnm
theorem drop_at (h:Rep els ms lk ws ix L W) (g:Good b n L W) (hn:n<=3000) (o:Int) :
  ∃els' ms' lk' ix',icC cfgB ⟨true,false⟩ 13 [.ptr 2 0 0,.int .i64 o] (tm els ms lk ws)=some (mk13 (els',ms',lk',(dropA L W o).2.1.map wE,ints (dropA L W o).2.2)) /\
   Rep els' ms' lk' ((dropA L W o).2.1.map wE) ix' (dropA L W o).1 (dropA L W o).2.1 :=
 drop_ok h (g.szN (N:=4000) (by omega) (by omega)) g.wq o
theorem held_at (h:Rep els ms lk ws ix L W) (g:Good b n L W) (hn:n<=3000) (o:Int):icC cfgB ⟨true,false⟩ 15 [.ptr 2 0 0,.int .i64 o] (tm els ms lk ws)=some (mk15 (els,ms,lk,ws,(heldA L o).map hoV)) :=
 held_ok h (g.szN (N:=4000) (by omega) (by omega)) o
theorem holders_at (h:Rep els ms lk ws ix L W) (g:Good b n L W) (hn:n<=3000) (nm:Bs):icC cfgB ⟨true,false⟩ 23 [.ptr 2 0 0,.str nm] (tm els ms lk ws)=some (mk23 (els,ms,lk,ws,ints (holdA L nm))) :=
 holders_ok h (g.szN (N:=4000) (by omega) (by omega)) nm
theorem queue_at (h:Rep els ms lk ws ix L W) (g:Good b n L W) (hn:n<=3000) (nm:Bs):icC cfgB ⟨true,false⟩ 25 [.ptr 2 0 0,.str nm] (tm els ms lk ws)=some (mk25 (els,ms,lk,ws,ints (queueA L nm))) :=
 queue_ok h (g.szN (N:=4000) (by omega) (by omega)) nm
theorem beh_at (h:Rep els ms lk ws ix L W) (g:Good b n L W) (hn:n<=3000) (o:Int):behindX els ms lk ws o=some (behA L W o) :=
 beh_ok h (g.szN (N:=4000) (by omega) (by omega)) g.wok o
theorem Rep.mt:Rep [] [] [] [] ix [] []:=⟨rfl,rfl,by simp,by simp,rfl,by simp,List.nodup_nil,by simp⟩
theorem Good.mt (hb:b<=9223372036854775808):Good b 0 [] []:=by
 refine ⟨hb,List.nodup_nil,by simp,by simp,List.nodup_nil,fun e he=>(by cases he),fun o n2 hg=>(by cases hg),Nat.le_refl _,by simp,by simp,by simp,by simp,by simp,by simp,?_,by simp,by simp⟩
 intro o hr
 have:=hr.ne
 exact this rfl
end
theorem ints_get {a:List Int} {k:Nat} {x:Int} (h:a[k]? = some x) (q:V->R):idxK (ints a) k q=q (.int .i64 x):=idxK_of (by unfold ints;rw [List.getElem?_map,h];rfl)
theorem ints_len (a:List Int):(ints a).length=a.length:=by simp [ints]
theorem intsR_loop (a b:List Int) (hab:a.length=b.length) (hl:a.length<=100000):∀(r s:List Int) (k:Nat),a.drop k=r->b.drop k=s ->
  Go kcB false 0 fa12 (.head 0 (T12_0 (ints a) (ints b) (k:Int))) (.done (.bool (r==s))):=by
 intro r
 induction r with
 | nil =>
  intro s k hr hs
  have h1:=List.drop_eq_nil_iff.1 hr
  have:s=[]:=by rw [<-hs];exact List.drop_eq_nil_iff.2 (by omega)
  subst this
  refine s12_0_run _ _ _ ?_ (.refl _)
  unfold s12_0
  rw [decide_eq_false (by rw [ints_len];omega)]
  rfl
 | cons x r ih =>
  intro s k hr hs
  obtain ⟨h1,h2,h3⟩:=drop_cons hr
  cases s with
  | nil=>have:=List.drop_eq_nil_iff.1 hs;omega
  | cons y s =>
   obtain ⟨h4,h5,h6⟩:=drop_cons hs
   by_cases e:x=y
   ·subst e
    refine s12_0_run _ _ _ (o:=.head 0 (T12_0 (ints a) (ints b) ((k+1:Nat):Int))) ?_ ?_
    ·unfold s12_0
     rw [decide_eq_true (by rw [ints_len];omega),cond_true,gd_of (by simp),toNat_cast,ints_get h1,kI_mk,gd_of (by simp),ints_get h4,kI_mk,wi k (by omega),ibne_f rfl,cond_false]
    ·have:=ih s (k+1) h2 h5
     simpa using this
   ·refine s12_0_run _ _ _ ?_ (.refl _)
    have e2:((x::r)==(y::s))=false:=by
     simp [e]
    unfold s12_0
    rw [decide_eq_true (by rw [ints_len];omega),cond_true,gd_of (by simp),toNat_cast,ints_get h1,kI_mk,gd_of (by simp),ints_get h4,kI_mk,ibne_t e,e2]
    rfl
theorem intsR_ok (a b:List Int) (hl:a.length<=100000):pcW cfgB 12 [.sl (ints a),.sl (ints b)]=some (.bool (a==b)):=by
 by_cases h:a.length=b.length
 ·refine e12_run _ _ (o:=.head 0 (T12_0 (ints a) (ints b) ((0:Nat):Int))) ?_ (intsR_loop a b h hl a b 0 rfl rfl)
  unfold e12
  rw [ints_len,ints_len,ibne_f (by omega)]
  rfl
 ·refine e12_run _ _ ?_ (.refl _)
  unfold e12
  have:(a==b)=false:=by
   simp only [beq_eq_false_iff_ne,ne_eq]
   rintro rfl
   exact h rfl
  rw [ints_len,ints_len,ibne_t (by omega),this]
  rfl
section
variable {B:Int->List Int}
theorem not_dead {o:Int} (S:List Int) (h1:∀x∈B o,x∈S) (h2:∀x∈S,∀y∈B x,y∈S) (h3:o∉S):¬Rch B o o:=by
 have key:∀a b,Rch B a b->a∈S->b∈S:=by
  intro a b hr
  induction hr with
  | one hx=>exact fun ha=>h2 _ ha _ hx
  | step hx _ ih=>exact fun ha=>ih (h2 _ ha _ hx)
 intro hr
 cases hr with
 | one hx=>exact h3 (h1 _ hx)
 | step hx hr=>exact h3 (key _ _ hr (h1 _ hx))
end
abbrev nA:Bs:=[97]
abbrev nB:Bs:=[98]
def xA (hs q:HQ):Lk:=⟨nA,hs,q⟩
def xB (hs q:HQ):Lk:=⟨nB,hs,q⟩
theorem dead_no {L:List Lk} {W:WL} {o:Int} (S:List Int) (h1:∀x∈behA L W o,x∈S) (h2:∀x∈S,∀y∈behA L W x,y∈S) (h3:o∉S):deadB L W o=false :=
 @decide_eq_false _ (Classical.propDecidable _) (not_dead S h1 h2 h3)
theorem dead_yes {L:List Lk} {W:WL} {o:Int} (h:Rch (behA L W) o o):deadB L W o=true:=@decide_eq_true _ (Classical.propDecidable _) h
theorem f1:askA [] [] 1 nA 4=(0,[xA [(1,4)] []],[]):=by kernel_rfl
theorem d2:deadB [xA [(1,4)] [(2,3)]] [(2,nA)] 2=false:=by
 refine dead_no [1] (fun x hx=>?_) (fun x hx y hy=>?_) (by simp)
 ·have hx:x∈behindL [(1,4)] [(2,3)] 0 2 3:=hx
  rw [behindL_mem] at hx
  rcases hx with hx | ⟨p,hp,rfl,_⟩
  ·simp at hx
  ·simp at hp;rw [hp];simp
 ·simp only [List.mem_singleton] at hx
  subst hx
  have hy:y∈([]:List Int):=hy
  cases hy
theorem f2:askA [xA [(1,4)] []] [] 2 nA 3=(10,[xA [(1,4)] [(2,3)]],[(2,nA)]):=by
 have h:askA [xA [(1,4)] []] [] 2 nA 3=if deadB [xA [(1,4)] [(2,3)]] [(2,nA)] 2=true then (11,[xA [(1,4)] []],[]) else (10,[xA [(1,4)] [(2,3)]],[(2,nA)]):=by kernel_rfl
 rw [h,d2];rfl
theorem f3:askA [xA [(1,4)] [(2,3)]] [(2,nA)] 2 nB 3=(9,[xA [(1,4)] [(2,3)]],[(2,nA)]):=by kernel_rfl
theorem f4:waitA [xA [(1,4)] [(2,3)]] [(2,nA)] 2=some (nA,3):=by kernel_rfl
theorem f5:askA [xA [(1,4)] [(2,3)]] [(2,nA)] 3 nB 4=(0,[xA [(1,4)] [(2,3)],xB [(3,4)] []],[(2,nA)]):=by kernel_rfl
theorem d6:deadB [xA [(1,4)] [(2,3)],xB [(3,4)] [(1,3)]] [(2,nA),(1,nB)] 1=false:=by
 refine dead_no [3] (fun x hx=>?_) (fun x hx y hy=>?_) (by simp)
 ·have hx:x∈behindL [(3,4)] [(1,3)] 0 1 3:=hx
  rw [behindL_mem] at hx
  rcases hx with hx | ⟨p,hp,rfl,_⟩
  ·simp at hx
  ·simp at hp;rw [hp];simp
 ·simp only [List.mem_singleton] at hx
  subst hx
  have hy:y∈([]:List Int):=hy
  cases hy
theorem f6:askA [xA [(1,4)] [(2,3)],xB [(3,4)] []] [(2,nA)] 1 nB 3=(10,[xA [(1,4)] [(2,3)],xB [(3,4)] [(1,3)]],[(2,nA),(1,nB)]):=by
 have h:askA [xA [(1,4)] [(2,3)],xB [(3,4)] []] [(2,nA)] 1 nB 3=if deadB [xA [(1,4)] [(2,3)],xB [(3,4)] [(1,3)]] [(2,nA),(1,nB)] 1=true then (11,[xA [(1,4)] [(2,3)],xB [(3,4)] []],[(2,nA)]) else (10,[xA [(1,4)] [(2,3)],xB [(3,4)] [(1,3)]],[(2,nA),(1,nB)]):=by kernel_rfl
 rw [h,d6];rfl
theorem f7:behA [xA [(1,4)] [(2,3)],xB [(3,4)] [(1,3)]] [(2,nA),(1,nB)] 1=[3]:=by
 show srt ([3]:List Int)=[3]
 unfold srt
 rw [List.mergeSort_singleton]
theorem d8:deadB [xA [(1,4)] [(2,3),(3,3)],xB [(3,4)] [(1,3)]] [(2,nA),(1,nB),(3,nA)] 3=true:=by
 refine dead_yes (.step (x:=1) ?_ (.one ?_))
 ·show (1:Int)∈behindL [(1,4)] [(2,3),(3,3)] 1 3 3
  rw [behindL_mem]
  exact .inr ⟨(1,4),by simp,rfl,by decide,by decide⟩
 ·show (3:Int)∈behindL [(3,4)] [(1,3)] 0 1 3
  rw [behindL_mem]
  exact .inr ⟨(3,4),by simp,rfl,by decide,by decide⟩
theorem f8:askA [xA [(1,4)] [(2,3)],xB [(3,4)] [(1,3)]] [(2,nA),(1,nB)] 3 nA 3=(11,[xA [(1,4)] [(2,3)],xB [(3,4)] [(1,3)]],[(2,nA),(1,nB)]):=by
 have h:askA [xA [(1,4)] [(2,3)],xB [(3,4)] [(1,3)]] [(2,nA),(1,nB)] 3 nA 3=if deadB [xA [(1,4)] [(2,3),(3,3)],xB [(3,4)] [(1,3)]] [(2,nA),(1,nB),(3,nA)] 3=true then (11,[xA [(1,4)] [(2,3)],xB [(3,4)] [(1,3)]],[(2,nA),(1,nB)]) else (10,[xA [(1,4)] [(2,3),(3,3)],xB [(3,4)] [(1,3)]],[(2,nA),(1,nB),(3,nA)]):=by kernel_rfl
 rw [h,d8];rfl
theorem f9:freeA [xA [(1,4)] [(2,3)],xB [(3,4)] [(1,3)]] [(2,nA),(1,nB)] 3 nB=(0,[xA [(1,4)] [(2,3)],xB [(1,3)] []],[(2,nA)],[1]):=by kernel_rfl
theorem f10:freeA [xA [(1,4)] [(2,3)],xB [(1,3)] []] [(2,nA)] 3 nB=(7,[xA [(1,4)] [(2,3)],xB [(1,3)] []],[(2,nA)],[]):=by kernel_rfl
theorem srtS2:srtS [nA,nB]=[nA,nB]:=by
 unfold srtS
 rw [List.mergeSort_of_pairwise]
 simp only [nA,nB,List.pairwise_cons]
 decide
theorem f11:dropA [xA [(1,4)] [(2,3)],xB [(1,3)] []] [(2,nA)] 1=([xA [(2,3)] []],[],[2]):=by
 have:dropA [xA [(1,4)] [(2,3)],xB [(1,3)] []] [(2,nA)] 1=comeAll (srtS [nA,nB]) [xA [] [(2,3)],xB [] []] [(2,nA)]:=by kernel_rfl
 have h2:comeAll [nA,nB] [xA [] [(2,3)],xB [] []] [(2,nA)]=([xA [(2,3)] []],[],[2]):=by kernel_rfl
 rw [this,srtS2,h2]
theorem f12:askA [xA [(2,3)] []] [] 2 nA 4=(0,[xA [(2,4)] []],[]):=by kernel_rfl
theorem f13:askA [xA [(2,4)] []] [] (-1) nA 3=(1,[xA [(2,4)] []],[]):=by kernel_rfl
theorem f14:askA [xA [(2,4)] []] [] 4 nA 0=(1,[xA [(2,4)] []],[]):=by kernel_rfl
theorem f15:modeA [xA [(2,4)] []] 2 nA=4:=by kernel_rfl
theorem f16:holdA [xA [(2,4)] []] nA=[2]:=by
 show srt ([2]:List Int)=[2]
 unfold srt
 rw [List.mergeSort_singleton]
theorem f17:queueA [xA [(2,4)] []] nA=[]:=by kernel_rfl
theorem f18:heldA [xA [(2,4)] []] 1=[]:=by
 unfold heldA
 rw [show srtS (nms [xA [(2,4)] []])=[nA] by unfold srtS;exact List.mergeSort_singleton _];rfl
theorem f19:heldA [xA [(2,4)] []] 2=[(nA,4)]:=by
 unfold heldA
 rw [show srtS (nms [xA [(2,4)] []])=[nA] by unfold srtS;exact List.mergeSort_singleton _];rfl
theorem waits_at {els:List V} {ms:List (List (V × V))} {lk ws:List (V × V)} {ix:Bs->Nat} {L:List Lk} {W:WL} {b:Int} {n:Nat} (h:Rep els ms lk ws ix L W) (g:Good b n L W) (hn:n<=3000) (o:Int) :
  icC cfgB ⟨true,false⟩ 17 [.ptr 2 0 0,.int .i64 o] (tm els ms lk ws)=some (mk17 (((waitA L W o).getD ([],0)).1,((waitA L W o).getD ([],0)).2,(waitA L W o).isSome,els,ms,lk,ws)) :=
 waits_ok h (g.szN (N:=4000) (by omega) (by omega)) g.wok o
theorem law_run {f:FuncId} {fa:FA} {args:List V} {mem0 mem:List O} {o:Out} {v:V} (hp:kcB.cfg.pprim f=none) (hf:fnA kcB.cfg.P (kcB.cfg.rxf f) f=some fa) (hm:arsM kcB.cfg f=mem0) (hfl:v.flat1=true) (ho:arsOk kcB.cfg f args=true) (hne:(kcB.cfg.ars f).isEmpty=false)
  (h:enterK kcB true fa args mem0=some o) (hg:Go kcB true mem0.length fa o (.doneM v mem)):pcW cfgB f args=some v:=pcW_goA ikB hp hf hm hfl ho hne h hg
theorem fixed_ok:pcW cfgB 7 []=some (.bool true):=by
 have hb:(5:Int)<=9223372036854775808:=by decide
 have r0:Rep [] [] [] [] (fun _=>0) [] []:=Rep.mt
 have g0:Good 5 0 [] []:=Good.mt hb
 obtain ⟨a1,b1,c1,i1,k1,r1⟩:=ask_at r0 g0 (by omega) 1 (by decide) nA 4
 have g1:=g0.ask (o:=1) (by decide) nA 4
 rw [f1] at k1 r1 g1
 obtain ⟨a2,b2,c2,i2,k2,r2⟩:=ask_at r1 g1 (by omega) 2 (by decide) nA 3
 have g2:=g1.ask (o:=2) (by decide) nA 3
 rw [f2] at k2 r2 g2
 obtain ⟨a3,b3,c3,i3,k3,r3⟩:=ask_at r2 g2 (by omega) 2 (by decide) nB 3
 have g3:=g2.ask (o:=2) (by decide) nB 3
 rw [f3] at k3 r3 g3
 have k4:=waits_at r3 g3 (by omega) 2
 rw [f4] at k4
 obtain ⟨a5,b5,c5,i5,k5,r5⟩:=ask_at r3 g3 (by omega) 3 (by decide) nB 4
 have g5:=g3.ask (o:=3) (by decide) nB 4
 rw [f5] at k5 r5 g5
 obtain ⟨a6,b6,c6,i6,k6,r6⟩:=ask_at r5 g5 (by omega) 1 (by decide) nB 3
 have g6:=g5.ask (o:=1) (by decide) nB 3
 rw [f6] at k6 r6 g6
 have k7:=beh_at r6 g6 (by omega) 1
 rw [f7] at k7
 obtain ⟨a8,b8,c8,i8,k8,r8⟩:=ask_at r6 g6 (by omega) 3 (by decide) nA 3
 have g8:=g6.ask (o:=3) (by decide) nA 3
 rw [f8] at k8 r8 g8
 obtain ⟨a9,b9,c9,i9,k9,r9⟩:=free_at r8 g8 (by omega) 3 nB
 have g9:=Good.free g8 3 nB
 rw [f9] at k9 r9 g9
 obtain ⟨a10,b10,c10,i10,k10,r10⟩:=free_at r9 g9 (by omega) 3 nB
 have g10:=Good.free g9 3 nB
 rw [f10] at k10 r10 g10
 obtain ⟨a11,b11,c11,i11,k11,r11⟩:=drop_at r10 g10 (by omega) 1
 have g11:=Good.drop g10 1
 rw [f11] at k11 r11 g11
 obtain ⟨a12,b12,c12,i12,k12,r12⟩:=ask_at r11 g11 (by omega) 2 (by decide) nA 4
 have g12:=g11.ask (o:=2) (by decide) nA 4
 rw [f12] at k12 r12 g12
 obtain ⟨a13,b13,c13,i13,k13,r13⟩:=ask_at r12 g12 (by omega) (-1) (by decide) nA 3
 have g13:=g12.ask (o:=-1) (by decide) nA 3
 rw [f13] at k13 r13 g13
 obtain ⟨a14,b14,c14,i14,k14,r14⟩:=ask_at r13 g13 (by omega) 4 (by decide) nA 0
 have g14:=g13.ask (o:=4) (by decide) nA 0
 rw [f14] at k14 r14 g14
 have k15:=mode_ok r14 2 nA
 rw [f15] at k15
 have k16:=holders_at r14 g14 (by omega) nA
 rw [f16] at k16
 have k17:=queue_at r14 g14 (by omega) nA
 rw [f17] at k17
 have k18:=held_at r14 g14 (by omega) 1
 rw [f18] at k18
 have k19:=held_at r14 g14 (by omega) 2
 rw [f19] at k19
 have q:∀x:Int,pcW cfgB 12 [.sl (ints [x]),.sl [.int .i64 x]]=some (.bool true):=fun x=>(intsR_ok [x] [x] (by simp)).trans (by rw [beq_self_eq_true])
 suffices hs:∃m,e7=some (.doneM (.bool true) m) by
  obtain ⟨m,hs⟩:=hs
  exact law_run rfl fa7_eq rfl rfl rfl rfl ((e7_eq).trans hs) (.refl _)
 apply Exists.intro
 unfold e7
 rw [icM_of mk8_inj k1]
 dsimp only
 rw [icM_of mk8_inj k2]
 dsimp only
 rw [icM_of mk8_inj k3]
 dsimp only
 rw [icM_of mk17_inj k4]
 dsimp only
 rw [icM_of mk8_inj k5]
 dsimp only
 rw [icM_of mk8_inj k6]
 dsimp only
 rw [k7,opt_mk,icM_of mk8_inj k8]
 dsimp only
 rw [icM_of mk10_inj k9]
 dsimp only
 rw [icM_of mk10_inj k10]
 dsimp only
 rw [icM_of mk13_inj k11]
 dsimp only
 rw [icM_of mk8_inj k12]
 dsimp only
 rw [icM_of mk8_inj k13]
 dsimp only
 rw [icM_of mk8_inj k14]
 dsimp only
 show pcK cfgB 12 [.sl (ints [3]),.sl [.int .i64 3]] _=_
 rw [pcK_of (q 3),kB_mk,cond_true]
 show pcK cfgB 12 [.sl (ints [1]),.sl [.int .i64 1]] _=_
 rw [pcK_of (q 1),kB_mk,cond_true]
 show pcK cfgB 12 [.sl (ints [2]),.sl [.int .i64 2]] _=_
 rw [pcK_of (q 2),kB_mk,cond_true]
 simp only [beq_self_eq_true,cond_true]
 rw [icM_of mk19_inj k15]
 dsimp only
 rw [beq_self_eq_true,cond_true]
 rw [icM_of mk23_inj k16]
 dsimp only
 rw [pcK_of (q 2),kB_mk,cond_true,icM_of mk25_inj k17]
 dsimp only
 rw [show (((ints []).length:Int)==0)=true from rfl,cond_true]
 rw [icM_of mk15_inj k18]
 dsimp only
 rw [show (((([]:List (Bs × Int)).map hoV).length:Int)==0)=true from rfl,cond_true]
 rw [icM_of mk15_inj k19]
 rfl
structure Has where
 o:Int
 m:Int
 nm:Bs
def hV (h:Has):V:=.agg [.int .i64 h.o,.int .i64 h.m,.str h.nm]
def rowsV (l:List Has):List V:=l.map hV
abbrev tV (H Q:List Has):V:=.ref (.agg [.sl (rowsV H),.sl (rowsV Q)]) 0
theorem dHas (h:Has) (k:Int->Int->Bs->R):d54 (hV h) k=k h.o h.m h.nm:=rfl
theorem rows_len (l:List Has):(rowsV l).length=l.length:=by simp [rowsV]
theorem rows_get {l:List Has} {k:Nat} {h:Has} (e:l[k]? = some h) (q:V->R):idxK (rowsV l) k q=q (hV h):=idxK_c e
def ixF (p:Has->Bool):List Has->Nat->Int
 | [],_=>-1
 | h::l,k=>if p h then k else ixF p l (k+1)
theorem drop_get {α:Type} {l r:List α} {x:α} {k:Nat} (h:l.drop k=x::r):l[k]? = some x/\l.drop (k+1)=r/\k < l.length:=by
 have h1:l[k]? = some x:=by
  have:=congrArg (·[0]?) h
  simpa using this
 have hlt:=(List.getElem?_eq_some_iff.1 h1).1
 refine ⟨h1,?_,hlt⟩
 rw [<-List.drop_drop,h];rfl
theorem wN (k:Nat) (h:k<=100000):W .i64 ((k:Int)+1)=((k+1:Nat):Int):=by rw [W_i64 (by omega)];rfl
section
variable (H Q:List Has)
theorem rwait_loop (hl:Q.length<=99999) (o:Int):∀(r:List Has) (k:Nat),Q.drop k=r ->
  Go kcB false 0 fa31 (.head 0 (T31_0 (rowsV H) (rowsV Q) o (k:Int))) (.done (.int .i64 (ixF (fun h=>h.o==o) r k)))
 | [],k,h=>by
  have:=List.drop_eq_nil_iff.1 h
  refine s31_0_run _ _ _ _ ?_ (.refl _)
  unfold s31_0
  rw [decide_eq_false (by rw [rows_len];omega),cond_false];rfl
 | x::r,k,h=>by
  obtain ⟨h1,h2,h3⟩:=drop_get h
  unfold ixF
  cases hx:x.o==o with
  | true =>
   refine s31_0_run _ _ _ _ ?_ (.refl _)
   unfold s31_0
   rw [decide_eq_true (by rw [rows_len];omega),cond_true,gd_of (by simp),toNat_cast,rows_get h1,dHas,hx];rfl
  | false =>
   refine s31_0_run _ _ _ _ ?_ (rwait_loop hl o r (k+1) h2)
   unfold s31_0
   rw [decide_eq_true (by rw [rows_len];omega),cond_true,gd_of (by simp),toNat_cast,rows_get h1,dHas,hx,cond_false,wN k (by omega)]
theorem rwait_ok (hl:Q.length<=99999) (o:Int):pcW cfgB 31 [tV H Q,.int .i64 o]=some (.int .i64 (ixF (fun h=>h.o==o) Q 0)) :=
 e31_run _ _ _ rfl (rwait_loop H Q hl o Q 0 rfl)
theorem rfirst_loop (hl:Q.length<=99999) (nm:Bs):∀(r:List Has) (k:Nat),Q.drop k=r ->
  Go kcB false 0 fa34 (.head 0 (T34_0 (rowsV H) (rowsV Q) nm (k:Int))) (.done (.int .i64 (ixF (fun h=>h.nm==nm) r k)))
 | [],k,h=>by
  have:=List.drop_eq_nil_iff.1 h
  refine s34_0_run _ _ _ _ ?_ (.refl _)
  unfold s34_0
  rw [decide_eq_false (by rw [rows_len];omega),cond_false];rfl
 | x::r,k,h=>by
  obtain ⟨h1,h2,h3⟩:=drop_get h
  unfold ixF
  cases hx:x.nm==nm with
  | true =>
   refine s34_0_run _ _ _ _ ?_ (.refl _)
   unfold s34_0
   rw [decide_eq_true (by rw [rows_len];omega),cond_true,gd_of (by simp),toNat_cast,rows_get h1,dHas,hx];rfl
  | false =>
   refine s34_0_run _ _ _ _ ?_ (rfirst_loop hl nm r (k+1) h2)
   unfold s34_0
   rw [decide_eq_true (by rw [rows_len];omega),cond_true,gd_of (by simp),toNat_cast,rows_get h1,dHas,hx,cond_false,wN k (by omega)]
theorem rfirst_ok (hl:Q.length<=99999) (nm:Bs):pcW cfgB 34 [tV H Q,.str nm]=some (.int .i64 (ixF (fun h=>h.nm==nm) Q 0)) :=
 e34_run _ _ _ rfl (rfirst_loop H Q hl nm Q 0 rfl)
def canH (x h:Has):Bool:=!(h.nm==x.nm) || (h.o==x.o || fitsB h.m x.m)
theorem rcan_loop (hl:H.length<=99999) (x:Has):∀(r:List Has) (k:Nat),H.drop k=r ->
  Go kcB false 0 fa33 (.head 0 (T33_0 (rowsV H) (rowsV Q) (k:Int) x.o x.m x.nm)) (.done (.bool (r.all (canH x))))
 | [],k,h=>by
  have:=List.drop_eq_nil_iff.1 h
  refine s33_0_run _ _ _ _ _ _ ?_ (.refl _)
  unfold s33_0
  rw [decide_eq_false (by rw [rows_len];omega),cond_false];rfl
 | y::r,k,h=>by
  obtain ⟨h1,h2,h3⟩:=drop_get h
  have go:=rcan_loop hl x r (k+1) h2
  have hb:s33_0 (rowsV H) (rowsV Q) (k:Int) x.o x.m x.nm=cond (y.nm==x.nm) (cond (y.o != x.o) (cond (!fitsB y.m x.m) (some (.done (.bool false))) (some (.head 0 (T33_0 (rowsV H) (rowsV Q) ((k+1:Nat):Int) x.o x.m x.nm)))) (some (.head 0 (T33_0 (rowsV H) (rowsV Q) ((k+1:Nat):Int) x.o x.m x.nm)))) (some (.head 0 (T33_0 (rowsV H) (rowsV Q) ((k+1:Nat):Int) x.o x.m x.nm))):=by
   unfold s33_0
   rw [decide_eq_true (by rw [rows_len];omega),cond_true,gd_of (by simp),toNat_cast,rows_get h1,dHas,pcK_of (rfitsW _ _),kB_mk,wN k (by omega)]
  rw [List.all_cons]
  unfold canH
  cases hn:y.nm==x.nm with
  | false =>
   rw [Bool.not_false,Bool.true_or,Bool.true_and]
   exact s33_0_run _ _ _ _ _ _ (by rw [hb,hn,cond_false]) go
  | true =>
   cases ho:y.o==x.o with
   | true =>
    rw [Bool.not_true,Bool.false_or,Bool.true_or,Bool.true_and]
    exact s33_0_run _ _ _ _ _ _ (by rw [hb,hn,cond_true,bne,ho,Bool.not_true,cond_false]) go
   | false =>
    cases hf:fitsB y.m x.m with
    | true =>
     rw [Bool.not_true,Bool.false_or,Bool.false_or,Bool.true_and]
     exact s33_0_run _ _ _ _ _ _ (by rw [hb,hn,cond_true,bne,ho,Bool.not_false,cond_true,hf,Bool.not_true,cond_false]) go
    | false =>
     rw [Bool.not_true,Bool.false_or,Bool.false_or,Bool.false_and]
     exact s33_0_run _ _ _ _ _ _ (by rw [hb,hn,cond_true,bne,ho,Bool.not_false,cond_true,hf,Bool.not_false,cond_true]) (.refl _)
theorem rcan_ok (hl:H.length<=99999) (x:Has):pcW cfgB 33 [tV H Q,hV x]=some (.bool (H.all (canH x))) :=
 e33_run _ _ _ _ _ rfl (rcan_loop H Q hl x H 0 rfl)
def modeH (o:Int) (nm:Bs):List Has->Int
 | []=>0
 | h::l=>if h.o==o && h.nm==nm then h.m else modeH o nm l
theorem rmode_loop (hl:H.length<=99999) (o:Int) (nm:Bs):∀(r:List Has) (k:Nat),H.drop k=r ->
  Go kcB false 0 fa20 (.head 0 (T20_0 (rowsV H) (rowsV Q) o nm (k:Int))) (.done (.int .i64 (modeH o nm r)))
 | [],k,h=>by
  have:=List.drop_eq_nil_iff.1 h
  refine s20_0_run _ _ _ _ _ ?_ (.refl _)
  unfold s20_0
  rw [decide_eq_false (by rw [rows_len];omega),cond_false];rfl
 | y::r,k,h=>by
  obtain ⟨h1,h2,h3⟩:=drop_get h
  have go:=rmode_loop hl o nm r (k+1) h2
  have hb:s20_0 (rowsV H) (rowsV Q) o nm (k:Int)=cond (y.o==o) (cond (y.nm==nm) (some (.done (.int .i64 y.m))) (some (.head 0 (T20_0 (rowsV H) (rowsV Q) o nm ((k+1:Nat):Int))))) (some (.head 0 (T20_0 (rowsV H) (rowsV Q) o nm ((k+1:Nat):Int)))):=by
   have hg:∀q:R,gd (decide (0<=(k:Int))) q=q:=fun q=>gd_of (by simp)
   unfold s20_0
   simp only [decide_eq_true (show (k:Int) < ((rowsV H).length:Int) by rw [rows_len];omega),cond_true,hg,toNat_cast,rows_get h1,dHas,wN k (by omega)]
  unfold modeH
  cases ho:y.o==o with
  | false =>
   rw [Bool.false_and,if_neg (by simp)]
   exact s20_0_run _ _ _ _ _ (by rw [hb,ho,cond_false]) go
  | true =>
   cases hn:y.nm==nm with
   | false =>
    rw [Bool.and_false,if_neg (by simp)]
    exact s20_0_run _ _ _ _ _ (by rw [hb,ho,hn,cond_true,cond_false]) go
   | true =>
    rw [Bool.and_true,if_pos rfl]
    exact s20_0_run _ _ _ _ _ (by rw [hb,ho,hn,cond_true,cond_true]) (.refl _)
theorem rmode_ok (hl:H.length<=99999) (o:Int) (nm:Bs):pcW cfgB 20 [tV H Q,.int .i64 o,.str nm]=some (.int .i64 (modeH o nm H)) :=
 e20_run _ _ _ _ rfl (rmode_loop H Q hl o nm H 0 rfl)
end
def insI (n:Int):List Int->List Int
 | []=>[n]
 | x::l=>if x < n then x::insI n l else if x=n then x::l else n::x::l
theorem ints_app (a b:List Int):ints (a++b)=ints a++ints b:=by simp [ints]
theorem ints_drop (a:List Int) (k:Nat):(ints a).drop k=ints (a.drop k):=by simp [ints,List.map_drop]
theorem ints_wfl (a:List Int):wfl 1 (ints a)=true:=wfl1 _
theorem take_get {α:Type} {l r:List α} {x:α} {k:Nat} (h:l.drop k=x::r):l.take (k+1)=l.take k++[x]:=by
 obtain ⟨h1,_,h3⟩:=drop_get h
 rw [List.take_add_one,h1];rfl
theorem tailG (l:List Int) (hl:l.length<=99999) (n:Int) (k:Nat) (hk:k<=l.length) (q:R) :
  (gd (decide ((ints (l.take k)).length+([V.int .i64 n]:List V).length<=16777216))<|gd (wfl 1 (ints l))<|gd (decide (0<=(k:Int)))<|gd (decide (((k:Int)).toNat<=(ints l).length))<|gd (wfl 1 ((ints l).drop ((k:Int)).toNat)) <|
   gd (decide ((ints (l.take k)++[V.int .i64 n]).length+((ints l).drop ((k:Int)).toNat).length<=16777216)) q)=q:=by
 rw [toNat_cast,ints_drop,gd_of (decide_eq_true (by rw [ints_len,List.length_take];simp;omega)),gd_of (ints_wfl _),gd_of (by simp),gd_of (decide_eq_true (by rw [ints_len];exact hk)),gd_of (ints_wfl _),
  gd_of (decide_eq_true (by rw [List.length_append,ints_len,ints_len,List.length_take,List.length_drop];simp;omega))]
theorem insNew (l:List Int) (n:Int) (k:Nat):((ints (l.take k)++[V.int .i64 n])++(ints l).drop ((k:Int)).toNat)=ints (l.take k++n::l.drop k):=by
 rw [toNat_cast,ints_drop];simp [ints,iV]
theorem rints_loop (l:List Int) (hl:l.length<=99999) (n:Int):∀(r:List Int) (k:Nat),l.drop k=r->k<=l.length ->
  GoN kcB 1 fa52 ⟨false,false⟩ [.row 3 (ints l) 0] (.head 0 (T52_0 n (k:Int) (ints l) (ints (l.take k)))) (mk52 (ints (l.take k++insI n r)))
 | [],k,h,hk=>by
  have h0:=List.drop_eq_nil_iff.1 h
  refine GoN.step (fun o'=>s52_0_run _ _ _ _ (o:=.doneM (.own 5) [O.row 3 (ints l) 0,O.row 3 [] 0,O.dead,O.row 3 [V.int .i64 n] 0,O.dead,O.row 3 ((ints (l.take k)++[V.int .i64 n])++(ints l).drop ((k:Int)).toNat) 0]) ?_) ?_
  ·unfold s52_0
   rw [decide_eq_false (by rw [ints_len];omega),cond_false,cond_false,tailG l hl n k hk]
  ·rw [insNew,h]
   exact .done (by kernel_rfl)
 | x::r,k,h,hk=>by
  obtain ⟨h1,h2,h3⟩:=drop_get h
  have hg1:∀q:R,gd (decide (0<=(k:Int))) q=q:=fun q=>gd_of (by simp)
  have hg2:∀q:R,gd (decide (((k:Int)).toNat < (ints l).length)) q=q:=fun q=>gd_of (decide_eq_true (by rw [ints_len];omega))
  have hd:decide ((k:Int) < ((ints l).length:Int))=true:=decide_eq_true (by rw [ints_len];omega)
  have hx:∀q:V->R,idxK (ints l) ((k:Int)).toNat q=q (.int .i64 x):=fun q=>ints_get (by rw [toNat_cast];exact h1) q
  unfold insI
  by_cases hlt:x < n
  ·rw [if_pos hlt]
   have go:=rints_loop l hl n r (k+1) h2 h3
   rw [take_get h,List.append_assoc] at go
   refine GoN.step (fun o'=>s52_0_run _ _ _ _ (o:=.head 0 (T52_0 n ((k+1:Nat):Int) (ints l) (ints (l.take k++[x])))) ?_) go
   unfold s52_0
   rw [hd,cond_true,hg1,hg2,hx,kI_mk,decide_eq_true hlt,cond_true,hg1,hg2,hx,kI_mk,gd_of (decide_eq_true (by rw [ints_len,List.length_take];simp;omega)),wN k (by omega),ints_app]
   rfl
  ·rw [if_neg hlt]
   by_cases he:x=n
   ·rw [if_pos he]
    refine GoN.step (fun o'=>s52_0_run _ _ _ _ (o:=.doneM (.own 0) [O.row 3 (ints l) 0,O.row 3 [] 0,O.row 3 (ints (l.take k)) 0]) ?_) ?_
    ·unfold s52_0
     rw [hd,cond_true,hg1,hg2,hx,kI_mk,decide_eq_false hlt,cond_false,cond_true,hg1,hg2,hx,kI_mk,ibeq_t he,cond_true]
    ·rw [<-h,List.take_append_drop]
     exact .done (by kernel_rfl)
   ·rw [if_neg he]
    refine GoN.step (fun o'=>s52_0_run _ _ _ _ (o:=.doneM (.own 5) [O.row 3 (ints l) 0,O.row 3 [] 0,O.dead,O.row 3 [V.int .i64 n] 0,O.dead,O.row 3 ((ints (l.take k)++[V.int .i64 n])++(ints l).drop ((k:Int)).toNat) 0]) ?_) ?_
    ·unfold s52_0
     rw [hd,cond_true,hg1,hg2,hx,kI_mk,decide_eq_false hlt,cond_false,cond_true,hg1,hg2,hx,kI_mk,ibeq_f he,cond_false,tailG l hl n k hk]
    ·rw [insNew,h]
     exact .done (by kernel_rfl)
theorem rints_ok (l:List Int) (hl:l.length<=99999) (n:Int):icC cfgB ⟨false,false⟩ 52 [.own 0,.int .i64 n] [.row 3 (ints l) 0]=some (mk52 (ints (insI n l))) :=
 e52_run _ _ rfl (rints_loop l hl n l 0 rfl (Nat.zero_le _))
theorem insI_len (n:Int):∀l,(insI n l).length<=l.length+1
 | []=>by simp [insI]
 | x::l=>by
  have:=insI_len n l
  unfold insI
  split
  ·simp;omega
  ·split<;>simp
theorem flat_ints (l:List Int):((ints l):List V).all (fun x=>x.cells.all V.flat1)=true:=by
 rw [List.all_eq_true]
 intro x hx
 obtain ⟨y,_,rfl⟩:=List.mem_map.1 hx
 rfl
def wo (o:Int) (nm:Bs) (al:Bool) (h:Has):Bool:=h.o != o || (!al && !(h.nm==nm))
theorem rows_app (a b:List Has):rowsV (a++b)=rowsV a++rowsV b:=by simp [rowsV]
theorem flat_rows (l:List Has):((rowsV l):List V).all (fun x=>x.cells.all V.flat1)=true:=by
 rw [List.all_eq_true]
 intro x hx
 obtain ⟨y,_,rfl⟩:=List.mem_map.1 hx
 rfl
theorem rwo_loop (l:List Has) (hl:l.length<=99999) (o:Int) (nm:Bs) (al:Bool):∀(r:List Has) (k:Nat),l.drop k=r->∀out:List Has,out.length<=k ->
  Go kcB false 0 fa38 (.head 0 (T38_0 (rowsV l) o nm al (k:Int) (rowsV out))) (.done (.fr 54 (rowsV (out++r.filter (wo o nm al)))))
 | [],k,h,out,ho=>by
  have:=List.drop_eq_nil_iff.1 h
  refine s38_0_run _ _ _ _ _ _ ?_ (.refl _)
  unfold s38_0
  rw [decide_eq_false (by rw [rows_len];omega),cond_false,gd_of (flat_rows out)]
  simp
 | x::r,k,h,out,ho=>by
  obtain ⟨h1,h2,h3⟩:=drop_get h
  have hg1:∀q:R,gd (decide (0<=(k:Int))) q=q:=fun q=>gd_of (by simp)
  have hx:∀q:V->R,idxK (rowsV l) ((k:Int)).toNat q=q (hV x):=fun q=>rows_get (by rw [toNat_cast];exact h1) q
  have hg3:∀q:R,gd (decide ((rowsV out).length+([V.agg [V.int .i64 x.o,V.int .i64 x.m,V.str x.nm]]:List V).length<=16777216)) q=q:=fun q=>gd_of (decide_eq_true (by rw [rows_len];simp;omega))
  have hb:s38_0 (rowsV l) o nm al (k:Int) (rowsV out)=cond (wo o nm al x) (some (.head 0 (T38_0 (rowsV l) o nm al ((k+1:Nat):Int) (rowsV (out++[x]))))) (some (.head 0 (T38_0 (rowsV l) o nm al ((k+1:Nat):Int) (rowsV out)))):=by
   unfold s38_0 wo
   simp only [decide_eq_true (show (k:Int) < ((rowsV l).length:Int) by rw [rows_len];omega),cond_true,hg1,hx,dHas,hg3,wN k (show k<=100000 by omega),rows_app]
   cases x.o != o<;>cases al<;>cases x.nm==nm<;>rfl
  rw [List.filter_cons]
  cases hw:wo o nm al x with
  | true =>
   rw [if_pos rfl]
   have go:=rwo_loop l hl o nm al r (k+1) h2 (out++[x]) (by simp;omega)
   rw [List.append_assoc] at go
   exact s38_0_run _ _ _ _ _ _ (by rw [hb,hw,cond_true]) go
  | false =>
   rw [if_neg (by simp)]
   exact s38_0_run _ _ _ _ _ _ (by rw [hb,hw,cond_false]) (rwo_loop l hl o nm al r (k+1) h2 out (by omega))
theorem rwo_ok (l:List Has) (hl:l.length<=99999) (o:Int) (nm:Bs) (al:Bool):pcW cfgB 38 [.sl (rowsV l),.int .i64 o,.str nm,.bool al]=some (.fr 54 (rowsV (l.filter (wo o nm al)))) :=
 e38_run _ _ _ _ rfl (rwo_loop l hl o nm al l 0 rfl [] (Nat.le_refl _))
def insAll (out:List Int) (l:List Int):List Int:=l.foldl (fun out x=>insI x out) out
theorem insAll_len:∀(l out:List Int),(insAll out l).length<=out.length+l.length
 | [],out=>by simp [insAll]
 | x::l,out=>by
  have h1:=insAll_len l (insI x out)
  have h2:=insI_len x out
  show (insAll (insI x out) l).length<=_
  rw [List.length_cons];omega
section
variable (H Q:List Has)
theorem rqueue_loop (hl:Q.length<=99999) (nm:Bs):∀(r:List Has) (k:Nat),Q.drop k=r->∀out:List Int,out.length<=k ->
  Go kcB false 0 fa26 (.head 0 (T26_0 (rowsV H) (rowsV Q) nm (k:Int) (ints out))) (.done (.fr 3 (ints (out++(r.filter fun h=>h.nm==nm).map (·.o)))))
 | [],k,h,out,ho=>by
  have:=List.drop_eq_nil_iff.1 h
  refine s26_0_run _ _ _ _ _ ?_ (.refl _)
  unfold s26_0
  rw [decide_eq_false (by rw [rows_len];omega),cond_false,gd_of (flat_ints out)]
  simp
 | x::r,k,h,out,ho=>by
  obtain ⟨h1,h2,h3⟩:=drop_get h
  have hg1:∀q:R,gd (decide (0<=(k:Int))) q=q:=fun q=>gd_of (by simp)
  have hx:∀q:V->R,idxK (rowsV Q) ((k:Int)).toNat q=q (hV x):=fun q=>rows_get (by rw [toNat_cast];exact h1) q
  have hg3:∀q:R,gd (decide ((ints out).length+([V.int .i64 x.o]:List V).length<=16777216)) q=q:=fun q=>gd_of (decide_eq_true (by rw [ints_len];simp;omega))
  have hb:s26_0 (rowsV H) (rowsV Q) nm (k:Int) (ints out)=cond (x.nm==nm) (some (.head 0 (T26_0 (rowsV H) (rowsV Q) nm ((k+1:Nat):Int) (ints (out++[x.o]))))) (some (.head 0 (T26_0 (rowsV H) (rowsV Q) nm ((k+1:Nat):Int) (ints out)))):=by
   unfold s26_0
   rw [decide_eq_true (by rw [rows_len];omega),cond_true,hg1,hx,dHas,hg1,hx,dHas,hg3,wN k (by omega),ints_app]
   rfl
  rw [List.filter_cons]
  cases hw:x.nm==nm with
  | true =>
   rw [if_pos rfl]
   have go:=rqueue_loop hl nm r (k+1) h2 (out++[x.o]) (by simp;omega)
   rw [List.append_assoc] at go
   exact s26_0_run _ _ _ _ _ (by rw [hb,hw,cond_true]) go
  | false =>
   rw [if_neg (by simp)]
   exact s26_0_run _ _ _ _ _ (by rw [hb,hw,cond_false]) (rqueue_loop hl nm r (k+1) h2 out (by omega))
theorem rqueue_ok (hl:Q.length<=99999) (nm:Bs):pcW cfgB 26 [tV H Q,.str nm]=some (.fr 3 (ints ((Q.filter fun h=>h.nm==nm).map (·.o)))) :=
 e26_run _ _ _ rfl (rqueue_loop H Q hl nm Q 0 rfl [] (Nat.le_refl _))
theorem rhold_loop (hl:H.length<=99999) (nm:Bs):∀(r:List Has) (k:Nat),H.drop k=r->∀out:List Int,out.length<=k ->
  Go kcB false 0 fa24 (.head 0 (T24_0 (rowsV H) (rowsV Q) nm (k:Int) (ints out))) (.done (.fr 3 (ints (insAll out ((r.filter fun h=>h.nm==nm).map (·.o))))))
 | [],k,h,out,ho=>by
  have:=List.drop_eq_nil_iff.1 h
  refine s24_0_run _ _ _ _ _ ?_ (.refl _)
  unfold s24_0
  rw [decide_eq_false (by rw [rows_len];omega),cond_false,gd_of (flat_ints out)]
  rfl
 | x::r,k,h,out,ho=>by
  obtain ⟨h1,h2,h3⟩:=drop_get h
  have hg1:∀q:R,gd (decide (0<=(k:Int))) q=q:=fun q=>gd_of (by simp)
  have hx:∀q:V->R,idxK (rowsV H) ((k:Int)).toNat q=q (hV x):=fun q=>rows_get (by rw [toNat_cast];exact h1) q
  have hb:s24_0 (rowsV H) (rowsV Q) nm (k:Int) (ints out)=cond (x.nm==nm) (some (.head 0 (T24_0 (rowsV H) (rowsV Q) nm ((k+1:Nat):Int) (ints (insI x.o out))))) (some (.head 0 (T24_0 (rowsV H) (rowsV Q) nm ((k+1:Nat):Int) (ints out)))):=by
   unfold s24_0
   rw [decide_eq_true (by rw [rows_len];omega),cond_true,hg1,hx,dHas,hg1,hx,dHas,icM_of mk52_inj (rints_ok out (by omega) x.o),wN k (by omega)]
  rw [List.filter_cons]
  cases hw:x.nm==nm with
  | true =>
   rw [if_pos rfl]
   have hi:=insI_len x.o out
   exact s24_0_run _ _ _ _ _ (by rw [hb,hw,cond_true]) (rhold_loop hl nm r (k+1) h2 (insI x.o out) (by omega))
  | false =>
   rw [if_neg (by simp)]
   exact s24_0_run _ _ _ _ _ (by rw [hb,hw,cond_false]) (rhold_loop hl nm r (k+1) h2 out (by omega))
theorem rholders_ok (hl:H.length<=99999) (nm:Bs):pcW cfgB 24 [tV H Q,.str nm]=some (.fr 3 (ints (insAll [] ((H.filter fun h=>h.nm==nm).map (·.o))))) :=
 e24_run _ _ _ rfl (rhold_loop H Q hl nm H 0 rfl [] (Nat.le_refl _))
def aheadH (Q:List Has) (a:Nat) (x:Has):List Int:=((Q.take a).filter fun h=>h.nm==x.nm).map (·.o)
def againstH (o:Int) (x h:Has):Bool:=h.nm==x.nm && (h.o != o && !fitsB h.m x.m)
def behH (H Q:List Has) (o:Int):List Int :=
 match Q.findIdx? (fun h=>h.o==o) with
 | none=>[]
 | some a=>match Q[a]? with
  | none=>[]
  | some x=>insAll (insAll [] (aheadH Q a x)) ((H.filter (againstH o x)).map (·.o))
theorem ixF_none {p:Has->Bool}:∀(l:List Has) (k:Nat),l.findIdx? p=none->ixF p l k = -1
 | [],k,_=>rfl
 | x::l,k,h=>by
  rw [List.findIdx?_cons] at h
  cases hp:p x with
  | true=>rw [hp] at h;simp at h
  | false =>
   rw [hp] at h
   unfold ixF
   rw [hp,if_neg (by simp)]
   exact ixF_none l (k+1) (by simpa using h)
theorem ixF_some {p:Has->Bool}:∀(l:List Has) (k a:Nat),l.findIdx? p=some a->ixF p l k=((k+a:Nat):Int)
 | [],k,a,h=>by simp at h
 | x::l,k,a,h=>by
  rw [List.findIdx?_cons] at h
  unfold ixF
  cases hp:p x with
  | true=>rw [hp] at h;simp at h;subst h;simp
  | false =>
   rw [hp] at h
   simp only [Bool.false_eq_true,if_false,omi] at h
   obtain ⟨b,hb,rfl⟩:=h
   rw [if_neg (by simp),ixF_some l (k+1) b hb]
   congr 1;omega
theorem rbeh_loop1 (hl:H.length<=99999) (o:Int) (x:Has):∀(r:List Has) (k:Nat),H.drop k=r->∀out:List Int,out.length+r.length<=99999 ->
  Go kcB false 0 fa22 (.head 1 (T22_1 (rowsV H) (rowsV Q) o (k:Int) (ints out) x.o x.m x.nm)) (.done (.fr 3 (ints (insAll out ((r.filter (againstH o x)).map (·.o))))))
 | [],k,h,out,ho=>by
  have:=List.drop_eq_nil_iff.1 h
  refine s22_1_run _ _ _ _ _ _ _ _ ?_ (.refl _)
  unfold s22_1
  rw [decide_eq_false (by rw [rows_len];omega),cond_false,gd_of (flat_ints out)]
  rfl
 | y::r,k,h,out,ho=>by
  obtain ⟨h1,h2,h3⟩:=drop_get h
  simp only [List.length_cons] at ho
  have hg1:∀q:R,gd (decide (0<=(k:Int))) q=q:=fun q=>gd_of (by simp)
  have hx:∀q:V->R,idxK (rowsV H) ((k:Int)).toNat q=q (hV y):=fun q=>rows_get (by rw [toNat_cast];exact h1) q
  have hb:s22_1 (rowsV H) (rowsV Q) o (k:Int) (ints out) x.o x.m x.nm=cond (againstH o x y) (some (.head 1 (T22_1 (rowsV H) (rowsV Q) o ((k+1:Nat):Int) (ints (insI y.o out)) x.o x.m x.nm))) (some (.head 1 (T22_1 (rowsV H) (rowsV Q) o ((k+1:Nat):Int) (ints out) x.o x.m x.nm))):=by
   unfold s22_1 againstH
   rw [decide_eq_true (by rw [rows_len];omega),cond_true,hg1,hx,dHas,pcK_of (rfitsW _ _),kB_mk,icM_of mk52_inj (rints_ok out (by omega) y.o),wN k (by omega)]
   cases y.nm==x.nm<;>cases y.o != o<;>cases fitsB y.m x.m<;>rfl
  rw [List.filter_cons]
  have hi:=insI_len y.o out
  cases hw:againstH o x y with
  | true =>
   rw [if_pos rfl]
   exact s22_1_run _ _ _ _ _ _ _ _ (by rw [hb,hw,cond_true]) (rbeh_loop1 hl o x r (k+1) h2 (insI y.o out) (by omega))
  | false =>
   rw [if_neg (by simp)]
   exact s22_1_run _ _ _ _ _ _ _ _ (by rw [hb,hw,cond_false]) (rbeh_loop1 hl o x r (k+1) h2 out (by omega))
theorem rbeh_loop0 (hl:H.length+Q.length<=99999) (o:Int) (x:Has) (a:Nat) (ha:a<=Q.length) (v:V) (hv:Go kcB false 0 fa22 (.head 1 (T22_1 (rowsV H) (rowsV Q) o 0 (ints (insAll [] (aheadH Q a x))) x.o x.m x.nm)) (.done v)) :
  ∀(d k:Nat),k+d=a->∀out:List Int,out.length<=k->insAll out ((((Q.take a).drop k).filter fun h=>h.nm==x.nm).map (·.o))=insAll [] (aheadH Q a x) ->
  Go kcB false 0 fa22 (.head 0 (T22_0 (rowsV H) (rowsV Q) o (a:Int) (k:Int) (ints out) x.o x.m x.nm)) (.done v):=by
 intro d
 induction d with
 | zero =>
  intro k hk out ho he
  have e1:(Q.take a).drop k=[]:=List.drop_eq_nil_of_le (by rw [List.length_take];omega)
  rw [e1] at he
  have he:out=insAll [] (aheadH Q a x):=he
  refine s22_0_run _ _ _ _ _ _ _ _ _ ?_ hv
  unfold s22_0
  rw [decide_eq_false (by omega),cond_false,he]
 | succ d ih =>
  intro k hk out ho he
  obtain ⟨y,hy⟩:∃y,Q[k]? = some y:=⟨_,List.getElem?_eq_getElem (by omega)⟩
  have e1:(Q.take a).drop k=y::(Q.take a).drop (k+1):=by
   have:(Q.take a)[k]? = some y:=by rw [List.getElem?_take,if_pos (by omega),hy]
   obtain ⟨hlt,e⟩:=List.getElem?_eq_some_iff.1 this
   rw [List.drop_eq_getElem_cons hlt,e]
  rw [e1,List.filter_cons] at he
  have hg1:∀q:R,gd (decide (0<=(k:Int))) q=q:=fun q=>gd_of (by simp)
  have hx:∀q:V->R,idxK (rowsV Q) ((k:Int)).toNat q=q (hV y):=fun q=>rows_get (by rw [toNat_cast];exact hy) q
  have hb:s22_0 (rowsV H) (rowsV Q) o (a:Int) (k:Int) (ints out) x.o x.m x.nm=cond (y.nm==x.nm) (some (.head 0 (T22_0 (rowsV H) (rowsV Q) o (a:Int) ((k+1:Nat):Int) (ints (insI y.o out)) x.o x.m x.nm))) (some (.head 0 (T22_0 (rowsV H) (rowsV Q) o (a:Int) ((k+1:Nat):Int) (ints out) x.o x.m x.nm))):=by
   unfold s22_0
   rw [decide_eq_true (by omega),cond_true,hg1,hx,dHas,hg1,hx,dHas,icM_of mk52_inj (rints_ok out (by omega) y.o),wN k (by omega)]
  have hi:=insI_len y.o out
  cases hw:y.nm==x.nm with
  | true =>
   rw [hw,if_pos rfl] at he
   exact s22_0_run _ _ _ _ _ _ _ _ _ (by rw [hb,hw,cond_true]) (ih (k+1) (by omega) (insI y.o out) (by omega) he)
  | false =>
   rw [hw,if_neg (by simp)] at he
   exact s22_0_run _ _ _ _ _ _ _ _ _ (by rw [hb,hw,cond_false]) (ih (k+1) (by omega) out (by omega) he)
theorem rbehind_ok (hl:H.length+Q.length<=99999) (o:Int):pcW cfgB 22 [tV H Q,.int .i64 o]=some (.fr 3 (ints (behH H Q o))):=by
 unfold behH
 have hw:=rwait_ok H Q (by omega) o
 cases hf:Q.findIdx? (fun h=>h.o==o) with
 | none =>
  rw [ixF_none _ _ hf] at hw
  refine e22_run _ _ _ ?_ (.refl _)
  unfold e22
  rw [pcK_of hw,kI_mk];rfl
 | some a =>
  rw [ixF_some _ _ _ hf,Nat.zero_add] at hw
  have hlt:=(List.findIdx?_eq_some_iff_getElem.1 hf).1
  have hx:Q[a]? = some Q[a]:=List.getElem?_eq_getElem hlt
  have ha:(aheadH Q a Q[a]).length<=a:=by
   unfold aheadH
   rw [List.length_map]
   have:=List.length_filter_le (fun h=>h.nm==Q[a].nm) (Q.take a)
   rw [List.length_take] at this;omega
  have hi:=insAll_len (aheadH Q a Q[a]) []
  simp only [hx]
  have c1:=rbeh_loop1 H Q (by omega) o Q[a] H 0 rfl (insAll [] (aheadH Q a Q[a])) (by simp at hi;omega)
  have c0:=rbeh_loop0 H Q hl o Q[a] a (by omega) _ c1 a 0 (Nat.zero_add _) [] (Nat.le_refl _) rfl
  refine e22_run _ _ _ ?_ c0
  unfold e22
  rw [pcK_of hw,kI_mk,decide_eq_false (by omega),cond_false,gd_of (by simp),toNat_cast,rows_get hx,dHas];rfl
end
theorem insI_mem (n x:Int):∀l,x∈insI n l↔x=n∨x∈l
 | []=>by simp [insI]
 | y::l=>by
  unfold insI
  split
  ·rw [List.mem_cons,insI_mem n x l,List.mem_cons]
   constructor
   ·rintro (h | h | h)
    ·exact .inr (.inl h)
    ·exact .inl h
    ·exact .inr (.inr h)
   ·rintro (h | h | h)
    ·exact .inr (.inl h)
    ·exact .inl h
    ·exact .inr (.inr h)
  ·split
   ·rename_i h1 h2
    constructor
    ·exact .inr
    ·rintro (h | h)
     ·rw [h,<-h2];exact .head _
     ·exact h
   ·rw [List.mem_cons]
theorem insAll_mem (x:Int):∀l out,x∈insAll out l↔x∈out∨x∈l
 | [],out=>by simp [insAll]
 | y::l,out=>by
  show x∈insAll (insI y out) l↔_
  rw [insAll_mem x l,insI_mem,List.mem_cons]
  constructor
  ·rintro ((h | h) | h)
   ·exact .inr (.inl h)
   ·exact .inl h
   ·exact .inr (.inr h)
  ·rintro (h | h | h)
   ·exact .inl (.inr h)
   ·exact .inl (.inl h)
   ·exact .inr h
def ownH (H Q:List Has):List Int:=Q.map (·.o)++H.map (·.o)
theorem behH_own {H Q:List Has} {o x:Int} (h:x∈behH H Q o):x∈ownH H Q:=by
 unfold behH at h
 split at h
 ·cases h
 ·split at h
  ·cases h
  ·rcases (insAll_mem _ _ _).1 h with h | h
   ·rcases (insAll_mem _ _ _).1 h with h | h
    ·cases h
    ·obtain ⟨y,hy,rfl⟩:=List.mem_map.1 h
     exact List.mem_append.2 (.inl (List.mem_map.2 ⟨y,(List.take_subset _ _) (List.mem_filter.1 hy).1,rfl⟩))
   ·obtain ⟨y,hy,rfl⟩:=List.mem_map.1 h
    exact List.mem_append.2 (.inr (List.mem_map.2 ⟨y,(List.mem_filter.1 hy).1,rfl⟩))
def addA (all:List Int):List Int->List Int
 | []=>all
 | y::l=>addA (if all.contains y then all else all++[y]) l
theorem addA_spec:∀(l all:List Int),(∀x,x∈addA all l↔x∈all∨x∈l)/\(all.Nodup->(addA all l).Nodup)/\∃r,addA all l=all++r
 | [],all=>⟨fun x=>by simp [addA],fun h=>h,[],by simp [addA]⟩
 | y::l,all=>by
  unfold addA
  obtain ⟨h1,h2,r,h3⟩:=addA_spec l (if all.contains y then all else all++[y])
  by_cases hy:y∈all
  ·rw [if_pos (List.contains_iff_mem.2 hy)] at h1 h2 h3 |-
   refine ⟨fun x=>?_,h2,r,h3⟩
   rw [h1,List.mem_cons]
   constructor
   ·rintro (h | h)
    ·exact .inl h
    ·exact .inr (.inr h)
   ·rintro (h | h | h)
    ·exact .inl h
    ·exact .inl (h ▸ hy)
    ·exact .inr h
  ·rw [if_neg (fun h=>hy (List.contains_iff_mem.1 h))] at h1 h2 h3 |-
   refine ⟨fun x=>?_,fun h=>h2 ?_,y::r,by rw [h3];simp⟩
   ·rw [h1,List.mem_cons,List.mem_append,List.mem_singleton,or_assoc]
   ·rw [List.nodup_append]
    exact ⟨h,by simp,fun a ha b hb e=>by rw [List.mem_singleton] at hb;exact hy (by rw [<-hb,<-e];exact ha)⟩
theorem nodup_len:∀(a b:List Int),a.Nodup->(∀x∈a,x∈b)->a.length<=b.length
 | [],b,_,_=>Nat.zero_le _
 | x::a,b,hn,hs=>by
  rw [List.nodup_cons] at hn
  have hx:=hs x (List.mem_cons_self ..)
  have:=nodup_len a (b.erase x) hn.2 fun y hy=>(List.mem_erase_of_ne (fun e=>hn.1 (by rw [<-e];exact hy))).2 (hs y (List.mem_cons_of_mem _ hy))
  rw [List.length_erase_of_mem hx] at this
  have:=List.length_pos_of_mem hx
  rw [List.length_cons];omega
theorem behH_len (H Q:List Has) (o:Int):(behH H Q o).length<=H.length+Q.length:=by
 unfold behH
 cases hf:Q.findIdx? (fun h=>h.o==o) with
 | none=>simp
 | some a =>
  simp only
  cases hx:Q[a]? with
  | none=>simp
  | some y =>
   simp only
   have q1:=insAll_len ((H.filter (againstH o y)).map (·.o)) (insAll [] (aheadH Q a y))
   have q2:=insAll_len (aheadH Q a y) []
   have q3:=List.length_filter_le (againstH o y) H
   have q4:=List.length_filter_le (fun h=>h.nm==y.nm) (Q.take a)
   have q5:(aheadH Q a y).length=((Q.take a).filter fun h=>h.nm==y.nm).length:=by unfold aheadH;rw [List.length_map]
   rw [List.length_take] at q4
   rw [List.length_map] at q1
   simp only [List.length_nil] at q2
   omega
section
variable (H Q:List Has)
theorem rd_find (o:Int) (i:Nat) (all more:List Int) (hl:all.length<=99998) (k:Nat) (y:Int) (hy:more[k]? = some y) (hk:k<=99998) (v:V) (hv:Go kcB false 0 fa62 (.head 1 (T62_1 (rowsV H) (rowsV Q) o (i:Int) ((k+1:Nat):Int) (ints (if all.contains y then all else all++[y])) (ints more))) (.done v)) :
  ∀(d j:Nat) (f:Bool),j+d=all.length->(f || (all.drop j).contains y)=all.contains y ->
  Go kcB false 0 fa62 (.head 2 (T62_2 (rowsV H) (rowsV Q) o (i:Int) (k:Int) (all.length:Int) f (j:Int) (ints all) (ints more))) (.done v):=by
 have hkm:k < more.length:=(List.getElem?_eq_some_iff.1 hy).1
 intro d
 induction d with
 | zero =>
  intro j f hj hf
  have e:all.drop j=[]:=List.drop_eq_nil_of_le (by omega)
  rw [e] at hf
  have hf:f=all.contains y:=by simpa using hf
  refine s62_2_run _ _ _ _ _ _ _ _ _ _ ?_ hv
  unfold s62_2
  rw [decide_eq_false (by omega),cond_false,hf]
  cases hc:all.contains y with
  | true=>rw [Bool.not_true,cond_false,wN k (by omega),if_pos rfl]
  | false =>
   rw [Bool.not_false,cond_true,gd_of (by simp),gd_of (decide_eq_true (by rw [ints_len];omega)),toNat_cast,ints_get hy,kI_mk,gd_of (decide_eq_true (by rw [ints_len];simp;omega)),wN k (by omega),if_neg (by simp),ints_app]
   rfl
 | succ d ih =>
  intro j f hj hf
  obtain ⟨x,hx⟩:∃x,all[j]? = some x:=⟨_,List.getElem?_eq_getElem (by omega)⟩
  have hd:all.drop j=x::all.drop (j+1):=by
   obtain ⟨hlt,e⟩:=List.getElem?_eq_some_iff.1 hx
   rw [List.drop_eq_getElem_cons hlt,e]
  cases f with
  | true =>
   refine s62_2_run _ _ _ _ _ _ _ _ _ _ ?_ (ih (j+1) true (by omega) (by simpa using hf))
   unfold s62_2
   rw [decide_eq_true (by omega),cond_true,cond_true,wN j (by omega)]
  | false =>
   refine s62_2_run _ _ _ _ _ _ _ _ _ _ ?_ (ih (j+1) (x==y) (by omega) ?_)
   ·unfold s62_2
    rw [decide_eq_true (by omega),cond_true,cond_false,gd_of (by simp),gd_of (decide_eq_true (by rw [ints_len];omega)),toNat_cast,ints_get hx,kI_mk,gd_of (by simp),gd_of (decide_eq_true (by rw [ints_len];omega)),toNat_cast,ints_get hy,kI_mk,wN j (by omega)]
   ·rw [<-hf,hd,List.contains_cons,Bool.false_or,show (y==x)=(x==y) from Bool.beq_comm ..]
theorem rd_more (o:Int) (i:Nat) (hi:i<=99998) (more:List Int) (hm:more.length<=99998) (v:V):∀(r:List Int) (k:Nat),more.drop k=r->∀all:List Int,all.length+r.length<=99998 ->
  Go kcB false 0 fa62 (.head 0 (T62_0 (rowsV H) (rowsV Q) o ((i+1:Nat):Int) (ints (addA all r)))) (.done v) ->
  Go kcB false 0 fa62 (.head 1 (T62_1 (rowsV H) (rowsV Q) o (i:Int) (k:Int) (ints all) (ints more))) (.done v)
 | [],k,h,all,hl,hv=>by
  have:=List.drop_eq_nil_iff.1 h
  refine s62_1_run _ _ _ _ _ _ _ ?_ hv
  unfold s62_1
  rw [decide_eq_false (by rw [ints_len];omega),cond_false,wN i (by omega)];rfl
 | y::r,k,h,all,hl,hv=>by
  obtain ⟨h1,h2,h3⟩:=drop_get h
  simp only [List.length_cons] at hl
  have c:=rd_more o i hi more hm v r (k+1) h2 (if all.contains y then all else all++[y]) (by
   split
   ·omega
   ·rw [List.length_append,List.length_singleton];omega) hv
  refine s62_1_run _ _ _ _ _ _ _ ?_ (rd_find H Q o i all more (by omega) k y h1 (by omega) v c all.length 0 false (Nat.zero_add _) (by simp))
  unfold s62_1
  rw [decide_eq_true (by rw [ints_len];omega),cond_true,ints_len];rfl
theorem rd_end (o:Int) (all:List Int) (hl:all.length<=99998):∀(r:List Int) (k:Nat),all.drop k=r ->
  Go kcB false 0 fa62 (.head 3 (T62_3 o (k:Int) (ints all))) (.done (.bool (r.contains o)))
 | [],k,h=>by
  have:=List.drop_eq_nil_iff.1 h
  refine s62_3_run _ _ _ ?_ (.refl _)
  unfold s62_3
  rw [decide_eq_false (by rw [ints_len];omega),cond_false];rfl
 | y::r,k,h=>by
  obtain ⟨h1,h2,h3⟩:=drop_get h
  have c:=rd_end o all hl r (k+1) h2
  rw [List.contains_cons]
  by_cases he:y=o
  ·refine s62_3_run _ _ _ ?_ (.refl _)
   unfold s62_3
   rw [decide_eq_true (by rw [ints_len];omega),cond_true,gd_of (by simp),gd_of (decide_eq_true (by rw [ints_len];omega)),toNat_cast,ints_get h1,kI_mk,ibeq_t he,cond_true,he]
   simp
  ·have:(o==y)=false:=by simp;exact fun e=>he e.symm
   rw [this,Bool.false_or]
   refine s62_3_run _ _ _ ?_ c
   unfold s62_3
   rw [decide_eq_true (by rw [ints_len];omega),cond_true,gd_of (by simp),gd_of (decide_eq_true (by rw [ints_len];omega)),toNat_cast,ints_get h1,kI_mk,ibeq_f he,cond_false,wN k (by omega)]
open Classical in
noncomputable def deadH (H Q:List Has) (o:Int):Bool:=decide (Rch (behH H Q) o o)
theorem rd_all (o:Int) (hl:2 * (H.length+Q.length)<=99990):∀(d i:Nat) (all:List Int),i+d=(ownH H Q).length->i<=all.length->all.Nodup->(∀x∈all,x∈ownH H Q) ->
  (∀x∈all,Rch (behH H Q) o x)->(∀x∈behH H Q o,x∈all)->(∀j x,j < i->all[j]? = some x->∀y∈behH H Q x,y∈all) ->
  Go kcB false 0 fa62 (.head 0 (T62_0 (rowsV H) (rowsV Q) o (i:Int) (ints all))) (.done (.bool (deadH H Q o))):=by
 have hU:(ownH H Q).length=H.length+Q.length:=by simp [ownH];omega
 intro d
 induction d with
 | zero =>
  intro i all hi hia hn hs hr hb hc
  have hle:all.length<=(ownH H Q).length:=nodup_len _ _ hn hs
  have e:=rd_end o all (by omega) all 0 rfl
  have hd:deadH H Q o=all.contains o:=by
   unfold deadH
   by_cases ho:o∈all
   ·rw [List.contains_iff_mem.2 ho];exact @decide_eq_true _ (Classical.propDecidable _) (hr o ho)
   ·have:all.contains o=false:=by simpa using ho
    rw [this]
    refine @decide_eq_false _ (Classical.propDecidable _) (not_dead all hb (fun x hx y hy=>?_) ho)
    obtain ⟨j,hj⟩:=List.getElem?_of_mem hx
    exact hc j x (by have:=(List.getElem?_eq_some_iff.1 hj).1;omega) hj y hy
  rw [hd]
  refine s62_0_run _ _ _ _ _ ?_ e
  unfold s62_0
  rw [decide_eq_false (by rw [ints_len];omega),cond_false];rfl
 | succ d ih =>
  intro i all hi hia hn hs hr hb hc
  have hle:all.length<=(ownH H Q).length:=nodup_len _ _ hn hs
  by_cases hlt:i < all.length
  ·obtain ⟨x,hx⟩:∃x,all[i]? = some x:=⟨_,List.getElem?_eq_getElem hlt⟩
   have hxm:=List.mem_of_getElem? hx
   obtain ⟨a1,a2,r,a3⟩:=addA_spec (behH H Q x) all
   have hbl:=behH_len H Q x
   have c:=ih (i+1) (addA all (behH H Q x)) (by omega) (by rw [a3,List.length_append];omega) (a2 hn) (fun z hz=>by
     rcases (a1 z).1 hz with h | h
     ·exact hs z h
     ·exact behH_own h) (fun z hz=>by
     rcases (a1 z).1 hz with h | h
     ·exact hr z h
     ·exact (hr x hxm).trans (.one h)) (fun z hz=>(a1 z).2 (.inl (hb z hz))) (fun j z hj hz y hy=>by
     have hz':all[j]? = some z:=by rw [a3,List.getElem?_append_left (by omega)] at hz;exact hz
     by_cases hji:j=i
     ·subst hji
      rw [hx] at hz'
      cases hz'
      exact (a1 y).2 (.inr hy)
     ·exact (a1 y).2 (.inl (hc j z (by omega) hz' y hy)))
   refine s62_0_run _ _ _ _ _ ?_ (rd_more H Q o i (by omega) (behH H Q x) (by omega) _ (behH H Q x) 0 rfl all (by omega) c)
   unfold s62_0
   rw [decide_eq_true (by rw [ints_len];omega),cond_true,gd_of (by simp),gd_of (decide_eq_true (by rw [ints_len];omega)),toNat_cast,ints_get hx,kI_mk,pcK_of (rbehind_ok H Q (by omega) x),kF_mk]
   rfl
  ·have e:=rd_end o all (by omega) all 0 rfl
   have hd:deadH H Q o=all.contains o:=by
    unfold deadH
    by_cases ho:o∈all
    ·rw [List.contains_iff_mem.2 ho];exact @decide_eq_true _ (Classical.propDecidable _) (hr o ho)
    ·have:all.contains o=false:=by simpa using ho
     rw [this]
     refine @decide_eq_false _ (Classical.propDecidable _) (not_dead all hb (fun x hx y hy=>?_) ho)
     obtain ⟨j,hj⟩:=List.getElem?_of_mem hx
     exact hc j x (by have:=(List.getElem?_eq_some_iff.1 hj).1;omega) hj y hy
   rw [hd]
   refine s62_0_run _ _ _ _ _ ?_ e
   unfold s62_0
   rw [decide_eq_false (by rw [ints_len];omega),cond_false];rfl
theorem insI_pw (n:Int):∀l:List Int,l.Pairwise (· < ·)->(insI n l).Pairwise (· < ·)
 | [],_=>by simp [insI]
 | x::l,h=>by
  rw [List.pairwise_cons] at h
  unfold insI
  split
  ·rename_i hx
   rw [List.pairwise_cons]
   exact ⟨fun y hy=>by
    rcases (insI_mem n y l).1 hy with e | e
    ·rw [e];exact hx
    ·exact h.1 y e,insI_pw n l h.2⟩
  ·split
   ·exact List.pairwise_cons.2 h
   ·rename_i h1 h2
    rw [List.pairwise_cons]
    exact ⟨fun y hy=>by
     rcases List.mem_cons.1 hy with e | e
     ·rw [e];omega
     ·have:=h.1 y e;omega,List.pairwise_cons.2 h⟩
theorem insAll_pw:∀(l out:List Int),out.Pairwise (· < ·)->(insAll out l).Pairwise (· < ·)
 | [],out,h=>h
 | x::l,out,h=>insAll_pw l (insI x out) (insI_pw x out h)
theorem behH_pw (o:Int):(behH H Q o).Pairwise (· < ·):=by
 unfold behH
 split
 ·exact List.Pairwise.nil
 ·split
  ·exact List.Pairwise.nil
  ·exact insAll_pw _ _ (insAll_pw _ _ List.Pairwise.nil)
theorem pw_nodup {l:List Int} (h:l.Pairwise (· < ·)):l.Nodup:=h.imp fun h e=>by omega
theorem rdead_ok (hl:2 * (H.length+Q.length)<=99990) (o:Int):pcW cfgB 62 [tV H Q,.int .i64 o]=some (.bool (deadH H Q o)):=by
 refine e62_run _ _ _ ?_ (rd_all H Q o hl (ownH H Q).length 0 (behH H Q o) (Nat.zero_add _) (Nat.zero_le _) (pw_nodup (behH_pw H Q o)) (fun x hx=>behH_own hx) (fun x hx=>.one hx) (fun x hx=>hx) (fun j x hj=>by omega))
 unfold e62
 rw [pcK_of (rbehind_ok H Q (by omega) o),kF_mk]
 rfl
end
theorem less_loop (a b:Bs) (hla:a.length<=99999) (hl:b.length<=99999):∀(r s:Bs) (k:Nat),a.drop k=r->b.drop k=s->k<=a.length->k<=b.length ->
  Go kcB false 0 fa67 (.head 0 (T67_0 a b (k:Int))) (.done (.bool (lt r s))):=by
 intro r
 induction r with
 | nil =>
  intro s k hr hs ha hb
  have h1:=List.drop_eq_nil_iff.1 hr
  refine s67_0_run _ _ _ ?_ (.refl _)
  unfold s67_0
  rw [decide_eq_false (by omega),cond_false]
  cases s with
  | nil =>
   have h2:=List.drop_eq_nil_iff.1 hs
   rw [decide_eq_false (by omega)];rfl
  | cons y s =>
   obtain ⟨_,_,h3⟩:=drop_get hs
   rw [decide_eq_true (by omega)];rfl
 | cons x r ih =>
  intro s k hr hs ha hb
  obtain ⟨h1,h2,h3⟩:=drop_get hr
  cases s with
  | nil =>
   have h4:=List.drop_eq_nil_iff.1 hs
   refine s67_0_run _ _ _ ?_ (.refl _)
   unfold s67_0
   rw [decide_eq_true (by omega),cond_true,decide_eq_false (by omega),cond_false,decide_eq_false (by omega)];rfl
  | cons y s =>
   obtain ⟨h4,h5,h6⟩:=drop_get hs
   have hg:∀q:R,gd (decide (0<=(k:Int))) q=q:=fun q=>gd_of (by simp)
   by_cases e:x=y
   ·subst e
    refine s67_0_run _ _ _ (o:=.head 0 (T67_0 a b ((k+1:Nat):Int))) ?_ ?_
    ·unfold s67_0
     rw [decide_eq_true (by omega),cond_true,decide_eq_true (by omega),cond_true,hg,toNat_cast,idxK_of h1,hg,idxK_of h4,bne_self_eq_false,cond_false,wN k (by omega)]
    ·have:=ih s (k+1) h2 h5 (by omega) (by omega)
     have e:lt (x::r) (x::s)=lt r s:=by simp [lt,Op.bytesLess]
     rw [e];exact this
   ·refine s67_0_run _ _ _ ?_ (.refl _)
    have e2:((x.toNat:Int) != (y.toNat:Int))=true:=by
     simp only [bne_iff_ne,ne_eq,Int.natCast_inj]
     exact fun h=>e (UInt8.toNat_inj.1 h)
    have e3:lt (x::r) (y::s)=decide ((x.toNat:Int) < (y.toNat:Int)):=by
     simp [lt,Op.bytesLess,e,UInt8.lt_iff_toNat_lt]
    unfold s67_0
    simp only [decide_eq_true (show (k:Int) < (a.length:Int) by omega),decide_eq_true (show (k:Int) < (b.length:Int) by omega),cond_true,hg,toNat_cast,idxK_of h1,idxK_of h4,e2,e3]
theorem less_ok (a b:Bs) (hla:a.length<=99999) (hl:b.length<=99999):pcW cfgB 67 [.str a,.str b]=some (.bool (lt a b)) :=
 e67_run a b rfl (less_loop a b hla hl a b 0 rfl rfl (Nat.zero_le _) (Nat.zero_le _))
def insS (n:Bs):List Bs->List Bs
 | []=>[n]
 | x::l=>if lt x n then x::insS n l else if x==n then x::l else n::x::l
def strs (l:List Bs):List V:=l.map V.str
theorem strs_len (l:List Bs):(strs l).length=l.length:=by simp [strs]
theorem strs_get {l:List Bs} {k:Nat} {x:Bs} (h:l[k]? = some x) (q:V->R):idxK (strs l) k q=q (.str x):=idxK_c h
theorem strs_wfl (l:List Bs):wfl 1 (strs l)=true:=by
 unfold wfl
 rw [List.all_eq_true]
 intro x hx
 obtain ⟨y,_,rfl⟩:=List.mem_map.1 hx
 rfl
theorem flat_strs (l:List Bs):((strs l):List V).all (fun x=>x.cells.all V.flat1)=true:=by
 rw [List.all_eq_true]
 intro x hx
 obtain ⟨y,_,rfl⟩:=List.mem_map.1 hx
 rfl
theorem strs_cut (out:List Bs) (k:Nat) (n:Bs):(((strs out).drop 0).take (k - 0)++[V.str n])++(strs out).drop k=strs (out.take k++n::out.drop k):=by
 simp [strs,List.map_take,List.map_drop]
theorem insS_len (n:Bs):∀l,(insS n l).length<=l.length+1
 | []=>by simp [insS]
 | x::l=>by
  have:=insS_len n l
  unfold insS
  split
  ·simp;omega
  ·split<;>simp
def namesH (out:List Bs) (l:List Has):List Bs:=l.foldl (fun out h=>insS h.nm out) out
theorem rn_in (l:List Has) (hl:l.length<=99990) (hs:∀h∈l,h.nm.length<=99999) (i:Nat) (x:Has) (hx:l[i]? = some x) (out:List Bs) (ho:out.length<=i) (hos:∀s∈out,s.length<=99999) (v:V):∀(r:List Bs) (k:Nat),out.drop k=r->k<=out.length ->
  Go kcB false 0 fa45 (.head 0 (T45_0 (rowsV l) ((i+1:Nat):Int) (strs (out.take k++insS x.nm r)))) (.done v) ->
  Go kcB false 0 fa45 (.head 1 (T45_1 (rowsV l) (i:Int) (k:Int) (strs out))) (.done v):=by
 have hil:i < l.length:=(List.getElem?_eq_some_iff.1 hx).1
 have hxs:=hs x (List.mem_of_getElem? hx)
 have hgi:∀q:R,gd (decide (0<=(i:Int))) q=q:=fun q=>gd_of (by simp)
 have hrow:∀q:V->R,idxK (rowsV l) ((i:Int)).toNat q=q (hV x):=fun q=>rows_get (by rw [toNat_cast];exact hx) q
 have hw:∀q:R,gd (wfl 1 (strs out)) q=q:=fun q=>gd_of (strs_wfl out)
 have guards:∀k:Nat,k<=out.length->(∀q:R,gd (decide (0<=(k:Int))) q=q)/\(∀q:R,gd (decide (((k:Int)).toNat<=(strs out).length)) q=q)/\(∀q:R,gd (decide (0+(((k:Int)).toNat - 0)<=(strs out).length)) q=q) /\
   (∀q:R,gd (wfl 1 (((strs out).drop 0).take (((k:Int)).toNat - 0))) q=q)/\(∀q:R,gd (decide (0+(((strs out).drop 0).take (((k:Int)).toNat - 0)).length<=16777216)) q=q) /\
   (∀q:R,gd (decide ((((strs out).drop 0).take (((k:Int)).toNat - 0)).length+([V.str x.nm]:List V).length<=16777216)) q=q)/\(∀q:R,gd (wfl 1 ((strs out).drop ((k:Int)).toNat)) q=q) /\
   (∀q:R,gd (decide (((((strs out).drop 0).take (((k:Int)).toNat - 0))++[V.str x.nm]).length+((strs out).drop ((k:Int)).toNat).length<=16777216)) q=q) /\
   ((((strs out).drop 0).take (((k:Int)).toNat - 0))++[V.str x.nm])++(strs out).drop ((k:Int)).toNat=strs (out.take k++x.nm::out.drop k):=by
  intro k hk
  have hsl:=strs_len out
  refine ⟨fun q=>gd_of (by simp),fun q=>gd_of (decide_eq_true (by rw [toNat_cast];omega)),fun q=>gd_of (decide_eq_true (by rw [toNat_cast];omega)),fun q=>gd_of ?_,fun q=>gd_of (decide_eq_true ?_),fun q=>gd_of (decide_eq_true ?_),fun q=>gd_of ?_,fun q=>gd_of (decide_eq_true ?_),?_⟩
  ·rw [toNat_cast,show ((strs out).drop 0).take (k - 0)=strs (out.take k) by simp [strs,List.map_take]];exact strs_wfl _
  ·rw [toNat_cast,List.length_take,List.length_drop];omega
  ·rw [toNat_cast,List.length_take,List.length_drop];simp;omega
  ·rw [toNat_cast,show (strs out).drop k=strs (out.drop k) by simp [strs,List.map_drop]];exact strs_wfl _
  ·rw [toNat_cast,List.length_append,List.length_take,List.length_drop,List.length_drop];simp;omega
  ·rw [toNat_cast];exact strs_cut out k x.nm
 intro r
 induction r with
 | nil =>
  intro k hk hkl hv
  have h0:=List.drop_eq_nil_iff.1 hk
  obtain ⟨g1,g2,g3,g4,g5,g6,g7,g8,g9⟩:=guards k hkl
  refine s45_1_run _ _ _ _ ?_ hv
  unfold s45_1
  simp only [decide_eq_false (show ¬(k:Int) < ((strs out).length:Int) by rw [strs_len];omega),cond_false,hw,g1,g2,g3,g4,g5,hgi,hrow,dHas,g6,g7,g8,g9,wN i (show i<=100000 by omega),hk]
  rfl
 | cons y r ih =>
  intro k hk hkl hv
  obtain ⟨h1,h2,h3⟩:=drop_get hk
  obtain ⟨g1,g2,g3,g4,g5,g6,g7,g8,g9⟩:=guards k hkl
  have hd:decide ((k:Int) < ((strs out).length:Int))=true:=decide_eq_true (by rw [strs_len];omega)
  have hgk:∀q:R,gd (decide (((k:Int)).toNat < (strs out).length)) q=q:=fun q=>gd_of (decide_eq_true (by rw [toNat_cast,strs_len];exact h3))
  have hix:∀q:V->R,idxK (strs out) ((k:Int)).toNat q=q (.str y):=fun q=>strs_get (by rw [toNat_cast];exact h1) q
  have hls:∀q:V->R,pcK cfgB 67 [V.str y,V.str x.nm] q=q (.bool (lt y x.nm)):=fun q=>pcK_of (less_ok y x.nm (hos y (List.mem_of_getElem? h1)) hxs)
  unfold insS at hv
  by_cases hlt:lt y x.nm=true
  ·rw [if_pos hlt] at hv
   have c:=ih (k+1) h2 h3 (by rw [take_get hk,List.append_assoc];exact hv)
   refine s45_1_run _ _ _ _ ?_ c
   unfold s45_1
   simp only [hd,cond_true,g1,hgk,hix,kS_mk,hgi,hrow,dHas,hls,kB_mk,hlt,wN k (show k<=100000 by omega)]
  ·have hlt:lt y x.nm=false:=by simpa using hlt
   rw [hlt,if_neg (by simp)] at hv
   by_cases he:(y==x.nm)=true
   ·rw [if_pos he,<-hk,List.take_append_drop] at hv
    refine s45_1_run _ _ _ _ ?_ hv
    unfold s45_1
    simp only [hd,cond_true,g1,hgk,hix,kS_mk,hgi,hrow,dHas,hls,kB_mk,hlt,cond_false,he,wN i (show i<=100000 by omega)]
   ·have he:(y==x.nm)=false:=by simpa using he
    rw [he,if_neg (by simp)] at hv
    refine s45_1_run _ _ _ _ ?_ hv
    unfold s45_1
    simp only [hd,cond_true,g1,hgk,hix,kS_mk,hgi,hrow,dHas,hls,kB_mk,hlt,cond_false,he,hw,g2,g3,g4,g5,g6,g7,g8,g9,wN i (show i<=100000 by omega),hk]
theorem insS_sub (n:Bs):∀l,∀s∈insS n l,s=n∨s∈l
 | [],s,h=>by simp [insS] at h;exact .inl h
 | x::l,s,h=>by
  unfold insS at h
  split at h
  ·rcases List.mem_cons.1 h with h | h
   ·exact .inr (h ▸ .head _)
   ·rcases insS_sub n l s h with h | h
    ·exact .inl h
    ·exact .inr (List.mem_cons_of_mem _ h)
  ·split at h
   ·exact .inr h
   ·rcases List.mem_cons.1 h with h | h
    ·exact .inl h
    ·exact .inr h
theorem rn_all (l:List Has) (hl:l.length<=99990) (hs:∀h∈l,h.nm.length<=99999):∀(r:List Has) (i:Nat),l.drop i=r->∀out:List Bs,out.length<=i->(∀s∈out,s.length<=99999) ->
  Go kcB false 0 fa45 (.head 0 (T45_0 (rowsV l) (i:Int) (strs out))) (.done (.fr 9 (strs (namesH out r))))
 | [],i,h,out,ho,hos=>by
  have:=List.drop_eq_nil_iff.1 h
  refine s45_0_run _ _ _ ?_ (.refl _)
  unfold s45_0
  rw [decide_eq_false (by rw [rows_len];omega),cond_false,gd_of (flat_strs out)];rfl
 | x::r,i,h,out,ho,hos=>by
  obtain ⟨h1,h2,h3⟩:=drop_get h
  have hi:=insS_len x.nm out
  have c:=rn_all l hl hs r (i+1) h2 (insS x.nm out) (by omega) fun s hsx=>by
   rcases insS_sub _ _ s hsx with e | e
   ·rw [e];exact hs x (List.mem_of_getElem? h1)
   ·exact hos s e
  refine s45_0_run _ _ _ ?_ (rn_in l hl hs i x h1 out ho hos _ out 0 rfl (Nat.zero_le _) c)
  unfold s45_0
  rw [decide_eq_true (by rw [rows_len];omega),cond_true];rfl
theorem rnames_ok (l:List Has) (hl:l.length<=99990) (hs:∀h∈l,h.nm.length<=99999):pcW cfgB 45 [.sl (rowsV l)]=some (.fr 9 (strs (namesH [] l))) :=
 e45_run _ rfl (rn_all l hl hs l 0 rfl [] (Nat.le_refl _) (by simp))
section
variable (H Q:List Has)
def ofN (H:List Has) (o:Int) (l:List Bs):List Has:=(l.filter fun n=>decide (modeH o n H > 0)).map fun n=>⟨o,modeH o n H,n⟩
def ofH (H:List Has) (o:Int):List Has:=ofN H o (namesH [] H)
theorem rof_loop (hl:H.length<=99990) (o:Int) (ns:List Bs) (hn:ns.length<=99990):∀(r:List Bs) (k:Nat),ns.drop k=r->∀out:List Has,out.length<=k ->
  Go kcB false 0 fa16 (.head 0 (T16_0 (rowsV H) (rowsV Q) o (strs ns) (k:Int) (rowsV out))) (.done (.fr 54 (rowsV (out++ofN H o r))))
 | [],k,h,out,ho=>by
  have:=List.drop_eq_nil_iff.1 h
  refine s16_0_run _ _ _ _ _ _ ?_ (.refl _)
  unfold s16_0
  rw [decide_eq_false (by rw [strs_len];omega),cond_false,gd_of (flat_rows out)]
  simp [ofN]
 | x::r,k,h,out,ho=>by
  obtain ⟨h1,h2,h3⟩:=drop_get h
  have hg1:∀q:R,gd (decide (0<=(k:Int))) q=q:=fun q=>gd_of (by simp)
  have hx:∀q:V->R,idxK (strs ns) ((k:Int)).toNat q=q (.str x):=fun q=>strs_get (by rw [toNat_cast];exact h1) q
  have hm:∀q:V->R,pcK cfgB 20 [.ref (.agg [.sl (rowsV H),.sl (rowsV Q)]) 0,.int .i64 o,.str x] q=q (.int .i64 (modeH o x H)):=fun q=>pcK_of (rmode_ok H Q (by omega) o x)
  have hg3:∀q:R,gd (decide ((rowsV out).length+([V.agg [V.int .i64 o,V.int .i64 (modeH o x H),V.str x]]:List V).length<=16777216)) q=q:=fun q=>gd_of (decide_eq_true (by rw [rows_len];simp;omega))
  have hb:s16_0 (rowsV H) (rowsV Q) o (strs ns) (k:Int) (rowsV out)=cond (decide (modeH o x H > 0)) (some (.head 0 (T16_0 (rowsV H) (rowsV Q) o (strs ns) ((k+1:Nat):Int) (rowsV (out++[⟨o,modeH o x H,x⟩]))))) (some (.head 0 (T16_0 (rowsV H) (rowsV Q) o (strs ns) ((k+1:Nat):Int) (rowsV out)))):=by
   unfold s16_0
   simp only [decide_eq_true (show (k:Int) < ((strs ns).length:Int) by rw [strs_len];omega),cond_true,hg1,hx,kS_mk,hm,kI_mk,hg3,wN k (show k<=100000 by omega),rows_app]
   rfl
  unfold ofN
  rw [List.filter_cons]
  cases hw:decide (modeH o x H > 0) with
  | true =>
   rw [if_pos rfl,List.map_cons]
   have go:=rof_loop hl o ns hn r (k+1) h2 (out++[⟨o,modeH o x H,x⟩]) (by simp;omega)
   rw [List.append_assoc] at go
   exact s16_0_run _ _ _ _ _ _ (by rw [hb,hw,cond_true]) go
  | false =>
   rw [if_neg (by simp)]
   exact s16_0_run _ _ _ _ _ _ (by rw [hb,hw,cond_false]) (rof_loop hl o ns hn r (k+1) h2 out (by omega))
theorem namesH_len:∀(l:List Has) (out:List Bs),(namesH out l).length<=out.length+l.length
 | [],out=>by simp [namesH]
 | x::l,out=>by
  have h1:=namesH_len l (insS x.nm out)
  have h2:=insS_len x.nm out
  show (namesH (insS x.nm out) l).length<=_
  rw [List.length_cons];omega
theorem rof_ok (hl:H.length<=99990) (hs:∀h∈H,h.nm.length<=99999) (o:Int):pcW cfgB 16 [tV H Q,.int .i64 o]=some (.fr 54 (rowsV (ofH H o))):=by
 have h1:=namesH_len H []
 refine e16_run _ _ _ ?_ (rof_loop H Q hl o (namesH [] H) (by simp at h1;omega) (namesH [] H) 0 rfl [] (Nat.le_refl _))
 unfold e16
 rw [pcK_of (rnames_ok H hl hs),kF_mk];rfl
def forH (Q:List Has) (o:Int):Option Has:=Q.find? fun h=>h.o==o
theorem rfor_ok (hl:Q.length<=99999) (o:Int):pcW cfgB 18 [tV H Q,.int .i64 o]=some (.tup [hV ((forH Q o).getD ⟨0,0,[]⟩),.bool (forH Q o).isSome]):=by
 have hw:=rwait_ok H Q hl o
 refine e18_done _ _ _ ?_
 unfold e18 forH
 cases hf:Q.findIdx? (fun h=>h.o==o) with
 | none =>
  rw [ixF_none _ _ hf] at hw
  have:Q.find? (fun h=>h.o==o)=none:=by
   rw [List.findIdx?_eq_none_iff] at hf
   rw [List.find?_eq_none]
   intro x hx;rw [hf x hx];simp
  rw [pcK_of hw,kI_mk,this];rfl
 | some a =>
  rw [ixF_some _ _ _ hf,Nat.zero_add] at hw
  obtain ⟨hlt,h1,h2⟩:=List.findIdx?_eq_some_iff_getElem.1 hf
  have hx:Q[a]? = some Q[a]:=List.getElem?_eq_getElem hlt
  have:Q.find? (fun h=>h.o==o)=some Q[a]:=by
   rw [List.find?_eq_some_iff_getElem]
   exact ⟨h1,a,hlt,rfl,fun j hj=>by simpa using h2 j hj⟩
  rw [pcK_of hw,kI_mk,decide_eq_false (by omega),cond_false,gd_of (by simp),toNat_cast,rows_get hx,dHas,this];rfl
end
abbrev rm (els:List V) (ms:List (List (V × V))) (H Q:List Has):List O:=[.arena 66 els,.marena 63 ms,.box 28 (.agg [.tail 3 0,.tail 4 0]) false,.row 54 (rowsV H) 0,.row 54 (rowsV Q) 0]
def holdH (H:List Has) (x:Has):List Has:=H.filter (wo x.o x.nm false)++[x]
section
variable {els:List V} {ms:List (List (V × V))} (H Q:List Has)
theorem rhold_ok (hl:H.length<=99990) (x:Has):icC cfgB ⟨false,false⟩ 35 [.ptr 2 0 0,hV x] (rm els ms H Q)=some (mk35 (els,ms,rowsV (holdH H x),rowsV Q)):=by
 have h1:=List.length_filter_le (wo x.o x.nm false) H
 have hr:rowsV (holdH H x)=rowsV (H.filter (wo x.o x.nm false))++[.agg [.int .i64 x.o,.int .i64 x.m,.str x.nm]]:=by rw [holdH,rows_app];rfl
 rw [hr]
 refine e35_run x.o x.m x.nm els ms (rowsV H) (rowsV Q) (o:=.doneM ?v ?m) ?h (.done ?n)
 case h =>
  unfold e35
  rw [pcK_of (rwo_ok H (by omega) x.o x.nm false),kF_mk,gd_of (decide_eq_true (by rw [rows_len];simp;omega))]
 case n=>kernel_rfl
def comeR (nm:Bs):Nat->List Has->List Has->List Int->List Has × List Has × List Int
 | 0,H,Q,out=>(H,Q,out)
 | n+1,H,Q,out =>
  match Q.find? (fun h=>h.nm==nm) with
  | none=>(H,Q,out)
  | some x=>if H.all (canH x) then comeR nm n (holdH H x) (Q.filter (wo x.o [] true)) (out++[x.o]) else (H,Q,out)
theorem ix_find {p:Has->Bool}:∀{l:List Has} {x:Has},l.find? p=some x->∃a,l.findIdx? p=some a/\l[a]? = some x
 | [],x,h=>by simp at h
 | y::l,x,h=>by
  rw [List.find?_cons] at h
  rw [List.findIdx?_cons]
  cases hp:p y with
  | true=>rw [hp] at h;simp at h;subst h;exact ⟨0,by simp,rfl⟩
  | false =>
   rw [hp] at h
   obtain ⟨a,h1,h2⟩:=ix_find (l:=l) (by simpa using h)
   exact ⟨a+1,by simp [h1],by simpa using h2⟩
theorem ix_none {p:Has->Bool} {l:List Has} (h:l.find? p=none):l.findIdx? p=none:=by
 rw [List.find?_eq_none] at h
 rw [List.findIdx?_eq_none_iff]
 intro x hx
 simpa using h x hx
theorem holdH_len (H:List Has) (x:Has):(holdH H x).length<=H.length+1:=by
 have:=List.length_filter_le (wo x.o x.nm false) H
 unfold holdH
 rw [List.length_append,List.length_singleton];omega
theorem wo_lt {Q:List Has} {x:Has} (h:x∈Q):(Q.filter (wo x.o [] true)).length < Q.length:=by
 rcases Nat.lt_or_ge (Q.filter (wo x.o [] true)).length Q.length with h1 | h1
 ·exact h1
 ·have:=List.length_filter_le (wo x.o [] true) Q
  have e:=List.length_filter_eq_length_iff.1 (Nat.le_antisymm this h1) x h
  simp [wo] at e
theorem rcome_round (nm:Bs) (H Q:List Has) (out:List Int) (els:List V) (ms:List (List (V × V))) (hH:H.length<=99000) (hQ:Q.length<=99000) (hO:out.length<=99000) :
  s39_0b nm els ms (ints out) (rowsV H) (rowsV Q) =
   match Q.find? (fun h=>h.nm==nm) with
   | none=>some (.doneM (.own 6) [.arena 66 els,.marena 63 ms,.box 28 (.agg [.tail 7 0,.tail 8 0]) false,.dead,.dead,.row 3 [] 0,.row 3 (ints out) 0,.row 54 (rowsV H) 0,.row 54 (rowsV Q) 0])
   | some x=>cond (H.all (canH x)) (some (.head 0 (T39_0b nm els ms (ints (out++[x.o])) (rowsV (holdH H x)) (rowsV (Q.filter (wo x.o [] true))))))
    (some (.doneM (.own 6) [.arena 66 els,.marena 63 ms,.box 28 (.agg [.tail 7 0,.tail 8 0]) false,.dead,.dead,.row 3 [] 0,.row 3 (ints out) 0,.row 54 (rowsV H) 0,.row 54 (rowsV Q) 0])):=by
 have hw:=rfirst_ok H Q (by omega) nm
 cases hf:Q.find? (fun h=>h.nm==nm) with
 | none =>
  rw [ixF_none _ _ (ix_none hf)] at hw
  unfold s39_0b
  rw [pcK_of hw,kI_mk];rfl
 | some x =>
  obtain ⟨a,h1,h2⟩:=ix_find hf
  rw [ixF_some _ _ _ h1,Nat.zero_add] at hw
  have hlt:=(List.getElem?_eq_some_iff.1 h2).1
  have hfq:∀q:V->R,pcK cfgB 34 [.ref (.agg [.sl (rowsV H),.sl (rowsV Q)]) 0,.str nm] q=q (.int .i64 (a:Int)):=fun q=>pcK_of hw
  have hcq:∀q:V->R,pcK cfgB 33 [.ref (.agg [.sl (rowsV H),.sl (rowsV Q)]) 0,.agg [.int .i64 x.o,.int .i64 x.m,.str x.nm]] q=q (.bool (H.all (canH x))):=fun q=>pcK_of (rcan_ok H Q (by omega) x)
  have hg1:∀q:R,gd (decide (0<=(a:Int))) q=q:=fun q=>gd_of (by simp)
  have hg2:∀q:R,gd (decide (((a:Int)).toNat < (rowsV Q).length)) q=q:=fun q=>gd_of (decide_eq_true (by rw [toNat_cast,rows_len];exact hlt))
  have hx:∀q:V->R,idxK (rowsV Q) (0+((a:Int)).toNat) q=q (hV x):=fun q=>rows_get (by rw [toNat_cast,Nat.zero_add];exact h2) q
  unfold s39_0b
  simp only [hfq,kI_mk,decide_eq_true (show (a:Int) ≥ 0 by omega),cond_true,hg1,hg2,hx,dHas,hcq,kB_mk,gd_true]
  congr 1
  have k1:icC cfgB ⟨false,false⟩ 35 [.ptr 2 0 0,.agg [.int .i64 x.o,.int .i64 x.m,.str x.nm]] (rm els ms H Q)=some (mk35 (els,ms,rowsV (holdH H x),rowsV Q)):=rhold_ok H Q (by omega) x
  rw [icM_of mk35_inj k1]
  dsimp only
  rw [pcK_of (rwo_ok Q (by omega) x.o [] true),kF_mk,gd_of (decide_eq_true (by rw [ints_len];simp;omega)),ints_app]
  rfl
theorem rcome_loop (nm:Bs) (els0:List V) (ms0:List (List (V × V))) (H0 Q0:List Has):∀(n:Nat) (H Q:List Has) (out:List Int) (els:List V) (ms:List (List (V × V))),Q.length<=n->H.length+Q.length<=98000->out.length+Q.length<=98000 ->
  GoN kcB 5 fa39 ⟨false,false⟩ (rm els0 ms0 H0 Q0) (.head 0 (T39_0b nm els ms (ints out) (rowsV H) (rowsV Q))) (mk39 (els,ms,ints (comeR nm n H Q out).2.2,rowsV (comeR nm n H Q out).1,rowsV (comeR nm n H Q out).2.1)):=by
 intro n
 induction n with
 | zero =>
  intro H Q out els ms hn hl ho
  have hQ:Q=[]:=List.length_eq_zero_iff.1 (by omega)
  subst hQ
  have e:=rcome_round nm H [] out els ms (by omega) (by simp) (by omega)
  exact GoN.step (fun o'=>s39_0b_run _ _ _ _ _ _ e) (.done (by kernel_rfl))
 | succ n ih =>
  intro H Q out els ms hn hl ho
  have e:=rcome_round nm H Q out els ms (by omega) (by omega) (by omega)
  unfold comeR
  cases hf:Q.find? (fun h=>h.nm==nm) with
  | none =>
   rw [hf] at e
   exact GoN.step (fun o'=>s39_0b_run _ _ _ _ _ _ e) (.done (by kernel_rfl))
  | some x =>
   rw [hf] at e
   simp only at e |-
   have h1:=wo_lt (List.mem_of_find?_eq_some hf)
   have h2:=holdH_len H x
   cases hc:H.all (canH x) with
   | true =>
    rw [hc,cond_true] at e
    rw [if_pos rfl]
    exact GoN.step (fun o'=>s39_0b_run _ _ _ _ _ _ e) (ih _ _ _ els ms (by omega) (by omega) (by rw [List.length_append,List.length_singleton];omega))
   | false =>
    rw [hc,cond_false] at e
    rw [if_neg (by simp)]
    exact GoN.step (fun o'=>s39_0b_run _ _ _ _ _ _ e) (.done (by kernel_rfl))
abbrev noneCame (els:List V) (ms:List (List (V × V))) (H Q:List Has):Out:=.doneM (.own 6) (rm els ms H Q++[.row 3 [] 0,.row 3 [] 0])
theorem rcome_ok (nm:Bs) (H Q:List Has) (els:List V) (ms:List (List (V × V))) (hl:H.length+Q.length<=97000) :
  icC cfgB ⟨false,false⟩ 39 [.ptr 2 0 0,.str nm] (rm els ms H Q)=some (mk39 (els,ms,ints (comeR nm Q.length H Q []).2.2,rowsV (comeR nm Q.length H Q []).1,rowsV (comeR nm Q.length H Q []).2.1)):=by
 refine e39_run _ _ _ _ _ rfl ?_
 have hw:=rfirst_ok H Q (by omega) nm
 cases hQ:Q.length with
 | zero =>
  have hQ':Q=[]:=List.length_eq_zero_iff.1 hQ
  subst hQ'
  refine GoN.step (fun o'=>s39_0_run _ _ _ _ _ (o:=noneCame els ms H []) ?_) (.done (by kernel_rfl))
  unfold s39_0
  rw [pcK_of hw,kI_mk];rfl
 | succ n =>
  unfold comeR
  cases hf:Q.find? (fun h=>h.nm==nm) with
  | none =>
   rw [ixF_none _ _ (ix_none hf)] at hw
   refine GoN.step (fun o'=>s39_0_run _ _ _ _ _ (o:=noneCame els ms H Q) ?_) (.done (by kernel_rfl))
   unfold s39_0
   rw [pcK_of hw,kI_mk];rfl
  | some x =>
   obtain ⟨a,h1,h2⟩:=ix_find hf
   rw [ixF_some _ _ _ h1,Nat.zero_add] at hw
   have hlt:=(List.getElem?_eq_some_iff.1 h2).1
   have hfq:∀q:V->R,pcK cfgB 34 [.ref (.agg [.sl (rowsV H),.sl (rowsV Q)]) 0,.str nm] q=q (.int .i64 (a:Int)):=fun q=>pcK_of hw
   have hcq:∀q:V->R,pcK cfgB 33 [.ref (.agg [.sl (rowsV H),.sl (rowsV Q)]) 0,.agg [.int .i64 x.o,.int .i64 x.m,.str x.nm]] q=q (.bool (H.all (canH x))):=fun q=>pcK_of (rcan_ok H Q (by omega) x)
   have hg1:∀q:R,gd (decide (0<=(a:Int))) q=q:=fun q=>gd_of (by simp)
   have hg2:∀q:R,gd (decide (((a:Int)).toNat < (rowsV Q).length)) q=q:=fun q=>gd_of (decide_eq_true (by rw [toNat_cast,rows_len];exact hlt))
   have hx:∀q:V->R,idxK (rowsV Q) (0+((a:Int)).toNat) q=q (hV x):=fun q=>rows_get (by rw [toNat_cast,Nat.zero_add];exact h2) q
   have k1:icC cfgB ⟨false,false⟩ 35 [.ptr 2 0 0,.agg [.int .i64 x.o,.int .i64 x.m,.str x.nm]] (rm els ms H Q)=some (mk35 (els,ms,rowsV (holdH H x),rowsV Q)):=rhold_ok H Q (by omega) x
   have q1:=wo_lt (List.mem_of_find?_eq_some hf)
   have q2:=holdH_len H x
   simp only
   cases hc:H.all (canH x) with
   | true =>
    rw [if_pos rfl]
    refine GoN.step (fun o'=>s39_0_run _ _ _ _ _ (o:=.head 0 (T39_0b nm els ms (ints [x.o]) (rowsV (holdH H x)) (rowsV (Q.filter (wo x.o [] true))))) ?_) (rcome_loop nm els ms H Q n _ _ _ els ms (by omega) (by omega) (by simp;omega))
    unfold s39_0
    simp only [hfq,kI_mk,decide_eq_true (show (a:Int) ≥ 0 by omega),cond_true,hg1,hg2,hx,dHas,hcq,kB_mk,gd_true,hc]
    rw [icM_of mk35_inj k1]
    dsimp only
    rw [pcK_of (rwo_ok Q (by omega) x.o [] true),kF_mk,gd_of (by simp)]
    rfl
   | false =>
    rw [if_neg (by simp)]
    refine GoN.step (fun o'=>s39_0_run _ _ _ _ _ (o:=noneCame els ms H Q) ?_) (.done (by kernel_rfl))
    unfold s39_0
    simp only [hfq,kI_mk,decide_eq_true (show (a:Int) ≥ 0 by omega),cond_true,hg1,hg2,hx,dHas,hcq,kB_mk,gd_true,hc,cond_false]
    rfl
end
section
variable {els:List V} {ms:List (List (V × V))} (H Q:List Has)
def freeR (H Q:List Has) (o:Int) (nm:Bs):Int × List Has × List Has × List Int :=
 if modeH o nm H=0 then (7,H,Q,[]) else
 if (forH Q o).any (fun x=>x.nm==nm) then (9,H,Q,[]) else
 (0,(comeR nm Q.length (H.filter (wo o nm false)) Q []))
theorem rfree_ok (hl:H.length+Q.length<=97000) (o:Int) (nm:Bs):icC cfgB ⟨false,false⟩ 11 [.ptr 2 0 0,.int .i64 o,.str nm] (rm els ms H Q) =
  some (mk11 ((freeR H Q o nm).1,els,ms,ints (freeR H Q o nm).2.2.2,rowsV (freeR H Q o nm).2.1,rowsV (freeR H Q o nm).2.2.1)):=by
 have hw:=rwait_ok H Q (by omega) o
 have hm:=rmode_ok H Q (by omega) o nm
 have h1:=List.length_filter_le (wo o nm false) H
 have hc:=rcome_ok nm (H.filter (wo o nm false)) Q els ms (by omega)
 have hwo:=rwo_ok H (by omega) o nm false
 unfold freeR
 by_cases h0:modeH o nm H=0
 ·rw [if_pos h0]
  refine e11_run _ _ _ _ _ _ (o:=.doneM (.tup [.own 6,.int .i64 7]) (rm els ms H Q++[.row 3 [] 0,.row 3 [] 0])) ?_ (.done (by kernel_rfl))
  unfold e11
  rw [pcK_of hm,kI_mk,ibeq_t h0,cond_true];rfl
 ·rw [if_neg h0]
  have hgo:∀q:(List V × List (List (V × V)) × List V × List V × List V)->R,icM cfgB ⟨false,false⟩ mk39 39 [.ptr 2 0 0,.str nm] (rm els ms (H.filter (wo o nm false)) Q) q=q (els,ms,ints (comeR nm Q.length (H.filter (wo o nm false)) Q []).2.2,rowsV (comeR nm Q.length (H.filter (wo o nm false)) Q []).1,rowsV (comeR nm Q.length (H.filter (wo o nm false)) Q []).2.1):=fun q=>icM_of mk39_inj hc
  cases hf:forH Q o with
  | none =>
   rw [ixF_none _ _ (ix_none hf)] at hw
   rw [if_neg (by simp)]
   refine e11_run _ _ _ _ _ _ (o:=.doneM (.tup [.own 7,.int .i64 0]) [.arena 66 els,.marena 63 ms,.box 28 (.agg [.tail 8 0,.tail 9 0]) false,.row 54 (rowsV H) 0,.dead,.row 3 [] 0,.dead,.row 3 (ints (comeR nm Q.length (H.filter (wo o nm false)) Q []).2.2) 0,.row 54 (rowsV (comeR nm Q.length (H.filter (wo o nm false)) Q []).1) 0,.row 54 (rowsV (comeR nm Q.length (H.filter (wo o nm false)) Q []).2.1) 0]) ?_ (.done (by kernel_rfl))
   unfold e11
   rw [pcK_of hm,kI_mk,ibeq_f h0,cond_false,pcK_of hw,kI_mk,decide_eq_false (by omega),cond_false,pcK_of hwo,kF_mk,hgo]
  | some x =>
   obtain ⟨a,h2,h3⟩:=ix_find hf
   rw [ixF_some _ _ _ h2,Nat.zero_add] at hw
   have hlt:=(List.getElem?_eq_some_iff.1 h3).1
   cases hx:x.nm==nm with
   | true =>
    rw [if_pos (by simp [hx])]
    refine e11_run _ _ _ _ _ _ (o:=.doneM (.tup [.own 6,.int .i64 9]) (rm els ms H Q++[.row 3 [] 0,.row 3 [] 0])) ?_ (.done (by kernel_rfl))
    unfold e11
    rw [pcK_of hm,kI_mk,ibeq_f h0,cond_false,pcK_of hw,kI_mk,decide_eq_true (by omega),cond_true,gd_of (by simp),gd_of (decide_eq_true (by rw [toNat_cast,rows_len];exact hlt)),toNat_cast,Nat.zero_add,rows_get h3,dHas,hx,cond_true]
    rfl
   | false =>
    rw [if_neg (by simp [hx])]
    refine e11_run _ _ _ _ _ _ (o:=.doneM (.tup [.own 7,.int .i64 0]) [.arena 66 els,.marena 63 ms,.box 28 (.agg [.tail 8 0,.tail 9 0]) false,.row 54 (rowsV H) 0,.dead,.row 3 [] 0,.dead,.row 3 (ints (comeR nm Q.length (H.filter (wo o nm false)) Q []).2.2) 0,.row 54 (rowsV (comeR nm Q.length (H.filter (wo o nm false)) Q []).1) 0,.row 54 (rowsV (comeR nm Q.length (H.filter (wo o nm false)) Q []).2.1) 0]) ?_ (.done (by kernel_rfl))
    unfold e11
    rw [pcK_of hm,kI_mk,ibeq_f h0,cond_false,pcK_of hw,kI_mk,decide_eq_true (by omega),cond_true,gd_of (by simp),gd_of (decide_eq_true (by rw [toNat_cast,rows_len];exact hlt)),toNat_cast,Nat.zero_add,rows_get h3,dHas,hx,cond_false,pcK_of hwo,kF_mk,hgo]
theorem comeR_len (nm:Bs):∀(n:Nat) (H Q:List Has) (out:List Int),(comeR nm n H Q out).1.length+(comeR nm n H Q out).2.1.length<=H.length+Q.length/\(comeR nm n H Q out).2.2.length+(comeR nm n H Q out).2.1.length<=out.length+Q.length
 | 0,H,Q,out=>⟨Nat.le_refl _,Nat.le_refl _⟩
 | n+1,H,Q,out=>by
  unfold comeR
  cases hf:Q.find? (fun h=>h.nm==nm) with
  | none=>exact ⟨Nat.le_refl _,Nat.le_refl _⟩
  | some x =>
   simp only
   split
   ·obtain ⟨h1,h2⟩:=comeR_len nm n (holdH H x) (Q.filter (wo x.o [] true)) (out++[x.o])
    have q1:=wo_lt (List.mem_of_find?_eq_some hf)
    have q2:=holdH_len H x
    rw [List.length_append,List.length_singleton] at h2
    exact ⟨by omega,by omega⟩
   ·exact ⟨Nat.le_refl _,Nat.le_refl _⟩
def comesR:List Bs->List Has->List Has->List Int->List Has × List Has × List Int
 | [],H,Q,out=>(H,Q,out)
 | n::ns,H,Q,out=>comesR ns (comeR n Q.length H Q []).1 (comeR n Q.length H Q []).2.1 (out++(comeR n Q.length H Q []).2.2)
def dropR (H Q:List Has) (o:Int):List Has × List Has × List Int:=comesR (namesH [] (H++Q)) (H.filter (wo o [] true)) (Q.filter (wo o [] true)) []
theorem rdrop_loop (H0 Q0:List Has) (els0:List V) (ms0:List (List (V × V))) (ns:List Bs) (hn:ns.length<=99990):∀(r:List Bs) (k:Nat),ns.drop k=r->∀(H Q:List Has) (out:List Int) (els:List V) (ms:List (List (V × V))),H.length+Q.length<=90000->out.length+Q.length<=90000 ->
  GoN kcB 5 fa14 ⟨false,false⟩ (rm els0 ms0 H0 Q0) (.head 0 (T14_0 (strs ns) (k:Int) els ms (rowsV H0) (rowsV Q0) (ints out) (rowsV H) (rowsV Q))) (mk14 (els,ms,ints (comesR r H Q out).2.2,rowsV (comesR r H Q out).1,rowsV (comesR r H Q out).2.1))
 | [],k,h,H,Q,out,els,ms,hl,ho=>by
  have:=List.drop_eq_nil_iff.1 h
  refine GoN.step (fun o'=>s14_0_run _ _ _ _ _ _ _ _ _ (o:=.doneM (.own 6) [.arena 66 els,.marena 63 ms,.box 28 (.agg [.tail 7 0,.tail 8 0]) false,.row 54 (rowsV H0) 0,.row 54 (rowsV Q0) 0,.row 3 [] 0,.row 3 (ints out) 0,.row 54 (rowsV H) 0,.row 54 (rowsV Q) 0]) ?_) (.done (by kernel_rfl))
  unfold s14_0
  rw [decide_eq_false (by rw [strs_len];omega),cond_false]
 | x::r,k,h,H,Q,out,els,ms,hl,ho=>by
  obtain ⟨h1,h2,h3⟩:=drop_get h
  have hc:=rcome_ok x H Q els ms (by omega)
  obtain ⟨q1,q2⟩:=comeR_len x Q.length H Q []
  simp only [List.length_nil,Nat.zero_add] at q2
  refine GoN.step (fun o'=>s14_0_run _ _ _ _ _ _ _ _ _ (o:=.head 0 (T14_0 (strs ns) ((k+1:Nat):Int) els ms (rowsV H0) (rowsV Q0) (ints (out++(comeR x Q.length H Q []).2.2)) (rowsV (comeR x Q.length H Q []).1) (rowsV (comeR x Q.length H Q []).2.1))) ?_)
   (rdrop_loop H0 Q0 els0 ms0 ns hn r (k+1) h2 _ _ _ els ms (by omega) (by rw [List.length_append];omega))
  unfold s14_0
  rw [decide_eq_true (by rw [strs_len];omega),cond_true,gd_of (by simp),toNat_cast,strs_get h1,kS_mk,icM_of mk39_inj hc]
  dsimp only
  rw [gd_of (ints_wfl _),gd_of (decide_eq_true (by rw [ints_len,ints_len];omega)),wN k (by omega),ints_app]
theorem rows_wfl (l:List Has):wfl 3 (rowsV l)=true:=by
 unfold wfl
 rw [List.all_eq_true]
 intro x hx
 obtain ⟨y,_,rfl⟩:=List.mem_map.1 hx
 rfl
theorem rdrop_ok (hl:H.length+Q.length<=80000) (hs:∀h∈H++Q,h.nm.length<=99999) (o:Int):icC cfgB ⟨false,false⟩ 14 [.ptr 2 0 0,.int .i64 o] (rm els ms H Q) =
  some (mk14 (els,ms,ints (dropR H Q o).2.2,rowsV (dropR H Q o).1,rowsV (dropR H Q o).2.1)):=by
 have h1:=List.length_filter_le (wo o [] true) H
 have h2:=List.length_filter_le (wo o [] true) Q
 have h3:=namesH_len (H++Q) []
 rw [List.length_append] at h3
 simp only [List.length_nil,Nat.zero_add] at h3
 refine e14_run _ _ _ _ _ ?_ (rdrop_loop H Q els ms (namesH [] (H++Q)) (by omega) _ 0 rfl (H.filter (wo o [] true)) (Q.filter (wo o [] true)) [] els ms (by omega) (by simp;omega))
 unfold e14
 rw [gd_of (rows_wfl H),gd_of (decide_eq_true (by rw [rows_len];omega)),gd_of (rows_wfl Q),gd_of (decide_eq_true (by rw [rows_len,rows_len];omega)),<-rows_app,
  pcK_of (rnames_ok (H++Q) (by rw [List.length_append];omega) hs),kF_mk,pcK_of (rwo_ok H (by omega) o [] true),kF_mk,pcK_of (rwo_ok Q (by omega) o [] true),kF_mk]
 rfl
end
section
variable {els:List V} {ms:List (List (V × V))} (H Q:List Has)
def freshW (H:List Has) (x w:Has):Bool:=w.nm==x.nm && (modeH w.o w.nm H==0)
def atR (H:List Has) (x:Has) (holds:Bool) (l:List Has) (k n:Nat):Nat:=if holds then ((l.findIdx? (freshW H x)).map (k+·)).getD n else n
theorem atR_le (x:Has) (holds:Bool) (l:List Has) (k n:Nat) (h:k+l.length<=n):atR H x holds l k n<=n:=by
 unfold atR
 split
 ·cases hf:l.findIdx? (freshW H x) with
  | none=>simp
  | some a=>have:=(List.findIdx?_eq_some_iff_getElem.1 hf).1;simp;omega
 ·exact Nat.le_refl _
theorem atR_cons (x w:Has) (holds:Bool) (l:List Has) (k n:Nat):atR H x holds (w::l) k n=if holds && freshW H x w then k else atR H x holds l (k+1) n:=by
 unfold atR
 cases holds with
 | false=>rfl
 | true =>
  rw [if_pos rfl,if_pos rfl,Bool.true_and,List.findIdx?_cons]
  cases freshW H x w with
  | true=>simp
  | false =>
   simp only [Bool.false_eq_true,if_false]
   cases l.findIdx? (freshW H x) with
   | none=>rfl
   | some a=>simp;omega
def stayQ (H Q:List Has) (x:Has) (holds:Bool):List Has:=Q.take (atR H x holds Q 0 Q.length)++x::Q.drop (atR H x holds Q 0 Q.length)
noncomputable def stayR (H Q:List Has) (x:Has) (holds:Bool):Int × List Has × List Has :=
 if deadH H (stayQ H Q x holds) x.o then (11,H,Q) else (10,H,stayQ H Q x holds)
theorem stay_new (x:Has) (at0:Nat) (q:R) (hQ:Q.length<=99000) (ha:at0<=Q.length) :
  (gd (wfl 3 (rowsV Q))<|gd (decide (0<=(at0:Int)))<|gd (decide (((at0:Int)).toNat<=(rowsV Q).length))<|gd (decide ((0+0)+(((at0:Int)).toNat - 0)<=(rowsV Q).length))<|gd (wfl 3 (((rowsV Q).drop (0+0)).take (((at0:Int)).toNat - 0))) <|
   gd (decide (0+(((rowsV Q).drop (0+0)).take (((at0:Int)).toNat - 0)).length<=16777216))<|gd (decide ((((rowsV Q).drop (0+0)).take (((at0:Int)).toNat - 0)).length+([V.agg [V.int .i64 x.o,V.int .i64 x.m,V.str x.nm]]:List V).length<=16777216)) <|
   gd (wfl 3 (rowsV Q))<|gd (decide (0<=(at0:Int)))<|gd (decide (((at0:Int)).toNat<=(rowsV Q).length))<|gd (wfl 3 ((rowsV Q).drop (0+((at0:Int)).toNat))) <|
   gd (decide (((((rowsV Q).drop (0+0)).take (((at0:Int)).toNat - 0))++[V.agg [V.int .i64 x.o,V.int .i64 x.m,V.str x.nm]]).length+((rowsV Q).drop (0+((at0:Int)).toNat)).length<=16777216)) q)=q:=by
 have e1:((rowsV Q).drop (0+0)).take (at0 - 0)=rowsV (Q.take at0):=by simp [rowsV,List.map_take]
 have e2:(rowsV Q).drop (0+at0)=rowsV (Q.drop at0):=by simp [rowsV,List.map_drop]
 rw [toNat_cast,e1,e2,gd_of (rows_wfl _),gd_of (by simp),gd_of (decide_eq_true (by rw [rows_len];exact ha)),gd_of (decide_eq_true (by rw [rows_len];omega)),gd_of (rows_wfl _),gd_of (decide_eq_true (by rw [rows_len,List.length_take];omega)),
  gd_of (decide_eq_true (by rw [rows_len,List.length_take];simp;omega)),gd_of (rows_wfl _),gd_of (by simp),gd_of (decide_eq_true (by rw [rows_len];exact ha)),gd_of (rows_wfl _),
  gd_of (decide_eq_true (by rw [List.length_append,rows_len,rows_len,List.length_take,List.length_drop];simp;omega))]
theorem stay_row (x:Has) (at0:Nat):((((rowsV Q).drop (0+0)).take (((at0:Int)).toNat - 0))++[V.agg [V.int .i64 x.o,V.int .i64 x.m,V.str x.nm]])++(rowsV Q).drop (0+((at0:Int)).toNat)=rowsV (Q.take at0++x::Q.drop at0):=by
 rw [toNat_cast]
 simp [rowsV,hV,List.map_take,List.map_drop]
theorem rstay_loop (x:Has) (holds:Bool) (hl:2 * (H.length+Q.length+1)<=99000):∀(i:Nat),i<=Q.length ->
  GoN kcB 5 fa36 ⟨false,false⟩ (rm els ms H Q) (.head 0 (T36_0 holds ((atR H x holds (Q.drop i) i Q.length:Nat):Int) ((i:Int) - 1) els ms (rowsV H) (rowsV Q) x.o x.m x.nm)) (mk36 ((stayR H Q x holds).1,els,ms,rowsV (stayR H Q x holds).2.1,rowsV (stayR H Q x holds).2.2)):=by
 intro i
 induction i with
 | zero =>
  intro hi
  have ha:=atR_le H x holds Q 0 Q.length (by omega)
  have hd:=rdead_ok H (stayQ H Q x holds) (by unfold stayQ;rw [List.length_append,List.length_cons,List.length_take,List.length_drop];omega) x.o
  have hs:s36_0 holds ((atR H x holds (Q.drop 0) 0 Q.length:Nat):Int) (((0:Nat):Int) - 1) els ms (rowsV H) (rowsV Q) x.o x.m x.nm=cond (deadH H (stayQ H Q x holds) x.o)
    (some (.doneM (.int .i64 11) (rm els ms H Q++[.box 54 (hV x) false,.dead,.dead,.row 54 [hV x] 0,.dead,.row 54 (rowsV (stayQ H Q x holds)) 0])))
    (some (.doneM (.int .i64 10) [.arena 66 els,.marena 63 ms,.box 28 (.agg [.tail 3 0,.tail 10 0]) false,.row 54 (rowsV H) 0,.row 54 (rowsV Q) 0,.box 54 (hV x) false,.dead,.dead,.row 54 [hV x] 0,.dead,.row 54 (rowsV (stayQ H Q x holds)) 0])):=by
   unfold s36_0
   rw [decide_eq_false (by omega),cond_false,List.drop_zero,stay_new Q x _ _ (by omega) ha,stay_row]
   show pcK cfgB 62 [tV H (stayQ H Q x holds),.int .i64 x.o] _=_
   rw [pcK_of hd,kB_mk]
   rfl
  unfold stayR
  cases hdd:deadH H (stayQ H Q x holds) x.o with
  | true =>
   rw [hdd,cond_true] at hs
   rw [if_pos rfl]
   exact GoN.step (fun o'=>s36_0_run _ _ _ _ _ _ _ _ _ _ hs) (.done (by kernel_rfl))
  | false =>
   rw [hdd,cond_false] at hs
   rw [if_neg (by simp)]
   exact GoN.step (fun o'=>s36_0_run _ _ _ _ _ _ _ _ _ _ hs) (.done (by kernel_rfl))
 | succ i ih =>
  intro hi
  have go:=ih (by omega)
  obtain ⟨w,hw⟩:∃w,Q[i]? = some w:=⟨_,List.getElem?_eq_getElem (by omega)⟩
  have hd:Q.drop i=w::Q.drop (i+1):=by
   obtain ⟨hlt,e⟩:=List.getElem?_eq_some_iff.1 hw
   rw [List.drop_eq_getElem_cons hlt,e]
  rw [hd,atR_cons] at go
  have hm:∀q:V->R,pcK cfgB 20 [.ref (.agg [.sl (rowsV H),.sl (rowsV Q)]) 0,.int .i64 w.o,.str w.nm] q=q (.int .i64 (modeH w.o w.nm H)):=fun q=>pcK_of (rmode_ok H Q (by omega) w.o w.nm)
  have e1:((i+1:Nat):Int) - 1=(i:Int):=by omega
  have e2:W .i64 ((i:Int) - 1)=(i:Int) - 1:=W_i64 (by omega)
  refine GoN.step (fun o'=>s36_0_run _ _ _ _ _ _ _ _ _ _ ?_) go
  rw [e1]
  unfold s36_0
  rw [decide_eq_true (by omega),cond_true,gd_of (by simp),gd_of (decide_eq_true (by rw [toNat_cast,rows_len];omega)),toNat_cast,Nat.zero_add,rows_get hw,dHas,hm,kI_mk,e2]
  unfold freshW
  cases holds<;>cases hn:w.nm==x.nm<;>cases hz:modeH w.o w.nm H==0<;>rfl
theorem rstay_ok (x:Has) (holds:Bool) (hl:2 * (H.length+Q.length+1)<=99000):icC cfgB ⟨false,false⟩ 36 [.ptr 2 0 0,hV x,.bool holds] (rm els ms H Q)=some (mk36 ((stayR H Q x holds).1,els,ms,rowsV (stayR H Q x holds).2.1,rowsV (stayR H Q x holds).2.2)):=by
 have c:=rstay_loop (els:=els) (ms:=ms) H Q x holds hl Q.length (Nat.le_refl _)
 have e1:atR H x holds (Q.drop Q.length) Q.length Q.length=Q.length:=by unfold atR;rw [List.drop_length];cases holds<;>rfl
 rw [e1] at c
 refine e36_run x.o x.m x.nm holds els ms (rowsV H) (rowsV Q) ?_ c
 unfold e36
 rw [rows_len,W_i64 (by omega)]
end
def bothB (m a b:Int):Bool:=coversB m a && coversB m b
theorem rboth_ok (m a b:Int):pcW cfgB 60 [.int .i64 m,.int .i64 a,.int .i64 b]=some (.bool (bothB m a b)):=by
 refine e60_done _ _ _ ?_
 unfold e60 bothB
 rw [pcK_of (rcoversW m a),kB_mk,pcK_of (rcoversW m b),kB_mk]
 cases coversB m a<;>rfl
def innF (a b m:Int):Nat->Int->Bool->Bool
 | 0,_,f=>f
 | k+1,n,f=>innF a b m k (n+1) (if f && bothB n a b then coversB n m else f)
def outF (a b:Int):Nat->Int->Int × Int
 | 0,_=>(0,1)
 | k+1,m=>if innF a b m 7 0 (bothB m a b) then (m,0) else outF a b k (m+1)
theorem rjoin_in (a b m:Int) (v:V) (hm:0<=m/\m < 100):∀(k:Nat) (n:Int) (f:Bool),n+(k:Int)=7->0<=n ->
  (innF a b m k n f=true->v = .tup [.int .i64 m,.int .i64 0])->(innF a b m k n f=false->Go kcB false 0 fa32 (.head 0 (T32_0 a b (m+1))) (.done v)) ->
  Go kcB false 0 fa32 (.head 1 (T32_1 a b m f n)) (.done v):=by
 intro k
 induction k with
 | zero =>
  intro n f hn h0 h1 h2
  cases f with
  | true =>
   rw [h1 rfl]
   refine s32_1_run _ _ _ _ _ ?_ (.refl _)
   unfold s32_1
   rw [decide_eq_false (by omega),cond_false,cond_true]
  | false =>
   refine s32_1_run _ _ _ _ _ ?_ (h2 rfl)
   unfold s32_1
   rw [decide_eq_false (by omega),cond_false,cond_false,W_i64 (by omega)]
 | succ k ih =>
  intro n f hn h0 h1 h2
  refine s32_1_run _ _ _ _ _ ?_ (ih (n+1) (if f && bothB n a b then coversB n m else f) (by omega) (by omega) h1 h2)
  unfold s32_1
  rw [decide_eq_true (by omega),cond_true,pcK_of (rboth_ok n a b),kB_mk,pcK_of (rcoversW n m),kB_mk,W_i64 (by omega)]
  cases f<;>cases bothB n a b<;>rfl
theorem rjoin_out (a b:Int):∀(k:Nat) (m:Int),m+(k:Int)=7->0<=m->Go kcB false 0 fa32 (.head 0 (T32_0 a b m)) (.done (.tup [.int .i64 (outF a b k m).1,.int .i64 (outF a b k m).2])):=by
 intro k
 induction k with
 | zero =>
  intro m hm h0
  refine s32_0_run _ _ _ ?_ (.refl _)
  unfold s32_0
  rw [decide_eq_false (by omega),cond_false];rfl
 | succ k ih =>
  intro m hm h0
  have c:=ih (m+1) (by omega) (by omega)
  unfold outF
  refine s32_0_run _ _ _ ?_ (rjoin_in a b m _ (by omega) 7 0 (bothB m a b) (by omega) (by omega) (fun h=>by rw [h];rfl) (fun h=>by rw [h,if_neg (by simp)];exact c))
  unfold s32_0
  rw [decide_eq_true (by omega),cond_true,pcK_of (rboth_ok m a b),kB_mk]
theorem rjoin_ok (a b:Int):pcW cfgB 32 [.int .i64 a,.int .i64 b]=some (.tup [.int .i64 (outF a b 7 0).1,.int .i64 (outF a b 7 0).2]) :=
 e32_run _ _ rfl (rjoin_out a b 7 0 (by omega) (by omega))
theorem join_eq {a b:Int} (ha:0<=a/\a < 7) (hb:1<=b/\b<=6):outF a b 7 0=(joinB a b,0):=by
 have key:∀x:Fin 7,∀y:Fin 7,outF (x.val:Int) (y.val:Int) 7 0=(joinB (x.val:Int) (y.val:Int),0):=by decide +kernel
 have:=key ⟨a.toNat,by omega⟩ ⟨b.toNat,by omega⟩
 simp only at this
 rwa [show ((a.toNat:Nat):Int)=a by omega,show ((b.toNat:Nat):Int)=b by omega] at this
noncomputable def askR (H Q:List Has) (o:Int) (nm:Bs) (m:Int):Int × List Has × List Has :=
 if o < 0∨m < 1∨6 < m then (1,H,Q) else
 if (forH Q o).isSome then (9,H,Q) else
 if modeH o nm H > 0/\(outF (modeH o nm H) m 7 0).1=modeH o nm H then (0,H,Q) else
 if H.all (canH ⟨o,(outF (modeH o nm H) m 7 0).1,nm⟩)/\(modeH o nm H > 0∨Q.find? (fun h=>h.nm==nm)=none) then (0,holdH H ⟨o,(outF (modeH o nm H) m 7 0).1,nm⟩,Q) else
 stayR H Q ⟨o,(outF (modeH o nm H) m 7 0).1,nm⟩ (decide (modeH o nm H > 0))
section
variable {els:List V} {ms:List (List (V × V))} (H Q:List Has)
abbrev askOut (els:List V) (ms:List (List (V × V))) (x:Has) (e:Int) (H Q:List Has):Out :=
 .doneM (.int .i64 e) [.arena 66 els,.marena 63 ms,.box 28 (.agg [.tail 6 0,.tail 7 0]) false,.dead,.dead,.box 54 (.agg [.int .i64 x.o,.int .i64 x.m,.str x.nm]) false,.row 54 (rowsV H) 0,.row 54 (rowsV Q) 0]
theorem rask_ok (hl:2 * (H.length+Q.length+1)<=90000) (o:Int) (nm:Bs) (m:Int):icC cfgB ⟨false,false⟩ 9 [.ptr 2 0 0,.int .i64 o,.str nm,.int .i64 m] (rm els ms H Q) =
  some (mk9 ((askR H Q o nm m).1,els,ms,rowsV (askR H Q o nm m).2.1,rowsV (askR H Q o nm m).2.2)):=by
 have one:∀e:Int,GoN kcB 5 fa9 ⟨false,false⟩ (rm els ms H Q) (.doneM (.int .i64 e) (rm els ms H Q)) (mk9 (e,els,ms,rowsV H,rowsV Q)):=fun e=>.done (by kernel_rfl)
 unfold askR
 by_cases h1:o < 0
 ·rw [if_pos (.inl h1)]
  refine e9_run _ _ _ _ _ _ _ ?_ (one 1)
  unfold e9
  rw [decide_eq_true h1,cond_true]
 by_cases h2:m < 1
 ·rw [if_pos (.inr (.inl h2))]
  refine e9_run _ _ _ _ _ _ _ ?_ (one 1)
  unfold e9
  rw [decide_eq_false h1,cond_false,decide_eq_true h2,cond_true]
 by_cases h3:6 < m
 ·rw [if_pos (.inr (.inr h3))]
  refine e9_run _ _ _ _ _ _ _ ?_ (one 1)
  unfold e9
  rw [decide_eq_false h1,cond_false,decide_eq_false h2,cond_false,decide_eq_true (show m > 6 from h3),cond_true]
 rw [if_neg (by omega)]
 have hw:=rwait_ok H Q (by omega) o
 cases hf:forH Q o with
 | some x =>
  obtain ⟨a,h4,h5⟩:=ix_find hf
  rw [ixF_some _ _ _ h4,Nat.zero_add] at hw
  rw [if_pos (show (some x).isSome=true from rfl)]
  refine e9_run _ _ _ _ _ _ _ ?_ (one 9)
  unfold e9
  rw [decide_eq_false h1,cond_false,decide_eq_false h2,cond_false,decide_eq_false (show ¬m > 6 from h3),cond_false,pcK_of hw,kI_mk,decide_eq_true (by omega),cond_true]
 | none =>
  rw [ixF_none _ _ (ix_none hf)] at hw
  rw [if_neg (by simp)]
  obtain ⟨j,hj⟩:∃j,(outF (modeH o nm H) m 7 0).1=j:=⟨_,rfl⟩
  obtain ⟨md,hmd⟩:∃md,modeH o nm H=md:=⟨_,rfl⟩
  have hm:=rmode_ok H Q (by omega) o nm
  have hjn:=rjoin_ok (modeH o nm H) m
  rw [hj] at hjn |-
  rw [hmd] at hm hjn |-
  have hcq:∀q:V->R,pcK cfgB 33 [.ref (.agg [.sl (rowsV H),.sl (rowsV Q)]) 0,.agg [.int .i64 o,.int .i64 j,.str nm]] q=q (.bool (H.all (canH ⟨o,j,nm⟩))):=fun q=>pcK_of (rcan_ok H Q (by omega) ⟨o,j,nm⟩)
  have hfq:∀q:V->R,pcK cfgB 34 [.ref (.agg [.sl (rowsV H),.sl (rowsV Q)]) 0,.str nm] q=q (.int .i64 (ixF (fun h=>h.nm==nm) Q 0)):=fun q=>pcK_of (rfirst_ok H Q (by omega) nm)
  have k1:icC cfgB ⟨false,false⟩ 35 [.ptr 2 0 0,.agg [.int .i64 o,.int .i64 j,.str nm]] (rm els ms H Q)=some (mk35 (els,ms,rowsV (holdH H ⟨o,j,nm⟩),rowsV Q)):=rhold_ok H Q (by omega) ⟨o,j,nm⟩
  obtain ⟨je,hje⟩:∃je,(outF (modeH o nm H) m 7 0).2=je:=⟨_,rfl⟩
  rw [hmd] at hje
  rw [hje] at hjn
  have hk1:∀q:(List V × List (List (V × V)) × List V × List V)->R,icM cfgB ⟨false,false⟩ mk35 35 [.ptr 2 0 0,.agg [.int .i64 o,.int .i64 j,.str nm]] (rm els ms H Q) q=q (els,ms,rowsV (holdH H ⟨o,j,nm⟩),rowsV Q):=fun q=>icM_of mk35_inj k1
  have hk2:∀(b:Bool) (q:(Int × List V × List (List (V × V)) × List V × List V)->R),icM cfgB ⟨false,false⟩ mk36 36 [.ptr 2 0 0,.agg [.int .i64 o,.int .i64 j,.str nm],.bool b] (rm els ms H Q) q=q ((stayR H Q ⟨o,j,nm⟩ b).1,els,ms,rowsV (stayR H Q ⟨o,j,nm⟩ b).2.1,rowsV (stayR H Q ⟨o,j,nm⟩ b).2.2):=fun b q=>icM_of mk36_inj (rstay_ok H Q ⟨o,j,nm⟩ b (by omega))
  have fin:∀(e:Int) (H' Q':List Has),GoN kcB 5 fa9 ⟨false,false⟩ (rm els ms H Q) (askOut els ms ⟨o,j,nm⟩ e H' Q') (mk9 (e,els,ms,rowsV H',rowsV Q')):=fun e H' Q'=>.done (by kernel_rfl)
  have hj2:∀k:Int->Int->R,d67 (.tup [.int .i64 j,.int .i64 je]) k=k j je:=fun k=>rfl
  have hwq:∀q:V->R,pcK cfgB 31 [.ref (.agg [.sl (rowsV H),.sl (rowsV Q)]) 0,.int .i64 o] q=q (.int .i64 (-1)):=fun q=>pcK_of hw
  have hmq:∀q:V->R,pcK cfgB 20 [.ref (.agg [.sl (rowsV H),.sl (rowsV Q)]) 0,.int .i64 o,.str nm] q=q (.int .i64 md):=fun q=>pcK_of hm
  have hjq:∀q:V->R,pcK cfgB 32 [.int .i64 md,.int .i64 m] q=q (.tup [.int .i64 j,.int .i64 je]):=fun q=>pcK_of hjn
  have hE:e9 o nm m els ms (rowsV H) (rowsV Q)=cond (decide (md > 0) && j==md) (some (.doneM (.int .i64 0) (rm els ms H Q++[.box 54 (hV ⟨o,j,nm⟩) false])))
    (cond (H.all (canH ⟨o,j,nm⟩) && (decide (md > 0) || decide (ixF (fun h=>h.nm==nm) Q 0 < 0))) (some (askOut els ms ⟨o,j,nm⟩ 0 (holdH H ⟨o,j,nm⟩) Q))
     (some (askOut els ms ⟨o,j,nm⟩ (stayR H Q ⟨o,j,nm⟩ (decide (md > 0))).1 (stayR H Q ⟨o,j,nm⟩ (decide (md > 0))).2.1 (stayR H Q ⟨o,j,nm⟩ (decide (md > 0))).2.2))):=by
   unfold e9
   simp only [decide_eq_false h1,decide_eq_false h2,decide_eq_false (show ¬m > 6 from h3),cond_false,hwq,kI_mk,decide_eq_false (show ¬(-1:Int) ≥ 0 by omega),hmq,hjq,hj2,hcq,kB_mk,hfq,hk1,hk2]
   cases decide (md > 0)<;>cases j==md<;>cases H.all (canH ⟨o,j,nm⟩)<;>cases decide (ixF (fun h=>h.nm==nm) Q 0 < 0)<;>rfl
  have hix:decide (ixF (fun h=>h.nm==nm) Q 0 < 0)=(Q.find? (fun h=>h.nm==nm)).isNone:=by
   cases hf:Q.find? (fun h=>h.nm==nm) with
   | none=>rw [ixF_none _ _ (ix_none hf)];rfl
   | some x =>
    obtain ⟨a,h4,h5⟩:=ix_find hf
    rw [ixF_some _ _ _ h4,decide_eq_false (by omega)];rfl
  rw [hix] at hE
  by_cases c1:md > 0/\j=md
  ·rw [if_pos c1]
   refine e9_run _ _ _ _ _ _ _ (hE.trans (by rw [decide_eq_true c1.1,c1.2,beq_self_eq_true];rfl)) (.done (by kernel_rfl))
  ·rw [if_neg c1]
   have c1':(decide (md > 0) && j==md)=false:=by
    cases h:(decide (md > 0) && j==md) with
    | false=>rfl
    | true=>simp at h;exact (c1 h).elim
   rw [c1',cond_false] at hE
   by_cases c2:H.all (canH ⟨o,j,nm⟩)=true/\(md > 0∨Q.find? (fun h=>h.nm==nm)=none)
   ·rw [if_pos c2]
    refine e9_run _ _ _ _ _ _ _ (hE.trans (by rw [c2.1,Bool.true_and];rcases c2.2 with h | h<;>simp [h])) (fin _ _ _)
   ·rw [if_neg c2]
    refine e9_run _ _ _ _ _ _ _ (hE.trans ?_) (fin _ _ _)
    have:(H.all (canH ⟨o,j,nm⟩) && (decide (md > 0) || (Q.find? (fun h=>h.nm==nm)).isNone))=false:=by
     cases h:(H.all (canH ⟨o,j,nm⟩) && (decide (md > 0) || (Q.find? (fun h=>h.nm==nm)).isNone)) with
     | false=>rfl
     | true =>
      rw [Bool.and_eq_true,Bool.or_eq_true,decide_eq_true_eq,Option.isNone_iff_eq_none] at h
      exact (c2 h).elim
    rw [this,cond_false]
end
def hL (L:List Lk) (nm:Bs):HQ:=((getL L nm).map Lk.held).getD []
def qL (L:List Lk) (nm:Bs):HQ:=((getL L nm).map Lk.q).getD []
abbrev toP (h:Has):Int × Int:=(h.o,h.m)
structure Sim (H Q:List Has) (L:List Lk):Prop where
 h:∀(o m:Int) (nm:Bs),(⟨o,m,nm⟩:Has)∈H↔(o,m)∈hL L nm
 q:∀nm:Bs,(Q.filter fun h=>h.nm==nm).map toP=qL L nm
structure Uq (L:List Lk) (W:WL):Prop where
 hn:∀nm,(keys (hL L nm)).Nodup
 qn:∀nm,(keys (qL L nm)).Nodup
 wq:∀nm,∀p∈qL L nm,getA W p.1=some nm
 wok:∀o nm,getA W o=some nm->o∈keys (qL L nm)
section
variable {H Q:List Has} {L:List Lk} {W:WL} {nm:Bs} {e:Lk} {o m:Int}
theorem hL_some (he:getL L nm=some e):hL L nm=e.held:=by simp [hL,he]
theorem qL_some (he:getL L nm=some e):qL L nm=e.q:=by simp [qL,he]
theorem hL_none (he:getL L nm=none):hL L nm=[]:=by simp [hL,he]
theorem qL_none (he:getL L nm=none):qL L nm=[]:=by simp [qL,he]
theorem uq_of (hn:∀e∈L,(keys e.held).Nodup) (qn:∀e∈L,(keys e.q).Nodup) (wq:WQ L W) (wok:WOK L W):Uq L W:=by
 refine ⟨fun nm=>?_,fun nm=>?_,fun nm p hp=>?_,fun o nm hg=>?_⟩
 ·cases he:getL L nm with
  | none=>rw [hL_none he];exact List.nodup_nil
  | some e=>rw [hL_some he];exact hn e (getL_some he).1
 ·cases he:getL L nm with
  | none=>rw [qL_none he];exact List.nodup_nil
  | some e=>rw [qL_some he];exact qn e (getL_some he).1
 ·cases he:getL L nm with
  | none=>rw [qL_none he] at hp;cases hp
  | some e =>
   rw [qL_some he] at hp
   have:=wq e (getL_some he).1 p hp
   rwa [(getL_some he).2] at this
 ·obtain ⟨e,m,he,hm⟩:=wok o nm hg
  rw [qL_some he]
  exact List.mem_map.2 ⟨_,getA_mem hm,rfl⟩
theorem WG.uq {b:Int} {n:Nat} {S:Bs->Prop} (h:WG b n S L W):Uq L W:=uq_of h.hn h.qn h.wq h.wok
theorem Sim.mem (s:Sim H Q L) {x:Has}:x∈H↔toP x∈hL L x.nm:=s.h x.o x.m x.nm
theorem Sim.qmem (s:Sim H Q L) {x:Has} (hx:x∈Q):toP x∈qL L x.nm:=by
 rw [<-s.q]
 exact List.mem_map.2 ⟨x,List.mem_filter.2 ⟨hx,by simp⟩,rfl⟩
theorem mode_cases (o:Int) (nm:Bs):∀H:List Has,(modeH o nm H=0/\∀m,(⟨o,m,nm⟩:Has)∉H)∨(⟨o,modeH o nm H,nm⟩:Has)∈H
 | []=>.inl ⟨rfl,fun _ h=>nomatch h⟩
 | h::l=>by
  unfold modeH
  by_cases c:(h.o==o && h.nm==nm)=true
  ·rw [if_pos c]
   simp only [Bool.and_eq_true,beq_iff_eq] at c
   obtain ⟨ho,m,hn⟩:=h
   simp only at c |-
   rw [<-c.1,<-c.2]
   exact .inr (by simp)
  ·rw [if_neg c]
   rcases mode_cases o nm l with ⟨h1,h2⟩ | h1
   ·refine .inl ⟨h1,fun m hm=>?_⟩
    rcases List.mem_cons.1 hm with rfl | hm
    ·simp at c
    ·exact h2 m hm
   ·exact .inr (List.mem_cons_of_mem _ h1)
theorem Sim.mode (s:Sim H Q L) (u:Uq L W) (o:Int) (nm:Bs):modeH o nm H=(getA (hL L nm) o).getD 0:=by
 rcases mode_cases o nm H with ⟨h1,h2⟩ | h1
 ·rw [h1]
  cases hg:getA (hL L nm) o with
  | none=>rfl
  | some m=>exact absurd ((s.h o m nm).2 (getA_mem hg)) (h2 m)
 ·rw [getA_of (u.hn nm) ((s.h _ _ _).1 h1)];rfl
theorem Sim.can (s:Sim H Q L) (x:Has):H.all (canH x)=canB (hL L x.nm) x.o x.m:=by
 rw [Bool.eq_iff_iff,canB_iff,List.all_eq_true]
 constructor
 ·rintro h ⟨o,m⟩ hp
  have:=h _ ((s.h o m x.nm).2 hp)
  simpa [canH] using this
 ·rintro h y hy
  unfold canH
  by_cases hn:y.nm=x.nm
  ·rcases h (toP y) (hn ▸ s.mem.1 hy) with h1 | h1
   ·simp only [toP] at h1;simp [h1]
   ·simp only [toP] at h1;simp [h1]
  ·simp [hn]
theorem Sim.first (s:Sim H Q L) (nm:Bs):(Q.find? fun h=>h.nm==nm).map toP=(qL L nm).head?/\∀x,(Q.find? fun h=>h.nm==nm)=some x->x.nm=nm:=by
 refine ⟨?_,fun x hx=>by simpa using List.find?_some hx⟩
 rw [<-s.q,List.head?_map,List.head?_filter]
theorem Sim.for_none (s:Sim H Q L) (u:Uq L W) (hg:getA W o=none):forH Q o=none:=by
 unfold forH
 rw [List.find?_eq_none]
 intro x hx ho
 have h1:=u.wq x.nm _ (s.qmem hx)
 have h2:x.o=o:=by simpa using ho
 simp only [toP] at h1
 rw [h2,hg] at h1;cases h1
theorem Sim.for_some (s:Sim H Q L) (u:Uq L W) (hg:getA W o=some nm):∃x,forH Q o=some x/\x.o=o/\x.nm=nm/\getA (qL L nm) o=some x.m:=by
 obtain ⟨p,hp,hpo⟩:=List.mem_map.1 (u.wok o nm hg)
 rw [<-s.q] at hp
 obtain ⟨y,hy,rfl⟩:=List.mem_map.1 hp
 have hy1:=(List.mem_filter.1 hy).1
 cases hf:forH Q o with
 | none =>
  unfold forH at hf
  rw [List.find?_eq_none] at hf
  exact absurd hpo (by simpa using hf y hy1)
 | some x =>
  unfold forH at hf
  have hx:=List.mem_of_find?_eq_some hf
  have hxo:x.o=o:=by simpa using List.find?_some hf
  have hq:=s.qmem hx
  have h1:=u.wq x.nm _ hq
  simp only [toP] at h1
  rw [hxo,hg] at h1
  have hn:x.nm=nm:=by cases h1;rfl
  refine ⟨x,rfl,hxo,hn,?_⟩
  rw [<-hn,<-hxo]
  exact getA_of (u.qn x.nm) hq
theorem findIdx_split:∀{pre post:HQ},(∀p∈pre,p.1≠o)->(pre++(o,m)::post).findIdx? (fun p=>p.1==o)=some pre.length
 | [],post,_=>by simp [List.findIdx?_cons]
 | p::pre,post,h=>by
  rw [List.cons_append,List.findIdx?_cons,if_neg (by simpa using h p (by simp)),findIdx_split fun x hx=>h x (by simp [hx])]
  rfl
theorem pw_eq {α:Type} {r:α->α->Prop} (irr:∀a,¬r a a) (asy:∀a b,r a b->¬r b a):∀{a b:List α},a.Pairwise r->b.Pairwise r->(∀x,x∈a↔x∈b)->a=b
 | [],[],_,_,_=>rfl
 | [],y::b,_,_,h=>absurd ((h y).2 (by simp)) (by simp)
 | x::a,[],_,_,h=>absurd ((h x).1 (by simp)) (by simp)
 | x::a,y::b,ha,hb,h=>by
  obtain ⟨ha1,ha2⟩:=List.pairwise_cons.1 ha
  obtain ⟨hb1,hb2⟩:=List.pairwise_cons.1 hb
  have hxy:x=y:=by
   rcases List.mem_cons.1 ((h x).1 (by simp)) with h1 | h1
   ·exact h1
   ·rcases List.mem_cons.1 ((h y).2 (by simp)) with h2 | h2
    ·exact h2.symm
    ·exact absurd (hb1 x h1) (asy _ _ (ha1 y h2))
  subst hxy
  congr 1
  refine pw_eq irr asy ha2 hb2 fun z=>?_
  constructor
  ·intro hz
   rcases List.mem_cons.1 ((h z).1 (by simp [hz])) with h1 | h1
   ·subst h1;exact absurd (ha1 z hz) (irr z)
   ·exact h1
  ·intro hz
   rcases List.mem_cons.1 ((h z).2 (by simp [hz])) with h1 | h1
   ·subst h1;exact absurd (hb1 z hz) (irr z)
   ·exact h1
theorem pwI {a b:List Int} (ha:a.Pairwise (· < ·)) (hb:b.Pairwise (· < ·)) (h:∀x,x∈a↔x∈b):a=b:=pw_eq (fun a=>Int.lt_irrefl a) (fun a b h h2=>by omega) ha hb h
theorem srt_pw {l:List Int} (h:l.Nodup):(srt l).Pairwise (· < ·):=by
 have h1:=List.pairwise_mergeSort (le:=fun x y:Int=>decide (x<=y)) (by intro a b c h1 h2;simp at *;omega) (by intro a b;simp;omega) l
 have h2:(srt l).Nodup:=srt_nodup h
 unfold srt at h2 |-
 exact (h1.and h2).imp fun {a b} hh=>by
  have h3:a<=b:=by simpa using hh.1
  have h4:=hh.2
  omega
theorem Sim.holders (s:Sim H Q L) (u:Uq L W) (nm:Bs):insAll [] ((H.filter fun h=>h.nm==nm).map (·.o))=holdA L nm:=by
 have e1:holdA L nm=srt (keys (hL L nm)):=by
  unfold holdA
  cases he:getL L nm with
  | none=>rw [hL_none he];exact (List.mergeSort_nil (r:=fun x y:Int=>decide (x<=y))).symm
  | some e=>rw [hL_some he]
 rw [e1]
 refine pwI (insAll_pw _ _ List.Pairwise.nil) (srt_pw (u.hn nm)) fun x=>?_
 rw [insAll_mem,srt_mem]
 constructor
 ·rintro (h | h)
  ·cases h
  ·obtain ⟨y,hy,rfl⟩:=List.mem_map.1 h
   obtain ⟨h1,h2⟩:=List.mem_filter.1 hy
   have h2:y.nm=nm:=by simpa using h2
   exact List.mem_map.2 ⟨toP y,h2 ▸ s.mem.1 h1,rfl⟩
 ·intro h
  obtain ⟨⟨o,m⟩,hp,rfl⟩:=List.mem_map.1 h
  exact .inr (List.mem_map.2 ⟨⟨o,m,nm⟩,List.mem_filter.2 ⟨(s.h _ _ _).2 hp,by simp⟩,rfl⟩)
theorem Sim.queue (s:Sim H Q L) (nm:Bs):(Q.filter fun h=>h.nm==nm).map (·.o)=queueA L nm:=by
 have e1:queueA L nm=(qL L nm).map (·.1):=by
  unfold queueA
  cases he:getL L nm with
  | none=>rw [qL_none he];rfl
  | some e=>rw [qL_some he]
 rw [e1,<-s.q,List.map_map];rfl
theorem Sim.waits (s:Sim H Q L) (u:Uq L W) (o:Int):(forH Q o).map (fun x=>(x.nm,x.m))=waitA L W o:=by
 unfold waitA
 cases hg:getA W o with
 | none=>rw [s.for_none u hg];rfl
 | some nm =>
  obtain ⟨x,h1,h2,h3,h4⟩:=s.for_some u hg
  rw [h1,Option.map_some,Option.bind_some]
  cases he:getL L nm with
  | none=>rw [qL_none he] at h4;cases h4
  | some e =>
   rw [qL_some he] at h4
   rw [Option.bind_some,h4,h3];rfl
theorem Sim.beh (s:Sim H Q L) (u:Uq L W) (o:Int):behH H Q o=behA L W o:=by
 cases hg:getA W o with
 | none =>
  have h1:=ix_none (s.for_none u hg)
  unfold behH behA
  rw [h1,hg]
 | some nm =>
  obtain ⟨x,h1,h2,h3,h4⟩:=s.for_some u hg
  obtain ⟨a,h5,h6⟩:=ix_find h1
  obtain ⟨hlt,h7,h8⟩:=List.findIdx?_eq_some_iff_getElem.1 h5
  cases he:getL L nm with
  | none=>rw [qL_none he] at h4;cases h4
  | some e =>
   have hq:=s.q nm
   have hsplit:Q=Q.take a++x::Q.drop (a+1):=by
    have:Q[a]=x:=(List.getElem?_eq_some_iff.1 h6).2
    rw [<-this,List.getElem_cons_drop,List.take_append_drop]
   have hpre:∀y∈Q.take a,y.o≠o:=by
    intro y hy
    obtain ⟨k,hk,e1⟩:=List.mem_iff_getElem.1 hy
    have hk2:k < a:=by rw [List.length_take] at hk;omega
    have:=h8 k hk2
    rw [List.getElem_take] at e1
    rw [e1] at this
    simpa using this
   have hxn:(x.nm==nm)=true:=by simp [h3]
   have hq2:e.q=((Q.take a).filter fun h=>h.nm==nm).map toP++(o,x.m)::((Q.drop (a+1)).filter fun h=>h.nm==nm).map toP:=by
    rw [<-qL_some he,<-hq]
    conv=>lhs;rw [hsplit]
    rw [List.filter_append,List.filter_cons_of_pos (p:=fun h:Has=>h.nm==nm) hxn,List.map_append,List.map_cons]
    simp only [toP,h2]
   have hix:e.q.findIdx? (fun p=>p.1==o)=some (((Q.take a).filter fun h=>h.nm==nm).map toP).length:=by
    rw [hq2]
    refine findIdx_split fun p hp=>?_
    obtain ⟨y,hy,rfl⟩:=List.mem_map.1 hp
    exact hpre y (List.mem_filter.1 hy).1
   have hgi:e.q[(((Q.take a).filter fun h=>h.nm==nm).map toP).length]? = some (o,x.m):=by
    rw [hq2,List.getElem?_append_right (Nat.le_refl _),Nat.sub_self];rfl
   have hah:aheadH Q a x=(e.q.take (((Q.take a).filter fun h=>h.nm==nm).map toP).length).map (·.1):=by
    rw [hq2,List.take_left' rfl,List.map_map,aheadH,h3];rfl
   have e1:behA L W o=behindL e.held e.q (((Q.take a).filter fun h=>h.nm==nm).map toP).length o x.m:=by
    unfold behA
    rw [hg]
    dsimp only
    rw [he]
    dsimp only
    rw [hix]
    dsimp only
    rw [hgi];rfl
   refine pwI (behH_pw H Q o) ?_ fun y=>?_
   ·rw [e1];exact srt_pw (dups_nodup _)
   ·rw [e1,behindL_mem]
    unfold behH
    rw [h5]
    dsimp only
    rw [h6]
    dsimp only
    rw [insAll_mem,insAll_mem,hah]
    have:y∈(H.filter (againstH o x)).map (·.o)↔∃p∈e.held,p.1=y/\p.1≠o/\fitsB p.2 x.m=false:=by
     constructor
     ·intro h
      obtain ⟨z,hz,rfl⟩:=List.mem_map.1 h
      obtain ⟨z1,z2⟩:=List.mem_filter.1 hz
      simp only [againstH,Bool.and_eq_true,beq_iff_eq,bne_iff_ne,Bool.not_eq_true'] at z2
      refine ⟨toP z,?_,rfl,z2.2.1,z2.2.2⟩
      rw [<-hL_some he,<-h3,<-z2.1]
      exact s.mem.1 z1
     ·rintro ⟨⟨o',m'⟩,hp,rfl,p2,p3⟩
      rw [<-hL_some he] at hp
      refine List.mem_map.2 ⟨⟨o',m',nm⟩,List.mem_filter.2 ⟨(s.h _ _ _).2 hp,?_⟩,rfl⟩
      simp only [againstH,Bool.and_eq_true,beq_iff_eq,bne_iff_ne,Bool.not_eq_true']
      exact ⟨h3.symm,p2,p3⟩
    rw [this]
    simp
theorem Sim.dead (s:Sim H Q L) (u:Uq L W) (o:Int):deadH H Q o=deadB L W o:=by
 unfold deadH deadB
 rw [show behH H Q=behA L W from funext (s.beh u)]
end
theorem lt_iff:∀a b:Bs,lt a b=true↔a < b
 | a,[]=>by cases a<;>simp [lt,Op.bytesLess]
 | [],y::b=>by simp [lt,Op.bytesLess]
 | x::a,y::b=>by
  have:=lt_iff a b
  rw [List.cons_lt_cons_iff]
  simp only [lt,Op.bytesLess] at this |-
  simp [this]
theorem bs_irr (a:Bs):¬a < a:=List.lt_irrefl a
theorem bs_asy (a b:Bs):a < b->¬b < a:=fun h1 h2=>List.lt_irrefl a (List.lt_trans h1 h2)
theorem bs_tri {a b:Bs} (h1:¬a < b) (h2:a≠b):b < a:=Classical.byContradiction fun h3=>h2 (List.le_antisymm (List.not_lt.1 h3) (List.not_lt.1 h1))
theorem insS_mem (n x:Bs):∀l,x∈insS n l↔x=n∨x∈l
 | []=>by simp [insS]
 | y::l=>by
  have ih:=insS_mem n x l
  unfold insS
  split
  ·rw [List.mem_cons,ih,List.mem_cons]
   constructor
   ·rintro (h | h | h)<;>simp [h]
   ·rintro (h | h | h)<;>simp [h]
  ·split
   ·rename_i h
    have h:y=n:=by simpa using h
    subst h
    simp
   ·simp
theorem insS_pw (n:Bs):∀l:List Bs,l.Pairwise (· < ·)->(insS n l).Pairwise (· < ·)
 | [],_=>by simp [insS]
 | y::l,h=>by
  obtain ⟨h1,h2⟩:=List.pairwise_cons.1 h
  unfold insS
  split
  ·rename_i hlt
   refine List.pairwise_cons.2 ⟨fun z hz=>?_,insS_pw n l h2⟩
   rcases (insS_mem n z l).1 hz with rfl | hz
   ·exact (lt_iff _ _).1 hlt
   ·exact h1 z hz
  ·rename_i hlt
   split
   ·exact h
   ·rename_i hne
    have hny:n < y:=bs_tri (fun hh=>hlt ((lt_iff _ _).2 hh)) (by simpa using hne)
    refine List.pairwise_cons.2 ⟨fun z hz=>?_,h⟩
    rcases List.mem_cons.1 hz with rfl | hz
    ·exact hny
    ·exact List.lt_trans hny (h1 z hz)
theorem names_mem (x:Bs):∀(l:List Has) (out:List Bs),x∈namesH out l↔x∈out∨∃h∈l,h.nm=x
 | [],out=>by simp [namesH]
 | y::l,out=>by
  have:=names_mem x l (insS y.nm out)
  unfold namesH at this |-
  rw [List.foldl_cons,this,insS_mem]
  constructor
  ·rintro ((h | h) | ⟨z,hz,h⟩)
   ·exact .inr ⟨y,by simp,h.symm⟩
   ·exact .inl h
   ·exact .inr ⟨z,by simp [hz],h⟩
  ·rintro (h | ⟨z,hz,h⟩)
   ·exact .inl (.inr h)
   ·rcases List.mem_cons.1 hz with rfl | hz
    ·exact .inl (.inl h.symm)
    ·exact .inr ⟨z,hz,h⟩
theorem names_pw:∀(l:List Has) (out:List Bs),out.Pairwise (· < ·)->(namesH out l).Pairwise (· < ·)
 | [],out,h=>h
 | y::l,out,h=>names_pw l _ (insS_pw _ _ h)
theorem srtS_pw {l:List Bs} (h:l.Nodup):(srtS l).Pairwise (· < ·):=by
 have h1:=List.pairwise_mergeSort (le:=fun x y:Bs=>decide (x<=y)) (by intro a b c h1 h2;simp only [decide_eq_true_eq] at *;exact List.le_trans h1 h2) (by intro a b;simp only [Bool.or_eq_true,decide_eq_true_eq];exact List.le_total a b) l
 have h2:(srtS l).Nodup:=(List.mergeSort_perm l _).nodup_iff.2 h
 unfold srtS at h2 |-
 exact (h1.and h2).imp fun {a b} hh=>by
  have h3:a<=b:=by simpa using hh.1
  exact bs_tri (fun h=>(List.not_lt.2 h3) h) (Ne.symm hh.2)
theorem pwS {a b:List Bs} (ha:a.Pairwise (· < ·)) (hb:b.Pairwise (· < ·)) (h:∀x,x∈a↔x∈b):a=b:=pw_eq bs_irr bs_asy ha hb h
section
variable {H Q:List Has} {L:List Lk} {W:WL} {nm:Bs} {e:Lk} {o m:Int} {b:Int} {n:Nat} {S:Bs->Prop}
theorem hL_mem {p:Int × Int} (h:p∈hL L nm):∃e∈L,e.nm=nm/\p∈e.held:=by
 cases he:getL L nm with
 | none=>rw [hL_none he] at h;cases h
 | some e=>rw [hL_some he] at h;exact ⟨e,(getL_some he).1,(getL_some he).2,h⟩
theorem qL_mem {p:Int × Int} (h:p∈qL L nm):∃e∈L,e.nm=nm/\p∈e.q:=by
 cases he:getL L nm with
 | none=>rw [qL_none he] at h;cases h
 | some e=>rw [qL_some he] at h;exact ⟨e,(getL_some he).1,(getL_some he).2,h⟩
theorem WG.pos (g:WG b n S L W) (h:getA (hL L nm) o=some m):1<=m/\m<=6:=by
 obtain ⟨e,h1,h2,h3⟩:=hL_mem (getA_mem h)
 exact g.hm e h1 _ h3
theorem Sim.mode_pos (s:Sim H Q L) (g:WG b n S L W) (o:Int) (nm:Bs):(modeH o nm H > 0↔(getA (hL L nm) o).isSome=true)/\(modeH o nm H=0↔getA (hL L nm) o=none)/\0<=modeH o nm H/\modeH o nm H < 7:=by
 rw [s.mode g.uq]
 cases hg:getA (hL L nm) o with
 | none=>simp
 | some m=>have:=g.pos hg;simp;omega
theorem heldN_eq (L:List Lk) (o:Int):∀ks:List Bs,heldN L o ks=(ks.filter fun n=>(getA (hL L n) o).isSome).map fun n=>(n,(getA (hL L n) o).getD 0)
 | []=>rfl
 | k::ks=>by
  have ih:=heldN_eq L o ks
  have e1:((getL L k).bind fun e=>getA e.held o)=getA (hL L k) o:=by
   unfold hL
   cases getL L k<;>rfl
  unfold heldN at ih |-
  rw [List.filterMap_cons,e1]
  cases hg:getA (hL L k) o with
  | none=>rw [Option.map_none,List.filter_cons_of_neg (by simp [hg])];exact ih
  | some m =>
   rw [Option.map_some,List.filter_cons_of_pos (by simp [hg]),List.map_cons,hg]
   simp only [ih];rfl
theorem Sim.held (s:Sim H Q L) (g:WG b n S L W) (o:Int):(ofH H o).map (fun h=>(h.nm,h.m))=heldA L o:=by
 unfold ofH ofN heldA
 rw [heldN_eq,List.map_map]
 have e1:(namesH [] H).filter (fun n=>decide (modeH o n H > 0))=(srtS (nms L)).filter fun n=>(getA (hL L n) o).isSome:=by
  refine pwS ((names_pw H [] List.Pairwise.nil).sublist List.filter_sublist) ((srtS_pw g.nd).sublist List.filter_sublist) fun x=>?_
  rw [List.mem_filter,List.mem_filter,decide_eq_true_eq,(s.mode_pos g o x).1,names_mem,srtS_mem]
  refine and_congr_left fun hx=>?_
  obtain ⟨m,hm⟩:=Option.isSome_iff_exists.1 hx
  constructor
  ·intro _
   obtain ⟨e,h1,h2,h3⟩:=hL_mem (getA_mem hm)
   exact List.mem_map.2 ⟨e,h1,h2⟩
  ·intro _
   exact .inr ⟨⟨o,m,x⟩,(s.h _ _ _).2 (getA_mem hm),rfl⟩
 rw [e1]
 refine List.map_congr_left fun x hx=>?_
 simp only [Function.comp,s.mode g.uq]
theorem Sim.names (s:Sim H Q L) (g:Good b n L W):namesH [] (H++Q)=srtS (nms L):=by
 refine pwS (names_pw _ [] List.Pairwise.nil) (srtS_pw g.nd) fun x=>?_
 rw [names_mem,srtS_mem]
 constructor
 ·rintro (h | ⟨y,hy,rfl⟩)
  ·cases h
  ·rcases List.mem_append.1 hy with hy | hy
   ·obtain ⟨e,h1,h2,h3⟩:=hL_mem (s.mem.1 hy)
    exact List.mem_map.2 ⟨e,h1,h2⟩
   ·obtain ⟨e,h1,h2,h3⟩:=qL_mem (s.qmem hy)
    exact List.mem_map.2 ⟨e,h1,h2⟩
 ·intro hx
  obtain ⟨e,he,rfl⟩:=List.mem_map.1 hx
  have hge:=getL_of g.nd he
  right
  rcases g.ne e he (fun f=>f) with h | h
  ·obtain ⟨⟨o,m⟩,r,hr⟩:=List.exists_cons_of_ne_nil h
   have:(⟨o,m,e.nm⟩:Has)∈H:=(s.h _ _ _).2 (by rw [hL_some hge,hr];simp)
   exact ⟨_,List.mem_append.2 (.inl this),rfl⟩
  ·obtain ⟨p,r,hr⟩:=List.exists_cons_of_ne_nil h
   have:p∈qL L e.nm:=by rw [qL_some hge,hr];simp
   rw [<-s.q] at this
   obtain ⟨y,hy,_⟩:=List.mem_map.1 this
   obtain ⟨h1,h2⟩:=List.mem_filter.1 hy
   exact ⟨y,List.mem_append.2 (.inr h1),by simpa using h2⟩
theorem Sim.of (s:Sim H Q L) {L':List Lk} (h1:∀n,hL L' n=hL L n) (h2:∀n,qL L' n=qL L n):Sim H Q L':=⟨fun o m nm=>by rw [h1];exact s.h o m nm,fun nm=>by rw [h2];exact s.q nm⟩
theorem hq_set (he:getL L nm=some e) (hs q:HQ) (n2:Bs):hL (setL L nm hs q) n2=(if n2=nm then hs else hL L n2)/\qL (setL L nm hs q) n2=(if n2=nm then q else qL L n2):=by
 by_cases h:n2=nm
 ·subst h
  rw [if_pos rfl,if_pos rfl,hL_some (getL_set he hs q),qL_some (getL_set he hs q)]
  exact ⟨rfl,rfl⟩
 ·rw [if_neg h,if_neg h]
  unfold hL qL
  rw [getL_set_ne h]
  exact ⟨rfl,rfl⟩
theorem hq_at (L:List Lk) (nm n2:Bs):hL (atL L nm) n2=hL L n2/\qL (atL L nm) n2=qL L n2:=by
 unfold atL
 cases hg:getL L nm with
 | some e=>exact ⟨rfl,rfl⟩
 | none =>
  by_cases h:n2=nm
  ·subst h
   dsimp only
   rw [hL_some (getL_add hg),qL_some (getL_add hg),hL_none hg,qL_none hg]
   exact ⟨rfl,rfl⟩
  ·have:getL (L++[newL nm]) n2=getL L n2:=by
    unfold getL
    rw [List.find?_append]
    cases List.find? (fun e=>e.nm==n2) L with
    | some e=>rfl
    | none=>simp [newL,Ne.symm h]
   unfold hL qL
   dsimp only
   rw [this]
   exact ⟨rfl,rfl⟩
theorem hq_tidy (L:List Lk) (nm n2:Bs):hL (tidyL L nm) n2=hL L n2/\qL (tidyL L nm) n2=qL L n2:=by
 unfold tidyL
 cases hg:getL L nm with
 | none=>exact ⟨rfl,rfl⟩
 | some e =>
  dsimp only
  split
  ·rename_i h
   by_cases hn:n2=nm
   ·subst hn
    have:getL (cutL L n2) n2=none:=by
     unfold getL cutL
     rw [List.find?_eq_none]
     intro x hx
     have:=(List.mem_filter.1 hx).2
     simpa using this
    rw [hL_none this,qL_none this,hL_some hg,qL_some hg,h.1,h.2]
    exact ⟨rfl,rfl⟩
   ·unfold hL qL
    rw [getL_cut_ne hn]
    exact ⟨rfl,rfl⟩
  ·exact ⟨rfl,rfl⟩
theorem wo_mem {x:Has} {H:List Has} {o' m':Int} {n2:Bs}:(⟨o',m',n2⟩:Has)∈H.filter (wo x.o x.nm false)↔(⟨o',m',n2⟩:Has)∈H/\(o'≠x.o∨n2≠x.nm):=by
 rw [List.mem_filter]
 refine and_congr_right fun _=>?_
 simp [wo]
theorem Sim.grant (s:Sim H Q L) (hn:(keys (hL L nm)).Nodup) (he:getL L nm=some e) (x:Has) (hx:x.nm=nm):Sim (holdH H x) Q (setL L nm (putA e.held x.o x.m) e.q):=by
 rw [hL_some he] at hn
 refine ⟨fun o m n2=>?_,fun n2=>?_⟩
 ·rw [(hq_set he _ _ n2).1]
  unfold holdH
  rw [List.mem_append,wo_mem,List.mem_singleton]
  by_cases h:n2=nm
  ·subst h
   rw [if_pos rfl,s.h,hL_some he]
   constructor
   ·rintro (⟨h1,h2⟩ | h1)
    ·exact put_old h1 (h2.resolve_right fun h=>h hx.symm)
    ·cases x;cases h1;exact put_mem
   ·intro h1
    rcases mem_put hn h1 with ⟨h2,h3⟩ | h2
    ·exact .inl ⟨h2,.inl h3⟩
    ·right
     cases x
     simp only at hx
     cases h2;rw [hx]
  ·rw [if_neg h,<-s.h]
   constructor
   ·rintro (⟨h1,_⟩ | h1)
    ·exact h1
    ·cases x;cases h1;exact absurd hx h
   ·exact fun h1=>.inl ⟨h1,.inr fun h2=>h (h2.trans hx)⟩
 ·rw [(hq_set he _ _ n2).2,s.q]
  by_cases h:n2=nm
  ·subst h;rw [if_pos rfl,qL_some he]
  ·rw [if_neg h]
theorem wo_all (o:Int) (Q:List Has) (nm:Bs):((Q.filter (wo o [] true)).filter fun h=>h.nm==nm).map toP=((Q.filter fun h=>h.nm==nm).map toP).filter (·.1 != o):=by
 rw [List.filter_map,List.filter_filter,List.filter_filter]
 congr 1
 refine List.filter_congr fun h _=>?_
 simp [wo,Bool.and_comm]
theorem Sim.unwait (s:Sim H Q L) (u:Uq L W) (he:getL L nm=some e) {p:Int × Int} {r:HQ} (hq:e.q=p::r):Sim H (Q.filter (wo p.1 [] true)) (setL L nm e.held r):=by
 have hu:=u.qn nm
 rw [qL_some he,hq] at hu
 refine ⟨fun o m n2=>?_,fun n2=>?_⟩
 ·rw [(hq_set he _ _ n2).1,s.h]
  by_cases h:n2=nm
  ·subst h;rw [if_pos rfl,hL_some he]
  ·rw [if_neg h]
 ·rw [(hq_set he _ _ n2).2,wo_all,s.q]
  by_cases h:n2=nm
  ·subst h
   rw [if_pos rfl,qL_some he,hq,List.filter_cons_of_neg (by simp),List.filter_eq_self.2]
   intro y hy
   have:=(List.nodup_cons.1 hu).1
   simp only [bne_iff_ne,ne_eq]
   intro e1
   exact this (List.mem_map.2 ⟨y,hy,e1⟩)
  ·rw [if_neg h,List.filter_eq_self.2]
   intro y hy
   simp only [bne_iff_ne,ne_eq]
   intro e1
   have h1:=u.wq n2 y hy
   have h2:=u.wq nm p (by rw [qL_some he,hq];simp)
   rw [e1,h2] at h1
   exact h (by cases h1;rfl)
theorem come_sim:∀(q hs:HQ) (k:Nat) (H Q:List Has) (L:List Lk) (W:WL) (e:Lk) (out:List Int),WG b n S L W->S nm->getL L nm=some e->e.q=q->e.held=hs->Sim H Q L->q.length<=k ->
  Sim (comeR nm k H Q out).1 (comeR nm k H Q out).2.1 (setL L nm (comeQ q hs).1 (comeQ q hs).2.1)/\(comeR nm k H Q out).2.2=out++(comeQ q hs).2.2
 | [],hs,k,H,Q,L,W,e,out,g,hS,he,hq,hh,s,hk=>by
  have hf:=(s.first nm).1
  rw [qL_some he,hq] at hf
  have hf:(Q.find? fun h=>h.nm==nm)=none:=by simpa using hf
  have:comeR nm k H Q out=(H,Q,out):=by
   cases k with
   | zero=>rfl
   | succ k=>unfold comeR;rw [hf]
  rw [this]
  show Sim H Q (setL L nm hs [])/\_
  rw [<-hh,<-hq,set_same g.nd he]
  exact ⟨s,by simp [hq,comeQ]⟩
 | p::q,hs,0,H,Q,L,W,e,out,g,hS,he,hq,hh,s,hk=>by simp at hk
 | p::q,hs,k+1,H,Q,L,W,e,out,g,hS,he,hq,hh,s,hk=>by
  obtain ⟨hf,hf2⟩:=s.first nm
  rw [qL_some he,hq,List.head?_cons] at hf
  obtain ⟨x,hx,hxp⟩:=omi.1 hf
  have hxn:=hf2 x hx
  have e1:x.o=p.1:=by rw [<-hxp]
  have e2:x.m=p.2:=by rw [<-hxp]
  have hc:=s.can x
  rw [hxn,hL_some he,hh,e1,e2] at hc
  unfold comeR comeQ
  rw [hx]
  dsimp only
  rw [hc]
  cases hcb:canB hs p.1 p.2 with
  | true =>
   rw [if_pos rfl,if_pos rfl]
   have g':=WG.come1 g he hq (by rw [hh];exact hcb) hS
   rw [hh] at g'
   have s1:=s.grant (g.uq.hn nm) he x hxn
   rw [hh,e1,e2] at s1
   have he1:=getL_set he (putA hs p.1 p.2) e.q
   have s2:Sim (holdH H x) (Q.filter (wo p.1 [] true)) (setL L nm (putA hs p.1 p.2) q):=by
    have g1:Uq (setL L nm (putA hs p.1 p.2) e.q) W:=by
     refine ⟨fun n2=>?_,fun n2=>?_,fun n2=>?_,fun o n2=>?_⟩
     ·rw [(hq_set he _ _ n2).1]
      split
      ·rename_i h
       have:=g.uq.hn nm
       rw [hL_some he,hh] at this
       exact nodup_put this
      ·exact g.uq.hn n2
     ·rw [(hq_set he _ _ n2).2]
      split
      ·rename_i h;have:=g.uq.qn nm;rwa [qL_some he] at this
      ·exact g.uq.qn n2
     ·rw [(hq_set he _ _ n2).2]
      split
      ·rename_i h;subst h;have:=g.uq.wq n2;rwa [qL_some he] at this
      ·exact g.uq.wq n2
     ·rw [(hq_set he _ _ n2).2]
      split
      ·rename_i h;subst h;have:=g.uq.wok o n2;rwa [qL_some he] at this
      ·exact g.uq.wok o n2
    have:=s1.unwait g1 he1 (p:=p) (r:=q) hq
    rw [set_set] at this
    exact this
   rw [e1]
   have ih:=come_sim q (putA hs p.1 p.2) k (holdH H x) (Q.filter (wo p.1 [] true)) _ _ _ (out++[p.1]) g' hS (getL_set he _ _) rfl rfl s2 (by simpa using hk)
   rw [set_set] at ih
   refine ⟨ih.1,?_⟩
   rw [ih.2,List.append_assoc];rfl
  | false =>
   rw [if_neg (by simp),if_neg (by simp)]
   dsimp only
   rw [<-hh,<-hq,set_same g.nd he]
   exact ⟨s,by simp⟩
theorem Sim.come (s:Sim H Q L) (g:WG b n S L W) (nm:Bs):Sim (comeR nm Q.length H Q []).1 (comeR nm Q.length H Q []).2.1 (comeL L W nm).1/\(comeR nm Q.length H Q []).2.2=(comeL L W nm).2.2:=by
 have hlen:(qL L nm).length<=Q.length:=by
  rw [<-s.q,List.length_map]
  exact List.length_filter_le _ _
 cases he:getL L nm with
 | none =>
  have hf:=(s.first nm).1
  rw [qL_none he] at hf
  have hf:(Q.find? fun h=>h.nm==nm)=none:=by simpa using hf
  have:comeR nm Q.length H Q []=(H,Q,[]):=by
   cases Q.length with
   | zero=>rfl
   | succ k=>unfold comeR;rw [hf]
  rw [this,come_none he]
  exact ⟨s,rfl⟩
 | some e =>
  rw [qL_some he] at hlen
  have h1:WG b n (fun x=>S x∨x=nm) L W:=g.weak (fun x hx=>.inl hx) (Nat.le_refl _)
  have:=come_sim e.q e.held Q.length H Q L W e [] h1 (.inr rfl) he rfl rfl s hlen
  rw [come_some he]
  exact ⟨this.1.of (fun n=>(hq_tidy _ _ n).1) (fun n=>(hq_tidy _ _ n).2),by simpa using this.2⟩
theorem Sim.comesAll:∀(ks:List Bs) (H Q:List Has) (L:List Lk) (W:WL) (out:List Int),Sim H Q L->WG b n (fun x=>x∈ks) L W ->
  Sim (comesR ks H Q out).1 (comesR ks H Q out).2.1 (comeAll ks L W).1/\(comesR ks H Q out).2.2=out++(comeAll ks L W).2.2
 | [],H,Q,L,W,out,s,g=>⟨s,by simp [comesR,comeAll]⟩
 | c::ks,H,Q,L,W,out,s,g=>by
  obtain ⟨h1,h2⟩:=s.come g c
  have g':=(g.come c).weak (fun x hx=>(List.mem_cons.1 hx.1).resolve_left hx.2) (Nat.le_refl _)
  obtain ⟨h3,h4⟩:=Sim.comesAll ks _ _ _ _ (out++(comeR c Q.length H Q []).2.2) h1 g'
  unfold comesR comeAll
  refine ⟨h3,?_⟩
  rw [h4,h2,List.append_assoc]
theorem hq_drop (L:List Lk) (o:Int) (n2:Bs):hL (dropL L o) n2=delA (hL L n2) o/\qL (dropL L o) n2=(qL L n2).filter (·.1 != o):=by
 unfold hL qL
 rw [getL_drop]
 cases getL L n2 with
 | none=>exact ⟨rfl,rfl⟩
 | some e=>exact ⟨rfl,rfl⟩
theorem Sim.drop (s:Sim H Q L) (g:Good b n L W) (o:Int):Sim (dropR H Q o).1 (dropR H Q o).2.1 (dropA L W o).1/\(dropR H Q o).2.2=(dropA L W o).2.2:=by
 have s1:Sim (H.filter (wo o [] true)) (Q.filter (wo o [] true)) (dropL L o):=by
  refine ⟨fun o' m n2=>?_,fun n2=>?_⟩
  ·rw [(hq_drop L o n2).1,mem_del (g.uq.hn n2),List.mem_filter,s.h]
   refine and_congr_right fun _=>?_
   simp [wo]
  ·rw [(hq_drop L o n2).2,wo_all,s.q]
 have h1:=WG.drop g o
 have hin:∀e∈dropL L o,e.nm∈srtS (nms L):=fun e he=>srtS_mem.2 (by rw [<-nms_drop (L:=L) o];exact List.mem_map.2 ⟨e,he,rfl⟩)
 have g1:WG b n (fun x=>x∈srtS (nms L)) (dropL L o) (delA W o):=⟨h1.bb,h1.nd,h1.hn,h1.qn,h1.wn,h1.wq,h1.wok,h1.tot,h1.rh,h1.rq,h1.hm,h1.qm,h1.fit,h1.nb,h1.acy,fun e he hs=>absurd (hin e he) hs,fun e he hs=>absurd (hin e he) hs⟩
 have:=Sim.comesAll (srtS (nms L)) _ _ _ _ [] s1 g1
 unfold dropR dropA
 rw [s.names g]
 exact ⟨this.1,by simpa using this.2⟩
theorem modeA_eq (L:List Lk) (o:Int) (nm:Bs):modeA L o nm=(getA (hL L nm) o).getD 0:=by
 unfold modeA hL
 cases getL L nm<;>rfl
theorem Sim.any (s:Sim H Q L) (u:Uq L W) (o:Int) (nm:Bs):(forH Q o).any (fun x=>x.nm==nm)=true↔getA W o=some nm:=by
 cases hg:getA W o with
 | none=>rw [s.for_none u hg];simp
 | some n2 =>
  obtain ⟨x,h1,h2,h3,h4⟩:=s.for_some u hg
  rw [h1]
  simp [h3]
theorem Sim.free (s:Sim H Q L) (g:Good b n L W) (o:Int) (nm:Bs):Sim (freeR H Q o nm).2.1 (freeR H Q o nm).2.2.1 (freeA L W o nm).2.1/\(freeR H Q o nm).2.2.2=(freeA L W o nm).2.2.2/\(freeR H Q o nm).1=(freeA L W o nm).1:=by
 unfold freeR freeA
 rw [modeA_eq,s.mode g.uq]
 by_cases h0:(getA (hL L nm) o).getD 0=0
 ·rw [if_pos h0,if_pos h0];exact ⟨s,rfl,rfl⟩
 ·rw [if_neg h0,if_neg h0]
  by_cases h1:getA W o=some nm
  ·rw [if_pos h1,if_pos ((s.any g.uq o nm).2 h1)];exact ⟨s,rfl,rfl⟩
  ·rw [if_neg h1,if_neg fun h=>h1 ((s.any g.uq o nm).1 h)]
   cases he:getL L nm with
   | none=>rw [hL_none he] at h0;exact absurd rfl h0
   | some e =>
    dsimp only
    have g1:=Good.free1 g he h1
    have s1:Sim (H.filter (wo o nm false)) Q (setL L nm (delA e.held o) e.q):=by
     refine ⟨fun o' m n2=>?_,fun n2=>?_⟩
     ·have:=wo_mem (x:=⟨o,0,nm⟩) (H:=H) (o':=o') (m':=m) (n2:=n2)
      simp only at this
      rw [(hq_set he _ _ n2).1,this,s.h]
      by_cases h:n2=nm
      ·subst h
       have hn:=g.uq.hn n2
       rw [hL_some he] at hn
       rw [if_pos rfl,mem_del hn,hL_some he]
       simp
      ·rw [if_neg h];simp [h]
     ·rw [(hq_set he _ _ n2).2,s.q]
      by_cases h:n2=nm
      ·subst h;rw [if_pos rfl,qL_some he]
      ·rw [if_neg h]
    obtain ⟨h2,h3⟩:=s1.come g1 nm
    exact ⟨h2,h3,rfl⟩
end
section
variable {H Q:List Has} {L:List Lk} {W:WL} {nm:Bs} {e:Lk} {o m:Int} {b:Int} {n:Nat} {S:Bs->Prop}
theorem lead_app {held:HQ}:∀{a c:HQ},(∀p∈a,(getA held p.1).getD 0≠0)->(∀p r,c=p::r->(getA held p.1).getD 0=0)->leadN held (a++c)=a.length
 | [],c,_,h=>by
  cases c with
  | nil=>rfl
  | cons p r =>
   show leadN held (p::r)=0
   unfold leadN
   rw [if_neg fun hh=>hh (h p r rfl)]
 | p::a,c,h1,h2=>by
  rw [List.cons_append]
  unfold leadN
  rw [if_pos (h1 p (by simp)),lead_app (fun x hx=>h1 x (by simp [hx])) h2];rfl
theorem stay_split (H Q:List Has) (x:Has) (holds:Bool):∃pre post,Q=pre++post/\stayQ H Q x holds=pre++x::post /\
  (holds=false->post=[])/\(holds=true->(∀w∈pre,freshW H x w=false)/\∀w r,post=w::r->freshW H x w=true):=by
 refine ⟨Q.take (atR H x holds Q 0 Q.length),Q.drop (atR H x holds Q 0 Q.length),(List.take_append_drop _ _).symm,rfl,?_,?_⟩
 ·intro h
  unfold atR
  rw [h];simp
 ·intro h
  unfold atR
  rw [h,if_pos rfl]
  cases hf:Q.findIdx? (freshW H x) with
  | none =>
   rw [Option.map_none,Option.getD_none,List.take_length,List.drop_length]
   exact ⟨fun w hw=>List.findIdx?_eq_none_iff.1 hf w hw,fun w r h=>by cases h⟩
  | some a =>
   obtain ⟨hlt,h1,h2⟩:=List.findIdx?_eq_some_iff_getElem.1 hf
   rw [Option.map_some,Option.getD_some,Nat.zero_add]
   refine ⟨fun w hw=>?_,fun w r hw=>?_⟩
   ·obtain ⟨k,hk,e1⟩:=List.mem_iff_getElem.1 hw
    have hk2:k < a:=by rw [List.length_take] at hk;omega
    rw [List.getElem_take] at e1
    have:=h2 k hk2
    rw [e1] at this
    simpa using this
   ·have:=congrArg (·[0]?) hw
    simp only [List.getElem?_drop,Nat.add_zero,List.getElem?_cons_zero] at this
    rw [List.getElem?_eq_getElem hlt] at this
    cases this
    exact h1
theorem Sim.stay (s:Sim H Q L) (g:WG b n S L W) (he:getL L nm=some e) (w:Int):Sim H (stayQ H Q ⟨o,w,nm⟩ (decide (modeH o nm H > 0))) (setL L nm e.held (insQ e o w)):=by
 obtain ⟨pre,post,h1,h2,h3,h4⟩:=stay_split H Q ⟨o,w,nm⟩ (decide (modeH o nm H > 0))
 rw [h2]
 refine ⟨fun o' m n2=>?_,fun n2=>?_⟩
 ·rw [(hq_set he _ _ n2).1,s.h]
  by_cases h:n2=nm
  ·subst h;rw [if_pos rfl,hL_some he]
  ·rw [if_neg h]
 ·rw [(hq_set he _ _ n2).2]
  have hq:=s.q n2
  rw [h1,List.filter_append,List.map_append] at hq
  by_cases h:n2=nm
  ·subst h
   rw [qL_some he] at hq
   rw [if_pos rfl,List.filter_append,List.filter_cons_of_pos (by simp),List.map_append,List.map_cons]
   have hp:placeN e o=((pre.filter fun h=>h.nm==n2).map toP).length:=by
    unfold placeN
    have hm:=(s.mode_pos g o n2).1
    rw [hL_some he] at hm
    cases hg:getA e.held o with
    | none =>
     rw [hg] at hm
     have:=h3 (decide_eq_false fun h=>by simpa using hm.1 h)
     subst this
     dsimp only
     rw [<-hq];simp
    | some m0 =>
     rw [hg] at hm
     obtain ⟨h5,h6⟩:=h4 (decide_eq_true (hm.2 rfl))
     dsimp only
     rw [<-hq]
     refine lead_app (fun p hp=>?_) fun p r hr=>?_
     ·obtain ⟨y,hy,rfl⟩:=List.mem_map.1 hp
      obtain ⟨y1,y2⟩:=List.mem_filter.1 hy
      have:=h5 y y1
      unfold freshW at this
      rw [show (y.nm==n2)=true from y2,Bool.true_and] at this
      have y3:y.nm=n2:=by simpa using y2
      rw [y3,s.mode g.uq,hL_some he] at this
      simpa using this
     ·cases post with
      | nil=>simp at hr
      | cons z post =>
       have:=h6 z post rfl
       unfold freshW at this
       simp only [Bool.and_eq_true] at this
       rw [List.filter_cons_of_pos (p:=fun h:Has=>h.nm==n2) this.1,List.map_cons] at hr
       cases hr
       have z2:=this.2
       have z3:z.nm=n2:=by simpa using this.1
       rw [z3,s.mode g.uq,hL_some he] at z2
       simpa using z2
   unfold insQ
   rw [hp,<-hq,List.take_left' rfl,List.drop_left' rfl]
  ·rw [if_neg h,<-hq,List.filter_append,List.filter_cons_of_neg (by simp [Ne.symm h]),List.map_append]
theorem Sim.ask (s:Sim H Q L) (g:Good b n L W) (o:Int) (nm:Bs) (m:Int):(askR H Q o nm m).1=(askA L W o nm m).1/\Sim (askR H Q o nm m).2.1 (askR H Q o nm m).2.2 (askA L W o nm m).2.1:=by
 have ga:=WG.at g nm
 have sa:Sim H Q (atL L nm):=s.of (fun n=>(hq_at L nm n).1) fun n=>(hq_at L nm n).2
 obtain ⟨e,he,_⟩:=atL_get L nm
 unfold askR askA
 by_cases h1:o < 0∨m < 1∨6 < m
 ·rw [if_pos h1,if_pos (show o < 0∨m<=0∨m ≥ 7 by omega)];exact ⟨rfl,s⟩
 rw [if_neg h1,if_neg (show ¬(o < 0∨m<=0∨m ≥ 7) by omega)]
 cases hg:getA W o with
 | some n2 =>
  obtain ⟨x,h2,_⟩:=s.for_some g.uq hg
  rw [h2,if_pos (show (some x).isSome=true from rfl),if_pos (show some n2≠none by simp)]
  exact ⟨rfl,s⟩
 | none =>
  rw [s.for_none g.uq hg,if_neg (show ¬(none:Option Has).isSome=true by simp),if_neg (show ¬(none:Option Bs)≠none by simp),he]
  dsimp only
  obtain ⟨p1,p2,p3,p4⟩:=sa.mode_pos ga o nm
  have hmode:=sa.mode ga.uq o nm
  rw [hL_some he] at p1 p2 hmode
  have hj:=join_eq ⟨p3,p4⟩ (show 1<=m/\m<=6 by omega)
  rw [show (outF (modeH o nm H) m 7 0).1=joinB (modeH o nm H) m by rw [hj]]
  have p1':(modeH o nm H > 0)=((getA e.held o).isSome=true):=propext p1
  have hc:=sa.can ⟨o,joinB (modeH o nm H) m,nm⟩
  rw [hL_some he] at hc
  have hf:(Q.find? (fun h=>h.nm==nm)=none)=(e.q=[]):=by
   have:=(sa.first nm).1
   rw [qL_some he] at this
   apply propext
   rw [<-Option.map_eq_none_iff (f:=toP),this,List.head?_eq_none_iff]
  have hst:=Sim.stay (o:=o) sa ga he (joinB (modeH o nm H) m)
  have hgr:=sa.grant (ga.uq.hn nm) he ⟨o,joinB (modeH o nm H) m,nm⟩ rfl
  simp only [hc,hf,p1'] at hst |-
  rw [<-hmode]
  by_cases c1:(getA e.held o).isSome=true/\joinB (modeH o nm H) m=modeH o nm H
  ·rw [if_pos c1,if_pos c1];exact ⟨rfl,sa⟩
  ·rw [if_neg c1,if_neg c1]
   by_cases c2:canB e.held o (joinB (modeH o nm H) m)=true/\((getA e.held o).isSome=true∨e.q=[])
   ·rw [if_pos c2,if_pos c2];exact ⟨rfl,hgr⟩
   ·rw [if_neg c2,if_neg c2]
    have hat:atL (atL L nm) nm=atL L nm:=atL_at
    unfold stayR stayA
    rw [hat,he]
    dsimp only
    obtain ⟨q1,q2,q3,q4,q5⟩:=stay_pre (m:=joinB (modeH o nm H) m) ga he hg
    have u2:Uq (setL (atL L nm) nm e.held (insQ e o (joinB (modeH o nm H) m))) (putA W o nm):=by
     refine uq_of ?_ q2 q3 q4
     intro x hx
     rcases mem_set hx with rfl | ⟨hx,_⟩
     ·exact ga.hn e (getL_some he).1
     ·exact ga.hn x hx
    rw [hst.dead u2 o]
    cases deadB (setL (atL L nm) nm e.held (insQ e o (joinB (modeH o nm H) m))) (putA W o nm) o with
    | true=>rw [if_pos rfl,if_pos rfl];exact ⟨rfl,sa⟩
    | false=>rw [if_neg (by simp),if_neg (by simp)];exact ⟨rfl,hst⟩
def Sh (H Q:List Has):Prop:=∀h:Has,h∈H∨h∈Q->h.nm.length<=20
theorem hold_mem {h x:Has} (hh:h∈holdH H x):h∈H∨h=x:=by
 unfold holdH at hh
 rcases List.mem_append.1 hh with h1 | h1
 ·exact .inl (List.mem_filter.1 h1).1
 ·exact .inr (by simpa using h1)
theorem stay_mem {h x:Has} {holds:Bool} (hh:h∈stayQ H Q x holds):h∈Q∨h=x:=by
 obtain ⟨pre,post,h1,h2,_⟩:=stay_split H Q x holds
 rw [h2] at hh
 rw [h1,List.mem_append]
 rcases List.mem_append.1 hh with h3 | h3
 ·exact .inl (.inl h3)
 ·rcases List.mem_cons.1 h3 with h3 | h3
  ·exact .inr h3
  ·exact .inl (.inr h3)
theorem come_mem (nm:Bs):∀(k:Nat) (H Q:List Has) (out:List Int) (h:Has),h∈(comeR nm k H Q out).1∨h∈(comeR nm k H Q out).2.1->h∈H∨h∈Q
 | 0,H,Q,out,h,hh=>hh
 | k+1,H,Q,out,h,hh=>by
  unfold comeR at hh
  cases hf:Q.find? (fun h=>h.nm==nm) with
  | none=>rw [hf] at hh;exact hh
  | some x =>
   rw [hf] at hh
   dsimp only at hh
   have hx:=List.mem_of_find?_eq_some hf
   split at hh
   ·rcases come_mem nm k _ _ _ h hh with h1 | h1
    ·rcases hold_mem h1 with h2 | h2
     ·exact .inl h2
     ·exact .inr (h2 ▸ hx)
    ·exact .inr (List.mem_filter.1 h1).1
   ·exact hh
theorem Sh.ask (h:Sh H Q) (o:Int) (nm:Bs) (hn:nm.length<=20) (m:Int):Sh (askR H Q o nm m).2.1 (askR H Q o nm m).2.2:=by
 unfold askR
 split
 ·exact h
 split
 ·exact h
 split
 ·exact h
 split
 ·intro x hx
  rcases hx with hx | hx
  ·rcases hold_mem hx with h1 | h1
   ·exact h x (.inl h1)
   ·rw [h1];exact hn
  ·exact h x (.inr hx)
 ·unfold stayR
  split
  ·exact h
  ·intro x hx
   rcases hx with hx | hx
   ·exact h x (.inl hx)
   ·rcases stay_mem hx with h1 | h1
    ·exact h x (.inr h1)
    ·rw [h1];exact hn
theorem Sh.free (h:Sh H Q) (o:Int) (nm:Bs):Sh (freeR H Q o nm).2.1 (freeR H Q o nm).2.2.1:=by
 unfold freeR
 split
 ·exact h
 split
 ·exact h
 ·intro x hx
  rcases come_mem _ _ _ _ _ x hx with h1 | h1
  ·exact h x (.inl (List.mem_filter.1 h1).1)
  ·exact h x (.inr h1)
theorem comes_mem:∀(ks:List Bs) (H Q:List Has) (out:List Int) (h:Has),h∈(comesR ks H Q out).1∨h∈(comesR ks H Q out).2.1->h∈H∨h∈Q
 | [],H,Q,out,h,hh=>hh
 | k::ks,H,Q,out,h,hh=>come_mem _ _ _ _ _ h (comes_mem ks _ _ _ h hh)
theorem Sh.drop (h:Sh H Q) (o:Int):Sh (dropR H Q o).1 (dropR H Q o).2.1:=by
 intro x hx
 rcases comes_mem _ _ _ _ x hx with h1 | h1
 ·exact h x (.inl (List.mem_filter.1 h1).1)
 ·exact h x (.inr (List.mem_filter.1 h1).1)
theorem ask_len (H Q:List Has) (o:Int) (nm:Bs) (m:Int):(askR H Q o nm m).2.1.length+(askR H Q o nm m).2.2.length<=H.length+Q.length+1:=by
 unfold askR
 split
 ·dsimp only;omega
 split
 ·dsimp only;omega
 split
 ·dsimp only;omega
 split
 ·have:=holdH_len H ⟨o,(outF (modeH o nm H) m 7 0).1,nm⟩
  dsimp only;omega
 ·unfold stayR
  split
  ·dsimp only;omega
  ·obtain ⟨pre,post,h1,h2,_⟩:=stay_split H Q ⟨o,(outF (modeH o nm H) m 7 0).1,nm⟩ (decide (modeH o nm H > 0))
   dsimp only
   rw [h2]
   have:=congrArg List.length h1
   simp at this |-;omega
theorem free_len (H Q:List Has) (o:Int) (nm:Bs):(freeR H Q o nm).2.1.length+(freeR H Q o nm).2.2.1.length<=H.length+Q.length:=by
 unfold freeR
 split
 ·exact Nat.le_refl _
 split
 ·exact Nat.le_refl _
 ·have:=(comeR_len nm Q.length (H.filter (wo o nm false)) Q []).1
  have:=List.length_filter_le (wo o nm false) H
  dsimp only;omega
theorem comes_len:∀(ks:List Bs) (H Q:List Has) (out:List Int),(comesR ks H Q out).1.length+(comesR ks H Q out).2.1.length<=H.length+Q.length
 | [],H,Q,out=>Nat.le_refl _
 | k::ks,H,Q,out=>by
  have h1:=comes_len ks (comeR k Q.length H Q []).1 (comeR k Q.length H Q []).2.1 (out++(comeR k Q.length H Q []).2.2)
  have h2:=(comeR_len k Q.length H Q []).1
  unfold comesR
  omega
theorem drop_len (H Q:List Has) (o:Int):(dropR H Q o).1.length+(dropR H Q o).2.1.length<=H.length+Q.length:=by
 have h1:=comes_len (namesH [] (H++Q)) (H.filter (wo o [] true)) (Q.filter (wo o [] true)) []
 have h2:=List.length_filter_le (wo o [] true) H
 have h3:=List.length_filter_le (wo o [] true) Q
 unfold dropR
 omega
end
structure Op where
 kind:Int
 owner:Int
 name:Bs
 mode:Int
def opV (o:Op):V:=.agg [.int .i64 o.kind,.int .i64 o.owner,.str o.name,.int .i64 o.mode]
theorem dO (o:Op) (k:Int->Int->Bs->Int->R):d30 (opV o) k=k o.kind o.owner o.name o.mode:=rfl
def cutT (s:Bs):Bs:=s.take ((if 20 < (s.length:Int) then 20 else (s.length:Int)).toNat)
theorem cut_len (s:Bs):(cutT s).length<=20:=by
 unfold cutT
 rw [List.length_take]
 split<;>omega
theorem cut_nm (s:Bs):Nm (cutT s):=by have:=cut_len s;unfold Nm;omega
theorem cut_fold (s:Bs):s.take ((if 20 < (s.length:Int) then 20 else (s.length:Int)).toNat)=cutT s:=rfl
theorem gc1 (s:Bs):decide (0<=(if 20 < (s.length:Int) then 20 else (s.length:Int)))=true:=decide_eq_true (by split<;>omega)
theorem gc2 (s:Bs):decide ((if 20 < (s.length:Int) then 20 else (s.length:Int)).toNat<=s.length)=true:=decide_eq_true (by split<;>omega)
theorem op_get {ops:List Op} {i:Nat} {o:Op} (h:ops[i]? = some o) (q:V->R):idxK (ops.map opV) ((i:Int)).toNat q=q (opV o):=idxK_c h
abbrev mm (els:List V) (ms:List (List (V × V))) (lk ws:List (V × V)) (H Q:List V):List O:=[.arena 66 els,.marena 63 ms,.box 38 (.agg [.mp 4,.mp 5]) false,.box 28 (.agg [.tail 6 0,.tail 7 0]) false,.map lk,.map ws,.row 54 H 0,.row 54 Q 0]
theorem d50h (p:Bs × Int) (k:Bs->Int->R):d50 (hoV p) k=k p.1 p.2:=rfl
theorem dFor (x:Has) (b:Bool) (k:Int->Int->Bs->Bool->R):d55 (.tup [hV x,.bool b]) k=k x.o x.m x.nm b:=rfl
theorem ho_get {l:List (Bs × Int)} {k:Nat} {p:Bs × Int} (h:l[k]? = some p) (q:V->R):idxK (l.map hoV) k q=q (hoV p):=idxK_c h
section
variable {els:List V} {ms:List (List (V × V))} {lk ws:List (V × V)} {ix:Bs->Nat} {H Q:List Has} {L:List Lk} {W:WL} {b:Int} {n:Nat}
theorem same_end (s:Sim H Q L) (r:Rep els ms lk ws ix L W) (g:Good b n L W) (hn:n<=3000) (hl:H.length+Q.length<=3000) (o:Int) (nm:Bs) (k:Int) (x10 m8:List V) (hk:¬k < (m8.length:Int)) :
  ∃m:List O,s6_0 o nm x10 k els ms lk ws (rowsV H) (rowsV Q) m8=some (.doneM (.bool true) (mm els ms lk ws (rowsV H) (rowsV Q)++[.row 50 m8 0,.row 3 (ints (behA L W o)) 0,.row 3 (ints (behA L W o)) 0,.row 3 (ints (holdA L nm)) 0,.row 3 (ints (queueA L nm)) 0])):=by
 refine ⟨[],?_⟩
 have hb:=beh_at r g hn o
 have hm:=mode_ok r o nm
 rw [modeA_eq,<-s.mode g.uq] at hm
 have hbl:(behA L W o).length<=100000:=by
  have:=behA_len (W:=W) (g.szN (N:=4000) (by omega) (by omega)) o;omega
 have hhl:(holdA L nm).length<=100000:=by
  rw [<-s.holders g.uq]
  have:=insAll_len ((H.filter fun h=>h.nm==nm).map (·.o)) []
  have h2:=List.length_filter_le (fun h:Has=>h.nm==nm) H
  rw [List.length_map] at this
  simp only [List.length_nil,Nat.zero_add] at this
  omega
 have hql:(queueA L nm).length<=100000:=by
  rw [<-s.queue]
  have h2:=List.length_filter_le (fun h:Has=>h.nm==nm) Q
  rw [List.length_map]
  omega
 have k20:∀q:V->R,pcK cfgB 20 [.ref (.agg [.sl (rowsV H),.sl (rowsV Q)]) 0,.int .i64 o,.str nm] q=q (.int .i64 (modeH o nm H)):=fun q=>pcK_of (rmode_ok H Q (by omega) o nm)
 have k22:∀q:V->R,pcK cfgB 22 [.ref (.agg [.sl (rowsV H),.sl (rowsV Q)]) 0,.int .i64 o] q=q (.fr 3 (ints (behA L W o))):=fun q=>pcK_of (by rw [<-s.beh g.uq];exact rbehind_ok H Q (by omega) o)
 have k24:∀q:V->R,pcK cfgB 24 [.ref (.agg [.sl (rowsV H),.sl (rowsV Q)]) 0,.str nm] q=q (.fr 3 (ints (holdA L nm))):=fun q=>pcK_of (by rw [<-s.holders g.uq];exact rholders_ok H Q (by omega) nm)
 have k26:∀q:V->R,pcK cfgB 26 [.ref (.agg [.sl (rowsV H),.sl (rowsV Q)]) 0,.str nm] q=q (.fr 3 (ints (queueA L nm))):=fun q=>pcK_of (by rw [<-s.queue];exact rqueue_ok H Q (by omega) nm)
 have kI:∀(l:List Int),l.length<=100000->∀q:V->R,pcK cfgB 12 [.sl (ints l),.sl (ints l)] q=q (.bool true):=fun l hl q=>pcK_of (by have:=intsR_ok l l hl;rwa [beq_self_eq_true] at this)
 unfold s6_0
 rw [decide_eq_false hk,cond_false,icM_of mk19_inj hm]
 dsimp only
 rw [k20,kI_mk,beq_self_eq_true,cond_true,hb,opt_mk,k22,kF_mk]
 change pcK cfgB 12 [.sl (ints (behA L W o)),.sl (ints (behA L W o))] _=_
 rw [kI _ hbl,kB_mk,cond_true,icM_of mk23_inj (holders_at r g hn nm)]
 dsimp only
 rw [k24,kF_mk,kI _ hhl,kB_mk,cond_true,icM_of mk25_inj (queue_at r g hn nm)]
 dsimp only
 rw [k26,kF_mk,kI _ hql,kB_mk]
 rfl
theorem same_loop (s:Sim H Q L) (r:Rep els ms lk ws ix L W) (g:Good b n L W) (hn:n<=3000) (hl:H.length+Q.length<=3000) (o:Int) (nm:Bs) (ol:List Has) (hol:ol.length<=90000) (mem0:List O) (res:V × List O)
  (fin:GoN kcB 8 fa6 ⟨false,false⟩ mem0 (.doneM (.bool true) (mm els ms lk ws (rowsV H) (rowsV Q)++[.row 50 ((ol.map fun h=>(h.nm,h.m)).map hoV) 0,.row 3 (ints (behA L W o)) 0,.row 3 (ints (behA L W o)) 0,.row 3 (ints (holdA L nm)) 0,.row 3 (ints (queueA L nm)) 0])) res) :
  ∀(rr:List Has) (k:Nat),ol.drop k=rr->GoN kcB 8 fa6 ⟨false,false⟩ mem0 (.head 0 (T6_0 o nm (rowsV ol) (k:Int) els ms lk ws (rowsV H) (rowsV Q) ((ol.map fun h=>(h.nm,h.m)).map hoV))) res
 | [],k,h=>by
  have h0:=List.drop_eq_nil_iff.1 h
  obtain ⟨_,hm⟩:=same_end s r g hn hl o nm (k:Int) (rowsV ol) ((ol.map fun h=>(h.nm,h.m)).map hoV) (by simp;omega)
  exact GoN.step (fun o'=>s6_0_run _ _ _ _ _ _ _ _ _ _ _ hm) fin
 | x::rr,k,h=>by
  obtain ⟨h1,h2,h3⟩:=drop_get h
  refine GoN.step (fun o'=>s6_0_run _ _ _ _ _ _ _ _ _ _ _ ?_) (same_loop s r g hn hl o nm ol hol mem0 res fin rr (k+1) h2)
  have hp:(ol.map fun h=>(h.nm,h.m))[k]? = some (x.nm,x.m):=by rw [List.getElem?_map,h1];rfl
  have hg1:∀q:R,gd (decide (0<=(k:Int))) q=q:=fun q=>gd_of (by simp)
  have hg2:∀q:R,gd (decide (((k:Int)).toNat < ((ol.map fun h=>(h.nm,h.m)).map hoV).length)) q=q:=fun q=>gd_of (decide_eq_true (by simp;omega))
  have hx:∀q:V->R,idxK (rowsV ol) ((k:Int)).toNat q=q (hV x):=fun q=>rows_get (by rw [toNat_cast];exact h1) q
  have hy:∀q:V->R,idxK ((ol.map fun h=>(h.nm,h.m)).map hoV) ((k:Int)).toNat q=q (hoV (x.nm,x.m)):=fun q=>ho_get (by rw [toNat_cast];exact hp) q
  unfold s6_0
  rw [decide_eq_true (by simp;omega),cond_true]
  simp only [hg1,hg2,hx,hy,d50h,dHas,beq_self_eq_true,Bool.not_true,cond_false,bne_self_eq_false,wN k (by omega)]
theorem same_ok (s:Sim H Q L) (r:Rep els ms lk ws ix L W) (g:Good b n L W) (hn:n<=3000) (hl:H.length+Q.length<=3000) (sh:Sh H Q) (o:Int) (nm:Bs) :
  icC cfgB ⟨false,false⟩ 6 [.ptr 2 0 0,.ptr 3 0 0,.int .i64 o,.str nm] (mm els ms lk ws (rowsV H) (rowsV Q))=some (mk6 (true,els,ms,lk,ws,rowsV H,rowsV Q)):=by
 have hh:=s.held g o
 have hof:(ofH H o).length<=90000:=by
  have h1:(ofH H o).length<=(namesH [] H).length:=by unfold ofH ofN;rw [List.length_map];exact List.length_filter_le _ _
  have h2:=namesH_len H []
  simp only [List.length_nil,Nat.zero_add] at h2
  omega
 have hw:=s.waits g.uq o
 have k15:=held_at r g hn o
 rw [<-hh] at k15
 refine e6_run _ _ _ _ _ _ _ _ (o:=.head 0 (T6_0 o nm (rowsV (ofH H o)) 0 els ms lk ws (rowsV H) (rowsV Q) (((ofH H o).map fun h=>(h.nm,h.m)).map hoV))) ?_ (same_loop s r g hn hl o nm (ofH H o) hof _ _ (.done (by kernel_rfl)) _ 0 rfl)
 have k17:=waits_at r g hn o
 have e1:((waitA L W o).getD ([],0)).1=((forH Q o).getD ⟨0,0,[]⟩).nm:=by rw [<-hw];cases forH Q o<;>rfl
 have e2:((waitA L W o).getD ([],0)).2=((forH Q o).getD ⟨0,0,[]⟩).m:=by rw [<-hw];cases forH Q o<;>rfl
 have e3:(waitA L W o).isSome=(forH Q o).isSome:=by rw [<-hw];cases forH Q o<;>rfl
 rw [e1,e2,e3] at k17
 have k16:∀q:V->R,pcK cfgB 16 [.ref (.agg [.sl (rowsV H),.sl (rowsV Q)]) 0,.int .i64 o] q=q (.fr 54 (rowsV (ofH H o))):=fun q=>pcK_of (rof_ok H Q (by omega) (fun h hh=>by have:=sh h (.inl hh);omega) o)
 have k18:∀q:V->R,pcK cfgB 18 [.ref (.agg [.sl (rowsV H),.sl (rowsV Q)]) 0,.int .i64 o] q=q (.tup [hV ((forH Q o).getD ⟨0,0,[]⟩),.bool (forH Q o).isSome]):=fun q=>pcK_of (rfor_ok H Q (by omega) o)
 have hlen:((((((ofH H o).map fun h=>(h.nm,h.m)).map hoV).length:Int)) != ((rowsV (ofH H o)).length:Int))=false:=by rw [rows_len];simp
 unfold e6
 rw [icM_of mk15_inj k15]
 dsimp only
 rw [k16,kF_mk,icM_of mk17_inj k17]
 dsimp only
 rw [k18,dFor,hlen,cond_false,beq_self_eq_true,Bool.not_true,cond_false,beq_self_eq_true,Bool.not_true,cond_false,bne_self_eq_false,cond_false]
noncomputable def playL (L:List Lk) (W:WL) (k o:Int) (nm:Bs) (m:Int):List Lk × WL :=
 if k=0 then (askA L W o nm m).2 else if k=1 then ((freeA L W o nm).2.1,(freeA L W o nm).2.2.1) else ((dropA L W o).1,(dropA L W o).2.1)
noncomputable def playH (H Q:List Has) (k o:Int) (nm:Bs) (m:Int):List Has × List Has :=
 if k=0 then (askR H Q o nm m).2 else if k=1 then ((freeR H Q o nm).2.1,(freeR H Q o nm).2.2.1) else ((dropR H Q o).1,(dropR H Q o).2.1)
theorem play_sim (s:Sim H Q L) (g:Good b n L W) (sh:Sh H Q) {o:Int} (ho:o < b) (k:Int) (nm:Bs) (hnm:nm.length<=20) (m:Int) :
  Sim (playH H Q k o nm m).1 (playH H Q k o nm m).2 (playL L W k o nm m).1/\Good b (n+1) (playL L W k o nm m).1 (playL L W k o nm m).2/\Sh (playH H Q k o nm m).1 (playH H Q k o nm m).2 /\
   (playH H Q k o nm m).1.length+(playH H Q k o nm m).2.length<=H.length+Q.length+1:=by
 unfold playL playH
 by_cases h0:k=0
 ·simp only [if_pos h0]
  exact ⟨(s.ask g o nm m).2,g.ask ho nm m,sh.ask o nm hnm m,ask_len H Q o nm m⟩
 ·simp only [if_neg h0]
  by_cases h1:k=1
  ·simp only [if_pos h1]
   exact ⟨(s.free g o nm).1,(Good.free g o nm).more (by omega),sh.free o nm,by have:=free_len H Q o nm;omega⟩
  ·simp only [if_neg h1]
   exact ⟨(s.drop g o).1,(Good.drop g o).more (by omega),sh.drop o,by have:=drop_len H Q o;omega⟩
theorem play_ok (s:Sim H Q L) (r:Rep els ms lk ws ix L W) (g:Good b n L W) (hn:n<=3000) (hl:H.length+Q.length<=3000) (sh:Sh H Q) (op:Op) (ho:I64 op.owner) :
  ∃els' ms' lk' ix',icC cfgB ⟨false,false⟩ 5 [.ptr 2 0 0,.ptr 3 0 0,opV op] (mm els ms lk ws (rowsV H) (rowsV Q)) =
   some (mk5 (true,els',ms',lk',(playL L W op.kind op.owner (cutT op.name) op.mode).2.map wE,rowsV (playH H Q op.kind op.owner (cutT op.name) op.mode).1,rowsV (playH H Q op.kind op.owner (cutT op.name) op.mode).2)) /\
   Rep els' ms' lk' ((playL L W op.kind op.owner (cutT op.name) op.mode).2.map wE) ix' (playL L W op.kind op.owner (cutT op.name) op.mode).1 (playL L W op.kind op.owner (cutT op.name) op.mode).2:=by
 have hcn:=cut_nm op.name
 have kI:∀(l:List Int),l.length<=100000->∀q:V->R,pcK cfgB 12 [.sl (ints l),.sl (ints l)] q=q (.bool true):=fun l hl q=>pcK_of (by have:=intsR_ok l l hl;rwa [beq_self_eq_true] at this)
 unfold playL playH
 by_cases h0:op.kind=0
 ·simp only [if_pos h0]
  obtain ⟨els',ms',lk',ix',k1,r'⟩:=ask_at r g hn op.owner ho (cutT op.name) op.mode
  have k2:=rask_ok (els:=els') (ms:=ms') H Q (by omega) op.owner (cutT op.name) op.mode
  obtain ⟨q1,q2⟩:=s.ask g op.owner (cutT op.name) op.mode
  refine ⟨els',ms',lk',ix',e5_run _ _ _ _ _ _ _ _ _ _ (o:=.doneM (.bool true) ?m1) ?h1 (.done ?n1),r'⟩
  case h1 =>
   unfold e5
   rw [gc1,gd_true,gc2,gd_true,ibeq_t h0,cond_true,cut_fold,icM_of mk8_inj k1]
   dsimp only
   rw [icM_of mk9_inj k2]
   dsimp only
   rw [q1,beq_self_eq_true]
  case n1=>kernel_rfl
 ·simp only [if_neg h0]
  by_cases h1:op.kind=1
  ·simp only [if_pos h1]
   obtain ⟨els',ms',lk',ix',k1,r'⟩:=free_at r g hn op.owner (cutT op.name)
   have k2:=rfree_ok (els:=els') (ms:=ms') H Q (by omega) op.owner (cutT op.name)
   obtain ⟨q1,q2,q3⟩:=s.free g op.owner (cutT op.name)
   have hlen:(freeR H Q op.owner (cutT op.name)).2.2.2.length<=100000:=by
    unfold freeR
    split
    ·simp
    split
    ·simp
    ·have:=(comeR_len (cutT op.name) Q.length (H.filter (wo op.owner (cutT op.name) false)) Q []).2
     simp only [List.length_nil,Nat.zero_add] at this
     dsimp only;omega
   refine ⟨els',ms',lk',ix',e5_run _ _ _ _ _ _ _ _ _ _ (o:=.doneM (.bool true) ?m2) ?h2 (.done ?n2),r'⟩
   case h2 =>
    unfold e5
    rw [gc1,gd_true,gc2,gd_true,ibeq_f h0,cond_false,ibeq_t h1,cond_true,cut_fold,icM_of mk10_inj k1]
    dsimp only
    rw [icM_of mk11_inj k2]
    dsimp only
    rw [<-q2,kI _ hlen,kB_mk,cond_true,q3,beq_self_eq_true]
   case n2=>kernel_rfl
  ·simp only [if_neg h1]
   obtain ⟨els',ms',lk',ix',k1,r'⟩:=drop_at r g hn op.owner
   have k2:=rdrop_ok (els:=els') (ms:=ms') H Q (by omega) (fun h hh=>by have:=sh h (List.mem_append.1 hh);omega) op.owner
   obtain ⟨q1,q2⟩:=s.drop g op.owner
   have hlen:(dropR H Q op.owner).2.2.length<=100000:=by
    have key:∀(ks:List Bs) (H Q:List Has) (out:List Int),(comesR ks H Q out).2.2.length<=out.length+Q.length:=by
     intro ks
     induction ks with
     | nil=>intro H Q out;exact Nat.le_add_right _ _
     | cons k ks ih =>
      intro H Q out
      have h1:=ih (comeR k Q.length H Q []).1 (comeR k Q.length H Q []).2.1 (out++(comeR k Q.length H Q []).2.2)
      have h2:=(comeR_len k Q.length H Q []).2
      simp only [List.length_append,List.length_nil,Nat.zero_add] at h1 h2
      unfold comesR
      omega
    have h1:=key (namesH [] (H++Q)) (H.filter (wo op.owner [] true)) (Q.filter (wo op.owner [] true)) []
    have h2:=List.length_filter_le (wo op.owner [] true) Q
    unfold dropR
    simp only [List.length_nil,Nat.zero_add] at h1
    omega
   refine ⟨els',ms',lk',ix',e5_run _ _ _ _ _ _ _ _ _ _ (o:=.doneM (.bool true) ?m3) ?h3 (.done ?n3),r'⟩
   case h3 =>
    unfold e5
    rw [gc1,gd_true,gc2,gd_true,ibeq_f h0,cond_false,ibeq_f h1,cond_false,icM_of mk13_inj k1]
    dsimp only
    rw [icM_of mk14_inj k2]
    dsimp only
    rw [<-q2,kI _ hlen,kB_mk]
   case n3=>kernel_rfl
end
theorem plain_sc (ops:List Op):plainL [.sl (ops.map opV)]=true:=by
 have:∀l:List Op,plainL (l.map opV)=true:=by
  intro l
  induction l with
  | nil=>rfl
  | cons o l ih =>
   rw [List.map_cons]
   unfold plainL
   rw [ih]
   rfl
 simp only [plainL,V.plain,this,Bool.and_true]
section
variable {els:List V} {ms:List (List (V × V))} {lk ws:List (V × V)} {ix:Bs->Nat} {H Q:List Has} {L:List Lk} {W:WL} {b:Int} {n:Nat}
theorem does_in (s:Sim H Q L) (r:Rep els ms lk ws ix L W) (g:Good b n L W) (hn:n<=3000) (hl:H.length+Q.length<=3000) (sh:Sh H Q) (sc:List V) (i:Int) (out:Out)
  (fin:Go kcB true 2 fa3 (.head 0 (T3_0 sc (Lite.W .i64 (i+1)) els ms lk ws (rowsV H) (rowsV Q))) out):∀(d k:Nat),k+d=5 ->
  Go kcB true 2 fa3 (.head 1 (T3_1 sc i (k:Int) els ms lk ws (rowsV H) (rowsV Q))) out
 | 0,k,h=>by
  refine s3_1_run _ _ _ _ _ _ _ _ _ ?_ fin
  unfold s3_1
  rw [decide_eq_false (by omega),cond_false]
 | d+1,k,h=>by
  refine s3_1_run _ _ _ _ _ _ _ _ _ ?_ (does_in s r g hn hl sh sc i out fin d (k+1) (by omega))
  unfold s3_1
  rw [decide_eq_true (by omega),cond_true,icM_of mk6_inj (same_ok s r g hn hl sh (k:Int) [97])]
  dsimp only
  rw [Bool.not_true,cond_false,wN k (by omega)]
theorem does_loop (ops:List Op) (hops:∀o∈ops,I64 o.owner):∀(d i:Nat) (els:List V) (ms:List (List (V × V))) (lk:List (V × V)) (ix:Bs->Nat) (H Q:List Has) (L:List Lk) (W:WL),i+d=60->Sim H Q L->Rep els ms lk (W.map wE) ix L W->Good 9223372036854775808 i L W->Sh H Q->H.length+Q.length<=i ->
  ∃m,Go kcB true 2 fa3 (.head 0 (T3_0 (ops.map opV) (i:Int) els ms lk (W.map wE) (rowsV H) (rowsV Q))) (.doneM (.bool true) m):=by
 intro d
 induction d with
 | zero =>
  intro i els ms lk ix H Q L W hi s r g sh hl
  apply Exists.intro
  refine s3_0_run _ _ _ _ _ _ _ _ (o:=.doneM (.bool true) (mm els ms lk (W.map wE) (rowsV H) (rowsV Q))) ?_ (.refl _)
  unfold s3_0
  rw [decide_eq_false (show ¬(i:Int) < 60 by omega),cond_false,pcK_of fixed_ok,kB_mk]
  cases decide ((i:Int) < ((ops.map opV).length:Int))<;>rfl
 | succ d ih =>
  intro i els ms lk ix H Q L W hi s r g sh hl
  by_cases hlt:i < ops.length
  ·obtain ⟨o,ho⟩:∃o,ops[i]? = some o:=⟨_,List.getElem?_eq_getElem hlt⟩
   have hoi:=hops o (List.mem_of_getElem? ho)
   obtain ⟨els',ms',lk',ix',k1,r'⟩:=play_ok s r g (by omega) (by omega) sh o hoi
   obtain ⟨s',g',sh',hl'⟩:=play_sim s g sh (show o.owner < 9223372036854775808 by have:=hoi.2;omega) o.kind (cutT o.name) (cut_len o.name) o.mode
   obtain ⟨m,c⟩:=ih (i+1) els' ms' lk' ix' _ _ _ _ (by omega) s' r' g' sh' (by omega)
   rw [<-wN i (by omega)] at c
   have c1:=does_in s' r' g' (by omega) (by omega) sh' (ops.map opV) (i:Int) _ c 5 0 rfl
   refine ⟨m,s3_0_run _ _ _ _ _ _ _ _ ?_ c1⟩
   have hget:=fun q=>op_get ho q
   unfold s3_0
   rw [decide_eq_true (show (i:Int) < ((ops.map opV).length:Int) by simp;omega),cond_true,decide_eq_true (show (i:Int) < 60 by omega),cond_true,gd_of (by simp),hget,dO]
   rw [show (V.agg [V.int .i64 o.kind,V.int .i64 o.owner,V.str o.name,V.int .i64 o.mode])=opV o from rfl,icM_of mk5_inj k1]
   dsimp only
   rw [Bool.not_true,cond_false,gc1,gd_true,gc2,gd_true,cut_fold,icM_of mk6_inj (same_ok s' r' g' (by omega) (by omega) sh' o.owner (cutT o.name))]
   rfl
  ·apply Exists.intro
   refine s3_0_run _ _ _ _ _ _ _ _ (o:=.doneM (.bool true) (mm els ms lk (W.map wE) (rowsV H) (rowsV Q))) ?_ (.refl _)
   unfold s3_0
   rw [decide_eq_false (by simp;omega),cond_false,pcK_of fixed_ok,kB_mk]
theorem lockDoes_ok (ops:List Op) (hops:∀o∈ops,I64 o.owner):pcW cfgB 3 [.sl (ops.map opV)]=some (.bool true):=by
 obtain ⟨m,c⟩:=does_loop ops hops 60 0 [] [] [] (fun _=>0) [] [] [] [] rfl ⟨fun o m nm=>by simp [hL,getL],fun nm=>rfl⟩ Rep.mt (Good.mt (by decide)) (fun h hh=>by rcases hh with hh | hh<;>cases hh) (Nat.le_refl _)
 refine law_run rfl fa3_eq rfl rfl ?_ rfl ((e3_eq _).trans ?_) c
 ·unfold arsOk
  rw [plain_sc];rfl
 ·rfl
end
set_option maxRecDepth 100000
theorem heldE_some {p:V × V} {q:Int × Int} (h:heldE p=some q):p=(.int .i64 q.1,.int .i64 q.2):=by
 unfold heldE at h
 split at h
 ·cases h;rfl
 ·cases h
def hEn (p:Int × Int):V × V:=(.int .i64 p.1,.int .i64 p.2)
theorem heldOf_map:∀{es:List (V × V)} {hs:List (Int × Int)},heldOf es=some hs->es=hs.map hEn
 | [],hs,h=>by cases h;rfl
 | p::es,hs,h=>by
  unfold heldOf at h
  simp only [mapO,obi,omi] at h
  obtain ⟨y,hy,ys,hys,rfl⟩:=h
  rw [List.map_cons,heldE_some hy,<-heldOf_map (show heldOf es=some ys from hys)]
  rfl
def dLk (v:V) (k:Nat->List V->R):R:=kA v fun cs=>unc cs fun c cs=>kM 63 c fun x0=>unc cs fun c cs=>kL c fun x1=>unn cs<|(k x0 x1)
noncomputable def cCan:Code:=(Tryz.f29.body).getD .skip
noncomputable def canR:Array Oper:=regA (cL (cL (cR cCan)))
noncomputable def canLoop:Code:=cB (cB (cR (cL (cR cCan))))
noncomputable def canN:Array Oper:=regA (cL canLoop)
noncomputable def canE:Array Oper:=regA (cL (cB (cR (cR canLoop))))
noncomputable def canB':Code:=cR (cB (cR (cR canLoop)))
noncomputable def canTail:Code:=cR (cR cCan)
theorem cCan_eq:cCan = .seq (.region 0 (regA (cL cCan)) false) (.seq (.seq (.region 1 canR false) (.block 0 (.loop (.seq (.region 2 canN false) (.seq (.cond (.tmp 13) .skip (.exit 0)) (.block 1 (.seq (.region 3 canE false) canB'))))))) canTail):=by kernel_rfl
abbrev canM (els:List V) (ms:List (List (V × V))) (o m:Int):List O:=[.arena 66 els,.marena 63 ms,.box 70 (.agg [.int .i64 o,.int .i64 m]) false]
abbrev canMh (els:List V) (o m:Int):List O:=[.arena 66 els,.dead,.box 70 (.agg [.int .i64 o,.int .i64 m]) false]
def canS0 (els:List V) (ms:List (List (V × V))) (k:Nat) (o m:Int):S:=⟨[.hp 66 k 0,.agg [.int .i64 o,.int .i64 m]]++List.replicate 26 (.tup []),[.arena 66 els,.marena 63 ms]⟩
def canS1 (els:List V) (ms:List (List (V × V))) (k:Nat) (o m:Int):S:=⟨[.hp 66 k 0,.agg [.int .i64 o,.int .i64 m],.tup [],.ptr 2 0 0,.bool false]++List.replicate 23 (.tup []),canM els ms o m⟩
def canS2 (els:List V) (ms:List (List (V × V))) (k h:Nat) (o m:Int):S:=⟨[.hp 66 k 0,.agg [.int .i64 o,.int .i64 m],.tup [],.ptr 2 0 0,.bool false,.tup [],.tup [],.hp 66 k 0,.hp 66 k 0,.hp 66 k 0,.hm 63 h]++List.replicate 17 (.tup []),canM els ms o m⟩
def canI (els:List V) (k h:Nat) (o m:Int) (x:V):S:=⟨[.hp 66 k 0,.agg [.int .i64 o,.int .i64 m],.tup [],.ptr 2 0 0,.bool false,x,x,.hp 66 k 0,.hp 66 k 0,.hp 66 k 0,.hm 63 h,.junk]++List.replicate 16 x,canMh els o m⟩
def canJ (els:List V) (k h:Nat) (o m:Int) (x:V) (a b:Int):S:=⟨[.hp 66 k 0,.agg [.int .i64 o,.int .i64 m],.tup [],.ptr 2 0 0,.bool false,.int .i64 a,.int .i64 b,.hp 66 k 0,.hp 66 k 0,.hp 66 k 0,.hm 63 h,.junk,.tup [.bool true,.int .i64 a,.int .i64 b],.bool true,.tup [.int .i64 a,.int .i64 b],.int .i64 a,.int .i64 b]++List.replicate 11 x,canMh els o m⟩
def canE1 (els:List V) (k h:Nat) (o m:Int) (x:V) (a b:Int) (t:List V):S:=⟨[.hp 66 k 0,.agg [.int .i64 o,.int .i64 m],.tup [],.ptr 2 0 0,.bool false,.int .i64 a,.int .i64 b,.hp 66 k 0,.hp 66 k 0,.hp 66 k 0,.hm 63 h,.junk,.tup [.bool true,.int .i64 a,.int .i64 b],.bool true,.tup [.int .i64 a,.int .i64 b],.int .i64 a,.int .i64 b]++t,canMh els o m⟩
noncomputable def cCanB:C:=(prep (fun _=>false) canB').getD .skip
noncomputable def cCanT:C:=(prep (fun _=>false) canTail).getD .skip
theorem canB_prep:prep (fun _=>false) canB'=some (bare cCanB):=by kernel_rfl
theorem canT_prep:prep (fun _=>false) canTail=some (bare cCanT):=by kernel_rfl
theorem can0_prep:prep (fun _=>false) (.region 0 (regA (cL cCan)) false)=some (bare (.ops false (prepL (regA (cL cCan)) (regA (cL cCan)).toList))):=by kernel_rfl
theorem can_p0 (els:List V) (ms:List (List (V × V))) (k:Nat) (o m:Int):pieceK kcA 2 (.ops false (prepL (regA (cL cCan)) (regA (cL cCan)).toList)) (canS0 els ms k o m)=some (.head 0 (canS1 els ms k o m)):=by kernel_rfl
theorem can_pR (els:List V) (ms:List (List (V × V))) (k:Nat) (o m:Int):opsP kcA (prepL canR (canR.toList.take 4)) (canS1 els ms k o m)=idxK els k fun v=>dLk v fun h q=>some (.head 0 (canS2 els ms k h o m)):=by kernel_rfl
theorem can_pE (els:List V) (k h:Nat) (o m:Int) (x:V) (a b:Int):opsP kcA (prepL canE (canE.toList.drop 1)) ⟨(((canI els k h o m x).env.set 12 (.tup [.bool true,.int .i64 a,.int .i64 b])).set 13 (.bool true)).set 14 (.tup [.int .i64 a,.int .i64 b]),(canI els k h o m x).mem⟩=some (.head 0 (canJ els k h o m x a b)):=by kernel_rfl
theorem can_pB (els:List V) (k h:Nat) (o m:Int) (x:V) (a b:Int):pieceK kcA 2 cCanB (canJ els k h o m x a b) =
  cond (a != o) (pcK cfgA 49 [.int .i64 b,.int .i64 m] fun r=>kB r fun f=>cond (!f) (some (.head 1 (canE1 els k h o m x a b [.int .i64 a,.ptr 2 0 0,.int .i64 o,.bool (a != o),.bool true,.int .i64 b,.ptr 2 0 1,.int .i64 m,.bool f,.bool (!f),.bool true])))
    (some (.head 0 (canE1 els k h o m x a b [.int .i64 a,.ptr 2 0 0,.int .i64 o,.bool (a != o),.bool true,.int .i64 b,.ptr 2 0 1,.int .i64 m,.bool f,.bool (!f),.bool false]))))
   (some (.head 0 (canE1 els k h o m x a b [.int .i64 a,.ptr 2 0 0,.int .i64 o,.bool (a != o),.bool false,.tup [],.tup [],.tup [],.tup [],.tup [],.bool false]))):=by kernel_rfl
def canZ (els:List V) (ms:List (List (V × V))) (k h:Nat) (o m:Int) (x:V) (r4:Bool):S:=⟨[.hp 66 k 0,.agg [.int .i64 o,.int .i64 m],.tup [],.ptr 2 0 0,.bool r4,x,x,.hp 66 k 0,.hp 66 k 0,.hp 66 k 0,.hm 63 h,.junk,.tup [.bool false],.bool false]++List.replicate 14 x,canM els ms o m⟩
theorem can_pT (els:List V) (ms:List (List (V × V))) (k h:Nat) (o m:Int) (x:V):pieceK kcA 2 cCanT (canZ els ms k h o m x false)=some (.head 1 (canZ els ms k h o m x true)):=by kernel_rfl
def noOper:Oper:=⟨none,.nilCheck (.tmp 0),0,"",#[],none⟩
noncomputable def opAt (a:Array Oper) (k:Nat):Oper:=(a[k]?).getD noOper
noncomputable def canWs:List Nat:=[11,12,13,14]++((prepL canR (canR.toList.take 4)).filterMap (·.dst)++((prepL canE (canE.toList.drop 1)).filterMap (·.dst)++wrs cCanB))
abbrev canFg:List Nat:=[5,6,12,13,14,15,16,17,18,19,20,21,22,23,24,25,26,27]
theorem can_forget (els:List V) (k h:Nat) (o m:Int) (x:V) (a b:Int) (t0 t1 t2 t3 t4 t5 t6 t7 t8 t9 t10:V):(⟨forget (canE1 els k h o m x a b [t0,t1,t2,t3,t4,t5,t6,t7,t8,t9,t10]).env canFg,(canE1 els k h o m x a b [t0,t1,t2,t3,t4,t5,t6,t7,t8,t9,t10]).mem⟩:S)=canI els k h o m .junk:=by kernel_rfl
theorem can_small (hok:CfgOK cfgA) {Z:Zs} {w:World} {j:J} {els:List V} {ms:List (List (V × V))} {k:Nat} {o m:Int} {b:Bool} (hb:canX els ms k o m=some b) {us:List Value}
  (sr:SR cfgA.P Z w j [.arena 66 els,.marena 63 ms]) (ha:VRs Z w j [.hp 66 k 0,.agg [.int .i64 o,.int .i64 m]] us) :
  Calls cfgA.P 29 us.toArray w fun e w1=>∃u,e = .returned u/\PostOf cfgA.P Z w j [.arena 66 els,.marena 63 ms] (.bool b) (canM els ms o m) u w1:=by
 unfold canX lockX at hb
 simp only [obi,omi] at hb
 obtain ⟨r,hl,hs,hhs,hb⟩:=hb
 split at hl
 rotate_left
 ·cases hl
 rename_i h q hk
 simp only [omi] at hl
 obtain ⟨es,hms,rfl⟩:=hl
 have hes:es=hs.map hEn:=heldOf_map hhs
 refine run_safe (cfg:=cfgA) (vs:=[.bool b]) (fn:=Tryz.f29) (c:=cCan) (mem':=canM els ms o m) (ws:=wrs (.ops false (prepL (regA (cL cCan)) (regA (cL cCan)).toList))++(canWs++wrs cCanT)) (by kernel_rfl) (by kernel_rfl) (by kernel_rfl) (of_decide_eq_true (by kernel_rfl)) sr ha ?_
 rw [cCan_eq]
 refine Safe.seq (R1:=fun x s=>x = .norm/\s=canS1 els ms k o m) (Safe.piece hok ikA can0_prep (by kernel_rfl) (can_p0 els ms k o m) ⟨rfl,rfl⟩) (fun s1 hs1=>?_) (fun x s1 hx hh=>absurd hh.1 hx)
 obtain ⟨_,rfl⟩:=hs1
 refine Safe.seq (R1:=fun x s=>(x = .norm/\canB hs o m=true/\∃y,s=canZ els ms k h o m y false)∨(x = .ret/\canB hs o m=false/\s.env[4]? = some (.bool false)/\s.mem=canM els ms o m)) ?_ (fun s1 hs1=>?_) (fun x s1 hx hh=>?_)
 rotate_left
 ·rcases hs1 with ⟨_,hc,y,rfl⟩ | ⟨h,_⟩
  ·refine Safe.piece hok ikA canT_prep (by kernel_rfl) (can_pT els ms k h o m y) ⟨.inr rfl,?_,rfl⟩
   rw [<-hb,hc]
   kernel_rfl
  ·cases h
 ·rcases hh with ⟨h,_⟩ | ⟨rfl,hc,h4,hm⟩
  ·exact absurd h hx
  ·refine ⟨.inr rfl,?_,hm⟩
   have:(Tryz.f29).results.toList.map toRV=[.tmp 4]:=by kernel_rfl
   rw [this]
   show (resV cfgA.P s1 (.tmp 4)).bind _=_
   simp only [resV,h4,Option.bind_some]
   rw [<-hb,hc]
   rfl
 ·have hR:opsP kcA (prepL canR (canR.toList.take 4)) (canS1 els ms k o m)=some (.head 0 (canS2 els ms k h o m)):=by
   rw [can_pR,idxK_of hk];rfl
  refine Safe.mrange (call:=callW cfgA) (callW_ok hok).1 (callW_ok hok).2 (it:=11) (nx:=12) (more:=13) (pr:=14) (t:=63) (tk:=3) (te:=3) (xR:=.tmp 10) (oR:=opAt canR 4) (oN:=opAt canN 0) (oM:=opAt canN 1) (oE:=opAt canE 0) (rest:=canE.toList.drop 1) (pre:=canR.toList.take 4)
   (lR:=prepL canR (canR.toList.take 4)) (lE:=prepL canE (canE.toList.drop 1)) (by kernel_rfl) (by kernel_rfl) (by kernel_rfl) (by kernel_rfl) (by kernel_rfl) (by kernel_rfl) (by kernel_rfl) (by kernel_rfl) (by kernel_rfl) (by kernel_rfl) (by kernel_rfl) (by kernel_rfl)
   (by kernel_rfl) (by kernel_rfl) (by kernel_rfl) (by kernel_rfl) (preps_get (by kernel_rfl)) (preps_get (by kernel_rfl)) (s1:=canS2 els ms k h o m) (ops_some ikA hR) (m:=.hm 63 h) (by kernel_rfl) (es:=es) ?_ (id:=1) (o:=.marena 63 ms) rfl rfl (by kernel_rfl) (Nat.lt_succ_self 1)
   (fun left s=>∃y hl,left=hl.map hEn/\canB hl o m=canB hs o m/\s=canI els k h o m y) _ canFg (wrs cCanB) canWs
   ?_ ?_ ?_ ?_ (by show 11 < 28;decide) ?_ ?_ (by decide)
  ·have:mapAt (canS2 els ms k h o m).mem (.hm 63 h)=ms[h]?:=by kernel_rfl
   rw [this];exact hms
  ·exact ⟨.tup [],hs,hes,rfl,rfl⟩
  ·rintro left s ⟨y,hl,e,hc,rfl⟩
   exact ⟨rfl,by show 12 < 28;decide,by show 13 < 28;decide⟩
  ·rintro l1 l2 a c s ⟨y,hl,e,hc,rfl⟩
   obtain ⟨g1,g2,rfl,e1,e2⟩:=List.append_eq_map_iff.1 e
   obtain ⟨p,g3,rfl,e3,e4⟩:=List.map_eq_cons_iff.1 e2
   have e3:a = .int .i64 p.1/\c = .int .i64 p.2:=by
    have:=e3
    unfold hEn at this
    injection this with h1 h2
    exact ⟨h1.symm,h2.symm⟩
   obtain ⟨rfl,rfl⟩:=e3
   refine ⟨canJ els k h o m y p.1 p.2,ops_some ikA (can_pE els k h o m y p.1 p.2),?_⟩
   have hcc:canB (g1++p::g3) o m=((p.1==o || fitsB p.2 m) && canB (g1++g3) o m):=by
    unfold canB
    rw [List.all_append,List.all_cons,List.all_append]
    cases g1.all fun p=>p.1==o || fitsB p.2 m<;>cases g3.all fun p=>p.1==o || fitsB p.2 m<;>cases p.1==o || fitsB p.2 m<;>rfl
   have keep:(p.1==o || fitsB p.2 m)=true->∃y hl,l1++l2=hl.map hEn/\canB hl o m=canB hs o m/\canI els k h o m .junk=canI els k h o m y:=fun hq=>by
    refine ⟨.junk,g1++g3,by rw [List.map_append,e1,e4],?_,rfl⟩
    rw [<-hc,hcc,hq,Bool.true_and]
   have hB:=can_pB els k h o m y p.1 p.2
   by_cases hpo:p.1=o
   ·rw [ibne_f hpo,cond_false] at hB
    refine Safe.piece hok ikA canB_prep (by kernel_rfl) hB (Or.inl ⟨Or.inl rfl,?_⟩)
    rw [can_forget]
    exact keep (by rw [hpo,beq_self_eq_true,Bool.true_or])
   ·cases hf:fitsB p.2 m with
    | true =>
     rw [ibne_t hpo,cond_true,pcK_of (fits_ok p.2 m),kB_mk,hf,Bool.not_true,cond_false] at hB
     refine Safe.piece hok ikA canB_prep (by kernel_rfl) hB (Or.inl ⟨Or.inl rfl,?_⟩)
     rw [can_forget]
     exact keep (by rw [hf,Bool.or_true])
    | false =>
     rw [ibne_t hpo,cond_true,pcK_of (fits_ok p.2 m),kB_mk,hf,Bool.not_false,cond_true] at hB
     refine Safe.piece hok ikA canB_prep (by kernel_rfl) hB (Or.inr ⟨rfl,rfl,Or.inr ⟨rfl,?_,rfl,rfl⟩⟩)
     rw [<-hc,hcc,ibeq_f hpo,hf];rfl
  ·rintro s ⟨y,hl,e,hc,rfl⟩
   have:hl=[]:=by simpa using e.symm
   subst this
   exact .inl ⟨rfl,by rw [<-hc];rfl,y,rfl⟩
  ·exact ⟨by decide,by decide,by decide,by decide,of_decide_eq_true (by kernel_rfl),of_decide_eq_true (by kernel_rfl)⟩
  ·intro i hi
   unfold canWs
   simp only [List.mem_append,List.mem_cons,List.not_mem_nil,or_false]
   rcases hi with h | h | h | h | h | h | h
   ·exact .inl (.inl h)
   ·exact .inl (.inr (.inl h))
   ·exact .inl (.inr (.inr (.inl h)))
   ·exact .inl (.inr (.inr (.inr h)))
   ·exact .inr (.inl h)
   ·exact .inr (.inr (.inl h))
   ·exact .inr (.inr (.inr h))
theorem can_back (els:List V) (ms:List (List (V × V))) (o m:Int) (b:Bool) (rest:List O) :
  canBackW true 2 [] [.arena 66 els,.marena 63 ms] (.arena 66 els::.marena 63 ms::rest) (.bool b) (canM els ms o m)=(.bool b,.arena 66 els::.marena 63 ms::rest):=by
 have hn:canNew true 2 [.arena 66 els,.marena 63 ms] (canM els ms o m) (.bool b)=[]:=by kernel_rfl
 unfold canBackW
 rw [hn]
 dsimp only
 rw [List.map_nil,List.append_nil,oldFrom_id]
 ·rfl
 ·intro k x hx
  unfold canOld
  match k,hx with
  | 0,hx=>simp only [List.getElem?_cons_zero,Option.some.injEq] at hx;subst hx;rfl
  | 1,hx=>simp only [List.getElem?_cons_succ,List.getElem?_cons_zero,Option.some.injEq] at hx;subst hx;rfl
  | k+2,hx=>rw [if_neg (by omega)];rfl
theorem can_ok (hok:CfgOK cfgA):ImpOK Tryz.prog fun f' av mem=>if f'=29 then canP av mem else none:=by
 intro f av mem r mem' h hfn Z w j us sr ha
 dsimp only at h
 split at h
 rotate_left
 ·cases h
 rename_i e
 subst e
 unfold canP at h
 split at h
 rotate_left
 ·cases h
 rename_i k o m els ms rest
 simp only [omi] at h
 obtain ⟨b,hb,h⟩:=h
 cases h
 have:=pick (n0:=2) (ids:=[]) (rd:=true) (v1:=.bool b) (m1:=canM els ms o m) (f:=29) (by simp) List.nodup_nil (fun i hi=>by cases hi) sr ha fun jc sc hc=>can_small hok hb sc hc
 have e:(tidyWith 2 [] ⟨[.hp 66 k 0,.agg [.int .i64 o,.int .i64 m]],.arena 66 els::.marena 63 ms::rest⟩).mem=[.arena 66 els,.marena 63 ms]:=by kernel_rfl
 rw [e,can_back] at this
 exact this
end Go.Proofs.YtpkeiaeaonmacaaGreat
namespace Go.Proofs.YtpkeiaeaonmacaaGreat.D
open Go Go.Lite
set_option maxRecDepth 100000
set_option linter.unusedVariables false
def d70 (v:V) (k:Int->Int->R):R:=kA v fun cs=>unc cs fun c cs=>kI .i64 c fun x0=>unc cs fun c cs=>kI .i64 c fun x1=>unn cs<|(k x0 x1)
@[simp] theorem d70_mk (x0:Int) (x1:Int) (k:Int->Int->R):d70 (.agg [V.int .i64 x0,V.int .i64 x1]) k=k x0 x1:=rfl
@[congr] theorem d70_wc {v v':V} {k:Int->Int->R} (h:v=v'):d70 v k=d70 v' k:=by rw [h]
noncomputable def fa51:FA:=⟨1,4,[.tmp 2],[92],
 (.seq
 (.ops false [o1 1 (.box 88 (t' 0)) 0,o1 2 (.assign (.const (.nilFunc))) 92])
 (.seq
 (.ops false [o1 3 (.makeFunc (.func 71) #[] #[(t' 1)]) 91,asg 2 3 92])
 (.ret)))⟩
theorem fa51_eq:fnA cfgA.P (cfgA.rxf 51) 51=some fa51:=by kernel_rfl
noncomputable def kcD:KC:=kcA.inl [(51,fa51)]
theorem ikD:IKOK kcD:=inl_ok ikA (by
 intro x hx
 simp only [List.mem_cons,List.not_mem_nil,or_false] at hx
 rcases hx with rfl
 ·exact ⟨rfl,fa51_eq,rfl⟩)
noncomputable def fa48:FA:=⟨2,8,[.tmp 3],[4],
 (.seq
 (.ops false [o1 2 (.box 70 (t' 0)) 0,o1 3 (.assign (.const (.bool false))) 4])
 (.seq
 (.ops false [o1 4 (.fieldAddr 70 (t' 2) 0) 0,o1 5 (.load 3 (t' 4)) 3,o1 6 (.load 3 (t' 1)) 3,o1 7 (.binOp .eql 3 (t' 5) (t' 6) 3) 4,asg 3 7 4])
 (.ret)))⟩
theorem fa48_eq:fnA cfgA.P (cfgA.rxf 48) 48=some fa48:=by kernel_rfl
noncomputable def e48 (a0owner a0mode c0:Int):R :=
 some (.done (V.bool (a0owner==c0)))
theorem e48_eq (a0owner a0mode c0:Int):enterK kcD false fa48 [V.agg [V.int .i64 a0owner,V.int .i64 a0mode],V.ref (V.int .i64 c0) 0] []=e48 a0owner a0mode c0:=by kernel_rfl
theorem e48_run (a0owner a0mode c0:Int) {o:Out} {v:V} (h:e48 a0owner a0mode c0=some o) (hg:Go kcD false 0 fa48 o (.done v)):pcW cfgA 48 [V.agg [V.int .i64 a0owner,V.int .i64 a0mode],V.ref (V.int .i64 c0) 0]=some v:=pcW_go ikD rfl fa48_eq ((e48_eq ..).trans h) hg
theorem e48_done (a0owner a0mode c0:Int) {v:V} (h:e48 a0owner a0mode c0=some (.done v)):pcW cfgA 48 [V.agg [V.int .i64 a0owner,V.int .i64 a0mode],V.ref (V.int .i64 c0) 0]=some v:=e48_run a0owner a0mode c0 h (.refl _)
noncomputable def fa46:FA:=⟨2,19,[.tmp 4],[3],
 (.seq
 (.ops false [o1 4 (.assign (.const (.int .i64 (0)))) 3])
 (.seq
 (.seq
 (.ops false [mv 6 0 64,o1 7 (.call ⟨(.builtin .len),#[(t' 6)],#[64]⟩) 3,o1 8 (.move (.const (.int .i64 (0)))) 3])
 (.block 0
 (.loop ([2,3,5,6]++List.range' 9 10)
 (.seq
 (.ops false [o1 9 (.binOp .lss 3 (t' 8) (t' 7) 3) 0])
 (.seq
 (.cond (t' 9)
 (.skip)
 (.exit 0))
 (.seq
 (.block 1
 (.seq
 (.ops false [mv 10 8 3,asg 5 10 3])
 (.seq
 (.ops false [mv 11 1 71,mv 12 0 64,mv 13 5 3,o1 14 (.indexAddr 64 (t' 12) (t' 13)) 0,o1 15 (.load 70 (t' 14)) 70,o1 16 (.call ⟨(.value (t' 11)),#[(t' 15)],#[70]⟩) 4])
 (.cond (t' 16)
 (.seq
 (.ops false [mv 17 5 3,asg 4 17 3])
 (.ret))
 (.skip)))))
 (.ops false [o1 18 (.binOp .add 3 (t' 8) (.const (.int .i64 (1))) 3) 3,mv 8 18 3])))))))
 (.seq
 (.ops false [o1 4 (.assign (.const (.int .i64 (-1)))) 3])
 (.ret))))⟩
theorem fa46_eq:fnA cfgA.P (cfgA.rxf 46) 46=some fa46:=by kernel_rfl
def T46_0 (x0:List V) (x1 x7 x8:Int):S:=⟨[V.sl x0,V.fn 48 [V.ref (V.int .i64 x1) 0],V.junk,V.junk,V.int .i64 0,V.junk,V.junk,V.int .i64 x7,V.int .i64 x8]++(JU 10),[]⟩
noncomputable def e46 (a0:List V) (c0:Int):R :=
 some (.head 0 (T46_0 a0 c0 (a0.length:Int) 0))
theorem e46_eq (a0:List V) (c0:Int):enterK kcD false fa46 [V.sl a0,V.fn 48 [V.ref (V.int .i64 c0) 0]] []=e46 a0 c0:=by kernel_rfl
theorem e46_run (a0:List V) (c0:Int) {o:Out} {v:V} (h:e46 a0 c0=some o) (hg:Go kcD false 0 fa46 o (.done v)):pcW cfgA 46 [V.sl a0,V.fn 48 [V.ref (V.int .i64 c0) 0]]=some v:=pcW_go ikD rfl fa46_eq ((e46_eq ..).trans h) hg
noncomputable def s46_0 (x0:List V) (x1 x7 x8:Int):R :=
 cond (decide (x8 < x7))
 (gd (decide (0<=x8)) <|
  idxK x0 x8.toNat fun v =>
  d70 v fun owner mode =>
  pcK cfgA 48 [V.agg [V.int .i64 owner,V.int .i64 mode],V.ref (V.int .i64 x1) 0] fun r =>
  kB r fun r48 =>
  cond r48
 (some (.done (V.int .i64 x8)))
 (some (.head 0 (T46_0 x0 x1 x7 (W .i64 (x8+1))))))
 (some (.done (V.int .i64 (-1))))
theorem s46_0_eq (x0:List V) (x1 x7 x8:Int):goK kcD false 0 fa46 0 (T46_0 x0 x1 x7 x8)=s46_0 x0 x1 x7 x8:=by kernel_rfl
theorem s46_0_run (x0:List V) (x1 x7 x8:Int) {o o':Out} (h:s46_0 x0 x1 x7 x8=some o) (hg:Go kcD false 0 fa46 o o'):Go kcD false 0 fa46 (.head 0 (T46_0 x0 x1 x7 x8)) o':=.step ((s46_0_eq ..).trans h) hg
end Go.Proofs.YtpkeiaeaonmacaaGreat.D
