/-
  Texts that the last one stands on.
-/
import Derived.Test.YtlphgcjepphhcaaGreatY6
import Derived.Shelf.Spec.SlicesInsert
import Derived.Lib.SliceRun
import Derived.RangeFuncNested
import Derived.RangeFuncBound
import Derived.RangeFuncCalls
import Derived.RangeFuncLeaves
import Derived.Shelf.Abstract
import Derived.Shelf.RegionOpen
import Derived.WalkKit
import Derived.OwnWalkIn
import Derived.TacticsInMore
import Derived.LoopNIn
import Derived.LoopIn
import Derived.Stop.RegionWithIn
import Derived.Test.YtlphgcjepphhcaaGreatProg
import Derived.Shelf.SortM.Plain
import Derived.Shelf.SortM.SortNone
import Derived.KernelRfl
open List renaming eq_nil_or_concat->dQ,append_assoc->bc,concat_eq_append->gq,mem_cons->bw,append_nil->c7,mem_cons_self->bV,reverse_cons->mh,flatMap_cons->ij,append_eq_nil_iff->o6,pairwise_cons->fP,mem_map->dF,mem_append->aV,pairwise_append->du,length_pos_iff->jb,map_append->gv,cons_append->c8,nil_append->dB,perm_middle->nP,nodup_cons->td,mem_cons_of_mem->jH,length_map->dA,set_append_right->Bu,getElem?_append_right->cJ,length_cons->cw,length_append->cL,length_nil->fc,map_cons->cU,getElem?_eq_some_iff->aS,length_reverse->xU,reverse_reverse->Bt,drop_zero->qN,take_of_length_le->jI,take_succ_cons->tj,map_nil->iH,mem_append_right->mf,length->nL,mem_append_left->jG,drop_drop->nJ,filter_append->nK,mem_filter->nO,eq_nil_of_length_eq_zero->o8,range->cW,filter_eq_self->G0,length_range->xT,mem_singleton->ew,dropLast_cons_of_ne_nil->md,exists_cons_of_ne_nil->me,map_eq_nil_iff->G4,replicate->bl,size_toArray->tg,push_toArray->G7,append_toArray->GY,all_eq_true->cT,mem_of_getElem?->cf,getElem?_eq_getElem->bj,getElem?_map->dh,getElem?_range->qO
open Bool renaming and_eq_true->bd,or_eq_true->l9,not_true->bA,not_false->i9
open Nat renaming le_refl->bq,add_zero->dv,zero_add->dI,sub_self->iI,add_comm->pb,min_eq_left->vE,le_trans->mj,mul_one->jL,zero_le->il,add_assoc->gG
open Option renaming bind_some->ap
open Array renaming replicate_succ->GK,replicate_zero->GL
namespace Go.Proofs.YtlphgcjepphhcaaGreat
open Go Go.Lite
set_option linter.unusedSimpArgs false
set_option linter.unusedVariables false
set_option maxRecDepth 100000
def hS (w:Bool) (h:Bs) (a:Su):Su:=a.dropLast++(a.getLast?.toList.map fun x=>(x.1,bif w then h else x.2))
theorem lC (w:Bool) (h:Bs) (a:Su) (z:Int) (hz:Bs):hS w h (a++[(z,hz)])=a++[(z,bif w then h else hz)]:=by simp [hS]
theorem qz {α:Type} {a:List α} (h:a≠[]):∃a' x,a=a'++[x]:=by
 rcases dQ a with h' | ⟨l,x,h'⟩
 ·exact absurd h' h
 ·exact ⟨l,x,by simpa using h'⟩
theorem Tu (w:Bool) (h:Bs) (a:Su) {b:Su} (hb:b≠[]):hS w h (a++b)=a++hS w h b:=by
 obtain ⟨b',⟨z,hz⟩,rfl⟩:=qz hb
 rw [<-bc,lC,lC,bc]
theorem Tw (w:Bool) (h:Bs) {a:Su} (ha:a≠[]):hS w h a≠[]:=by
 obtain ⟨a',⟨z,hz⟩,rfl⟩:=qz ha
 rw [lC];simp
theorem Tv (h:Bs) (a:Su):hS false h a=a:=by
 rcases dQ a with rfl | ⟨a',⟨z,hz⟩,rfl⟩
 ·rfl
 ·rw [gq,lC];rfl
theorem Dw (w:Bool) (h:Bs) {a:Su} (ha:a≠[]):ay (hS w h a)=bif w then h else ay a:=by
 obtain ⟨a',⟨z,hz⟩,rfl⟩:=qz ha
 rw [lC,fD _ (by simp),fD _ (by simp)];rfl
def hI (w:Bool) (h:Bs) (l:IL):IL:=l.dropLast++(l.getLast?.toList.map fun x=>(x.1,hS w h x.2))
theorem wG (w:Bool) (h:Bs) (l:IL) (z:Int) (ez:Su):hI w h (l++[(z,ez)])=l++[(z,hS w h ez)]:=by simp [hI]
theorem Uu (w:Bool) (h:Bs) {l:IL} (hn:∀x∈l,x.2≠[]):aJ (hI w h l)=hS w h (aJ l):=by
 rcases dQ l with rfl | ⟨l',⟨z,ez⟩,rfl⟩
 ·rfl
 ·rw [gq] at hn |-
  have hz:ez≠[]:=hn (z,ez) (by simp)
  have e:aJ (l'++[(z,ez)])=aJ l'++ez:=by simp [aJ]
  rw [wG,e,Tu _ _ _ hz];simp [aJ]
theorem YR (w:Bool) (h:Bs) {l:IL} (hn:∀x∈l,x.2≠[]):be (hI w h l)=hS w h (be l):=by
 rcases dQ l with rfl | ⟨l',⟨z,ez⟩,rfl⟩
 ·rfl
 ·rw [gq] at hn |-
  have hz:ez≠[]:=hn (z,ez) (by simp)
  have e:be (l'++[(z,ez)])=be l'++[(z,ay ez)]:=by simp [be]
  rw [wG,e,lC];simp [be,Dw w h hz]
def hF (w:Bool) (h:Bs) (b:LL):LL:=b.dropLast++(b.getLast?.toList.map fun x=>(x.1,x.2.1,bif w then h else x.2.2))
theorem uo (w:Bool) (h:Bs) (b:LL) (z:Int) (prs:List Pr) (hz:Bs):hF w h (b++[(z,prs,hz)])=b++[(z,prs,bif w then h else hz)]:=by simp [hF]
theorem YQ (w:Bool) (h:Bs) (b:LL):bE (hF w h b)=hS w h (bE b):=by
 rcases dQ b with rfl | ⟨b',⟨z,prs,hz⟩,rfl⟩
 ·rfl
 ·have e:bE (b'++[(z,prs,hz)])=bE b'++[(z,hz)]:=by simp [bE]
  rw [gq,uo,e,lC];simp [bE]
theorem SS (w:Bool) (h:Bs) (b:LL):bf (hF w h b)=bf b:=by
 rcases dQ b with rfl | ⟨b',⟨z,prs,hz⟩,rfl⟩
 ·rfl
 ·rw [gq,uo,kK,kK];simp [bf]
def sy {α:Type} (a:List (Int × α)):List Int:=a.getLast?.toList.map (·.1)
theorem uL {α:Type} (a:List (Int × α)) (x:Int × α):sy (a++[x])=[x.1]:=by simp [sy]
abbrev Nd:=Int × Su × Int
def rN (l:IL) (nx:Int):List Nd:=l.getLast?.toList.map fun x=>(x.1,x.2,nx)
theorem uz (l:IL) (z:Int) (ez:Su) (nx:Int):rN (l++[(z,ez)]) nx=[(z,ez,nx)]:=by simp [rN]
def da (w:Bool) (h:Bs) (zo gs:List Nd):List Nd:=List.zipWith (fun o g=>(o.1,hS w h o.2.1,g.2.2)) zo gs
def bP (l:List Nd):Es:=l.map fun z=>(z.1,aZ z.2.1 z.2.2)
inductive Rm (r:Int):List IL->Int->Bs->Su->Su->List an->Bool->List IL->List Nd->List Nd->Nd->Nd->Prop
 | one {up:List IL} {q p:Int} {h:Bs} {pre post:IL} {sts:List an} {w:Bool} {up':List IL} {gs zo:List Nd} {xo X:Nd} :
  Rm r up q h (be pre) (be post) sts w up' gs zo xo X ->
  Rm r ((pre++(q,[(p,h)])::post)::up) p h (aJ pre) (aJ post) ((q,[(p,h)],aG post 0,0)::sts) w ((hI w h pre++post)::up') ((q,[(p,h)],aG post 0)::gs) (rN pre (q+1)++zo) xo X
 | left {up:List IL} {q p y:Int} {h hy:Bs} {e1 e2:Su} {pre post:IL} {sts:List an} :
  im r up q (ay (e1++(y,hy)::(p,h)::e2)) (be pre) (be post) sts ->
  Rm r ((pre++(q,e1++(y,hy)::(p,h)::e2)::post)::up) p h (aJ pre++(e1++[(y,hy)])) (e2++aJ post) ((q,e1++(y,hy)::(p,h)::e2,aG post 0,e1.length+1)::sts) true
   ((pre++(q,e1++(y,h)::e2)::post)::up) [] [] (q,e1++(y,hy)::(p,h)::e2,aG post 0) (q,e1++(y,h)::e2,aG post 0)
 | first {up:List IL} {q p:Int} {h:Bs} {x:Int × Bs} {e2:Su} {pre post:IL} {sts:List an} :
  im r up q (ay ((p,h)::x::e2)) (be pre) (be post) sts ->
  Rm r ((pre++(q,(p,h)::x::e2)::post)::up) p h (aJ pre) (x::e2++aJ post) ((q,(p,h)::x::e2,aG post 0,0)::sts) false
   ((pre++(q,x::e2)::post)::up) [] [] (q,(p,h)::x::e2,aG post 0) (q,x::e2,aG post 0)
theorem Xd {r:Int} {up:List IL} {p:Int} {h:Bs} {a c:Su} {sts:List an} (hp:im r up p h a c sts) (hm:∃s∈sts,2<=s.2.1.length):∃w up' gs zo xo X,Rm r up p h a c sts w up' gs zo xo X:=by
 induction hp with
 | top=>obtain ⟨s,hs,_⟩:=hm;cases hs
 | @st up q e1 p h e2 pre post sts hup ih =>
  rcases dQ e1 with rfl | ⟨e1',⟨y,hy⟩,rfl⟩
  ·cases e2 with
   | nil =>
    obtain ⟨w,up',gs,zo,xo,X,hr⟩:=ih (by
     obtain ⟨s,hs,h2⟩:=hm
     rcases bw.1 hs with rfl | hs
     ·simp at h2
     ·exact ⟨s,hs,h2⟩)
    have e1:aJ pre++[]=aJ pre:=c7 _
    rw [e1]
    exact ⟨w,_,_,_,xo,X,.one hr⟩
   | cons x e2 =>
    have e1:aJ pre++[]=aJ pre:=c7 _
    rw [e1]
    exact ⟨_,_,_,_,_,_,.first hup⟩
  ·rw [gq] at hup |-
   have e:e1'++[(y,hy)]++(p,h)::e2=e1'++(y,hy)::(p,h)::e2:=by simp
   have el:(e1'++[(y,hy)]).length=e1'.length+1:=by simp
   rw [e] at hup
   rw [e,el]
   exact ⟨_,_,_,_,_,_,.left hup⟩
theorem Dv (e1:Su) (y:Int) (hy:Bs) (p:Int) (h:Bs) (e2:Su):ay (e1++(y,h)::e2)=ay (e1++(y,hy)::(p,h)::e2):=by
 rw [fD _ (by simp),fD _ (by simp),j4 (y,hy) (by simp)]
 cases e2 with
 | nil=>rfl
 | cons x e2=>rw [j4 (y,h) (by simp),j4 (p,h) (by simp)]
section
variable {r:Int} {up:List IL} {p:Int} {h:Bs} {a c:Su} {sts:List an} {w:Bool} {up':List IL} {gs zo:List Nd} {xo X:Nd}
theorem Xc (hr:Rm r up p h a c sts w up' gs zo xo X):(∀l∈up,∀x∈l,x.2≠[])->∀{d:List IL} {b:LL},Dn (hS w h a++c) d b->Dn [(r,[])] (up'.reverse++d) b:=by
 induction hr with
 | @one up q p h pre post sts w up' gs zo xo X _ ih =>
  intro hn d b hd
  have hnp:∀x∈pre,x.2≠[]:=fun x hx=>hn _ (bV ..) x (by simp [hx])
  have ek:hS w h (aJ pre)++aJ post=aJ (hI w h pre++post):=by rw [<-Uu w h hnp];simp [aJ]
  have es:be (hI w h pre++post)=hS w h (be pre)++be post:=by rw [<-YR w h hnp];simp [be]
  rw [ek] at hd
  have hd:=Dn.inn _ _ _ hd
  rw [es] at hd
  have:=ih (fun l hl=>hn l (by simp [hl])) hd
  rwa [mh,bc]
 | @left up q p y h hy e1 e2 pre post sts hup =>
  intro hn d b hd
  have ek:hS true h (aJ pre++(e1++[(y,hy)]))++(e2++aJ post)=aJ (pre++(q,e1++(y,h)::e2)::post):=by
   rw [<-bc (aJ pre),lC];simp [aJ]
  rw [ek] at hd
  have hd:=Dn.inn _ _ _ hd
  have es:be (pre++(q,e1++(y,h)::e2)::post)=be pre++(q,ay (e1++(y,hy)::(p,h)::e2))::be post:=by
   rw [<-Dv e1 y hy p h e2];simp [be]
  rw [es] at hd
  have:=EK hup hd
  rwa [mh,bc]
 | @first up q p h x e2 pre post sts hup =>
  intro hn d b hd
  have ek:hS false h (aJ pre)++(x::e2++aJ post)=aJ (pre++(q,x::e2)::post):=by
   rw [Tv];simp [aJ]
  rw [ek] at hd
  have hd:=Dn.inn _ _ _ hd
  have es:be (pre++(q,x::e2)::post)=be pre++(q,ay ((p,h)::x::e2))::be post:=by
   rw [j4 _ (by simp)];simp [be]
  rw [es] at hd
  have:=EK hup hd
  rwa [mh,bc]
theorem Uw {l:IL} (hn:∀x∈l,x.2≠[]) (h:aJ l=[]):l=[]:=by
 cases l with
 | nil=>rfl
 | cons x l =>
  rw [aJ,ij,o6] at h
  exact absurd h.1 (hn x (by simp))
theorem Ax (hr:Rm r up p h a c sts w up' gs zo xo X):(∀l∈up,∀x∈l,x.2≠[])->(a=[]->zo=[])/\(a≠[]->zo.length=gs.length):=by
 induction hr with
 | @one up q p h pre post sts w up' gs zo xo X _ ih =>
  intro hn
  have hnp:∀x∈pre,x.2≠[]:=fun x hx=>hn _ (bV ..) x (by simp [hx])
  obtain ⟨h1,h2⟩:=ih fun l hl=>hn l (by simp [hl])
  constructor
  ·intro ha
   have:=Uw hnp ha
   subst this
   rw [h1 rfl];rfl
  ·intro ha
   rcases dQ pre with rfl | ⟨l,⟨z,ez⟩,rfl⟩
   ·exact absurd rfl ha
   ·rw [gq] at h2 |-
    rw [uz]
    have:=h2 (by simp [be])
    simp [this]
 | left _=>intro _;exact ⟨fun _=>rfl,fun _=>rfl⟩
 | first _=>intro _;exact ⟨fun _=>rfl,fun _=>rfl⟩
end
def eY (e:Su):List Bs:=e.dropLast.map (·.2)
theorem E8:∀{l:List Bs} {p:Bs},dN p l=true↔(∀s∈l,bi s=true/\lt p s=true)/\l.Pairwise fun a b=>lt a b=true
 | [],p=>by simp [dN]
 | s::l,p=>by
  rw [dN,bd,bd,E8 (l:=l) (p:=s),fP]
  constructor
  ·rintro ⟨⟨h1,h2⟩,h3,h4⟩
   refine ⟨fun x hx=>?_,fun x hx=>(h3 x hx).2,h4⟩
   rcases bw.1 hx with rfl | hx
   ·exact ⟨h1,h2⟩
   ·exact ⟨(h3 x hx).1,lt_trans h2 (h3 x hx).2⟩
  ·rintro ⟨h1,h2,h3⟩
   exact ⟨h1 s (by simp),fun x hx=>⟨(h1 x (by simp [hx])).1,h2 x hx⟩,h3⟩
structure mc (e:Su) (h:Bs):Prop where
 ne:e≠[]
 pg:∀x∈e,dk x.1=true
 key:∀s∈eY e,bi s=true
 ri:(eY e).Pairwise fun a b=>lt a b=true
 hi:h=[]∨(bi h=true/\∀s∈eY e,lt s h=true)
 sz:23+bU (eY e)<=252
theorem Uy {l:List Bs} {h:Bs} (hk:bi h=true) (ha:∀x∈l,lt x h=true):lt (l.getLastD []) h=true:=by
 rcases dQ l with rfl | ⟨a,x,rfl⟩
 ·exact pS hk
 ·have:(a.concat x).getLastD []=x:=by simp
  rw [this];exact ha x (by simp)
theorem TY {e:Su} {nx:Int}:(e≠[]/\bv (ag e nx)=true)↔mc e (ay e)/\0<=nx/\nx<=1024:=by
 rw [qt,rv]
 constructor
 ·rintro ⟨hne,h1,h2,h3,h4,h5,h6,h7⟩
  obtain ⟨q1,q2⟩:=E8.1 h3
  refine ⟨⟨hne,fun x hx=>h2 x.1 (dF.2 ⟨x,hx,rfl⟩),fun s hs=>(q1 s hs).1,q2,?_,h7⟩,h5,h6⟩
  simp only [d8,l9,bd] at h4
  rcases h4 with h4 | ⟨h4,h8⟩
  ·exact .inl (by simpa using h4)
  ·refine .inr ⟨h4,fun s hs=>?_⟩
   have hs:s∈e.dropLast.map (·.2):=hs
   have q2:(e.dropLast.map (·.2)).Pairwise fun a b=>lt a b=true:=q2
   have h8:lt ((e.dropLast.map (·.2)).getLastD []) (ay e)=true:=h8
   show lt s (ay e)=true
   generalize e.dropLast.map (·.2)=l at hs h8 q2
   rcases dQ l with rfl | ⟨a,y,rfl⟩
   ·cases hs
   ·have e:(a.concat y).getLastD []=y:=by simp
    rw [e] at h8
    rw [gq] at hs q2
    rcases aV.1 hs with hs | hs
    ·exact lt_trans ((du.1 q2).2.2 s hs y (by simp)) h8
    ·have:s=y:=by simpa using hs
     rw [this];exact h8
 ·rintro ⟨o,h5,h6⟩
  refine ⟨o.ne,?_,?_,?_,?_,h5,h6,o.sz⟩
  ·have:=jb.2 o.ne
   simp;omega
  ·intro k hk
   obtain ⟨x,hx,rfl⟩:=dF.1 hk
   exact o.pg x hx
  ·exact E8.2 ⟨fun s hs=>⟨o.key s hs,pS (o.key s hs)⟩,o.ri⟩
  ·show d8 ((eY e).getLastD []) (ay e)=true
   unfold d8
   rcases o.hi with h | ⟨hk,ha⟩
   ·rw [h];rfl
   ·rw [hk,Uy hk ha];simp
theorem sj {e:Su} {nx:Int}:okI e nx↔mc e (ay e)/\0<=nx/\nx<=1024:=TY
theorem YS {a b:List Bs} (h:a.Sublist b):bU a<=bU b:=by
 induction h with
 | slnil=>exact bq _
 | cons x _ ih=>rw [bU];omega
 | cons_cons x _ ih=>rw [bU,bU];omega
theorem Kd {e e':Su} {h:Bs} (o:mc e h) (hne:e'≠[]) (hp:∀x∈e',∃y∈e,y.1=x.1) (hs:(eY e').Sublist (eY e)):mc e' h:=by
 refine ⟨hne,fun x hx=>?_,fun s h=>o.key s (hs.subset h),o.ri.sublist hs,?_,?_⟩
 ·obtain ⟨y,hy,e⟩:=hp x hx
  rw [<-e];exact o.pg y hy
 ·rcases o.hi with h | ⟨h1,h2⟩
  ·exact .inl h
  ·exact .inr ⟨h1,fun s h=>h2 s (hs.subset h)⟩
 ·have:=YS hs
  have:=o.sz
  omega
theorem AP (a:Su) (x:Int × Bs) (b:Su):eY (a++x::b)=a.map (·.2)++eY (x::b):=by
 unfold eY
 rw [pD,gv]
theorem AQ (x y:Int × Bs) (b:Su):eY (x::y::b)=x.2::eY (y::b):=rfl
theorem Nn (w:Bool) (h:Bs) (e:Su):eY (hS w h e)=eY e:=by
 rcases dQ e with rfl | ⟨e',⟨z,hz⟩,rfl⟩
 ·rfl
 ·rw [gq,lC,AP,AP];rfl
theorem XZ (e:Su):(eY e).Sublist (e.map (·.2)):=List.Sublist.map _ (List.dropLast_sublist _)
theorem TX {e:Su} (o:mc e (ay e)) {w:Bool} {h:Bs} (hk:h=[]∨bi h=true) (hl:∀x∈e,af x.2 h):mc (hS w h e) (ay (hS w h e)):=by
 have hs:=Nn w h e
 refine ⟨Tw w h o.ne,?_,by rw [hs];exact o.key,by rw [hs];exact o.ri,?_,by rw [hs];exact o.sz⟩
 ·intro x hx
  obtain ⟨e',⟨z,hz⟩,rfl⟩:=qz o.ne
  rw [lC] at hx
  rcases aV.1 hx with hx | hx
  ·exact o.pg x (by simp [hx])
  ·have:x=(z,bif w then h else hz):=by simpa using hx
   rw [this];exact o.pg (z,hz) (by simp)
 ·rw [hs,Dw w h o.ne]
  cases w with
  | false=>exact o.hi
  | true =>
   show h=[]∨(bi h=true/\∀s∈eY e,lt s h=true)
   rcases hk with hk | hk
   ·exact .inl hk
   ·refine .inr ⟨hk,fun s hs=>?_⟩
    obtain ⟨x,hx,rfl⟩:=dF.1 ((XZ e).subset hs)
    exact (hl x hx).2.resolve_left (ol hk)
theorem TZ {e1:Su} {y:Int} {hy:Bs} {p:Int} {h:Bs} {e2:Su} {g:Bs} (o:mc (e1++(y,hy)::(p,h)::e2) g):mc (e1++(y,h)::e2) g:=by
 refine Kd o (by simp) ?_ ?_
 ·intro x hx
  rcases aV.1 hx with hx | hx
  ·exact ⟨x,by simp [hx],rfl⟩
  ·rcases bw.1 hx with rfl | hx
   ·exact ⟨(y,hy),by simp,rfl⟩
   ·exact ⟨x,by simp [hx],rfl⟩
 ·rw [AP,AP,AQ]
  refine List.Sublist.append_left ?_ _
  cases e2 with
  | nil=>exact List.nil_sublist _
  | cons x e2=>rw [AQ,AQ];exact (List.Sublist.refl _).cons _
theorem TW {p:Int} {h:Bs} {x:Int × Bs} {e2:Su} {g:Bs} (o:mc ((p,h)::x::e2) g):mc (x::e2) g :=
 Kd o (by simp) (fun z hz=>⟨z,by simp [hz],rfl⟩) (by rw [AQ];exact (List.Sublist.refl _).cons _)
theorem Xf {r:Int} {up:List IL} {p:Int} {h:Bs} {a c:Su} {sts:List an} {w:Bool} {up':List IL} {gs zo:List Nd} {xo X:Nd} (hr:Rm r up p h a c sts w up' gs zo xo X) :
  (∀l∈up,cd okI l 0)->HP (a++(p,h)::c)->(h=[]∨bi h=true)->∀l∈up',cd okI l 0:=by
 induction hr with
 | @one up q p h pre post sts w up' gs zo xo X _ ih =>
  intro hI hP hk l hl
  have h0:=hI _ (bV ..)
  obtain ⟨ok1,⟨ok3,ok2⟩⟩:=(eW _ _ _).1 h0
  have ok2:cd okI post 0:=ok2
  rcases bw.1 hl with rfl | hl
  ·refine (eW _ _ _).2 ⟨?_,ok2⟩
   rcases dQ pre with rfl | ⟨l',⟨z,ez⟩,rfl⟩
   ·trivial
   ·rw [gq] at ok1 hP |-
    rw [wG]
    obtain ⟨k1,k2,_⟩:=(eW _ _ _).1 ok1
    refine (eW _ _ _).2 ⟨k1,?_,trivial⟩
    have o:=(sj.1 k2).1
    have hx:=(sj.1 ok3).2
    refine sj.2 ⟨TX o hk fun x hx=>?_,hx⟩
    have e:aJ (l'++[(z,ez)])=aJ l'++ez:=by simp [aJ]
    rw [e] at hP
    exact (du.1 hP).2.2 x (by simp [hx]) (p,h) (by simp)
  ·have e0:aJ pre++(p,h)::aJ post=aJ (pre++(q,[(p,h)])::post):=by simp [aJ]
   rw [e0] at hP
   have:=zw (gM h0) hP
   have e':be (pre++(q,[(p,h)])::post)=be pre++(q,h)::be post:=by simp [be,ay]
   rw [e'] at this
   exact ih (fun l hl=>hI l (by simp [hl])) this hk l hl
 | @left up q p y h hy e1 e2 pre post sts hup =>
  intro hI hP hk l hl
  have h0:=hI _ (bV ..)
  obtain ⟨ok1,⟨ok3,ok2⟩⟩:=(eW _ _ _).1 h0
  rcases bw.1 hl with rfl | hl
  ·refine (eW _ _ _).2 ⟨ok1,?_,ok2⟩
   have o:=sj.1 ok3
   refine sj.2 ⟨?_,o.2⟩
   rw [Dv e1 y hy p h e2]
   exact TZ o.1
  ·exact hI l (by simp [hl])
 | @first up q p h x e2 pre post sts hup =>
  intro hI hP hk l hl
  have h0:=hI _ (bV ..)
  obtain ⟨ok1,⟨ok3,ok2⟩⟩:=(eW _ _ _).1 h0
  rcases bw.1 hl with rfl | hl
  ·refine (eW _ _ _).2 ⟨ok1,?_,ok2⟩
   have o:=sj.1 ok3
   refine sj.2 ⟨?_,o.2⟩
   have:=TW o.1
   rwa [j4 _ (by simp)] at this
  ·exact hI l (by simp [hl])
def c1 (x a:Int × Bs):Nat:=if a=x then 1 else 0
def cn (x:Int × Bs):Es->Nat
 | []=>0
 | a::l=>c1 x a+cn x l
theorem ji (x:Int × Bs):∀(a b:Es),cn x (a++b)=cn x a+cn x b
 | [],b=>by simp [cn]
 | y::a,b=>by rw [c8,cn,cn,ji x a b];omega
theorem BS (x:Int × Bs):∀l:Es,cn x l=l.count x
 | []=>rfl
 | a::l=>by
  rw [cn,BS x l,List.count_cons,c1]
  by_cases h:a=x
  ·simp [h];omega
  ·simp [h]
theorem jw {a b:Es}:a.Perm b↔∀x,cn x a=cn x b:=by
 rw [List.perm_iff_count]
 exact forall_congr' fun x=>by rw [BS,BS]
theorem kv (x a:Int × Bs) (l:Es):cn x (a::l)=c1 x a+cn x l:=rfl
theorem rk (x:Int × Bs):cn x []=0:=rfl
theorem n9 (x:Nd) (l:List Nd):bP (x::l)=(x.1,aZ x.2.1 x.2.2)::bP l:=rfl
theorem Xh {r:Int} {up:List IL} {p:Int} {h:Bs} {a c:Su} {sts:List an} {w:Bool} {up':List IL} {gs zo:List Nd} {xo X:Nd} (hr:Rm r up p h a c sts w up' gs zo xo X) :
  (∀l∈up,∀x∈l,x.2≠[])->∃R,(cB up).Perm (bP zo++(bP gs++(bP [xo]++R)))/\(cB up').Perm (bP (da w h zo gs)++(bP [X]++R)):=by
 induction hr with
 | @one up q p h pre post sts w up' gs zo xo X hr ih =>
  intro hn
  obtain ⟨R,h1,h2⟩:=ih fun l hl=>hn l (by simp [hl])
  rw [jw] at h1 h2
  rcases dQ pre with rfl | ⟨l,⟨z,ez⟩,rfl⟩
  ·have hz:=(Ax hr fun l hl=>hn l (by simp [hl])).1 rfl
   subst hz
   refine ⟨aO aZ post 0++R,jw.2 fun x=>?_,jw.2 fun x=>?_⟩
   ·have h1:=h1 x
    have e:cB (([]++(q,[(p,h)])::post)::up)=(q,aZ [(p,h)] (aG post 0))::aO aZ post 0++cB up:=rfl
    have e2:rN [] (q+1)=[]:=rfl
    rw [e,e2]
    simp only [ji,kv,n9,dB] at h1 |-
    omega
   ·have h2:=h2 x
    have e:cB ((hI w h []++post)::up')=aO aZ post 0++cB up':=rfl
    have e2:da w h (rN [] (q+1)++[]) ((q,[(p,h)],aG post 0)::gs)=[]:=rfl
    have e3:da w h [] gs=[]:=rfl
    rw [e,e2]
    rw [e3] at h2
    simp only [ji,kv,n9,dB] at h2 |-
    omega
  ·rw [gq]
   refine ⟨aO aZ l (z+1)++aO aZ post 0++R,jw.2 fun x=>?_,jw.2 fun x=>?_⟩
   ·have h1:=h1 x
    have e:cB ((l++[(z,ez)]++(q,[(p,h)])::post)::up)=aO aZ l (z+1)++(z,aZ ez (q+1))::(q,aZ [(p,h)] (aG post 0))::aO aZ post 0++cB up:=by
     rw [lx,bc,iO];rfl
    rw [e,uz]
    simp only [ji,kv,n9,dB,c8] at h1 |-
    omega
   ·have h2:=h2 x
    have e:cB ((hI w h (l++[(z,ez)])++post)::up')=aO aZ l (z+1)++(z,aZ (hS w h ez) (aG post 0))::aO aZ post 0++cB up':=by
     rw [wG,lx,bc,iO];rfl
    have e2:da w h (rN (l++[(z,ez)]) (q+1)++zo) ((q,[(p,h)],aG post 0)::gs)=(z,hS w h ez,aG post 0)::da w h zo gs:=by rw [uz];rfl
    rw [e,e2]
    simp only [ji,kv,n9,dB,c8] at h2 |-
    omega
 | @left up q p y h hy e1 e2 pre post sts hup =>
  intro hn
  refine ⟨aO aZ pre (q+1)++aO aZ post 0++cB up,?_,?_⟩
  ·rw [lx,iO,aO]
   show ((aO aZ pre (q+1)++_::aO aZ post 0)++cB up).Perm (_::(aO aZ pre (q+1)++aO aZ post 0++cB up))
   rw [bc,c8,bc]
   exact nP
  ·rw [lx,iO,aO]
   show ((aO aZ pre (q+1)++_::aO aZ post 0)++cB up).Perm (_::(aO aZ pre (q+1)++aO aZ post 0++cB up))
   rw [bc,c8,bc]
   exact nP
 | @first up q p h x e2 pre post sts hup =>
  intro hn
  refine ⟨aO aZ pre (q+1)++aO aZ post 0++cB up,?_,?_⟩
  ·rw [lx,iO,aO]
   show ((aO aZ pre (q+1)++_::aO aZ post 0)++cB up).Perm (_::(aO aZ pre (q+1)++aO aZ post 0++cB up))
   rw [bc,c8,bc]
   exact nP
  ·rw [lx,iO,aO]
   show ((aO aZ pre (q+1)++_::aO aZ post 0)++cB up).Perm (_::(aO aZ pre (q+1)++aO aZ post 0++cB up))
   rw [bc,c8,bc]
   exact nP
abbrev mA (n r:Nat):Int:=W .u8 (((BitVec.ofInt (IntKind.bits .u8) (n:Int) &&& ~~~(BitVec.ofInt (IntKind.bits .u8) (r:Int))).toNat:Int))
theorem PQ:∀b0 b1 b2 b3 b4 b5 b6 b7:Bool,
  mA (cM b0 b1 b2 b3 b4 b5 b6 b7) 1=(cM false b1 b2 b3 b4 b5 b6 b7:Nat)/\mA (cM b0 b1 b2 b3 b4 b5 b6 b7) 2=(cM b0 false b2 b3 b4 b5 b6 b7:Nat)/\mA (cM b0 b1 b2 b3 b4 b5 b6 b7) 4=(cM b0 b1 false b3 b4 b5 b6 b7:Nat)/\mA (cM b0 b1 b2 b3 b4 b5 b6 b7) 8=(cM b0 b1 b2 false b4 b5 b6 b7:Nat) /\
  mA (cM b0 b1 b2 b3 b4 b5 b6 b7) 16=(cM b0 b1 b2 b3 false b5 b6 b7:Nat)/\mA (cM b0 b1 b2 b3 b4 b5 b6 b7) 32=(cM b0 b1 b2 b3 b4 false b6 b7:Nat)/\mA (cM b0 b1 b2 b3 b4 b5 b6 b7) 64=(cM b0 b1 b2 b3 b4 b5 false b7:Nat)/\mA (cM b0 b1 b2 b3 b4 b5 b6 b7) 128=(cM b0 b1 b2 b3 b4 b5 b6 false:Nat):=by decide +kernel
theorem Pq (f:Nat->Bool) (i:Nat):mA (jS f (i / 8)) (2 ^ (i % 8))=(jS (dY f i false) (i / 8):Nat):=by
 obtain ⟨j,k,hk,e,e1,e2⟩:=Eo i
 rw [e1,e2,e]
 have h:=PQ (f (8 * j)) (f (8 * j+1)) (f (8 * j+2)) (f (8 * j+3)) (f (8 * j+4)) (f (8 * j+5)) (f (8 * j+6)) (f (8 * j+7))
 obtain ⟨h0,h1,h2,h3,h4,h5,h6,h7⟩:=h
 have u:∀m,dY f (8 * j+k) false (8 * j+m)=if m=k then false else f (8 * j+m):=by
  intro m
  unfold dY
  by_cases e:m=k
  ·rw [if_pos (by omega),if_pos e]
  ·rw [if_neg (by omega),if_neg e]
 have u0:=u 0
 rw [dv] at u0
 unfold jS
 rw [u0,u 1,u 2,u 3,u 4,u 5,u 6,u 7]
 rcases Al hk with rfl | rfl | rfl | rfl | rfl | rfl | rfl | rfl<;>assumption
theorem Ts (n:Nat) (hn:n<=1024) (f:Nat->Bool) (i:Nat) (hi:i < n) (hf:f i=true):bB aa al 174 [.ptr 0 0 0,.int .i64 (i:Int)] (bm n (aF n f))=some (rY (0,n,aF n (dY f i false))):=by
 refine Rj _ _ _ (o:=.doneM (.int .i64 0) (bm n (aF n (dY f i false)))) ?_ (.done (by kernel_rfl))
 unfold IS
 have his:lG n f (i:Int)=true:=by unfold lG;rw [aU,hf,decide_eq_true (by omega)];rfl
 rw [decide_eq_true (show (i:Int) ≥ 0 by omega),cond_true,decide_eq_true (show (i:Int) < (n:Int) by omega),bA,cond_false,cD uF (uv n hn f i),bG,his,bA,cond_false,
  Gw i (by omega),aU,ak (decide_eq_true (by omega)),ak (decide_eq_true (by rw [tN];omega)),dI,cO (tL f (by omega)),bH,au (BJ i),bH,ak (decide_eq_true (by omega)),ak (decide_eq_true (by rw [tN];omega)),cO (tL f (by omega)),bH]
 have:=Pq f i
 simp only [mA] at this
 rw [this,HM f false hi]
theorem Im {p:Int}:∀{es:Es},(aw es).Nodup->∀q,q∈aw (eP es p)↔q∈aw es/\q≠p
 | [],_,q=>by simp [eP,aw]
 |(a,x)::es,hn,q=>by
  have hn:=td.1 hn
  rw [eP]
  by_cases h:p=a
  ·subst h
   rw [if_pos rfl]
   constructor
   ·intro hq
    exact ⟨jH _ hq,fun e=>hn.1 (e ▸ hq)⟩
   ·rintro ⟨h1,h2⟩
    rcases bw.1 h1 with h1 | h1
    ·exact absurd h1 h2
    ·exact h1
  ·rw [if_neg h]
   have ih:=Im (p:=p) hn.2 q
   show q∈a::aw (eP es p)↔q∈a::aw es/\q≠p
   rw [bw,bw,ih]
   constructor
   ·rintro (rfl | ⟨h1,h2⟩)
    ·exact ⟨.inl rfl,fun e=>h e.symm⟩
    ·exact ⟨.inr h1,h2⟩
   ·rintro ⟨rfl | h1,h2⟩
    ·exact .inl rfl
    ·exact .inr ⟨h1,h2⟩
theorem B6 {p:Int}:∀{es:Es},(aw (eP es p)).Sublist (aw es)
 | []=>.slnil
 |(a,x)::es=>by
  rw [eP]
  split
  ·exact (List.Sublist.refl _).cons _
  ·exact (B6 (es:=es)).cons_cons _
theorem F7 {n:Nat} {es:Es} (h:bN n es) (p:Int):bN n (eP es p) :=
 ⟨h.le,h.nd.sublist B6,fun q hq=>h.rng q (B6.subset hq)⟩
theorem JW {n:Nat} {es:Es} (h:bN n es) {p:Int} (hp:p∈aw es):bB aa al 127 [.ptr 0 0 0,.int .i64 p] (sM n es)=some (qb (0,n,aP (eP es p),aF n (az (eP es p)))):=by
 have hr:=h.rng p hp
 obtain ⟨k,rfl⟩:∃k:Nat,p=(k:Int):=⟨p.toNat,by omega⟩
 have ht:az (eP es k)=dY (az es) k false:=by
  funext j
  unfold dY az
  have:=Im (p:=(k:Int)) h.nd (j:Int)
  by_cases e:j=k
  ·rw [if_pos e,decide_eq_false]
   rw [this]
   rintro ⟨_,h2⟩
   exact h2 (by rw [e])
  ·rw [if_neg e]
   by_cases hj:(j:Int)∈aw es
   ·rw [decide_eq_true hj,decide_eq_true (this.2 ⟨hj,by omega⟩)]
   ·rw [decide_eq_false hj,decide_eq_false fun q=>hj (this.1 q).1]
 rw [ht]
 refine QQ _ _ _ _ (o:=.doneM (.int .i64 0) (sm n (aP (eP es k)) (aF n (dY (az es) k false)))) ?_ (.done (by kernel_rfl))
 unfold IF
 rw [bY Vi (Ts n h.le (az es) k (by omega) (by unfold az;exact decide_eq_true hp)),dx rfl,cond_true,KZ,hJ]
inductive lh (n:Nat):Int->Es->Int->Es->Prop
 | leaf {r:Int} {es:Es} {l:Lf} (hs:bN n es) (hg:cg es r=some (bh l)) (hr:bZ l=true):lh n r es r es
 | stop {r:Int} {es:Es} {e:Su} {nx:Int} (hs:bN n es) (hg:cg es r=some (bX (ag e nx))) (hr:bv (ag e nx)=true) (h2:2<=e.length):lh n r es r es
 | one {r:Int} {es:Es} {k:Int} {h:Bs} {nx r':Int} {es':Es} (hs:bN n es) (hg:cg es r=some (bX (ag [(k,h)] nx))) (hr:bv (ag [(k,h)] nx)=true):lh n k (eP es r) r' es'->lh n r es r' es'
theorem X9 {n:Nat} {r:Int} {es:Es} {r':Int} {es':Es} (h:lh n r es r' es'):Go qk true 5 (fF 128) (.head 0 (yi r n (aP es) (aF n (az es)))) (.doneM (.tup []) (tM r' n es')):=by
 induction h with
 | @leaf r es l hs hg hr =>
  refine Fp _ _ _ _ ?_ (.refl _)
  unfold AE
  rw [qo hs hg hr,bG]
 | @stop r es e nx hs hg hr h2 =>
  refine Fp _ _ _ _ ?_ (.refl _)
  unfold AE
  rw [oK hs hg hr,bG]
  show (cond (decide (((ae (e.map (·.1))).length:Int) > 1)) _ _)=_
  rw [decide_eq_true (by rw [bO,dA];omega),cond_true]
 | @one r es k h nx r' es' hs hg hr _ ih =>
  refine Fp _ _ _ _ ?_ ih
  unfold AE
  rw [oK hs hg hr,bG,decide_eq_false (by rw [bO];simp),cond_false,bY K5 (JW hs (wE hg))]
  rfl
theorem X8 {n:Nat} {r:Int} {es:Es} {r':Int} {es':Es} (h:lh n r es r' es'):bB aa al 128 [.ptr 0 0 0] (tM r n es)=some (rV (r',n,aP es',aF n (az es'))) :=
 QS _ _ _ _ rfl ⟨_,_,X9 h,by kernel_rfl⟩
theorem Ns {n:Nat}:∀{ups:List IL} {r:Int} {es:Es} {b:LL},WT n r es ups b->(∀x∈b,x.2.1≠[])->∃r' es' ups',lh n r es r' es'/\WF n r' es' ups' b
 | [],r,es,b,h,hne=>by
  have e:=ix h.dn
  obtain ⟨prs,rfl⟩:∃prs,b=[(r,prs,[])]:=by
   match b,e with
   | [(p,prs,hh)],e =>
    simp [bE] at e
    obtain ⟨rfl,rfl⟩:=e
    exact ⟨prs,rfl⟩
   | [],e=>simp [bE] at e
   | _::_::_,e=>simp [bE] at e
  have hr:bZ ⟨prs,[],0⟩=true:=h.okF.1
  have hg:cg es r=some (bh ⟨prs,[],0⟩):=iR h.shf.nd (h.rep.mem_iff.2 (by simp [aO,cj,aG]))
  exact ⟨r,es,[],.leaf h.shf hg hr,h,fun q=>absurd rfl q,fun l hl=>by cases hl⟩
 | l::d,r,es,b,h,hne=>by
  obtain ⟨e,hd⟩:=fS h.dn
  obtain ⟨q,rfl,hq⟩:∃q,l=[(r,q)]/\ay q=[]:=by
   match l,e with
   | [(p,q)],e =>
    simp [be] at e
    obtain ⟨rfl,e⟩:=e
    exact ⟨q,rfl,e⟩
   | [],e=>simp [be] at e
   | _::_::_,e=>simp [be] at e
  have ho:=h.okI _ (bV ..)
  obtain ⟨hqn,hr⟩:okI q 0:=ho.1
  have hat:es.Perm ((r,aZ q 0)::(cB d++aO cj b 0)):=h.rep
  have hg:cg es r=some (bX (ag q 0)):=mI h.shf.nd hat
  by_cases h2:2<=q.length
  ·refine ⟨r,es,_,.stop h.shf hg hr h2,h,fun _=>hne,?_⟩
   intro l hl x hx
   rw [mh,List.getLast?_append] at hl
   have:l=[(r,q)]:=by simpa using hl.symm
   rw [this] at hx
   have:x=(r,q):=by simpa using hx
   rw [this];exact h2
  ·obtain ⟨k,hk,rfl⟩:∃k hk,q=[(k,hk)]:=by
    match q,hqn,h2 with
    | [(k,hk)],_,_=>exact ⟨k,hk,rfl⟩
    | _::_::_,_,h2=>simp at h2
   have e0:hk=[]:=hq
   subst e0
   have hd':Dn [(k,[])] d b:=hd
   have hw:WT n k (eP es r) d b:=⟨F7 h.shf r,B5 h.shf.nd hat,hd',fun l hl=>h.okI l (by simp [hl]),h.okF,h.ord⟩
   obtain ⟨r',es',ups',h1,h3⟩:=Ns hw hne
   exact ⟨r',es',ups',.one h.shf hg hr h1,h3⟩
theorem Nr {α:Type} (a:List α) (x y:α) (b:List α) {n:Nat} (h:n=a.length):(a++x::b).set n y=a++y::b:=by
 subst h
 rw [Bu _ _ (bq _),iI];rfl
theorem wF {α:Type} (a:List α) (x:α) (b:List α) {n:Nat} (h:n=a.length):(a++x::b)[n]? = some x:=by
 subst h
 rw [cJ (bq _),iI];rfl
theorem W4:∀(d:Nat) (M A B:List Int),M.length<=d->A.length+M.length+B.length<=100000->∀{i j:Int},i=A.length->j=(A.length:Int)+M.length - 1 ->
  Go qk true 1 (fF 169) (.head 0 (vO i j (ae (A++(M++B))))) (.doneM (.tup []) [O.row 3 (ae (A++(M.reverse++B))) 0]):=by
 have fin:∀(M A B:List Int),M.length<=1->∀{i j:Int},i=A.length->j=(A.length:Int)+M.length - 1 ->
   Go qk true 1 (fF 169) (.head 0 (vO i j (ae (A++(M++B))))) (.doneM (.tup []) [O.row 3 (ae (A++(M.reverse++B))) 0]):=by
  intro M A B hM i j hi hj
  have e:M.reverse=M:=by
   match M,hM with
   | [],_=>rfl
   | [_],_=>rfl
  rw [e]
  refine MK _ _ _ ?_ (.refl _)
  unfold FC
  rw [decide_eq_false (by omega),cond_false]
 intro d
 induction d with
 | zero=>intro M A B hM _ i j hi hj;exact fin M A B (by omega) hi hj
 | succ d ih =>
  intro M A B hM hl i j hi hj
  by_cases h1:M.length<=1
  ·exact fin M A B h1 hi hj
  obtain ⟨x,M1,rfl⟩:∃x M1,M=x::M1:=by
   match M,h1 with
   | x::M1,_=>exact ⟨x,M1,rfl⟩
   | [],h=>simp at h
  have hne:M1≠[]:=by rintro rfl;simp at h1
  obtain ⟨M2,y,rfl⟩:=qz hne
  simp only [cw,cL,fc] at hM hl hj h1
  have eL:A++(x::(M2++[y])++B)=A++x::(M2++y::B):=by simp
  have eL2:A++x::(M2++y::B)=(A++x::M2)++y::B:=by simp
  have eR:A++((x::(M2++[y])).reverse++B)=(A++[y])++(M2.reverse++(x::B)):=by simp
  have eN:(A++[y])++(M2++(x::B))=A++y::(M2++x::B):=by simp
  have eN2:A++y::(M2++x::B)=(A++y::M2)++x::B:=by simp
  have eM2:A++y::(M2++y::B)=(A++y::M2)++y::B:=by simp
  have w1:W .i64 (i+1)=i+1:=aK (by omega)
  have w2:W .i64 (j - 1)=j - 1:=aK (by omega)
  have ih:=ih M2 (A++[y]) (x::B) (by omega) (by simp;omega) (i:=i+1) (j:=j - 1) (by simp;omega) (by simp;omega)
  rw [eR,eL]
  rw [eN] at ih
  refine MK _ _ _ ?_ ih
  have hiN:i.toNat=A.length:=by omega
  have hjN:j.toNat=(A++x::M2).length:=by simp;omega
  have hjN2:j.toNat=(A++y::M2).length:=by simp;omega
  have g1:(A++x::(M2++y::B))[j.toNat]? = some y:=by rw [eL2];exact wF _ _ _ hjN
  have g2:(A++x::(M2++y::B))[i.toNat]? = some x:=wF _ _ _ hiN
  have g3:(A++y::(M2++y::B))[j.toNat]? = some y:=by rw [eM2];exact wF _ _ _ hjN2
  have st1:(A++x::(M2++y::B)).set i.toNat y=A++y::(M2++y::B):=Nr _ _ _ _ hiN
  have st2:(A++y::(M2++y::B)).set j.toNat x=A++y::(M2++x::B):=by rw [eM2,Nr _ _ _ _ hjN2,eN2]
  have l1:j.toNat < (ae (A++x::(M2++y::B))).length:=by rw [bO];simp;omega
  have l2:i.toNat < (ae (A++x::(M2++y::B))).length:=by rw [bO];simp;omega
  have l3:j.toNat < (ae (A++y::(M2++y::B))).length:=by rw [bO];simp;omega
  unfold FC
  rw [decide_eq_true (by omega),cond_true,ak (decide_eq_true (by omega)),ak (decide_eq_true l1),d9 g1,bH,ak (decide_eq_true (by omega)),ak (decide_eq_true l2),d9 g2,bH,ak (decide_eq_true (by omega)),ak (decide_eq_true l2),d9 g2,bH,
   zE,st1,ak (decide_eq_true (by omega)),ak (decide_eq_true l3),d9 g3,bH,zE,st2,w1,w2]
theorem W0 (l:List Int) (hl:l.length<=100000):bB aa al 169 [.own 0] [O.row 3 (ae l) 0]=some (rW (ae l.reverse)):=by
 have w:W .i64 (((ae l).length:Int) - 1)=(l.length:Int) - 1:=by rw [bO,aK (by omega)]
 have:=W4 l.length l [] [] (bq _) (by simpa using hl) (i:=0) (j:=(l.length:Int) - 1) rfl (by simp)
 simp only [dB,c7] at this
 refine Ri _ ?_ ⟨_,_,this,by kernel_rfl⟩
 unfold IR
 rw [w]
inductive jE (es:Es):List an->List Int->Prop
 | nil:jE es [] []
 | stop {q:Int} {e:Su} {nx:Int} {i:Nat} {sts:List an} {y:Int} (hr:bv (ag e nx)=true) (hi:0 < i) (hy:(ag e nx).kids[i - 1]? = some y):jE es ((q,e,nx,i)::sts) [y]
 | none {q:Int} {e:Su} {nx:Int} {sts:List an}:jE es sts []->jE es ((q,e,nx,0)::sts) []
 | down {q:Int} {e:Su} {nx:Int} {sts:List an} {z:Int} {zs:List Int} {ez:Su} {nz y:Int} {hy:Bs}:jE es sts (z::zs)->cg es z=some (bX (ag (ez++[(y,hy)]) nz))->bv (ag (ez++[(y,hy)]) nz)=true->jE es ((q,e,nx,0)::sts) (y::z::zs)
theorem Hs {es:Es} {sts:List an} {out:List Int} (h:jE es sts out):out.length<=sts.length:=by
 induction h with
 | nil=>simp
 | stop=>simp
 | none=>simp
 | down _ _ _ ih=>simp at ih |-;omega
theorem Gq {Q D:List an} {x:an} {sts:List an} (h:Q=(x::sts).reverse++D):(dX Q)[sts.length]? = some (jD x):=by
 have:Q=sts.reverse++x::D:=by rw [h];simp
 rw [this]
 unfold dX
 rw [gv,cU]
 exact wF _ _ _ (by simp)
theorem oc {l:List V} {i:Nat} {x:an} {k:V->R} (h:l[i]? = some (jD x)):aH l i k=k (jD x):=cO h
section
variable {n:Nat} {r:Int} {es:Es} {lv:Int}
theorem Ht (hS:bN n es) (Q:List an) (hW:Q.length<=10000):∀(sts:List an),jE es sts []->∀D,Q=sts.reverse++D ->
  Go qk true 5 (fF 124) (.head 0 (vL (dX Q) lv ((sts.length:Int) - 1) r n (aP es) (aF n (az es)))) (.doneM (.own 6) (tM r n es++[O.row 3 [] 0,O.row 3 [] 0]))
 | [],_,D,_=>by
  refine AD _ _ _ _ _ _ _ ?_ (.refl _)
  unfold xu
  rw [decide_eq_false (by simp),cond_false,decide_eq_true (by simp),cond_true]
 | x::sts,h,D,hd=>by
  cases h with
  | @none q e nx _ h =>
   have hst:jD (q,e,nx,0) = .agg [.int .i64 q,.sl (aE (ag e nx).seps),.sl (ae (ag e nx).kids),.str (ay e),.int .i64 nx,.int .i64 ((0:Nat):Int)]:=rfl
   have hl:sts.length+1+D.length=Q.length:=by rw [hd];simp;omega
   have hx:=Gq hd
   have w:W .i64 (((((q,e,nx,0)::sts:List an)).length:Int) - 1 - 1)=(sts.length:Int) - 1:=by rw [aK (by simp;omega)];simp
   have ih:=Ht hS Q hW sts h ((q,e,nx,0)::D) (by rw [hd];simp)
   refine AD _ _ _ _ _ _ _ ?_ ih
   unfold xu
   have ei:(((((q,e,nx,0)::sts:List an)).length:Int) - 1).toNat=sts.length:=by simp
   rw [decide_eq_true (by simp),cond_true,ak rfl,ei,oc hx,hst,lq,dx (show ((0:Nat):Int)=0 from rfl),cond_true,w]
theorem Hu (hS:bN n es) (Q:List an) (hW:Q.length<=10000) {o:cI}:∀(sts:List an) (y:Int) (out:List Int),jE es sts (y::out)->∀D,Q=sts.reverse++D->∀m,m+sts.length=Q.length+out.length ->
  Go qk true 5 (fF 124) (.head 1 (tA lv y (m:Int) (out.length:Int) r n (aP es) (aF n (az es)) (ae (y::out).reverse))) o ->
  Go qk true 5 (fF 124) (.head 0 (vL (dX Q) lv ((sts.length:Int) - 1) r n (aP es) (aF n (az es)))) o
 | x::sts,y,out,h,D,hd,m,hm,hg=>by
  have hl:sts.length+1+D.length=Q.length:=by rw [hd];simp;omega
  have hx:=Gq hd
  cases h with
  | @stop q e nx i _ _ hr hi hy =>
   have hst:jD (q,e,nx,i) = .agg [.int .i64 q,.sl (aE (ag e nx).seps),.sl (ae (ag e nx).kids),.str (ay e),.int .i64 nx,.int .i64 ((i:Nat):Int)]:=rfl
   have w0:W .i64 (((dX Q).length:Int) - 1)=(Q.length:Int) - 1:=by rw [qB,aK (by omega)]
   have w1:W .i64 ((Q.length:Int) - 1 - (((((q,e,nx,i)::sts:List an)).length:Int) - 1))=(m:Int):=by rw [aK (by simp;omega)];simp at hm |-;omega
   have w2:W .i64 ((i:Int) - 1)=((i - 1:Nat):Int):=by
    have:=(aS.1 hy).1
    have:=(lU hr).kids
    rw [aK (by omega)];omega
   refine AD _ _ _ _ _ _ _ ?_ hg
   unfold xu
   have ei:(((((q,e,nx,i)::sts:List an)).length:Int) - 1).toNat=sts.length:=by simp
   rw [decide_eq_true (by simp),cond_true,ak rfl,ei,oc hx,hst,lq,dJ (by omega),cond_false,decide_eq_false (by simp),cond_false,ak rfl,oc hx,hst,lq,ak rfl,oc hx,hst,lq,
    w2,ak (by simp),aU,d9 hy,bH,w0,w1]
   rfl
  | @down q e nx _ z zs ez nz _ hy h hg2 hr =>
   have hst:jD (q,e,nx,0) = .agg [.int .i64 q,.sl (aE (ag e nx).seps),.sl (ae (ag e nx).kids),.str (ay e),.int .i64 nx,.int .i64 ((0:Nat):Int)]:=rfl
   have w:W .i64 (((((q,e,nx,0)::sts:List an)).length:Int) - 1 - 1)=(sts.length:Int) - 1:=by rw [aK (by simp;omega)];simp
   have hlen:=Hs h
   simp only [cw] at hlen hm
   have ih:=Hu hS Q hW (o:=o) sts z zs h ((q,e,nx,0)::D) (by rw [hd];simp) m (by omega) ?_
   ·refine AD _ _ _ _ _ _ _ ?_ ih
    unfold xu
    have ei:(((((q,e,nx,0)::sts:List an)).length:Int) - 1).toNat=sts.length:=by simp
    rw [decide_eq_true (by simp),cond_true,ak rfl,ei,oc hx,hst,lq,dx (show ((0:Nat):Int)=0 from rfl),cond_true,w]
   ·have ek:(ag (ez++[(y,hy)]) nz).kids=ez.map (·.1)++[y]:=by simp
    have hkl:(ae (ag (ez++[(y,hy)]) nz).kids).length=ez.length+1:=by rw [ek,bO];simp
    have hez:ez.length<=1000:=by
     have:=(lU hr).kids
     rw [ek] at this
     simp at this
     omega
    have w3:W .i64 (((ez.length+1:Nat):Int) - 1)=((ez.length:Nat):Int):=by rw [aK (by omega)];omega
    have w4:W .i64 ((zs.length:Int)+1)=((z::zs).length:Int):=by rw [aK (by omega)];simp
    have hyk:(ag (ez++[(y,hy)]) nz).kids[ez.length]? = some y:=by rw [ek];exact wF _ _ [] (by simp)
    refine MC _ _ _ _ _ _ _ _ _ ?_ hg
    unfold Fo
    rw [decide_eq_true (by omega),cond_true,oK hS hg2 hr,bG,hkl,w3,ak (by simp),aU,d9 hyk,bH,ak (decide_eq_true (by rw [bO];simp;omega)),w4]
    simp [ae]
end
theorem PE {c m:List O} {id off len:Nat} {e:TypeId} {els:List V} {fz:Nat} (hm:m[id]? = some (.row e els fz)) (h:off+len<=els.length) :
  gT al c (.win id off len) m=rh al.row (cH c) (List.range' (cH c) (c.length - cH c)) c c (.sl ((els.drop off).take len)) (freezeAll [id] m):=by
 unfold gT sL
 simp [Gb,xB,dO,bW,hm,if_pos h,sK,gb]
theorem OO {n:Nat} {r:Int} {es:Es} (hS:bN n es) (Q:List an) (hW:Q.length<=10000) {out:List Int} (h:jE es Q.reverse out) (lv:Nat) (hlv:lv<=10000) :
  bB aa al 124 [.ptr 0 0 0,.sl (dX Q),.int .i64 (lv:Int)] (tM r n es)=some (qa (tM r n es) (ae (out.take lv))):=by
 have w0:W .i64 (((dX Q).length:Int) - 1)=((Q.reverse.length:Nat):Int) - 1:=by rw [qB,aK (by omega)];simp
 have hol:=Hs h
 rw [xU] at hol
 cases out with
 | nil =>
  have:=Ht (lv:=(lv:Int)) (r:=r) hS Q hW Q.reverse h [] (by simp)
  refine IE _ _ _ _ _ _ ?_ ⟨_,_,this,by rw [List.take_nil];kernel_rfl⟩
  unfold Ci
  rw [w0]
 | cons y out =>
  have hg:∃mm,Go qk true 5 (fF 124) (.head 1 (tA lv y (out.length:Int) (out.length:Int) r n (aP es) (aF n (az es)) (ae (y::out).reverse))) (.doneM (V.win 6 0 (min (out.length+1) lv - 0)) mm)/\mm=tM r n es++[O.row 3 [] 0,O.row 3 (ae (y::out)) 0]:=by
   refine ⟨_,MC _ _ _ _ _ _ _ _ _ ?_ (.refl _),rfl⟩
   unfold Fo
   have:=W0 (y::out).reverse (by simp at hol |-;omega)
   rw [Bt] at this
   have em:(if (((y::out).length:Nat):Int) < (lv:Int) then (((y::out).length:Nat):Int) else (lv:Int))=((min (out.length+1) lv:Nat):Int):=by
    simp only [cw]
    split<;>omega
   rw [decide_eq_false (by omega),cond_false,bY Vh this,ak (oU _),bO,em,ak (by simp),aU,ak (decide_eq_true (by simp only [cw];omega))]
  obtain ⟨mm,hg,rfl⟩:=hg
  have:=Hu hS Q hW (lv:=lv) (r:=r) Q.reverse y out h [] (by simp) out.length (by rw [xU,pb]) hg
  have et:(y::out).take lv=((y::out).drop 0).take (min (out.length+1) lv - 0):=by
   rw [Nat.sub_zero,qN]
   by_cases af:lv<=out.length+1
   ·rw [Nat.min_eq_right af]
   ·rw [vE (by omega),jI (by simp;omega),jI (by simp)]
  have et2:ae ((y::out).take lv)=((ae (y::out)).drop 0).take (min (out.length+1) lv - 0):=by rw [et];simp [ae,List.map_take]
  rw [et2]
  refine IE _ _ _ _ _ _ ?_ ⟨_,_,this,(PE (e:=3) (els:=ae (y::out)) (fz:=0) rfl (by rw [bO,cw];omega)).trans (by kernel_rfl)⟩
  unfold Ci
  rw [w0]
def cF (es:Es) (l:Es):Es:=l.foldl (fun e x=>aT e x.1 x.2) es
def pN (es:Es) (l:List Int):Es:=l.foldl eP es
theorem GF:∀{L L':Es} {es R:Es},(aw es).Nodup->es.Perm (L++R)->aw L=aw L'->(cF es L').Perm (L'++R)/\(aw (cF es L')).Nodup
 | [],[],es,R,hn,h,_=>⟨h,hn⟩
 |(a,x)::L,[],_,_,_,_,e=>by simp [aw] at e
 | [],(a,x)::L,_,_,_,_,e=>by simp [aw] at e
 |(a,x)::L,(a',y)::L',es,R,hn,h,e=>by
  have e:a::aw L=a'::aw L':=e
  obtain ⟨rfl,e2⟩:=List.cons.inj e
  have hp:=jy (b':=y) hn h
  have hk:aw (aT es a y)=aw es:=ng (gf h)
  have:=GF (L:=L) (L':=L') (es:=aT es a y) (R:=(a,y)::R) (by rw [hk];exact hn) (hp.trans List.perm_middle.symm) e2
  exact ⟨this.1.trans nP,this.2⟩
theorem F8 {n:Nat}:∀{L L':Es} {es R:Es},bN n es->es.Perm (L++R)->aw L=aw L'->bN n (cF es L')
 | [],[],es,R,hs,h,_=>hs
 |(a,x)::L,[],_,_,_,_,e=>by simp [aw] at e
 | [],(a,x)::L,_,_,_,_,e=>by simp [aw] at e
 |(a,x)::L,(a',y)::L',es,R,hs,h,e=>by
  have e:a::aw L=a'::aw L':=e
  obtain ⟨rfl,e2⟩:=List.cons.inj e
  exact F8 (L:=L) (L':=L') (es:=aT es a y) (R:=(a,y)::R) (iZ hs (gf h)) ((jy (b':=y) hs.nd h).trans List.perm_middle.symm) e2
theorem J0 {n:Nat}:∀{G:Es} {es R:Es},bN n es->es.Perm (G++R)->(pN es (aw G)).Perm R/\bN n (pN es (aw G))
 | [],es,R,hs,h=>⟨h,hs⟩
 |(a,x)::G,es,R,hs,h=>J0 (G:=G) (es:=eP es a) (F7 hs a) (B5 hs.nd h)
theorem Qp (e1:Su) (y:Int) (hy:Bs) (p:Int) (h:Bs) (e2:Su) (nx:Int):rm (ag (e1++(y,hy)::(p,h)::e2) nx) (e1.length+1)=ag (e1++(y,h)::e2) nx:=by
 unfold rm ag
 have hl:(e1.map (·.2)).length=e1.length:=by simp
 have hd:((e1++(y,hy)::(p,h)::e2).dropLast.map (·.2))=e1.map (·.2)++hy::eY ((p,h)::e2):=by
  rw [pD];simp [eY,List.dropLast]
 have hd2:((e1++(y,h)::e2).dropLast.map (·.2))=e1.map (·.2)++eY ((y,h)::e2):=by
  rw [pD];simp [eY]
 have hse:eY ((y,h)::e2)=eY ((p,h)::e2):=by
  cases e2 with
  | nil=>rfl
  | cons x e2=>rfl
 have hk:(e1++(y,hy)::(p,h)::e2).map (·.1)=(e1.map (·.1)++[y])++p::e2.map (·.1):=by simp
 have hkl:(e1.map (·.1)++[y]).length=e1.length+1:=by simp
 refine congr (congr (congr (congrArg br.mk ?_) ?_) (Dv e1 y hy p h e2).symm) rfl
 ·rw [hd,hd2,hse,Nat.add_sub_cancel,lX _ _ hl,show e1.map (·.2)++hy::eY ((p,h)::e2)=(e1.map (·.2)++[hy])++eY ((p,h)::e2) by simp,pC _ _ (by simp)]
 ·rw [hk,lX _ _ hkl,show (e1.map (·.1)++[y])++p::e2.map (·.1)=(e1.map (·.1)++[y,p])++e2.map (·.1) by simp,pC _ _ (by simp)]
  simp
theorem Qo (p:Int) (h:Bs) (x:Int × Bs) (e2:Su) (nx:Int):rm (ag ((p,h)::x::e2) nx) 0=ag (x::e2) nx:=by
 unfold rm ag
 refine congr (congr (congr (congrArg br.mk ?_) ?_) (j4 (p,h) (by simp))) rfl
 ·simp [List.dropLast]
 ·simp
structure Hk (sts:List an) (w:Bool) (gs:List Nd) (xo X:Nd) (h:Bs) (ss:List an) (xi:Nat) (rest:List an):Prop where
 fst:sts=ss++(xo.1,xo.2.1,xo.2.2,xi)::rest
 fgs:gs=ss.map fun s=>(s.1,s.2.1,s.2.2.1)
 one:∀s∈ss,s.2.1.length=1
 hi:∀g∈gs,ay g.2.1=h
 two:2<=xo.2.1.length
 fw:w=decide ((xi:Int) > 0)
 pg:X.1=xo.1
 lti:xi < xo.2.1.length
 del:rm (ag xo.2.1 xo.2.2) xi=ag X.2.1 X.2.2
theorem Xi {r:Int} {up:List IL} {p:Int} {h:Bs} {a c:Su} {sts:List an} {w:Bool} {up':List IL} {gs zo:List Nd} {xo X:Nd} (hr:Rm r up p h a c sts w up' gs zo xo X):∃ss xi rest,Hk sts w gs xo X h ss xi rest:=by
 induction hr with
 | @one up q p h pre post sts w up' gs zo xo X _ ih =>
  obtain ⟨ss,xi,rest,t⟩:=ih
  refine ⟨(q,[(p,h)],aG post 0,0)::ss,xi,rest,⟨by rw [t.fst];rfl,by rw [t.fgs];rfl,?_,?_,t.two,t.fw,t.pg,t.lti,t.del⟩⟩
  ·intro s hs
   rcases bw.1 hs with rfl | hs
   ·rfl
   ·exact t.one s hs
  ·intro g hg
   rcases bw.1 hg with rfl | hg
   ·rfl
   ·exact t.hi g hg
 | @left up q p y h hy e1 e2 pre post sts _ =>
  exact ⟨[],e1.length+1,sts,⟨rfl,rfl,(by simp),(by simp),(by simp;omega),(by simp),rfl,(by simp),Qp e1 y hy p h e2 _⟩⟩
 | @first up q p h x e2 pre post sts _ =>
  exact ⟨[],0,sts,⟨rfl,rfl,(by simp),(by simp),(by simp),(by simp),rfl,(by simp),Qo p h x e2 _⟩⟩
theorem Kc {n:Nat} {es:Es} (hS:bN n es) {pre post:IL} {q:Int} {e:Su} (h:kf aZ es (pre++(q,e)::post)):cg es q=some (bX (ag e (aG post 0))):=iR hS.nd (h _ (Eg (f:=aZ) pre q e post 0))
theorem LY {n:Nat} {es:Es} (hS:bN n es) {r:Int} {up:List IL} {p:Int} {h:Bs} {a c:Su} {sts:List an} (hp:im r up p h a c sts):(∀l∈up,cd okI l 0)->(∀l∈up,kf aZ es l)->∃out,jE es sts out/\out.take 1=sy a:=by
 induction hp with
 | top=>intro _ _;exact ⟨[],.nil,rfl⟩
 | @st up q e1 p h e2 pre post sts hup ih =>
  intro hI hE
  have hl:=hI _ (bV ..)
  have hIn:=hE _ (bV ..)
  rcases dQ e1 with rfl | ⟨e1',⟨y,hy⟩,rfl⟩
  ·obtain ⟨out,h1,h2⟩:=ih (fun l hl=>hI l (by simp [hl])) (fun l hl=>hE l (by simp [hl]))
   have e0:aJ pre++[]=aJ pre:=c7 _
   rw [e0]
   rcases dQ pre with rfl | ⟨l,⟨z,ez⟩,rfl⟩
   ·have:out=[]:=by
     cases out with
     | nil=>rfl
     | cons z out=>simp [be,sy] at h2
    subst this
    exact ⟨[],.none h1,rfl⟩
   ·rw [gq] at h2 hl hIn |-
    have e1:be (l++[(z,ez)])=be l++[(z,ay ez)]:=by simp [be]
    rw [e1,uL] at h2
    rw [bc] at hl hIn
    obtain ⟨hne,hr⟩:okI ez _:=k6 hl
    have hg:=Kc hS hIn
    obtain ⟨ez',⟨y,hy⟩,rfl⟩:=qz hne
    have e2:aJ (l++[(z,ez'++[(y,hy)])])=(aJ l++ez')++[(y,hy)]:=by simp [aJ]
    rw [e2,uL]
    obtain ⟨rest,rfl⟩:∃rest,out=z::rest:=by
     cases out with
     | nil=>simp at h2
     | cons z' rest=>simp at h2;exact ⟨rest,by rw [h2]⟩
    exact ⟨_,.down h1 hg hr,rfl⟩
  ·rw [gq] at hl hIn hup |-
   obtain ⟨hne,hr⟩:okI (e1'++[(y,hy)]++(p,h)::e2) (aG post 0):=k6 hl
   refine ⟨[y],.stop hr (by simp) ?_,by rw [<-bc,uL];rfl⟩
   simp
theorem Xb {n:Nat} {es:Es} (hS:bN n es) {r:Int} {up:List IL} {p:Int} {h:Bs} {a c:Su} {sts:List an} {w:Bool} {up':List IL} {gs zo:List Nd} {xo X:Nd} (hr:Rm r up p h a c sts w up' gs zo xo X) :
  (∀l∈up,cd okI l 0)->(∀l∈up,kf aZ es l)->∃out,jE es sts out/\out.take (gs.length+1)=sy a++zo.map (·.1):=by
 induction hr with
 | @one up q p h pre post sts w up' gs zo xo X hrm ih =>
  intro hI hE
  have hl:=hI _ (bV ..)
  have hIn:=hE _ (bV ..)
  obtain ⟨out,h1,h2⟩:=ih (fun l hl=>hI l (by simp [hl])) (fun l hl=>hE l (by simp [hl]))
  rcases dQ pre with rfl | ⟨l,⟨z,ez⟩,rfl⟩
  ·have hz:=(Ax hrm fun l hl x hx=>gM (hI l (by simp [hl])) x hx).1 rfl
   subst hz
   have:out=[]:=by
    cases out with
    | nil=>rfl
    | cons z out=>simp [be,sy] at h2
   subst this
   exact ⟨[],.none h1,by simp [rN,aJ,sy]⟩
  ·rw [gq] at h2 hl hIn |-
   have e1:be (l++[(z,ez)])=be l++[(z,ay ez)]:=by simp [be]
   rw [e1,uL] at h2
   rw [bc] at hl hIn
   obtain ⟨hne,hr⟩:okI ez _:=k6 hl
   have hg:=Kc hS hIn
   obtain ⟨ez',⟨y,hy⟩,rfl⟩:=qz hne
   have e2:aJ (l++[(z,ez'++[(y,hy)])])=(aJ l++ez')++[(y,hy)]:=by simp [aJ]
   rw [e2,uL,uz]
   obtain ⟨rest,rfl⟩:∃rest,out=z::rest:=by
    cases out with
    | nil=>simp at h2
    | cons z' rest =>
     have:z'=z:=by simpa using congrArg List.head? h2
     exact ⟨rest,by rw [this]⟩
   refine ⟨_,.down h1 hg hr,?_⟩
   rw [cw,tj,h2]
   rfl
 | @left up q p y h hy e1 e2 pre post sts hup =>
  intro hI hE
  have e:e1++(y,hy)::(p,h)::e2=(e1++[(y,hy)])++(p,h)::e2:=by simp
  have el:(e1++[(y,hy)]).length=e1.length+1:=by simp
  rw [e] at hup hI hE |-
  have:=LY hS (.st hup) hI hE
  rw [el] at this
  simpa using this
 | @first up q p h x e2 pre post sts hup =>
  intro hI hE
  have:=LY hS (.st (e1:=[]) hup) hI hE
  simpa using this
abbrev Nl:=Int × Lf
def d7 (l:List Nl):Es:=l.map fun z=>(z.1,bh z.2)
def fi (w:Bool) (lf:Lf) (zl:List Nl):List Nl:=zl.map fun z=>(z.1,⟨z.2.prs,bif w then lf.high else z.2.high,lf.next⟩)
structure ma (n:Nat) (es:Es) (ws:List an) (pl:Int) (lf:Lf) (w:Bool) (zl:List Nl) (gs zo:List Nd) (xo X:Nd) (ss:List an) (xi:Nat) (rest:List an) (out:List Int) (R:Es):Prop where
 shf:bN n es
 len:ws.length<=1024
 x:Hk ws.reverse w gs xo X lf.high ss xi rest
 ah:jE es ws.reverse out
 fout:out.take (gs.length+1)=zl.map (·.1)++zo.map (·.1)
 zl1:zl.length<=1
 zl0:zl=[]->zo=[]
 zo1:zl≠[]->zo.length=gs.length
 perm:es.Perm (d7 zl++(bP zo++((pl,bh lf)::(bP gs++(bP [xo]++R)))))
 rlf:bZ lf=true
 rzl:∀z∈zl,bZ z.2=true
 rzl':∀z∈fi w lf zl,bZ z.2=true
 rgs:∀g∈gs,bv (ag g.2.1 g.2.2)=true
 rzo:∀z∈zo,z.2.1≠[]/\bv (ag z.2.1 z.2.2)=true
 rzo':∀z∈da w lf.high zo gs,bv (ag z.2.1 z.2.2)=true
 rxo:bv (ag xo.2.1 xo.2.2)=true
 rX:bv (ag X.2.1 X.2.2)=true
def rn (es:Es) (pl:Int) (lf:Lf) (w:Bool) (zl:List Nl) (gs zo:List Nd) (X:Nd):Es :=
 pN (aT (cF es (d7 (fi w lf zl)++bP (da w lf.high zo gs))) X.1 (aZ X.2.1 X.2.2)) (pl::gs.map (·.1))
theorem Lc (w:Bool) (h:Bs):∀(zo gs:List Nd),zo.length=gs.length->(da w h zo gs).map (·.1)=zo.map (·.1)
 | [],[],_=>rfl
 | _::_,[],h=>by simp at h
 | [],_::_,h=>by simp at h
 | z::zo,g::gs,h=>by
  show z.1::(da w _ zo gs).map (·.1)=_
  rw [Lc w _ zo gs (by simpa using h)];rfl
theorem uy (l:List Nd):aw (bP l)=l.map (·.1):=by simp [aw,bP]
theorem Kp (l:List Nl):aw (d7 l)=l.map (·.1):=by simp [aw,d7]
theorem lJ (a b:Es):aw (a++b)=aw a++aw b:=by simp [aw]
section
variable {n:Nat} {es:Es} {ws:List an} {pl:Int} {lf:Lf} {w:Bool} {zl:List Nl} {gs zo:List Nd} {xo X:Nd} {ss:List an} {xi:Nat} {rest:List an} {out:List Int} {R:Es}
theorem ma.keys (d:ma n es ws pl lf w zl gs zo xo X ss xi rest out R):aw (d7 zl++bP zo)=aw (d7 (fi w lf zl)++bP (da w lf.high zo gs)):=by
 rw [lJ,lJ,Kp,Kp,uy,uy]
 have h1:(fi w lf zl).map (·.1)=zl.map (·.1):=by simp [fi]
 rw [h1]
 by_cases h:zl=[]
 ·rw [d.zl0 h];rfl
 ·rw [Lc _ _ _ _ (d.zo1 h)]
theorem ma.left (d:ma n es ws pl lf w zl gs zo xo X ss xi rest out R):(rn es pl lf w zl gs zo X).Perm (d7 (fi w lf zl)++(bP (da w lf.high zo gs)++(bP [X]++R)))/\bN n (rn es pl lf w zl gs zo X):=by
 have hp:=d.perm
 rw [<-bc] at hp
 have h1:=GF d.shf.nd hp d.keys
 have hs1:=F8 d.shf hp d.keys
 have hp2:(cF es (d7 (fi w lf zl)++bP (da w lf.high zo gs))).Perm ((X.1,aZ xo.2.1 xo.2.2)::((((pl,bh lf)::bP gs))++(d7 (fi w lf zl)++(bP (da w lf.high zo gs)++R)))):=by
  refine h1.1.trans (jw.2 fun x=>?_)
  rw [d.x.pg]
  simp only [ji,kv,n9]
  simp only [bP,iH,rk]
  omega
 have hp3:=jy (b':=aZ X.2.1 X.2.2) hs1.nd hp2
 have hs3:=iZ hs1 (b:=aZ X.2.1 X.2.2) (gf hp2)
 have hp4:(aT (cF es (d7 (fi w lf zl)++bP (da w lf.high zo gs))) X.1 (aZ X.2.1 X.2.2)).Perm (((pl,bh lf)::bP gs)++((X.1,aZ X.2.1 X.2.2)::(d7 (fi w lf zl)++(bP (da w lf.high zo gs)++R)))):=by
  refine hp3.trans (jw.2 fun x=>?_)
  simp only [ji,kv]
  omega
 have h5:=J0 hs3 hp4
 have hk:aw ((pl,bh lf)::bP gs)=pl::gs.map (·.1):=by
  show pl::aw (bP gs)=_
  rw [uy]
 rw [hk] at h5
 refine ⟨h5.1.trans (jw.2 fun x=>?_),h5.2⟩
 simp only [ji,kv,n9]
 simp only [bP,iH,rk]
 omega
end
theorem NB {Q D:List an} {x:an} {sts:List an} {i:Int} (h:Q=(x::sts).reverse++D) (hi:i=(sts.length:Int)):(dX Q)[i.toNat]? = some (jD x):=by
 subst hi
 rw [aU]
 exact Gq h
section
variable {n:Nat} {r:Int} {es:Es} {o:cI}
theorem JZ (Q:List an) (hQ:Q.length<=10000):∀(ss sts:List an) (D:List an) (G:List Int),Q=(ss++sts).reverse++D->(∀s∈ss,s.2.1.length=1)->G.length+ss.length<=20000 ->
  Go qk true 5 (fF 81) (.head 0 (vR (dX Q) ((sts.length:Int) - 1) r n (aP es) (aF n (az es)) (ae (G++ss.map (·.1))))) o ->
  Go qk true 5 (fF 81) (.head 0 (vR (dX Q) (((ss++sts).length:Int) - 1) r n (aP es) (aF n (az es)) (ae G))) o
 | [],sts,D,G,_,_,_,hg=>by simpa using hg
 |(q,e,nx,i)::ss,sts,D,G,hd,h1,hG,hg=>by
  have hl:ss.length+sts.length+1+D.length=Q.length:=by rw [hd];simp;omega
  have ih:=JZ Q hQ ss sts ((q,e,nx,i)::D) (G++[q]) (by rw [hd];simp) (fun s hs=>h1 s (by simp [hs])) (by simp at hG |-;omega) (by simpa using hg)
  have e1:=h1 (q,e,nx,i) (by simp)
  have hst:jD (q,e,nx,i) = .agg [.int .i64 q,.sl (aE (ag e nx).seps),.sl (ae (ag e nx).kids),.str (ay e),.int .i64 nx,.int .i64 ((i:Nat):Int)]:=rfl
  have hx:=NB (i:=((((q,e,nx,i)::ss++sts:List an)).length:Int) - 1) hd (by simp)
  have w:W .i64 (((((q,e,nx,i)::ss++sts:List an)).length:Int) - 1 - 1)=(((ss++sts:List an)).length:Int) - 1:=by rw [aK (by simp;omega)];simp
  refine M4 _ _ _ _ _ _ _ ?_ ih
  unfold FO
  have hkl:((ae (ag e nx).kids).length:Int)=1:=by
   have:(ag e nx).kids.length=1:=by simpa using e1
   rw [bO,this];rfl
  rw [ak (decide_eq_true (by simp;omega)),oc hx,hst,lq,dx hkl,cond_true,ak (decide_eq_true (by simp;omega)),oc hx,hst,lq,ak (decide_eq_true (by rw [bO];simp at hG |-;omega)),w]
  simp [ae]
theorem JX:∀(ps:Es) (i:Nat) (G:List Int) (es R:Es),G.length<=20000->G.drop i=aw ps->i<=G.length->bN n es->es.Perm (ps++R) ->
  Go qk true 5 (fF 81) (.head 2 (tF (G.length:Int) (G.length:Int) r n (aP (pN es (aw ps))) (aF n (az (pN es (aw ps)))) (ae G))) o ->
  Go qk true 5 (fF 81) (.head 2 (tF (G.length:Int) (i:Int) r n (aP es) (aF n (az es)) (ae G))) o
 | [],i,G,es,R,_,hd,hi,_,_,hg=>by
  have h1:=drop_nil hd
  have e:i=G.length:=by omega
  subst e
  exact hg
 |(p,b)::ps,i,G,es,R,hG,hd,hi,hS,hp,hg=>by
  obtain ⟨h1,h2,h3⟩:=fT hd
  have ih:=JX ps (i+1) G (eP es p) R hG h2 (by omega) (F7 hS p) (B5 hS.nd hp) hg
  have w:W .i64 ((i:Int)+1)=((i+1:Nat):Int):=by rw [aK (by omega)];omega
  refine M5 _ _ _ _ _ _ _ ?_ ih
  unfold FQ
  rw [decide_eq_true (by omega),cond_true,ak (by simp),aU,ak (decide_eq_true (by rw [bO];omega)),d9 h1,bH,bY K5 (JW hS (gf hp)),w]
end
theorem Sl (w:Bool) (h:Bs) (ez:Su) (hne:ez≠[]) (nz nq:Int):V.agg [V.sl (aE (ag ez nz).seps),V.sl (ae (ag ez nz).kids),V.str (cond w h (ag ez nz).high),V.int .i64 nq]=eI (ag (hS w h ez) nq):=by
 have h1:(ag ez nz).seps=(ag (hS w h ez) nq).seps:=(Nn w h ez).symm
 have h2:(ag ez nz).kids=(ag (hS w h ez) nq).kids:=by
  obtain ⟨e',⟨z,hz⟩,rfl⟩:=qz hne
  show (e'++[(z,hz)]).map (·.1)=(hS w h (e'++[(z,hz)])).map (·.1)
  rw [lC];simp
 have h3:cond w h (ag ez nz).high=(ag (hS w h ez) nq).high:=(Dw w h hne).symm
 rw [h1,h2,h3]
section
variable {n:Nat} {r:Int} {o:cI}
theorem J5 (A G:List Int) (hA:A.length<=20000) (hGA:A.length<=G.length) {x0:Int} {x1 x2:List V} {x3:List UInt8} {x4 x5:Int} {w:Bool} (hw:w=decide (x5 > 0)) (h:Bs):∀(zo gs:List Nd) (i:Nat) (es R:Es),zo.length=gs.length->bN n es->es.Perm (bP zo++R)->(∀g∈gs,(g.1,aZ g.2.1 g.2.2)∈R) ->
  (∀z∈zo,z.2.1≠[]/\bv (ag z.2.1 z.2.2)=true)->(∀g∈gs,bv (ag g.2.1 g.2.2)=true/\ay g.2.1=h)->(∀z∈da w h zo gs,bv (ag z.2.1 z.2.2)=true)->A.drop i=zo.map (·.1)->(∃T,G.drop i=gs.map (·.1)++T)->i<=A.length ->
  Go qk true 5 (fF 81) (.head 1 (mo (ae A) (A.length:Int) (A.length:Int) r n (aP (cF es (bP (da w h zo gs)))) (aF n (az (cF es (bP (da w h zo gs))))) (ae G) x0 x1 x2 x3 x4 x5)) o ->
  Go qk true 5 (fF 81) (.head 1 (mo (ae A) (A.length:Int) (i:Int) r n (aP es) (aF n (az es)) (ae G) x0 x1 x2 x3 x4 x5)) o
 | [],[],i,es,R,_,_,_,_,_,_,_,hd,_,hi,hg=>by
  have h1:=drop_nil hd
  have e:i=A.length:=by omega
  subst e
  exact hg
 | [],_::_,_,_,_,hl,_,_,_,_,_,_,_,_,_,_=>by simp at hl
 | _::_,[],_,_,_,hl,_,_,_,_,_,_,_,_,_,_=>by simp at hl
 |(z,ez,nz)::zo,(q,eq,nq)::gs,i,es,R,hl,hs,hp,hR,hz,hgs,hnew,hd,⟨T,hdG⟩,hi,hg=>by
  obtain ⟨h1,h2,h3⟩:=fT hd
  obtain ⟨g1,g2,g3⟩:=fT (l:=G) (r:=gs.map (·.1)++T) (by rw [hdG];rfl)
  obtain ⟨hne,hrz⟩:=hz (z,ez,nz) (by simp)
  obtain ⟨hrq,hhq⟩:=hgs (q,eq,nq) (by simp)
  have hrn:bv (ag (hS w h ez) nq)=true:=hnew (z,hS w h ez,nq) (by simp [da])
  have hgz:cg es z=some (bX (ag ez nz)):=mI hs.nd hp
  have hgq:cg es q=some (bX (ag eq nq)):=iR hs.nd (hp.mem_iff.2 (mf _ (hR (q,eq,nq) (by simp))))
  have hp2:=jy (b':=bX (ag (hS w h ez) nq)) hs.nd hp
  have hs2:=iZ hs (b:=bX (ag (hS w h ez) nq)) (gf hp)
  have ih:=J5 A G hA hGA (x0:=x0) (x1:=x1) (x2:=x2) (x3:=x3) (x4:=x4) hw h zo gs (i+1) _ ((z,bX (ag (hS w h ez) nq))::R) (by simpa using hl) hs2 (hp2.trans List.perm_middle.symm) (fun g hg=>jH _ (hR g (by simp [hg]))) (fun y hy=>hz y (by simp [hy])) (fun y hy=>hgs y (by simp [hy])) (fun y hy=>hnew y (by
   show y∈(z,hS w h ez,nq)::da w h zo gs
   simp [hy])) h2 ⟨T,g2⟩ (by omega) hg
  have w1:W .i64 ((i:Int)+1)=((i+1:Nat):Int):=by rw [aK (by omega)];omega
  refine FP _ _ _ _ _ _ _ _ _ _ _ _ _ _ ?_ ih
  unfold AM
  rw [decide_eq_true (by omega),cond_true,ak (by simp),aU,d9 h1,bH,oK hs hgz hrz,bG,ak (by simp),ak (decide_eq_true (by rw [bO];omega)),d9 g1,bH,oK hs hgq hrq,bG]
  show (aI aa _ _ _ [_,_,.ifc 150 (.agg [.sl (aE (ag ez nz).seps),.sl (ae (ag ez nz).kids),.str (cond (decide (x5 > 0)) (ay eq) (ag ez nz).high),.int .i64 nq])] (tM r n es) _)=_
  rw [hhq,<-hw,Sl w h ez hne nz nq,bY gL (qG hs hgz hrn),w1]
end
theorem Ol (xo:Nd) (xi:Nat):jD (xo.1,xo.2.1,xo.2.2,xi) = .agg [.int .i64 xo.1,.sl (aE (ag xo.2.1 xo.2.2).seps),.sl (ae (ag xo.2.1 xo.2.2).kids),.str (ay xo.2.1),.int .i64 xo.2.2,.int .i64 ((xi:Nat):Int)]:=rfl
section
variable {n:Nat} {r:Int} {es:Es} {ws:List an} {pl:Int} {lf:Lf} {w:Bool} {zl:List Nl} {gs zo:List Nd} {xo X:Nd} {ss:List an} {xi:Nat} {rest:List an} {out:List Int} {R:Es} {r':Int} {es':Es}
theorem Qv (d:ma n es ws pl lf w zl gs zo xo X ss xi rest out R) (hsk:lh n r (rn es pl lf w zl gs zo X) r' es') (A:List Int) :
  ∃m,Go qk true 5 (fF 81) (.head 1 (mo (ae A) (A.length:Int) (A.length:Int) r n (aP (cF es (d7 (fi w lf zl)++bP (da w lf.high zo gs)))) (aF n (az (cF es (d7 (fi w lf zl)++bP (da w lf.high zo gs))))) (ae (pl::gs.map (·.1))) xo.1 (aE (ag xo.2.1 xo.2.2).seps) (ae (ag xo.2.1 xo.2.2).kids) (ay xo.2.1) xo.2.2 (xi:Int))) (.doneM (.tup []) m) /\
   ∀r0 n0 e0 b0,gT al (tm r0 n0 e0 b0) (.tup []) m=qd (r',n,aP es',aF n (az es')):=by
 have hp:=d.perm
 rw [<-bc] at hp
 have h1:=GF d.shf.nd hp d.keys
 have hs1:=F8 d.shf hp d.keys
 have hp2:(cF es (d7 (fi w lf zl)++bP (da w lf.high zo gs))).Perm ((X.1,aZ xo.2.1 xo.2.2)::((((pl,bh lf)::bP gs))++(d7 (fi w lf zl)++(bP (da w lf.high zo gs)++R)))):=by
  refine h1.1.trans (jw.2 fun x=>?_)
  rw [d.x.pg]
  simp only [ji,kv,n9]
  simp only [bP,iH,rk]
  omega
 have hgx:=mI hs1.nd hp2
 have hp3:=jy (b':=aZ X.2.1 X.2.2) hs1.nd hp2
 have hs3:=iZ hs1 (b:=aZ X.2.1 X.2.2) (gf hp2)
 have hp4:(aT (cF es (d7 (fi w lf zl)++bP (da w lf.high zo gs))) X.1 (aZ X.2.1 X.2.2)).Perm (((pl,bh lf)::bP gs)++((X.1,aZ X.2.1 X.2.2)::(d7 (fi w lf zl)++(bP (da w lf.high zo gs)++R)))):=by
  refine hp3.trans (jw.2 fun x=>?_)
  simp only [ji,kv]
  omega
 have hk:aw ((pl,bh lf)::bP gs)=pl::gs.map (·.1):=by
  show pl::aw (bP gs)=_
  rw [uy]
 have hgl:gs.length<=1024:=by
  have:=congrArg nL d.x.fst
  rw [d.x.fgs,dA]
  simp at this
  have:=d.len
  omega
 have hdel:jV (ag xo.2.1 xo.2.2) (xi:Int)=(ag X.2.1 X.2.2,0):=by
  unfold jV
  have:=d.x.lti
  have:=d.x.two
  rw [if_pos ⟨d.rxo,by omega,by simp;omega,by simp;omega⟩,aU,d.x.del]
 have hdp:=Qh (ag xo.2.1 xo.2.2) (xi:Int) (lU d.rxo)
 rw [hdel] at hdp
 obtain ⟨E2,hE2⟩:∃E2,E2=aT (cF es (d7 (fi w lf zl)++bP (da w lf.high zo gs))) X.1 (aZ X.2.1 X.2.2):=⟨_,rfl⟩
 obtain ⟨G,hG⟩:∃G,G=pl::gs.map (·.1):=⟨_,rfl⟩
 rw [<-hE2] at hs3 hp4
 rw [<-hG] at hk |-
 have hGl:G.length<=20000:=by rw [hG];simp;omega
 have hdr:rn es pl lf w zl gs zo X=pN E2 G:=by rw [hE2,hG];rfl
 rw [hdr] at hsk
 refine ⟨tM r' n es'++[O.row 3 (ae G) 0],?_,fun r0 n0 e0 b0=>by kernel_rfl⟩
 have h3:Go qk true 5 (fF 81) (.head 2 (tF (G.length:Int) (G.length:Int) r n (aP (pN E2 G)) (aF n (az (pN E2 G))) (ae G))) (.doneM (.tup []) (tM r' n es'++[O.row 3 (ae G) 0])):=by
  refine M5 _ _ _ _ _ _ _ ?_ (.refl _)
  unfold FQ
  rw [decide_eq_false (by omega),cond_false,bY Vg (X8 hsk)]
 rw [<-hk] at h3
 have h2:=JX ((pl,bh lf)::bP gs) 0 G E2 _ hGl (by rw [hk];rfl) (by omega) hs3 hp4 (by rw [hk] at h3 |-;exact h3)
 refine FP _ _ _ _ _ _ _ _ _ _ _ _ _ _ ?_ h2
 unfold AM
 rw [decide_eq_false (by omega),cond_false]
 show (ai aa _ [eI (ag xo.2.1 xo.2.2),_] _)=_
 rw [au hdp,tT]
 show (aI aa _ _ _ [_,.int .i64 xo.1,.ifc 150 (eI (ag X.2.1 X.2.2))] (tM r n (cF es (d7 (fi w lf zl)++bP (da w lf.high zo gs)))) _)=_
 rw [<-d.x.pg,bY gL (qG hs1 hgx d.rX),bO,hE2]
 rfl
theorem Qx (d:ma n es ws pl lf w zl gs zo xo X ss xi rest out R) (hsk:lh n r (rn es pl lf w zl gs zo X) r' es') :
  bB aa al 81 [.ptr 0 0 0,.sl (dX ws),.int .i64 pl] (tM r n es)=some (qd (r',n,aP es',aF n (az es'))):=by
 have hlen:=d.len
 have hsl:ss.length+rest.length+1=ws.length:=by
  have:=congrArg nL d.x.fst
  simp at this
  omega
 have hgs:gs.length=ss.length:=by rw [d.x.fgs,dA]
 have hgk:gs.map (·.1)=ss.map (·.1):=by rw [d.x.fgs,List.map_map];rfl
 obtain ⟨A,hA⟩:∃A,A=zl.map (·.1)++zo.map (·.1):=⟨_,rfl⟩
 obtain ⟨m,hE,hc⟩:=Qv d hsk A
 have hQ:ws=(ss++(xo.1,xo.2.1,xo.2.2,xi)::rest).reverse++[]:=by rw [<-d.x.fst];simp
 have hQ2:ws=((xo.1,xo.2.1,xo.2.2,xi)::rest).reverse++ss.reverse:=by rw [hQ];simp
 have w0:W .i64 (((dX ws).length:Int) - 1)=((ss++(xo.1,xo.2.1,xo.2.2,xi)::rest).length:Int) - 1:=by rw [qB,aK (by omega)];simp;omega
 have hnd:2<=(ag xo.2.1 xo.2.2).kids.length:=by simpa using d.x.two
 have hloop:Go qk true 5 (fF 81) (.head 1 (mo (ae A) (A.length:Int) ((0:Nat):Int) r n (aP es) (aF n (az es)) (ae (pl::gs.map (·.1))) xo.1 (aE (ag xo.2.1 xo.2.2).seps) (ae (ag xo.2.1 xo.2.2).kids) (ay xo.2.1) xo.2.2 (xi:Int))) (.doneM (.tup []) m):=by
  have hzl1:=d.zl1
  match hzl:zl,hzl1 with
  | [],_ =>
   have hzo:=d.zl0 rfl
   subst hzo
   have:A=[]:=by rw [hA];rfl
   subst this
   exact hE
  | [(z,l)],_ =>
   have hzo:=d.zo1 (by simp)
   have hp:=d.perm
   have hp:es.Perm ((z,bh l)::(bP zo++((pl,bh lf)::(bP gs++(bP [xo]++R))))):=hp
   have hgz:=mI d.shf.nd hp
   have hrl:bZ l=true:=d.rzl (z,l) (by simp)
   have hrn:bZ ⟨l.prs,bif w then lf.high else l.high,lf.next⟩=true:=d.rzl' (z,⟨l.prs,bif w then lf.high else l.high,lf.next⟩) (by simp [fi])
   have hgp:cg es pl=some (bh lf):=iR d.shf.nd (hp.mem_iff.2 (by simp))
   have hp2:=jy (b':=bh ⟨l.prs,bif w then lf.high else l.high,lf.next⟩) d.shf.nd hp
   have hs2:=iZ d.shf (b:=bh ⟨l.prs,bif w then lf.high else l.high,lf.next⟩) (gf hp)
   have hA2:A=z::zo.map (·.1):=by rw [hA];rfl
   have hAl:A.length<=gs.length+1:=by rw [hA2];simp;omega
   have hE2:=J5 A (pl::gs.map (·.1)) (by omega) (by simp;omega) (x0:=xo.1) (x1:=aE (ag xo.2.1 xo.2.2).seps) (x2:=ae (ag xo.2.1 xo.2.2).kids) (x3:=ay xo.2.1) (x4:=xo.2.2) d.x.fw lf.high zo gs 1 _ ((z,bh ⟨l.prs,bif w then lf.high else l.high,lf.next⟩)::((pl,bh lf)::(bP gs++(bP [xo]++R)))) hzo hs2
    (hp2.trans List.perm_middle.symm) (fun g hg=>by
     refine jH _ (jH _ (jG _ (dF.2 ⟨g,hg,rfl⟩)))) d.rzo (fun g hg=>⟨d.rgs g hg,d.x.hi g hg⟩) d.rzo' (by rw [hA2];rfl) ⟨[],by simp⟩ (by rw [hA2];simp) hE
   have h1:A[0]? = some z:=by rw [hA2];rfl
   have g1:(pl::gs.map (·.1))[0]? = some pl:=rfl
   have fw:=d.x.fw
   refine FP _ _ _ _ _ _ _ _ _ _ _ _ _ _ ?_ hE2
   unfold AM
   rw [decide_eq_true (by rw [hA2];simp),cond_true,ak (by simp),aU,d9 h1,bH,qo d.shf hgz hrl,bG,ak (by simp),ak (decide_eq_true (by rw [bO];simp)),d9 g1,bH,qo d.shf hgp d.rlf,bG]
   show (aI aa _ _ _ [_,_,.ifc 120 (eL ⟨l.prs,cond (decide ((xi:Int) > 0)) lf.high l.high,lf.next⟩)] (tM r n es) _)=_
   rw [<-fw,bY gL (oW d.shf hgz hrn)]
   rfl
 have hgone:=JZ (r:=r) (es:=es) (n:=n) (o:=.doneM (.tup []) m) ws (by omega) ss ((xo.1,xo.2.1,xo.2.2,xi)::rest) [] [pl] hQ d.x.one (by simp;omega) (by
  have hx:=NB (i:=((((xo.1,xo.2.1,xo.2.2,xi)::rest:List an)).length:Int) - 1) hQ2 (by simp)
  have hah:=OO (r:=r) d.shf ws (by omega) d.ah (gs.length+1) (by omega)
  rw [d.fout,<-hA] at hah
  have hG:[pl]++ss.map (·.1)=pl::gs.map (·.1):=by rw [hgk];rfl
  have hGl:((ae (pl::gs.map (·.1))).length:Int)=((gs.length+1:Nat):Int):=by rw [bO];simp
  rw [hG]
  refine M4 _ _ _ _ _ _ _ ?_ hloop
  unfold FO
  rw [ak (decide_eq_true (by simp)),oc hx,Ol,lq,dJ (by rw [bO];omega),cond_false,ak (decide_eq_true (by simp)),oc hx,Ol,lq,hGl,cD Vf hah,bG,bO]
  rfl)
 refine Sc _ _ _ _ _ _ ?_ ⟨_,_,hgone,hc _ _ _ _⟩
 unfold I7
 rw [w0]
 rfl
end
theorem Wp {r:Int} {up:List IL} {p:Int} {h:Bs} {a c:Su} {sts:List an} (hp:im r up p h a c sts) (h2:yf up) (hu:up≠[]):∃s∈sts,2<=s.2.1.length:=by
 induction hp with
 | top=>exact absurd rfl hu
 | @st up q e1 p h e2 pre post sts hup ih =>
  cases up with
  | nil=>exact ⟨_,bV ..,h2 _ rfl (q,e1++(p,h)::e2) (by simp)⟩
  | cons l up =>
   obtain ⟨s,hs,h3⟩:=ih (fun l' hl=>h2 l' (by rw [List.getLast?_cons_cons];exact hl)) (by simp)
   exact ⟨s,jH _ hs,h3⟩
section
variable {r:Int} {up:List IL} {p:Int} {h:Bs} {a c:Su} {sts:List an} {w:Bool} {up':List IL} {gs zo:List Nd} {xo X:Nd}
theorem Xg (hr:Rm r up p h a c sts w up' gs zo xo X):(∀l∈up,cd okI l 0)->(∀g∈gs,bv (ag g.2.1 g.2.2)=true)/\(∀z∈zo,z.2.1≠[]/\bv (ag z.2.1 z.2.2)=true)/\bv (ag xo.2.1 xo.2.2)=true:=by
 induction hr with
 | @one up q p h pre post sts w up' gs zo xo X _ ih =>
  intro hI
  have hl:=hI _ (bV ..)
  obtain ⟨h1,h2,h3⟩:=ih fun l hl=>hI l (by simp [hl])
  obtain ⟨_,hr⟩:okI [(p,h)] (aG post 0):=k6 hl
  refine ⟨?_,?_,h3⟩
  ·intro g hg
   rcases bw.1 hg with rfl | hg
   ·exact hr
   ·exact h1 g hg
  ·intro z hz
   rcases aV.1 hz with hz | hz
   ·rcases dQ pre with rfl | ⟨l,⟨y,ey⟩,rfl⟩
    ·cases hz
    ·rw [gq] at hl hz
     rw [uz] at hz
     have:z=(y,ey,q+1):=by simpa using hz
     subst this
     rw [bc] at hl
     exact k6 hl
   ·exact h2 z hz
 | @left up q p y h hy e1 e2 pre post sts hup=>intro hI;exact ⟨by simp,by simp,(k6 (hI _ (bV ..))).2⟩
 | @first up q p h x e2 pre post sts hup=>intro hI;exact ⟨by simp,by simp,(k6 (hI _ (bV ..))).2⟩
theorem Xe (hr:Rm r up p h a c sts w up' gs zo xo X):(∀l∈up,∀x∈l,x.2≠[])->(∀l∈up',cd okI l 0)->(∀z∈da w h zo gs,bv (ag z.2.1 z.2.2)=true)/\bv (ag X.2.1 X.2.2)=true:=by
 induction hr with
 | @one up q p h pre post sts w up' gs zo xo X hrm ih =>
  intro hn hI
  have hl:=hI _ (bV ..)
  obtain ⟨h1,h2⟩:=ih (fun l hl=>hn l (by simp [hl])) fun l hl=>hI l (by simp [hl])
  refine ⟨?_,h2⟩
  intro z hz
  rcases dQ pre with rfl | ⟨l,⟨y,ey⟩,rfl⟩
  ·have:=(Ax hrm fun l hl=>hn l (by simp [hl])).1 rfl
   subst this
   cases hz
  ·rw [gq] at hl hz
   rw [wG,bc] at hl
   rw [uz] at hz
   have hz:z∈(y,hS w h ey,aG post 0)::da w h zo gs:=hz
   rcases bw.1 hz with rfl | hz
   ·exact (k6 hl).2
   ·exact h1 z hz
 | @left up q p y h hy e1 e2 pre post sts hup=>intro _ hI;exact ⟨by simp [da],(k6 (hI _ (bV ..))).2⟩
 | @first up q p h x e2 pre post sts hup=>intro _ hI;exact ⟨by simp [da],(k6 (hI _ (bV ..))).2⟩
end
theorem VV {pre post:LL} {p:Int} {prs:List Pr} {h:Bs} {w:Bool} (ho:iJ (pre++(p,prs,h)::post)):iJ (hF w h pre++post):=by
 obtain ⟨h1,h2,h3,h4,h5⟩:=sw ho
 rcases dQ pre with rfl | ⟨l,⟨z,prz,hz⟩,rfl⟩
 ·exact h2
 ·rw [gq] at h1 h3 h5 |-
  rw [uo]
  obtain ⟨q1,_,q3⟩:=du.1 h1
  cases w with
  | false=>exact du.2 ⟨h1,h2,fun y hy z hz=>h5 y hy z hz⟩
  | true =>
   refine du.2 ⟨du.2 ⟨q1,by simp,?_⟩,h2,?_⟩
   ·intro y hy x hx
    have:x=(z,prz,h):=by simpa using hx
    subst this
    have h6:=q3 y hy (z,prz,hz) (by simp)
    exact ⟨Dz h6.1 (h3 (z,prz,hz) (by simp)).1,h6.2⟩
   ·intro y hy x hx
    rcases aV.1 hy with hy | hy
    ·exact h5 y (by simp [hy]) x hx
    ·have:y=(z,prz,h):=by simpa using hy
     subst this
     exact h4 x hx
theorem UM {prz prs:List Pr} {hz h:Bs} {w:Bool} (o:ja prz hz) (o2:ja prs h) (hl:af hz h):ja prz (bif w then h else hz):=by
 cases w with
 | false=>exact o
 | true =>
  refine ⟨o.ri,o.mem,?_,o.wt⟩
  show h=[]∨_
  rcases o2.hi with h1 | ⟨h1,_⟩
  ·exact .inl h1
  ·refine .inr ⟨h1,fun x hx=>?_⟩
   exact lt_trans ((o.hi.resolve_left hl.1).2 x hx) (hl.2.resolve_left (ol h1))
theorem Qw {n:Nat} {r:Int} {es:Es} {ups:List IL} {b:LL} (h:WF n r es ups b) {p:Int} {h':Bs} {ws:List an} {pre post:LL} {prs:List Pr} (hp:im r ups.reverse p h' (bE pre) (bE post) ws.reverse) (hb:b=pre++(p,prs,h')::post) (hws:ws.length=ups.length) (hu:ups≠[]) :
  ∃w zl gs zo xo X ss xi rest out R up',ma n es ws p ⟨prs,h',aG post 0⟩ w zl gs zo xo X ss xi rest out R/\WT n r (rn es p ⟨prs,h',aG post 0⟩ w zl gs zo X) up' (hF w h' pre++post):=by
 have hul:=nB h.toWT
 obtain ⟨w,up',gs,zo,xo,X,hr⟩:=Xd hp (Wp hp h.rt (by simpa using hu))
 have hI:∀l∈ups.reverse,cd okI l 0:=fun l hl=>h.okI l (by simpa using hl)
 have hn:∀l∈ups.reverse,∀x∈l,x.2≠[]:=fun l hl=>gM (hI l hl)
 obtain ⟨hIn,hIf⟩:=rI h.toWT
 obtain ⟨ss,xi,rest,hx⟩:=Xi hr
 obtain ⟨out,ha1,ha2⟩:=Xb h.shf hr hI fun l hl=>hIn l (by simpa using hl)
 obtain ⟨o1,o2,o3⟩:=Xg hr hI
 obtain ⟨z0,z1⟩:=Ax hr hn
 obtain ⟨R0,hp1,hp2⟩:=Xh hr hn
 have hF:=h.okF
 rw [hb] at hF
 obtain ⟨ok1,ok3,ok2⟩:=(eW _ _ _).1 hF
 have hrl:bZ ⟨prs,h',aG post 0⟩=true:=ok3
 obtain ⟨lo,hx0,hx1⟩:=ot hrl
 have hkh:h'=[]∨bi h'=true:=lo.hi.imp id fun q=>q.1
 have hord:=h.ord
 rw [hb] at hord
 have hP:=Af hord
 have eS0:bE (pre++(p,prs,h')::post)=bE pre++(p,h')::bE post:=by simp [bE]
 rw [eS0] at hP
 have hI':=Xf hr hI hP hkh
 obtain ⟨n1,n2⟩:=Xe hr hn hI'
 have hes:es.Perm (cB ups.reverse++aO cj (pre++(p,prs,h')::post) 0):=by
  have:=h.rep
  rw [hb] at this
  exact this.trans (List.Perm.append_right _ wj.symm)
 have hes:=hes.trans (List.Perm.append_right _ hp1)
 have hdn:Dn [(r,[])] up'.reverse (Proofs.YtlphgcjepphhcaaGreat.hF w h' pre++post):=by
  have e:bE (Proofs.YtlphgcjepphhcaaGreat.hF w h' pre++post)=hS w h' (bE pre)++bE post:=by rw [<-YQ];simp [bE]
  have:=Xc hr hn (d:=[]) (b:=Proofs.YtlphgcjepphhcaaGreat.hF w h' pre++post) (by rw [<-e];exact .leaf _)
  rwa [c7] at this
 have hod:=VV (w:=w) hord
 rcases dQ pre with rfl | ⟨l,⟨z,prz,hz⟩,rfl⟩
 ·have hzo:=z0 rfl
  subst hzo
  have d:ma n es ws p ⟨prs,h',aG post 0⟩ w [] gs [] xo X ss xi rest out (R0++aO cj post 0):=by
   refine ⟨h.shf,by omega,hx,ha1,ha2,by simp,fun _=>rfl,fun q=>absurd rfl q,?_,hrl,by simp,by simp [fi],o1,o2,n1,o3,n2⟩
   refine hes.trans (jw.2 fun x=>?_)
   rw [dB,aO]
   simp only [ji,kv,n9,d7,bP,iH,rk,dB]
   have:c1 x (p,cj (prs,h') (aG post 0))=c1 x (p,bh ⟨prs,h',aG post 0⟩):=rfl
   omega
  refine ⟨w,[],gs,[],xo,X,ss,xi,rest,out,_,up'.reverse,d,d.left.2,?_,hdn,fun l hl=>hI' l (by simpa using hl),ok2,hod⟩
  refine d.left.1.trans ?_
  refine List.Perm.trans ?_ (List.Perm.append_right _ (hp2.symm.trans wj.symm))
  show (d7 []++(bP (da w h' [] gs)++(bP [X]++(R0++aO cj post 0)))).Perm (_++aO cj (Proofs.YtlphgcjepphhcaaGreat.hF w h' []++post) 0)
  have:Proofs.YtlphgcjepphhcaaGreat.hF w h' []++post=post:=rfl
  rw [this]
  refine jw.2 fun x=>?_
  simp only [ji,d7,iH,rk,dB]
  omega
 ·rw [gq] at *
  have e1:bE (l++[(z,prz,hz)])=bE l++[(z,hz)]:=by simp [bE]
  rw [e1] at z1 ha2
  rw [uL] at ha2
  have hzl:=z1 (by simp)
  obtain ⟨k1,k2,_⟩:=(eW _ _ _).1 ok1
  have hrz:bZ ⟨prz,hz,p+1⟩=true:=k2
  obtain ⟨zo',_,_⟩:=ot hrz
  have hlt':=((sw hord).2.2.1 (z,prz,hz) (by simp)).1
  have hnew:=oO (UM (w:=w) zo' lo hlt') hx0 hx1
  have d:ma n es ws p ⟨prs,h',aG post 0⟩ w [(z,⟨prz,hz,p+1⟩)] gs zo xo X ss xi rest out (R0++(aO cj l (z+1)++aO cj post 0)):=by
   refine ⟨h.shf,by omega,hx,ha1,ha2,by simp,fun q=>by simp at q,fun _=>hzl,?_,hrl,by simpa using hrz,by simpa [fi] using hnew,o1,o2,n1,o3,n2⟩
   refine hes.trans (jw.2 fun x=>?_)
   have E:aO cj (l++[(z,prz,hz)]++(p,prs,h')::post) 0=aO cj l (z+1)++(z,bh ⟨prz,hz,p+1⟩)::(p,bh ⟨prs,h',aG post 0⟩)::aO cj post 0:=by
    rw [bc,iO];rfl
   rw [E]
   simp only [ji,kv,n9,d7,cU,iH,rk,dB]
   omega
  refine ⟨w,[(z,⟨prz,hz,p+1⟩)],gs,zo,xo,X,ss,xi,rest,out,_,up'.reverse,d,d.left.2,?_,hdn,fun l hl=>hI' l (by simpa using hl),?_,hod⟩
  ·refine d.left.1.trans ?_
   refine List.Perm.trans ?_ (List.Perm.append_right _ (hp2.symm.trans wj.symm))
   have E:aO cj (l++[(z,prz,bif w then h' else hz)]++post) 0=aO cj l (z+1)++(z,bh ⟨prz,bif w then h' else hz,aG post 0⟩)::aO cj post 0:=by
    rw [bc,iO];rfl
   rw [uo,E]
   refine jw.2 fun x=>?_
   simp only [ji,kv,d7,fi,cU,iH,rk,dB]
   omega
  ·rw [uo,bc]
   exact (eW _ _ _).2 ⟨k1,hnew,ok2⟩
inductive oY (n:Nat) (r:Int) (es:Es) (k:Bs):Int->Int->Es->Prop
 | arg (h:bi k=false):oY n r es k 1 r es
 | no {ws:List an} {pl:Int} {l:Lf} (hs:bN n es) (hk:bi k=true) (hw:jg es k r ws pl l) (hl:ws.length<=1024) (hr0:bZ l=true) (hh:bQ (aD l.prs) k=false):oY n r es k 7 r es
 | put {ws:List an} {pl:Int} {l:Lf} (hs:bN n es) (hk:bi k=true) (hw:jg es k r ws pl l) (hl:ws.length<=1024) (hg:cg es pl=some (bh l)) (hr0:bZ l=true) (hh:bQ (aD l.prs) k=true) (hd:fC l.prs k≠[]∨ws=[]) (hr:bZ ⟨fC l.prs k,l.high,l.next⟩=true) :
  oY n r es k 0 r (aT es pl (bh ⟨fC l.prs k,l.high,l.next⟩))
 | drop {ws:List an} {pl:Int} {l:Lf} {w:Bool} {zl:List Nl} {gs zo:List Nd} {xo X:Nd} {ss:List an} {xi:Nat} {rest:List an} {out:List Int} {R:Es} {r':Int} {es':Es} (hk:bi k=true) (hw:jg es k r ws pl l) (hr0:bZ l=true) (hh:bQ (aD l.prs) k=true) (hd:fC l.prs k=[]) (hw0:ws≠[])
  (d:ma n es ws pl l w zl gs zo xo X ss xi rest out R) (hsk:lh n r (rn es pl l w zl gs zo X) r' es'):oY n r es k 0 r' es'
theorem we {k:Bs} {r n:Int} {es:List (V × V)} {bs:List V} {m:List O} {v0:V} {L:Int × Int × Int × List (V × V) × List V} (h:rp k r n es bs=some (.doneM v0 m)) (hc:gT al (tm r n es bs) v0 m=jp L) :
  bB aa al 33 [.ptr 0 0 0,.str k] (tm r n es bs)=some (jp L):=RF _ _ _ _ _ h (.done hc)
theorem yW {n:Nat} {r:Int} {es:Es} {k:Bs} {e r':Int} {es':Es} (h:oY n r es k e r' es'):bB aa al 33 [.ptr 0 0 0,.str k] (tM r n es)=some (jp (e,r',n,aP es',aF n (az es'))):=by
 cases h with
 | arg h =>
  refine we (v0:=.int .i64 1) (m:=tM r n es) ?_ (by kernel_rfl)
  unfold rp
  rw [au (gY k),cy,h];rfl
 | @no ws pl l hs hk hw hl hr0 hh =>
  have hdl:=B3 l hr0 k
  rw [hh] at hdl
  apply we
  case h =>
   unfold rp
   rw [au (gY k),cy,hk,bA,cond_false,cD qc (qF hs hw (by omega)),bG]
   show (ai aa _ [eL l,_] _)=_
   rw [au hdl]
   show (n6 (V.tup [eL rM,V.int .i64 7]) _)=_
   rw [lp,lD (by decide),cond_true]
  case hc=>kernel_rfl
 | @put ws pl l hs hk hw hl hg hr0 hh hd hr =>
  have hdl:=B3 l hr0 k
  rw [hh,if_pos rfl] at hdl
  by_cases h0:fC l.prs k=[]
  ·have hw0:=hd.resolve_left fun q=>q h0
   subst hw0
   apply we
   case h =>
    unfold rp
    rw [au (gY k),cy,hk,bA,cond_false,cD qc (qF hs hw (by omega)),bG]
    show (ai aa _ [eL l,_] _)=_
    rw [au hdl,lp,dG rfl,cond_false,decide_eq_false (by rw [en,h0];simp),cond_false,dx (by rfl),cond_true]
    show (aI aa _ _ _ [_,_,.ifc 120 (eL ⟨fC l.prs k,l.high,l.next⟩)] (tM r n es) _)=_
    rw [bY gL (oW hs hg hr)]
   case hc=>kernel_rfl
  ·apply we
   case h =>
    unfold rp
    rw [au (gY k),cy,hk,bA,cond_false,cD qc (qF hs hw (by omega)),bG]
    show (ai aa _ [eL l,_] _)=_
    rw [au hdl,lp,dG rfl,cond_false,decide_eq_true (show ((aX (fC l.prs k)).length:Int) > 0 by rw [en];have:=jb.2 h0;omega),cond_true]
    show (aI aa _ _ _ [_,_,.ifc 120 (eL ⟨fC l.prs k,l.high,l.next⟩)] (tM r n es) _)=_
    rw [bY gL (oW hs hg hr)]
   case hc=>kernel_rfl
 | @drop ws pl l w zl gs zo xo X ss xi rest out R r' es' hk hw hr0 hh hd hw0 d hsk =>
  have hdl:=B3 l hr0 k
  rw [hh,if_pos rfl] at hdl
  have hlen:=d.len
  apply we
  case h =>
   unfold rp
   rw [au (gY k),cy,hk,bA,cond_false,cD qc (qF d.shf hw (by omega)),bG]
   show (ai aa _ [eL l,_] _)=_
   rw [au hdl,lp,dG rfl,cond_false,decide_eq_false (by rw [en,hd];simp),cond_false,dJ (by rw [qB];have:=jb.2 hw0;omega),cond_false,bY Vl (Qx d hsk)]
  case hc=>kernel_rfl
theorem Qj {prs:List Pr} {h k:Bs} (o:ja prs h) (hh:bQ (aD prs) k=true):ja (fC prs k) h:=by
 have hs:(fC prs k).Sublist prs:=by rw [B0 o.ri hh];exact List.filter_sublist
 refine ⟨o.ri.sublist hs,fun x hx=>o.mem x (hs.subset hx),o.hi.imp id fun q=>⟨q.1,fun x hx=>q.2 x (hs.subset hx)⟩,?_⟩
 have h1:=vr prs (bp (aD prs) k)
 have h2:=vr (prs.drop (bp (aD prs) k)) 1
 rw [nJ] at h2
 have:=o.wt
 unfold fC
 rw [vq]
 omega
def sh (k:Bs) (l:List Pr):List Pr:=l.filter fun x=>!(x.1==k)
theorem Lh {k:Bs} {l:List Pr} (h:∀x∈l,lt x.1 k=true∨lt k x.1=true):sh k l=l:=pJ (p:=fun x:Pr=>!(x.1==k)) fun x hx=>by
 by_cases he:x.1=k
 ·have:=h x hx
  rw [he,gC] at this;simp at this
 ·simpa using he
def GU (n:Nat) (r:Int) (es:Es) (ups:List IL) (b:LL) (k:Bs) (e r':Int) (es':Es) (ups':List IL) (b':LL):Prop :=
 (e=0/\bi k=true/\bQ (aD (bf b)) k=true/\bf b'=sh k (bf b)) ∨
 (r'=r/\es'=es/\ups'=ups/\b'=b/\((e=1/\bi k=false)∨(e=7/\bi k=true/\bQ (aD (bf b)) k=false)))
theorem B4 {n:Nat} {r:Int} {es:Es} {ups:List IL} {b:LL} (h:WF n r es ups b) (k:Bs) :
  ∃e r' es' ups' b',WF n r' es' ups' b'/\oY n r es k e r' es'/\GU n r es ups b k e r' es' ups' b':=by
 cases hk:bi k with
 | false=>exact ⟨1,r,es,ups,b,h,.arg hk,.inr ⟨rfl,rfl,rfl,rfl,.inl ⟨rfl,hk⟩⟩⟩
 | true =>
  obtain ⟨p,h',ws,pre,prs,post,q1,q2,q3,q4,q5,q6⟩:=GA h.toWT hk
  have hF:=h.okF
  rw [q2] at hF
  have hr:bZ ⟨prs,h',aG post 0⟩=true:=Ac hF
  obtain ⟨o,hx0,hx1⟩:=ot hr
  have hul:=nB h.toWT
  obtain ⟨hgp,_⟩:=N8 q6
  have hord:=h.ord
  rw [q2] at hord
  have hpre:=(sw hord).2.2.1
  obtain ⟨hca,hcc⟩:=Gz hord hF q3 q4
  have hris:=wz hord hF
  have efl:bf (pre++(p,prs,h')::post)=bf pre++(prs++bf post):=by rw [kK,gA]
  rw [efl] at hris
  have hhas:=J4 hca hcc hris
  have hfb:bf b=bf pre++(prs++bf post):=by rw [q2,efl]
  cases hh:bQ (aD prs) k with
  | false=>exact ⟨7,r,es,ups,b,h,.no h.shf hk q6 (by omega) hr hh,.inr ⟨rfl,rfl,rfl,rfl,.inr ⟨rfl,hk,by rw [hfb,hhas,hh]⟩⟩⟩
  | true =>
   have o2:=Qj o hh
   have hr2:=oO o2 hx0 hx1
   have hfl:sh k (bf b)=bf pre++(fC prs k++bf post):=by
    rw [hfb]
    show (bf pre++(prs++bf post)).filter _=_
    rw [nK,nK,B0 o.ri hh]
    have e1:=Lh (k:=k) (l:=bf pre) fun x hx=>.inl (hca x hx)
    have e2:=Lh (k:=k) (l:=bf post) fun x hx=>.inr (hcc x hx)
    unfold sh at e1 e2
    rw [e1,e2]
   have hin:bQ (aD (bf b)) k=true:=by rw [hfb,hhas,hh]
   by_cases hd:fC prs k≠[]∨ws=[]
   ·have hat:=h.rep
    rw [q2] at hat
    have hat:=zL hat
    have hpm:=jy (b':=bh ⟨fC prs k,h',aG post 0⟩) h.shf.nd hat
    obtain ⟨ok1,ok3,ok2⟩:=(eW _ _ _).1 hF
    have hne:=wU h q2
    refine ⟨0,r,aT es p (bh ⟨fC prs k,h',aG post 0⟩),ups,pre++(p,fC prs k,h')::post,⟨⟨iZ h.shf (gf hat),hpm.trans (Ky (U:=cB ups) (pre:=pre) (post:=post) (p:=p) (x:=(fC prs k,h'))),?_,h.okI,(eW _ _ _).2 ⟨ok1,hr2,ok2⟩,Lz hord ?_⟩,?_,h.rt⟩,.put h.shf hk q6 (by omega) hgp hr hh hd hr2,.inl ⟨rfl,hk,hin,?_⟩⟩
    ·have e:bE (pre++(p,fC prs k,h')::post)=bE b:=by rw [q2];simp [bE]
     exact B9 e h.dn
    ·intro y hy x hx
     refine (hpre y hy).2 x ?_
     rw [B0 o.ri hh] at hx
     exact (nO.1 hx).1
    ·intro hu x hx
     rcases aV.1 hx with hx | hx
     ·exact hne x (.inl hx)
     ·rcases bw.1 hx with rfl | hx
      ·rcases hd with hd | hd
       ·exact hd
       ·rw [hd] at q5
        exact absurd (o8 q5.symm) hu
      ·exact hne x (.inr hx)
    ·rw [hfl,kK,gA]
   ·have hd0:fC prs k=[]:=Classical.byContradiction fun q=>hd (.inl q)
    have hw0:ws≠[]:=fun q=>hd (.inr q)
    have hu:ups≠[]:=by
     intro e
     rw [e] at q5
     exact hw0 (o8 q5)
    obtain ⟨w,zl,gs,zo,xo,X,ss,xi,rest,out,R,up',d,hwt⟩:=Qw h q1 q2 q5 hu
    have hne:=wU h q2
    obtain ⟨r',es',ups',h1,h2⟩:=Ns hwt (by
     intro x hx
     rcases aV.1 hx with hx | hx
     ·rcases dQ pre with rfl | ⟨l,⟨z,prz,hz⟩,rfl⟩
      ·cases hx
      ·rw [gq] at hx hne
       rw [uo] at hx
       rcases aV.1 hx with hx | hx
       ·exact hne x (.inl (by simp [hx]))
       ·have:x=(z,prz,bif w then h' else hz):=by simpa using hx
        rw [this]
        exact hne (z,prz,hz) (.inl (by simp))
     ·exact hne x (.inr hx))
    refine ⟨0,r',es',ups',_,h2,.drop hk q6 hr hh hd0 hw0 d h1,.inl ⟨rfl,hk,hin,?_⟩⟩
    rw [hfl,kK,SS,hd0]
    simp
theorem SP {n:Nat} {es:Es} (h:bN n es) {j:Nat} (hj:kH n (az es)=some j):j<=es.length:=by
 unfold kH at hj
 obtain ⟨_,h2,h3⟩:=List.find?_range_eq_some.1 hj
 have hjn:j < n:=by simpa using h2
 have hl:=vn h
 unfold gE at hl
 rw [dA] at hl
 obtain ⟨m,rfl⟩:∃m,n=j+m:=⟨n - j,by omega⟩
 rw [List.range_add,nK,cL] at hl
 have hf:(cW j).filter (az es)=cW j:=G0.2 fun i hi=>by
  have:=h3 i (by simpa using hi)
  simpa using this
 rw [hf,xT] at hl
 omega
theorem Ut {es:Es} {p q:Int} {b:Bs} (h:q∈aw (aT es p b)):q∈aw es∨q=p:=by
 by_cases hp:p∈aw es
 ·rw [ng hp] at h;exact .inl h
 ·rw [pT hp] at h
  rcases aV.1 h with h | h
  ·exact .inl h
  ·exact .inr (ew.1 h)
theorem Kz (es:Es) (p:Int) (b:Bs):es.length<=(aT es p b).length:=by
 by_cases hp:p∈aw es
 ·rw [xc hp];exact bq _
 ·rw [Ap hp];omega
def o9 (es es':Es):Prop:=es.length<=es'.length/\∀q∈aw es',q∈aw es∨q < (es'.length:Int)
theorem KT (es:Es):o9 es es:=⟨bq _,fun q h=>.inl h⟩
theorem rT {a b c:Es} (h1:o9 a b) (h2:o9 b c):o9 a c:=⟨mj h1.1 h2.1,fun q hq=>by
 rcases h2.2 q hq with h | h
 ·rcases h1.2 q h with h | h
  ·exact .inl h
  ·have:=h2.1;exact .inr (by omega)
 ·exact .inr h⟩
theorem rS {es:Es} {p:Int} {b:Bs} (hp:p∈aw es):o9 es (aT es p b):=⟨Kz _ _ _,fun q hq=>by rw [ng hp] at hq;exact .inl hq⟩
theorem Ea {n:Nat} {es:Es} (h:bN n es) {j:Nat} (hj:kH n (az es)=some j) (hq:(j:Int)∉aw es) {b:Bs}:o9 es (aT es j b):=by
 have:=SP h hj
 refine ⟨Kz _ _ _,fun q hq'=>?_⟩
 rcases Ut hq' with h | h
 ·exact .inl h
 ·rw [Ap hq];exact .inr (by omega)
theorem wC {es:Es} {p:Int} {b:Bs} (h:cg es p=some b):p∈aw es:=Classical.byContradiction fun q=>by rw [un.2 q] at h;cases h
theorem Ao {es:Es} {p q:Int} {b:Bs} (h:p∈aw es):p∈aw (aT es q b):=by
 by_cases hq:q∈aw es
 ·rw [ng hq];exact h
 ·rw [pT hq];exact jG _ h
theorem EV {es:Es} {p:Int} {b:Bs}:p∈aw (aT es p b):=by
 by_cases hq:p∈aw es
 ·rw [ng hq];exact hq
 ·rw [pT hq];simp
theorem Zk {n:Nat} {r:Int} {es:Es} {sts:List an} {k:Bs} {p to r':Int} {es':Es} (h:mq n r es sts k p to r' es'):o9 es es':=by
 induction h with
 | @top es k p to j hs hf hj hq hr=>exact rT (Ea hs hf hq) (rS EV)
 | @room es sts k p to q e nx i e' hs hg hr hk hp hr'=>exact rS (wC hg)
 | @two es sts k p to q e nx i j ea eb fa fb r' es' hs hg hr hk hp hf hj hq hra hrb rfa rfb hspl hcase hup ih =>
  exact rT (rT (rT (Ea hs hf hq) (rS (Ao (wC hg)))) (rS (Ao EV))) ih
theorem L1 {n:Nat} {r:Int} {es:Es} {k v:Bs} {ok:Bool} {e r':Int} {es':Es} (h:nS n r es k v ok e r' es'):o9 es es':=by
 cases h with
 | arg h=>exact KT _
 | put hs hk hv hw hl hg hr0 hh hz hr=>exact rS (wC hg)
 | full=>exact KT _
 | split hs hk hv hw hl hg hr0 hh hz hf hfj hj hq h2 hx rA0 rB0 rA rB hc hu =>
  exact rT (rT (rT (Ea hs hfj hq) (rS (Ao (wC hg)))) (rS (Ao EV))) (Zk hu)
theorem Ur {es:Es} {p q:Int} (h:q∈aw (eP es p)):q∈aw es:=by
 induction es with
 | nil=>exact h
 | cons x es ih =>
  obtain ⟨a,y⟩:=x
  unfold eP at h
  split at h
  ·exact jH _ h
  ·rcases bw.1 h with h | h
   ·rw [h];exact bV ..
   ·exact jH _ (ih h)
theorem X7 {n:Nat} {r:Int} {es:Es} {r':Int} {es':Es} (h:lh n r es r' es'):∀q∈aw es',q∈aw es:=by
 induction h with
 | leaf=>exact fun _ h=>h
 | stop=>exact fun _ h=>h
 | one hs hg hr _ ih=>exact fun q hq=>Ur (ih q hq)
theorem Qk {n:Nat} {r:Int} {es:Es} {k:Bs} {e r':Int} {es':Es} (h:oY n r es k e r' es'):∀q∈aw es',q∈aw es:=by
 cases h with
 | arg=>exact fun _ h=>h
 | no=>exact fun _ h=>h
 | put hs hk hw hl hg hr0 hh hd hr=>exact fun q hq=>by rwa [ng (wC hg)] at hq
 | @drop ws pl l w zl gs zo xo X ss xi rest out R r' es' hk hw hr0 hh hd hw0 d hsk =>
  intro q hq
  have h1:=X7 hsk q hq
  have hp:=d.left.1
  have h2:q∈aw (d7 (fi w l zl)++(bP (da w l.high zo gs)++(bP [X]++R))):=(hp.map (·.1)).mem_iff.1 h1
  have h3:q∈aw (d7 zl++(bP zo++((pl,bh l)::(bP gs++(bP [xo]++R))))):=by
   rw [<-bc,lJ,<-d.keys] at h2
   rcases aV.1 h2 with h2 | h2
   ·rw [<-bc,lJ];exact jG _ h2
   ·rw [lJ] at h2
    rcases aV.1 h2 with h2 | h2
    ·have e1:aw (bP [X])=aw (bP [xo]):=by rw [uy,uy];simp [d.x.pg]
     rw [e1] at h2
     rw [<-bc,lJ]
     refine mf _ (jH _ ?_)
     show q∈aw (bP gs++(bP [xo]++R))
     rw [lJ,lJ]
     exact mf _ (jG _ h2)
    ·rw [<-bc,lJ]
     refine mf _ (jH _ ?_)
     show q∈aw (bP gs++(bP [xo]++R))
     rw [lJ,lJ]
     exact mf _ (mf _ h2)
  exact (d.perm.map (·.1)).mem_iff.2 h3
theorem D5:∀{l:IL},(∀x∈l,x.2≠[])->(∀x∈l.dropLast,15<=x.2.length)->l≠[]->15 * (l.length - 1)+1<=(aJ l).length
 | [],_,_,h=>absurd rfl h
 | [x],h,_,_=>by
  have:=jb.2 (h x (by simp))
  simp [aJ]
  omega
 | x::y::t,h,hf,_=>by
  have ih:=D5 (l:=y::t) (fun z hz=>h z (by simp [hz])) (fun z hz=>hf z (by rw [md (by simp)];simp [hz])) (by simp)
  have h1:=hf x (by rw [md (by simp)];simp)
  rw [aJ,ij,cL]
  rw [aJ] at ih
  simp only [cw] at ih |-
  omega
theorem yY {s:Su} {b:LL} (h:Dn s [] b):s.length=b.length:=by rw [ix h];simp [bE]
theorem Ca {s:Su} {l:IL} {d:List IL} {b:LL} (h:Dn s (l::d) b):s.length=l.length:=by
 have e:=congrArg nL (fS h).1
 rw [e];simp [be]
theorem Iu:∀{d:List IL} {s:Su} {b:LL},Dn s d b->(∀l∈d,cd okI l 0)->Ft d->s≠[]->s.length<=b.length/\∀l∈d,l.length<=b.length
 | [],s,b,h,_,_,_=>⟨by rw [yY h];exact bq _,fun l hl=>(nomatch hl)⟩
 | l::d,s,b,h,hI,hF,hs=>by
  have hl:=Ca h
  obtain ⟨e,hk⟩:=fS h
  have hlne:l≠[]:=by rintro rfl;exact hs e
  have hne:=gM (hI _ (bV ..))
  have hkl:=D5 hne (hF _ (bV ..)) hlne
  have hpos:=jb.2 hlne
  obtain ⟨i1,i2⟩:=Iu hk (fun x hx=>hI x (by simp [hx])) (fun x hx=>hF x (by simp [hx])) (zG hlne hne)
  refine ⟨by omega,fun l' hl'=>?_⟩
  rcases bw.1 hl' with rfl | hl'
  ·omega
  ·exact i2 l' hl'
theorem Qs {l:IL} {d:List IL} {s:Su} {b:LL} (h:Dn s (l::d) b) (hI:∀l'∈l::d,cd okI l' 0) (hF:Ft (l::d)) (h2:2<=s.length):16<=b.length:=by
 have hl:=Ca h
 obtain ⟨e,hk⟩:=fS h
 have hlne:l≠[]:=by rintro rfl;rw [hl] at h2;simp at h2
 have hne:=gM (hI _ (bV ..))
 have hkl:=D5 hne (hF _ (bV ..)) hlne
 have:=(Iu hk (fun x hx=>hI x (by simp [hx])) (fun x hx=>hF x (by simp [hx])) (zG hlne hne)).1
 omega
theorem Mg {n:Nat} {r:Int} {es:Es} {l:IL} {d:List IL} {b:LL} (h:WF n r es (l::d) b):l.length=1/\2<=(aJ l).length:=by
 obtain ⟨e0,_⟩:=fS h.dn
 obtain ⟨e,rfl⟩:=Mh e0
 have:=h.rt [(r,e)] (by simp) (r,e) (ew.2 rfl)
 simp [aJ]
 exact this
theorem Iq {n:Nat} {r:Int} {es:Es} {ups:List IL} {b:LL} (h:WF n r es ups b) (hr:Rs ups b) (hb:b.length<=15):ups.length<=1/\es.length<=b.length+1:=by
 have hl:es.length=(ej ups b).length:=by rw [<-(uN h.toWT).length_eq];simp [aw]
 cases ups with
 | nil=>exact ⟨by simp,by rw [hl];simp [ej,bM]⟩
 | cons l d =>
  obtain ⟨h1,h2⟩:=Mg h
  cases d with
  | nil =>
   refine ⟨by simp,?_⟩
   rw [hl]
   simp [ej,bM,h1]
   omega
  | cons l2 d =>
   have:=Qs (fS h.dn).2 (fun x hx=>h.okI x (by simp only [bw] at hx |-;exact .inr hx)) (fun x hx=>hr.ft x (by simp only [bw] at hx |-;exact .inr hx)) h2
   omega
theorem C9:∀{b:LL},(∀x∈b.dropLast,2<=x.2.1.length)->b≠[]->2 * (b.length - 1)<=(bf b).length
 | [],_,h=>absurd rfl h
 | [x],_,_=>by simp
 | x::y::t,hf,_=>by
  have ih:=C9 (b:=y::t) (fun z hz=>hf z (by rw [md (by simp)];simp [hz])) (by simp)
  have h1:=hf x (by rw [md (by simp)];simp)
  obtain ⟨p,prs,hh⟩:=x
  rw [gA,cL]
  simp only [cw] at ih |-
  simp only at h1
  omega
theorem JM:∀{b:LL} {n:Int},cd okF b n->aC (bf b)<=231 * b.length
 | [],_,_=>by simp [bf,aC]
 |(p,prs,h)::b,n,hF=>by
  have ih:=JM (b:=b) hF.2
  obtain ⟨o,_,_⟩:=ot (show bZ ⟨prs,h,aG b n⟩=true from hF.1)
  have:=o.wt
  rw [gA,vq,cw]
  omega
theorem Xs:Rs [] [(0,[],[])]:=⟨fun l hl=>(nomatch hl),fun x hx=>(nomatch hx),fun x hx=>by rw [ew.1 hx];simp,fun x hx=>by simp [bf] at hx⟩
theorem N9 {n:Nat} {r:Int} {es:Es} {ups:List IL} {b:LL} (h:WF n r es ups b) (h0:bf b=[]):ups=[]/\b=[(r,[],[])]/\es.length=1/\aw es=[r]:=by
 have hb:=tU h.dn h.okI (by simp)
 have hu:ups=[]:=by
  by_cases hu:ups=[]
  ·exact hu
  ·obtain ⟨x,t,rfl⟩:=me hb
   have:=h.ne hu x (by simp)
   obtain ⟨p,prs,hh⟩:=x
   rw [gA] at h0
   exact absurd (o6.1 h0).1 this
 subst hu
 have e:=ix h.dn
 obtain ⟨x,t,rfl⟩:=me hb
 obtain ⟨p,prs,hh⟩:=x
 rw [bE,cU] at e
 obtain ⟨e1,e2⟩:=List.cons.inj e
 obtain ⟨rfl,rfl⟩:=Prod.mk.inj e1
 have ht:t=[]:=G4.1 e2.symm
 subst ht
 have hp:prs=[]:=by rw [gA] at h0;exact (o6.1 h0).1
 subst hp
 have hk:aw es=[r]:=List.perm_singleton.1 (uN h.toWT)
 refine ⟨rfl,rfl,?_,hk⟩
 have:=congrArg nL hk
 simpa [aw] using this
theorem We {n:Nat} {r:Int} {es:Es} {ups:List IL} {b:LL} (h:WT n r es ups b):es.length=(ups.flatMap bM).length+b.length:=by
 have:=(uN h).length_eq
 rw [ej,cL] at this
 simpa [aw,bM] using this
theorem UH {n:Nat} {r:Int} {es:Es} {ups:List IL} {b:LL} (h:WF n r es ups b):b.length<=1∨b.length<=(bf b).length:=by
 by_cases hu:ups=[]
 ·left
  subst hu
  have:=yY h.dn
  simp at this
  omega
 ·right
  have key:∀(l:LL),(∀x∈l,x.2.1≠[])->l.length<=(bf l).length:=by
   intro l
   induction l with
   | nil=>exact fun _=>bq _
   | cons x l ih =>
    intro hd
    have:=ih fun y hy=>hd y (by simp [hy])
    have h1:=jb.2 (hd x (by simp))
    obtain ⟨p,prs,hh⟩:=x
    rw [gA,cL,cw]
    simp only at h1
    omega
  exact key b (h.ne hu)
theorem Is:∀{d:List IL} {s:Su} {b:LL},Dn s d b->(∀l∈d,cd okI l 0)->s.length<=b.length
 | [],s,b,h,_=>by rw [yY h];exact bq _
 | l::d,s,b,h,hI=>by
  have hl:=Ca h
  obtain ⟨e,hk⟩:=fS h
  have ih:=Is hk fun x hx=>hI x (by simp [hx])
  have hne:=gM (hI _ (bV ..))
  have key:∀(l:IL),(∀x∈l,x.2≠[])->l.length<=(aJ l).length:=by
   intro l
   induction l with
   | nil=>exact fun _=>bq _
   | cons x l ih =>
    intro hd
    have:=ih fun y hy=>hd y (by simp [hy])
    have h1:=jb.2 (hd x (by simp))
    rw [aJ,ij,cL,cw]
    rw [aJ] at this
    omega
  have:=key l hne
  omega
theorem VH {n:Nat} {r:Int} {es:Es} {ups:List IL} {b:LL} (h:WF n r es ups b) (hp:(bf b).length<=1):ups=[]/\es.length=1:=by
 have h1:=UH h
 have hb:=jb.2 (tU h.dn h.okI (by simp))
 have hu:ups=[]:=by
  cases ups with
  | nil=>rfl
  | cons l d =>
   obtain ⟨r1,r2⟩:=Mg h
   have:=Is (fS h.dn).2 fun x hx=>h.okI x (by simp [hx])
   omega
 subst hu
 have:=We h.toWT
 simp at this
 exact ⟨rfl,by omega⟩
theorem Xt (r:Int):Rs [] [(r,[],[])]:=⟨fun l hl=>(nomatch hl),fun x hx=>(nomatch hx),fun x hx=>by rw [ew.1 hx];simp,fun x hx=>by simp [bf] at hx⟩
def fV (m:Nat):Bs:=[UInt8.ofNat (97+m)]
def iT:Bs:=(cW 31).map fun i=>UInt8.ofNat (48+i % 10)
def jJ (m:Nat):List Pr:=(cW m).map fun i=>(fV i,iT)
theorem Eb:∀m,m < 26->(∀x∈jJ m,lt x.1 (fV m)=true)/\bR (jJ m) (fV m) iT=jJ (m+1)/\bQ (aD (jJ m)) (fV m)=false/\bi (fV m)=true/\aC (jJ (m+1))=34 * (m+1):=by decide +kernel
theorem U2:∀m,m < 26->sh (fV m) ((jJ 26).drop m)=(jJ 26).drop (m+1)/\bQ (aD ((jJ 26).drop m)) (fV m)=true:=by decide +kernel
theorem U3 (m:Nat):aC [(fV m,iT)]=34/\(fV m).length=1/\dE iT=true:=⟨rfl,rfl,by decide +kernel⟩
structure Jf (r:Int) (es:Es) (ups:List IL) (b:LL) (L:List Pr):Prop where
 wf:WF 40 r es ups b
 rs:Rs ups b
 fl:bf b=L
 lo:∀q∈aw es,q < 30
theorem Jf.dep {r:Int} {es:Es} {ups:List IL} {b:LL} {L:List Pr} (h:Jf r es ups b L) (hL:L.length<=26):ups.length<=1/\es.length<=b.length+1/\b.length<=14:=by
 have hb:=tU h.wf.dn h.wf.okI (by simp)
 have h2:=C9 h.rs.f2 hb
 rw [h.fl] at h2
 obtain ⟨h3,h4⟩:=Iq h.wf h.rs (by omega)
 exact ⟨h3,h4,by omega⟩
theorem JO {r:Int} {es:Es} {ups:List IL} {b:LL} {L:List Pr} (h:Jf r es ups b L) (hL:L.length<=25) {k v:Bs} (hk:bi k=true) (hv:dE v=true) (h1:∀x∈L,lt x.1 k=true) (h5:k.length<=5) (hw:aC [(k,v)]<=40) :
  ∃r' es' ups' b',Jf r' es' ups' b' (bR L k v)/\nS 40 r es k v (!bQ (aD L) k) 0 r' es':=by
 obtain ⟨d1,d2,d3⟩:=h.dep (by omega)
 obtain ⟨ok,e,r',es',ups',b',w1,w2,w3⟩:=ET h.wf k v
 rcases w3 with ⟨rfl,_,_,q1,q2,q3,_⟩ | ⟨_,_,_,_,_,q | q⟩
 ·rw [h.fl] at q1 q2
  subst q2
  have hrs:=q3 (by rw [h.fl];exact h1) h5 hw h.rs
  have hb':=tU w1.dn w1.okI (by simp)
  have hfl:(bf b').length<=26:=by rw [q1];have:=EP L k v;omega
  have h2:=C9 hrs.f2 hb'
  obtain ⟨h3,h4⟩:=Iq w1 hrs (by omega)
  refine ⟨r',es',ups',b',⟨w1,hrs,q1,fun q hq=>?_⟩,w2⟩
  rcases (L1 w2).2 q hq with hq | hq
  ·exact h.lo q hq
  ·omega
 ·rw [hk,hv] at q;exact absurd q.2 (by decide)
 ·have:=q.2.2.2;omega
theorem Jz {r:Int} {es:Es} {ups:List IL} {b:LL} {L:List Pr} (h:WF 40 r es ups b) (hf:bf b=L) (hl:∀q∈aw es,q < 30) {k:Bs} (hk:bQ (aD L) k=true) (hkk:bi k=true) :
  ∃r' es' ups' b',(WF 40 r' es' ups' b'/\bf b'=sh k L/\∀q∈aw es',q < 30)/\oY 40 r es k 0 r' es':=by
 obtain ⟨e,r',es',ups',b',w1,w2,w3⟩:=B4 h k
 rcases w3 with ⟨rfl,_,_,q⟩ | ⟨_,_,_,_,q | q⟩
 ·rw [hf] at q
  exact ⟨r',es',ups',b',⟨w1,q,fun q hq=>hl q (Qk w2 q hq)⟩,w2⟩
 ·rw [hkk] at q;exact absurd q.2 (by decide)
 ·rw [hf,hk] at q;exact absurd q.2.2 (by decide)
def yo (x5:Bool) (x6:Int) (x7:Bool) (x8:Int) (x9:List UInt8) (x10 x11:Int) (x13 x15:Int) (x16 x18:Int) (m1_1 m2_1:Int) (m3:List (V × V)) (m4:List V):S:=⟨[V.bool false,V.ptr 0 0 0,V.junk,V.ptr 1 0 0,V.junk,V.bool x5,V.int .i64 x6,V.bool x7,V.int .i64 x8,V.str x9,V.int .i64 x10,V.int .i64 x11,V.junk,V.int .i64 x13,V.junk,V.int .i64 x15,V.int .i64 x16,V.str [48,49,50,51,52,53,54,55,56,57,48,49,50,51,52,53,54,55,56,57,48,49,50,51,52,53,54,55,56,57,48],V.int .u8 x18]++(JU 187),(wm m1_1 m2_1 m3 m4)⟩
def yp (x5:Bool) (x6:Int) (x7:Bool) (x8:Int) (x9:List UInt8) (x10 x11:Int) (x13 x15:Int) (x16 x21:Int) (x22 x23:Int) (x24:List V) (x25 m1_1 m2_1:Int) (m3:List (V × V)) (m4:List V):S:=⟨[V.bool false,V.ptr 0 0 0,V.junk,V.ptr 1 0 0,V.junk,V.bool x5,V.int .i64 x6,V.bool x7,V.int .i64 x8,V.str x9,V.int .i64 x10,V.int .i64 x11,V.junk,V.int .i64 x13,V.junk,V.int .i64 x15,V.int .i64 x16,V.str [48,49,50,51,52,53,54,55,56,57,48,49,50,51,52,53,54,55,56,57,48,49,50,51,52,53,54,55,56,57,48],V.junk,V.junk,V.junk,V.int .i64 x21,V.int .i64 x22,V.int .i64 x23,V.sl x24,V.int .u8 x25]++(JU 180),(wm m1_1 m2_1 m3 m4)⟩
noncomputable def I1 :R :=
 gd (decide (0<=W .i64 (((47:Int).tdiv 8)))) <|
 gd (decide (W .i64 (((47:Int).tdiv 8))<=W .i64 (((47:Int).tdiv 8)))) <|
 gd (decide ((W .i64 (((47:Int).tdiv 8))).toNat<=16777216)) <|
 aI aa al kZ 84 [V.ptr 0 0 0] [O.box 140 (V.agg [V.ptr 1 0 0,V.mp 2]) false,O.box 192 (V.agg [V.tail 3 0,V.int .i64 40]) false,O.map [],O.row 5 (bl ((W .i64 (((47:Int).tdiv 8))).toNat) (V.int .u8 0)) 0] fun L =>
 cond (L.2.1 != (0:Int))
 (some (.done (V.bool false)))
 (aI aa al dV 78 [V.ptr 0 0 0,V.int .i64 L.1,V.ifc 120 (V.agg [V.sl [],V.str [],V.int .i64 0])] (tm L.1 L.2.2.1 L.2.2.2.1 L.2.2.2.2) fun L_1 =>
  aI aa al j7 32 [V.ptr 0 0 0,V.str [97],V.str [120]] (tm L_1.1 L_1.2.1 L_1.2.2.1 L_1.2.2.2) fun L_2 =>
  aI aa al j7 32 [V.ptr 0 0 0,V.str [97],V.str [121]] (tm L_2.2.2.1 L_2.2.2.2.1 L_2.2.2.2.2.1 L_2.2.2.2.2.2) fun L_3 =>
  cN aa al jq 39 [V.ptr 0 0 0,V.str [97]] (tm L_3.2.2.1 L_3.2.2.2.1 L_3.2.2.2.2.1 L_3.2.2.2.2.2) fun L_4 =>
  bD [O.row 5 L_3.2.2.2.2.2 0,O.box 192 (V.agg [V.tail 0 0,V.int .i64 L_3.2.2.2.1]) true,O.map L_3.2.2.2.2.1,O.box 140 (V.agg [V.ptr 1 0 0,V.mp 2]) false,O.box 128 (V.agg [V.ptr 3 0 0,V.int .i64 L_3.2.2.1]) false] <|
  aI aa al jp 33 [V.ptr 0 0 0,V.str [97]] (tm L_3.2.2.1 L_3.2.2.2.1 L_3.2.2.2.2.1 L_3.2.2.2.2.2) fun L_5 =>
  cN aa al jq 39 [V.ptr 0 0 0,V.str [97]] (tm L_5.2.1 L_5.2.2.1 L_5.2.2.2.1 L_5.2.2.2.2) fun L_6 =>
  bD [O.row 5 L_5.2.2.2.2 0,O.box 192 (V.agg [V.tail 0 0,V.int .i64 L_5.2.2.1]) true,O.map L_5.2.2.2.1,O.box 140 (V.agg [V.ptr 1 0 0,V.mp 2]) false,O.box 128 (V.agg [V.ptr 3 0 0,V.int .i64 L_5.2.1]) false] <|
  aI aa al j7 32 [V.ptr 0 0 0,V.str [],V.str [120]] (tm L_5.2.1 L_5.2.2.1 L_5.2.2.2.1 L_5.2.2.2.2) fun L_7 =>
  aI aa al jp 33 [V.ptr 0 0 0,V.str [97]] (tm L_7.2.2.1 L_7.2.2.2.1 L_7.2.2.2.2.1 L_7.2.2.2.2.2) fun L_8 =>
  some (.head 0 (yo L_2.1 L_2.2.1 L_3.1 L_3.2.1 L_4.1 L_4.2 L_5.1 L_6.2 L_7.2.1 L_8.1 97 L_8.2.1 L_8.2.2.1 L_8.2.2.2.1 L_8.2.2.2.2)))
theorem RN :Ep 45 [] (I1 ):=ep (by kernel_rfl) (by kernel_rfl)
noncomputable def FK (x5:Bool) (x6:Int) (x7:Bool) (x8:Int) (x9:List UInt8) (x10 x11:Int) (x13 x15:Int) (x16 x18:Int) (m1_1 m2_1:Int) (m3:List (V × V)) (m4:List V):R :=
 cond (decide (x18<=122))
 (aI aa al j7 32 [V.ptr 0 0 0,V.str [UInt8.ofNat x18.toNat],V.str [48,49,50,51,52,53,54,55,56,57,48,49,50,51,52,53,54,55,56,57,48,49,50,51,52,53,54,55,56,57,48]] (tm m1_1 m2_1 m3 m4) fun L =>
  cond (L.2.1 != (0:Int))
 (some (.done (V.bool false)))
 (some (.head 0 (yo x5 x6 x7 x8 x9 x10 x11 x13 x15 x16 (W .u8 (x18+1)) L.2.2.1 L.2.2.2.1 L.2.2.2.2.1 L.2.2.2.2.2))))
 (cN aa al lN 43 [V.ptr 0 0 0] (tm m1_1 m2_1 m3 m4) fun L_1 =>
  bD (wm m1_1 m2_1 m3 m4) <|
  cN aa al lO 46 [V.ptr 0 0 0] (tm m1_1 m2_1 m3 m4) fun L_2 =>
  bD (wm m1_1 m2_1 m3 m4) <|
  cN aa al kY 40 [V.ptr 0 0 0] (tm m1_1 m2_1 m3 m4) fun L_3 =>
  bD (wm m1_1 m2_1 m3 m4) <|
  cN aa al mR 34 [V.ptr 0 0 0,V.str [120],V.int .i64 9] (tm m1_1 m2_1 m3 m4) fun L_4 =>
  bD (wm m1_1 m2_1 m3 m4) <|
  some (.head 1 (yp x5 x6 x7 x8 x9 x10 x11 x13 x15 x16 L_1 (L_2.length:Int) L_3 L_4 97 m1_1 m2_1 m3 m4)))
theorem MZ (x5:Bool) (x6:Int) (x7:Bool) (x8:Int) (x9:List UInt8) (x10 x11:Int) (x13 x15:Int) (x16 x18:Int) (m1_1 m2_1:Int) (m3:List (V × V)) (m4:List V):Rd false 0 45 0 (yo x5 x6 x7 x8 x9 x10 x11 x13 x15 x16 x18 m1_1 m2_1 m3 m4) (FK x5 x6 x7 x8 x9 x10 x11 x13 x15 x16 x18 m1_1 m2_1 m3 m4):=rd (by kernel_rfl)
noncomputable def FL (x5:Bool) (x6:Int) (x7:Bool) (x8:Int) (x9:List UInt8) (x10 x11:Int) (x13 x15:Int) (x16 x21:Int) (x22 x23:Int) (x24:List V) (x25 m1_1 m2_1:Int) (m3:List (V × V)) (m4:List V):R :=
 cond (decide (x25<=122))
 (aI aa al jp 33 [V.ptr 0 0 0,V.str [UInt8.ofNat x25.toNat]] (tm m1_1 m2_1 m3 m4) fun L =>
  cond (L.1 != (0:Int))
 (some (.done (V.bool false)))
 (some (.head 1 (yp x5 x6 x7 x8 x9 x10 x11 x13 x15 x16 x21 x22 x23 x24 (W .u8 (x25+1)) L.2.1 L.2.2.1 L.2.2.2.1 L.2.2.2.2))))
 (cond x5
 (cond (x6==(0:Int))
 (cond (!x7)
 (cond (x8==(0:Int))
 (cond (x9==[121])
 (cond (x10==(0:Int))
 (cond (x11==(0:Int))
 (cond (x13==(7:Int))
 (cond (x15==(1:Int))
 (cond (x16==(7:Int))
 (cond (x21==(1:Int))
 (cond (decide (x22 > 3))
 (cond (x23==(0:Int))
 (cond ((x24.length:Int)==(3:Int))
 (aH x24 0 fun v =>
  f9 v fun key value =>
  cond (key==[120])
 (aH x24 0 fun v_1 =>
  f9 v_1 fun key_1 value_1 =>
  cond (value_1==[48,49,50,51,52,53,54,55,56,57,48,49,50,51,52,53,54,55,56,57,48,49,50,51,52,53,54,55,56,57,48])
 (cN aa al lN 43 [V.ptr 0 0 0] (tm m1_1 m2_1 m3 m4) fun L_1 =>
  bD (wm m1_1 m2_1 m3 m4) <|
  cond (L_1==(0:Int))
 (cN aa al mS 42 [V.ptr 0 0 0] (tm m1_1 m2_1 m3 m4) fun L_2 =>
  bD (wm m1_1 m2_1 m3 m4) <|
  cond ((L_2.length:Int)==(1:Int))
 (cN aa al oz 44 [V.ptr 0 0 0] (sm m2_1 m3 m4) fun L_3 =>
  bD (wm m1_1 m2_1 m3 m4) <|
  cond (L_3==(39:Int))
 (cN aa al kY 40 [V.ptr 0 0 0] (tm m1_1 m2_1 m3 m4) fun L_4 =>
  bD (wm m1_1 m2_1 m3 m4) <|
  cond (L_4==(0:Int))
 (cN aa al kY 40 [V.ptr 0 0 0] (tm 39 m2_1 m3 m4) fun L_5 =>
  bD (wm m1_1 m2_1 m3 m4++[O.box 128 (V.agg [V.ptr 0 0 0,V.int .i64 39]) false]) <|
  some (.done (V.bool (L_5==(4:Int)))))
 (some (.done (V.bool false))))
 (some (.done (V.bool false))))
 (some (.done (V.bool false))))
 (some (.done (V.bool false))))
 (some (.done (V.bool false))))
 (some (.done (V.bool false))))
 (some (.done (V.bool false))))
 (some (.done (V.bool false))))
 (some (.done (V.bool false))))
 (some (.done (V.bool false))))
 (some (.done (V.bool false))))
 (some (.done (V.bool false))))
 (some (.done (V.bool false))))
 (some (.done (V.bool false))))
 (some (.done (V.bool false))))
 (some (.done (V.bool false))))
 (some (.done (V.bool false))))
 (some (.done (V.bool false))))
 (some (.done (V.bool false))))
 (some (.done (V.bool false))))
theorem M0 (x5:Bool) (x6:Int) (x7:Bool) (x8:Int) (x9:List UInt8) (x10 x11:Int) (x13 x15:Int) (x16 x21:Int) (x22 x23:Int) (x24:List V) (x25 m1_1 m2_1:Int) (m3:List (V × V)) (m4:List V):Rd false 0 45 1 (yp x5 x6 x7 x8 x9 x10 x11 x13 x15 x16 x21 x22 x23 x24 x25 m1_1 m2_1 m3 m4) (FL x5 x6 x7 x8 x9 x10 x11 x13 x15 x16 x21 x22 x23 x24 x25 m1_1 m2_1 m3 m4):=rd (by kernel_rfl)
theorem PL {n:Nat} {r:Int} {es:Es} (h:bN n es) (h0:0<=r) (h1:r < (n:Int)) (hr:r∉aw es):bB aa al 40 [.ptr 0 0 0] (tM r n es)=some (kY (tM r n es) 4):=by
 have hm:dU (aP es) (.int .i64 r)=some none:=by rw [Eh,un.2 hr];rfl
 have hread:bB aa al 58 [.ptr 0 0 0,.int .i64 r] (sM n es)=some (lP (sM n es) ([],7)):=by
  refine I4 _ _ _ _ (o:=.doneM (.tup [.str [],.int .i64 7]) (sM n es)) ?_ (.done (by kernel_rfl))
  unfold CG j6
  rw [decide_eq_false (by omega),cond_false,decide_eq_false (by omega),cond_false,hm]
 have hrt:bB aa al 82 [.ptr 0 0 0,.int .i64 r] (tM r n es)=some (fh (tM r n es) ()):=by
  refine CO _ _ _ _ _ (o:=.doneM .nilI (tM r n es)) ?_ (.done (by kernel_rfl))
  unfold y8
  rw [cD sd hread,bG,lD (by decide),cond_true]
 have hl:bB aa vZ 85 [.ptr 0 0 0,.ptr 1 0 0,.int .i64 r,.str [],.str []] (lM r n es [] [] [])=some (mU (0,false,r,cS [r],(n:Int),aP es,aF n (az es),[],[])):=by
  have hs0:sI r [] [] r (cS []) (ae []) (aE []) (n:Int) (aP es) (aF n (az es))=some (.doneM (.tup [.int .i64 0,.bool false]) (lm r (cS [r]) [] [] (n:Int) (aP es) (aF n (az es)))):=by
   unfold sI
   rw [zZ (sn:=[]) (by simp),hJ,cD sd hread,bG,TM (Vp _) (Vq _) (Vr _) hrt,bG]
   rfl
  refine CP _ _ _ _ _ _ _ _ _ _ (o:=.head 0 (tG r [] [] r (cS []) (ae []) (aE []) (n:Int) (aP es) (aF n (az es)))) ?_ ⟨_,_,FS _ _ _ _ _ _ _ _ _ _ hs0 (.refl _),by kernel_rfl⟩
  unfold y9 j6
  rw [zS (sn:=[]) (by simp)]
 refine IY _ _ _ _ (o:=.head 0 (qU false (0:Int) (0:Int) r (n:Int) (aP es) (aF n (az es)) [])) ?_ ⟨_,_,FI _ _ _ _ _ _ _ _ (o:=.doneM (.int .i64 4) (tM r n es++[O.row 3 [] 0])) ?_ (.refl _),by kernel_rfl⟩
 ·unfold CE
  have h5:bB aa vZ 85 [.ptr 0 0 0,.ptr 1 0 0,.int .i64 r,.str [],.str []] (lm r [] [] [] (n:Int) (aP es) (aF n (az es)))=_:=hl
  rw [bY zY h5]
  rfl
 ·unfold AK
  rfl
theorem S3 {r:Int} {es:Es} {ups:List IL} {b:LL} {L:List Pr} (h:Jf r es ups b L) (hL:L.length<=25) {k v:Bs} (hk:bi k=true) (hv:dE v=true) (h1:(bR L k v).length<=1) :
  ∃r' es' ups' b',(WF 40 r' es' ups' b'/\bf b'=bR L k v/\∀q∈aw es',q < 30)/\nS 40 r es k v (!bQ (aD L) k) 0 r' es':=by
 obtain ⟨d1,d2,d3⟩:=h.dep (by omega)
 obtain ⟨ok,e,r',es',ups',b',w1,w2,w3⟩:=ET h.wf k v
 rcases w3 with ⟨rfl,_,_,q1,q2,q3,_⟩ | ⟨_,_,_,_,_,q | q⟩
 ·rw [h.fl] at q1 q2
  subst q2
  have:=(VH w1 (by rw [q1];exact h1)).2
  refine ⟨r',es',ups',b',⟨w1,q1,fun q hq=>?_⟩,w2⟩
  rcases (L1 w2).2 q hq with hq | hq
  ·exact h.lo q hq
  ·omega
 ·rw [hk,hv] at q;exact absurd q.2 (by decide)
 ·have:=q.2.2.2;omega
theorem KM:iT=[48,49,50,51,52,53,54,55,56,57,48,49,50,51,52,53,54,55,56,57,48,49,50,51,52,53,54,55,56,57,48]:=by decide +kernel
theorem N0 (m:Nat) (hm:m < 26):([UInt8.ofNat (((97+m:Nat):Int)).toNat]:Bs)=fV m:=by rw [aU];rfl
theorem JR:∀(d m:Nat),m+d=26->∀(r:Int) (es:Es) (ups:List IL) (b:LL),WF 40 r es ups b->bf b=(jJ 26).drop m->(∀q∈aw es,q < 30)->∀(lv:Nat),3 < lv ->
  Go qk false 0 (fF 45) (.head 1 (yp true 0 false 0 [121] 0 0 7 1 7 1 (lv:Int) 0 (aX [(fV 23,iT),(fV 24,iT),(fV 25,iT)]) ((97+m:Nat):Int) r ((40:Nat):Int) (aP es) (aF 40 (az es)))) (.done (.bool true))
 | 0,m,hm,r,es,ups,b,h,hf,hl,lv,hlv=>by
  obtain rfl:m=26:=by omega
  have h0:bf b=[]:=hf.trans (by decide +kernel)
  obtain ⟨rfl,rfl,e1,e2⟩:=N9 h h0
  have hd:=B8 h.toWT
  have hp:=LH h.toWT
  have hfr:=Dd h.shf
  have hc:=BP h
  have hr30:r < 30:=hl r (by rw [e2];simp)
  have hn:=PL (r:=39) h.shf (by omega) (by omega) (by rw [e2];simp;omega)
  have htl:=vn h.shf
  refine M0 _ _ _ _ _ _ _ _ _ _ _ _ _ _ _ _ _ _ _ ?_ (.refl _)
  unfold FL
  have i0:(aX [(fV 23,iT),(fV 24,iT),(fV 25,iT)])[0]? = some (.agg [.str (fV 23),.str iT]):=rfl
  rw [decide_eq_false (by omega),cond_false]
  simp only [beq_self_eq_true,cond_true,i9]
  rw [decide_eq_true (by omega),cond_true,dx (by rw [en];rfl),cond_true,
   cO i0,iN,show (fV 23==[120])=true from rfl,cond_true,cO i0,iN,<-KM,beq_self_eq_true,cond_true,
   cD zV hd,bG,dx (by simp),cond_true,cD El hp,bG,dx (by rw [bO,htl,e1];rfl),cond_true,cD Em hfr,bG,dx (by rw [e1];rfl),cond_true,
   cD zU hc,bG,dx rfl,cond_true,cD zU hn,bG]
  rfl
 | d+1,m,hm,r,es,ups,b,h,hf,hl,lv,hlv=>by
  have hm26:m < 26:=by omega
  obtain ⟨l1,l2⟩:=U2 m hm26
  obtain ⟨r',es',ups',b',⟨w1,w2,w3⟩,w4⟩:=Jz h hf hl l2 (Eb m hm26).2.2.2.1
  rw [l1] at w2
  have w:W .u8 (((97+m:Nat):Int)+1)=((97+(m+1):Nat):Int):=by
   have:((97+m:Nat):Int)+1=((97+(m+1):Nat):Int):=by omega
   rw [this]
   unfold W
   have:∀j,j < 27->IntKind.u8.wrap ((97+j:Nat):Int)=((97+j:Nat):Int):=by decide +kernel
   exact this _ (by omega)
  refine M0 _ _ _ _ _ _ _ _ _ _ _ _ _ _ _ _ _ _ _ ?_ (JR d (m+1) (by omega) r' es' ups' b' w1 w2 w3 lv hlv)
  unfold FL
  rw [decide_eq_true (by omega),cond_true,N0 m hm26,bY zT (yW w4),dG rfl,cond_false,w]
theorem JS:∀(d m:Nat),m+d=26->∀(r:Int) (es:Es) (ups:List IL) (b:LL),Jf r es ups b (jJ m) ->
  Go qk false 0 (fF 45) (.head 0 (yo true 0 false 0 [121] 0 0 7 1 7 ((97+m:Nat):Int) r ((40:Nat):Int) (aP es) (aF 40 (az es)))) (.done (.bool true))
 | 0,m,hm,r,es,ups,b,h=>by
  obtain rfl:m=26:=by omega
  obtain ⟨d1,d2,d3⟩:=h.dep (by decide)
  have hw:=JM h.wf.okF
  rw [h.fl,(Eb 25 (by omega)).2.2.2.2] at hw
  have hu:ups.length=1:=by
   cases ups with
   | nil=>have:=yY h.wf.dn;simp at this;omega
   | cons x t=>simp at d1 |-;omega
  have hd:=B8 h.wf.toWT
  rw [hu] at hd
  have hle:=D7 h.wf.toWT
  have hc:=BP h.wf
  have hs:=F5 h.wf.toWT [120] 9
  rw [h.fl,show gk [120] 9 [] (jJ 26)=[(fV 23,iT),(fV 24,iT),(fV 25,iT)] by decide +kernel] at hs
  have hb:(ae (bM b)).length=b.length:=by rw [bO];simp [bM]
  have:=JR 26 0 rfl r es ups b h.wf h.fl h.lo b.length (by omega)
  refine MZ _ _ _ _ _ _ _ _ _ _ _ _ _ _ _ ?_ this
  unfold FK
  rw [decide_eq_false (by omega),cond_false,cD zV hd,bG,cD zX hle,bG,cD zU hc,bG,cD Ej hs,bG,hb]
  rfl
 | d+1,m,hm,r,es,ups,b,h=>by
  have hm26:m < 26:=by omega
  obtain ⟨l1,l2,l3,l4,l5⟩:=Eb m hm26
  obtain ⟨o1,o2,o3⟩:=U3 m
  obtain ⟨r',es',ups',b',w1,w2⟩:=JO h (by simp [jJ];omega) l4 o3 l1 (by omega) (by omega)
  rw [l2] at w1
  have w:W .u8 (((97+m:Nat):Int)+1)=((97+(m+1):Nat):Int):=by
   have:((97+m:Nat):Int)+1=((97+(m+1):Nat):Int):=by omega
   rw [this]
   unfold W
   have:∀j,j < 27->IntKind.u8.wrap ((97+j:Nat):Int)=((97+j:Nat):Int):=by decide +kernel
   exact this _ (by omega)
  refine MZ _ _ _ _ _ _ _ _ _ _ _ _ _ _ _ ?_ (JS d (m+1) (by omega) r' es' ups' b' w1)
  unfold FK
  rw [decide_eq_true (by omega),cond_true,N0 m hm26,<-KM,bY wT (xd w2),dG rfl,cond_false,w]
theorem SQ:bu aa 45 []=some (.bool true):=by
 have h0:Jf 0 iP [] [(0,[],[])] []:=⟨Oa (Oh (by omega) (by omega)),Xs,rfl,fun q hq=>by simp [iP,aw] at hq;omega⟩
 obtain ⟨r1,e1,u1,b1,j1,p1⟩:=JO (k:=[97]) (v:=[120]) h0 (by simp) (by decide +kernel) (by decide +kernel) (fun x hx=>nomatch hx) (by simp) (by decide +kernel)
 rw [show bR [] [97] [120]=[(([97]:Bs),([120]:Bs))] by decide +kernel] at j1
 obtain ⟨r2,e2,u2,b2,⟨w2,f2,k2⟩,p2⟩:=S3 (k:=[97]) (v:=[121]) j1 (by simp) (by decide +kernel) (by decide +kernel) (by decide +kernel)
 rw [show bR [(([97]:Bs),([120]:Bs))] [97] [121]=[([97],[121])] by decide +kernel] at f2
 have g2:bB aa al 39 [.ptr 0 0 0,.str [97]] (tM r2 40 e2)=some (jq (tM r2 40 e2) ([121],0)):=by
  obtain ⟨v,e,g,q | ⟨_,q | q⟩⟩:=Dj w2.toWT [97]
  ·obtain ⟨rfl,_,hm⟩:=q
   rw [f2,ew] at hm
   obtain ⟨_,rfl⟩:=Prod.mk.inj hm
   exact g
  ·exact absurd q.2 (by decide)
  ·exact absurd rfl (q.2.2 ([97],[121]) (by rw [f2];simp))
 obtain ⟨r3,e3,u3,b3,⟨w3,f3,k3⟩,p3⟩:=Jz (k:=[97]) w2 f2 k2 (by decide +kernel) (by decide +kernel)
 rw [show sh [97] [(([97]:Bs),([121]:Bs))]=[] by decide +kernel] at f3
 have g3:bB aa al 39 [.ptr 0 0 0,.str [97]] (tM r3 40 e3)=some (jq (tM r3 40 e3) ([],7)):=by
  obtain ⟨v,e,g,q | ⟨rfl,q | q⟩⟩:=Dj w3.toWT [97]
  ·obtain ⟨rfl,_,hm⟩:=q
   rw [f3] at hm;cases hm
  ·exact absurd q.2 (by decide)
  ·obtain ⟨rfl,_⟩:=q;exact g
 have p4:=xd (n:=40) (r:=r3) (es:=e3) (k:=[]) (v:=[120]) (.arg (by decide +kernel))
 have p5:bB aa al 33 [.ptr 0 0 0,.str [97]] (tM r3 40 e3)=some (jp (7,r3,((40:Nat):Int),aP e3,aF 40 (az e3))):=by
  obtain ⟨e,r',es',ups',b',y1,y2,y3⟩:=B4 w3 [97]
  rcases y3 with ⟨_,_,q,_⟩ | ⟨rfl,rfl,_,_,q | q⟩
  ·rw [f3] at q;exact absurd q (by decide +kernel)
  ·exact absurd q.2 (by decide)
  ·obtain ⟨rfl,_⟩:=q;exact yW y2
 have hend:Jf r3 e3 u3 b3 (jJ 0):=by
  obtain ⟨rfl,rfl,_,_⟩:=N9 w3 f3
  exact ⟨w3,Xt _,f3,k3⟩
 have hT:=NO (n:=40) (by omega) (by omega)
 have hW:=Oe (n:=40) (by omega) (by omega)
 refine RN ?_ (JS 26 0 rfl r3 e3 u3 b3 hend)
 unfold I1
 rw [ak (by decide +kernel),ak (by decide +kernel),ak (by decide +kernel)]
 show (aI aa _ _ _ _ (nM 40) _)=_
 rw [bY uG hT,dG rfl,cond_false]
 show (aI aa _ _ _ _ (tm 0 ((40:Nat):Int) (aP [(0,[])]) (aF 40 (az [(0,[])]))) _)=_
 rw [bY gL hW]
 show (aI aa _ _ _ _ (tM 0 40 iP) _)=_
 rw [bY wT (xd p1)]
 show (aI aa _ _ _ _ (tM r1 40 e1) _)=_
 rw [bY wT (xd p2)]
 show (cN aa _ _ _ _ (tM r2 40 e2) _)=_
 rw [cD Ek g2,bG]
 show (aI aa _ _ _ _ (tM r2 40 e2) _)=_
 rw [bY zT (yW p3)]
 show (cN aa _ _ _ _ (tM r3 40 e3) _)=_
 rw [cD Ek g3,bG]
 show (aI aa _ _ _ _ (tM r3 40 e3) _)=_
 rw [bY wT p4]
 show (aI aa _ _ _ _ (tM r3 40 e3) _)=_
 rw [bY zT p5]
 rfl
theorem Wv {n:Nat} {r:Int} {es:Es} {ups:List IL} {b:LL} {k v:Bs} {ok:Bool} {e r':Int} {es':Es} {ups':List IL} {b':LL} (h:Hj n r es ups b k v ok e r' es' ups' b'):(bf b').length<=(bf b).length+1:=by
 rcases h with ⟨_,_,_,h,_⟩ | ⟨_,_,_,_,h,_⟩
 ·rw [h];exact EP _ _ _
 ·rw [h];omega
theorem Qi {n:Nat} {r:Int} {es:Es} {ups:List IL} {b:LL} {k:Bs} {e r':Int} {es':Es} {ups':List IL} {b':LL} (h:GU n r es ups b k e r' es' ups' b'):(bf b').length<=(bf b).length:=by
 rcases h with ⟨_,_,_,h⟩ | ⟨_,_,_,h,_⟩
 ·rw [h];exact List.length_filter_le _ _
 ·rw [h];omega
theorem Nj (L:List Pr) (h:L.length<=1000):gk [] 1000 [] L=L:=by
 have:=F4 [] 1000 L [] (by simp)
 rw [show ((1000:Nat):Int)=1000 from rfl] at this
 rw [this,pJ (p:=fun x:Pr=>!(lt x.1 [])) fun x _=>by rw [KW];rfl]
 rw [dB,fc,Nat.sub_zero,jI h]
theorem JJ:∀{b:LL} {n:Int},cd okF b n->∀x∈bf b,bi x.1=true
 | [],_,_,_,hx=>nomatch hx
 |(p,prs,h)::b,n,hF,x,hx=>by
  rw [gA] at hx
  rcases aV.1 hx with hx | hx
  ·exact ((ot (show bZ ⟨prs,h,aG b n⟩=true from hF.1)).1.mem x hx).1
  ·exact JJ (b:=b) hF.2 x hx
theorem W9 {L:List Pr} (h:nU L) {k v w:Bs} (h1:(k,v)∈L) (h2:(k,w)∈L):v=w:=by
 induction L with
 | nil=>cases h1
 | cons x L ih =>
  obtain ⟨r1,r2⟩:=fP.1 h
  rcases bw.1 h1 with rfl | h1<;>rcases bw.1 h2 with e | h2
  ·exact (Prod.mk.inj e).2.symm
  ·have:=r1 _ h2;rw [gC] at this;cases this
  ·have:=r1 _ h1;rw [<-e,gC] at this;cases this
  ·exact ih r2 h1 h2
theorem Tm {n:Nat} {r:Int} {es:Es} {ups:List IL} {b:LL} (h:WT n r es ups b) {k v:Bs} (hm:(k,v)∈bf b) (hk:bi k=true):bB aa al 39 [.ptr 0 0 0,.str k] (tM r n es)=some (jq (tM r n es) (v,0)):=by
 obtain ⟨w,e,g,q | ⟨_,q | q⟩⟩:=Dj h k
 ·obtain ⟨rfl,_,hw⟩:=q
  rw [W9 (wz h.ord h.okF) hm hw]
  exact g
 ·rw [hk] at q;exact absurd q.2 (by decide)
 ·exact absurd rfl (q.2.2 (k,v) hm)
theorem Hz {P:Program} {w:World} {tx e:TypeId} {A:Option Addr} {c sz:Nat} (ht:P.underlying tx=some (.slice e)):gF P w tx (.slice A 0 c) sz 0 []:=by
 refine ⟨.inr ⟨e,ht⟩,fun w2=>rfl,by simp,fun n w2 hn _=>?_,by simp⟩
 have:n=0:=by omega
 subst this
 cases A<;>simp [Builtin.firstCells,loadCells,loadCellsFrom]
set_option maxHeartbeats 4000000 in
set_option maxRecDepth 100000 in
theorem T9:Bm Tryz.prog 212 225 100 9 3 .i64:=by
 have hce:Tryz.prog.cellsOf 9=1:=by kernel_rfl
 have mixed:Tryz.prog.follows .mixedOrders=true:=by kernel_rfl
 have t22:Tryz.prog.underlying 100=some (.slice 9):=by kernel_rfl
 refine ⟨t22,by kernel_rfl,by kernel_rfl,?_,?_,?_,?_⟩
 ·intro w g g2 o m c2 lb cb us us2 hne hg hg2 hus
  rw [run_callFunc_extern (P:=Tryz.prog) (f:=225) (fn:=Tryz.f225) (by kernel_rfl) (by kernel_rfl) (by kernel_rfl) (by kernel_rfl) (e:=Extern.SlicesOverlaps.overlaps #[100,100] #[4]) (by kernel_rfl),
   Lib.run_overlaps_apart w 100 4 9 t22 1 (fun w=>by kernel_rfl) ⟨g2,0,none⟩ ⟨g,o,none⟩ m c2 lb cb hne 9 9 us2.size us.size (by simp [World.shape?,hg2]) (by simp [World.shape?,hg]) (by omega) (by simp [World.frozen?,hg2]) (by simp [World.frozen?,hg2])]
  rfl
 ·intro g n c i g2 m c2 w w2 w3 k1 k2 hi hm hroom hc63 hov hcp1 hcp2
  rw [hce] at hcp1 hcp2
  simp only [jL] at hcp1 hcp2
  have hz1:¬((m:Int)=0):=by omega
  have hz2:¬((i:Int)=(n:Int)):=by omega
  have hw1:IntKind.i64.wrap ((i:Int)+(m:Int))=(i:Int)+(m:Int):=by rw [IntKind.wrap_i64];omega
  have hw2:IntKind.i64.wrap ((n:Int)+(m:Int))=(n:Int)+(m:Int):=by rw [IntKind.wrap_i64];omega
  have hb1:(0:Int)<=(i:Int)+(m:Int):=by omega
  have hin:i<=n:=by omega
  have htn:((i:Int)+(m:Int)).toNat=i+m:=by omega
  have hb2:¬(c=i+m):=by omega
  have hb3:(i:Int)<=(n:Int)+(m:Int):=by omega
  have hb4:¬(c=i):=by omega
  go_enter Tryz.func212,Tryz.ntmps212
  go_wp2_with (simp only [hov])
  go_region_law_o (refine step_copy_runI rfl _ _ 100 100 rfl _ _ (by simp [Act.eval,Act.put]) (by simp [Act.eval,Act.put]) (hcp1 _ _ _) ?_)
  go_wp2_with (at_builtin;refine wpList_copy_runI _ rfl _ _ 100 100 rfl _ _ rfl rfl (hcp2 _ _) ?_)
  go_ret
  exact ⟨rfl,rfl⟩
 ·intro A A2 n c m c2 w w1 r hm hnc hc63 hA0 hA1 hr
  have hz1:¬((m:Int)=0):=by omega
  cases A with
  | none =>
   obtain ⟨rfl,rfl⟩:=hA0 rfl
   go_enter Tryz.func212,Tryz.ntmps212
   go_wp2_with (at_builtin;refine Lib.wpList_append_run _ rfl _ _ _ _ rfl _ _ rfl rfl _ _ (hr _) ?_)
   all_goals (go_ret;exact ⟨rfl,rfl⟩)
  | some a =>
   obtain ⟨g,rfl⟩:=hA1 a rfl
   go_enter Tryz.func212,Tryz.ntmps212
   go_wp2_with (at_builtin;refine Lib.wpList_append_run _ rfl _ _ _ _ rfl _ _ rfl rfl _ _ (hr _) ?_)
   all_goals (go_ret;exact ⟨rfl,rfl⟩)
 ·intro g n c i g2 m c2 N G w w1 w2 w3 k1 k2 hi hm hnc hgr hlen hGn hG63 hap hcp1 hcp2
  rw [hce] at hcp1 hcp2
  simp only [jL] at hcp1 hcp2
  have hz1:¬((m:Int)=0):=by omega
  have hz2:¬((i:Int)=(n:Int)):=by omega
  have hz3:(c:Int) < (n:Int)+(m:Int):=by omega
  have hw1:IntKind.i64.wrap ((i:Int)+(m:Int))=(i:Int)+(m:Int):=by rw [IntKind.wrap_i64];omega
  have hw2:IntKind.i64.wrap ((n:Int)+(m:Int))=(n:Int)+(m:Int):=by rw [IntKind.wrap_i64];omega
  have hw3:IntKind.i64.wrap ((n:Int)+(m:Int) - (i:Int))=(n:Int)+(m:Int) - (i:Int):=by rw [IntKind.wrap_i64];omega
  have hb1:(0:Int)<=(i:Int)+(m:Int):=by omega
  have hin:i<=n:=by omega
  have htn:((i:Int)+(m:Int)).toNat=i+m:=by omega
  have hGi:¬(G=i):=by omega
  have hGim:¬(G=i+m):=by omega
  have hci:¬(c=i):=by omega
  have hb3:(i:Int)<=(n:Int):=by omega
  go_enter Tryz.func212,Tryz.ntmps212
  go_wp2_with (first
   |(at_builtin;refine Lib.wpList_append_run _ rfl _ _ _ _ rfl _ _ rfl rfl _ _ (hap _) ?_)
   |(at_builtin;refine wpList_copy_runI _ rfl _ _ 100 100 rfl _ _ rfl rfl (hcp1 _ _) ?_))
  go_region_law_o (refine step_copy_runI rfl _ _ 100 100 rfl (.slice (some ⟨N,(i+m),none⟩) (n+m - (i+m)) (G - (i+m))) (.slice (some ⟨g,i,none⟩) (n - i) (c - i)) (by simp [Act.eval,Act.put]) (by simp [Act.eval,Act.put]) (hcp2 3 (G - (i+m)) (c - i)) ?_)
  go_wp2
  go_ret
  exact ⟨rfl,rfl⟩
set_option maxHeartbeats 4000000 in
set_option maxRecDepth 100000 in
theorem Qm:Bj Tryz.prog 170 100 9:=by
 have hce:Tryz.prog.cellsOf 9=1:=by kernel_rfl
 have mixed:Tryz.prog.follows .mixedOrders=true:=by kernel_rfl
 have t22:Tryz.prog.underlying 100=some (.slice 9):=by kernel_rfl
 refine ⟨t22,by kernel_rfl,?_,?_,?_⟩
 ·intro i z hi hz
  have h1:(Tryz.prog.info? 9).bind (·.zero)=some (.string "".toUTF8):=by kernel_rfl
  rw [hi] at h1
  simp only [ap,hz,Option.some.injEq] at h1
  subst h1
  intro v hv
  simp [Value.cells] at hv
  subst hv;rfl
 ·intro A n c i w hin hnc hc63 hA0 hA1
  cases A with
  | none =>
   obtain ⟨rfl,rfl⟩:=hA0 rfl
   have:i=0:=by omega
   subst this
   go_enter Tryz.func170,Tryz.ntmps170
   go_wp2
   all_goals (go_ret;exact ⟨rfl,rfl⟩)
  | some a =>
   obtain ⟨g,q,rfl⟩:=hA1 a rfl
   go_enter Tryz.func170,Tryz.ntmps170
   go_wp2
   all_goals (go_ret;exact ⟨rfl,rfl⟩)
 ·intro g q n c i jj w w2 w3 k hij hjn hnc hc63 hap hcl
  rw [hce] at hap hcl
  simp only [jL] at hap hcl
  have hz1:¬((i:Int)=(jj:Int)):=by omega
  have hin:i<=n:=by omega
  have hij':i<=jj:=by omega
  have hb1:¬(c=i):=by omega
  have hb2:i+(n - jj)<=n:=by omega
  have hb3:¬(c=i+(n - jj)):=by omega
  have hic:i<=c:=by omega
  have hjc':jj<=c:=by omega
  have hbc:i+(n - jj)<=c:=by omega
  have hnij:(i:Int)+((n - jj:Nat):Int)<=(n:Int):=by omega
  by_cases hjc:c=jj
  ·have hn:n=jj:=by omega
   subst hn
   subst hjc
   have hap':=fun ty=>hap ty (some ⟨g,q,none⟩) 0 (fun h=>absurd h (by omega))
   simp only [iI,dv] at hap' hcl |-
   go_enter Tryz.func170,Tryz.ntmps170
   go_wp2
   go_region_law_o (refine AY rfl _ _ 100 100 rfl (.slice (some ⟨g,q,none⟩) i c) (.slice (some ⟨g,q,none⟩) 0 0) (by simp [Act.eval,Act.put]) (by simp [Act.eval,Act.put]) (hap' 100) ?_)
   go_wp2
   go_ret
   exact ⟨rfl,rfl⟩
  ·go_enter Tryz.func170,Tryz.ntmps170
   go_wp2
   go_region_law_o (refine AY rfl _ _ 100 100 rfl (.slice (some ⟨g,q,none⟩) i c) (.slice (some ⟨g,q+jj,none⟩) (n - jj) (c - jj)) (by simp [Act.eval,Act.put]) (by simp [Act.eval,Act.put]) (hap 100 (some ⟨g,q+jj,none⟩) (c - jj) (fun _=>rfl)) ?_)
   go_wp2
   go_ret
   exact ⟨rfl,rfl⟩
set_option maxHeartbeats 4000000 in
set_option maxRecDepth 100000 in
theorem PP:Bh Tryz.prog 171 100 9:=by
 have hce:Tryz.prog.cellsOf 9=1:=by kernel_rfl
 have mixed:Tryz.prog.follows .mixedOrders=true:=by kernel_rfl
 have t22:Tryz.prog.underlying 100=some (.slice 9):=by kernel_rfl
 have q22:∀(w:World) (a:Option Addr) (n c n' c':Nat),(binOp .eql 100 (.slice a n c) (.slice none n' c')).run Tryz.prog w = .ok (.bool a.isNone) w:=fun w a n c n' c'=>Lib.run_eql_slice_nil w _ _ a n c n' c' t22
 refine ⟨t22,by kernel_rfl,?_,?_,?_⟩
 ·intro n c w
  go_enter Tryz.func171,Tryz.ntmps171
  go_wp2
  go_ret
  exact ⟨rfl,rfl⟩
 ·intro g b n c w w2 r hr
  go_enter Tryz.func171,Tryz.ntmps171
  go_wp2_with (at_builtin;refine Lib.wpList_append_run _ rfl _ _ _ _ rfl _ _ rfl rfl _ _ (hr _) ?_)
  go_ret
  exact ⟨rfl,rfl⟩
 ·intro a c w
  obtain ⟨ab,ao,asp⟩:=a
  have hr:∀(ty:TypeId) (w:World),(Builtin.append_ #[100,100] ty #[.slice (some ⟨w.heap.size,0,none⟩) 0 0,.slice (some ⟨ab,ao,asp⟩) 0 c]).run Tryz.prog (w.alloc (.cells #[] 9)) = .ok (.slice (some ⟨w.heap.size,0,none⟩) 0 0) (w.alloc (.cells #[] 9)):=fun ty w=>xn t22 (by rw [hce];decide) (Hz t22) (bq _)
  go_enter Tryz.func171,Tryz.ntmps171
  go_wp2_with (at_builtin;refine Lib.wpList_append_run _ rfl _ _ _ _ rfl _ _ rfl rfl _ _ (hr _ _) ?_)
  go_ret
  exact ⟨rfl,rfl⟩
set_option maxHeartbeats 4000000 in
set_option maxRecDepth 100000 in
theorem T8:Bm Tryz.prog 213 227 80 3 3 .i64:=by
 have hce:Tryz.prog.cellsOf 3=1:=by kernel_rfl
 have mixed:Tryz.prog.follows .mixedOrders=true:=by kernel_rfl
 have t22:Tryz.prog.underlying 80=some (.slice 3):=by kernel_rfl
 refine ⟨t22,by kernel_rfl,by kernel_rfl,?_,?_,?_,?_⟩
 ·intro w g g2 o m c2 lb cb us us2 hne hg hg2 hus
  rw [run_callFunc_extern (P:=Tryz.prog) (f:=227) (fn:=Tryz.f227) (by kernel_rfl) (by kernel_rfl) (by kernel_rfl) (by kernel_rfl) (e:=Extern.SlicesOverlaps.overlaps #[80,80] #[4]) (by kernel_rfl),
   Lib.run_overlaps_apart w 80 4 3 t22 1 (fun w=>by kernel_rfl) ⟨g2,0,none⟩ ⟨g,o,none⟩ m c2 lb cb hne 3 3 us2.size us.size (by simp [World.shape?,hg2]) (by simp [World.shape?,hg]) (by omega) (by simp [World.frozen?,hg2]) (by simp [World.frozen?,hg2])]
  rfl
 ·intro g n c i g2 m c2 w w2 w3 k1 k2 hi hm hroom hc63 hov hcp1 hcp2
  rw [hce] at hcp1 hcp2
  simp only [jL] at hcp1 hcp2
  have hz1:¬((m:Int)=0):=by omega
  have hz2:¬((i:Int)=(n:Int)):=by omega
  have hw1:IntKind.i64.wrap ((i:Int)+(m:Int))=(i:Int)+(m:Int):=by rw [IntKind.wrap_i64];omega
  have hw2:IntKind.i64.wrap ((n:Int)+(m:Int))=(n:Int)+(m:Int):=by rw [IntKind.wrap_i64];omega
  have hb1:(0:Int)<=(i:Int)+(m:Int):=by omega
  have hin:i<=n:=by omega
  have htn:((i:Int)+(m:Int)).toNat=i+m:=by omega
  have hb2:¬(c=i+m):=by omega
  have hb3:(i:Int)<=(n:Int)+(m:Int):=by omega
  have hb4:¬(c=i):=by omega
  go_enter Tryz.func213,Tryz.ntmps213
  go_wp2_with (simp only [hov])
  go_region_law_o (refine step_copy_runI rfl _ _ 80 80 rfl _ _ (by simp [Act.eval,Act.put]) (by simp [Act.eval,Act.put]) (hcp1 _ _ _) ?_)
  go_wp2_with (at_builtin;refine wpList_copy_runI _ rfl _ _ 80 80 rfl _ _ rfl rfl (hcp2 _ _) ?_)
  go_ret
  exact ⟨rfl,rfl⟩
 ·intro A A2 n c m c2 w w1 r hm hnc hc63 hA0 hA1 hr
  have hz1:¬((m:Int)=0):=by omega
  cases A with
  | none =>
   obtain ⟨rfl,rfl⟩:=hA0 rfl
   go_enter Tryz.func213,Tryz.ntmps213
   go_wp2_with (at_builtin;refine Lib.wpList_append_run _ rfl _ _ _ _ rfl _ _ rfl rfl _ _ (hr _) ?_)
   all_goals (go_ret;exact ⟨rfl,rfl⟩)
  | some a =>
   obtain ⟨g,rfl⟩:=hA1 a rfl
   go_enter Tryz.func213,Tryz.ntmps213
   go_wp2_with (at_builtin;refine Lib.wpList_append_run _ rfl _ _ _ _ rfl _ _ rfl rfl _ _ (hr _) ?_)
   all_goals (go_ret;exact ⟨rfl,rfl⟩)
 ·intro g n c i g2 m c2 N G w w1 w2 w3 k1 k2 hi hm hnc hgr hlen hGn hG63 hap hcp1 hcp2
  rw [hce] at hcp1 hcp2
  simp only [jL] at hcp1 hcp2
  have hz1:¬((m:Int)=0):=by omega
  have hz2:¬((i:Int)=(n:Int)):=by omega
  have hz3:(c:Int) < (n:Int)+(m:Int):=by omega
  have hw1:IntKind.i64.wrap ((i:Int)+(m:Int))=(i:Int)+(m:Int):=by rw [IntKind.wrap_i64];omega
  have hw2:IntKind.i64.wrap ((n:Int)+(m:Int))=(n:Int)+(m:Int):=by rw [IntKind.wrap_i64];omega
  have hw3:IntKind.i64.wrap ((n:Int)+(m:Int) - (i:Int))=(n:Int)+(m:Int) - (i:Int):=by rw [IntKind.wrap_i64];omega
  have hb1:(0:Int)<=(i:Int)+(m:Int):=by omega
  have hin:i<=n:=by omega
  have htn:((i:Int)+(m:Int)).toNat=i+m:=by omega
  have hGi:¬(G=i):=by omega
  have hGim:¬(G=i+m):=by omega
  have hci:¬(c=i):=by omega
  have hb3:(i:Int)<=(n:Int):=by omega
  go_enter Tryz.func213,Tryz.ntmps213
  go_wp2_with (first
   |(at_builtin;refine Lib.wpList_append_run _ rfl _ _ _ _ rfl _ _ rfl rfl _ _ (hap _) ?_)
   |(at_builtin;refine wpList_copy_runI _ rfl _ _ 80 80 rfl _ _ rfl rfl (hcp1 _ _) ?_))
  go_region_law_o (refine step_copy_runI rfl _ _ 80 80 rfl (.slice (some ⟨N,(i+m),none⟩) (n+m - (i+m)) (G - (i+m))) (.slice (some ⟨g,i,none⟩) (n - i) (c - i)) (by simp [Act.eval,Act.put]) (by simp [Act.eval,Act.put]) (hcp2 3 (G - (i+m)) (c - i)) ?_)
  go_wp2
  go_ret
  exact ⟨rfl,rfl⟩
set_option maxHeartbeats 4000000 in
set_option maxRecDepth 100000 in
theorem Ql:Bj Tryz.prog 172 80 3:=by
 have hce:Tryz.prog.cellsOf 3=1:=by kernel_rfl
 have mixed:Tryz.prog.follows .mixedOrders=true:=by kernel_rfl
 have t22:Tryz.prog.underlying 80=some (.slice 3):=by kernel_rfl
 refine ⟨t22,by kernel_rfl,?_,?_,?_⟩
 ·intro i z hi hz
  have h1:(Tryz.prog.info? 3).bind (·.zero)=some (.int .i64 0):=by kernel_rfl
  rw [hi] at h1
  simp only [ap,hz,Option.some.injEq] at h1
  subst h1
  intro v hv
  simp [Value.cells] at hv
  subst hv;rfl
 ·intro A n c i w hin hnc hc63 hA0 hA1
  cases A with
  | none =>
   obtain ⟨rfl,rfl⟩:=hA0 rfl
   have:i=0:=by omega
   subst this
   go_enter Tryz.func172,Tryz.ntmps172
   go_wp2
   all_goals (go_ret;exact ⟨rfl,rfl⟩)
  | some a =>
   obtain ⟨g,q,rfl⟩:=hA1 a rfl
   go_enter Tryz.func172,Tryz.ntmps172
   go_wp2
   all_goals (go_ret;exact ⟨rfl,rfl⟩)
 ·intro g q n c i jj w w2 w3 k hij hjn hnc hc63 hap hcl
  rw [hce] at hap hcl
  simp only [jL] at hap hcl
  have hz1:¬((i:Int)=(jj:Int)):=by omega
  have hin:i<=n:=by omega
  have hij':i<=jj:=by omega
  have hb1:¬(c=i):=by omega
  have hb2:i+(n - jj)<=n:=by omega
  have hb3:¬(c=i+(n - jj)):=by omega
  have hic:i<=c:=by omega
  have hjc':jj<=c:=by omega
  have hbc:i+(n - jj)<=c:=by omega
  have hnij:(i:Int)+((n - jj:Nat):Int)<=(n:Int):=by omega
  by_cases hjc:c=jj
  ·have hn:n=jj:=by omega
   subst hn
   subst hjc
   have hap':=fun ty=>hap ty (some ⟨g,q,none⟩) 0 (fun h=>absurd h (by omega))
   simp only [iI,dv] at hap' hcl |-
   go_enter Tryz.func172,Tryz.ntmps172
   go_wp2
   go_region_law_o (refine AY rfl _ _ 80 80 rfl (.slice (some ⟨g,q,none⟩) i c) (.slice (some ⟨g,q,none⟩) 0 0) (by simp [Act.eval,Act.put]) (by simp [Act.eval,Act.put]) (hap' 80) ?_)
   go_wp2
   go_ret
   exact ⟨rfl,rfl⟩
  ·go_enter Tryz.func172,Tryz.ntmps172
   go_wp2
   go_region_law_o (refine AY rfl _ _ 80 80 rfl (.slice (some ⟨g,q,none⟩) i c) (.slice (some ⟨g,q+jj,none⟩) (n - jj) (c - jj)) (by simp [Act.eval,Act.put]) (by simp [Act.eval,Act.put]) (hap 80 (some ⟨g,q+jj,none⟩) (c - jj) (fun _=>rfl)) ?_)
   go_wp2
   go_ret
   exact ⟨rfl,rfl⟩
set_option maxHeartbeats 4000000 in
set_option maxRecDepth 100000 in
theorem PO:Bh Tryz.prog 173 80 3:=by
 have hce:Tryz.prog.cellsOf 3=1:=by kernel_rfl
 have mixed:Tryz.prog.follows .mixedOrders=true:=by kernel_rfl
 have t22:Tryz.prog.underlying 80=some (.slice 3):=by kernel_rfl
 have q22:∀(w:World) (a:Option Addr) (n c n' c':Nat),(binOp .eql 80 (.slice a n c) (.slice none n' c')).run Tryz.prog w = .ok (.bool a.isNone) w:=fun w a n c n' c'=>Lib.run_eql_slice_nil w _ _ a n c n' c' t22
 refine ⟨t22,by kernel_rfl,?_,?_,?_⟩
 ·intro n c w
  go_enter Tryz.func173,Tryz.ntmps173
  go_wp2
  go_ret
  exact ⟨rfl,rfl⟩
 ·intro g b n c w w2 r hr
  go_enter Tryz.func173,Tryz.ntmps173
  go_wp2_with (at_builtin;refine Lib.wpList_append_run _ rfl _ _ _ _ rfl _ _ rfl rfl _ _ (hr _) ?_)
  go_ret
  exact ⟨rfl,rfl⟩
 ·intro a c w
  obtain ⟨ab,ao,asp⟩:=a
  have hr:∀(ty:TypeId) (w:World),(Builtin.append_ #[80,80] ty #[.slice (some ⟨w.heap.size,0,none⟩) 0 0,.slice (some ⟨ab,ao,asp⟩) 0 c]).run Tryz.prog (w.alloc (.cells #[] 3)) = .ok (.slice (some ⟨w.heap.size,0,none⟩) 0 0) (w.alloc (.cells #[] 3)):=fun ty w=>xn t22 (by rw [hce];decide) (Hz t22) (bq _)
  go_enter Tryz.func173,Tryz.ntmps173
  go_wp2_with (at_builtin;refine Lib.wpList_append_run _ rfl _ _ _ _ rfl _ _ rfl rfl _ _ (hr _ _) ?_)
  go_ret
  exact ⟨rfl,rfl⟩
set_option maxHeartbeats 4000000 in
set_option maxRecDepth 100000 in
theorem V1:Hf Tryz.prog 209 9 66 5:=by
 have mixed:Tryz.prog.follows .mixedOrders=true:=by kernel_rfl
 have ts:Tryz.prog.underlying 9=some .string:=by kernel_rfl
 have tr:Tryz.prog.underlying 66=some (.slice 5):=by kernel_rfl
 have tb:Tryz.prog.underlying 5=some (.int .u8):=by kernel_rfl
 refine ⟨ts,tr,tb,by kernel_rfl,?_⟩
 intro b n L c A w w2 r hn hcap hcopy hconv
 have hcopy1:=fun ty=>hcopy ty n (.inl rfl)
 have hcopy2:grownCap w b.size 0 5=n->∀ty,_:=fun h ty=>hcopy ty 0 (.inr h)
 have hrun:=Lib.run_convert_string_bytes w 9 66 5 b ts tr tb
 go_enter Tryz.func209,Tryz.ntmps209
 by_cases hcn:grownCap w b.size 0 5=n
 ·have hcopy3:=hcopy2 hcn
  clear hcopy2
  rw [hcn] at hrun hcopy3 hcopy1 hconv hcap
  rw [iI,show b.size - n=0 by omega] at hcopy3 hcopy1
  clear hcopy hcn
  go_wp2
  go_ret
  exact ⟨rfl,rfl⟩
 ·clear hcopy hcopy2
  go_wp2
  go_ret
  exact ⟨rfl,rfl⟩
set_option maxRecDepth 100000 in
theorem PT (a b:ByteArray) (w:World):Calls Tryz.prog 207 #[.string a,.string b] w fun e w'=>e = .returned (.int .i64 (Lib.compareBytes a.data.toList b.data.toList))/\w'=w:=by
 go_enter Tryz.func207,Tryz.ntmps207
 go_wp2
 rw [run_callFunc_extern Tryz.func224 (by kernel_rfl) (by kernel_rfl) (by kernel_rfl) (e:=Extern.BytealgCompare.compare) (by kernel_rfl),Lib.run_compareString]
 simp only [Result.andThen]
 rw [Oper.upon_value]
 go_wp2
 go_ret
 exact ⟨rfl,rfl⟩
set_option maxRecDepth 100000 in
theorem PS (a b:ByteArray) (w:World):Calls Tryz.prog 158 #[.string a,.string b] w fun e w'=>e = .returned (.int .i64 (Lib.compareBytes a.data.toList b.data.toList))/\w'=w:=by
 go_enter Tryz.func158,Tryz.ntmps158
 go_wp2_with (go_at_call 207;refine (PT _ _ _).mono ?_;rintro e w' ⟨rfl,rfl⟩)
 go_ret
 exact ⟨rfl,rfl⟩
end Go.Proofs.YtlphgcjepphhcaaGreat
namespace Go.Proofs.YtlphgcjepphhcaaGreat
open Go Go.RowKit Go.Shelf
 attribute [local go_sem] Oper.semAt_some
set_option maxRecDepth 100000 in
set_option maxHeartbeats 4000000 in
theorem Ph (l B1 o1 B2 o2 n1 c1 n2 c2 N:Nat) (hN:N=min n1 n2) (A1 A2:Option Addr) (fx fy:Nat->Value) (I:Nat->World->Prop) (Ix:World->Prop) (hn:n1<=16777216) (hS:∀k W,I k W->I k W.drew)
  (h1:∀k W,I k W->W.cell? ⟨B1,o1,none⟩=some (.slice A1 n1 c1)) (h2:∀k W,I k W->W.cell? ⟨B2,o2,none⟩=some (.slice A2 n2 c2))
  (hx:∀k,k < n1->k < n2->∃b1 p1 b2 p2,A1=some ⟨b1,p1,none⟩/\A2=some ⟨b2,p2,none⟩/\∀W,I k W->W.cell? ⟨b1,p1+k,none⟩=some (fx k)/\W.cell? ⟨b2,p2+k,none⟩=some (fy k))
  (hY:∀k W,k < n1->k < n2->I k W->YieldAt Fence.wide 0 Tryz.prog l #[fx k,fy k] W fun e W2=>(e = .returned (.bool true)/\I (k+1) W2)∨(e = .returned (.bool false)/\Ix W2))
  (W:World) (h0:I 0 W) :
  CallsIn Fence.wide 1 Tryz.prog 210 #[.func (.yield l) #[] #[],.pointer (some ⟨B1,o1,none⟩),.pointer (some ⟨B2,o2,none⟩)] W fun e W'=>(∃v,e = .returned v)/\(I N W'∨Ix W'):=by
 have g1:=h1 0 W h0
 have g2:=h2 0 W h0
 refine callsIn_of_wp Tryz.func210 rfl trivial ?_ rfl
 simp only [Tryz.ntmps210,tg,cw,fc,Nat.reduceAdd,Nat.reduceSub,GK,GL,G7,GY,dB,c8]
 gi_wp2
 rw [show min ((n1:Nat):Int) ((n2:Nat):Int)=((N:Nat):Int) by omega]
 gi_loopw [10] (fun i wr=>∃k:Nat,k<=N/\i = .int .i64 k/\I k wr)
  (fun i _=>N - (og i).toNat)
 case atStart=>exact ⟨0,il _,rfl,h0⟩
 case round =>
  obtain ⟨k,hk,rfl,hI⟩:=hrel
  by_cases af:k < N
  ·obtain ⟨b1,p1,b2,p2,rfl,rfl,hcell⟩:=hx k (by omega) (by omega)
   obtain ⟨fn,tmps,assign,body,hy,hR⟩:=hY k wr.drew (by omega) (by omega) (hS k wr hI)
   have q1:=h1 k wr hI
   have q2:=h2 k wr hI
   have hk1:k < n1:=by omega
   have hk2:k < n2:=by omega
   obtain ⟨q3,q4⟩:=hcell wr hI
   clear h1 h2 hx hY hS hcell g1 g2 h0
   gi_wp2
   have hR:=hR.mono (R':=fun e W2=>∃bb,e = .returned (.bool bb)/\(bb=true->I (k+1) W2)/\(bb=false->Ix W2)) (by
    rintro e W2 (⟨rfl,h⟩ | ⟨rfl,h⟩)
    ·exact ⟨true,rfl,fun _=>h,fun e=>by cases e⟩
    ·exact ⟨false,rfl,fun e=>by (cases e),fun _=>h⟩)
   gi_region_with (refine hR.mono ?_;rintro e W3 ⟨bb,rfl,hb1,hb2⟩)
   all_goals
    cases bb
    rotate_left
    ·gi_wp2
     go_roundw
     case rel=>exact ⟨k+1,by omega,by simp,hb1 (by trivial)⟩
     case measure=>simp [og];omega
    ·gi_wp2
     refine bodyPost_ret (results_none rfl _ _ _) rfl ?_
     exact ⟨⟨_,rfl⟩,.inr (hb2 (by trivial))⟩
  ·obtain rfl:k=N:=by omega
   clear h1 h2 hx hY hS g1 g2 h0
   gi_wp2
   go_end0
   exact ⟨⟨_,rfl⟩,.inl hI⟩
set_option maxRecDepth 100000 in
set_option maxHeartbeats 4000000 in
theorem O3 (l B1 o1 n1 c1:Nat) (A1:Option Addr) (f:Nat->Nat->Value) (I:Nat->World->Prop) (Ix:World->Prop) (hn:n1<=16777216)
  (h1:∀k W,I k W->W.cell? ⟨B1,o1,none⟩=some (.slice A1 n1 c1))
  (hx:∀k,k < n1->∃b1 p1,A1=some ⟨b1,p1,none⟩/\∀W m,I m W->∀i,i < 6->W.cell? ⟨b1,p1+k * 6+i,none⟩=some (f k i))
  (hY:∀k W,k < n1->I k W->YieldAt Fence.wide 0 Tryz.prog l #[.int .i64 ((n1:Int) - 1 - (k:Int)),(.agg #[f (n1 - 1 - k) 0,f (n1 - 1 - k) 1,f (n1 - 1 - k) 2,f (n1 - 1 - k) 3,f (n1 - 1 - k) 4,f (n1 - 1 - k) 5])] W fun e W2=>(e = .returned (.bool true)/\I (k+1) W2)∨(e = .returned (.bool false)/\Ix W2))
  (W:World) (h0:I 0 W) :
  CallsIn Fence.wide 1 Tryz.prog 211 #[.func (.yield l) #[] #[],.pointer (some ⟨B1,o1,none⟩)] W fun e W'=>(∃v,e = .returned v)/\(I n1 W'∨Ix W'):=by
 have g1:=h1 0 W h0
 refine callsIn_of_wp Tryz.func211 rfl trivial ?_ rfl
 simp only [Tryz.ntmps211,tg,cw,fc,Nat.reduceAdd,Nat.reduceSub,GK,GL,G7,GY,dB,c8]
 gi_wp2
 gi_loopw [3] (fun i wr=>∃k:Nat,k<=n1/\i = .int .i64 ((n1:Int) - 1 - (k:Int))/\I k wr)
  (fun i _=>(og i+1).toNat)
 case atStart=>exact ⟨0,il _,by simp,h0⟩
 case round =>
  obtain ⟨k,hk,rfl,hI⟩:=hrel
  by_cases af:k < n1
  ·obtain ⟨b1,p1,rfl,hcell⟩:=hx (n1 - 1 - k) (by omega)
   have hY2:=hY k wr af hI
   obtain ⟨fn,tmps,assign,body,hy,hR⟩:=hY2
   have q2:=hcell wr k hI 0 (by omega)
   have q3:=hcell wr k hI 1 (by omega)
   have q4:=hcell wr k hI 2 (by omega)
   have q5:=hcell wr k hI 3 (by omega)
   have q6:=hcell wr k hI 4 (by omega)
   have q7:=hcell wr k hI 5 (by omega)
   rw [dv] at q2
   have q1:=h1 k wr hI
   have e1:((n1 - 1 - k:Nat):Int)=(n1:Int) - 1 - (k:Int):=by omega
   have e2:((n1:Int) - 1 - (k:Int)).toNat=n1 - 1 - k:=by omega
   have e3:((n1:Int) - 1 - (k:Int)) ≥ 0:=by omega
   clear h1 hx hY hcell g1 h0
   gi_wp2
   refine hR.mono ?_
   rintro e W3 (⟨rfl,hJ3⟩ | ⟨rfl,hJx3⟩)
   ·gi_wp2
    go_roundw
    case rel=>exact ⟨k+1,by omega,by simp;omega,hJ3⟩
    case measure=>simp [og];omega
   ·gi_wp2
    refine bodyPost_ret (results_none rfl _ _ _) rfl ?_
    exact ⟨⟨_,rfl⟩,.inr hJx3⟩
  ·obtain rfl:k=n1:=by omega
   clear h1 hx hY g1 h0
   gi_wp2
   go_end0
   exact ⟨⟨_,rfl⟩,.inl hI⟩
set_option maxRecDepth 100000 in
set_option maxHeartbeats 4000000 in
theorem Xl (l B1 o1 B2 o2 BB ob n s:Nat) (I:Nat->World->Prop) (Ix:World->Prop) (hn:n<=16777216) (hs:s<=16777216) (hS:∀k W,I k W->I k W.drew)
  (h1:∀k W,I k W->W.cell? ⟨B1,o1,none⟩=some (.pointer (some ⟨BB,ob,none⟩))) (h2:∀k W,I k W->W.cell? ⟨B2,o2,none⟩=some (.int .i64 (s:Int)))
  (h3:∀k W,I k W->W.cell? ⟨BB,ob+1,none⟩=some (.int .i64 (n:Int)))
  (hY:∀k W,k < n->I k W->YieldAt Fence.wide 0 Tryz.prog l #[.int .i64 (((s:Int)+(k:Int)) % (n:Int))] W fun e W2=>(e = .returned (.bool true)/\I (k+1) W2)∨(e = .returned (.bool false)/\Ix W2))
  (W:World) (h0:I 0 W) :
  CallsIn Fence.wide 1 Tryz.prog 192 #[.func (.yield l) #[] #[],.pointer (some ⟨B1,o1,none⟩),.pointer (some ⟨B2,o2,none⟩)] W fun e W'=>(∃v,e = .returned v)/\(I n W'∨Ix W'):=by
 have g1:=h1 0 W h0
 have g2:=h2 0 W h0
 have g3:=h3 0 W h0
 refine callsIn_of_wp Tryz.func192 rfl trivial ?_ rfl
 simp only [Tryz.ntmps192,tg,cw,fc,Nat.reduceAdd,Nat.reduceSub,GK,GL,G7,GY,dB,c8]
 gi_wp2
 gi_loopw [9] (fun i wr=>∃k:Nat,k<=n/\i = .int .i64 k/\I k wr)
  (fun i _=>n - (og i).toNat)
 case atStart=>exact ⟨0,il _,rfl,h0⟩
 case round =>
  obtain ⟨k,hk,rfl,hI⟩:=hrel
  by_cases af:k < n
  ·obtain ⟨fn,tmps,assign,body,hy,hR⟩:=hY k wr.drew af (hS k wr hI)
   have q1:=h1 k wr hI
   have q2:=h2 k wr hI
   have q3:=h3 k wr hI
   have w1:IntKind.i64.wrap ((s:Int)+(k:Int))=((s+k:Nat):Int):=by rw [IntKind.wrap_i64];omega
   have w2:((s+k:Nat):Int).tmod (n:Int)=(((s+k) % n:Nat):Int):=rfl
   have w3:¬((n:Int)=0):=by omega
   clear h1 h2 h3 hY hS g1 g2 g3 h0
   gi_wp2
   have hR:=hR.mono (R':=fun e W2=>∃bb,e = .returned (.bool bb)/\(bb=true->I (k+1) W2)/\(bb=false->Ix W2)) (by
    rintro e W2 (⟨rfl,h⟩ | ⟨rfl,h⟩)
    ·exact ⟨true,rfl,fun _=>h,fun e=>by cases e⟩
    ·exact ⟨false,rfl,fun e=>by (cases e),fun _=>h⟩)
   gi_region_with (refine hR.mono ?_;rintro e W3 ⟨bb,rfl,hb1,hb2⟩)
   all_goals
    cases bb
    rotate_left
    ·gi_wp2
     go_roundw
     case rel=>exact ⟨k+1,by omega,by simp,hb1 (by trivial)⟩
     case measure=>simp [og];omega
    ·gi_wp2
     refine bodyPost_ret (results_none rfl _ _ _) rfl ?_
     exact ⟨⟨_,rfl⟩,.inr (hb2 (by trivial))⟩
  ·obtain rfl:k=n:=by omega
   clear h1 h2 h3 hY hS g1 g2 g3 h0
   gi_wp2
   go_end0
   exact ⟨⟨_,rfl⟩,.inl hI⟩
end Go.Proofs.YtlphgcjepphhcaaGreat
namespace Go.Proofs.YtlphgcjepphhcaaGreat
open Go Go.Proofs
set_option maxRecDepth 100000
def Yq:Go.Shelf.Ren:=⟨fun | 5=>88 | 8=>135 | 7=>134 | 19=>190 | 20=>191 | 10=>181 | 11=>182 | 12=>183 | 13=>184 | 14=>185 | 15=>186 | 16=>187 | 17=>188 | 18=>189 | 30=>215 | 31=>216 | 32=>217 | 33=>218 | 34=>219 | 35=>220 | 40=>229 | n=>n,fun | 23=>80 | 25=>3 | 3=>3 | 32=>197 | 22=>80 | 0=>0 | 44=>255 | 46=>224 | 4=>4 | 36=>248 | 35=>247 | 41=>145 | 5=>5 | 9=>9 | 53=>272 | 57=>276 | 63=>283 | 64=>284 | n=>n,fun | n=>n⟩
theorem Nv:Go.Proofs.SlLaysM.n5 Tryz.prog Yq where
 mixed:=by kernel_rfl
 f5:=⟨"slices.Sort[[]int,int]",by decide,Tryz.func88.trans (congrArg some (by kernel_rfl))⟩
 f7:=⟨"slices.pdqsortOrdered[int]",by decide,Tryz.func134.trans (congrArg some (by kernel_rfl))⟩
 f8:=Tryz.func135.trans (congrArg some (by kernel_rfl))
 f10:=⟨"slices.insertionSortOrdered[int]",by decide,Tryz.func181.trans (congrArg some (by kernel_rfl))⟩
 f11:=⟨"slices.heapSortOrdered[int]",by decide,Tryz.func182.trans (congrArg some (by kernel_rfl))⟩
 f12:=⟨"slices.breakPatternsOrdered[int]",by decide,Tryz.func183.trans (congrArg some (by kernel_rfl))⟩
 f13:=⟨"slices.choosePivotOrdered[int]",by decide,Tryz.func184.trans (congrArg some (by kernel_rfl))⟩
 f14:=⟨"slices.reverseRangeOrdered[int]",by decide,Tryz.func185.trans (congrArg some (by kernel_rfl))⟩
 f15:=⟨"slices.partialInsertionSortOrdered[int]",by decide,Tryz.func186.trans (congrArg some (by kernel_rfl))⟩
 f16:=⟨"cmp.Less[int]",by decide,Tryz.func187.trans (congrArg some (by kernel_rfl))⟩
 f17:=⟨"slices.partitionEqualOrdered[int]",by decide,Tryz.func188.trans (congrArg some (by kernel_rfl))⟩
 f18:=⟨"slices.partitionOrdered[int]",by decide,Tryz.func189.trans (congrArg some (by kernel_rfl))⟩
 f19:=Tryz.func190.trans (congrArg some (by kernel_rfl))
 f20:=Tryz.func191.trans (congrArg some (by kernel_rfl))
 f30:=⟨"slices.siftDownOrdered[int]",by decide,Tryz.func215.trans (congrArg some (by kernel_rfl))⟩
 f31:=Tryz.func216.trans (congrArg some (by kernel_rfl))
 f32:=Tryz.func217.trans (congrArg some (by kernel_rfl))
 f33:=⟨"slices.medianAdjacentOrdered[int]",by decide,Tryz.func218.trans (congrArg some (by kernel_rfl))⟩
 f34:=⟨"slices.medianOrdered[int]",by decide,Tryz.func219.trans (congrArg some (by kernel_rfl))⟩
 f35:=⟨"cmp.isNaN[int]",by decide,Tryz.func220.trans (congrArg some (by kernel_rfl))⟩
 f40:=⟨"slices.order2Ordered[int]",by decide,Tryz.func229.trans (congrArg some (by kernel_rfl))⟩
 t0:=Tryz.underlying0
 a0:=Tryz.isAgg0
 z0:=Tryz.sizeOf0
 v0:=Tryz.zeroValue0
 t3:=Tryz.underlying3
 a3:=Tryz.isAgg3
 z3:=Tryz.sizeOf3
 v3:=Tryz.zeroValue3
 t4:=Tryz.underlying4
 a4:=Tryz.isAgg4
 z4:=Tryz.sizeOf4
 v4:=Tryz.zeroValue4
 t5:=Tryz.underlying5
 a5:=Tryz.isAgg5
 z5:=Tryz.sizeOf5
 v5:=Tryz.zeroValue5
 t9:=Tryz.underlying9
 a9:=Tryz.isAgg9
 z9:=Tryz.sizeOf9
 v9:=Tryz.zeroValue9
 t22:=Tryz.underlying80
 a22:=Tryz.isAgg80
 z22:=Tryz.sizeOf80
 v22:=Tryz.zeroValue80
 t23:=Tryz.underlying80
 a23:=Tryz.isAgg80
 z23:=Tryz.sizeOf80
 v23:=Tryz.zeroValue80
 t25:=Tryz.underlying3
 a25:=Tryz.isAgg3
 z25:=Tryz.sizeOf3
 v25:=Tryz.zeroValue3
 t32:=Tryz.underlying197
 a32:=Tryz.isAgg197
 z32:=Tryz.sizeOf197
 v32:=Tryz.zeroValue197
 t35:=Tryz.underlying247
 a35:=Tryz.isAgg247
 z35:=Tryz.sizeOf247
 v35:=Tryz.zeroValue247
 t36:=Tryz.underlying248
 a36:=Tryz.isAgg248
 z36:=Tryz.sizeOf248
 v36:=Tryz.zeroValue248
 t41:=Tryz.underlying145
 a41:=Tryz.isAgg145
 z41:=Tryz.sizeOf145
 v41:=Tryz.zeroValue145
 t44:=Tryz.underlying255
 a44:=Tryz.isAgg255
 z44:=Tryz.sizeOf255
 v44:=Tryz.zeroValue255
 t46:=Tryz.underlying224
 a46:=Tryz.isAgg224
 z46:=Tryz.sizeOf224
 v46:=Tryz.zeroValue224
 t53:=Tryz.underlying272
 a53:=Tryz.isAgg272
 z53:=Tryz.sizeOf272
 v53:=Tryz.zeroValue272
 t57:=Tryz.underlying276
 a57:=Tryz.isAgg276
 z57:=Tryz.sizeOf276
 v57:=Tryz.zeroValue276
 t63:=Tryz.underlying283
 a63:=Tryz.isAgg283
 z63:=Tryz.sizeOf283
 v63:=Tryz.zeroValue283
 t64:=Tryz.underlying284
 a64:=Tryz.isAgg284
 z64:=Tryz.sizeOf284
 v64:=Tryz.zeroValue284
theorem Yn (blk off cap:Nat) (zs:List Int) (w:World) (hH:Go.Sort.Holds (Value.int .i64) w blk off zs.toArray) (hblk:blk < w.heap.size) (hsz:zs.length < 4611686018427387904) :
  Calls Tryz.prog 88 #[.slice (some ⟨blk,off,none⟩) zs.length cap] w fun e w'=>e = .returned (.tuple #[])/\∃n os,w'=Go.Sort.grow (Go.Sort.putRow (Value.int .i64) (Go.Sort.ahead w n) blk off (zs.mergeSort fun x y=>decide (x<=y)).toArray) os :=
 AnyM.slices_Sort_int Nv blk off cap zs w hH hblk hsz
theorem Yo (p:Option Addr) (cap:Nat) (w:World):Calls Tryz.prog 88 #[.slice p 0 cap] w fun e w'=>e = .returned (.tuple #[])/\w'=w:=AnyM.slices_Sort_int_none Nv p cap w
theorem Yr:Go.Lite.SortW Tryz.prog 88:=⟨Yn,Yo⟩
theorem PI:Tryz.prog.cellsOf 3=1:=by kernel_rfl
end Go.Proofs.YtlphgcjepphhcaaGreat
namespace Go.Proofs.YtlphgcjepphhcaaGreat
open Go Go.Lite
theorem Mn {_P:Program} {Z:Zs} {w:World} {a:List V} {u:Value} (h:VR Z w j0 (.sl a) u) (h1:a.all V.one=true) :
  ∃(A:Option Addr) (c:Nat) (fx:Nat->Value),u = .slice A a.length c/\∀k x,a[k]? = some x->VR Z w j0 x (fx k)/\∃g b,A=some ⟨g,b,none⟩/\Z g (b+k)/\w.cell? ⟨g,b+k,none⟩=some (fx k):=by
 rcases h.slInv with ⟨A,c,rfl,rfl⟩ | ⟨g,b,c,sz,rfl,_,hsz,hh⟩
 ·exact ⟨A,c,fun _=>default,rfl,fun k x hk=>by simp at hk⟩
 ·refine ⟨some ⟨g,b,none⟩,c,fun k=>(w.cell? ⟨g,b+k,none⟩).getD default,rfl,fun k x hk=>?_⟩
  have hone:x.one=true:=cT.1 h1 x (cf hk)
  obtain ⟨l1,l2,l3⟩:=hh k x hk
  rw [jh hone] at l1 l3
  have:sz=1:=l1.symm
  subst this
  obtain ⟨_,u,hu,hv⟩:=l3 0 x rfl
  rw [jL,dv] at hu
  have hz:=l2 0 (by decide)
  rw [jL,dv] at hz
  show VR Z w j0 x ((w.cell? ⟨g,b+k,none⟩).getD default)/\_
  rw [hu]
  refine ⟨hv,g,b,rfl,hz,?_⟩
  show w.cell? ⟨g,b+k,none⟩=some ((w.cell? ⟨g,b+k,none⟩).getD default)
  rw [hu]
  rfl
theorem Xq {_P:Program} {Z:Zs} {w:World} {a:List V} {u:Value} (h:VR Z w j0 (.sl a) u) (h1:a.all Ai=true) :
  ∃(A:Option Addr) (c:Nat) (f:Nat->Nat->Value),u = .slice A a.length c/\∀k x,a[k]? = some x->VR Z w j0 x (.agg #[f k 0,f k 1,f k 2,f k 3,f k 4,f k 5])/\∃g b,A=some ⟨g,b,none⟩/\∀i,i < 6->Z g (b+k * 6+i)/\w.cell? ⟨g,b+k * 6+i,none⟩=some (f k i):=by
 rcases h.slInv with ⟨A,c,rfl,rfl⟩ | ⟨g,b,c,sz,rfl,_,hsz,hh⟩
 ·exact ⟨A,c,fun _ _=>default,rfl,fun k x hk=>by simp at hk⟩
 ·refine ⟨some ⟨g,b,none⟩,c,fun k i=>(w.cell? ⟨g,b+k * 6+i,none⟩).getD default,rfl,fun k x hk=>?_⟩
  have hone:Ai x=true:=cT.1 h1 x (cf hk)
  obtain ⟨l1,l2,l3⟩:=hh k x hk
  unfold Ai at hone
  split at hone
  rotate_left
  ·cases hone
  rename_i cs
  have hl:cs.length=6:=by simpa using hone
  have e:V.cells (.agg cs)=cs:=rfl
  rw [e] at l1 l3
  have:sz=6:=by omega
  subst this
  have key:∀i,i < 6->∃u,w.cell? ⟨g,b+k * 6+i,none⟩=some u/\∀y,cs[i]? = some y->VR Z w j0 y u:=fun i hi=>by
   have hy:cs[i]? = some cs[i]:=bj (by omega)
   obtain ⟨_,u,hu,hv⟩:=l3 i _ hy
   refine ⟨u,hu,fun y hy2=>?_⟩
   rw [hy] at hy2;cases hy2;exact hv
  have hz:∀i,i < 6->Z g (b+k * 6+i):=fun i hi=>by rw [gG];exact l2 i hi
  refine ⟨?_,g,b,rfl,fun i hi=>⟨hz i hi,?_⟩⟩
  ·refine .agg (us:=[_,_,_,_,_,_]) (by simpa using hl) fun i c u hc hu=>?_
   have hi:i < 6:=by rw [<-hl];exact (aS.1 hc).1
   obtain ⟨u',h1',h2'⟩:=key i hi
   have h3:=h2' c hc
   match i,hi,hu,h1' with
   | 0,_,hu,h1'=>simp at hu;rw [dv] at h1';rw [<-hu,h1'] ;exact h3
   | 1,_,hu,h1'=>simp at hu;rw [<-hu,h1'] ;exact h3
   | 2,_,hu,h1'=>simp at hu;rw [<-hu,h1'] ;exact h3
   | 3,_,hu,h1'=>simp at hu;rw [<-hu,h1'] ;exact h3
   | 4,_,hu,h1'=>simp at hu;rw [<-hu,h1'] ;exact h3
   | 5,_,hu,h1'=>simp at hu;rw [<-hu,h1'] ;exact h3
   | i+6,hi,_,_=>omega
  ·obtain ⟨u',h1',_⟩:=key i hi
   show w.cell? ⟨g,b+k * 6+i,none⟩=some ((w.cell? ⟨g,b+k * 6+i,none⟩).getD default)
   rw [h1'];rfl
theorem X0:pd Tryz.prog E3:=by
 intro f ts h xs rounds hf hr Z w us hzin ha
 unfold E3 at hf
 split at hf
 ·rename_i e
  subst e
  cases hf
  unfold uX at hr
  split at hr
  rotate_left
  ·cases hr
  rename_i q n from0
  split at hr
  rotate_left
  ·cases hr
  rename_i hc
  obtain ⟨hn0,hn,hf0,hf⟩:=hc
  cases hr
  obtain ⟨n,rfl⟩:∃m:Nat,n=(m:Int):=⟨n.toNat,by omega⟩
  obtain ⟨s,rfl⟩:∃m:Nat,from0=(m:Int):=⟨from0.toNat,by omega⟩
  obtain ⟨hl,hv⟩:=ha
  match us,hl,hv with
  | [u1,u2],hl,hv =>
  have v1:=hv 0 _ u1 rfl rfl
  have v2:=hv 1 _ u2 rfl rfl
  refine ⟨Go.Proofs.enters_of Tryz.func192 (by kernel_rfl) rfl,?_⟩
  cases v1 with
  | ref f1 c1 d1 =>
  rename_i B1 o1
  cases v2 with
  | ref f2 c2 d2 =>
  rename_i B2 o2
  obtain ⟨_,z1,e1⟩:=c1 0 _ rfl
  obtain ⟨_,z2,e2⟩:=c2 0 _ rfl
  have r1:=d1 0 _ rfl
  have r2:=d2 0 _ rfl
  generalize f1 0=g1 at e1 r1
  generalize f2 0=g2 at e2 r2
  cases r2
  cases r1 with
  | ref f3 c3 d3 =>
  rename_i BB ob
  obtain ⟨_,z3,e3⟩:=c3 1 _ rfl
  have r3:=d3 1 _ rfl
  generalize f3 1=g3 at e3 r3
  cases r3
  have hbl:(sG (n:Int) (s:Int)).length=n:=by simp [sG]
  refine ⟨(cW n).map fun k:Nat=>[.int .i64 (((s:Int)+(k:Int)) % (n:Int))],by simp [hbl],?_,?_⟩
  ·intro k x u hx hu
   have hk:k < n:=by rw [<-hbl];exact (aS.1 hx).1
   unfold sG at hx
   rw [dh,qO (by omega)] at hx
   rw [dh,qO hk] at hu
   simp at hu hx
   subst hu;subst hx
   refine ⟨rfl,fun i y' v hy' hv'=>?_⟩
   match i,hy',hv' with
   | 0,hy',hv'=>simp at hy' hv';subst hy';subst hv';exact .int
   | i+1,hy',hv'=>simp at hy'
  ·intro l I Ix W hI hIx hK hY h0
   have hY':∀k W,k < n->I k W->YieldAt Fence.wide 0 Tryz.prog l #[.int .i64 (((s:Int)+(k:Int)) % (n:Int))] W fun e W2=>(e = .returned (.bool true)/\I (k+1) W2)∨(e = .returned (.bool false)/\Ix W2):=by
    intro k W hk1 hi
    exact hY k [.int .i64 (((s:Int)+(k:Int)) % (n:Int))] W (by rw [dh,qO hk1];rfl) hi
   have:=Xl l B1 (o1+0) B2 (o2+0) BB (ob+0) n s I Ix (by omega) (by omega) (fun k W hi=>hI k W W.drew hi ⟨rfl,rfl,rfl,rfl⟩) (fun k W hi=>((hK k W hi).2 _ _ z1).trans e1) (fun k W hi=>((hK k W hi).2 _ _ z2).trans e2) (fun k W hi=>((hK k W hi).2 _ _ z3).trans e3) hY' W h0
   have:=(callsIn_wide (n:=1)).1 this
   simp only [dA,xT]
   exact this
 split at hf
 ·rename_i e
  subst e
  cases hf
  unfold yC at hr
  split at hr
  rotate_left
  ·cases hr
  rename_i a
  split at hr
  rotate_left
  ·cases hr
  rename_i hc
  obtain ⟨hlen,hpair⟩:=hc
  cases hr
  obtain ⟨hl,hv⟩:=ha
  match us,hl,hv with
  | [u1],hl,hv =>
  have v1:=hv 0 _ u1 rfl rfl
  refine ⟨Go.Proofs.enters_of Tryz.func211 (by kernel_rfl) rfl,?_⟩
  cases v1 with
  | ref f1 c1 d1 =>
  rename_i B1 o1
  obtain ⟨_,z1,e1⟩:=c1 0 (.sl a) rfl
  obtain ⟨A1,p1,fa,w1,r1⟩:=Xq (_P:=Tryz.prog) (d1 0 (.sl a) rfl) hpair
  rw [w1] at e1
  have hbl:(pw a).length=a.length:=by simp [pw]
  have hbg:∀k x,(pw a)[k]? = some x->∃y,a[a.length - 1 - k]? = some y/\k < a.length/\x=[.int .i64 ((a.length - 1 - k:Nat):Int),y]:=by
   intro k x hx
   have hk:k < a.length:=by rw [<-hbl];exact (aS.1 hx).1
   unfold pw at hx
   rw [List.getElem?_reverse (by simpa using hk)] at hx
   simp only [dA,List.length_zipIdx,dh,List.getElem?_zipIdx] at hx
   have hy:a[a.length - 1 - k]? = some a[a.length - 1 - k]:=bj (by omega)
   rw [hy] at hx
   simp at hx
   refine ⟨_,hy,hk,?_⟩
   rw [<-hx]
  refine ⟨(cW a.length).map fun k:Nat=>[.int .i64 ((a.length:Int) - 1 - (k:Int)),.agg #[fa (a.length - 1 - k) 0,fa (a.length - 1 - k) 1,fa (a.length - 1 - k) 2,fa (a.length - 1 - k) 3,fa (a.length - 1 - k) 4,fa (a.length - 1 - k) 5]],by simp [hbl],?_,?_⟩
  ·intro k x u hx hu
   obtain ⟨y,hy,hk,rfl⟩:=hbg k x hx
   rw [dh,qO hk] at hu
   simp at hu
   subst hu
   refine ⟨rfl,fun i y' v hy' hv'=>?_⟩
   match i,hy',hv' with
   | 0,hy',hv' =>
    simp at hy' hv';subst hy';subst hv'
    have:((a.length - 1 - k:Nat):Int)=(a.length:Int) - 1 - (k:Int):=by omega
    rw [this];exact .int
   | 1,hy',hv'=>simp at hy' hv';subst hy';subst hv';exact (r1 _ y hy).1
   | i+2,hy',hv'=>simp at hy'
  ·intro l I Ix W hI hIx hK hY h0
   have hY':∀k W,k < a.length->I k W->YieldAt Fence.wide 0 Tryz.prog l #[.int .i64 ((a.length:Int) - 1 - (k:Int)),.agg #[fa (a.length - 1 - k) 0,fa (a.length - 1 - k) 1,fa (a.length - 1 - k) 2,fa (a.length - 1 - k) 3,fa (a.length - 1 - k) 4,fa (a.length - 1 - k) 5]] W fun e W2=>(e = .returned (.bool true)/\I (k+1) W2)∨(e = .returned (.bool false)/\Ix W2):=by
    intro k W hk1 hi
    exact hY k [.int .i64 ((a.length:Int) - 1 - (k:Int)),.agg #[fa (a.length - 1 - k) 0,fa (a.length - 1 - k) 1,fa (a.length - 1 - k) 2,fa (a.length - 1 - k) 3,fa (a.length - 1 - k) 4,fa (a.length - 1 - k) 5]] W (by rw [dh,qO hk1];rfl) hi
   have hx:∀k,k < a.length->∃b1 p1,A1=some ⟨b1,p1,none⟩/\∀W m,I m W->∀i,i < 6->W.cell? ⟨b1,p1+k * 6+i,none⟩=some (fa k i):=by
    intro k hk1
    obtain ⟨_,g1,q1,m1,m2⟩:=r1 k a[k] (by simp [hk1])
    exact ⟨g1,q1,m1,fun W m hi i h6=>((hK m W hi).2 _ _ (m2 i h6).1).trans (m2 i h6).2⟩
   have:=O3 l B1 (o1+0) a.length p1 A1 fa I Ix hlen (fun k W hi=>((hK k W hi).2 _ _ z1).trans e1) hx hY' W h0
   have:=(callsIn_wide (n:=1)).1 this
   simp only [dA,xT]
   exact this
 split at hf
 ·rename_i e
  subst e
  cases hf
  unfold tO at hr
  split at hr
  rotate_left
  ·cases hr
  rename_i a b
  split at hr
  rotate_left
  ·cases hr
  rename_i hc
  obtain ⟨hal,ha1,hb1⟩:=hc
  cases hr
  obtain ⟨hl,hv⟩:=ha
  match us,hl,hv with
  | [u1,u2],hl,hv =>
  have v1:=hv 0 _ u1 rfl rfl
  have v2:=hv 1 _ u2 rfl rfl
  refine ⟨Go.Proofs.enters_of Tryz.func210 (by kernel_rfl) rfl,?_⟩
  cases v1 with
  | ref f1 c1 d1 =>
  rename_i B1 o1
  cases v2 with
  | ref f2 c2 d2 =>
  rename_i B2 o2
  obtain ⟨_,z1,e1⟩:=c1 0 (.sl a) rfl
  obtain ⟨_,z2,e2⟩:=c2 0 (.sl b) rfl
  obtain ⟨A1,p1,fx,w1,r1⟩:=Mn (_P:=Tryz.prog) (d1 0 (.sl a) rfl) ha1
  obtain ⟨A2,p2,fy,w2,r2⟩:=Mn (_P:=Tryz.prog) (d2 0 (.sl b) rfl) hb1
  rw [w1] at e1
  rw [w2] at e2
  refine ⟨(cW (min a.length b.length)).map fun k=>[fx k,fy k],by simp,?_,?_⟩
  ·intro k x u hx hu
   rw [List.getElem?_zipWith] at hx
   rw [dh] at hu
   cases hxa:a[k]? with
   | none=>simp [hxa] at hx
   | some xa =>
    cases hxb:b[k]? with
    | none=>simp [hxa,hxb] at hx
    | some xb =>
     simp [hxa,hxb] at hx
     subst hx
     have hka:=(aS.1 hxa).1
     have hkb:=(aS.1 hxb).1
     rw [qO (by omega)] at hu
     simp at hu
     subst hu
     refine ⟨rfl,fun i y v hy hv=>?_⟩
     match i,hy,hv with
     | 0,hy,hv=>simp at hy hv;subst hy;subst hv;exact (r1 k _ hxa).1
     | 1,hy,hv=>simp at hy hv;subst hy;subst hv;exact (r2 k _ hxb).1
     | i+2,hy,hv=>simp at hy
  ·intro l I Ix W hI hIx hK hY h0
   have hY':∀k W,k < a.length->k < b.length->I k W->YieldAt Fence.wide 0 Tryz.prog l #[fx k,fy k] W fun e W2=>(e = .returned (.bool true)/\I (k+1) W2)∨(e = .returned (.bool false)/\Ix W2):=by
    intro k W hk1 hk2 hi
    have:=hY k [fx k,fy k] W (by rw [dh,qO (by omega)];rfl) hi
    exact this
   have hx:∀k,k < a.length->k < b.length->∃b1 p1 b2 p2,A1=some ⟨b1,p1,none⟩/\A2=some ⟨b2,p2,none⟩/\∀W,I k W->W.cell? ⟨b1,p1+k,none⟩=some (fx k)/\W.cell? ⟨b2,p2+k,none⟩=some (fy k):=by
    intro k hk1 hk2
    obtain ⟨_,g1,q1,m1,m2,m3⟩:=r1 k _ (bj hk1)
    obtain ⟨_,g2,q2,n1,n2,n3⟩:=r2 k _ (bj hk2)
    exact ⟨g1,q1,g2,q2,m1,n1,fun W hi=>⟨((hK k W hi).2 _ _ m2).trans m3,((hK k W hi).2 _ _ n2).trans n3⟩⟩
   have:=Ph l B1 (o1+0) B2 (o2+0) a.length p1 b.length p2 (min a.length b.length) rfl A1 A2 fx fy I Ix hal (fun k W hi=>hI k W W.drew hi ⟨rfl,rfl,rfl,rfl⟩) (fun k W hi=>((hK k W hi).2 _ _ z1).trans e1) (fun k W hi=>((hK k W hi).2 _ _ z2).trans e2) hx hY' W h0
   have:=(callsIn_wide (n:=1)).1 this
   simp only [dA,xT]
   exact this
 ·cases hf
theorem aB:vw aa:=by
 have hceS:Tryz.prog.cellsOf 9=1:=by kernel_rfl
 have hceI:Tryz.prog.cellsOf 3=1:=by kernel_rfl
 refine ⟨by kernel_rfl,?_,?_,X0⟩
 ·intro f g h
  have h:E0 f=some g:=h
  unfold E0 at h
  split at h
  ·rename_i e
   subst e
   cases h
   have:=Ia PP
   rw [hceS] at this
   exact this
  split at h
  ·rename_i e
   subst e
   cases h
   have:=Ia PO
   rw [hceI] at this
   exact this
  split at h
  ·rename_i e
   subst e
   cases h
   exact V3 V1
  split at h
  ·rename_i e
   subst e
   cases h
   exact PW PS
  ·cases h
 ·intro f g h
  have h:EY f=some g:=h
  unfold EY at h
  split at h
  ·rename_i e
   subst e
   cases h
   have:=Ki T9
   rw [hceS] at this
   exact this
  split at h
  ·rename_i e
   subst e
   cases h
   have:=Ki T8
   rw [hceI] at this
   exact this
  split at h
  ·rename_i e
   subst e
   cases h
   exact Io Qm
  split at h
  ·rename_i e
   subst e
   cases h
   exact Io Ql
  split at h
  ·rename_i e
   subst e
   cases h
   exact Ys Yr PI
  ·cases h
end Go.Proofs.YtlphgcjepphhcaaGreat
