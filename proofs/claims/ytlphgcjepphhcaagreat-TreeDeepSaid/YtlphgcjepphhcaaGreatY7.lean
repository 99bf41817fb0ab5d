/-
  Texts that the last one stands on.
-/
import Derived.Test.YtlphgcjepphhcaaGreatY6
import Derived.Shelf.Spec.SlicesInsert
import Derived.Lib.SliceRun
import Derived.RangeFuncNested
import Derived.RangeFuncBound
import Derived.RangeFuncCalls
import Derived.RangeFuncLeaves
import Derived.Shelf.Abstract
import Derived.Shelf.RegionOpen
import Derived.WalkKit
import Derived.OwnWalkIn
import Derived.TacticsInMore
import Derived.LoopNIn
import Derived.LoopIn
import Derived.Stop.RegionWithIn
import Derived.Test.YtlphgcjepphhcaaGreatProg
import Derived.Shelf.SortM.Plain
import Derived.Shelf.SortM.SortNone
import Derived.KernelRfl
open List renaming eq_nil_or_concat->eK,append_assoc->bw,concat_eq_append->hX,mem_cons->bO,append_nil->dH,mem_cons_self->cz,reverse_cons->md,flatMap_cons->fT,append_eq_nil_iff->pX,pairwise_cons->fV,mem_map->ef,mem_append->br,pairwise_append->dZ,length_pos_iff->iM,map_append->fK,cons_append->dv,nil_append->dp,perm_middle->oK,nodup_cons->uG,mem_cons_of_mem->iN,length_map->dh,set_append_right->Du,getElem?_append_right->df,length_cons->cG,length_append->cO,length_nil->dR,map_cons->di,getElem?_eq_some_iff->bn,length_reverse->zB,reverse_reverse->Dt,drop_zero->si,take_of_length_le->kJ,take_succ_cons->uI,map_nil->gM,mem_append_right->m8,length->oJ,mem_append_left->kH,drop_drop->oH,filter_append->m7,mem_filter->m9,eq_nil_of_length_eq_zero->m4,range->dI,filter_eq_self->I7,length_range->zA,mem_singleton->eV,take_length->jZ,drop_eq_nil_of_le->oI,take_add_one->zF,length_take->d9,takeWhile_cons_of_pos->Rt,dropWhile_cons_of_pos->Rk,takeWhile_cons_of_neg->Rr,dropWhile_cons_of_neg->Rj,length_drop->eO,length_filter_le->Jb,take_zero->pY,filter_cons_of_pos->Dl,filter_cons_of_neg->Dk,dropLast_cons_of_ne_nil->mZ,exists_cons_of_ne_nil->m5,map_eq_nil_iff->Jc,dropLast_concat->se,replicate->bH,size_toArray->uH,push_toArray->Jg,append_toArray->I5,all_eq_true->dB,mem_of_getElem?->cH,getElem?_eq_getElem->bG,getElem?_map->dQ,getElem?_range->sj
open Bool renaming and_eq_true->bD,or_eq_true->mU,not_true->bv,not_false->gi
open Nat renaming le_refl->bK,add_zero->d0,zero_add->ew,sub_self->jB,add_comm->p8,min_eq_left->w7,le_trans->j4,mul_one->kO,zero_le->iB,add_assoc->iA
open Option renaming bind_some->aL
open Array renaming replicate_succ->IY,replicate_zero->IZ
namespace Go.Proofs.YtlphgcjepphhcaaGreat
open Go Go.Lite
set_option linter.unusedSimpArgs false
set_option linter.unusedVariables false
set_option maxRecDepth 100000
def hS (w:Bool) (h:Bs) (a:Su):Su:=a.dropLast++(a.getLast?.toList.map fun x=>(x.1,bif w then h else x.2))
theorem mA (w:Bool) (h:Bs) (a:Su) (z:Int) (hz:Bs):hS w h (a++[(z,hz)])=a++[(z,bif w then h else hz)]:=by simp [hS]
theorem rF {α:Type} {a:List α} (h:a≠[]):∃a' x,a=a'++[x]:=by
 rcases eK a with h' | ⟨l,x,h'⟩
 ·exact absurd h' h
 ·exact ⟨l,x,by simpa using h'⟩
theorem Wz (w:Bool) (h:Bs) (a:Su) {b:Su} (hb:b≠[]):hS w h (a++b)=a++hS w h b:=by
 obtain ⟨b',⟨z,hz⟩,rfl⟩:=rF hb
 rw [<-bw,mA,mA,bw]
theorem WB (w:Bool) (h:Bs) {a:Su} (ha:a≠[]):hS w h a≠[]:=by
 obtain ⟨a',⟨z,hz⟩,rfl⟩:=rF ha
 rw [mA];simp
theorem WA (h:Bs) (a:Su):hS false h a=a:=by
 rcases eK a with rfl | ⟨a',⟨z,hz⟩,rfl⟩
 ·rfl
 ·rw [hX,mA];rfl
theorem FT (w:Bool) (h:Bs) {a:Su} (ha:a≠[]):aQ (hS w h a)=bif w then h else aQ a:=by
 obtain ⟨a',⟨z,hz⟩,rfl⟩:=rF ha
 rw [mA,gn _ (by simp),gn _ (by simp)];rfl
def hI (w:Bool) (h:Bs) (l:IL):IL:=l.dropLast++(l.getLast?.toList.map fun x=>(x.1,hS w h x.2))
theorem yb (w:Bool) (h:Bs) (l:IL) (z:Int) (ez:Su):hI w h (l++[(z,ez)])=l++[(z,hS w h ez)]:=by simp [hI]
theorem XD (w:Bool) (h:Bs) {l:IL} (hn:∀x∈l,x.2≠[]):bf (hI w h l)=hS w h (bf l):=by
 rcases eK l with rfl | ⟨l',⟨z,ez⟩,rfl⟩
 ·rfl
 ·rw [hX] at hn |-
  have hz:ez≠[]:=hn (z,ez) (by simp)
  have e:bf (l'++[(z,ez)])=bf l'++ez:=by simp [bf]
  rw [yb,e,Wz _ _ _ hz];simp [bf]
theorem ab3 (w:Bool) (h:Bs) {l:IL} (hn:∀x∈l,x.2≠[]):bE (hI w h l)=hS w h (bE l):=by
 rcases eK l with rfl | ⟨l',⟨z,ez⟩,rfl⟩
 ·rfl
 ·rw [hX] at hn |-
  have hz:ez≠[]:=hn (z,ez) (by simp)
  have e:bE (l'++[(z,ez)])=bE l'++[(z,aQ ez)]:=by simp [bE]
  rw [yb,e,mA];simp [bE,FT w h hz]
def hF (w:Bool) (h:Bs) (b:LL):LL:=b.dropLast++(b.getLast?.toList.map fun x=>(x.1,x.2.1,bif w then h else x.2.2))
theorem vA (w:Bool) (h:Bs) (b:LL) (z:Int) (prs:List Pr) (hz:Bs):hF w h (b++[(z,prs,hz)])=b++[(z,prs,bif w then h else hz)]:=by simp [hF]
theorem ab2 (w:Bool) (h:Bs) (b:LL):bZ (hF w h b)=hS w h (bZ b):=by
 rcases eK b with rfl | ⟨b',⟨z,prs,hz⟩,rfl⟩
 ·rfl
 ·have e:bZ (b'++[(z,prs,hz)])=bZ b'++[(z,hz)]:=by simp [bZ]
  rw [hX,vA,e,mA];simp [bZ]
theorem V2 (w:Bool) (h:Bs) (b:LL):aK (hF w h b)=aK b:=by
 rcases eK b with rfl | ⟨b',⟨z,prs,hz⟩,rfl⟩
 ·rfl
 ·rw [hX,vA,lR,lR];simp [aK]
def tR {α:Type} (a:List (Int × α)):List Int:=a.getLast?.toList.map (·.1)
theorem vU {α:Type} (a:List (Int × α)) (x:Int × α):tR (a++[x])=[x.1]:=by simp [tR]
abbrev Nd:=Int × Su × Int
def tp (l:IL) (nx:Int):List Nd:=l.getLast?.toList.map fun x=>(x.1,x.2,nx)
theorem vH (l:IL) (z:Int) (ez:Su) (nx:Int):tp (l++[(z,ez)]) nx=[(z,ez,nx)]:=by simp [tp]
def dN (w:Bool) (h:Bs) (zo gs:List Nd):List Nd:=List.zipWith (fun o g=>(o.1,hS w h o.2.1,g.2.2)) zo gs
def cA (l:List Nd):Es:=l.map fun z=>(z.1,bC z.2.1 z.2.2)
inductive Rm (r:Int):List IL->Int->Bs->Su->Su->List aJ->Bool->List IL->List Nd->List Nd->Nd->Nd->Prop
 | one {up:List IL} {q p:Int} {h:Bs} {pre post:IL} {sts:List aJ} {w:Bool} {up':List IL} {gs zo:List Nd} {xo X:Nd} :
  Rm r up q h (bE pre) (bE post) sts w up' gs zo xo X ->
  Rm r ((pre++(q,[(p,h)])::post)::up) p h (bf pre) (bf post) ((q,[(p,h)],be post 0,0)::sts) w ((hI w h pre++post)::up') ((q,[(p,h)],be post 0)::gs) (tp pre (q+1)++zo) xo X
 | left {up:List IL} {q p y:Int} {h hy:Bs} {e1 e2:Su} {pre post:IL} {sts:List aJ} :
  i9 r up q (aQ (e1++(y,hy)::(p,h)::e2)) (bE pre) (bE post) sts ->
  Rm r ((pre++(q,e1++(y,hy)::(p,h)::e2)::post)::up) p h (bf pre++(e1++[(y,hy)])) (e2++bf post) ((q,e1++(y,hy)::(p,h)::e2,be post 0,e1.length+1)::sts) true
   ((pre++(q,e1++(y,h)::e2)::post)::up) [] [] (q,e1++(y,hy)::(p,h)::e2,be post 0) (q,e1++(y,h)::e2,be post 0)
 | first {up:List IL} {q p:Int} {h:Bs} {x:Int × Bs} {e2:Su} {pre post:IL} {sts:List aJ} :
  i9 r up q (aQ ((p,h)::x::e2)) (bE pre) (bE post) sts ->
  Rm r ((pre++(q,(p,h)::x::e2)::post)::up) p h (bf pre) (x::e2++bf post) ((q,(p,h)::x::e2,be post 0,0)::sts) false
   ((pre++(q,x::e2)::post)::up) [] [] (q,(p,h)::x::e2,be post 0) (q,x::e2,be post 0)
theorem aak {r:Int} {up:List IL} {p:Int} {h:Bs} {a c:Su} {sts:List aJ} (hp:i9 r up p h a c sts) (hm:∃s∈sts,2<=s.2.1.length):∃w up' gs zo xo X,Rm r up p h a c sts w up' gs zo xo X:=by
 induction hp with
 | top=>obtain ⟨s,hs,_⟩:=hm;cases hs
 | @st up q e1 p h e2 pre post sts hup ih =>
  rcases eK e1 with rfl | ⟨e1',⟨y,hy⟩,rfl⟩
  ·cases e2 with
   | nil =>
    obtain ⟨w,up',gs,zo,xo,X,hr⟩:=ih (by
     obtain ⟨s,hs,h2⟩:=hm
     rcases bO.1 hs with rfl | hs
     ·simp at h2
     ·exact ⟨s,hs,h2⟩)
    have e1:bf pre++[]=bf pre:=dH _
    rw [e1]
    exact ⟨w,_,_,_,xo,X,.one hr⟩
   | cons x e2 =>
    have e1:bf pre++[]=bf pre:=dH _
    rw [e1]
    exact ⟨_,_,_,_,_,_,.first hup⟩
  ·rw [hX] at hup |-
   have e:e1'++[(y,hy)]++(p,h)::e2=e1'++(y,hy)::(p,h)::e2:=by simp
   have el:(e1'++[(y,hy)]).length=e1'.length+1:=by simp
   rw [e] at hup
   rw [e,el]
   exact ⟨_,_,_,_,_,_,.left hup⟩
theorem Y8 (e1:Su) (y:Int) (hy:Bs) (p:Int) (h:Bs) (e2:Su):aQ (e1++(y,h)::e2)=aQ (e1++(y,hy)::(p,h)::e2):=by
 rw [gn _ (by simp),gn _ (by simp),lj (y,hy) (by simp)]
 cases e2 with
 | nil=>rfl
 | cons x e2=>rw [lj (y,h) (by simp),lj (p,h) (by simp)]
section
variable {r:Int} {up:List IL} {p:Int} {h:Bs} {a c:Su} {sts:List aJ} {w:Bool} {up':List IL} {gs zo:List Nd} {xo X:Nd}
theorem aaj (hr:Rm r up p h a c sts w up' gs zo xo X):(∀l∈up,∀x∈l,x.2≠[])->∀{d:List IL} {b:LL},Dn (hS w h a++c) d b->Dn [(r,[])] (up'.reverse++d) b:=by
 induction hr with
 | @one up q p h pre post sts w up' gs zo xo X _ ih =>
  intro hn d b hd
  have hnp:∀x∈pre,x.2≠[]:=fun x hx=>hn _ (cz ..) x (by simp [hx])
  have ek:hS w h (bf pre)++bf post=bf (hI w h pre++post):=by rw [<-XD w h hnp];simp [bf]
  have es:bE (hI w h pre++post)=hS w h (bE pre)++bE post:=by rw [<-ab3 w h hnp];simp [bE]
  rw [ek] at hd
  have hd:=Dn.inn _ _ _ hd
  rw [es] at hd
  have:=ih (fun l hl=>hn l (by simp [hl])) hd
  rwa [md,bw]
 | @left up q p y h hy e1 e2 pre post sts hup =>
  intro hn d b hd
  have ek:hS true h (bf pre++(e1++[(y,hy)]))++(e2++bf post)=bf (pre++(q,e1++(y,h)::e2)::post):=by
   rw [<-bw (bf pre),mA];simp [bf]
  rw [ek] at hd
  have hd:=Dn.inn _ _ _ hd
  have es:bE (pre++(q,e1++(y,h)::e2)::post)=bE pre++(q,aQ (e1++(y,hy)::(p,h)::e2))::bE post:=by
   rw [<-Y8 e1 y hy p h e2];simp [bE]
  rw [es] at hd
  have:=GM hup hd
  rwa [md,bw]
 | @first up q p h x e2 pre post sts hup =>
  intro hn d b hd
  have ek:hS false h (bf pre)++(x::e2++bf post)=bf (pre++(q,x::e2)::post):=by
   rw [WA];simp [bf]
  rw [ek] at hd
  have hd:=Dn.inn _ _ _ hd
  have es:bE (pre++(q,x::e2)::post)=bE pre++(q,aQ ((p,h)::x::e2))::bE post:=by
   rw [lj _ (by simp)];simp [bE]
  rw [es] at hd
  have:=GM hup hd
  rwa [md,bw]
theorem XF {l:IL} (hn:∀x∈l,x.2≠[]) (h:bf l=[]):l=[]:=by
 cases l with
 | nil=>rfl
 | cons x l =>
  rw [bf,fT,pX] at h
  exact absurd h.1 (hn x (by simp))
theorem Ci (hr:Rm r up p h a c sts w up' gs zo xo X):(∀l∈up,∀x∈l,x.2≠[])->(a=[]->zo=[])/\(a≠[]->zo.length=gs.length):=by
 induction hr with
 | @one up q p h pre post sts w up' gs zo xo X _ ih =>
  intro hn
  have hnp:∀x∈pre,x.2≠[]:=fun x hx=>hn _ (cz ..) x (by simp [hx])
  obtain ⟨h1,h2⟩:=ih fun l hl=>hn l (by simp [hl])
  constructor
  ·intro ha
   have:=XF hnp ha
   subst this
   rw [h1 rfl];rfl
  ·intro ha
   rcases eK pre with rfl | ⟨l,⟨z,ez⟩,rfl⟩
   ·exact absurd rfl ha
   ·rw [hX] at h2 |-
    rw [vH]
    have:=h2 (by simp [bE])
    simp [this]
 | left _=>intro _;exact ⟨fun _=>rfl,fun _=>rfl⟩
 | first _=>intro _;exact ⟨fun _=>rfl,fun _=>rfl⟩
end
def fR (e:Su):List Bs:=e.dropLast.map (·.2)
theorem Hc:∀{l:List Bs} {p:Bs},eG p l=true↔(∀s∈l,bq s=true/\lt p s=true)/\l.Pairwise fun a b=>lt a b=true
 | [],p=>by simp [eG]
 | s::l,p=>by
  rw [eG,bD,bD,Hc (l:=l) (p:=s),fV]
  constructor
  ·rintro ⟨⟨h1,h2⟩,h3,h4⟩
   refine ⟨fun x hx=>?_,fun x hx=>(h3 x hx).2,h4⟩
   rcases bO.1 hx with rfl | hx
   ·exact ⟨h1,h2⟩
   ·exact ⟨(h3 x hx).1,lt_trans h2 (h3 x hx).2⟩
  ·rintro ⟨h1,h2,h3⟩
   exact ⟨h1 s (by simp),fun x hx=>⟨(h1 x (by simp [hx])).1,h2 x hx⟩,h3⟩
structure mX (e:Su) (h:Bs):Prop where
 ne:e≠[]
 pg:∀x∈e,dV x.1=true
 key:∀s∈fR e,bq s=true
 ri:(fR e).Pairwise fun a b=>lt a b=true
 hi:h=[]∨(bq h=true/\∀s∈fR e,lt s h=true)
 sz:23+cD (fR e)<=252
theorem XH {l:List Bs} {h:Bs} (hk:bq h=true) (ha:∀x∈l,lt x h=true):lt (l.getLastD []) h=true:=by
 rcases eK l with rfl | ⟨a,x,rfl⟩
 ·exact qK hk
 ·have:(a.concat x).getLastD []=x:=by simp
  rw [this];exact ha x (by simp)
theorem W8 {e:Su} {nx:Int}:(e≠[]/\bQ (aG e nx)=true)↔mX e (aQ e)/\0<=nx/\nx<=1024:=by
 rw [ru,sW]
 constructor
 ·rintro ⟨hne,h1,h2,h3,h4,h5,h6,h7⟩
  obtain ⟨q1,q2⟩:=Hc.1 h3
  refine ⟨⟨hne,fun x hx=>h2 x.1 (ef.2 ⟨x,hx,rfl⟩),fun s hs=>(q1 s hs).1,q2,?_,h7⟩,h5,h6⟩
  simp only [fh,mU,bD] at h4
  rcases h4 with h4 | ⟨h4,h8⟩
  ·exact .inl (by simpa using h4)
  ·refine .inr ⟨h4,fun s hs=>?_⟩
   have hs:s∈e.dropLast.map (·.2):=hs
   have q2:(e.dropLast.map (·.2)).Pairwise fun a b=>lt a b=true:=q2
   have h8:lt ((e.dropLast.map (·.2)).getLastD []) (aQ e)=true:=h8
   show lt s (aQ e)=true
   generalize e.dropLast.map (·.2)=l at hs h8 q2
   rcases eK l with rfl | ⟨a,y,rfl⟩
   ·cases hs
   ·have e:(a.concat y).getLastD []=y:=by simp
    rw [e] at h8
    rw [hX] at hs q2
    rcases br.1 hs with hs | hs
    ·exact lt_trans ((dZ.1 q2).2.2 s hs y (by simp)) h8
    ·have:s=y:=by simpa using hs
     rw [this];exact h8
 ·rintro ⟨o,h5,h6⟩
  refine ⟨o.ne,?_,?_,?_,?_,h5,h6,o.sz⟩
  ·have:=iM.2 o.ne
   simp;omega
  ·intro k hk
   obtain ⟨x,hx,rfl⟩:=ef.1 hk
   exact o.pg x hx
  ·exact Hc.2 ⟨fun s hs=>⟨o.key s hs,qK (o.key s hs)⟩,o.ri⟩
  ·show fh ((fR e).getLastD []) (aQ e)=true
   unfold fh
   rcases o.hi with h | ⟨hk,ha⟩
   ·rw [h];rfl
   ·rw [hk,XH hk ha];simp
theorem tN {e:Su} {nx:Int}:okI e nx↔mX e (aQ e)/\0<=nx/\nx<=1024:=W8
theorem ab4 {a b:List Bs} (h:a.Sublist b):cD a<=cD b:=by
 induction h with
 | slnil=>exact bK _
 | cons x _ ih=>rw [cD];omega
 | cons_cons x _ ih=>rw [cD,cD];omega
theorem MC {e e':Su} {h:Bs} (o:mX e h) (hne:e'≠[]) (hp:∀x∈e',∃y∈e,y.1=x.1) (hs:(fR e').Sublist (fR e)):mX e' h:=by
 refine ⟨hne,fun x hx=>?_,fun s h=>o.key s (hs.subset h),o.ri.sublist hs,?_,?_⟩
 ·obtain ⟨y,hy,e⟩:=hp x hx
  rw [<-e];exact o.pg y hy
 ·rcases o.hi with h | ⟨h1,h2⟩
  ·exact .inl h
  ·exact .inr ⟨h1,fun s h=>h2 s (hs.subset h)⟩
 ·have:=ab4 hs
  have:=o.sz
  omega
theorem CJ (a:Su) (x:Int × Bs) (b:Su):fR (a++x::b)=a.map (·.2)++fR (x::b):=by
 unfold fR
 rw [qv,fK]
theorem CK (x y:Int × Bs) (b:Su):fR (x::y::b)=x.2::fR (y::b):=rfl
theorem P4 (w:Bool) (h:Bs) (e:Su):fR (hS w h e)=fR e:=by
 rcases eK e with rfl | ⟨e',⟨z,hz⟩,rfl⟩
 ·rfl
 ·rw [hX,mA,CJ,CJ];rfl
theorem aa9 (e:Su):(fR e).Sublist (e.map (·.2)):=List.Sublist.map _ (List.dropLast_sublist _)
theorem W7 {e:Su} (o:mX e (aQ e)) {w:Bool} {h:Bs} (hk:h=[]∨bq h=true) (hl:∀x∈e,aD x.2 h):mX (hS w h e) (aQ (hS w h e)):=by
 have hs:=P4 w h e
 refine ⟨WB w h o.ne,?_,by rw [hs];exact o.key,by rw [hs];exact o.ri,?_,by rw [hs];exact o.sz⟩
 ·intro x hx
  obtain ⟨e',⟨z,hz⟩,rfl⟩:=rF o.ne
  rw [mA] at hx
  rcases br.1 hx with hx | hx
  ·exact o.pg x (by simp [hx])
  ·have:x=(z,bif w then h else hz):=by simpa using hx
   rw [this];exact o.pg (z,hz) (by simp)
 ·rw [hs,FT w h o.ne]
  cases w with
  | false=>exact o.hi
  | true =>
   show h=[]∨(bq h=true/\∀s∈fR e,lt s h=true)
   rcases hk with hk | hk
   ·exact .inl hk
   ·refine .inr ⟨hk,fun s hs=>?_⟩
    obtain ⟨x,hx,rfl⟩:=ef.1 ((aa9 e).subset hs)
    exact (hl x hx).2.resolve_left (o8 hk)
theorem W9 {e1:Su} {y:Int} {hy:Bs} {p:Int} {h:Bs} {e2:Su} {g:Bs} (o:mX (e1++(y,hy)::(p,h)::e2) g):mX (e1++(y,h)::e2) g:=by
 refine MC o (by simp) ?_ ?_
 ·intro x hx
  rcases br.1 hx with hx | hx
  ·exact ⟨x,by simp [hx],rfl⟩
  ·rcases bO.1 hx with rfl | hx
   ·exact ⟨(y,hy),by simp,rfl⟩
   ·exact ⟨x,by simp [hx],rfl⟩
 ·rw [CJ,CJ,CK]
  refine List.Sublist.append_left ?_ _
  cases e2 with
  | nil=>exact List.nil_sublist _
  | cons x e2=>rw [CK,CK];exact (List.Sublist.refl _).cons _
theorem W6 {p:Int} {h:Bs} {x:Int × Bs} {e2:Su} {g:Bs} (o:mX ((p,h)::x::e2) g):mX (x::e2) g :=
 MC o (by simp) (fun z hz=>⟨z,by simp [hz],rfl⟩) (by rw [CK];exact (List.Sublist.refl _).cons _)
theorem aam {r:Int} {up:List IL} {p:Int} {h:Bs} {a c:Su} {sts:List aJ} {w:Bool} {up':List IL} {gs zo:List Nd} {xo X:Nd} (hr:Rm r up p h a c sts w up' gs zo xo X) :
  (∀l∈up,cI okI l 0)->HP (a++(p,h)::c)->(h=[]∨bq h=true)->∀l∈up',cI okI l 0:=by
 induction hr with
 | @one up q p h pre post sts w up' gs zo xo X _ ih =>
  intro hI hP hk l hl
  have h0:=hI _ (cz ..)
  obtain ⟨ok1,⟨ok3,ok2⟩⟩:=(fP _ _ _).1 h0
  have ok2:cI okI post 0:=ok2
  rcases bO.1 hl with rfl | hl
  ·refine (fP _ _ _).2 ⟨?_,ok2⟩
   rcases eK pre with rfl | ⟨l',⟨z,ez⟩,rfl⟩
   ·trivial
   ·rw [hX] at ok1 hP |-
    rw [yb]
    obtain ⟨k1,k2,_⟩:=(fP _ _ _).1 ok1
    refine (fP _ _ _).2 ⟨k1,?_,trivial⟩
    have o:=(tN.1 k2).1
    have hx:=(tN.1 ok3).2
    refine tN.2 ⟨W7 o hk fun x hx=>?_,hx⟩
    have e:bf (l'++[(z,ez)])=bf l'++ez:=by simp [bf]
    rw [e] at hP
    exact (dZ.1 hP).2.2 x (by simp [hx]) (p,h) (by simp)
  ·have e0:bf pre++(p,h)::bf post=bf (pre++(q,[(p,h)])::post):=by simp [bf]
   rw [e0] at hP
   have:=Bl (gU h0) hP
   have e':bE (pre++(q,[(p,h)])::post)=bE pre++(q,h)::bE post:=by simp [bE,aQ]
   rw [e'] at this
   exact ih (fun l hl=>hI l (by simp [hl])) this hk l hl
 | @left up q p y h hy e1 e2 pre post sts hup =>
  intro hI hP hk l hl
  have h0:=hI _ (cz ..)
  obtain ⟨ok1,⟨ok3,ok2⟩⟩:=(fP _ _ _).1 h0
  rcases bO.1 hl with rfl | hl
  ·refine (fP _ _ _).2 ⟨ok1,?_,ok2⟩
   have o:=tN.1 ok3
   refine tN.2 ⟨?_,o.2⟩
   rw [Y8 e1 y hy p h e2]
   exact W9 o.1
  ·exact hI l (by simp [hl])
 | @first up q p h x e2 pre post sts hup =>
  intro hI hP hk l hl
  have h0:=hI _ (cz ..)
  obtain ⟨ok1,⟨ok3,ok2⟩⟩:=(fP _ _ _).1 h0
  rcases bO.1 hl with rfl | hl
  ·refine (fP _ _ _).2 ⟨ok1,?_,ok2⟩
   have o:=tN.1 ok3
   refine tN.2 ⟨?_,o.2⟩
   have:=W6 o.1
   rwa [lj _ (by simp)] at this
  ·exact hI l (by simp [hl])
def c1 (x a:Int × Bs):Nat:=if a=x then 1 else 0
def cn (x:Int × Bs):Es->Nat
 | []=>0
 | a::l=>c1 x a+cn x l
theorem j8 (x:Int × Bs):∀(a b:Es),cn x (a++b)=cn x a+cn x b
 | [],b=>by simp [cn]
 | y::a,b=>by rw [dv,cn,cn,j8 x a b];omega
theorem Eb (x:Int × Bs):∀l:Es,cn x l=l.count x
 | []=>rfl
 | a::l=>by
  rw [cn,Eb x l,List.count_cons,c1]
  by_cases h:a=x
  ·simp [h];omega
  ·simp [h]
theorem kv {a b:Es}:a.Perm b↔∀x,cn x a=cn x b:=by
 rw [List.perm_iff_count]
 exact forall_congr' fun x=>by rw [Eb,Eb]
theorem lF (x a:Int × Bs) (l:Es):cn x (a::l)=c1 x a+cn x l:=rfl
theorem sL (x:Int × Bs):cn x []=0:=rfl
theorem oX (x:Nd) (l:List Nd):cA (x::l)=(x.1,bC x.2.1 x.2.2)::cA l:=rfl
theorem aao {r:Int} {up:List IL} {p:Int} {h:Bs} {a c:Su} {sts:List aJ} {w:Bool} {up':List IL} {gs zo:List Nd} {xo X:Nd} (hr:Rm r up p h a c sts w up' gs zo xo X) :
  (∀l∈up,∀x∈l,x.2≠[])->∃R,(cX up).Perm (cA zo++(cA gs++(cA [xo]++R)))/\(cX up').Perm (cA (dN w h zo gs)++(cA [X]++R)):=by
 induction hr with
 | @one up q p h pre post sts w up' gs zo xo X hr ih =>
  intro hn
  obtain ⟨R,h1,h2⟩:=ih fun l hl=>hn l (by simp [hl])
  rw [kv] at h1 h2
  rcases eK pre with rfl | ⟨l,⟨z,ez⟩,rfl⟩
  ·have hz:=(Ci hr fun l hl=>hn l (by simp [hl])).1 rfl
   subst hz
   refine ⟨bj bC post 0++R,kv.2 fun x=>?_,kv.2 fun x=>?_⟩
   ·have h1:=h1 x
    have e:cX (([]++(q,[(p,h)])::post)::up)=(q,bC [(p,h)] (be post 0))::bj bC post 0++cX up:=rfl
    have e2:tp [] (q+1)=[]:=rfl
    rw [e,e2]
    simp only [j8,lF,oX,dp] at h1 |-
    omega
   ·have h2:=h2 x
    have e:cX ((hI w h []++post)::up')=bj bC post 0++cX up':=rfl
    have e2:dN w h (tp [] (q+1)++[]) ((q,[(p,h)],be post 0)::gs)=[]:=rfl
    have e3:dN w h [] gs=[]:=rfl
    rw [e,e2]
    rw [e3] at h2
    simp only [j8,lF,oX,dp] at h2 |-
    omega
  ·rw [hX]
   refine ⟨bj bC l (z+1)++bj bC post 0++R,kv.2 fun x=>?_,kv.2 fun x=>?_⟩
   ·have h1:=h1 x
    have e:cX ((l++[(z,ez)]++(q,[(p,h)])::post)::up)=bj bC l (z+1)++(z,bC ez (q+1))::(q,bC [(p,h)] (be post 0))::bj bC post 0++cX up:=by
     rw [mt,bw,jG];rfl
    rw [e,vH]
    simp only [j8,lF,oX,dp,dv] at h1 |-
    omega
   ·have h2:=h2 x
    have e:cX ((hI w h (l++[(z,ez)])++post)::up')=bj bC l (z+1)++(z,bC (hS w h ez) (be post 0))::bj bC post 0++cX up':=by
     rw [yb,mt,bw,jG];rfl
    have e2:dN w h (tp (l++[(z,ez)]) (q+1)++zo) ((q,[(p,h)],be post 0)::gs)=(z,hS w h ez,be post 0)::dN w h zo gs:=by rw [vH];rfl
    rw [e,e2]
    simp only [j8,lF,oX,dp,dv] at h2 |-
    omega
 | @left up q p y h hy e1 e2 pre post sts hup =>
  intro hn
  refine ⟨bj bC pre (q+1)++bj bC post 0++cX up,?_,?_⟩
  ·rw [mt,jG,bj]
   show ((bj bC pre (q+1)++_::bj bC post 0)++cX up).Perm (_::(bj bC pre (q+1)++bj bC post 0++cX up))
   rw [bw,dv,bw]
   exact oK
  ·rw [mt,jG,bj]
   show ((bj bC pre (q+1)++_::bj bC post 0)++cX up).Perm (_::(bj bC pre (q+1)++bj bC post 0++cX up))
   rw [bw,dv,bw]
   exact oK
 | @first up q p h x e2 pre post sts hup =>
  intro hn
  refine ⟨bj bC pre (q+1)++bj bC post 0++cX up,?_,?_⟩
  ·rw [mt,jG,bj]
   show ((bj bC pre (q+1)++_::bj bC post 0)++cX up).Perm (_::(bj bC pre (q+1)++bj bC post 0++cX up))
   rw [bw,dv,bw]
   exact oK
  ·rw [mt,jG,bj]
   show ((bj bC pre (q+1)++_::bj bC post 0)++cX up).Perm (_::(bj bC pre (q+1)++bj bC post 0++cX up))
   rw [bw,dv,bw]
   exact oK
abbrev nA (n r:Nat):Int:=W .u8 (((BitVec.ofInt (IntKind.bits .u8) (n:Int) &&& ~~~(BitVec.ofInt (IntKind.bits .u8) (r:Int))).toNat:Int))
theorem SU:∀b0 b1 b2 b3 b4 b5 b6 b7:Bool,
  nA (dl b0 b1 b2 b3 b4 b5 b6 b7) 1=(dl false b1 b2 b3 b4 b5 b6 b7:Nat)/\nA (dl b0 b1 b2 b3 b4 b5 b6 b7) 2=(dl b0 false b2 b3 b4 b5 b6 b7:Nat)/\nA (dl b0 b1 b2 b3 b4 b5 b6 b7) 4=(dl b0 b1 false b3 b4 b5 b6 b7:Nat)/\nA (dl b0 b1 b2 b3 b4 b5 b6 b7) 8=(dl b0 b1 b2 false b4 b5 b6 b7:Nat) /\
  nA (dl b0 b1 b2 b3 b4 b5 b6 b7) 16=(dl b0 b1 b2 b3 false b5 b6 b7:Nat)/\nA (dl b0 b1 b2 b3 b4 b5 b6 b7) 32=(dl b0 b1 b2 b3 b4 false b6 b7:Nat)/\nA (dl b0 b1 b2 b3 b4 b5 b6 b7) 64=(dl b0 b1 b2 b3 b4 b5 false b7:Nat)/\nA (dl b0 b1 b2 b3 b4 b5 b6 b7) 128=(dl b0 b1 b2 b3 b4 b5 b6 false:Nat):=by decide +kernel
theorem Sw (f:Nat->Bool) (i:Nat):nA (kY f (i / 8)) (2 ^ (i % 8))=(kY (eY f i false) (i / 8):Nat):=by
 obtain ⟨j,k,hk,e,e1,e2⟩:=Gs i
 rw [e1,e2,e]
 have h:=SU (f (8 * j)) (f (8 * j+1)) (f (8 * j+2)) (f (8 * j+3)) (f (8 * j+4)) (f (8 * j+5)) (f (8 * j+6)) (f (8 * j+7))
 obtain ⟨h0,h1,h2,h3,h4,h5,h6,h7⟩:=h
 have u:∀m,eY f (8 * j+k) false (8 * j+m)=if m=k then false else f (8 * j+m):=by
  intro m
  unfold eY
  by_cases e:m=k
  ·rw [if_pos (by omega),if_pos e]
  ·rw [if_neg (by omega),if_neg e]
 have u0:=u 0
 rw [d0] at u0
 unfold kY
 rw [u0,u 1,u 2,u 3,u 4,u 5,u 6,u 7]
 rcases B5 hk with rfl | rfl | rfl | rfl | rfl | rfl | rfl | rfl<;>assumption
theorem Wx (n:Nat) (hn:n<=1024) (f:Nat->Bool) (i:Nat) (hi:i < n) (hf:f i=true):bT aA aF 174 [.ptr 0 0 0,.int .i64 (i:Int)] (bm n (aR n f))=some (tE (0,n,aR n (eY f i false))):=by
 refine Uu _ _ _ (o:=.doneM (.int .i64 0) (bm n (aR n (eY f i false)))) ?_ (.done (by kernel_rfl))
 unfold K2
 have his:mD n f (i:Int)=true:=by unfold mD;rw [aY,hf,decide_eq_true (by omega)];rfl
 rw [decide_eq_true (show (i:Int) ≥ 0 by omega),cond_true,decide_eq_true (show (i:Int) < (n:Int) by omega),bv,cond_false,bR vO (vE n hn f i),bz,his,bv,cond_false,
  IH i (by omega),aY,aB (decide_eq_true (by omega)),aB (decide_eq_true (by rw [u6];omega)),ew,cQ (u5 f (by omega)),bX,aH (DZ i),bX,aB (decide_eq_true (by omega)),aB (decide_eq_true (by rw [u6];omega)),cQ (u5 f (by omega)),bX]
 have:=Sw f i
 simp only [nA] at this
 rw [this,JV f false hi]
theorem Kv {p:Int}:∀{es:Es},(aO es).Nodup->∀q,q∈aO (fL es p)↔q∈aO es/\q≠p
 | [],_,q=>by simp [fL,aO]
 |(a,x)::es,hn,q=>by
  have hn:=uG.1 hn
  rw [fL]
  by_cases h:p=a
  ·subst h
   rw [if_pos rfl]
   constructor
   ·intro hq
    exact ⟨iN _ hq,fun e=>hn.1 (e ▸ hq)⟩
   ·rintro ⟨h1,h2⟩
    rcases bO.1 h1 with h1 | h1
    ·exact absurd h1 h2
    ·exact h1
  ·rw [if_neg h]
   have ih:=Kv (p:=p) hn.2 q
   show q∈a::aO (fL es p)↔q∈a::aO es/\q≠p
   rw [bO,bO,ih]
   constructor
   ·rintro (rfl | ⟨h1,h2⟩)
    ·exact ⟨.inl rfl,fun e=>h e.symm⟩
    ·exact ⟨.inr h1,h2⟩
   ·rintro ⟨rfl | h1,h2⟩
    ·exact .inl rfl
    ·exact .inr ⟨h1,h2⟩
theorem Eo {p:Int}:∀{es:Es},(aO (fL es p)).Sublist (aO es)
 | []=>.slnil
 |(a,x)::es=>by
  rw [fL]
  split
  ·exact (List.Sublist.refl _).cons _
  ·exact (Eo (es:=es)).cons_cons _
theorem Ig {n:Nat} {es:Es} (h:cx n es) (p:Int):cx n (fL es p) :=
 ⟨h.le,h.nd.sublist Eo,fun q hq=>h.rng q (Eo.subset hq)⟩
theorem Mj {n:Nat} {es:Es} (h:cx n es) {p:Int} (hp:p∈aO es):bT aA aF 127 [.ptr 0 0 0,.int .i64 p] (sM n es)=some (qV (0,n,aZ (fL es p),aR n (aM (fL es p)))):=by
 have hr:=h.rng p hp
 obtain ⟨k,rfl⟩:∃k:Nat,p=(k:Int):=⟨p.toNat,by omega⟩
 have ht:aM (fL es k)=eY (aM es) k false:=by
  funext j
  unfold eY aM
  have:=Kv (p:=(k:Int)) h.nd (j:Int)
  by_cases e:j=k
  ·rw [if_pos e,decide_eq_false]
   rw [this]
   rintro ⟨_,h2⟩
   exact h2 (by rw [e])
  ·rw [if_neg e]
   by_cases hj:(j:Int)∈aO es
   ·rw [decide_eq_true hj,decide_eq_true (this.2 ⟨hj,by omega⟩)]
   ·rw [decide_eq_false hj,decide_eq_false fun q=>hj (this.1 q).1]
 rw [ht]
 refine T3 _ _ _ _ (o:=.doneM (.int .i64 0) (sm n (aZ (fL es k)) (aR n (eY (aM es) k false)))) ?_ (.done (by kernel_rfl))
 unfold KR
 rw [bW Yt (Wx n h.le (aM es) k (by omega) (by unfold aM;exact decide_eq_true hp)),cN rfl,cond_true,Nu,gw]
inductive mg (n:Nat):Int->Es->Int->Es->Prop
 | leaf {r:Int} {es:Es} {l:Lf} (hs:cx n es) (hg:cP es r=some (bI l)) (hr:cJ l=true):mg n r es r es
 | stop {r:Int} {es:Es} {e:Su} {nx:Int} (hs:cx n es) (hg:cP es r=some (cF (aG e nx))) (hr:bQ (aG e nx)=true) (h2:2<=e.length):mg n r es r es
 | one {r:Int} {es:Es} {k:Int} {h:Bs} {nx r':Int} {es':Es} (hs:cx n es) (hg:cP es r=some (cF (aG [(k,h)] nx))) (hr:bQ (aG [(k,h)] nx)=true):mg n k (fL es r) r' es'->mg n r es r' es'
theorem abk {n:Nat} {r:Int} {es:Es} {r':Int} {es':Es} (h:mg n r es r' es'):Go qk true 5 (fF 128) (.head 0 (zU r n (aZ es) (aR n (aM es)))) (.doneM (.tup []) (tM r' n es')):=by
 induction h with
 | @leaf r es l hs hg hr =>
  refine Hv _ _ _ _ ?_ (.refl _)
  unfold Cq
  rw [rp hs hg hr,bz]
 | @stop r es e nx hs hg hr h2 =>
  refine Hv _ _ _ _ ?_ (.refl _)
  unfold Cq
  rw [pB hs hg hr,bz]
  show (cond (decide (((aC (e.map (·.1))).length:Int) > 1)) _ _)=_
  rw [decide_eq_true (by rw [co,dh];omega),cond_true]
 | @one r es k h nx r' es' hs hg hr _ ih =>
  refine Hv _ _ _ _ ?_ ih
  unfold Cq
  rw [pB hs hg hr,bz,decide_eq_false (by rw [co];simp),cond_false,bW NA (Mj hs (xZ hg))]
  rfl
theorem abj {n:Nat} {r:Int} {es:Es} {r':Int} {es':Es} (h:mg n r es r' es'):bT aA aF 128 [.ptr 0 0 0] (tM r n es)=some (tC (r',n,aZ es',aR n (aM es'))) :=
 T5 _ _ _ _ rfl ⟨_,_,abk h,by kernel_rfl⟩
theorem P9 {n:Nat}:∀{ups:List IL} {r:Int} {es:Es} {b:LL},WT n r es ups b->(∀x∈b,x.2.1≠[])->∃r' es' ups',mg n r es r' es'/\WF n r' es' ups' b
 | [],r,es,b,h,hne=>by
  have e:=ji h.dn
  obtain ⟨prs,rfl⟩:∃prs,b=[(r,prs,[])]:=by
   match b,e with
   | [(p,prs,hh)],e =>
    simp [bZ] at e
    obtain ⟨rfl,rfl⟩:=e
    exact ⟨prs,rfl⟩
   | [],e=>simp [bZ] at e
   | _::_::_,e=>simp [bZ] at e
  have hr:cJ ⟨prs,[],0⟩=true:=h.okF.1
  have hg:cP es r=some (bI ⟨prs,[],0⟩):=jJ h.shf.nd (h.rep.mem_iff.2 (by simp [bj,cS,be]))
  exact ⟨r,es,[],.leaf h.shf hg hr,h,fun q=>absurd rfl q,fun l hl=>by cases hl⟩
 | l::d,r,es,b,h,hne=>by
  obtain ⟨e,hd⟩:=ff h.dn
  obtain ⟨q,rfl,hq⟩:∃q,l=[(r,q)]/\aQ q=[]:=by
   match l,e with
   | [(p,q)],e =>
    simp [bE] at e
    obtain ⟨rfl,e⟩:=e
    exact ⟨q,rfl,e⟩
   | [],e=>simp [bE] at e
   | _::_::_,e=>simp [bE] at e
  have ho:=h.okI _ (cz ..)
  obtain ⟨hqn,hr⟩:okI q 0:=ho.1
  have hat:es.Perm ((r,bC q 0)::(cX d++bj cS b 0)):=h.rep
  have hg:cP es r=some (cF (aG q 0)):=nJ h.shf.nd hat
  by_cases h2:2<=q.length
  ·refine ⟨r,es,_,.stop h.shf hg hr h2,h,fun _=>hne,?_⟩
   intro l hl x hx
   rw [md,List.getLast?_append] at hl
   have:l=[(r,q)]:=by simpa using hl.symm
   rw [this] at hx
   have:x=(r,q):=by simpa using hx
   rw [this];exact h2
  ·obtain ⟨k,hk,rfl⟩:∃k hk,q=[(k,hk)]:=by
    match q,hqn,h2 with
    | [(k,hk)],_,_=>exact ⟨k,hk,rfl⟩
    | _::_::_,_,h2=>simp at h2
   have e0:hk=[]:=hq
   subst e0
   have hd':Dn [(k,[])] d b:=hd
   have hw:WT n k (fL es r) d b:=⟨Ig h.shf r,En h.shf.nd hat,hd',fun l hl=>h.okI l (by simp [hl]),h.okF,h.ord⟩
   obtain ⟨r',es',ups',h1,h3⟩:=P9 hw hne
   exact ⟨r',es',ups',.one h.shf hg hr h1,h3⟩
theorem P8 {α:Type} (a:List α) (x y:α) (b:List α) {n:Nat} (h:n=a.length):(a++x::b).set n y=a++y::b:=by
 subst h
 rw [Du _ _ (bK _),jB];rfl
theorem ya {α:Type} (a:List α) (x:α) (b:List α) {n:Nat} (h:n=a.length):(a++x::b)[n]? = some x:=by
 subst h
 rw [df (bK _),jB];rfl
theorem aab:∀(d:Nat) (M A B:List Int),M.length<=d->A.length+M.length+B.length<=100000->∀{i j:Int},i=A.length->j=(A.length:Int)+M.length - 1 ->
  Go qk true 1 (fF 169) (.head 0 (xm i j (aC (A++(M++B))))) (.doneM (.tup []) [O.row 3 (aC (A++(M.reverse++B))) 0]):=by
 have fin:∀(M A B:List Int),M.length<=1->∀{i j:Int},i=A.length->j=(A.length:Int)+M.length - 1 ->
   Go qk true 1 (fF 169) (.head 0 (xm i j (aC (A++(M++B))))) (.doneM (.tup []) [O.row 3 (aC (A++(M.reverse++B))) 0]):=by
  intro M A B hM i j hi hj
  have e:M.reverse=M:=by
   match M,hM with
   | [],_=>rfl
   | [_],_=>rfl
  rw [e]
  refine Po _ _ _ ?_ (.refl _)
  unfold HF
  rw [decide_eq_false (by omega),cond_false]
 intro d
 induction d with
 | zero=>intro M A B hM _ i j hi hj;exact fin M A B (by omega) hi hj
 | succ d ih =>
  intro M A B hM hl i j hi hj
  by_cases h1:M.length<=1
  ·exact fin M A B h1 hi hj
  obtain ⟨x,M1,rfl⟩:∃x M1,M=x::M1:=by
   match M,h1 with
   | x::M1,_=>exact ⟨x,M1,rfl⟩
   | [],h=>simp at h
  have hne:M1≠[]:=by rintro rfl;simp at h1
  obtain ⟨M2,y,rfl⟩:=rF hne
  simp only [cG,cO,dR] at hM hl hj h1
  have eL:A++(x::(M2++[y])++B)=A++x::(M2++y::B):=by simp
  have eL2:A++x::(M2++y::B)=(A++x::M2)++y::B:=by simp
  have eR:A++((x::(M2++[y])).reverse++B)=(A++[y])++(M2.reverse++(x::B)):=by simp
  have eN:(A++[y])++(M2++(x::B))=A++y::(M2++x::B):=by simp
  have eN2:A++y::(M2++x::B)=(A++y::M2)++x::B:=by simp
  have eM2:A++y::(M2++y::B)=(A++y::M2)++y::B:=by simp
  have w1:W .i64 (i+1)=i+1:=aU (by omega)
  have w2:W .i64 (j - 1)=j - 1:=aU (by omega)
  have ih:=ih M2 (A++[y]) (x::B) (by omega) (by simp;omega) (i:=i+1) (j:=j - 1) (by simp;omega) (by simp;omega)
  rw [eR,eL]
  rw [eN] at ih
  refine Po _ _ _ ?_ ih
  have hiN:i.toNat=A.length:=by omega
  have hjN:j.toNat=(A++x::M2).length:=by simp;omega
  have hjN2:j.toNat=(A++y::M2).length:=by simp;omega
  have g1:(A++x::(M2++y::B))[j.toNat]? = some y:=by rw [eL2];exact ya _ _ _ hjN
  have g2:(A++x::(M2++y::B))[i.toNat]? = some x:=ya _ _ _ hiN
  have g3:(A++y::(M2++y::B))[j.toNat]? = some y:=by rw [eM2];exact ya _ _ _ hjN2
  have st1:(A++x::(M2++y::B)).set i.toNat y=A++y::(M2++y::B):=P8 _ _ _ _ hiN
  have st2:(A++y::(M2++y::B)).set j.toNat x=A++y::(M2++x::B):=by rw [eM2,P8 _ _ _ _ hjN2,eN2]
  have l1:j.toNat < (aC (A++x::(M2++y::B))).length:=by rw [co];simp;omega
  have l2:i.toNat < (aC (A++x::(M2++y::B))).length:=by rw [co];simp;omega
  have l3:j.toNat < (aC (A++y::(M2++y::B))).length:=by rw [co];simp;omega
  unfold HF
  rw [decide_eq_true (by omega),cond_true,aB (decide_eq_true (by omega)),aB (decide_eq_true l1),fi g1,bX,aB (decide_eq_true (by omega)),aB (decide_eq_true l2),fi g2,bX,aB (decide_eq_true (by omega)),aB (decide_eq_true l2),fi g2,bX,
   Bu,st1,aB (decide_eq_true (by omega)),aB (decide_eq_true l3),fi g3,bX,Bu,st2,w1,w2]
theorem aaa (l:List Int) (hl:l.length<=100000):bT aA aF 169 [.own 0] [O.row 3 (aC l) 0]=some (tD (aC l.reverse)):=by
 have w:W .i64 (((aC l).length:Int) - 1)=(l.length:Int) - 1:=by rw [co,aU (by omega)]
 have:=aab l.length l [] [] (bK _) (by simpa using hl) (i:=0) (j:=(l.length:Int) - 1) rfl (by simp)
 simp only [dp,dH] at this
 refine Ut _ ?_ ⟨_,_,this,by kernel_rfl⟩
 unfold K1
 rw [w]
inductive kE (es:Es):List aJ->List Int->Prop
 | nil:kE es [] []
 | stop {q:Int} {e:Su} {nx:Int} {i:Nat} {sts:List aJ} {y:Int} (hr:bQ (aG e nx)=true) (hi:0 < i) (hy:(aG e nx).kids[i - 1]? = some y):kE es ((q,e,nx,i)::sts) [y]
 | none {q:Int} {e:Su} {nx:Int} {sts:List aJ}:kE es sts []->kE es ((q,e,nx,0)::sts) []
 | down {q:Int} {e:Su} {nx:Int} {sts:List aJ} {z:Int} {zs:List Int} {ez:Su} {nz y:Int} {hy:Bs}:kE es sts (z::zs)->cP es z=some (cF (aG (ez++[(y,hy)]) nz))->bQ (aG (ez++[(y,hy)]) nz)=true->kE es ((q,e,nx,0)::sts) (y::z::zs)
theorem Jz {es:Es} {sts:List aJ} {out:List Int} (h:kE es sts out):out.length<=sts.length:=by
 induction h with
 | nil=>simp
 | stop=>simp
 | none=>simp
 | down _ _ _ ih=>simp at ih |-;omega
theorem IA {Q D:List aJ} {x:aJ} {sts:List aJ} (h:Q=(x::sts).reverse++D):(eX Q)[sts.length]? = some (kD x):=by
 have:Q=sts.reverse++x::D:=by rw [h];simp
 rw [this]
 unfold eX
 rw [fK,di]
 exact ya _ _ _ (by simp)
theorem o4 {l:List V} {i:Nat} {x:aJ} {k:V->R} (h:l[i]? = some (kD x)):aS l i k=k (kD x):=cQ h
section
variable {n:Nat} {r:Int} {es:Es} {lv:Int}
theorem JA (hS:cx n es) (Q:List aJ) (hW:Q.length<=10000):∀(sts:List aJ),kE es sts []->∀D,Q=sts.reverse++D ->
  Go qk true 5 (fF 124) (.head 0 (xj (eX Q) lv ((sts.length:Int) - 1) r n (aZ es) (aR n (aM es)))) (.doneM (.own 6) (tM r n es++[O.row 3 [] 0,O.row 3 [] 0]))
 | [],_,D,_=>by
  refine Cp _ _ _ _ _ _ _ ?_ (.refl _)
  unfold yY
  rw [decide_eq_false (by simp),cond_false,decide_eq_true (by simp),cond_true]
 | x::sts,h,D,hd=>by
  cases h with
  | @none q e nx _ h =>
   have hst:kD (q,e,nx,0) = .agg [.int .i64 q,.sl (bd (aG e nx).seps),.sl (aC (aG e nx).kids),.str (aQ e),.int .i64 nx,.int .i64 ((0:Nat):Int)]:=rfl
   have hl:sts.length+1+D.length=Q.length:=by rw [hd];simp;omega
   have hx:=IA hd
   have w:W .i64 (((((q,e,nx,0)::sts:List aJ)).length:Int) - 1 - 1)=(sts.length:Int) - 1:=by rw [aU (by simp;omega)];simp
   have ih:=JA hS Q hW sts h ((q,e,nx,0)::D) (by rw [hd];simp)
   refine Cp _ _ _ _ _ _ _ ?_ ih
   unfold yY
   have ei:(((((q,e,nx,0)::sts:List aJ)).length:Int) - 1).toNat=sts.length:=by simp
   rw [decide_eq_true (by simp),cond_true,aB rfl,ei,o4 hx,hst,mo,cN (show ((0:Nat):Int)=0 from rfl),cond_true,w]
theorem JB (hS:cx n es) (Q:List aJ) (hW:Q.length<=10000) {o:db}:∀(sts:List aJ) (y:Int) (out:List Int),kE es sts (y::out)->∀D,Q=sts.reverse++D->∀m,m+sts.length=Q.length+out.length ->
  Go qk true 5 (fF 124) (.head 1 (uP lv y (m:Int) (out.length:Int) r n (aZ es) (aR n (aM es)) (aC (y::out).reverse))) o ->
  Go qk true 5 (fF 124) (.head 0 (xj (eX Q) lv ((sts.length:Int) - 1) r n (aZ es) (aR n (aM es)))) o
 | x::sts,y,out,h,D,hd,m,hm,hg=>by
  have hl:sts.length+1+D.length=Q.length:=by rw [hd];simp;omega
  have hx:=IA hd
  cases h with
  | @stop q e nx i _ _ hr hi hy =>
   have hst:kD (q,e,nx,i) = .agg [.int .i64 q,.sl (bd (aG e nx).seps),.sl (aC (aG e nx).kids),.str (aQ e),.int .i64 nx,.int .i64 ((i:Nat):Int)]:=rfl
   have w0:W .i64 (((eX Q).length:Int) - 1)=(Q.length:Int) - 1:=by rw [rH,aU (by omega)]
   have w1:W .i64 ((Q.length:Int) - 1 - (((((q,e,nx,i)::sts:List aJ)).length:Int) - 1))=(m:Int):=by rw [aU (by simp;omega)];simp at hm |-;omega
   have w2:W .i64 ((i:Int) - 1)=((i - 1:Nat):Int):=by
    have:=(bn.1 hy).1
    have:=(mO hr).kids
    rw [aU (by omega)];omega
   refine Cp _ _ _ _ _ _ _ ?_ hg
   unfold yY
   have ei:(((((q,e,nx,i)::sts:List aJ)).length:Int) - 1).toNat=sts.length:=by simp
   rw [decide_eq_true (by simp),cond_true,aB rfl,ei,o4 hx,hst,mo,cZ (by omega),cond_false,decide_eq_false (by simp),cond_false,aB rfl,o4 hx,hst,mo,aB rfl,o4 hx,hst,mo,
    w2,aB (by simp),aY,fi hy,bX,w0,w1]
   rfl
  | @down q e nx _ z zs ez nz _ hy h hg2 hr =>
   have hst:kD (q,e,nx,0) = .agg [.int .i64 q,.sl (bd (aG e nx).seps),.sl (aC (aG e nx).kids),.str (aQ e),.int .i64 nx,.int .i64 ((0:Nat):Int)]:=rfl
   have w:W .i64 (((((q,e,nx,0)::sts:List aJ)).length:Int) - 1 - 1)=(sts.length:Int) - 1:=by rw [aU (by simp;omega)];simp
   have hlen:=Jz h
   simp only [cG] at hlen hm
   have ih:=JB hS Q hW (o:=o) sts z zs h ((q,e,nx,0)::D) (by rw [hd];simp) m (by omega) ?_
   ·refine Cp _ _ _ _ _ _ _ ?_ ih
    unfold yY
    have ei:(((((q,e,nx,0)::sts:List aJ)).length:Int) - 1).toNat=sts.length:=by simp
    rw [decide_eq_true (by simp),cond_true,aB rfl,ei,o4 hx,hst,mo,cN (show ((0:Nat):Int)=0 from rfl),cond_true,w]
   ·have ek:(aG (ez++[(y,hy)]) nz).kids=ez.map (·.1)++[y]:=by simp
    have hkl:(aC (aG (ez++[(y,hy)]) nz).kids).length=ez.length+1:=by rw [ek,co];simp
    have hez:ez.length<=1000:=by
     have:=(mO hr).kids
     rw [ek] at this
     simp at this
     omega
    have w3:W .i64 (((ez.length+1:Nat):Int) - 1)=((ez.length:Nat):Int):=by rw [aU (by omega)];omega
    have w4:W .i64 ((zs.length:Int)+1)=((z::zs).length:Int):=by rw [aU (by omega)];simp
    have hyk:(aG (ez++[(y,hy)]) nz).kids[ez.length]? = some y:=by rw [ek];exact ya _ _ [] (by simp)
    refine Ph _ _ _ _ _ _ _ _ _ ?_ hg
    unfold Hu
    rw [decide_eq_true (by omega),cond_true,pB hS hg2 hr,bz,hkl,w3,aB (by simp),aY,fi hyk,bX,aB (decide_eq_true (by rw [co];simp;omega)),w4]
    simp [aC]
end
theorem SG {c m:List O} {id off len:Nat} {e:TypeId} {els:List V} {fz:Nat} (hm:m[id]? = some (.row e els fz)) (h:off+len<=els.length) :
  iR aF c (.win id off len) m=sI aF.row (da c) (List.range' (da c) (c.length - da c)) c c (.sl ((els.drop off).take len)) (freezeAll [id] m):=by
 unfold iR ul
 simp [Ik,y9,eH,cE,hm,if_pos h,uh,gQ]
theorem RN {n:Nat} {r:Int} {es:Es} (hS:cx n es) (Q:List aJ) (hW:Q.length<=10000) {out:List Int} (h:kE es Q.reverse out) (lv:Nat) (hlv:lv<=10000) :
  bT aA aF 124 [.ptr 0 0 0,.sl (eX Q),.int .i64 (lv:Int)] (tM r n es)=some (qU (tM r n es) (aC (out.take lv))):=by
 have w0:W .i64 (((eX Q).length:Int) - 1)=((Q.reverse.length:Nat):Int) - 1:=by rw [rH,aU (by omega)];simp
 have hol:=Jz h
 rw [zB] at hol
 cases out with
 | nil =>
  have:=JA (lv:=(lv:Int)) (r:=r) hS Q hW Q.reverse h [] (by simp)
  refine KQ _ _ _ _ _ _ ?_ ⟨_,_,this,by rw [List.take_nil];kernel_rfl⟩
  unfold EE
  rw [w0]
 | cons y out =>
  have hg:∃mm,Go qk true 5 (fF 124) (.head 1 (uP lv y (out.length:Int) (out.length:Int) r n (aZ es) (aR n (aM es)) (aC (y::out).reverse))) (.doneM (V.win 6 0 (min (out.length+1) lv - 0)) mm)/\mm=tM r n es++[O.row 3 [] 0,O.row 3 (aC (y::out)) 0]:=by
   refine ⟨_,Ph _ _ _ _ _ _ _ _ _ ?_ (.refl _),rfl⟩
   unfold Hu
   have:=aaa (y::out).reverse (by simp at hol |-;omega)
   rw [Dt] at this
   have em:(if (((y::out).length:Nat):Int) < (lv:Int) then (((y::out).length:Nat):Int) else (lv:Int))=((min (out.length+1) lv:Nat):Int):=by
    simp only [cG]
    split<;>omega
   rw [decide_eq_false (by omega),cond_false,bW Ys this,aB (pN _),co,em,aB (by simp),aY,aB (decide_eq_true (by simp only [cG];omega))]
  obtain ⟨mm,hg,rfl⟩:=hg
  have:=JB hS Q hW (lv:=lv) (r:=r) Q.reverse y out h [] (by simp) out.length (by rw [zB,p8]) hg
  have et:(y::out).take lv=((y::out).drop 0).take (min (out.length+1) lv - 0):=by
   rw [Nat.sub_zero,si]
   by_cases aD:lv<=out.length+1
   ·rw [Nat.min_eq_right aD]
   ·rw [w7 (by omega),kJ (by simp;omega),kJ (by simp)]
  have et2:aC ((y::out).take lv)=((aC (y::out)).drop 0).take (min (out.length+1) lv - 0):=by rw [et];simp [aC,List.map_take]
  rw [et2]
  refine KQ _ _ _ _ _ _ ?_ ⟨_,_,this,(SG (e:=3) (els:=aC (y::out)) (fz:=0) rfl (by rw [co,cG];omega)).trans (by kernel_rfl)⟩
  unfold EE
  rw [w0]
def c8 (es:Es) (l:Es):Es:=l.foldl (fun e x=>bp e x.1 x.2) es
def qF (es:Es) (l:List Int):Es:=l.foldl fL es
theorem IT:∀{L L':Es} {es R:Es},(aO es).Nodup->es.Perm (L++R)->aO L=aO L'->(c8 es L').Perm (L'++R)/\(aO (c8 es L')).Nodup
 | [],[],es,R,hn,h,_=>⟨h,hn⟩
 |(a,x)::L,[],_,_,_,_,e=>by simp [aO] at e
 | [],(a,x)::L,_,_,_,_,e=>by simp [aO] at e
 |(a,x)::L,(a',y)::L',es,R,hn,h,e=>by
  have e:a::aO L=a'::aO L':=e
  obtain ⟨rfl,e2⟩:=List.cons.inj e
  have hp:=kw (b':=y) hn h
  have hk:aO (bp es a y)=aO es:=n8 (gS h)
  have:=IT (L:=L) (L':=L') (es:=bp es a y) (R:=(a,y)::R) (by rw [hk];exact hn) (hp.trans List.perm_middle.symm) e2
  exact ⟨this.1.trans oK,this.2⟩
theorem Ih {n:Nat}:∀{L L':Es} {es R:Es},cx n es->es.Perm (L++R)->aO L=aO L'->cx n (c8 es L')
 | [],[],es,R,hs,h,_=>hs
 |(a,x)::L,[],_,_,_,_,e=>by simp [aO] at e
 | [],(a,x)::L,_,_,_,_,e=>by simp [aO] at e
 |(a,x)::L,(a',y)::L',es,R,hs,h,e=>by
  have e:a::aO L=a'::aO L':=e
  obtain ⟨rfl,e2⟩:=List.cons.inj e
  exact Ih (L:=L) (L':=L') (es:=bp es a y) (R:=(a,y)::R) (jS hs (gS h)) ((kw (b':=y) hs.nd h).trans List.perm_middle.symm) e2
theorem Mo {n:Nat}:∀{G:Es} {es R:Es},cx n es->es.Perm (G++R)->(qF es (aO G)).Perm R/\cx n (qF es (aO G))
 | [],es,R,hs,h=>⟨h,hs⟩
 |(a,x)::G,es,R,hs,h=>Mo (G:=G) (es:=fL es a) (Ig hs a) (En hs.nd h)
theorem Tv (e1:Su) (y:Int) (hy:Bs) (p:Int) (h:Bs) (e2:Su) (nx:Int):sO (aG (e1++(y,hy)::(p,h)::e2) nx) (e1.length+1)=aG (e1++(y,h)::e2) nx:=by
 unfold sO aG
 have hl:(e1.map (·.2)).length=e1.length:=by simp
 have hd:((e1++(y,hy)::(p,h)::e2).dropLast.map (·.2))=e1.map (·.2)++hy::fR ((p,h)::e2):=by
  rw [qv];simp [fR,List.dropLast]
 have hd2:((e1++(y,h)::e2).dropLast.map (·.2))=e1.map (·.2)++fR ((y,h)::e2):=by
  rw [qv];simp [fR]
 have hse:fR ((y,h)::e2)=fR ((p,h)::e2):=by
  cases e2 with
  | nil=>rfl
  | cons x e2=>rfl
 have hk:(e1++(y,hy)::(p,h)::e2).map (·.1)=(e1.map (·.1)++[y])++p::e2.map (·.1):=by simp
 have hkl:(e1.map (·.1)++[y]).length=e1.length+1:=by simp
 refine congr (congr (congr (congrArg bP.mk ?_) ?_) (Y8 e1 y hy p h e2).symm) rfl
 ·rw [hd,hd2,hse,Nat.add_sub_cancel,mR _ _ hl,show e1.map (·.2)++hy::fR ((p,h)::e2)=(e1.map (·.2)++[hy])++fR ((p,h)::e2) by simp,qu _ _ (by simp)]
 ·rw [hk,mR _ _ hkl,show (e1.map (·.1)++[y])++p::e2.map (·.1)=(e1.map (·.1)++[y,p])++e2.map (·.1) by simp,qu _ _ (by simp)]
  simp
theorem Tu (p:Int) (h:Bs) (x:Int × Bs) (e2:Su) (nx:Int):sO (aG ((p,h)::x::e2) nx) 0=aG (x::e2) nx:=by
 unfold sO aG
 refine congr (congr (congr (congrArg bP.mk ?_) ?_) (lj (p,h) (by simp))) rfl
 ·simp [List.dropLast]
 ·simp
structure Jq (sts:List aJ) (w:Bool) (gs:List Nd) (xo X:Nd) (h:Bs) (ss:List aJ) (xi:Nat) (rest:List aJ):Prop where
 fst:sts=ss++(xo.1,xo.2.1,xo.2.2,xi)::rest
 fgs:gs=ss.map fun s=>(s.1,s.2.1,s.2.2.1)
 one:∀s∈ss,s.2.1.length=1
 hi:∀g∈gs,aQ g.2.1=h
 two:2<=xo.2.1.length
 fw:w=decide ((xi:Int) > 0)
 pg:X.1=xo.1
 lti:xi < xo.2.1.length
 del:sO (aG xo.2.1 xo.2.2) xi=aG X.2.1 X.2.2
theorem aap {r:Int} {up:List IL} {p:Int} {h:Bs} {a c:Su} {sts:List aJ} {w:Bool} {up':List IL} {gs zo:List Nd} {xo X:Nd} (hr:Rm r up p h a c sts w up' gs zo xo X):∃ss xi rest,Jq sts w gs xo X h ss xi rest:=by
 induction hr with
 | @one up q p h pre post sts w up' gs zo xo X _ ih =>
  obtain ⟨ss,xi,rest,t⟩:=ih
  refine ⟨(q,[(p,h)],be post 0,0)::ss,xi,rest,⟨by rw [t.fst];rfl,by rw [t.fgs];rfl,?_,?_,t.two,t.fw,t.pg,t.lti,t.del⟩⟩
  ·intro s hs
   rcases bO.1 hs with rfl | hs
   ·rfl
   ·exact t.one s hs
  ·intro g hg
   rcases bO.1 hg with rfl | hg
   ·rfl
   ·exact t.hi g hg
 | @left up q p y h hy e1 e2 pre post sts _ =>
  exact ⟨[],e1.length+1,sts,⟨rfl,rfl,(by simp),(by simp),(by simp;omega),(by simp),rfl,(by simp),Tv e1 y hy p h e2 _⟩⟩
 | @first up q p h x e2 pre post sts _ =>
  exact ⟨[],0,sts,⟨rfl,rfl,(by simp),(by simp),(by simp),(by simp),rfl,(by simp),Tu p h x e2 _⟩⟩
theorem MB {n:Nat} {es:Es} (hS:cx n es) {pre post:IL} {q:Int} {e:Su} (h:lw bC es (pre++(q,e)::post)):cP es q=some (cF (aG e (be post 0))):=jJ hS.nd (h _ (Gq (f:=bC) pre q e post 0))
theorem Ou {n:Nat} {es:Es} (hS:cx n es) {r:Int} {up:List IL} {p:Int} {h:Bs} {a c:Su} {sts:List aJ} (hp:i9 r up p h a c sts):(∀l∈up,cI okI l 0)->(∀l∈up,lw bC es l)->∃out,kE es sts out/\out.take 1=tR a:=by
 induction hp with
 | top=>intro _ _;exact ⟨[],.nil,rfl⟩
 | @st up q e1 p h e2 pre post sts hup ih =>
  intro hI hE
  have hl:=hI _ (cz ..)
  have hIn:=hE _ (cz ..)
  rcases eK e1 with rfl | ⟨e1',⟨y,hy⟩,rfl⟩
  ·obtain ⟨out,h1,h2⟩:=ih (fun l hl=>hI l (by simp [hl])) (fun l hl=>hE l (by simp [hl]))
   have e0:bf pre++[]=bf pre:=dH _
   rw [e0]
   rcases eK pre with rfl | ⟨l,⟨z,ez⟩,rfl⟩
   ·have:out=[]:=by
     cases out with
     | nil=>rfl
     | cons z out=>simp [bE,tR] at h2
    subst this
    exact ⟨[],.none h1,rfl⟩
   ·rw [hX] at h2 hl hIn |-
    have e1:bE (l++[(z,ez)])=bE l++[(z,aQ ez)]:=by simp [bE]
    rw [e1,vU] at h2
    rw [bw] at hl hIn
    obtain ⟨hne,hr⟩:okI ez _:=l8 hl
    have hg:=MB hS hIn
    obtain ⟨ez',⟨y,hy⟩,rfl⟩:=rF hne
    have e2:bf (l++[(z,ez'++[(y,hy)])])=(bf l++ez')++[(y,hy)]:=by simp [bf]
    rw [e2,vU]
    obtain ⟨rest,rfl⟩:∃rest,out=z::rest:=by
     cases out with
     | nil=>simp at h2
     | cons z' rest=>simp at h2;exact ⟨rest,by rw [h2]⟩
    exact ⟨_,.down h1 hg hr,rfl⟩
  ·rw [hX] at hl hIn hup |-
   obtain ⟨hne,hr⟩:okI (e1'++[(y,hy)]++(p,h)::e2) (be post 0):=l8 hl
   refine ⟨[y],.stop hr (by simp) ?_,by rw [<-bw,vU];rfl⟩
   simp
theorem aai {n:Nat} {es:Es} (hS:cx n es) {r:Int} {up:List IL} {p:Int} {h:Bs} {a c:Su} {sts:List aJ} {w:Bool} {up':List IL} {gs zo:List Nd} {xo X:Nd} (hr:Rm r up p h a c sts w up' gs zo xo X) :
  (∀l∈up,cI okI l 0)->(∀l∈up,lw bC es l)->∃out,kE es sts out/\out.take (gs.length+1)=tR a++zo.map (·.1):=by
 induction hr with
 | @one up q p h pre post sts w up' gs zo xo X hrm ih =>
  intro hI hE
  have hl:=hI _ (cz ..)
  have hIn:=hE _ (cz ..)
  obtain ⟨out,h1,h2⟩:=ih (fun l hl=>hI l (by simp [hl])) (fun l hl=>hE l (by simp [hl]))
  rcases eK pre with rfl | ⟨l,⟨z,ez⟩,rfl⟩
  ·have hz:=(Ci hrm fun l hl x hx=>gU (hI l (by simp [hl])) x hx).1 rfl
   subst hz
   have:out=[]:=by
    cases out with
    | nil=>rfl
    | cons z out=>simp [bE,tR] at h2
   subst this
   exact ⟨[],.none h1,by simp [tp,bf,tR]⟩
  ·rw [hX] at h2 hl hIn |-
   have e1:bE (l++[(z,ez)])=bE l++[(z,aQ ez)]:=by simp [bE]
   rw [e1,vU] at h2
   rw [bw] at hl hIn
   obtain ⟨hne,hr⟩:okI ez _:=l8 hl
   have hg:=MB hS hIn
   obtain ⟨ez',⟨y,hy⟩,rfl⟩:=rF hne
   have e2:bf (l++[(z,ez'++[(y,hy)])])=(bf l++ez')++[(y,hy)]:=by simp [bf]
   rw [e2,vU,vH]
   obtain ⟨rest,rfl⟩:∃rest,out=z::rest:=by
    cases out with
    | nil=>simp at h2
    | cons z' rest =>
     have:z'=z:=by simpa using congrArg List.head? h2
     exact ⟨rest,by rw [this]⟩
   refine ⟨_,.down h1 hg hr,?_⟩
   rw [cG,uI,h2]
   rfl
 | @left up q p y h hy e1 e2 pre post sts hup =>
  intro hI hE
  have e:e1++(y,hy)::(p,h)::e2=(e1++[(y,hy)])++(p,h)::e2:=by simp
  have el:(e1++[(y,hy)]).length=e1.length+1:=by simp
  rw [e] at hup hI hE |-
  have:=Ou hS (.st hup) hI hE
  rw [el] at this
  simpa using this
 | @first up q p h x e2 pre post sts hup =>
  intro hI hE
  have:=Ou hS (.st (e1:=[]) hup) hI hE
  simpa using this
abbrev Nl:=Int × Lf
def fg (l:List Nl):Es:=l.map fun z=>(z.1,bI z.2)
def gb (w:Bool) (lf:Lf) (zl:List Nl):List Nl:=zl.map fun z=>(z.1,⟨z.2.prs,bif w then lf.high else z.2.high,lf.next⟩)
structure mV (n:Nat) (es:Es) (ws:List aJ) (pl:Int) (lf:Lf) (w:Bool) (zl:List Nl) (gs zo:List Nd) (xo X:Nd) (ss:List aJ) (xi:Nat) (rest:List aJ) (out:List Int) (R:Es):Prop where
 shf:cx n es
 len:ws.length<=1024
 x:Jq ws.reverse w gs xo X lf.high ss xi rest
 ah:kE es ws.reverse out
 fout:out.take (gs.length+1)=zl.map (·.1)++zo.map (·.1)
 zl1:zl.length<=1
 zl0:zl=[]->zo=[]
 zo1:zl≠[]->zo.length=gs.length
 perm:es.Perm (fg zl++(cA zo++((pl,bI lf)::(cA gs++(cA [xo]++R)))))
 rlf:cJ lf=true
 rzl:∀z∈zl,cJ z.2=true
 rzl':∀z∈gb w lf zl,cJ z.2=true
 rgs:∀g∈gs,bQ (aG g.2.1 g.2.2)=true
 rzo:∀z∈zo,z.2.1≠[]/\bQ (aG z.2.1 z.2.2)=true
 rzo':∀z∈dN w lf.high zo gs,bQ (aG z.2.1 z.2.2)=true
 rxo:bQ (aG xo.2.1 xo.2.2)=true
 rX:bQ (aG X.2.1 X.2.2)=true
def sR (es:Es) (pl:Int) (lf:Lf) (w:Bool) (zl:List Nl) (gs zo:List Nd) (X:Nd):Es :=
 qF (bp (c8 es (fg (gb w lf zl)++cA (dN w lf.high zo gs))) X.1 (bC X.2.1 X.2.2)) (pl::gs.map (·.1))
theorem NJ (w:Bool) (h:Bs):∀(zo gs:List Nd),zo.length=gs.length->(dN w h zo gs).map (·.1)=zo.map (·.1)
 | [],[],_=>rfl
 | _::_,[],h=>by simp at h
 | [],_::_,h=>by simp at h
 | z::zo,g::gs,h=>by
  show z.1::(dN w _ zo gs).map (·.1)=_
  rw [NJ w _ zo gs (by simpa using h)];rfl
theorem vG (l:List Nd):aO (cA l)=l.map (·.1):=by simp [aO,cA]
theorem MQ (l:List Nl):aO (fg l)=l.map (·.1):=by simp [aO,fg]
theorem mF (a b:Es):aO (a++b)=aO a++aO b:=by simp [aO]
section
variable {n:Nat} {es:Es} {ws:List aJ} {pl:Int} {lf:Lf} {w:Bool} {zl:List Nl} {gs zo:List Nd} {xo X:Nd} {ss:List aJ} {xi:Nat} {rest:List aJ} {out:List Int} {R:Es}
theorem mV.keys (d:mV n es ws pl lf w zl gs zo xo X ss xi rest out R):aO (fg zl++cA zo)=aO (fg (gb w lf zl)++cA (dN w lf.high zo gs)):=by
 rw [mF,mF,MQ,MQ,vG,vG]
 have h1:(gb w lf zl).map (·.1)=zl.map (·.1):=by simp [gb]
 rw [h1]
 by_cases h:zl=[]
 ·rw [d.zl0 h];rfl
 ·rw [NJ _ _ _ _ (d.zo1 h)]
theorem mV.left (d:mV n es ws pl lf w zl gs zo xo X ss xi rest out R):(sR es pl lf w zl gs zo X).Perm (fg (gb w lf zl)++(cA (dN w lf.high zo gs)++(cA [X]++R)))/\cx n (sR es pl lf w zl gs zo X):=by
 have hp:=d.perm
 rw [<-bw] at hp
 have h1:=IT d.shf.nd hp d.keys
 have hs1:=Ih d.shf hp d.keys
 have hp2:(c8 es (fg (gb w lf zl)++cA (dN w lf.high zo gs))).Perm ((X.1,bC xo.2.1 xo.2.2)::((((pl,bI lf)::cA gs))++(fg (gb w lf zl)++(cA (dN w lf.high zo gs)++R)))):=by
  refine h1.1.trans (kv.2 fun x=>?_)
  rw [d.x.pg]
  simp only [j8,lF,oX]
  simp only [cA,gM,sL]
  omega
 have hp3:=kw (b':=bC X.2.1 X.2.2) hs1.nd hp2
 have hs3:=jS hs1 (b:=bC X.2.1 X.2.2) (gS hp2)
 have hp4:(bp (c8 es (fg (gb w lf zl)++cA (dN w lf.high zo gs))) X.1 (bC X.2.1 X.2.2)).Perm (((pl,bI lf)::cA gs)++((X.1,bC X.2.1 X.2.2)::(fg (gb w lf zl)++(cA (dN w lf.high zo gs)++R)))):=by
  refine hp3.trans (kv.2 fun x=>?_)
  simp only [j8,lF]
  omega
 have h5:=Mo hs3 hp4
 have hk:aO ((pl,bI lf)::cA gs)=pl::gs.map (·.1):=by
  show pl::aO (cA gs)=_
  rw [vG]
 rw [hk] at h5
 refine ⟨h5.1.trans (kv.2 fun x=>?_),h5.2⟩
 simp only [j8,lF,oX]
 simp only [cA,gM,sL]
 omega
end
theorem Qi {Q D:List aJ} {x:aJ} {sts:List aJ} {i:Int} (h:Q=(x::sts).reverse++D) (hi:i=(sts.length:Int)):(eX Q)[i.toNat]? = some (kD x):=by
 subst hi
 rw [aY]
 exact IA h
section
variable {n:Nat} {r:Int} {es:Es} {o:db}
theorem Mn (Q:List aJ) (hQ:Q.length<=10000):∀(ss sts:List aJ) (D:List aJ) (G:List Int),Q=(ss++sts).reverse++D->(∀s∈ss,s.2.1.length=1)->G.length+ss.length<=20000 ->
  Go qk true 5 (fF 81) (.head 0 (xu (eX Q) ((sts.length:Int) - 1) r n (aZ es) (aR n (aM es)) (aC (G++ss.map (·.1))))) o ->
  Go qk true 5 (fF 81) (.head 0 (xu (eX Q) (((ss++sts).length:Int) - 1) r n (aZ es) (aR n (aM es)) (aC G))) o
 | [],sts,D,G,_,_,_,hg=>by simpa using hg
 |(q,e,nx,i)::ss,sts,D,G,hd,h1,hG,hg=>by
  have hl:ss.length+sts.length+1+D.length=Q.length:=by rw [hd];simp;omega
  have ih:=Mn Q hQ ss sts ((q,e,nx,i)::D) (G++[q]) (by rw [hd];simp) (fun s hs=>h1 s (by simp [hs])) (by simp at hG |-;omega) (by simpa using hg)
  have e1:=h1 (q,e,nx,i) (by simp)
  have hst:kD (q,e,nx,i) = .agg [.int .i64 q,.sl (bd (aG e nx).seps),.sl (aC (aG e nx).kids),.str (aQ e),.int .i64 nx,.int .i64 ((i:Nat):Int)]:=rfl
  have hx:=Qi (i:=((((q,e,nx,i)::ss++sts:List aJ)).length:Int) - 1) hd (by simp)
  have w:W .i64 (((((q,e,nx,i)::ss++sts:List aJ)).length:Int) - 1 - 1)=(((ss++sts:List aJ)).length:Int) - 1:=by rw [aU (by simp;omega)];simp
  refine PK _ _ _ _ _ _ _ ?_ ih
  unfold HV
  have hkl:((aC (aG e nx).kids).length:Int)=1:=by
   have:(aG e nx).kids.length=1:=by simpa using e1
   rw [co,this];rfl
  rw [aB (decide_eq_true (by simp;omega)),o4 hx,hst,mo,cN hkl,cond_true,aB (decide_eq_true (by simp;omega)),o4 hx,hst,mo,aB (decide_eq_true (by rw [co];simp at hG |-;omega)),w]
  simp [aC]
theorem Ml:∀(ps:Es) (i:Nat) (G:List Int) (es R:Es),G.length<=20000->G.drop i=aO ps->i<=G.length->cx n es->es.Perm (ps++R) ->
  Go qk true 5 (fF 81) (.head 2 (uU (G.length:Int) (G.length:Int) r n (aZ (qF es (aO ps))) (aR n (aM (qF es (aO ps)))) (aC G))) o ->
  Go qk true 5 (fF 81) (.head 2 (uU (G.length:Int) (i:Int) r n (aZ es) (aR n (aM es)) (aC G))) o
 | [],i,G,es,R,_,hd,hi,_,_,hg=>by
  have h1:=drop_nil hd
  have e:i=G.length:=by omega
  subst e
  exact hg
 |(p,b)::ps,i,G,es,R,hG,hd,hi,hS,hp,hg=>by
  obtain ⟨h1,h2,h3⟩:=er hd
  have ih:=Ml ps (i+1) G (fL es p) R hG h2 (by omega) (Ig hS p) (En hS.nd hp) hg
  have w:W .i64 ((i:Int)+1)=((i+1:Nat):Int):=by rw [aU (by omega)];omega
  refine PL _ _ _ _ _ _ _ ?_ ih
  unfold HX
  rw [decide_eq_true (by omega),cond_true,aB (by simp),aY,aB (decide_eq_true (by rw [co];omega)),fi h1,bX,bW NA (Mj hS (gS hp)),w]
end
theorem Vy (w:Bool) (h:Bs) (ez:Su) (hne:ez≠[]) (nz nq:Int):V.agg [V.sl (bd (aG ez nz).seps),V.sl (aC (aG ez nz).kids),V.str (cond w h (aG ez nz).high),V.int .i64 nq]=eI (aG (hS w h ez) nq):=by
 have h1:(aG ez nz).seps=(aG (hS w h ez) nq).seps:=(P4 w h ez).symm
 have h2:(aG ez nz).kids=(aG (hS w h ez) nq).kids:=by
  obtain ⟨e',⟨z,hz⟩,rfl⟩:=rF hne
  show (e'++[(z,hz)]).map (·.1)=(hS w h (e'++[(z,hz)])).map (·.1)
  rw [mA];simp
 have h3:cond w h (aG ez nz).high=(aG (hS w h ez) nq).high:=(FT w h hne).symm
 rw [h1,h2,h3]
section
variable {n:Nat} {r:Int} {o:db}
theorem Mu (A G:List Int) (hA:A.length<=20000) (hGA:A.length<=G.length) {x0:Int} {x1 x2:List V} {x3:List UInt8} {x4 x5:Int} {w:Bool} (hw:w=decide (x5 > 0)) (h:Bs):∀(zo gs:List Nd) (i:Nat) (es R:Es),zo.length=gs.length->cx n es->es.Perm (cA zo++R)->(∀g∈gs,(g.1,bC g.2.1 g.2.2)∈R) ->
  (∀z∈zo,z.2.1≠[]/\bQ (aG z.2.1 z.2.2)=true)->(∀g∈gs,bQ (aG g.2.1 g.2.2)=true/\aQ g.2.1=h)->(∀z∈dN w h zo gs,bQ (aG z.2.1 z.2.2)=true)->A.drop i=zo.map (·.1)->(∃T,G.drop i=gs.map (·.1)++T)->i<=A.length ->
  Go qk true 5 (fF 81) (.head 1 (nj (aC A) (A.length:Int) (A.length:Int) r n (aZ (c8 es (cA (dN w h zo gs)))) (aR n (aM (c8 es (cA (dN w h zo gs))))) (aC G) x0 x1 x2 x3 x4 x5)) o ->
  Go qk true 5 (fF 81) (.head 1 (nj (aC A) (A.length:Int) (i:Int) r n (aZ es) (aR n (aM es)) (aC G) x0 x1 x2 x3 x4 x5)) o
 | [],[],i,es,R,_,_,_,_,_,_,_,hd,_,hi,hg=>by
  have h1:=drop_nil hd
  have e:i=A.length:=by omega
  subst e
  exact hg
 | [],_::_,_,_,_,hl,_,_,_,_,_,_,_,_,_,_=>by simp at hl
 | _::_,[],_,_,_,hl,_,_,_,_,_,_,_,_,_,_=>by simp at hl
 |(z,ez,nz)::zo,(q,eq,nq)::gs,i,es,R,hl,hs,hp,hR,hz,hgs,hnew,hd,⟨T,hdG⟩,hi,hg=>by
  obtain ⟨h1,h2,h3⟩:=er hd
  obtain ⟨g1,g2,g3⟩:=er (l:=G) (r:=gs.map (·.1)++T) (by rw [hdG];rfl)
  obtain ⟨hne,hrz⟩:=hz (z,ez,nz) (by simp)
  obtain ⟨hrq,hhq⟩:=hgs (q,eq,nq) (by simp)
  have hrn:bQ (aG (hS w h ez) nq)=true:=hnew (z,hS w h ez,nq) (by simp [dN])
  have hgz:cP es z=some (cF (aG ez nz)):=nJ hs.nd hp
  have hgq:cP es q=some (cF (aG eq nq)):=jJ hs.nd (hp.mem_iff.2 (m8 _ (hR (q,eq,nq) (by simp))))
  have hp2:=kw (b':=cF (aG (hS w h ez) nq)) hs.nd hp
  have hs2:=jS hs (b:=cF (aG (hS w h ez) nq)) (gS hp)
  have ih:=Mu A G hA hGA (x0:=x0) (x1:=x1) (x2:=x2) (x3:=x3) (x4:=x4) hw h zo gs (i+1) _ ((z,cF (aG (hS w h ez) nq))::R) (by simpa using hl) hs2 (hp2.trans List.perm_middle.symm) (fun g hg=>iN _ (hR g (by simp [hg]))) (fun y hy=>hz y (by simp [hy])) (fun y hy=>hgs y (by simp [hy])) (fun y hy=>hnew y (by
   show y∈(z,hS w h ez,nq)::dN w h zo gs
   simp [hy])) h2 ⟨T,g2⟩ (by omega) hg
  have w1:W .i64 ((i:Int)+1)=((i+1:Nat):Int):=by rw [aU (by omega)];omega
  refine HW _ _ _ _ _ _ _ _ _ _ _ _ _ _ ?_ ih
  unfold CC
  rw [decide_eq_true (by omega),cond_true,aB (by simp),aY,fi h1,bX,pB hs hgz hrz,bz,aB (by simp),aB (decide_eq_true (by rw [co];omega)),fi g1,bX,pB hs hgq hrq,bz]
  show (aT aA _ _ _ [_,_,.ifc 150 (.agg [.sl (bd (aG ez nz).seps),.sl (aC (aG ez nz).kids),.str (cond (decide (x5 > 0)) (aQ eq) (aG ez nz).high),.int .i64 nq])] (tM r n es) _)=_
  rw [hhq,<-hw,Vy w h ez hne nz nq,bW gI (rO hs hgz hrn),w1]
end
theorem Q7 (xo:Nd) (xi:Nat):kD (xo.1,xo.2.1,xo.2.2,xi) = .agg [.int .i64 xo.1,.sl (bd (aG xo.2.1 xo.2.2).seps),.sl (aC (aG xo.2.1 xo.2.2).kids),.str (aQ xo.2.1),.int .i64 xo.2.2,.int .i64 ((xi:Nat):Int)]:=rfl
section
variable {n:Nat} {r:Int} {es:Es} {ws:List aJ} {pl:Int} {lf:Lf} {w:Bool} {zl:List Nl} {gs zo:List Nd} {xo X:Nd} {ss:List aJ} {xi:Nat} {rest:List aJ} {out:List Int} {R:Es} {r':Int} {es':Es}
theorem TF (d:mV n es ws pl lf w zl gs zo xo X ss xi rest out R) (hsk:mg n r (sR es pl lf w zl gs zo X) r' es') (A:List Int) :
  ∃m,Go qk true 5 (fF 81) (.head 1 (nj (aC A) (A.length:Int) (A.length:Int) r n (aZ (c8 es (fg (gb w lf zl)++cA (dN w lf.high zo gs)))) (aR n (aM (c8 es (fg (gb w lf zl)++cA (dN w lf.high zo gs))))) (aC (pl::gs.map (·.1))) xo.1 (bd (aG xo.2.1 xo.2.2).seps) (aC (aG xo.2.1 xo.2.2).kids) (aQ xo.2.1) xo.2.2 (xi:Int))) (.doneM (.tup []) m) /\
   ∀r0 n0 e0 b0,iR aF (tm r0 n0 e0 b0) (.tup []) m=qZ (r',n,aZ es',aR n (aM es')):=by
 have hp:=d.perm
 rw [<-bw] at hp
 have h1:=IT d.shf.nd hp d.keys
 have hs1:=Ih d.shf hp d.keys
 have hp2:(c8 es (fg (gb w lf zl)++cA (dN w lf.high zo gs))).Perm ((X.1,bC xo.2.1 xo.2.2)::((((pl,bI lf)::cA gs))++(fg (gb w lf zl)++(cA (dN w lf.high zo gs)++R)))):=by
  refine h1.1.trans (kv.2 fun x=>?_)
  rw [d.x.pg]
  simp only [j8,lF,oX]
  simp only [cA,gM,sL]
  omega
 have hgx:=nJ hs1.nd hp2
 have hp3:=kw (b':=bC X.2.1 X.2.2) hs1.nd hp2
 have hs3:=jS hs1 (b:=bC X.2.1 X.2.2) (gS hp2)
 have hp4:(bp (c8 es (fg (gb w lf zl)++cA (dN w lf.high zo gs))) X.1 (bC X.2.1 X.2.2)).Perm (((pl,bI lf)::cA gs)++((X.1,bC X.2.1 X.2.2)::(fg (gb w lf zl)++(cA (dN w lf.high zo gs)++R)))):=by
  refine hp3.trans (kv.2 fun x=>?_)
  simp only [j8,lF]
  omega
 have hk:aO ((pl,bI lf)::cA gs)=pl::gs.map (·.1):=by
  show pl::aO (cA gs)=_
  rw [vG]
 have hgl:gs.length<=1024:=by
  have:=congrArg oJ d.x.fst
  rw [d.x.fgs,dh]
  simp at this
  have:=d.len
  omega
 have hdel:k8 (aG xo.2.1 xo.2.2) (xi:Int)=(aG X.2.1 X.2.2,0):=by
  unfold k8
  have:=d.x.lti
  have:=d.x.two
  rw [if_pos ⟨d.rxo,by omega,by simp;omega,by simp;omega⟩,aY,d.x.del]
 have hdp:=Tn (aG xo.2.1 xo.2.2) (xi:Int) (mO d.rxo)
 rw [hdel] at hdp
 obtain ⟨E2,hE2⟩:∃E2,E2=bp (c8 es (fg (gb w lf zl)++cA (dN w lf.high zo gs))) X.1 (bC X.2.1 X.2.2):=⟨_,rfl⟩
 obtain ⟨G,hG⟩:∃G,G=pl::gs.map (·.1):=⟨_,rfl⟩
 rw [<-hE2] at hs3 hp4
 rw [<-hG] at hk |-
 have hGl:G.length<=20000:=by rw [hG];simp;omega
 have hdr:sR es pl lf w zl gs zo X=qF E2 G:=by rw [hE2,hG];rfl
 rw [hdr] at hsk
 refine ⟨tM r' n es'++[O.row 3 (aC G) 0],?_,fun r0 n0 e0 b0=>by kernel_rfl⟩
 have h3:Go qk true 5 (fF 81) (.head 2 (uU (G.length:Int) (G.length:Int) r n (aZ (qF E2 G)) (aR n (aM (qF E2 G))) (aC G))) (.doneM (.tup []) (tM r' n es'++[O.row 3 (aC G) 0])):=by
  refine PL _ _ _ _ _ _ _ ?_ (.refl _)
  unfold HX
  rw [decide_eq_false (by omega),cond_false,bW Yr (abj hsk)]
 rw [<-hk] at h3
 have h2:=Ml ((pl,bI lf)::cA gs) 0 G E2 _ hGl (by rw [hk];rfl) (by omega) hs3 hp4 (by rw [hk] at h3 |-;exact h3)
 refine HW _ _ _ _ _ _ _ _ _ _ _ _ _ _ ?_ h2
 unfold CC
 rw [decide_eq_false (by omega),cond_false]
 show (aE aA _ [eI (aG xo.2.1 xo.2.2),_] _)=_
 rw [aH hdp,vh]
 show (aT aA _ _ _ [_,.int .i64 xo.1,.ifc 150 (eI (aG X.2.1 X.2.2))] (tM r n (c8 es (fg (gb w lf zl)++cA (dN w lf.high zo gs)))) _)=_
 rw [<-d.x.pg,bW gI (rO hs1 hgx d.rX),co,hE2]
 rfl
theorem TH (d:mV n es ws pl lf w zl gs zo xo X ss xi rest out R) (hsk:mg n r (sR es pl lf w zl gs zo X) r' es') :
  bT aA aF 81 [.ptr 0 0 0,.sl (eX ws),.int .i64 pl] (tM r n es)=some (qZ (r',n,aZ es',aR n (aM es'))):=by
 have hlen:=d.len
 have hsl:ss.length+rest.length+1=ws.length:=by
  have:=congrArg oJ d.x.fst
  simp at this
  omega
 have hgs:gs.length=ss.length:=by rw [d.x.fgs,dh]
 have hgk:gs.map (·.1)=ss.map (·.1):=by rw [d.x.fgs,List.map_map];rfl
 obtain ⟨A,hA⟩:∃A,A=zl.map (·.1)++zo.map (·.1):=⟨_,rfl⟩
 obtain ⟨m,hE,hc⟩:=TF d hsk A
 have hQ:ws=(ss++(xo.1,xo.2.1,xo.2.2,xi)::rest).reverse++[]:=by rw [<-d.x.fst];simp
 have hQ2:ws=((xo.1,xo.2.1,xo.2.2,xi)::rest).reverse++ss.reverse:=by rw [hQ];simp
 have w0:W .i64 (((eX ws).length:Int) - 1)=((ss++(xo.1,xo.2.1,xo.2.2,xi)::rest).length:Int) - 1:=by rw [rH,aU (by omega)];simp;omega
 have hnd:2<=(aG xo.2.1 xo.2.2).kids.length:=by simpa using d.x.two
 have hloop:Go qk true 5 (fF 81) (.head 1 (nj (aC A) (A.length:Int) ((0:Nat):Int) r n (aZ es) (aR n (aM es)) (aC (pl::gs.map (·.1))) xo.1 (bd (aG xo.2.1 xo.2.2).seps) (aC (aG xo.2.1 xo.2.2).kids) (aQ xo.2.1) xo.2.2 (xi:Int))) (.doneM (.tup []) m):=by
  have hzl1:=d.zl1
  match hzl:zl,hzl1 with
  | [],_ =>
   have hzo:=d.zl0 rfl
   subst hzo
   have:A=[]:=by rw [hA];rfl
   subst this
   exact hE
  | [(z,l)],_ =>
   have hzo:=d.zo1 (by simp)
   have hp:=d.perm
   have hp:es.Perm ((z,bI l)::(cA zo++((pl,bI lf)::(cA gs++(cA [xo]++R))))):=hp
   have hgz:=nJ d.shf.nd hp
   have hrl:cJ l=true:=d.rzl (z,l) (by simp)
   have hrn:cJ ⟨l.prs,bif w then lf.high else l.high,lf.next⟩=true:=d.rzl' (z,⟨l.prs,bif w then lf.high else l.high,lf.next⟩) (by simp [gb])
   have hgp:cP es pl=some (bI lf):=jJ d.shf.nd (hp.mem_iff.2 (by simp))
   have hp2:=kw (b':=bI ⟨l.prs,bif w then lf.high else l.high,lf.next⟩) d.shf.nd hp
   have hs2:=jS d.shf (b:=bI ⟨l.prs,bif w then lf.high else l.high,lf.next⟩) (gS hp)
   have hA2:A=z::zo.map (·.1):=by rw [hA];rfl
   have hAl:A.length<=gs.length+1:=by rw [hA2];simp;omega
   have hE2:=Mu A (pl::gs.map (·.1)) (by omega) (by simp;omega) (x0:=xo.1) (x1:=bd (aG xo.2.1 xo.2.2).seps) (x2:=aC (aG xo.2.1 xo.2.2).kids) (x3:=aQ xo.2.1) (x4:=xo.2.2) d.x.fw lf.high zo gs 1 _ ((z,bI ⟨l.prs,bif w then lf.high else l.high,lf.next⟩)::((pl,bI lf)::(cA gs++(cA [xo]++R)))) hzo hs2
    (hp2.trans List.perm_middle.symm) (fun g hg=>by
     refine iN _ (iN _ (kH _ (ef.2 ⟨g,hg,rfl⟩)))) d.rzo (fun g hg=>⟨d.rgs g hg,d.x.hi g hg⟩) d.rzo' (by rw [hA2];rfl) ⟨[],by simp⟩ (by rw [hA2];simp) hE
   have h1:A[0]? = some z:=by rw [hA2];rfl
   have g1:(pl::gs.map (·.1))[0]? = some pl:=rfl
   have fw:=d.x.fw
   refine HW _ _ _ _ _ _ _ _ _ _ _ _ _ _ ?_ hE2
   unfold CC
   rw [decide_eq_true (by rw [hA2];simp),cond_true,aB (by simp),aY,fi h1,bX,rp d.shf hgz hrl,bz,aB (by simp),aB (decide_eq_true (by rw [co];simp)),fi g1,bX,rp d.shf hgp d.rlf,bz]
   show (aT aA _ _ _ [_,_,.ifc 120 (eL ⟨l.prs,cond (decide ((xi:Int) > 0)) lf.high l.high,lf.next⟩)] (tM r n es) _)=_
   rw [<-fw,bW gI (pP d.shf hgz hrn)]
   rfl
 have hgone:=Mn (r:=r) (es:=es) (n:=n) (o:=.doneM (.tup []) m) ws (by omega) ss ((xo.1,xo.2.1,xo.2.2,xi)::rest) [] [pl] hQ d.x.one (by simp;omega) (by
  have hx:=Qi (i:=((((xo.1,xo.2.1,xo.2.2,xi)::rest:List aJ)).length:Int) - 1) hQ2 (by simp)
  have hah:=RN (r:=r) d.shf ws (by omega) d.ah (gs.length+1) (by omega)
  rw [d.fout,<-hA] at hah
  have hG:[pl]++ss.map (·.1)=pl::gs.map (·.1):=by rw [hgk];rfl
  have hGl:((aC (pl::gs.map (·.1))).length:Int)=((gs.length+1:Nat):Int):=by rw [co];simp
  rw [hG]
  refine PK _ _ _ _ _ _ _ ?_ hloop
  unfold HV
  rw [aB (decide_eq_true (by simp)),o4 hx,Q7,mo,cZ (by rw [co];omega),cond_false,aB (decide_eq_true (by simp)),o4 hx,Q7,mo,hGl,bR Yq hah,bz,co]
  rfl)
 refine Vo _ _ _ _ _ _ ?_ ⟨_,_,hgone,hc _ _ _ _⟩
 unfold Lm
 rw [w0]
 rfl
end
theorem Zy {r:Int} {up:List IL} {p:Int} {h:Bs} {a c:Su} {sts:List aJ} (hp:i9 r up p h a c sts) (h2:zO up) (hu:up≠[]):∃s∈sts,2<=s.2.1.length:=by
 induction hp with
 | top=>exact absurd rfl hu
 | @st up q e1 p h e2 pre post sts hup ih =>
  cases up with
  | nil=>exact ⟨_,cz ..,h2 _ rfl (q,e1++(p,h)::e2) (by simp)⟩
  | cons l up =>
   obtain ⟨s,hs,h3⟩:=ih (fun l' hl=>h2 l' (by rw [List.getLast?_cons_cons];exact hl)) (by simp)
   exact ⟨s,iN _ hs,h3⟩
section
variable {r:Int} {up:List IL} {p:Int} {h:Bs} {a c:Su} {sts:List aJ} {w:Bool} {up':List IL} {gs zo:List Nd} {xo X:Nd}
theorem aan (hr:Rm r up p h a c sts w up' gs zo xo X):(∀l∈up,cI okI l 0)->(∀g∈gs,bQ (aG g.2.1 g.2.2)=true)/\(∀z∈zo,z.2.1≠[]/\bQ (aG z.2.1 z.2.2)=true)/\bQ (aG xo.2.1 xo.2.2)=true:=by
 induction hr with
 | @one up q p h pre post sts w up' gs zo xo X _ ih =>
  intro hI
  have hl:=hI _ (cz ..)
  obtain ⟨h1,h2,h3⟩:=ih fun l hl=>hI l (by simp [hl])
  obtain ⟨_,hr⟩:okI [(p,h)] (be post 0):=l8 hl
  refine ⟨?_,?_,h3⟩
  ·intro g hg
   rcases bO.1 hg with rfl | hg
   ·exact hr
   ·exact h1 g hg
  ·intro z hz
   rcases br.1 hz with hz | hz
   ·rcases eK pre with rfl | ⟨l,⟨y,ey⟩,rfl⟩
    ·cases hz
    ·rw [hX] at hl hz
     rw [vH] at hz
     have:z=(y,ey,q+1):=by simpa using hz
     subst this
     rw [bw] at hl
     exact l8 hl
   ·exact h2 z hz
 | @left up q p y h hy e1 e2 pre post sts hup=>intro hI;exact ⟨by simp,by simp,(l8 (hI _ (cz ..))).2⟩
 | @first up q p h x e2 pre post sts hup=>intro hI;exact ⟨by simp,by simp,(l8 (hI _ (cz ..))).2⟩
theorem aal (hr:Rm r up p h a c sts w up' gs zo xo X):(∀l∈up,∀x∈l,x.2≠[])->(∀l∈up',cI okI l 0)->(∀z∈dN w h zo gs,bQ (aG z.2.1 z.2.2)=true)/\bQ (aG X.2.1 X.2.2)=true:=by
 induction hr with
 | @one up q p h pre post sts w up' gs zo xo X hrm ih =>
  intro hn hI
  have hl:=hI _ (cz ..)
  obtain ⟨h1,h2⟩:=ih (fun l hl=>hn l (by simp [hl])) fun l hl=>hI l (by simp [hl])
  refine ⟨?_,h2⟩
  intro z hz
  rcases eK pre with rfl | ⟨l,⟨y,ey⟩,rfl⟩
  ·have:=(Ci hrm fun l hl=>hn l (by simp [hl])).1 rfl
   subst this
   cases hz
  ·rw [hX] at hl hz
   rw [yb,bw] at hl
   rw [vH] at hz
   have hz:z∈(y,hS w h ey,be post 0)::dN w h zo gs:=hz
   rcases bO.1 hz with rfl | hz
   ·exact (l8 hl).2
   ·exact h1 z hz
 | @left up q p y h hy e1 e2 pre post sts hup=>intro _ hI;exact ⟨by simp [dN],(l8 (hI _ (cz ..))).2⟩
 | @first up q p h x e2 pre post sts hup=>intro _ hI;exact ⟨by simp [dN],(l8 (hI _ (cz ..))).2⟩
end
theorem Y5 {pre post:LL} {p:Int} {prs:List Pr} {h:Bs} {w:Bool} (ho:jC (pre++(p,prs,h)::post)):jC (hF w h pre++post):=by
 obtain ⟨h1,h2,h3,h4,h5⟩:=tP ho
 rcases eK pre with rfl | ⟨l,⟨z,prz,hz⟩,rfl⟩
 ·exact h2
 ·rw [hX] at h1 h3 h5 |-
  rw [vA]
  obtain ⟨q1,_,q3⟩:=dZ.1 h1
  cases w with
  | false=>exact dZ.2 ⟨h1,h2,fun y hy z hz=>h5 y hy z hz⟩
  | true =>
   refine dZ.2 ⟨dZ.2 ⟨q1,by simp,?_⟩,h2,?_⟩
   ·intro y hy x hx
    have:x=(z,prz,h):=by simpa using hx
    subst this
    have h6:=q3 y hy (z,prz,hz) (by simp)
    exact ⟨FW h6.1 (h3 (z,prz,hz) (by simp)).1,h6.2⟩
   ·intro y hy x hx
    rcases br.1 hy with hy | hy
    ·exact h5 y (by simp [hy]) x hx
    ·have:y=(z,prz,h):=by simpa using hy
     subst this
     exact h4 x hx
theorem XV {prz prs:List Pr} {hz h:Bs} {w:Bool} (o:jX prz hz) (o2:jX prs h) (hl:aD hz h):jX prz (bif w then h else hz):=by
 cases w with
 | false=>exact o
 | true =>
  refine ⟨o.ri,o.mem,?_,o.wt⟩
  show h=[]∨_
  rcases o2.hi with h1 | ⟨h1,_⟩
  ·exact .inl h1
  ·refine .inr ⟨h1,fun x hx=>?_⟩
   exact lt_trans ((o.hi.resolve_left hl.1).2 x hx) (hl.2.resolve_left (o8 h1))
theorem TG {n:Nat} {r:Int} {es:Es} {ups:List IL} {b:LL} (h:WF n r es ups b) {p:Int} {h':Bs} {ws:List aJ} {pre post:LL} {prs:List Pr} (hp:i9 r ups.reverse p h' (bZ pre) (bZ post) ws.reverse) (hb:b=pre++(p,prs,h')::post) (hws:ws.length=ups.length) (hu:ups≠[]) :
  ∃w zl gs zo xo X ss xi rest out R up',mV n es ws p ⟨prs,h',be post 0⟩ w zl gs zo xo X ss xi rest out R/\WT n r (sR es p ⟨prs,h',be post 0⟩ w zl gs zo X) up' (hF w h' pre++post):=by
 have hul:=ot h.toWT
 obtain ⟨w,up',gs,zo,xo,X,hr⟩:=aak hp (Zy hp h.rt (by simpa using hu))
 have hI:∀l∈ups.reverse,cI okI l 0:=fun l hl=>h.okI l (by simpa using hl)
 have hn:∀l∈ups.reverse,∀x∈l,x.2≠[]:=fun l hl=>gU (hI l hl)
 obtain ⟨hIn,hIf⟩:=tc h.toWT
 obtain ⟨ss,xi,rest,hx⟩:=aap hr
 obtain ⟨out,ha1,ha2⟩:=aai h.shf hr hI fun l hl=>hIn l (by simpa using hl)
 obtain ⟨o1,o2,o3⟩:=aan hr hI
 obtain ⟨z0,z1⟩:=Ci hr hn
 obtain ⟨R0,hp1,hp2⟩:=aao hr hn
 have hF:=h.okF
 rw [hb] at hF
 obtain ⟨ok1,ok3,ok2⟩:=(fP _ _ _).1 hF
 have hrl:cJ ⟨prs,h',be post 0⟩=true:=ok3
 obtain ⟨lo,hx0,hx1⟩:=pd hrl
 have hkh:h'=[]∨bq h'=true:=lo.hi.imp id fun q=>q.1
 have hord:=h.ord
 rw [hb] at hord
 have hP:=BX hord
 have eS0:bZ (pre++(p,prs,h')::post)=bZ pre++(p,h')::bZ post:=by simp [bZ]
 rw [eS0] at hP
 have hI':=aam hr hI hP hkh
 obtain ⟨n1,n2⟩:=aal hr hn hI'
 have hes:es.Perm (cX ups.reverse++bj cS (pre++(p,prs,h')::post) 0):=by
  have:=h.rep
  rw [hb] at this
  exact this.trans (List.Perm.append_right _ xM.symm)
 have hes:=hes.trans (List.Perm.append_right _ hp1)
 have hdn:Dn [(r,[])] up'.reverse (Proofs.YtlphgcjepphhcaaGreat.hF w h' pre++post):=by
  have e:bZ (Proofs.YtlphgcjepphhcaaGreat.hF w h' pre++post)=hS w h' (bZ pre)++bZ post:=by rw [<-ab2];simp [bZ]
  have:=aaj hr hn (d:=[]) (b:=Proofs.YtlphgcjepphhcaaGreat.hF w h' pre++post) (by rw [<-e];exact .leaf _)
  rwa [dH] at this
 have hod:=Y5 (w:=w) hord
 rcases eK pre with rfl | ⟨l,⟨z,prz,hz⟩,rfl⟩
 ·have hzo:=z0 rfl
  subst hzo
  have d:mV n es ws p ⟨prs,h',be post 0⟩ w [] gs [] xo X ss xi rest out (R0++bj cS post 0):=by
   refine ⟨h.shf,by omega,hx,ha1,ha2,by simp,fun _=>rfl,fun q=>absurd rfl q,?_,hrl,by simp,by simp [gb],o1,o2,n1,o3,n2⟩
   refine hes.trans (kv.2 fun x=>?_)
   rw [dp,bj]
   simp only [j8,lF,oX,fg,cA,gM,sL,dp]
   have:c1 x (p,cS (prs,h') (be post 0))=c1 x (p,bI ⟨prs,h',be post 0⟩):=rfl
   omega
  refine ⟨w,[],gs,[],xo,X,ss,xi,rest,out,_,up'.reverse,d,d.left.2,?_,hdn,fun l hl=>hI' l (by simpa using hl),ok2,hod⟩
  refine d.left.1.trans ?_
  refine List.Perm.trans ?_ (List.Perm.append_right _ (hp2.symm.trans xM.symm))
  show (fg []++(cA (dN w h' [] gs)++(cA [X]++(R0++bj cS post 0)))).Perm (_++bj cS (Proofs.YtlphgcjepphhcaaGreat.hF w h' []++post) 0)
  have:Proofs.YtlphgcjepphhcaaGreat.hF w h' []++post=post:=rfl
  rw [this]
  refine kv.2 fun x=>?_
  simp only [j8,fg,gM,sL,dp]
  omega
 ·rw [hX] at *
  have e1:bZ (l++[(z,prz,hz)])=bZ l++[(z,hz)]:=by simp [bZ]
  rw [e1] at z1 ha2
  rw [vU] at ha2
  have hzl:=z1 (by simp)
  obtain ⟨k1,k2,_⟩:=(fP _ _ _).1 ok1
  have hrz:cJ ⟨prz,hz,p+1⟩=true:=k2
  obtain ⟨zo',_,_⟩:=pd hrz
  have hlt':=((tP hord).2.2.1 (z,prz,hz) (by simp)).1
  have hnew:=pF (XV (w:=w) zo' lo hlt') hx0 hx1
  have d:mV n es ws p ⟨prs,h',be post 0⟩ w [(z,⟨prz,hz,p+1⟩)] gs zo xo X ss xi rest out (R0++(bj cS l (z+1)++bj cS post 0)):=by
   refine ⟨h.shf,by omega,hx,ha1,ha2,by simp,fun q=>by simp at q,fun _=>hzl,?_,hrl,by simpa using hrz,by simpa [gb] using hnew,o1,o2,n1,o3,n2⟩
   refine hes.trans (kv.2 fun x=>?_)
   have E:bj cS (l++[(z,prz,hz)]++(p,prs,h')::post) 0=bj cS l (z+1)++(z,bI ⟨prz,hz,p+1⟩)::(p,bI ⟨prs,h',be post 0⟩)::bj cS post 0:=by
    rw [bw,jG];rfl
   rw [E]
   simp only [j8,lF,oX,fg,di,gM,sL,dp]
   omega
  refine ⟨w,[(z,⟨prz,hz,p+1⟩)],gs,zo,xo,X,ss,xi,rest,out,_,up'.reverse,d,d.left.2,?_,hdn,fun l hl=>hI' l (by simpa using hl),?_,hod⟩
  ·refine d.left.1.trans ?_
   refine List.Perm.trans ?_ (List.Perm.append_right _ (hp2.symm.trans xM.symm))
   have E:bj cS (l++[(z,prz,bif w then h' else hz)]++post) 0=bj cS l (z+1)++(z,bI ⟨prz,bif w then h' else hz,be post 0⟩)::bj cS post 0:=by
    rw [bw,jG];rfl
   rw [vA,E]
   refine kv.2 fun x=>?_
   simp only [j8,lF,fg,gb,di,gM,sL,dp]
   omega
  ·rw [vA,bw]
   exact (fP _ _ _).2 ⟨k1,hnew,ok2⟩
inductive pS (n:Nat) (r:Int) (es:Es) (k:Bs):Int->Int->Es->Prop
 | arg (h:bq k=false):pS n r es k 1 r es
 | no {ws:List aJ} {pl:Int} {l:Lf} (hs:cx n es) (hk:bq k=true) (hw:j6 es k r ws pl l) (hl:ws.length<=1024) (hr0:cJ l=true) (hh:b9 (aW l.prs) k=false):pS n r es k 7 r es
 | put {ws:List aJ} {pl:Int} {l:Lf} (hs:cx n es) (hk:bq k=true) (hw:j6 es k r ws pl l) (hl:ws.length<=1024) (hg:cP es pl=some (bI l)) (hr0:cJ l=true) (hh:b9 (aW l.prs) k=true) (hd:gm l.prs k≠[]∨ws=[]) (hr:cJ ⟨gm l.prs k,l.high,l.next⟩=true) :
  pS n r es k 0 r (bp es pl (bI ⟨gm l.prs k,l.high,l.next⟩))
 | drop {ws:List aJ} {pl:Int} {l:Lf} {w:Bool} {zl:List Nl} {gs zo:List Nd} {xo X:Nd} {ss:List aJ} {xi:Nat} {rest:List aJ} {out:List Int} {R:Es} {r':Int} {es':Es} (hk:bq k=true) (hw:j6 es k r ws pl l) (hr0:cJ l=true) (hh:b9 (aW l.prs) k=true) (hd:gm l.prs k=[]) (hw0:ws≠[])
  (d:mV n es ws pl l w zl gs zo xo X ss xi rest out R) (hsk:mg n r (sR es pl l w zl gs zo X) r' es'):pS n r es k 0 r' es'
theorem xJ {k:Bs} {r n:Int} {es:List (V × V)} {bs:List V} {m:List O} {v0:V} {L:Int × Int × Int × List (V × V) × List V} (h:sS k r n es bs=some (.doneM v0 m)) (hc:iR aF (tm r n es bs) v0 m=iZ L) :
  bT aA aF 33 [.ptr 0 0 0,.str k] (tm r n es bs)=some (iZ L):=UO _ _ _ _ _ h (.done hc)
theorem sP {n:Nat} {r:Int} {es:Es} {k:Bs} {e r':Int} {es':Es} (h:pS n r es k e r' es'):bT aA aF 33 [.ptr 0 0 0,.str k] (tM r n es)=some (iZ (e,r',n,aZ es',aR n (aM es'))):=by
 cases h with
 | arg h =>
  refine xJ (v0:=.int .i64 1) (m:=tM r n es) ?_ (by kernel_rfl)
  unfold sS
  rw [aH (iX k),bS,h];rfl
 | @no ws pl l hs hk hw hl hr0 hh =>
  have hdl:=Em l hr0 k
  rw [hh] at hdl
  apply xJ
  case h =>
   unfold sS
   rw [aH (iX k),bS,hk,bv,cond_false,bR qY (rN hs hw (by omega)),bz]
   show (aE aA _ [eL l,_] _)=_
   rw [aH hdl]
   show (oU (V.tup [eL tl,V.int .i64 7]) _)=_
   rw [mn,jm (by decide),cond_true]
  case hc=>kernel_rfl
 | @put ws pl l hs hk hw hl hg hr0 hh hd hr =>
  have hdl:=Em l hr0 k
  rw [hh,if_pos rfl] at hdl
  by_cases h0:gm l.prs k=[]
  ·have hw0:=hd.resolve_left fun q=>q h0
   subst hw0
   apply xJ
   case h =>
    unfold sS
    rw [aH (iX k),bS,hk,bv,cond_false,bR qY (rN hs hw (by omega)),bz]
    show (aE aA _ [eL l,_] _)=_
    rw [aH hdl,mn,de rfl,cond_false,decide_eq_false (by rw [cL,h0];simp),cond_false,cN (by rfl),cond_true]
    show (aT aA _ _ _ [_,_,.ifc 120 (eL ⟨gm l.prs k,l.high,l.next⟩)] (tM r n es) _)=_
    rw [bW gI (pP hs hg hr)]
   case hc=>kernel_rfl
  ·apply xJ
   case h =>
    unfold sS
    rw [aH (iX k),bS,hk,bv,cond_false,bR qY (rN hs hw (by omega)),bz]
    show (aE aA _ [eL l,_] _)=_
    rw [aH hdl,mn,de rfl,cond_false,decide_eq_true (show ((aN (gm l.prs k)).length:Int) > 0 by rw [cL];have:=iM.2 h0;omega),cond_true]
    show (aT aA _ _ _ [_,_,.ifc 120 (eL ⟨gm l.prs k,l.high,l.next⟩)] (tM r n es) _)=_
    rw [bW gI (pP hs hg hr)]
   case hc=>kernel_rfl
 | @drop ws pl l w zl gs zo xo X ss xi rest out R r' es' hk hw hr0 hh hd hw0 d hsk =>
  have hdl:=Em l hr0 k
  rw [hh,if_pos rfl] at hdl
  have hlen:=d.len
  apply xJ
  case h =>
   unfold sS
   rw [aH (iX k),bS,hk,bv,cond_false,bR qY (rN d.shf hw (by omega)),bz]
   show (aE aA _ [eL l,_] _)=_
   rw [aH hdl,mn,de rfl,cond_false,decide_eq_false (by rw [cL,hd];simp),cond_false,cZ (by rw [rH];have:=iM.2 hw0;omega),cond_false,bW Yw (TH d hsk)]
  case hc=>kernel_rfl
theorem Tp {prs:List Pr} {h k:Bs} (o:jX prs h) (hh:b9 (aW prs) k=true):jX (gm prs k) h:=by
 have hs:(gm prs k).Sublist prs:=by rw [Ek o.ri hh];exact List.filter_sublist
 refine ⟨o.ri.sublist hs,fun x hx=>o.mem x (hs.subset hx),o.hi.imp id fun q=>⟨q.1,fun x hx=>q.2 x (hs.subset hx)⟩,?_⟩
 have h1:=wR prs (bN (aW prs) k)
 have h2:=wR (prs.drop (bN (aW prs) k)) 1
 rw [oH] at h2
 have:=o.wt
 unfold gm
 rw [wQ]
 omega
def d6 (k:Bs) (l:List Pr):List Pr:=l.filter fun x=>!(x.1==k)
theorem NO {k:Bs} {l:List Pr} (h:∀x∈l,lt x.1 k=true∨lt k x.1=true):d6 k l=l:=lc (p:=fun x:Pr=>!(x.1==k)) fun x hx=>by
 by_cases he:x.1=k
 ·have:=h x hx
  rw [he,gG] at this;simp at this
 ·simpa using he
def De (n:Nat) (r:Int) (es:Es) (ups:List IL) (b:LL) (k:Bs) (e r':Int) (es':Es) (ups':List IL) (b':LL):Prop :=
 (e=0/\bq k=true/\b9 (aW (aK b)) k=true/\aK b'=d6 k (aK b)) ∨
 (r'=r/\es'=es/\ups'=ups/\b'=b/\((e=1/\bq k=false)∨(e=7/\bq k=true/\b9 (aW (aK b)) k=false)))
theorem vi {n:Nat} {r:Int} {es:Es} {ups:List IL} {b:LL} (h:WF n r es ups b) (k:Bs) :
  ∃e r' es' ups' b',WF n r' es' ups' b'/\pS n r es k e r' es'/\De n r es ups b k e r' es' ups' b':=by
 cases hk:bq k with
 | false=>exact ⟨1,r,es,ups,b,h,.arg hk,.inr ⟨rfl,rfl,rfl,rfl,.inl ⟨rfl,hk⟩⟩⟩
 | true =>
  obtain ⟨p,h',ws,pre,prs,post,q1,q2,q3,q4,q5,q6⟩:=IK h.toWT hk
  have hF:=h.okF
  rw [q2] at hF
  have hr:cJ ⟨prs,h',be post 0⟩=true:=BU hF
  obtain ⟨o,hx0,hx1⟩:=pd hr
  have hul:=ot h.toWT
  obtain ⟨hgp,_⟩:=QU q6
  have hord:=h.ord
  rw [q2] at hord
  have hpre:=(tP hord).2.2.1
  obtain ⟨hca,hcc⟩:=IJ hord hF q3 q4
  have hris:=jI hord hF
  have efl:aK (pre++(p,prs,h')::post)=aK pre++(prs++aK post):=by rw [lR,iv]
  rw [efl] at hris
  have hhas:=Ms hca hcc hris
  have hfb:aK b=aK pre++(prs++aK post):=by rw [q2,efl]
  cases hh:b9 (aW prs) k with
  | false=>exact ⟨7,r,es,ups,b,h,.no h.shf hk q6 (by omega) hr hh,.inr ⟨rfl,rfl,rfl,rfl,.inr ⟨rfl,hk,by rw [hfb,hhas,hh]⟩⟩⟩
  | true =>
   have o2:=Tp o hh
   have hr2:=pF o2 hx0 hx1
   have hfl:d6 k (aK b)=aK pre++(gm prs k++aK post):=by
    rw [hfb]
    show (aK pre++(prs++aK post)).filter _=_
    rw [m7,m7,Ek o.ri hh]
    have e1:=NO (k:=k) (l:=aK pre) fun x hx=>.inl (hca x hx)
    have e2:=NO (k:=k) (l:=aK post) fun x hx=>.inr (hcc x hx)
    unfold d6 at e1 e2
    rw [e1,e2]
   have hin:b9 (aW (aK b)) k=true:=by rw [hfb,hhas,hh]
   by_cases hd:gm prs k≠[]∨ws=[]
   ·have hat:=h.rep
    rw [q2] at hat
    have hat:=BD hat
    have hpm:=kw (b':=bI ⟨gm prs k,h',be post 0⟩) h.shf.nd hat
    obtain ⟨ok1,ok3,ok2⟩:=(fP _ _ _).1 hF
    have hne:=yw h q2
    refine ⟨0,r,bp es p (bI ⟨gm prs k,h',be post 0⟩),ups,pre++(p,gm prs k,h')::post,⟨⟨jS h.shf (gS hat),hpm.trans (M3 (U:=cX ups) (pre:=pre) (post:=post) (p:=p) (x:=(gm prs k,h'))),?_,h.okI,(fP _ _ _).2 ⟨ok1,hr2,ok2⟩,N5 hord ?_⟩,?_,h.rt⟩,.put h.shf hk q6 (by omega) hgp hr hh hd hr2,.inl ⟨rfl,hk,hin,?_⟩⟩
    ·have e:bZ (pre++(p,gm prs k,h')::post)=bZ b:=by rw [q2];simp [bZ]
     exact Eu e h.dn
    ·intro y hy x hx
     refine (hpre y hy).2 x ?_
     rw [Ek o.ri hh] at hx
     exact (m9.1 hx).1
    ·intro hu x hx
     rcases br.1 hx with hx | hx
     ·exact hne x (.inl hx)
     ·rcases bO.1 hx with rfl | hx
      ·rcases hd with hd | hd
       ·exact hd
       ·rw [hd] at q5
        exact absurd (m4 q5.symm) hu
      ·exact hne x (.inr hx)
    ·rw [hfl,lR,iv]
   ·have hd0:gm prs k=[]:=Classical.byContradiction fun q=>hd (.inl q)
    have hw0:ws≠[]:=fun q=>hd (.inr q)
    have hu:ups≠[]:=by
     intro e
     rw [e] at q5
     exact hw0 (m4 q5)
    obtain ⟨w,zl,gs,zo,xo,X,ss,xi,rest,out,R,up',d,hwt⟩:=TG h q1 q2 q5 hu
    have hne:=yw h q2
    obtain ⟨r',es',ups',h1,h2⟩:=P9 hwt (by
     intro x hx
     rcases br.1 hx with hx | hx
     ·rcases eK pre with rfl | ⟨l,⟨z,prz,hz⟩,rfl⟩
      ·cases hx
      ·rw [hX] at hx hne
       rw [vA] at hx
       rcases br.1 hx with hx | hx
       ·exact hne x (.inl (by simp [hx]))
       ·have:x=(z,prz,bif w then h' else hz):=by simpa using hx
        rw [this]
        exact hne (z,prz,hz) (.inl (by simp))
     ·exact hne x (.inr hx))
    refine ⟨0,r',es',ups',_,h2,.drop hk q6 hr hh hd0 hw0 d h1,.inl ⟨rfl,hk,hin,?_⟩⟩
    rw [hfl,lR,V2,hd0]
    simp
theorem V1 {n:Nat} {es:Es} (h:cx n es) {j:Nat} (hj:lP n (aM es)=some j):j<=es.length:=by
 unfold lP at hj
 obtain ⟨_,h2,h3⟩:=List.find?_range_eq_some.1 hj
 have hjn:j < n:=by simpa using h2
 have hl:=pJ h
 unfold fo at hl
 rw [dh] at hl
 obtain ⟨m,rfl⟩:∃m,n=j+m:=⟨n - j,by omega⟩
 rw [List.range_add,m7,cO] at hl
 have hf:(dI j).filter (aM es)=dI j:=I7.2 fun i hi=>by
  have:=h3 i (by simpa using hi)
  simpa using this
 rw [hf,zA] at hl
 omega
theorem XC {es:Es} {p q:Int} {b:Bs} (h:q∈aO (bp es p b)):q∈aO es∨q=p:=by
 by_cases hp:p∈aO es
 ·rw [n8 hp] at h;exact .inl h
 ·rw [qL hp] at h
  rcases br.1 h with h | h
  ·exact .inl h
  ·exact .inr (eV.1 h)
theorem M5 (es:Es) (p:Int) (b:Bs):es.length<=(bp es p b).length:=by
 by_cases hp:p∈aO es
 ·rw [yI hp];exact bK _
 ·rw [Cb hp];omega
def pZ (es es':Es):Prop:=es.length<=es'.length/\∀q∈aO es',q∈aO es∨q < (es'.length:Int)
theorem No (es:Es):pZ es es:=⟨bK _,fun q h=>.inl h⟩
theorem tA {a b c:Es} (h1:pZ a b) (h2:pZ b c):pZ a c:=⟨j4 h1.1 h2.1,fun q hq=>by
 rcases h2.2 q hq with h | h
 ·rcases h1.2 q h with h | h
  ·exact .inl h
  ·have:=h2.1;exact .inr (by omega)
 ·exact .inr h⟩
theorem tz {es:Es} {p:Int} {b:Bs} (hp:p∈aO es):pZ es (bp es p b):=⟨M5 _ _ _,fun q hq=>by rw [n8 hp] at hq;exact .inl hq⟩
theorem Gl {n:Nat} {es:Es} (h:cx n es) {j:Nat} (hj:lP n (aM es)=some j) (hq:(j:Int)∉aO es) {b:Bs}:pZ es (bp es j b):=by
 have:=V1 h hj
 refine ⟨M5 _ _ _,fun q hq'=>?_⟩
 rcases XC hq' with h | h
 ·exact .inl h
 ·rw [Cb hq];exact .inr (by omega)
theorem xX {es:Es} {p:Int} {b:Bs} (h:cP es p=some b):p∈aO es:=Classical.byContradiction fun q=>by rw [vz.2 q] at h;cases h
theorem Ca {es:Es} {p q:Int} {b:Bs} (h:p∈aO es):p∈aO (bp es q b):=by
 by_cases hq:q∈aO es
 ·rw [n8 hq];exact h
 ·rw [qL hq];exact kH _ h
theorem G0 {es:Es} {p:Int} {b:Bs}:p∈aO (bp es p b):=by
 by_cases hq:p∈aO es
 ·rw [n8 hq];exact hq
 ·rw [qL hq];simp
theorem acH {n:Nat} {r:Int} {es:Es} {sts:List aJ} {k:Bs} {p to r':Int} {es':Es} (h:nk n r es sts k p to r' es'):pZ es es':=by
 induction h with
 | @top es k p to j hs hf hj hq hr=>exact tA (Gl hs hf hq) (tz G0)
 | @room es sts k p to q e nx i e' hs hg hr hk hp hr'=>exact tz (xX hg)
 | @two es sts k p to q e nx i j ea eb fa fb r' es' hs hg hr hk hp hf hj hq hra hrb rfa rfb hspl hcase hup ih =>
  exact tA (tA (tA (Gl hs hf hq) (tz (Ca (xX hg)))) (tz (Ca G0))) ih
theorem Ow {n:Nat} {r:Int} {es:Es} {k v:Bs} {ok:Bool} {e r':Int} {es':Es} (h:mf n r es k v ok e r' es'):pZ es es':=by
 cases h with
 | arg h=>exact No _
 | put hs hk hv hw hl hg hr0 hh hz hr=>exact tz (xX hg)
 | full=>exact No _
 | split hs hk hv hw hl hg hr0 hh hz hf hfj hj hq h2 hx rA0 rB0 rA rB hc hu =>
  exact tA (tA (tA (Gl hs hfj hq) (tz (Ca (xX hg)))) (tz (Ca G0))) (acH hu)
theorem XA {es:Es} {p q:Int} (h:q∈aO (fL es p)):q∈aO es:=by
 induction es with
 | nil=>exact h
 | cons x es ih =>
  obtain ⟨a,y⟩:=x
  unfold fL at h
  split at h
  ·exact iN _ h
  ·rcases bO.1 h with h | h
   ·rw [h];exact cz ..
   ·exact iN _ (ih h)
theorem abi {n:Nat} {r:Int} {es:Es} {r':Int} {es':Es} (h:mg n r es r' es'):∀q∈aO es',q∈aO es:=by
 induction h with
 | leaf=>exact fun _ h=>h
 | stop=>exact fun _ h=>h
 | one hs hg hr _ ih=>exact fun q hq=>XA (ih q hq)
theorem Tq {n:Nat} {r:Int} {es:Es} {k:Bs} {e r':Int} {es':Es} (h:pS n r es k e r' es'):∀q∈aO es',q∈aO es:=by
 cases h with
 | arg=>exact fun _ h=>h
 | no=>exact fun _ h=>h
 | put hs hk hw hl hg hr0 hh hd hr=>exact fun q hq=>by rwa [n8 (xX hg)] at hq
 | @drop ws pl l w zl gs zo xo X ss xi rest out R r' es' hk hw hr0 hh hd hw0 d hsk =>
  intro q hq
  have h1:=abi hsk q hq
  have hp:=d.left.1
  have h2:q∈aO (fg (gb w l zl)++(cA (dN w l.high zo gs)++(cA [X]++R))):=(hp.map (·.1)).mem_iff.1 h1
  have h3:q∈aO (fg zl++(cA zo++((pl,bI l)::(cA gs++(cA [xo]++R))))):=by
   rw [<-bw,mF,<-d.keys] at h2
   rcases br.1 h2 with h2 | h2
   ·rw [<-bw,mF];exact kH _ h2
   ·rw [mF] at h2
    rcases br.1 h2 with h2 | h2
    ·have e1:aO (cA [X])=aO (cA [xo]):=by rw [vG,vG];simp [d.x.pg]
     rw [e1] at h2
     rw [<-bw,mF]
     refine m8 _ (iN _ ?_)
     show q∈aO (cA gs++(cA [xo]++R))
     rw [mF,mF]
     exact m8 _ (kH _ h2)
    ·rw [<-bw,mF]
     refine m8 _ (iN _ ?_)
     show q∈aO (cA gs++(cA [xo]++R))
     rw [mF,mF]
     exact m8 _ (m8 _ h2)
  exact (d.perm.map (·.1)).mem_iff.2 h3
theorem Zw (a b:List Pr):aN a++aN b=aN (a++b):=by simp [aN]
theorem IR {k:Bs} (L:List Pr) (hL:L.length<=1000000):∀(l:List Pr) (i:Nat) (acc:List Pr),L.drop i=l->i<=L.length->acc.length<=i ->
  Go qk false 0 (fF 41) (.head 0 (xt (aN L) k (i:Int) (aN acc))) (.done (.fr 41 (aN (acc++d6 k l))))
 | [],i,acc,hd,hi,ha=>by
  have:=drop_nil hd
  refine HO _ _ _ _ ?_ (.refl _)
  unfold Cz
  rw [cL,decide_eq_false (by omega),cond_false,aB (A9 _)]
  simp [d6]
 | x::l,i,acc,hd,hi,ha=>by
  obtain ⟨h1,h2,h3⟩:=er hd
  have w:W .i64 ((i:Int)+1)=((i+1:Nat):Int):=by rw [aU (by omega)];omega
  cases hx:x.1==k with
  | true =>
   have e:d6 k (x::l)=d6 k l:=by simp [d6,hx]
   rw [e]
   refine HO _ _ _ _ ?_ (IR L hL l (i+1) acc h2 (by omega) (by omega))
   unfold Cz
   rw [cL,decide_eq_true (by omega),cond_true,aB (by simp),aY,eA h1,eo,hx,bv,cond_false,w]
  | false =>
   have e:acc++d6 k (x::l)=(acc++[x])++d6 k l:=by simp [d6,hx]
   rw [e]
   refine HO _ _ _ _ ?_ (IR L hL l (i+1) (acc++[x]) h2 (by omega) (by simp;omega))
   unfold Cz
   rw [cL,decide_eq_true (by omega),cond_true,aB (by simp),aY,eA h1,eo,hx,gi,cond_true,aB (by simp),eA h1,eo,aB (decide_eq_true (by rw [cL];simp;omega)),w]
   simp [aN]
theorem C5 (L:List Pr) (hL:L.length<=1000000) (k:Bs):bo aA 41 [.sl (aN L),.str k]=some (.fr 41 (aN (d6 k L))):=by
 have:=IR (k:=k) L hL L 0 [] rfl (by omega) (by simp)
 rw [dp] at this
 exact UU _ _ rfl this
def IQ (L:List Pr) (k v:Bs):List Pr:=(d6 k L).takeWhile (fun x=>lt x.1 k)++(k,v)::(d6 k L).dropWhile (fun x=>lt x.1 k)
theorem QX {k v:Bs} (hk:k.length<=1000) (L:List Pr) (hL:L.length<=1000000):∀(l:List Pr) (i:Nat),L.drop i=l->i<=L.length ->
  Go qk false 0 (fF 38) (.head 0 (xr (aN L) (i:Int) k v (aN (L.take i)))) (.done (.fr 41 (aN (L.take i++(l.takeWhile (fun x=>lt x.1 k)++(k,v)::l.dropWhile (fun x=>lt x.1 k))))))
 | [],i,hd,hi=>by
  have:=drop_nil hd
  have hi:i=L.length:=by omega
  subst hi
  refine HM _ _ _ _ _ ?_ (.refl _)
  unfold Cx
  have e1:(aN L).take (aN L).length=aN L:=jZ
  have e2:(aN L).drop L.length=[]:=oI (by rw [cL];omega)
  rw [jZ,cL,decide_eq_false (by omega),cond_false,aB (decide_eq_true (by simp;omega)),aB (ou _),aB (by simp),aY,aB (decide_eq_true (by omega)),<-cL L,e1,cL,e2,aB (show dm 2 []=true from rfl),aB (decide_eq_true (by simp [aN];omega)),dH]
  have e3:aN L++[V.agg [V.str k,V.str v]]=aN (L++[(k,v)]):=by simp [aN]
  rw [e3,aB (A9 _)]
  rfl
 | x::l,i,hd,hi=>by
  obtain ⟨h1,h2,h3⟩:=er hd
  have w:W .i64 ((i:Int)+1)=((i+1:Nat):Int):=by rw [aU (by omega)];omega
  have hti:L.take (i+1)=L.take i++[x]:=by rw [zF,h1];rfl
  have htl:(L.take i).length=i:=by rw [d9];omega
  cases hx:lt x.1 k with
  | true =>
   have e:L.take i++((x::l).takeWhile (fun x=>lt x.1 k)++(k,v)::(x::l).dropWhile (fun x=>lt x.1 k))=L.take (i+1)++(l.takeWhile (fun x=>lt x.1 k)++(k,v)::l.dropWhile (fun x=>lt x.1 k)):=by
    rw [Rt (p:=fun x:Pr=>lt x.1 k) hx,Rk (p:=fun x:Pr=>lt x.1 k) hx,hti];simp
   rw [e]
   refine HM _ _ _ _ _ ?_ (QX hk L hL l (i+1) h2 (by omega))
   unfold Cx
   rw [cL,decide_eq_true (by omega),cond_true,aB (by simp),aY,eA h1,eo,aH (yp x.1 k (by omega)),bS,hx,cond_true,aB (by simp),eA h1,eo,aB (decide_eq_true (by rw [cL,htl];simp;omega)),w,hti]
   simp [aN]
  | false =>
   have e:L.take i++((x::l).takeWhile (fun x=>lt x.1 k)++(k,v)::(x::l).dropWhile (fun x=>lt x.1 k))=L.take i++[(k,v)]++(x::l):=by
    rw [Rr (p:=fun x:Pr=>lt x.1 k) (by simp [hx]),Rj (p:=fun x:Pr=>lt x.1 k) (by simp [hx])];simp
   rw [e]
   refine HM _ _ _ _ _ ?_ (.refl _)
   unfold Cx
   have e1:(aN L).take L.length=aN L:=by rw [<-cL L,jZ]
   have e2:(aN L).drop i=aN (x::l):=by unfold aN;rw [<-List.map_drop,hd]
   have e3:aN (L.take i)++[V.agg [V.str k,V.str v]]=aN (L.take i++[(k,v)]):=by simp [aN]
   have hll:(x::l).length<=L.length:=by rw [<-hd,eO];omega
   rw [cL,decide_eq_true (by omega),cond_true,aB (by simp),aY,eA h1,eo,aH (yp x.1 k (by omega)),bS,hx,cond_false,aB (decide_eq_true (by rw [cL,htl];simp;omega)),aB (ou _),aB (by simp),aB (decide_eq_true (by omega)),e1,e2,aB (ou _),e3,aB (decide_eq_true (by rw [cL,cL,cO,htl];simp at hll |-;omega)),Zw,aB (A9 _)]
theorem QZ (L:List Pr) (hL:L.length<=1000000) (k v:Bs) (hk:k.length<=1000):bo aA 38 [.sl (aN L),.agg [.str k,.str v]]=some (.fr 41 (aN (IQ L k v))):=by
 have hl:(d6 k L).length<=1000000:=j4 (Jb _ _) hL
 have:=QX (k:=k) (v:=v) hk (d6 k L) hl (d6 k L) 0 rfl (by omega)
 rw [pY,dp] at this
 refine US _ _ _ (o:=.head 0 (xr (aN (d6 k L)) ((0:Nat):Int) k v (aN []))) ?_ this
 unfold K8
 rw [aH (C5 L hL k),dC]
 rfl
theorem Q0 {L:List Pr} (h:ij L) (k v:Bs):IQ L k v=cd L k v:=by
 rw [B7 h]
 unfold IQ
 have key:∀{l:List Pr},ij l->(∀x∈l,x.1≠k)->l.takeWhile (fun x=>lt x.1 k)=l.filter (fun x=>lt x.1 k)/\l.dropWhile (fun x=>lt x.1 k)=l.filter (fun x=>lt k x.1):=by
  intro l
  induction l with
  | nil=>intro _ _;exact ⟨rfl,rfl⟩
  | cons x l ih =>
   intro hr hk
   obtain ⟨r1,r2⟩:=fV.1 hr
   obtain ⟨i1,i2⟩:=ih r2 fun y hy=>hk y (by simp [hy])
   cases hx:lt x.1 k with
   | true =>
    rw [Rt (p:=fun x:Pr=>lt x.1 k) hx,Rk (p:=fun x:Pr=>lt x.1 k) hx,Dl (p:=fun x:Pr=>lt x.1 k) hx,Dk (p:=fun x:Pr=>lt k x.1) (by rw [ki hx];simp),i1,i2]
    exact ⟨rfl,rfl⟩
   | false =>
    have hkx:lt k x.1=true:=mG hx (hk x (by simp))
    have hall:∀y∈l,lt k y.1=true:=fun y hy=>lt_trans hkx (r1 y hy)
    rw [Rr (p:=fun x:Pr=>lt x.1 k) (by simp [hx]),Rj (p:=fun x:Pr=>lt x.1 k) (by simp [hx]),Dk (p:=fun x:Pr=>lt x.1 k) (by simp [hx]),Dl (p:=fun x:Pr=>lt k x.1) hkx,lc (p:=fun x:Pr=>lt k x.1) hall,nF (p:=fun x:Pr=>lt x.1 k) (fun y hy=>ki (hall y hy))]
    exact ⟨rfl,rfl⟩
 obtain ⟨a,b⟩:=key (l:=d6 k L) (List.Pairwise.filter _ h) fun x hx=>by
  have:=(m9.1 hx).2
  simpa using this
 rw [a,b]
 unfold d6
 rw [List.filter_filter,List.filter_filter]
 have f1:L.filter (fun x=>lt x.1 k && !(x.1==k))=L.filter (fun x=>lt x.1 k):=List.filter_congr fun x _=>by
  by_cases e:x.1=k
  ·rw [e,gG];rfl
  ·simp [e]
 have f2:L.filter (fun x=>lt k x.1 && !(x.1==k))=L.filter (fun x=>lt k x.1):=List.filter_congr fun x _=>by
  by_cases e:x.1=k
  ·rw [e,gG];rfl
  ·simp [e]
 rw [f1,f2]
theorem yj:∀{l:IL},(∀x∈l,x.2≠[])->(∀x∈l.dropLast,15<=x.2.length)->l≠[]->15 * (l.length - 1)+1<=(bf l).length
 | [],_,_,h=>absurd rfl h
 | [x],h,_,_=>by
  have:=iM.2 (h x (by simp))
  simp [bf]
  omega
 | x::y::t,h,hf,_=>by
  have ih:=yj (l:=y::t) (fun z hz=>h z (by simp [hz])) (fun z hz=>hf z (by rw [mZ (by simp)];simp [hz])) (by simp)
  have h1:=hf x (by rw [mZ (by simp)];simp)
  rw [bf,fT,cO]
  rw [bf] at ih
  simp only [cG] at ih |-
  omega
theorem sQ {s:Su} {b:LL} (h:Dn s [] b):s.length=b.length:=by rw [ji h];simp [bZ]
theorem vk {s:Su} {l:IL} {d:List IL} {b:LL} (h:Dn s (l::d) b):s.length=l.length:=by
 have e:=congrArg oJ (ff h).1
 rw [e];simp [bE]
theorem Et:∀{d:List IL} {s:Su} {b:LL},Dn s d b->(∀l∈d,cI okI l 0)->Ft d->s≠[]->s.length<=b.length/\∀l∈d,l.length<=b.length
 | [],s,b,h,_,_,_=>⟨by rw [sQ h];exact bK _,fun l hl=>(nomatch hl)⟩
 | l::d,s,b,h,hI,hF,hs=>by
  have hl:=vk h
  obtain ⟨e,hk⟩:=ff h
  have hlne:l≠[]:=by rintro rfl;exact hs e
  have hne:=gU (hI _ (cz ..))
  have hkl:=yj hne (hF _ (cz ..)) hlne
  have hpos:=iM.2 hlne
  obtain ⟨i1,i2⟩:=Et hk (fun x hx=>hI x (by simp [hx])) (fun x hx=>hF x (by simp [hx])) (yk hlne hne)
  refine ⟨by omega,fun l' hl'=>?_⟩
  rcases bO.1 hl' with rfl | hl'
  ·omega
  ·exact i2 l' hl'
theorem TB {l:IL} {d:List IL} {s:Su} {b:LL} (h:Dn s (l::d) b) (hI:∀l'∈l::d,cI okI l' 0) (hF:Ft (l::d)) (h2:2<=s.length):16<=b.length:=by
 have hl:=vk h
 obtain ⟨e,hk⟩:=ff h
 have hlne:l≠[]:=by rintro rfl;rw [hl] at h2;simp at h2
 have hne:=gU (hI _ (cz ..))
 have hkl:=yj hne (hF _ (cz ..)) hlne
 have:=(Et hk (fun x hx=>hI x (by simp [hx])) (fun x hx=>hF x (by simp [hx])) (yk hlne hne)).1
 omega
theorem Ck {n:Nat} {r:Int} {es:Es} {l:IL} {d:List IL} {b:LL} (h:WF n r es (l::d) b):l.length=1/\2<=(bf l).length:=by
 obtain ⟨e0,_⟩:=ff h.dn
 obtain ⟨e,rfl⟩:=OL e0
 have:=h.rt [(r,e)] (by simp) (r,e) (eV.2 rfl)
 simp [bf]
 exact this
theorem Kz {n:Nat} {r:Int} {es:Es} {ups:List IL} {b:LL} (h:WF n r es ups b) (hr:Rs ups b) (hb:b.length<=15):ups.length<=1/\es.length<=b.length+1:=by
 have hl:es.length=(fk ups b).length:=by rw [<-(vW h.toWT).length_eq];simp [aO]
 cases ups with
 | nil=>exact ⟨by simp,by rw [hl];simp [fk,bU]⟩
 | cons l d =>
  obtain ⟨h1,h2⟩:=Ck h
  cases d with
  | nil =>
   refine ⟨by simp,?_⟩
   rw [hl]
   simp [fk,bU,h1]
   omega
  | cons l2 d =>
   have:=TB (ff h.dn).2 (fun x hx=>h.okI x (by simp only [bO] at hx |-;exact .inr hx)) (fun x hx=>hr.ft x (by simp only [bO] at hx |-;exact .inr hx)) h2
   omega
theorem Ba:∀{b:LL},(∀x∈b.dropLast,2<=x.2.1.length)->b≠[]->2 * (b.length - 1)<=(aK b).length
 | [],_,h=>absurd rfl h
 | [x],_,_=>by simp
 | x::y::t,hf,_=>by
  have ih:=Ba (b:=y::t) (fun z hz=>hf z (by rw [mZ (by simp)];simp [hz])) (by simp)
  have h1:=hf x (by rw [mZ (by simp)];simp)
  obtain ⟨p,prs,hh⟩:=x
  rw [iv,cO]
  simp only [cG] at ih |-
  simp only at h1
  omega
theorem L9:∀{b:LL} {n:Int},cI okF b n->bc (aK b)<=231 * b.length
 | [],_,_=>by simp [aK,bc]
 |(p,prs,h)::b,n,hF=>by
  have ih:=L9 (b:=b) hF.2
  obtain ⟨o,_,_⟩:=pd (show cJ ⟨prs,h,be b n⟩=true from hF.1)
  have:=o.wt
  rw [iv,wQ,cG]
  omega
theorem OU:Rs [] [(0,[],[])]:=⟨fun l hl=>(nomatch hl),fun x hx=>(nomatch hx),fun x hx=>by rw [eV.1 hx];simp,fun x hx=>by simp [aK] at hx⟩
theorem IN {n:Nat} {r:Int} {es:Es} {ups:List IL} {b:LL} (h:WF n r es ups b) (h0:aK b=[]):ups=[]/\b=[(r,[],[])]/\es.length=1/\aO es=[r]:=by
 have hb:=qt h.dn h.okI (by simp)
 have hu:ups=[]:=by
  by_cases hu:ups=[]
  ·exact hu
  ·obtain ⟨x,t,rfl⟩:=m5 hb
   have:=h.ne hu x (by simp)
   obtain ⟨p,prs,hh⟩:=x
   rw [iv] at h0
   exact absurd (pX.1 h0).1 this
 subst hu
 have e:=ji h.dn
 obtain ⟨x,t,rfl⟩:=m5 hb
 obtain ⟨p,prs,hh⟩:=x
 rw [bZ,di] at e
 obtain ⟨e1,e2⟩:=List.cons.inj e
 obtain ⟨rfl,rfl⟩:=Prod.mk.inj e1
 have ht:t=[]:=Jc.1 e2.symm
 subst ht
 have hp:prs=[]:=by rw [iv] at h0;exact (pX.1 h0).1
 subst hp
 have hk:aO es=[r]:=List.perm_singleton.1 (vW h.toWT)
 refine ⟨rfl,rfl,?_,hk⟩
 have:=congrArg oJ hk
 simpa [aO] using this
theorem GH {n:Nat} {r:Int} {es:Es} {ups:List IL} {b:LL} (h:WT n r es ups b):es.length=(ups.flatMap bU).length+b.length:=by
 have:=(vW h).length_eq
 rw [fk,cO] at this
 simpa [aO,bU] using this
theorem M4 {n:Nat} {r:Int} {es:Es} {ups:List IL} {b:LL} (h:WF n r es ups b):b.length<=1∨b.length<=(aK b).length:=by
 by_cases hu:ups=[]
 ·left
  subst hu
  have:=sQ h.dn
  simp at this
  omega
 ·right
  have key:∀(l:LL),(∀x∈l,x.2.1≠[])->l.length<=(aK l).length:=by
   intro l
   induction l with
   | nil=>exact fun _=>bK _
   | cons x l ih =>
    intro hd
    have:=ih fun y hy=>hd y (by simp [hy])
    have h1:=iM.2 (hd x (by simp))
    obtain ⟨p,prs,hh⟩:=x
    rw [iv,cO,cG]
    simp only at h1
    omega
  exact key b (h.ne hu)
theorem KB:∀{d:List IL} {s:Su} {b:LL},Dn s d b->(∀l∈d,cI okI l 0)->s.length<=b.length
 | [],s,b,h,_=>by rw [sQ h];exact bK _
 | l::d,s,b,h,hI=>by
  have hl:=vk h
  obtain ⟨e,hk⟩:=ff h
  have ih:=KB hk fun x hx=>hI x (by simp [hx])
  have hne:=gU (hI _ (cz ..))
  have key:∀(l:IL),(∀x∈l,x.2≠[])->l.length<=(bf l).length:=by
   intro l
   induction l with
   | nil=>exact fun _=>bK _
   | cons x l ih =>
    intro hd
    have:=ih fun y hy=>hd y (by simp [hy])
    have h1:=iM.2 (hd x (by simp))
    rw [bf,fT,cO,cG]
    rw [bf] at this
    omega
  have:=key l hne
  omega
theorem YS {n:Nat} {r:Int} {es:Es} {ups:List IL} {b:LL} (h:WF n r es ups b) (hp:(aK b).length<=1):ups=[]/\es.length=1:=by
 have h1:=M4 h
 have hb:=iM.2 (qt h.dn h.okI (by simp))
 have hu:ups=[]:=by
  cases ups with
  | nil=>rfl
  | cons l d =>
   obtain ⟨r1,r2⟩:=Ck h
   have:=KB (ff h.dn).2 fun x hx=>h.okI x (by simp [hx])
   omega
 subst hu
 have:=GH h.toWT
 simp at this
 exact ⟨rfl,by omega⟩
theorem rs1 (r:Int):Rs [] [(r,[],[])]:=⟨fun l hl=>(nomatch hl),fun x hx=>(nomatch hx),fun x hx=>by rw [eV.1 hx];simp,fun x hx=>by simp [aK] at hx⟩
def gH (m:Nat):Bs:=[UInt8.ofNat (97+m)]
def jL:Bs:=(dI 31).map fun i=>UInt8.ofNat (48+i % 10)
def kK (m:Nat):List Pr:=(dI m).map fun i=>(gH i,jL)
theorem Gm:∀m,m < 26->(∀x∈kK m,lt x.1 (gH m)=true)/\cd (kK m) (gH m) jL=kK (m+1)/\b9 (aW (kK m)) (gH m)=false/\bq (gH m)=true/\bc (kK (m+1))=34 * (m+1):=by decide +kernel
theorem Yd:∀m,m < 26->d6 (gH m) ((kK 26).drop m)=(kK 26).drop (m+1)/\b9 (aW ((kK 26).drop m)) (gH m)=true:=by decide +kernel
theorem Ye (m:Nat):bc [(gH m,jL)]=34/\(gH m).length=1/\dq jL=true:=⟨rfl,rfl,by decide +kernel⟩
structure Jf (r:Int) (es:Es) (ups:List IL) (b:LL) (L:List Pr):Prop where
 wf:WF 40 r es ups b
 rs:Rs ups b
 fl:aK b=L
 lo:∀q∈aO es,q < 30
theorem Jf.dep {r:Int} {es:Es} {ups:List IL} {b:LL} {L:List Pr} (h:Jf r es ups b L) (hL:L.length<=26):ups.length<=1/\es.length<=b.length+1/\b.length<=14:=by
 have hb:=qt h.wf.dn h.wf.okI (by simp)
 have h2:=Ba h.rs.f2 hb
 rw [h.fl] at h2
 obtain ⟨h3,h4⟩:=Kz h.wf h.rs (by omega)
 exact ⟨h3,h4,by omega⟩
theorem Mb {r:Int} {es:Es} {ups:List IL} {b:LL} {L:List Pr} (h:Jf r es ups b L) (hL:L.length<=25) {k v:Bs} (hk:bq k=true) (hv:dq v=true) (h1:∀x∈L,lt x.1 k=true) (h5:k.length<=5) (hw:bc [(k,v)]<=40) :
  ∃r' es' ups' b',Jf r' es' ups' b' (cd L k v)/\mf 40 r es k v (!b9 (aW L) k) 0 r' es':=by
 obtain ⟨d1,d2,d3⟩:=h.dep (by omega)
 obtain ⟨ok,e,r',es',ups',b',w1,w2,w3⟩:=tV h.wf k v
 rcases w3 with ⟨rfl,_,_,q1,q2,q3,_⟩ | ⟨_,_,_,_,_,q | q⟩
 ·rw [h.fl] at q1 q2
  subst q2
  have hrs:=q3 (by rw [h.fl];exact h1) h5 hw h.rs
  have hb':=qt w1.dn w1.okI (by simp)
  have hfl:(aK b').length<=26:=by rw [q1];have:=B8 L k v;omega
  have h2:=Ba hrs.f2 hb'
  obtain ⟨h3,h4⟩:=Kz w1 hrs (by omega)
  refine ⟨r',es',ups',b',⟨w1,hrs,q1,fun q hq=>?_⟩,w2⟩
  rcases (Ow w2).2 q hq with hq | hq
  ·exact h.lo q hq
  ·omega
 ·rw [hk,hv] at q;exact absurd q.2 (by decide)
 ·have:=q.2.2.2;omega
theorem LW {r:Int} {es:Es} {ups:List IL} {b:LL} {L:List Pr} (h:WF 40 r es ups b) (hf:aK b=L) (hl:∀q∈aO es,q < 30) {k:Bs} (hk:b9 (aW L) k=true) (hkk:bq k=true) :
  ∃r' es' ups' b',(WF 40 r' es' ups' b'/\aK b'=d6 k L/\∀q∈aO es',q < 30)/\pS 40 r es k 0 r' es':=by
 obtain ⟨e,r',es',ups',b',w1,w2,w3⟩:=vi h k
 rcases w3 with ⟨rfl,_,_,q⟩ | ⟨_,_,_,_,q | q⟩
 ·rw [hf] at q
  exact ⟨r',es',ups',b',⟨w1,q,fun q hq=>hl q (Tq w2 q hq)⟩,w2⟩
 ·rw [hkk] at q;exact absurd q.2 (by decide)
 ·rw [hf,hk] at q;exact absurd q.2.2 (by decide)
theorem MR:∀{l:IL},(∀x∈l,6<=x.2.length)->6 * l.length<=(bf l).length
 | [],_=>bK _
 | x::t,h=>by
  have ih:=MR (l:=t) fun z hz=>h z (by simp [hz])
  have:=h x (by simp)
  rw [bf,fT,cO,cG]
  rw [bf] at ih
  omega
theorem L3:∀{d:List IL} {s:Su} {b:LL},Dn s d b->(∀l∈d,∀x∈l,6<=x.2.length)->5 * (d.flatMap bU).length+s.length<=b.length
 | [],s,b,h,_=>by rw [sQ h];simp
 | l::d,s,b,h,hF=>by
  have hl:=vk h
  obtain ⟨e,hk⟩:=ff h
  have h6:=MR (hF _ (cz ..))
  have ih:=L3 hk fun x hx=>hF x (by simp [hx])
  rw [fT,cO,bU,dh]
  omega
theorem XU {n:Nat} {r:Int} {es:Es} {ups:List IL} {b:LL} (h:WT n r es ups b):ups.length<=(ups.flatMap bU).length:=by
 have key:∀(d:List IL),(∀l∈d,l≠[])->d.length<=(d.flatMap bU).length:=by
  intro d
  induction d with
  | nil=>exact fun _=>bK _
  | cons l d ih =>
   intro hd
   have:=ih fun x hx=>hd x (by simp [hx])
   have h1:=iM.2 (hd l (by simp))
   rw [fT,cO,bU,dh,cG]
   omega
 exact key _ (Ev h.dn h.okI (by simp))
theorem ab5 {n:Nat} {r:Int} {es:Es} {ups:List IL} {b:LL} (h:WF n r es ups b) (hk:Fk ups.reverse) (hp:(aK b).length<=100):es.length<=120/\ups.length<=20:=by
 have h1:=GH h.toWT
 have h2:=XU h.toWT
 have h3:=M4 h
 cases ups with
 | nil=>simp at h1 |-;omega
 | cons l d =>
  obtain ⟨r1,r2⟩:=Ck h
  have hF:∀l'∈d,∀x∈l',6<=x.2.length:=fun l' hl'=>hk l' (by rw [md,se];exact List.mem_reverse.2 hl')
  have h4:=L3 (ff h.dn).2 hF
  rw [fT,cO,bU,dh] at h1 h2
  omega
theorem ab6 {n:Nat} {r:Int} {es:Es} {ups:List IL} {b:LL} (h:WF n r es ups b) (hr:Rs ups b) (hb:b.length<=61):es.length<=2 * b.length/\ups.length<=2:=by
 have h1:=GH h.toWT
 have hb0:=iM.2 (qt h.dn h.okI (by simp))
 cases ups with
 | nil=>simp at h1 |-;omega
 | cons l d =>
  obtain ⟨r1,r2⟩:=Ck h
  have hk:=(ff h.dn).2
  cases d with
  | nil =>
   have:=sQ hk
   rw [fT,cO,bU,dh] at h1
   simp at h1 |-
   omega
  | cons l2 d =>
   have hI:∀l'∈l2::d,cI okI l' 0:=fun x hx=>h.okI x (iN _ hx)
   have hF:Ft (l2::d):=fun x hx=>hr.ft x (iN _ hx)
   have s1:=vk hk
   obtain ⟨e,hk2⟩:=ff hk
   have hne:=gU (hI _ (cz ..))
   have hl2:l2≠[]:=by rintro rfl;rw [dR] at s1;omega
   have hkl:=yj hne (hF _ (cz ..)) hl2
   cases d with
   | nil =>
    have:=sQ hk2
    rw [fT,fT,cO,cO,bU,bU,dh,dh] at h1
    simp at h1 |-
    omega
   | cons l3 d =>
    have hI3:∀l'∈l3::d,cI okI l' 0:=fun x hx=>hI x (iN _ hx)
    have hF3:Ft (l3::d):=fun x hx=>hF x (iN _ hx)
    have s2:=vk hk2
    obtain ⟨e3,hk3⟩:=ff hk2
    have hne3:=gU (hI3 _ (cz ..))
    have hl3:l3≠[]:=by rintro rfl;rw [dR] at s2;omega
    have hkl3:=yj hne3 (hF3 _ (cz ..)) hl3
    have:=(Et hk3 (fun x hx=>hI3 x (by simp [hx])) (fun x hx=>hF3 x (by simp [hx])) (yk hl3 hne3)).1
    omega
theorem XR {n:Nat} {r:Int} {es:Es} {ups:List IL} {b:LL} (h:WF n r es ups b) (hr:Rs ups b):b.length<=1+(aK b).length / 2:=by
 have hb:=qt h.dn h.okI (by simp)
 have:=Ba hr.f2 hb
 omega
def z8 (a:Bool) (b:Int) (c:Bool) (d:Int) (e:List UInt8) (f g h i j k l m:Int) (n:List (V × V)) (o:List V): S:=⟨[V.bool false,V.ptr 0 0 0,V.junk,V.ptr 1 0 0,V.junk,V.bool a,V.int .i64 b,V.bool c,V.int .i64 d,V.str e,V.int .i64 f,V.int .i64 g,V.junk,V.int .i64 h,V.junk,V.int .i64 i,V.int .i64 j,V.str [48,49,50,51,52,53,54,55,56,57,48,49,50,51,52,53,54,55,56,57,48,49,50,51,52,53,54,55,56,57,48],V.int .u8 k]++(JU 187),(wm l m n o)⟩
def Aa (a:Bool) (b:Int) (c:Bool) (d:Int) (e:List UInt8) (f g h i j k l m:Int) (n:List V) (o p q:Int) (r:List (V × V)) (s:List V): S:=⟨[V.bool false,V.ptr 0 0 0,V.junk,V.ptr 1 0 0,V.junk,V.bool a,V.int .i64 b,V.bool c,V.int .i64 d,V.str e,V.int .i64 f,V.int .i64 g,V.junk,V.int .i64 h,V.junk,V.int .i64 i,V.int .i64 j,V.str [48,49,50,51,52,53,54,55,56,57,48,49,50,51,52,53,54,55,56,57,48,49,50,51,52,53,54,55,56,57,48],V.junk,V.junk,V.junk,V.int .i64 k,V.int .i64 l,V.int .i64 m,V.sl n,V.int .u8 o]++(JU 180),(wm p q r s)⟩
noncomputable def Ld: R :=
 gd (decide (0<=W .i64 (((47:Int).tdiv 8)))) <|
 gd (decide (W .i64 (((47:Int).tdiv 8))<=W .i64 (((47:Int).tdiv 8)))) <|
 gd (decide ((W .i64 (((47:Int).tdiv 8))).toNat<=16777216)) <|
 aT aA aF jO 84 [V.ptr 0 0 0] [O.box 140 (V.agg [V.ptr 1 0 0,V.mp 2]) false,O.box 192 (V.agg [V.tail 3 0,V.int .i64 40]) false,O.map [],O.row 5 (bH ((W .i64 (((47:Int).tdiv 8))).toNat) (V.int .u8 0)) 0] fun c =>
 cond (c.2.1 != (0:Int))
 (some (.done (V.bool false)))
 (aT aA aF ej 78 [V.ptr 0 0 0,V.int .i64 c.1,V.ifc 120 (V.agg [V.sl [],V.str [],V.int .i64 0])] (tm c.1 c.2.2.1 c.2.2.2.1 c.2.2.2.2) fun g =>
  aT aA aF iG 32 [V.ptr 0 0 0,V.str [97],V.str [120]] (tm g.1 g.2.1 g.2.2.1 g.2.2.2) fun d =>
  aT aA aF iG 32 [V.ptr 0 0 0,V.str [97],V.str [121]] (tm d.2.2.1 d.2.2.2.1 d.2.2.2.2.1 d.2.2.2.2.2) fun a =>
  cf aA aF iI 39 [V.ptr 0 0 0,V.str [97]] (tm a.2.2.1 a.2.2.2.1 a.2.2.2.2.1 a.2.2.2.2.2) fun h =>
  bu [O.row 5 a.2.2.2.2.2 0,O.box 192 (V.agg [V.tail 0 0,V.int .i64 a.2.2.2.1]) true,O.map a.2.2.2.2.1,O.box 140 (V.agg [V.ptr 1 0 0,V.mp 2]) false,O.box 128 (V.agg [V.ptr 3 0 0,V.int .i64 a.2.2.1]) false] <|
  aT aA aF iZ 33 [V.ptr 0 0 0,V.str [97]] (tm a.2.2.1 a.2.2.2.1 a.2.2.2.2.1 a.2.2.2.2.2) fun b =>
  cf aA aF iI 39 [V.ptr 0 0 0,V.str [97]] (tm b.2.1 b.2.2.1 b.2.2.2.1 b.2.2.2.2) fun i =>
  bu [O.row 5 b.2.2.2.2 0,O.box 192 (V.agg [V.tail 0 0,V.int .i64 b.2.2.1]) true,O.map b.2.2.2.1,O.box 140 (V.agg [V.ptr 1 0 0,V.mp 2]) false,O.box 128 (V.agg [V.ptr 3 0 0,V.int .i64 b.2.1]) false] <|
  aT aA aF iG 32 [V.ptr 0 0 0,V.str [],V.str [120]] (tm b.2.1 b.2.2.1 b.2.2.2.1 b.2.2.2.2) fun e =>
  aT aA aF iZ 33 [V.ptr 0 0 0,V.str [97]] (tm e.2.2.1 e.2.2.2.1 e.2.2.2.2.1 e.2.2.2.2.2) fun f =>
  some (.head 0 (z8 d.1 d.2.1 a.1 a.2.1 h.1 h.2 b.1 i.2 e.2.1 f.1 97 f.2.1 f.2.2.1 f.2.2.2.1 f.2.2.2.2)))
theorem UZ: Ep 45 [] (Ld ):=ep (by kernel_rfl) (by kernel_rfl)
noncomputable def HR (g:Bool) (h:Int) (i:Bool) (j:Int) (k:List UInt8) (l m n o p f a b:Int) (c:List (V × V)) (d:List V): R :=
 cond (decide (f<=122))
 (aT aA aF iG 32 [V.ptr 0 0 0,V.str [UInt8.ofNat f.toNat],V.str [48,49,50,51,52,53,54,55,56,57,48,49,50,51,52,53,54,55,56,57,48,49,50,51,52,53,54,55,56,57,48]] (tm a b c d) fun e =>
  cond (e.2.1 != (0:Int))
 (some (.done (V.bool false)))
 (some (.head 0 (z8 g h i j k l m n o p (W .u8 (f+1)) e.2.2.1 e.2.2.2.1 e.2.2.2.2.1 e.2.2.2.2.2))))
 (cf aA aF kj 43 [V.ptr 0 0 0] (tm a b c d) fun q =>
  bu (wm a b c d) <|
  cf aA aF l7 46 [V.ptr 0 0 0] (tm a b c d) fun r =>
  bu (wm a b c d) <|
  cf aA aF js 40 [V.ptr 0 0 0] (tm a b c d) fun s =>
  bu (wm a b c d) <|
  cf aA aF iH 34 [V.ptr 0 0 0,V.str [120],V.int .i64 9] (tm a b c d) fun t =>
  bu (wm a b c d) <|
  some (.head 1 (Aa g h i j k l m n o p q (r.length:Int) s t 97 a b c d)))
theorem PG (a b c d e f g h i j k l m n o): Rd false 0 45 0 (z8 a b c d e f g h i j k l m n o) (HR a b c d e f g h i j k l m n o):=rd (by kernel_rfl)
noncomputable def HS (h:Bool) (i:Int) (j:Bool) (k:Int) (l:List UInt8) (m n o p q r s t:Int) (f:List V) (g d a:Int) (b:List (V × V)) (c:List V): R :=
 cond (decide (g<=122))
 (aT aA aF iZ 33 [V.ptr 0 0 0,V.str [UInt8.ofNat g.toNat]] (tm d a b c) fun e =>
  cond (e.1 != (0:Int))
 (some (.done (V.bool false)))
 (some (.head 1 (Aa h i j k l m n o p q r s t f (W .u8 (g+1)) e.2.1 e.2.2.1 e.2.2.2.1 e.2.2.2.2))))
 (cond h
 (cond (i==(0:Int))
 (cond (!j)
 (cond (k==(0:Int))
 (cond (l==[121])
 (cond (m==(0:Int))
 (cond (n==(0:Int))
 (cond (o==(7:Int))
 (cond (p==(1:Int))
 (cond (q==(7:Int))
 (cond (r==(1:Int))
 (cond (decide (s > 3))
 (cond (t==(0:Int))
 (cond ((f.length:Int)==(3:Int))
 (aS f 0 fun u =>
  dE u fun v ad =>
  cond (v==[120])
 (aS f 0 fun w =>
  dE w fun ae x =>
  cond (x==[48,49,50,51,52,53,54,55,56,57,48,49,50,51,52,53,54,55,56,57,48,49,50,51,52,53,54,55,56,57,48])
 (cf aA aF kj 43 [V.ptr 0 0 0] (tm d a b c) fun y =>
  bu (wm d a b c) <|
  cond (y==(0:Int))
 (cf aA aF jN 42 [V.ptr 0 0 0] (tm d a b c) fun z =>
  bu (wm d a b c) <|
  cond ((z.length:Int)==(1:Int))
 (cf aA aF mI 44 [V.ptr 0 0 0] (sm a b c) fun aa =>
  bu (wm d a b c) <|
  cond (aa==(39:Int))
 (cf aA aF js 40 [V.ptr 0 0 0] (tm d a b c) fun ab =>
  bu (wm d a b c) <|
  cond (ab==(0:Int))
 (cf aA aF js 40 [V.ptr 0 0 0] (tm 39 a b c) fun ac =>
  bu (wm d a b c++[O.box 128 (V.agg [V.ptr 0 0 0,V.int .i64 39]) false]) <|
  some (.done (V.bool (ac==(4:Int)))))
 (some (.done (V.bool false))))
 (some (.done (V.bool false))))
 (some (.done (V.bool false))))
 (some (.done (V.bool false))))
 (some (.done (V.bool false))))
 (some (.done (V.bool false))))
 (some (.done (V.bool false))))
 (some (.done (V.bool false))))
 (some (.done (V.bool false))))
 (some (.done (V.bool false))))
 (some (.done (V.bool false))))
 (some (.done (V.bool false))))
 (some (.done (V.bool false))))
 (some (.done (V.bool false))))
 (some (.done (V.bool false))))
 (some (.done (V.bool false))))
 (some (.done (V.bool false))))
 (some (.done (V.bool false))))
 (some (.done (V.bool false))))
 (some (.done (V.bool false))))
theorem PH (a b c d e f g h i j k l m n o p q r s): Rd false 0 45 1 (Aa a b c d e f g h i j k l m n o p q r s) (HS a b c d e f g h i j k l m n o p q r s):=rd (by kernel_rfl)
theorem SN {n:Nat} {r:Int} {es:Es} (h:cx n es) (h0:0<=r) (h1:r < (n:Int)) (hr:r∉aO es):bT aA aF 40 [.ptr 0 0 0] (tM r n es)=some (js (tM r n es) 4):=by
 have hm:eU (aZ es) (.int .i64 r)=some none:=by rw [Gr,vz.2 hr];rfl
 have hread:bT aA aF 58 [.ptr 0 0 0,.int .i64 r] (sM n es)=some (mJ (sM n es) ([],7)):=by
  refine Li _ _ _ _ (o:=.doneM (.tup [.str [],.int .i64 7]) (sM n es)) ?_ (.done (by kernel_rfl))
  unfold E4 lp
  rw [decide_eq_false (by omega),cond_false,decide_eq_false (by omega),cond_false,hm]
 have hrt:bT aA aF 82 [.ptr 0 0 0,.int .i64 r] (tM r n es)=some (f0 (tM r n es) ()):=by
  refine Fb _ _ _ _ _ (o:=.doneM .nilI (tM r n es)) ?_ (.done (by kernel_rfl))
  unfold AV
  rw [bR tI hread,bz,jm (by decide),cond_true]
 have hl:bT aA xE 85 [.ptr 0 0 0,.ptr 1 0 0,.int .i64 r,.str [],.str []] (lM r n es [] [] [])=some (nU (0,false,r,dA [r],(n:Int),aZ es,aR n (aM es),[],[])):=by
  have hs0:t8 r [] [] r (dA []) (aC []) (bd []) (n:Int) (aZ es) (aR n (aM es))=some (.doneM (.tup [.int .i64 0,.bool false]) (lm r (dA [r]) [] [] (n:Int) (aZ es) (aR n (aM es)))):=by
   unfold t8
   rw [BO (sn:=[]) (by simp),gw,bR tI hread,bz,WU (YA _) (YB _) (YC _) hrt,bz]
   rfl
  refine Fc _ _ _ _ _ _ _ _ _ _ (o:=.head 0 (uV r [] [] r (dA []) (aC []) (bd []) (n:Int) (aZ es) (aR n (aM es)))) ?_ ⟨_,_,HY _ _ _ _ _ _ _ _ _ _ hs0 (.refl _),by kernel_rfl⟩
  unfold AW lp
  rw [BM (sn:=[]) (by simp)]
 refine La _ _ _ _ (o:=.head 0 (sA false (0:Int) (0:Int) r (n:Int) (aZ es) (aR n (aM es)) [])) ?_ ⟨_,_,HN _ _ _ _ _ _ _ _ (o:=.doneM (.int .i64 4) (tM r n es++[O.row 3 [] 0])) ?_ (.refl _),by kernel_rfl⟩
 ·unfold EZ
  have h5:bT aA xE 85 [.ptr 0 0 0,.ptr 1 0 0,.int .i64 r,.str [],.str []] (lm r [] [] [] (n:Int) (aZ es) (aR n (aM es)))=_:=hl
  rw [bW BN h5]
  rfl
 ·unfold Cy
  rfl
theorem Wb {r:Int} {es:Es} {ups:List IL} {b:LL} {L:List Pr} (h:Jf r es ups b L) (hL:L.length<=25) {k v:Bs} (hk:bq k=true) (hv:dq v=true) (h1:(cd L k v).length<=1) :
  ∃r' es' ups' b',(WF 40 r' es' ups' b'/\aK b'=cd L k v/\∀q∈aO es',q < 30)/\mf 40 r es k v (!b9 (aW L) k) 0 r' es':=by
 obtain ⟨d1,d2,d3⟩:=h.dep (by omega)
 obtain ⟨ok,e,r',es',ups',b',w1,w2,w3⟩:=tV h.wf k v
 rcases w3 with ⟨rfl,_,_,q1,q2,q3,_⟩ | ⟨_,_,_,_,_,q | q⟩
 ·rw [h.fl] at q1 q2
  subst q2
  have:=(YS w1 (by rw [q1];exact h1)).2
  refine ⟨r',es',ups',b',⟨w1,q1,fun q hq=>?_⟩,w2⟩
  rcases (Ow w2).2 q hq with hq | hq
  ·exact h.lo q hq
  ·omega
 ·rw [hk,hv] at q;exact absurd q.2 (by decide)
 ·have:=q.2.2.2;omega
theorem Nh:jL=[48,49,50,51,52,53,54,55,56,57,48,49,50,51,52,53,54,55,56,57,48,49,50,51,52,53,54,55,56,57,48]:=by decide +kernel
theorem QL (m:Nat) (hm:m < 26):([UInt8.ofNat (((97+m:Nat):Int)).toNat]:Bs)=gH m:=by rw [aY];rfl
theorem Me:∀(d m:Nat),m+d=26->∀(r:Int) (es:Es) (ups:List IL) (b:LL),WF 40 r es ups b->aK b=(kK 26).drop m->(∀q∈aO es,q < 30)->∀(lv:Nat),3 < lv ->
  Go qk false 0 (fF 45) (.head 1 (Aa true 0 false 0 [121] 0 0 7 1 7 1 (lv:Int) 0 (aN [(gH 23,jL),(gH 24,jL),(gH 25,jL)]) ((97+m:Nat):Int) r ((40:Nat):Int) (aZ es) (aR 40 (aM es)))) (.done (.bool true))
 | 0,m,hm,r,es,ups,b,h,hf,hl,lv,hlv=>by
  obtain rfl:m=26:=by omega
  have h0:aK b=[]:=hf.trans (by decide +kernel)
  obtain ⟨rfl,rfl,e1,e2⟩:=IN h h0
  have hd:=vj h.toWT
  have hp:=tQ h.toWT
  have hfr:=xV h.shf
  have hc:=sK h
  have hr30:r < 30:=hl r (by rw [e2];simp)
  have hn:=SN (r:=39) h.shf (by omega) (by omega) (by rw [e2];simp;omega)
  have htl:=pJ h.shf
  refine PH _ _ _ _ _ _ _ _ _ _ _ _ _ _ _ _ _ _ _ ?_ (.refl _)
  unfold HS
  have i0:(aN [(gH 23,jL),(gH 24,jL),(gH 25,jL)])[0]? = some (.agg [.str (gH 23),.str jL]):=rfl
  rw [decide_eq_false (by omega),cond_false]
  simp only [beq_self_eq_true,cond_true,gi]
  rw [decide_eq_true (by omega),cond_true,cN (by rw [cL];rfl),cond_true,
   cQ i0,eo,show (gH 23==[120])=true from rfl,cond_true,cQ i0,eo,<-Nh,beq_self_eq_true,cond_true,
   bR tH hd,bz,cN (by simp),cond_true,bR qX hp,bz,cN (by rw [co,htl,e1];rfl),cond_true,bR yu hfr,bz,cN (by rw [e1];rfl),cond_true,
   bR qW hc,bz,cN rfl,cond_true,bR qW hn,bz]
  rfl
 | d+1,m,hm,r,es,ups,b,h,hf,hl,lv,hlv=>by
  have hm26:m < 26:=by omega
  obtain ⟨l1,l2⟩:=Yd m hm26
  obtain ⟨r',es',ups',b',⟨w1,w2,w3⟩,w4⟩:=LW h hf hl l2 (Gm m hm26).2.2.2.1
  rw [l1] at w2
  have w:W .u8 (((97+m:Nat):Int)+1)=((97+(m+1):Nat):Int):=by
   have:((97+m:Nat):Int)+1=((97+(m+1):Nat):Int):=by omega
   rw [this]
   unfold W
   have:∀j,j < 27->IntKind.u8.wrap ((97+j:Nat):Int)=((97+j:Nat):Int):=by decide +kernel
   exact this _ (by omega)
  refine PH _ _ _ _ _ _ _ _ _ _ _ _ _ _ _ _ _ _ _ ?_ (Me d (m+1) (by omega) r' es' ups' b' w1 w2 w3 lv hlv)
  unfold HS
  rw [decide_eq_true (by omega),cond_true,QL m hm26,bW tG (sP w4),de rfl,cond_false,w]
theorem Mf:∀(d m:Nat),m+d=26->∀(r:Int) (es:Es) (ups:List IL) (b:LL),Jf r es ups b (kK m) ->
  Go qk false 0 (fF 45) (.head 0 (z8 true 0 false 0 [121] 0 0 7 1 7 ((97+m:Nat):Int) r ((40:Nat):Int) (aZ es) (aR 40 (aM es)))) (.done (.bool true))
 | 0,m,hm,r,es,ups,b,h=>by
  obtain rfl:m=26:=by omega
  obtain ⟨d1,d2,d3⟩:=h.dep (by decide)
  have hw:=L9 h.wf.okF
  rw [h.fl,(Gm 25 (by omega)).2.2.2.2] at hw
  have hu:ups.length=1:=by
   cases ups with
   | nil=>have:=sQ h.wf.dn;simp at this;omega
   | cons x t=>simp at d1 |-;omega
  have hd:=vj h.wf.toWT
  rw [hu] at hd
  have hle:=BE h.wf.toWT
  have hc:=sK h.wf
  have hs:=rC h.wf.toWT [120] 9
  rw [h.fl,show gJ [120] 9 [] (kK 26)=[(gH 23,jL),(gH 24,jL),(gH 25,jL)] by decide +kernel] at hs
  have hb:(aC (bU b)).length=b.length:=by rw [co];simp [bU]
  have:=Me 26 0 rfl r es ups b h.wf h.fl h.lo b.length (by omega)
  refine PG _ _ _ _ _ _ _ _ _ _ _ _ _ _ _ ?_ this
  unfold HR
  rw [decide_eq_false (by omega),cond_false,bR tH hd,bz,bR yv hle,bz,bR qW hc,bz,bR nS hs,bz,hb]
  rfl
 | d+1,m,hm,r,es,ups,b,h=>by
  have hm26:m < 26:=by omega
  obtain ⟨l1,l2,l3,l4,l5⟩:=Gm m hm26
  obtain ⟨o1,o2,o3⟩:=Ye m
  obtain ⟨r',es',ups',b',w1,w2⟩:=Mb h (by simp [kK];omega) l4 o3 l1 (by omega) (by omega)
  rw [l2] at w1
  have w:W .u8 (((97+m:Nat):Int)+1)=((97+(m+1):Nat):Int):=by
   have:((97+m:Nat):Int)+1=((97+(m+1):Nat):Int):=by omega
   rw [this]
   unfold W
   have:∀j,j < 27->IntKind.u8.wrap ((97+j:Nat):Int)=((97+j:Nat):Int):=by decide +kernel
   exact this _ (by omega)
  refine PG _ _ _ _ _ _ _ _ _ _ _ _ _ _ _ ?_ (Mf d (m+1) (by omega) r' es' ups' b' w1)
  unfold HR
  rw [decide_eq_true (by omega),cond_true,QL m hm26,<-Nh,bW l6 (ma w2),de rfl,cond_false,w]
theorem vv:bo aA 45 []=some (.bool true):=by
 have h0:Jf 0 iu [] [(0,[],[])] []:=⟨zj (zm (by omega) (by omega)),OU,rfl,fun q hq=>by simp [iu,aO] at hq;omega⟩
 obtain ⟨r1,e1,u1,b1,j1,p1⟩:=Mb (k:=[97]) (v:=[120]) h0 (by simp) (by decide +kernel) (by decide +kernel) (fun x hx=>nomatch hx) (by simp) (by decide +kernel)
 rw [show cd [] [97] [120]=[(([97]:Bs),([120]:Bs))] by decide +kernel] at j1
 obtain ⟨r2,e2,u2,b2,⟨w2,f2,k2⟩,p2⟩:=Wb (k:=[97]) (v:=[121]) j1 (by simp) (by decide +kernel) (by decide +kernel) (by decide +kernel)
 rw [show cd [(([97]:Bs),([120]:Bs))] [97] [121]=[([97],[121])] by decide +kernel] at f2
 have g2:bT aA aF 39 [.ptr 0 0 0,.str [97]] (tM r2 40 e2)=some (iI (tM r2 40 e2) ([121],0)):=by
  obtain ⟨v,e,g,q | ⟨_,q | q⟩⟩:=Be w2.toWT [97]
  ·obtain ⟨rfl,_,hm⟩:=q
   rw [f2,eV] at hm
   obtain ⟨_,rfl⟩:=Prod.mk.inj hm
   exact g
  ·exact absurd q.2 (by decide)
  ·exact absurd rfl (q.2.2 ([97],[121]) (by rw [f2];simp))
 obtain ⟨r3,e3,u3,b3,⟨w3,f3,k3⟩,p3⟩:=LW (k:=[97]) w2 f2 k2 (by decide +kernel) (by decide +kernel)
 rw [show d6 [97] [(([97]:Bs),([121]:Bs))]=[] by decide +kernel] at f3
 have g3:bT aA aF 39 [.ptr 0 0 0,.str [97]] (tM r3 40 e3)=some (iI (tM r3 40 e3) ([],7)):=by
  obtain ⟨v,e,g,q | ⟨rfl,q | q⟩⟩:=Be w3.toWT [97]
  ·obtain ⟨rfl,_,hm⟩:=q
   rw [f3] at hm;cases hm
  ·exact absurd q.2 (by decide)
  ·obtain ⟨rfl,_⟩:=q;exact g
 have p4:=ma (n:=40) (r:=r3) (es:=e3) (k:=[]) (v:=[120]) (.arg (by decide +kernel))
 have p5:bT aA aF 33 [.ptr 0 0 0,.str [97]] (tM r3 40 e3)=some (iZ (7,r3,((40:Nat):Int),aZ e3,aR 40 (aM e3))):=by
  obtain ⟨e,r',es',ups',b',y1,y2,y3⟩:=vi w3 [97]
  rcases y3 with ⟨_,_,q,_⟩ | ⟨rfl,rfl,_,_,q | q⟩
  ·rw [f3] at q;exact absurd q (by decide +kernel)
  ·exact absurd q.2 (by decide)
  ·obtain ⟨rfl,_⟩:=q;exact sP y2
 have hend:Jf r3 e3 u3 b3 (kK 0):=by
  obtain ⟨rfl,rfl,_,_⟩:=IN w3 f3
  exact ⟨w3,rs1 _,f3,k3⟩
 have hT:=zg (n:=40) (by omega) (by omega)
 have hW:=zk (n:=40) (by omega) (by omega)
 refine UZ ?_ (Mf 26 0 rfl r3 e3 u3 b3 hend)
 unfold Ld
 rw [aB (by decide +kernel),aB (by decide +kernel),aB (by decide +kernel)]
 show (aT aA _ _ _ _ (nM 40) _)=_
 rw [bW pn hT,de rfl,cond_false]
 show (aT aA _ _ _ _ (tm 0 ((40:Nat):Int) (aZ [(0,[])]) (aR 40 (aM [(0,[])]))) _)=_
 rw [bW gI hW]
 show (aT aA _ _ _ _ (tM 0 40 iu) _)=_
 rw [bW l6 (ma p1)]
 show (aT aA _ _ _ _ (tM r1 40 e1) _)=_
 rw [bW l6 (ma p2)]
 show (cf aA _ _ _ _ (tM r2 40 e2) _)=_
 rw [bR vP g2,bz]
 show (aT aA _ _ _ _ (tM r2 40 e2) _)=_
 rw [bW tG (sP p3)]
 show (cf aA _ _ _ _ (tM r3 40 e3) _)=_
 rw [bR vP g3,bz]
 show (aT aA _ _ _ _ (tM r3 40 e3) _)=_
 rw [bW l6 p4]
 show (aT aA _ _ _ _ (tM r3 40 e3) _)=_
 rw [bW tG p5]
 rfl
theorem AD (n:Nat):(if 32 < (n:Int) then (32:Int) else (n:Int))=((min 32 n:Nat):Int):=by split<;>omega
theorem wf8 {m:Int} (h:(Lit.int .u8 m).wf=true):0<=m/\m < 256:=by
 simp only [Lit.wf,bD,decide_eq_true_eq,IntKind.min,IntKind.max,IntKind.signed,IntKind.bits] at h
 simp at h
 omega
theorem GU {n:Nat} {r:Int} {es:Es} {ups:List IL} {b:LL} {k v:Bs} {ok:Bool} {e r':Int} {es':Es} {ups':List IL} {b':LL} (h:Dy n r es ups b k v ok e r' es' ups' b'):(aK b').length<=(aK b).length+1:=by
 rcases h with ⟨_,_,_,h,_⟩ | ⟨_,_,_,_,h,_⟩
 ·rw [h];exact B8 _ _ _
 ·rw [h];omega
theorem El {n:Nat} {r:Int} {es:Es} {ups:List IL} {b:LL} {k:Bs} {e r':Int} {es':Es} {ups':List IL} {b':LL} (h:De n r es ups b k e r' es' ups' b'):(aK b').length<=(aK b).length:=by
 rcases h with ⟨_,_,_,h⟩ | ⟨_,_,_,h,_⟩
 ·rw [h];exact Jb _ _
 ·rw [h];omega
theorem CI (L:List Pr) (h:L.length<=1000):gJ [] 1000 [] L=L:=by
 have:=CH [] 1000 L [] (by simp)
 rw [show ((1000:Nat):Int)=1000 from rfl] at this
 rw [this,lc (p:=fun x:Pr=>!(lt x.1 [])) fun x _=>by rw [Nr];rfl]
 rw [dp,dR,Nat.sub_zero,kJ h]
theorem xT:∀{b:LL} {n:Int},cI okF b n->∀x∈aK b,bq x.1=true
 | [],_,_,_,hx=>nomatch hx
 |(p,prs,h)::b,n,hF,x,hx=>by
  rw [iv] at hx
  rcases br.1 hx with hx | hx
  ·exact ((pd (show cJ ⟨prs,h,be b n⟩=true from hF.1)).1.mem x hx).1
  ·exact xT (b:=b) hF.2 x hx
theorem aag {L:List Pr} (h:ij L) {k v w:Bs} (h1:(k,v)∈L) (h2:(k,w)∈L):v=w:=by
 induction L with
 | nil=>cases h1
 | cons x L ih =>
  obtain ⟨r1,r2⟩:=fV.1 h
  rcases bO.1 h1 with rfl | h1<;>rcases bO.1 h2 with e | h2
  ·exact (Prod.mk.inj e).2.symm
  ·have:=r1 _ h2;rw [gG] at this;cases this
  ·have:=r1 _ h1;rw [<-e,gG] at this;cases this
  ·exact ih r2 h1 h2
theorem Mh {n:Nat} {r:Int} {es:Es} {ups:List IL} {b:LL} (h:WT n r es ups b) {k v:Bs} (hm:(k,v)∈aK b) (hk:bq k=true):bT aA aF 39 [.ptr 0 0 0,.str k] (tM r n es)=some (iI (tM r n es) (v,0)):=by
 obtain ⟨w,e,g,q | ⟨_,q | q⟩⟩:=Be h k
 ·obtain ⟨rfl,_,hw⟩:=q
  rw [aag (jI h.ord h.okF) hm hw]
  exact g
 ·rw [hk] at q;exact absurd q.2 (by decide)
 ·exact absurd rfl (q.2.2 (k,v) hm)
theorem JF {P:Program} {w:World} {tx e:TypeId} {A:Option Addr} {c sz:Nat} (ht:P.underlying tx=some (.slice e)):iy P w tx (.slice A 0 c) sz 0 []:=by
 refine ⟨.inr ⟨e,ht⟩,fun w2=>rfl,by simp,fun n w2 hn _=>?_,by simp⟩
 have:n=0:=by omega
 subst this
 cases A<;>simp [Builtin.firstCells,loadCells,loadCellsFrom]
set_option maxHeartbeats 4000000 in
set_option maxRecDepth 100000 in
theorem Xi:Di Tryz.prog 212 225 100 9 3 .i64:=by
 have hce:Tryz.prog.cellsOf 9=1:=by kernel_rfl
 have mixed:Tryz.prog.follows .mixedOrders=true:=by kernel_rfl
 have t22:Tryz.prog.underlying 100=some (.slice 9):=by kernel_rfl
 refine ⟨t22,by kernel_rfl,by kernel_rfl,?_,?_,?_,?_⟩
 ·intro w g g2 o m c2 lb cb us us2 hne hg hg2 hus
  rw [run_callFunc_extern (P:=Tryz.prog) (f:=225) (fn:=Tryz.f225) (by kernel_rfl) (by kernel_rfl) (by kernel_rfl) (by kernel_rfl) (e:=Extern.SlicesOverlaps.overlaps #[100,100] #[4]) (by kernel_rfl),
   Lib.run_overlaps_apart w 100 4 9 t22 1 (fun w=>by kernel_rfl) ⟨g2,0,none⟩ ⟨g,o,none⟩ m c2 lb cb hne 9 9 us2.size us.size (by simp [World.shape?,hg2]) (by simp [World.shape?,hg]) (by omega) (by simp [World.frozen?,hg2]) (by simp [World.frozen?,hg2])]
  rfl
 ·intro g n c i g2 m c2 w w2 w3 k1 k2 hi hm hroom hc63 hov hcp1 hcp2
  rw [hce] at hcp1 hcp2
  simp only [kO] at hcp1 hcp2
  have hz1:¬((m:Int)=0):=by omega
  have hz2:¬((i:Int)=(n:Int)):=by omega
  have hw1:IntKind.i64.wrap ((i:Int)+(m:Int))=(i:Int)+(m:Int):=by rw [IntKind.wrap_i64];omega
  have hw2:IntKind.i64.wrap ((n:Int)+(m:Int))=(n:Int)+(m:Int):=by rw [IntKind.wrap_i64];omega
  have hb1:(0:Int)<=(i:Int)+(m:Int):=by omega
  have hin:i<=n:=by omega
  have htn:((i:Int)+(m:Int)).toNat=i+m:=by omega
  have hb2:¬(c=i+m):=by omega
  have hb3:(i:Int)<=(n:Int)+(m:Int):=by omega
  have hb4:¬(c=i):=by omega
  go_enter Tryz.func212,Tryz.ntmps212
  go_wp2_with (simp only [hov])
  go_region_law_o (refine step_copy_runI rfl _ _ 100 100 rfl _ _ (by simp [Act.eval,Act.put]) (by simp [Act.eval,Act.put]) (hcp1 _ _ _) ?_)
  go_wp2_with (at_builtin;refine wpList_copy_runI _ rfl _ _ 100 100 rfl _ _ rfl rfl (hcp2 _ _) ?_)
  go_ret
  exact ⟨rfl,rfl⟩
 ·intro A A2 n c m c2 w w1 r hm hnc hc63 hA0 hA1 hr
  have hz1:¬((m:Int)=0):=by omega
  cases A with
  | none =>
   obtain ⟨rfl,rfl⟩:=hA0 rfl
   go_enter Tryz.func212,Tryz.ntmps212
   go_wp2_with (at_builtin;refine Lib.wpList_append_run _ rfl _ _ _ _ rfl _ _ rfl rfl _ _ (hr _) ?_)
   all_goals (go_ret;exact ⟨rfl,rfl⟩)
  | some a =>
   obtain ⟨g,rfl⟩:=hA1 a rfl
   go_enter Tryz.func212,Tryz.ntmps212
   go_wp2_with (at_builtin;refine Lib.wpList_append_run _ rfl _ _ _ _ rfl _ _ rfl rfl _ _ (hr _) ?_)
   all_goals (go_ret;exact ⟨rfl,rfl⟩)
 ·intro g n c i g2 m c2 N G w w1 w2 w3 k1 k2 hi hm hnc hgr hlen hGn hG63 hap hcp1 hcp2
  rw [hce] at hcp1 hcp2
  simp only [kO] at hcp1 hcp2
  have hz1:¬((m:Int)=0):=by omega
  have hz2:¬((i:Int)=(n:Int)):=by omega
  have hz3:(c:Int) < (n:Int)+(m:Int):=by omega
  have hw1:IntKind.i64.wrap ((i:Int)+(m:Int))=(i:Int)+(m:Int):=by rw [IntKind.wrap_i64];omega
  have hw2:IntKind.i64.wrap ((n:Int)+(m:Int))=(n:Int)+(m:Int):=by rw [IntKind.wrap_i64];omega
  have hw3:IntKind.i64.wrap ((n:Int)+(m:Int) - (i:Int))=(n:Int)+(m:Int) - (i:Int):=by rw [IntKind.wrap_i64];omega
  have hb1:(0:Int)<=(i:Int)+(m:Int):=by omega
  have hin:i<=n:=by omega
  have htn:((i:Int)+(m:Int)).toNat=i+m:=by omega
  have hGi:¬(G=i):=by omega
  have hGim:¬(G=i+m):=by omega
  have hci:¬(c=i):=by omega
  have hb3:(i:Int)<=(n:Int):=by omega
  go_enter Tryz.func212,Tryz.ntmps212
  go_wp2_with (first
   |(at_builtin;refine Lib.wpList_append_run _ rfl _ _ _ _ rfl _ _ rfl rfl _ _ (hap _) ?_)
   |(at_builtin;refine wpList_copy_runI _ rfl _ _ 100 100 rfl _ _ rfl rfl (hcp1 _ _) ?_))
  go_region_law_o (refine step_copy_runI rfl _ _ 100 100 rfl (.slice (some ⟨N,(i+m),none⟩) (n+m - (i+m)) (G - (i+m))) (.slice (some ⟨g,i,none⟩) (n - i) (c - i)) (by simp [Act.eval,Act.put]) (by simp [Act.eval,Act.put]) (hcp2 3 (G - (i+m)) (c - i)) ?_)
  go_wp2
  go_ret
  exact ⟨rfl,rfl⟩
set_option maxHeartbeats 4000000 in
set_option maxRecDepth 100000 in
theorem Ts:Df Tryz.prog 170 100 9:=by
 have hce:Tryz.prog.cellsOf 9=1:=by kernel_rfl
 have mixed:Tryz.prog.follows .mixedOrders=true:=by kernel_rfl
 have t22:Tryz.prog.underlying 100=some (.slice 9):=by kernel_rfl
 refine ⟨t22,by kernel_rfl,?_,?_,?_⟩
 ·intro i z hi hz
  have h1:(Tryz.prog.info? 9).bind (·.zero)=some (.string "".toUTF8):=by kernel_rfl
  rw [hi] at h1
  simp only [aL,hz,Option.some.injEq] at h1
  subst h1
  intro v hv
  simp [Value.cells] at hv
  subst hv;rfl
 ·intro A n c i w hin hnc hc63 hA0 hA1
  cases A with
  | none =>
   obtain ⟨rfl,rfl⟩:=hA0 rfl
   have:i=0:=by omega
   subst this
   go_enter Tryz.func170,Tryz.ntmps170
   go_wp2
   all_goals (go_ret;exact ⟨rfl,rfl⟩)
  | some a =>
   obtain ⟨g,q,rfl⟩:=hA1 a rfl
   go_enter Tryz.func170,Tryz.ntmps170
   go_wp2
   all_goals (go_ret;exact ⟨rfl,rfl⟩)
 ·intro g q n c i jj w w2 w3 k hij hjn hnc hc63 hap hcl
  rw [hce] at hap hcl
  simp only [kO] at hap hcl
  have hz1:¬((i:Int)=(jj:Int)):=by omega
  have hin:i<=n:=by omega
  have hij':i<=jj:=by omega
  have hb1:¬(c=i):=by omega
  have hb2:i+(n - jj)<=n:=by omega
  have hb3:¬(c=i+(n - jj)):=by omega
  have hic:i<=c:=by omega
  have hjc':jj<=c:=by omega
  have hbc:i+(n - jj)<=c:=by omega
  have hnij:(i:Int)+((n - jj:Nat):Int)<=(n:Int):=by omega
  by_cases hjc:c=jj
  ·have hn:n=jj:=by omega
   subst hn
   subst hjc
   have hap':=fun ty=>hap ty (some ⟨g,q,none⟩) 0 (fun h=>absurd h (by omega))
   simp only [jB,d0] at hap' hcl |-
   go_enter Tryz.func170,Tryz.ntmps170
   go_wp2
   go_region_law_o (refine CU rfl _ _ 100 100 rfl (.slice (some ⟨g,q,none⟩) i c) (.slice (some ⟨g,q,none⟩) 0 0) (by simp [Act.eval,Act.put]) (by simp [Act.eval,Act.put]) (hap' 100) ?_)
   go_wp2
   go_ret
   exact ⟨rfl,rfl⟩
  ·go_enter Tryz.func170,Tryz.ntmps170
   go_wp2
   go_region_law_o (refine CU rfl _ _ 100 100 rfl (.slice (some ⟨g,q,none⟩) i c) (.slice (some ⟨g,q+jj,none⟩) (n - jj) (c - jj)) (by simp [Act.eval,Act.put]) (by simp [Act.eval,Act.put]) (hap 100 (some ⟨g,q+jj,none⟩) (c - jj) (fun _=>rfl)) ?_)
   go_wp2
   go_ret
   exact ⟨rfl,rfl⟩
set_option maxHeartbeats 4000000 in
set_option maxRecDepth 100000 in
theorem SS:Dc Tryz.prog 171 100 9:=by
 have hce:Tryz.prog.cellsOf 9=1:=by kernel_rfl
 have mixed:Tryz.prog.follows .mixedOrders=true:=by kernel_rfl
 have t22:Tryz.prog.underlying 100=some (.slice 9):=by kernel_rfl
 have q22:∀(w:World) (a:Option Addr) (n c n' c':Nat),(binOp .eql 100 (.slice a n c) (.slice none n' c')).run Tryz.prog w = .ok (.bool a.isNone) w:=fun w a n c n' c'=>Lib.run_eql_slice_nil w _ _ a n c n' c' t22
 refine ⟨t22,by kernel_rfl,?_,?_,?_⟩
 ·intro n c w
  go_enter Tryz.func171,Tryz.ntmps171
  go_wp2
  go_ret
  exact ⟨rfl,rfl⟩
 ·intro g b n c w w2 r hr
  go_enter Tryz.func171,Tryz.ntmps171
  go_wp2_with (at_builtin;refine Lib.wpList_append_run _ rfl _ _ _ _ rfl _ _ rfl rfl _ _ (hr _) ?_)
  go_ret
  exact ⟨rfl,rfl⟩
 ·intro a c w
  obtain ⟨ab,ao,asp⟩:=a
  have hr:∀(ty:TypeId) (w:World),(Builtin.append_ #[100,100] ty #[.slice (some ⟨w.heap.size,0,none⟩) 0 0,.slice (some ⟨ab,ao,asp⟩) 0 c]).run Tryz.prog (w.alloc (.cells #[] 9)) = .ok (.slice (some ⟨w.heap.size,0,none⟩) 0 0) (w.alloc (.cells #[] 9)):=fun ty w=>yR t22 (by rw [hce];decide) (JF t22) (bK _)
  go_enter Tryz.func171,Tryz.ntmps171
  go_wp2_with (at_builtin;refine Lib.wpList_append_run _ rfl _ _ _ _ rfl _ _ rfl rfl _ _ (hr _ _) ?_)
  go_ret
  exact ⟨rfl,rfl⟩
set_option maxHeartbeats 4000000 in
set_option maxRecDepth 100000 in
theorem Xh:Di Tryz.prog 213 227 80 3 3 .i64:=by
 have hce:Tryz.prog.cellsOf 3=1:=by kernel_rfl
 have mixed:Tryz.prog.follows .mixedOrders=true:=by kernel_rfl
 have t22:Tryz.prog.underlying 80=some (.slice 3):=by kernel_rfl
 refine ⟨t22,by kernel_rfl,by kernel_rfl,?_,?_,?_,?_⟩
 ·intro w g g2 o m c2 lb cb us us2 hne hg hg2 hus
  rw [run_callFunc_extern (P:=Tryz.prog) (f:=227) (fn:=Tryz.f227) (by kernel_rfl) (by kernel_rfl) (by kernel_rfl) (by kernel_rfl) (e:=Extern.SlicesOverlaps.overlaps #[80,80] #[4]) (by kernel_rfl),
   Lib.run_overlaps_apart w 80 4 3 t22 1 (fun w=>by kernel_rfl) ⟨g2,0,none⟩ ⟨g,o,none⟩ m c2 lb cb hne 3 3 us2.size us.size (by simp [World.shape?,hg2]) (by simp [World.shape?,hg]) (by omega) (by simp [World.frozen?,hg2]) (by simp [World.frozen?,hg2])]
  rfl
 ·intro g n c i g2 m c2 w w2 w3 k1 k2 hi hm hroom hc63 hov hcp1 hcp2
  rw [hce] at hcp1 hcp2
  simp only [kO] at hcp1 hcp2
  have hz1:¬((m:Int)=0):=by omega
  have hz2:¬((i:Int)=(n:Int)):=by omega
  have hw1:IntKind.i64.wrap ((i:Int)+(m:Int))=(i:Int)+(m:Int):=by rw [IntKind.wrap_i64];omega
  have hw2:IntKind.i64.wrap ((n:Int)+(m:Int))=(n:Int)+(m:Int):=by rw [IntKind.wrap_i64];omega
  have hb1:(0:Int)<=(i:Int)+(m:Int):=by omega
  have hin:i<=n:=by omega
  have htn:((i:Int)+(m:Int)).toNat=i+m:=by omega
  have hb2:¬(c=i+m):=by omega
  have hb3:(i:Int)<=(n:Int)+(m:Int):=by omega
  have hb4:¬(c=i):=by omega
  go_enter Tryz.func213,Tryz.ntmps213
  go_wp2_with (simp only [hov])
  go_region_law_o (refine step_copy_runI rfl _ _ 80 80 rfl _ _ (by simp [Act.eval,Act.put]) (by simp [Act.eval,Act.put]) (hcp1 _ _ _) ?_)
  go_wp2_with (at_builtin;refine wpList_copy_runI _ rfl _ _ 80 80 rfl _ _ rfl rfl (hcp2 _ _) ?_)
  go_ret
  exact ⟨rfl,rfl⟩
 ·intro A A2 n c m c2 w w1 r hm hnc hc63 hA0 hA1 hr
  have hz1:¬((m:Int)=0):=by omega
  cases A with
  | none =>
   obtain ⟨rfl,rfl⟩:=hA0 rfl
   go_enter Tryz.func213,Tryz.ntmps213
   go_wp2_with (at_builtin;refine Lib.wpList_append_run _ rfl _ _ _ _ rfl _ _ rfl rfl _ _ (hr _) ?_)
   all_goals (go_ret;exact ⟨rfl,rfl⟩)
  | some a =>
   obtain ⟨g,rfl⟩:=hA1 a rfl
   go_enter Tryz.func213,Tryz.ntmps213
   go_wp2_with (at_builtin;refine Lib.wpList_append_run _ rfl _ _ _ _ rfl _ _ rfl rfl _ _ (hr _) ?_)
   all_goals (go_ret;exact ⟨rfl,rfl⟩)
 ·intro g n c i g2 m c2 N G w w1 w2 w3 k1 k2 hi hm hnc hgr hlen hGn hG63 hap hcp1 hcp2
  rw [hce] at hcp1 hcp2
  simp only [kO] at hcp1 hcp2
  have hz1:¬((m:Int)=0):=by omega
  have hz2:¬((i:Int)=(n:Int)):=by omega
  have hz3:(c:Int) < (n:Int)+(m:Int):=by omega
  have hw1:IntKind.i64.wrap ((i:Int)+(m:Int))=(i:Int)+(m:Int):=by rw [IntKind.wrap_i64];omega
  have hw2:IntKind.i64.wrap ((n:Int)+(m:Int))=(n:Int)+(m:Int):=by rw [IntKind.wrap_i64];omega
  have hw3:IntKind.i64.wrap ((n:Int)+(m:Int) - (i:Int))=(n:Int)+(m:Int) - (i:Int):=by rw [IntKind.wrap_i64];omega
  have hb1:(0:Int)<=(i:Int)+(m:Int):=by omega
  have hin:i<=n:=by omega
  have htn:((i:Int)+(m:Int)).toNat=i+m:=by omega
  have hGi:¬(G=i):=by omega
  have hGim:¬(G=i+m):=by omega
  have hci:¬(c=i):=by omega
  have hb3:(i:Int)<=(n:Int):=by omega
  go_enter Tryz.func213,Tryz.ntmps213
  go_wp2_with (first
   |(at_builtin;refine Lib.wpList_append_run _ rfl _ _ _ _ rfl _ _ rfl rfl _ _ (hap _) ?_)
   |(at_builtin;refine wpList_copy_runI _ rfl _ _ 80 80 rfl _ _ rfl rfl (hcp1 _ _) ?_))
  go_region_law_o (refine step_copy_runI rfl _ _ 80 80 rfl (.slice (some ⟨N,(i+m),none⟩) (n+m - (i+m)) (G - (i+m))) (.slice (some ⟨g,i,none⟩) (n - i) (c - i)) (by simp [Act.eval,Act.put]) (by simp [Act.eval,Act.put]) (hcp2 3 (G - (i+m)) (c - i)) ?_)
  go_wp2
  go_ret
  exact ⟨rfl,rfl⟩
set_option maxHeartbeats 4000000 in
set_option maxRecDepth 100000 in
theorem Tr:Df Tryz.prog 172 80 3:=by
 have hce:Tryz.prog.cellsOf 3=1:=by kernel_rfl
 have mixed:Tryz.prog.follows .mixedOrders=true:=by kernel_rfl
 have t22:Tryz.prog.underlying 80=some (.slice 3):=by kernel_rfl
 refine ⟨t22,by kernel_rfl,?_,?_,?_⟩
 ·intro i z hi hz
  have h1:(Tryz.prog.info? 3).bind (·.zero)=some (.int .i64 0):=by kernel_rfl
  rw [hi] at h1
  simp only [aL,hz,Option.some.injEq] at h1
  subst h1
  intro v hv
  simp [Value.cells] at hv
  subst hv;rfl
 ·intro A n c i w hin hnc hc63 hA0 hA1
  cases A with
  | none =>
   obtain ⟨rfl,rfl⟩:=hA0 rfl
   have:i=0:=by omega
   subst this
   go_enter Tryz.func172,Tryz.ntmps172
   go_wp2
   all_goals (go_ret;exact ⟨rfl,rfl⟩)
  | some a =>
   obtain ⟨g,q,rfl⟩:=hA1 a rfl
   go_enter Tryz.func172,Tryz.ntmps172
   go_wp2
   all_goals (go_ret;exact ⟨rfl,rfl⟩)
 ·intro g q n c i jj w w2 w3 k hij hjn hnc hc63 hap hcl
  rw [hce] at hap hcl
  simp only [kO] at hap hcl
  have hz1:¬((i:Int)=(jj:Int)):=by omega
  have hin:i<=n:=by omega
  have hij':i<=jj:=by omega
  have hb1:¬(c=i):=by omega
  have hb2:i+(n - jj)<=n:=by omega
  have hb3:¬(c=i+(n - jj)):=by omega
  have hic:i<=c:=by omega
  have hjc':jj<=c:=by omega
  have hbc:i+(n - jj)<=c:=by omega
  have hnij:(i:Int)+((n - jj:Nat):Int)<=(n:Int):=by omega
  by_cases hjc:c=jj
  ·have hn:n=jj:=by omega
   subst hn
   subst hjc
   have hap':=fun ty=>hap ty (some ⟨g,q,none⟩) 0 (fun h=>absurd h (by omega))
   simp only [jB,d0] at hap' hcl |-
   go_enter Tryz.func172,Tryz.ntmps172
   go_wp2
   go_region_law_o (refine CU rfl _ _ 80 80 rfl (.slice (some ⟨g,q,none⟩) i c) (.slice (some ⟨g,q,none⟩) 0 0) (by simp [Act.eval,Act.put]) (by simp [Act.eval,Act.put]) (hap' 80) ?_)
   go_wp2
   go_ret
   exact ⟨rfl,rfl⟩
  ·go_enter Tryz.func172,Tryz.ntmps172
   go_wp2
   go_region_law_o (refine CU rfl _ _ 80 80 rfl (.slice (some ⟨g,q,none⟩) i c) (.slice (some ⟨g,q+jj,none⟩) (n - jj) (c - jj)) (by simp [Act.eval,Act.put]) (by simp [Act.eval,Act.put]) (hap 80 (some ⟨g,q+jj,none⟩) (c - jj) (fun _=>rfl)) ?_)
   go_wp2
   go_ret
   exact ⟨rfl,rfl⟩
set_option maxHeartbeats 4000000 in
set_option maxRecDepth 100000 in
theorem SQ:Dc Tryz.prog 173 80 3:=by
 have hce:Tryz.prog.cellsOf 3=1:=by kernel_rfl
 have mixed:Tryz.prog.follows .mixedOrders=true:=by kernel_rfl
 have t22:Tryz.prog.underlying 80=some (.slice 3):=by kernel_rfl
 have q22:∀(w:World) (a:Option Addr) (n c n' c':Nat),(binOp .eql 80 (.slice a n c) (.slice none n' c')).run Tryz.prog w = .ok (.bool a.isNone) w:=fun w a n c n' c'=>Lib.run_eql_slice_nil w _ _ a n c n' c' t22
 refine ⟨t22,by kernel_rfl,?_,?_,?_⟩
 ·intro n c w
  go_enter Tryz.func173,Tryz.ntmps173
  go_wp2
  go_ret
  exact ⟨rfl,rfl⟩
 ·intro g b n c w w2 r hr
  go_enter Tryz.func173,Tryz.ntmps173
  go_wp2_with (at_builtin;refine Lib.wpList_append_run _ rfl _ _ _ _ rfl _ _ rfl rfl _ _ (hr _) ?_)
  go_ret
  exact ⟨rfl,rfl⟩
 ·intro a c w
  obtain ⟨ab,ao,asp⟩:=a
  have hr:∀(ty:TypeId) (w:World),(Builtin.append_ #[80,80] ty #[.slice (some ⟨w.heap.size,0,none⟩) 0 0,.slice (some ⟨ab,ao,asp⟩) 0 c]).run Tryz.prog (w.alloc (.cells #[] 3)) = .ok (.slice (some ⟨w.heap.size,0,none⟩) 0 0) (w.alloc (.cells #[] 3)):=fun ty w=>yR t22 (by rw [hce];decide) (JF t22) (bK _)
  go_enter Tryz.func173,Tryz.ntmps173
  go_wp2_with (at_builtin;refine Lib.wpList_append_run _ rfl _ _ _ _ rfl _ _ rfl rfl _ _ (hr _ _) ?_)
  go_ret
  exact ⟨rfl,rfl⟩
set_option maxHeartbeats 4000000 in
set_option maxRecDepth 100000 in
theorem Za:Jn Tryz.prog 209 9 66 5:=by
 have mixed:Tryz.prog.follows .mixedOrders=true:=by kernel_rfl
 have ts:Tryz.prog.underlying 9=some .string:=by kernel_rfl
 have tr:Tryz.prog.underlying 66=some (.slice 5):=by kernel_rfl
 have tb:Tryz.prog.underlying 5=some (.int .u8):=by kernel_rfl
 refine ⟨ts,tr,tb,by kernel_rfl,?_⟩
 intro b n L c A w w2 r hn hcap hcopy hconv
 have hcopy1:=fun ty=>hcopy ty n (.inl rfl)
 have hcopy2:grownCap w b.size 0 5=n->∀ty,_:=fun h ty=>hcopy ty 0 (.inr h)
 have hrun:=Lib.run_convert_string_bytes w 9 66 5 b ts tr tb
 go_enter Tryz.func209,Tryz.ntmps209
 by_cases hcn:grownCap w b.size 0 5=n
 ·have hcopy3:=hcopy2 hcn
  clear hcopy2
  rw [hcn] at hrun hcopy3 hcopy1 hconv hcap
  rw [jB,show b.size - n=0 by omega] at hcopy3 hcopy1
  clear hcopy hcn
  go_wp2
  go_ret
  exact ⟨rfl,rfl⟩
 ·clear hcopy hcopy2
  go_wp2
  go_ret
  exact ⟨rfl,rfl⟩
set_option maxRecDepth 100000 in
theorem SX (a b:ByteArray) (w:World):Calls Tryz.prog 207 #[.string a,.string b] w fun e w'=>e = .returned (.int .i64 (Lib.compareBytes a.data.toList b.data.toList))/\w'=w:=by
 go_enter Tryz.func207,Tryz.ntmps207
 go_wp2
 rw [run_callFunc_extern Tryz.func224 (by kernel_rfl) (by kernel_rfl) (by kernel_rfl) (e:=Extern.BytealgCompare.compare) (by kernel_rfl),Lib.run_compareString]
 simp only [Result.andThen]
 rw [Oper.upon_value]
 go_wp2
 go_ret
 exact ⟨rfl,rfl⟩
set_option maxRecDepth 100000 in
theorem SV (a b:ByteArray) (w:World):Calls Tryz.prog 158 #[.string a,.string b] w fun e w'=>e = .returned (.int .i64 (Lib.compareBytes a.data.toList b.data.toList))/\w'=w:=by
 go_enter Tryz.func158,Tryz.ntmps158
 go_wp2_with (go_at_call 207;refine (SX _ _ _).mono ?_;rintro e w' ⟨rfl,rfl⟩)
 go_ret
 exact ⟨rfl,rfl⟩
end Go.Proofs.YtlphgcjepphhcaaGreat
namespace Go.Proofs.YtlphgcjepphhcaaGreat
open Go Go.RowKit Go.Shelf
 attribute [local go_sem] Oper.semAt_some
set_option maxRecDepth 100000 in
set_option maxHeartbeats 4000000 in
theorem Sj (l B1 o1 B2 o2 n1 c1 n2 c2 N:Nat) (hN:N=min n1 n2) (A1 A2:Option Addr) (fx fy:Nat->Value) (I:Nat->World->Prop) (Ix:World->Prop) (hn:n1<=16777216) (hS:∀k W,I k W->I k W.drew)
  (h1:∀k W,I k W->W.cell? ⟨B1,o1,none⟩=some (.slice A1 n1 c1)) (h2:∀k W,I k W->W.cell? ⟨B2,o2,none⟩=some (.slice A2 n2 c2))
  (hx:∀k,k < n1->k < n2->∃b1 p1 b2 p2,A1=some ⟨b1,p1,none⟩/\A2=some ⟨b2,p2,none⟩/\∀W,I k W->W.cell? ⟨b1,p1+k,none⟩=some (fx k)/\W.cell? ⟨b2,p2+k,none⟩=some (fy k))
  (hY:∀k W,k < n1->k < n2->I k W->YieldAt Fence.wide 0 Tryz.prog l #[fx k,fy k] W fun e W2=>(e = .returned (.bool true)/\I (k+1) W2)∨(e = .returned (.bool false)/\Ix W2))
  (W:World) (h0:I 0 W) :
  CallsIn Fence.wide 1 Tryz.prog 210 #[.func (.yield l) #[] #[],.pointer (some ⟨B1,o1,none⟩),.pointer (some ⟨B2,o2,none⟩)] W fun e W'=>(∃v,e = .returned v)/\(I N W'∨Ix W'):=by
 have g1:=h1 0 W h0
 have g2:=h2 0 W h0
 refine callsIn_of_wp Tryz.func210 rfl trivial ?_ rfl
 simp only [Tryz.ntmps210,uH,cG,dR,Nat.reduceAdd,Nat.reduceSub,IY,IZ,Jg,I5,dp,dv]
 gi_wp2
 rw [show min ((n1:Nat):Int) ((n2:Nat):Int)=((N:Nat):Int) by omega]
 gi_loopw [10] (fun i wr=>∃k:Nat,k<=N/\i = .int .i64 k/\I k wr)
  (fun i _=>N - (intOf i).toNat)
 case atStart=>exact ⟨0,iB _,rfl,h0⟩
 case round =>
  obtain ⟨k,hk,rfl,hI⟩:=hrel
  by_cases aD:k < N
  ·obtain ⟨b1,p1,b2,p2,rfl,rfl,hcell⟩:=hx k (by omega) (by omega)
   obtain ⟨fn,tmps,assign,body,hy,hR⟩:=hY k wr.drew (by omega) (by omega) (hS k wr hI)
   have q1:=h1 k wr hI
   have q2:=h2 k wr hI
   have hk1:k < n1:=by omega
   have hk2:k < n2:=by omega
   obtain ⟨q3,q4⟩:=hcell wr hI
   clear h1 h2 hx hY hS hcell g1 g2 h0
   gi_wp2
   have hR:=hR.mono (R':=fun e W2=>∃bb,e = .returned (.bool bb)/\(bb=true->I (k+1) W2)/\(bb=false->Ix W2)) (by
    rintro e W2 (⟨rfl,h⟩ | ⟨rfl,h⟩)
    ·exact ⟨true,rfl,fun _=>h,fun e=>by cases e⟩
    ·exact ⟨false,rfl,fun e=>by (cases e),fun _=>h⟩)
   gi_region_with (refine hR.mono ?_;rintro e W3 ⟨bb,rfl,hb1,hb2⟩)
   all_goals
    cases bb
    rotate_left
    ·gi_wp2
     go_roundw
     case rel=>exact ⟨k+1,by omega,by simp,hb1 (by trivial)⟩
     case measure=>simp [intOf];omega
    ·gi_wp2
     refine bodyPost_ret (results_none rfl _ _ _) rfl ?_
     exact ⟨⟨_,rfl⟩,.inr (hb2 (by trivial))⟩
  ·obtain rfl:k=N:=by omega
   clear h1 h2 hx hY hS g1 g2 h0
   gi_wp2
   go_end0
   exact ⟨⟨_,rfl⟩,.inl hI⟩
set_option maxRecDepth 100000 in
set_option maxHeartbeats 4000000 in
theorem R6 (l B1 o1 n1 c1:Nat) (A1:Option Addr) (f:Nat->Nat->Value) (I:Nat->World->Prop) (Ix:World->Prop) (hn:n1<=16777216)
  (h1:∀k W,I k W->W.cell? ⟨B1,o1,none⟩=some (.slice A1 n1 c1))
  (hx:∀k,k < n1->∃b1 p1,A1=some ⟨b1,p1,none⟩/\∀W m,I m W->∀i,i < 6->W.cell? ⟨b1,p1+k * 6+i,none⟩=some (f k i))
  (hY:∀k W,k < n1->I k W->YieldAt Fence.wide 0 Tryz.prog l #[.int .i64 ((n1:Int) - 1 - (k:Int)),(.agg #[f (n1 - 1 - k) 0,f (n1 - 1 - k) 1,f (n1 - 1 - k) 2,f (n1 - 1 - k) 3,f (n1 - 1 - k) 4,f (n1 - 1 - k) 5])] W fun e W2=>(e = .returned (.bool true)/\I (k+1) W2)∨(e = .returned (.bool false)/\Ix W2))
  (W:World) (h0:I 0 W) :
  CallsIn Fence.wide 1 Tryz.prog 211 #[.func (.yield l) #[] #[],.pointer (some ⟨B1,o1,none⟩)] W fun e W'=>(∃v,e = .returned v)/\(I n1 W'∨Ix W'):=by
 have g1:=h1 0 W h0
 refine callsIn_of_wp Tryz.func211 rfl trivial ?_ rfl
 simp only [Tryz.ntmps211,uH,cG,dR,Nat.reduceAdd,Nat.reduceSub,IY,IZ,Jg,I5,dp,dv]
 gi_wp2
 gi_loopw [3] (fun i wr=>∃k:Nat,k<=n1/\i = .int .i64 ((n1:Int) - 1 - (k:Int))/\I k wr)
  (fun i _=>(intOf i+1).toNat)
 case atStart=>exact ⟨0,iB _,by simp,h0⟩
 case round =>
  obtain ⟨k,hk,rfl,hI⟩:=hrel
  by_cases aD:k < n1
  ·obtain ⟨b1,p1,rfl,hcell⟩:=hx (n1 - 1 - k) (by omega)
   have hY2:=hY k wr aD hI
   obtain ⟨fn,tmps,assign,body,hy,hR⟩:=hY2
   have q2:=hcell wr k hI 0 (by omega)
   have q3:=hcell wr k hI 1 (by omega)
   have q4:=hcell wr k hI 2 (by omega)
   have q5:=hcell wr k hI 3 (by omega)
   have q6:=hcell wr k hI 4 (by omega)
   have q7:=hcell wr k hI 5 (by omega)
   rw [d0] at q2
   have q1:=h1 k wr hI
   have e1:((n1 - 1 - k:Nat):Int)=(n1:Int) - 1 - (k:Int):=by omega
   have e2:((n1:Int) - 1 - (k:Int)).toNat=n1 - 1 - k:=by omega
   have e3:((n1:Int) - 1 - (k:Int)) ≥ 0:=by omega
   clear h1 hx hY hcell g1 h0
   gi_wp2
   refine hR.mono ?_
   rintro e W3 (⟨rfl,hJ3⟩ | ⟨rfl,hJx3⟩)
   ·gi_wp2
    go_roundw
    case rel=>exact ⟨k+1,by omega,by simp;omega,hJ3⟩
    case measure=>simp [intOf];omega
   ·gi_wp2
    refine bodyPost_ret (results_none rfl _ _ _) rfl ?_
    exact ⟨⟨_,rfl⟩,.inr hJx3⟩
  ·obtain rfl:k=n1:=by omega
   clear h1 hx hY g1 h0
   gi_wp2
   go_end0
   exact ⟨⟨_,rfl⟩,.inl hI⟩
set_option maxRecDepth 100000 in
set_option maxHeartbeats 4000000 in
theorem aar (l B1 o1 B2 o2 BB ob n s:Nat) (I:Nat->World->Prop) (Ix:World->Prop) (hn:n<=16777216) (hs:s<=16777216) (hS:∀k W,I k W->I k W.drew)
  (h1:∀k W,I k W->W.cell? ⟨B1,o1,none⟩=some (.pointer (some ⟨BB,ob,none⟩))) (h2:∀k W,I k W->W.cell? ⟨B2,o2,none⟩=some (.int .i64 (s:Int)))
  (h3:∀k W,I k W->W.cell? ⟨BB,ob+1,none⟩=some (.int .i64 (n:Int)))
  (hY:∀k W,k < n->I k W->YieldAt Fence.wide 0 Tryz.prog l #[.int .i64 (((s:Int)+(k:Int)) % (n:Int))] W fun e W2=>(e = .returned (.bool true)/\I (k+1) W2)∨(e = .returned (.bool false)/\Ix W2))
  (W:World) (h0:I 0 W) :
  CallsIn Fence.wide 1 Tryz.prog 192 #[.func (.yield l) #[] #[],.pointer (some ⟨B1,o1,none⟩),.pointer (some ⟨B2,o2,none⟩)] W fun e W'=>(∃v,e = .returned v)/\(I n W'∨Ix W'):=by
 have g1:=h1 0 W h0
 have g2:=h2 0 W h0
 have g3:=h3 0 W h0
 refine callsIn_of_wp Tryz.func192 rfl trivial ?_ rfl
 simp only [Tryz.ntmps192,uH,cG,dR,Nat.reduceAdd,Nat.reduceSub,IY,IZ,Jg,I5,dp,dv]
 gi_wp2
 gi_loopw [9] (fun i wr=>∃k:Nat,k<=n/\i = .int .i64 k/\I k wr)
  (fun i _=>n - (intOf i).toNat)
 case atStart=>exact ⟨0,iB _,rfl,h0⟩
 case round =>
  obtain ⟨k,hk,rfl,hI⟩:=hrel
  by_cases aD:k < n
  ·obtain ⟨fn,tmps,assign,body,hy,hR⟩:=hY k wr.drew aD (hS k wr hI)
   have q1:=h1 k wr hI
   have q2:=h2 k wr hI
   have q3:=h3 k wr hI
   have w1:IntKind.i64.wrap ((s:Int)+(k:Int))=((s+k:Nat):Int):=by rw [IntKind.wrap_i64];omega
   have w2:((s+k:Nat):Int).tmod (n:Int)=(((s+k) % n:Nat):Int):=rfl
   have w3:¬((n:Int)=0):=by omega
   clear h1 h2 h3 hY hS g1 g2 g3 h0
   gi_wp2
   have hR:=hR.mono (R':=fun e W2=>∃bb,e = .returned (.bool bb)/\(bb=true->I (k+1) W2)/\(bb=false->Ix W2)) (by
    rintro e W2 (⟨rfl,h⟩ | ⟨rfl,h⟩)
    ·exact ⟨true,rfl,fun _=>h,fun e=>by cases e⟩
    ·exact ⟨false,rfl,fun e=>by (cases e),fun _=>h⟩)
   gi_region_with (refine hR.mono ?_;rintro e W3 ⟨bb,rfl,hb1,hb2⟩)
   all_goals
    cases bb
    rotate_left
    ·gi_wp2
     go_roundw
     case rel=>exact ⟨k+1,by omega,by simp,hb1 (by trivial)⟩
     case measure=>simp [intOf];omega
    ·gi_wp2
     refine bodyPost_ret (results_none rfl _ _ _) rfl ?_
     exact ⟨⟨_,rfl⟩,.inr (hb2 (by trivial))⟩
  ·obtain rfl:k=n:=by omega
   clear h1 h2 h3 hY hS g1 g2 g3 h0
   gi_wp2
   go_end0
   exact ⟨⟨_,rfl⟩,.inl hI⟩
end Go.Proofs.YtlphgcjepphhcaaGreat
namespace Go.Proofs.YtlphgcjepphhcaaGreat
open Go Go.Proofs
set_option maxRecDepth 100000
def abC:Go.Shelf.Ren:=⟨fun | 5=>88 | 8=>135 | 7=>134 | 19=>190 | 20=>191 | 10=>181 | 11=>182 | 12=>183 | 13=>184 | 14=>185 | 15=>186 | 16=>187 | 17=>188 | 18=>189 | 30=>215 | 31=>216 | 32=>217 | 33=>218 | 34=>219 | 35=>220 | 40=>229 | n=>n,fun | 23=>80 | 25=>3 | 3=>3 | 32=>197 | 22=>80 | 0=>0 | 44=>255 | 46=>224 | 4=>4 | 36=>248 | 35=>247 | 41=>145 | 5=>5 | 9=>9 | 53=>272 | 57=>276 | 63=>283 | 64=>284 | n=>n,fun | n=>n⟩
theorem Qc:Go.Proofs.SlLaysM.n5 Tryz.prog abC where
 mixed:=by kernel_rfl
 f5:=⟨"slices.Sort[[]int,int]",by decide,Tryz.func88.trans (congrArg some (by kernel_rfl))⟩
 f7:=⟨"slices.pdqsortOrdered[int]",by decide,Tryz.func134.trans (congrArg some (by kernel_rfl))⟩
 f8:=Tryz.func135.trans (congrArg some (by kernel_rfl))
 f10:=⟨"slices.insertionSortOrdered[int]",by decide,Tryz.func181.trans (congrArg some (by kernel_rfl))⟩
 f11:=⟨"slices.heapSortOrdered[int]",by decide,Tryz.func182.trans (congrArg some (by kernel_rfl))⟩
 f12:=⟨"slices.breakPatternsOrdered[int]",by decide,Tryz.func183.trans (congrArg some (by kernel_rfl))⟩
 f13:=⟨"slices.choosePivotOrdered[int]",by decide,Tryz.func184.trans (congrArg some (by kernel_rfl))⟩
 f14:=⟨"slices.reverseRangeOrdered[int]",by decide,Tryz.func185.trans (congrArg some (by kernel_rfl))⟩
 f15:=⟨"slices.partialInsertionSortOrdered[int]",by decide,Tryz.func186.trans (congrArg some (by kernel_rfl))⟩
 f16:=⟨"cmp.Less[int]",by decide,Tryz.func187.trans (congrArg some (by kernel_rfl))⟩
 f17:=⟨"slices.partitionEqualOrdered[int]",by decide,Tryz.func188.trans (congrArg some (by kernel_rfl))⟩
 f18:=⟨"slices.partitionOrdered[int]",by decide,Tryz.func189.trans (congrArg some (by kernel_rfl))⟩
 f19:=Tryz.func190.trans (congrArg some (by kernel_rfl))
 f20:=Tryz.func191.trans (congrArg some (by kernel_rfl))
 f30:=⟨"slices.siftDownOrdered[int]",by decide,Tryz.func215.trans (congrArg some (by kernel_rfl))⟩
 f31:=Tryz.func216.trans (congrArg some (by kernel_rfl))
 f32:=Tryz.func217.trans (congrArg some (by kernel_rfl))
 f33:=⟨"slices.medianAdjacentOrdered[int]",by decide,Tryz.func218.trans (congrArg some (by kernel_rfl))⟩
 f34:=⟨"slices.medianOrdered[int]",by decide,Tryz.func219.trans (congrArg some (by kernel_rfl))⟩
 f35:=⟨"cmp.isNaN[int]",by decide,Tryz.func220.trans (congrArg some (by kernel_rfl))⟩
 f40:=⟨"slices.order2Ordered[int]",by decide,Tryz.func229.trans (congrArg some (by kernel_rfl))⟩
 t0:=Tryz.underlying0
 a0:=Tryz.isAgg0
 z0:=Tryz.sizeOf0
 v0:=Tryz.zeroValue0
 t3:=Tryz.underlying3
 a3:=Tryz.isAgg3
 z3:=Tryz.sizeOf3
 v3:=Tryz.zeroValue3
 t4:=Tryz.underlying4
 a4:=Tryz.isAgg4
 z4:=Tryz.sizeOf4
 v4:=Tryz.zeroValue4
 t5:=Tryz.underlying5
 a5:=Tryz.isAgg5
 z5:=Tryz.sizeOf5
 v5:=Tryz.zeroValue5
 t9:=Tryz.underlying9
 a9:=Tryz.isAgg9
 z9:=Tryz.sizeOf9
 v9:=Tryz.zeroValue9
 t22:=Tryz.underlying80
 a22:=Tryz.isAgg80
 z22:=Tryz.sizeOf80
 v22:=Tryz.zeroValue80
 t23:=Tryz.underlying80
 a23:=Tryz.isAgg80
 z23:=Tryz.sizeOf80
 v23:=Tryz.zeroValue80
 t25:=Tryz.underlying3
 a25:=Tryz.isAgg3
 z25:=Tryz.sizeOf3
 v25:=Tryz.zeroValue3
 t32:=Tryz.underlying197
 a32:=Tryz.isAgg197
 z32:=Tryz.sizeOf197
 v32:=Tryz.zeroValue197
 t35:=Tryz.underlying247
 a35:=Tryz.isAgg247
 z35:=Tryz.sizeOf247
 v35:=Tryz.zeroValue247
 t36:=Tryz.underlying248
 a36:=Tryz.isAgg248
 z36:=Tryz.sizeOf248
 v36:=Tryz.zeroValue248
 t41:=Tryz.underlying145
 a41:=Tryz.isAgg145
 z41:=Tryz.sizeOf145
 v41:=Tryz.zeroValue145
 t44:=Tryz.underlying255
 a44:=Tryz.isAgg255
 z44:=Tryz.sizeOf255
 v44:=Tryz.zeroValue255
 t46:=Tryz.underlying224
 a46:=Tryz.isAgg224
 z46:=Tryz.sizeOf224
 v46:=Tryz.zeroValue224
 t53:=Tryz.underlying272
 a53:=Tryz.isAgg272
 z53:=Tryz.sizeOf272
 v53:=Tryz.zeroValue272
 t57:=Tryz.underlying276
 a57:=Tryz.isAgg276
 z57:=Tryz.sizeOf276
 v57:=Tryz.zeroValue276
 t63:=Tryz.underlying283
 a63:=Tryz.isAgg283
 z63:=Tryz.sizeOf283
 v63:=Tryz.zeroValue283
 t64:=Tryz.underlying284
 a64:=Tryz.isAgg284
 z64:=Tryz.sizeOf284
 v64:=Tryz.zeroValue284
theorem abz (blk off cap:Nat) (zs:List Int) (w:World) (hH:Go.Sort.Holds (Value.int .i64) w blk off zs.toArray) (hblk:blk < w.heap.size) (hsz:zs.length < 4611686018427387904) :
  Calls Tryz.prog 88 #[.slice (some ⟨blk,off,none⟩) zs.length cap] w fun e w'=>e = .returned (.tuple #[])/\∃n os,w'=Go.Sort.grow (Go.Sort.putRow (Value.int .i64) (Go.Sort.ahead w n) blk off (zs.mergeSort fun x y=>decide (x<=y)).toArray) os :=
 AnyM.slices_Sort_int Qc blk off cap zs w hH hblk hsz
theorem abA (p:Option Addr) (cap:Nat) (w:World):Calls Tryz.prog 88 #[.slice p 0 cap] w fun e w'=>e = .returned (.tuple #[])/\w'=w:=AnyM.slices_Sort_int_none Qc p cap w
theorem abD:Go.Lite.SortW Tryz.prog 88:=⟨abz,abA⟩
theorem SK:Tryz.prog.cellsOf 3=1:=by kernel_rfl
end Go.Proofs.YtlphgcjepphhcaaGreat
namespace Go.Proofs.YtlphgcjepphhcaaGreat
open Go Go.Lite
theorem OQ {_P:Program} {Z:Zs} {w:World} {a:List V} {u:Value} (h:VR Z w j0 (.sl a) u) (h1:a.all V.one=true) :
  ∃(A:Option Addr) (c:Nat) (fx:Nat->Value),u = .slice A a.length c/\∀k x,a[k]? = some x->VR Z w j0 x (fx k)/\∃g b,A=some ⟨g,b,none⟩/\Z g (b+k)/\w.cell? ⟨g,b+k,none⟩=some (fx k):=by
 rcases h.slInv with ⟨A,c,rfl,rfl⟩ | ⟨g,b,c,sz,rfl,_,hsz,hh⟩
 ·exact ⟨A,c,fun _=>default,rfl,fun k x hk=>by simp at hk⟩
 ·refine ⟨some ⟨g,b,none⟩,c,fun k=>(w.cell? ⟨g,b+k,none⟩).getD default,rfl,fun k x hk=>?_⟩
  have hone:x.one=true:=dB.1 h1 x (cH hk)
  obtain ⟨l1,l2,l3⟩:=hh k x hk
  rw [j7 hone] at l1 l3
  have:sz=1:=l1.symm
  subst this
  obtain ⟨_,u,hu,hv⟩:=l3 0 x rfl
  rw [kO,d0] at hu
  have hz:=l2 0 (by decide)
  rw [kO,d0] at hz
  show VR Z w j0 x ((w.cell? ⟨g,b+k,none⟩).getD default)/\_
  rw [hu]
  refine ⟨hv,g,b,rfl,hz,?_⟩
  show w.cell? ⟨g,b+k,none⟩=some ((w.cell? ⟨g,b+k,none⟩).getD default)
  rw [hu]
  rfl
theorem aaw {_P:Program} {Z:Zs} {w:World} {a:List V} {u:Value} (h:VR Z w j0 (.sl a) u) (h1:a.all B0=true) :
  ∃(A:Option Addr) (c:Nat) (f:Nat->Nat->Value),u = .slice A a.length c/\∀k x,a[k]? = some x->VR Z w j0 x (.agg #[f k 0,f k 1,f k 2,f k 3,f k 4,f k 5])/\∃g b,A=some ⟨g,b,none⟩/\∀i,i < 6->Z g (b+k * 6+i)/\w.cell? ⟨g,b+k * 6+i,none⟩=some (f k i):=by
 rcases h.slInv with ⟨A,c,rfl,rfl⟩ | ⟨g,b,c,sz,rfl,_,hsz,hh⟩
 ·exact ⟨A,c,fun _ _=>default,rfl,fun k x hk=>by simp at hk⟩
 ·refine ⟨some ⟨g,b,none⟩,c,fun k i=>(w.cell? ⟨g,b+k * 6+i,none⟩).getD default,rfl,fun k x hk=>?_⟩
  have hone:B0 x=true:=dB.1 h1 x (cH hk)
  obtain ⟨l1,l2,l3⟩:=hh k x hk
  unfold B0 at hone
  split at hone
  rotate_left
  ·cases hone
  rename_i cs
  have hl:cs.length=6:=by simpa using hone
  have e:V.cells (.agg cs)=cs:=rfl
  rw [e] at l1 l3
  have:sz=6:=by omega
  subst this
  have key:∀i,i < 6->∃u,w.cell? ⟨g,b+k * 6+i,none⟩=some u/\∀y,cs[i]? = some y->VR Z w j0 y u:=fun i hi=>by
   have hy:cs[i]? = some cs[i]:=bG (by omega)
   obtain ⟨_,u,hu,hv⟩:=l3 i _ hy
   refine ⟨u,hu,fun y hy2=>?_⟩
   rw [hy] at hy2;cases hy2;exact hv
  have hz:∀i,i < 6->Z g (b+k * 6+i):=fun i hi=>by rw [iA];exact l2 i hi
  refine ⟨?_,g,b,rfl,fun i hi=>⟨hz i hi,?_⟩⟩
  ·refine .agg (us:=[_,_,_,_,_,_]) (by simpa using hl) fun i c u hc hu=>?_
   have hi:i < 6:=by rw [<-hl];exact (bn.1 hc).1
   obtain ⟨u',h1',h2'⟩:=key i hi
   have h3:=h2' c hc
   match i,hi,hu,h1' with
   | 0,_,hu,h1'=>simp at hu;rw [d0] at h1';rw [<-hu,h1'] ;exact h3
   | 1,_,hu,h1'=>simp at hu;rw [<-hu,h1'] ;exact h3
   | 2,_,hu,h1'=>simp at hu;rw [<-hu,h1'] ;exact h3
   | 3,_,hu,h1'=>simp at hu;rw [<-hu,h1'] ;exact h3
   | 4,_,hu,h1'=>simp at hu;rw [<-hu,h1'] ;exact h3
   | 5,_,hu,h1'=>simp at hu;rw [<-hu,h1'] ;exact h3
   | i+6,hi,_,_=>omega
  ·obtain ⟨u',h1',_⟩:=key i hi
   show w.cell? ⟨g,b+k * 6+i,none⟩=some ((w.cell? ⟨g,b+k * 6+i,none⟩).getD default)
   rw [h1'];rfl
theorem aba:p9 Tryz.prog G7:=by
 intro f ts h xs rounds hf hr Z w us hzin ha
 unfold G7 at hf
 split at hf
 ·rename_i e
  subst e
  cases hf
  unfold wi at hr
  split at hr
  rotate_left
  ·cases hr
  rename_i q n from0
  split at hr
  rotate_left
  ·cases hr
  rename_i hc
  obtain ⟨hn0,hn,hf0,hf⟩:=hc
  cases hr
  obtain ⟨n,rfl⟩:∃m:Nat,n=(m:Int):=⟨n.toNat,by omega⟩
  obtain ⟨s,rfl⟩:∃m:Nat,from0=(m:Int):=⟨from0.toNat,by omega⟩
  obtain ⟨hl,hv⟩:=ha
  match us,hl,hv with
  | [u1,u2],hl,hv =>
  have v1:=hv 0 _ u1 rfl rfl
  have v2:=hv 1 _ u2 rfl rfl
  refine ⟨Go.Proofs.enters_of Tryz.func192 (by kernel_rfl) rfl,?_⟩
  cases v1 with
  | ref f1 c1 d1 =>
  rename_i B1 o1
  cases v2 with
  | ref f2 c2 d2 =>
  rename_i B2 o2
  obtain ⟨_,z1,e1⟩:=c1 0 _ rfl
  obtain ⟨_,z2,e2⟩:=c2 0 _ rfl
  have r1:=d1 0 _ rfl
  have r2:=d2 0 _ rfl
  generalize f1 0=g1 at e1 r1
  generalize f2 0=g2 at e2 r2
  cases r2
  cases r1 with
  | ref f3 c3 d3 =>
  rename_i BB ob
  obtain ⟨_,z3,e3⟩:=c3 1 _ rfl
  have r3:=d3 1 _ rfl
  generalize f3 1=g3 at e3 r3
  cases r3
  have hbl:(tZ (n:Int) (s:Int)).length=n:=by simp [tZ]
  refine ⟨(dI n).map fun k:Nat=>[.int .i64 (((s:Int)+(k:Int)) % (n:Int))],by simp [hbl],?_,?_⟩
  ·intro k x u hx hu
   have hk:k < n:=by rw [<-hbl];exact (bn.1 hx).1
   unfold tZ at hx
   rw [dQ,sj (by omega)] at hx
   rw [dQ,sj hk] at hu
   simp at hu hx
   subst hu;subst hx
   refine ⟨rfl,fun i y' v hy' hv'=>?_⟩
   match i,hy',hv' with
   | 0,hy',hv'=>simp at hy' hv';subst hy';subst hv';exact .int
   | i+1,hy',hv'=>simp at hy'
  ·intro l I Ix W hI hIx hK hY h0
   have hY':∀k W,k < n->I k W->YieldAt Fence.wide 0 Tryz.prog l #[.int .i64 (((s:Int)+(k:Int)) % (n:Int))] W fun e W2=>(e = .returned (.bool true)/\I (k+1) W2)∨(e = .returned (.bool false)/\Ix W2):=by
    intro k W hk1 hi
    exact hY k [.int .i64 (((s:Int)+(k:Int)) % (n:Int))] W (by rw [dQ,sj hk1];rfl) hi
   have:=aar l B1 (o1+0) B2 (o2+0) BB (ob+0) n s I Ix (by omega) (by omega) (fun k W hi=>hI k W W.drew hi ⟨rfl,rfl,rfl,rfl⟩) (fun k W hi=>((hK k W hi).2 _ _ z1).trans e1) (fun k W hi=>((hK k W hi).2 _ _ z2).trans e2) (fun k W hi=>((hK k W hi).2 _ _ z3).trans e3) hY' W h0
   have:=(callsIn_wide (n:=1)).1 this
   simp only [dh,zA]
   exact this
 split at hf
 ·rename_i e
  subst e
  cases hf
  unfold As at hr
  split at hr
  rotate_left
  ·cases hr
  rename_i a
  split at hr
  rotate_left
  ·cases hr
  rename_i hc
  obtain ⟨hlen,hpair⟩:=hc
  cases hr
  obtain ⟨hl,hv⟩:=ha
  match us,hl,hv with
  | [u1],hl,hv =>
  have v1:=hv 0 _ u1 rfl rfl
  refine ⟨Go.Proofs.enters_of Tryz.func211 (by kernel_rfl) rfl,?_⟩
  cases v1 with
  | ref f1 c1 d1 =>
  rename_i B1 o1
  obtain ⟨_,z1,e1⟩:=c1 0 (.sl a) rfl
  obtain ⟨A1,p1,fa,w1,r1⟩:=aaw (_P:=Tryz.prog) (d1 0 (.sl a) rfl) hpair
  rw [w1] at e1
  have hbl:(qj a).length=a.length:=by simp [qj]
  have hbg:∀k x,(qj a)[k]? = some x->∃y,a[a.length - 1 - k]? = some y/\k < a.length/\x=[.int .i64 ((a.length - 1 - k:Nat):Int),y]:=by
   intro k x hx
   have hk:k < a.length:=by rw [<-hbl];exact (bn.1 hx).1
   unfold qj at hx
   rw [List.getElem?_reverse (by simpa using hk)] at hx
   simp only [dh,List.length_zipIdx,dQ,List.getElem?_zipIdx] at hx
   have hy:a[a.length - 1 - k]? = some a[a.length - 1 - k]:=bG (by omega)
   rw [hy] at hx
   simp at hx
   refine ⟨_,hy,hk,?_⟩
   rw [<-hx]
  refine ⟨(dI a.length).map fun k:Nat=>[.int .i64 ((a.length:Int) - 1 - (k:Int)),.agg #[fa (a.length - 1 - k) 0,fa (a.length - 1 - k) 1,fa (a.length - 1 - k) 2,fa (a.length - 1 - k) 3,fa (a.length - 1 - k) 4,fa (a.length - 1 - k) 5]],by simp [hbl],?_,?_⟩
  ·intro k x u hx hu
   obtain ⟨y,hy,hk,rfl⟩:=hbg k x hx
   rw [dQ,sj hk] at hu
   simp at hu
   subst hu
   refine ⟨rfl,fun i y' v hy' hv'=>?_⟩
   match i,hy',hv' with
   | 0,hy',hv' =>
    simp at hy' hv';subst hy';subst hv'
    have:((a.length - 1 - k:Nat):Int)=(a.length:Int) - 1 - (k:Int):=by omega
    rw [this];exact .int
   | 1,hy',hv'=>simp at hy' hv';subst hy';subst hv';exact (r1 _ y hy).1
   | i+2,hy',hv'=>simp at hy'
  ·intro l I Ix W hI hIx hK hY h0
   have hY':∀k W,k < a.length->I k W->YieldAt Fence.wide 0 Tryz.prog l #[.int .i64 ((a.length:Int) - 1 - (k:Int)),.agg #[fa (a.length - 1 - k) 0,fa (a.length - 1 - k) 1,fa (a.length - 1 - k) 2,fa (a.length - 1 - k) 3,fa (a.length - 1 - k) 4,fa (a.length - 1 - k) 5]] W fun e W2=>(e = .returned (.bool true)/\I (k+1) W2)∨(e = .returned (.bool false)/\Ix W2):=by
    intro k W hk1 hi
    exact hY k [.int .i64 ((a.length:Int) - 1 - (k:Int)),.agg #[fa (a.length - 1 - k) 0,fa (a.length - 1 - k) 1,fa (a.length - 1 - k) 2,fa (a.length - 1 - k) 3,fa (a.length - 1 - k) 4,fa (a.length - 1 - k) 5]] W (by rw [dQ,sj hk1];rfl) hi
   have hx:∀k,k < a.length->∃b1 p1,A1=some ⟨b1,p1,none⟩/\∀W m,I m W->∀i,i < 6->W.cell? ⟨b1,p1+k * 6+i,none⟩=some (fa k i):=by
    intro k hk1
    obtain ⟨_,g1,q1,m1,m2⟩:=r1 k a[k] (by simp [hk1])
    exact ⟨g1,q1,m1,fun W m hi i h6=>((hK m W hi).2 _ _ (m2 i h6).1).trans (m2 i h6).2⟩
   have:=R6 l B1 (o1+0) a.length p1 A1 fa I Ix hlen (fun k W hi=>((hK k W hi).2 _ _ z1).trans e1) hx hY' W h0
   have:=(callsIn_wide (n:=1)).1 this
   simp only [dh,zA]
   exact this
 split at hf
 ·rename_i e
  subst e
  cases hf
  unfold u7 at hr
  split at hr
  rotate_left
  ·cases hr
  rename_i a b
  split at hr
  rotate_left
  ·cases hr
  rename_i hc
  obtain ⟨hal,ha1,hb1⟩:=hc
  cases hr
  obtain ⟨hl,hv⟩:=ha
  match us,hl,hv with
  | [u1,u2],hl,hv =>
  have v1:=hv 0 _ u1 rfl rfl
  have v2:=hv 1 _ u2 rfl rfl
  refine ⟨Go.Proofs.enters_of Tryz.func210 (by kernel_rfl) rfl,?_⟩
  cases v1 with
  | ref f1 c1 d1 =>
  rename_i B1 o1
  cases v2 with
  | ref f2 c2 d2 =>
  rename_i B2 o2
  obtain ⟨_,z1,e1⟩:=c1 0 (.sl a) rfl
  obtain ⟨_,z2,e2⟩:=c2 0 (.sl b) rfl
  obtain ⟨A1,p1,fx,w1,r1⟩:=OQ (_P:=Tryz.prog) (d1 0 (.sl a) rfl) ha1
  obtain ⟨A2,p2,fy,w2,r2⟩:=OQ (_P:=Tryz.prog) (d2 0 (.sl b) rfl) hb1
  rw [w1] at e1
  rw [w2] at e2
  refine ⟨(dI (min a.length b.length)).map fun k=>[fx k,fy k],by simp,?_,?_⟩
  ·intro k x u hx hu
   rw [List.getElem?_zipWith] at hx
   rw [dQ] at hu
   cases hxa:a[k]? with
   | none=>simp [hxa] at hx
   | some xa =>
    cases hxb:b[k]? with
    | none=>simp [hxa,hxb] at hx
    | some xb =>
     simp [hxa,hxb] at hx
     subst hx
     have hka:=(bn.1 hxa).1
     have hkb:=(bn.1 hxb).1
     rw [sj (by omega)] at hu
     simp at hu
     subst hu
     refine ⟨rfl,fun i y v hy hv=>?_⟩
     match i,hy,hv with
     | 0,hy,hv=>simp at hy hv;subst hy;subst hv;exact (r1 k _ hxa).1
     | 1,hy,hv=>simp at hy hv;subst hy;subst hv;exact (r2 k _ hxb).1
     | i+2,hy,hv=>simp at hy
  ·intro l I Ix W hI hIx hK hY h0
   have hY':∀k W,k < a.length->k < b.length->I k W->YieldAt Fence.wide 0 Tryz.prog l #[fx k,fy k] W fun e W2=>(e = .returned (.bool true)/\I (k+1) W2)∨(e = .returned (.bool false)/\Ix W2):=by
    intro k W hk1 hk2 hi
    have:=hY k [fx k,fy k] W (by rw [dQ,sj (by omega)];rfl) hi
    exact this
   have hx:∀k,k < a.length->k < b.length->∃b1 p1 b2 p2,A1=some ⟨b1,p1,none⟩/\A2=some ⟨b2,p2,none⟩/\∀W,I k W->W.cell? ⟨b1,p1+k,none⟩=some (fx k)/\W.cell? ⟨b2,p2+k,none⟩=some (fy k):=by
    intro k hk1 hk2
    obtain ⟨_,g1,q1,m1,m2,m3⟩:=r1 k _ (bG hk1)
    obtain ⟨_,g2,q2,n1,n2,n3⟩:=r2 k _ (bG hk2)
    exact ⟨g1,q1,g2,q2,m1,n1,fun W hi=>⟨((hK k W hi).2 _ _ m2).trans m3,((hK k W hi).2 _ _ n2).trans n3⟩⟩
   have:=Sj l B1 (o1+0) B2 (o2+0) a.length p1 b.length p2 (min a.length b.length) rfl A1 A2 fx fy I Ix hal (fun k W hi=>hI k W W.drew hi ⟨rfl,rfl,rfl,rfl⟩) (fun k W hi=>((hK k W hi).2 _ _ z1).trans e1) (fun k W hi=>((hK k W hi).2 _ _ z2).trans e2) hx hY' W h0
   have:=(callsIn_wide (n:=1)).1 this
   simp only [dh,zA]
   exact this
 ·cases hf
theorem aV:wT aA:=by
 have hceS:Tryz.prog.cellsOf 9=1:=by kernel_rfl
 have hceI:Tryz.prog.cellsOf 3=1:=by kernel_rfl
 refine ⟨by kernel_rfl,?_,?_,aba⟩
 ·intro f g h
  have h:G5 f=some g:=h
  unfold G5 at h
  split at h
  ·rename_i e
   subst e
   cases h
   have:=Kj SS
   rw [hceS] at this
   exact this
  split at h
  ·rename_i e
   subst e
   cases h
   have:=Kj SQ
   rw [hceI] at this
   exact this
  split at h
  ·rename_i e
   subst e
   cases h
   exact Zc Za
  split at h
  ·rename_i e
   subst e
   cases h
   exact S0 SV
  ·cases h
 ·intro f g h
  have h:G3 f=some g:=h
  unfold G3 at h
  split at h
  ·rename_i e
   subst e
   cases h
   have:=MI Xi
   rw [hceS] at this
   exact this
  split at h
  ·rename_i e
   subst e
   cases h
   have:=MI Xh
   rw [hceI] at this
   exact this
  split at h
  ·rename_i e
   subst e
   cases h
   exact Kw Ts
  split at h
  ·rename_i e
   subst e
   cases h
   exact Kw Tr
  split at h
  ·rename_i e
   subst e
   cases h
   exact abE abD SK
  ·cases h
end Go.Proofs.YtlphgcjepphhcaaGreat
