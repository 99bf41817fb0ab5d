/-
  Texts that the last one stands on.
-/
import Derived.Test.YtlphgcjepphhcaaGreatY1
import Derived.Laws.MakeOwn
import Derived.Lib.AppendZerosOnto
import Derived.OrdersIn
import Derived.TacticsIn
import Derived.LoopNIn
import Derived.RangeFuncNested
open List renaming range->dl,all_eq_true->di,getElem_of_mem->jR,getElem?_eq_getElem->bC,append_assoc->bu,getElem?_append_right->cY,getElem?_append_left->db,replicate->bE,getElem?_eq_some_iff->bj,length_set->nZ,getElem?_set_ne->fE,mem_cons->bP,getElem?_of_mem->vT,getElem_mem->vU,getElem?_set_self->fj,ext_getElem?->tK,length_take->gq,mem_of_mem_take->mE,getElem?_take->gI,getElem?_drop->gf,mem_map->dP,eq_of_mem_replicate->vR,mem_of_getElem?->cG,length_replicate->vV,mem_flatMap->gK,getElem?_map->dB,nodup_nil->BK,pairwise_iff_getElem->BL,length_append->c8,length_map->dO,mem_filter->mD,getElem?_cons_succ->He,getElem?_eq_none->vS,any_eq_false->tI,getElem?_cons_zero->Hf,length_cons->cL,eq_nil_of_length_eq_zero->pw,append_nil->dA,flatMap_cons->iD,mem_singleton->eZ
open Array renaming mapM_eq_mapM_toList->OG,getElem?_eq_getElem->eW,getElem?_eq_some_iff->eX,getElem?_toList->ye,getElem?_map->Bz,getElem?_range->G0,size_append->yf,getElem?_append_left->GZ,ext'->nR,getD_eq_getD_getElem?->gG,getElem?_setIfInBounds->BA,getElem?_setIfInBounds_ne->G1
open Nat renaming mul_le_mul_right->cO,add_zero->dK,zero_add->dZ,le_refl->bG,add_mul->ij,succ_mul->jX,add_comm->py,add_mul_mod_self_right->Hq,mod_eq_of_lt->yw,mul_le_mul->yy,zero_le->iE,le_trans->lD,lt_of_lt_of_le->n6,blt->gL,blt_eq->mG
open Option renaming bind_some->aJ,map_some->cg,getD_some->tV,isNone_iff_eq_none->BQ
open Bool renaming and_eq_true->bv,not_true->bR,and_false->lB,false_eq_true->cK,false_and->mr,true_and->dI,not_false->jq,or_eq_false_iff->re,and_self->nS,not_eq_true'->iC,not_eq_false->G6,or_false->rh,false_or->iU,or_eq_true->mTz
namespace Go.Lite
open Go Go.MapKept
section
variable {P:Program} {Z Z':Zs} {w w':World} {j j':J} {mem mem':List O}
theorem PL {t:TypeId} {ps:List (Nat × V)} {qs:Array (Nat × Value)} {v:V} (h:y5 P t ps=some v) (hp:PR Z w j ps qs.toList):∃r,(Instr.build t qs).run P w = .ok r w/\VR Z w j v r:=by
 unfold y5 at h
 cases hz:gF P t with
 | none=>grind
 | some z =>
  obtain ⟨i,zv,hi,hzz,hv,_⟩:=rc (Z:=Z) (w:=w) (j:=j) hz
  cases z<;>simp only [hz] at h<;>first | (cases h;done) | skip
  rename_i zs
  obtain ⟨us,rfl,hr⟩:=hv.aggInv
  cases hpl:EX P t with
  | none=>grind
  | some pl =>
  cases hf:pY (fun i=>pl[i]?) zs ps with
  | none=>grind
  | some out =>
  simp [hpl,hf] at h
  subst h
  obtain ⟨us',h1,h2⟩:=JO ps qs.toList zs out us hf hp hr
  refine ⟨.agg us',?_,h2.aggMk⟩
  unfold EX at hpl
  cases hu:P.underlying t with
  | none=>grind
  | some d =>
   cases d<;>simp only [hu] at hpl<;>first | (cases hpl;done) | skip
   case array n e =>
    split at hpl
    ·rename_i hpos
     obtain ⟨ie,hie,his,_⟩:=sj hpos
     cases hpl
     have hfl:Instr.fill (fun i=>some (i * ie.size,ie.size)) us qs.toList=some us':=by
      have key:∀(l:List (Nat × Value)) (a b:Array Value),Instr.fill (fun i=>((dl n).map fun i=>(i * P.cellsOf e,P.cellsOf e))[i]?) a l=some b->Instr.fill (fun i=>some (i * ie.size,ie.size)) a l=some b:=by
       intro l
       induction l with
       | nil=>intro a b h;exact h
       | cons q l ih =>
        intro a b h
        obtain ⟨i,v⟩:=q
        simp only [Instr.fill] at h |-
        grind
      grind
     simp [Instr.build,zeroValue,typeInfo,hi,hzz,Value.cells,run_underlying hu,sizeOf,hie,hfl]
    grind
   case struct fs =>
    split at hpl
    ·rename_i hall
     cases hpl
     have run:∀(l:List Field),(∀f∈l,0 < P.cellsOf f.type)->(l.mapM (m:=Sem) fun f=>do pure (f.offset,<-sizeOf f.type)).run P w = .ok (l.map fun f=>(f.offset,P.cellsOf f.type)) w:=by
      intro l
      induction l with
      | nil=>simp_all
      | cons f l ih =>
       intro hl
       obtain ⟨ie,hie,his,_⟩:=sj (hl f (by simp))
       have ih':=ih fun f hf=>hl f (by grind)
       have hs:(sizeOf f.type).run P w = .ok (P.cellsOf f.type) w:=by simp [sizeOf,typeInfo,hie,his]
       simp_all
     have hr:=run fs.toList (fun f hf=>by grind)
     have hfl:Instr.fill (fun i=>(fs.toList.map fun f=>(f.offset,P.cellsOf f.type)).toArray[i]?) us qs.toList=some us':=by
      simp_all
     simp only [Instr.build,zeroValue,typeInfo,Sem.run_bind,run_program,hi,hzz,Result.andThen_ok,Sem.run_pure,Value.cells,run_underlying hu]
     rw [OG]
     simp_all
    grind
theorem w9 {y y':V} (h:iP y=some y'):y.one=true/\y'.one=true:=by
 cases y<;>simp [iP] at h<;>subst h<;>exact ⟨rfl,rfl⟩
theorem xc {v x:V} (h:ir v=some x):bo iP v.cells=some x.cells:=by
 have key:iP v=some x->bo iP v.cells=some x.cells:=fun h=>by
  have h1:=w9 h
  rw [jw h1.1,jw h1.2]
  simp [bo,h]
 cases v with
 | agg cs =>
  simp only [ir] at h
  cases hm:bo iP cs with
  | none=>grind
  | some ds=>simp [hm] at h;subst h;simpa [V.cells] using hm
 | _=>exact key (by simpa [ir] using h)
theorem Ak {α β:Type} {f:α->Option β}:∀{l:List α} {r:List β},bo f l=some r->∀(i:Nat) (x:α),l[i]? = some x->∃y,r[i]? = some y/\f x=some y:=by
 intro l
 induction l with
 | nil=>grind
 | cons a l ih =>
  intro r h i x hx
  simp only [bo] at h
  cases h1:f a with
  | none=>grind
  | some b =>
   cases h2:bo f l with
   | none=>grind
   | some bs =>
    grind
theorem KY {sz:Nat}:∀(ps:List (Nat × V)) (k:Nat) (els:List V) (cs:List V),qn k ps=some els->(∀x∈els,x.cells.length=sz)->(k+ps.length) * sz<=cs.length ->
  ∃out,pY (fun i=>some (i * sz,sz)) cs ps=some out/\out.length=cs.length/\els.length=ps.length/\(∀i,i < k * sz->out[i]? = cs[i]?) /\
   (∀(m:Nat) (x:V) (i:Nat) (y':V),els[m]? = some x->x.cells[i]? = some y'->∃y,out[(k+m) * sz+i]? = some y/\iP y=some y'):=by
 intro ps
 induction ps with
 | nil =>
  intro k els cs h _ _
  simp [qn] at h
  subst h
  exact ⟨cs,rfl,rfl,rfl,fun _ _=>rfl,fun m x i y' hm=>by grind⟩
 | cons p ps ih =>
  intro k els cs h hel hle
  obtain ⟨i0,v⟩:=p
  simp only [qn] at h
  split at h
  ·rename_i hik
   subst hik
   cases hx:ir v with
   | none=>grind
   | some x0 =>
    cases hr:qn (i0+1) ps with
    | none=>grind
    | some rest =>
     simp [hx,hr] at h
     subst h
     have him:=xc hx
     obtain ⟨hl1,hg1⟩:=iR him
     have hxl:=hel x0 (by simp)
     have hvl:v.cells.length=sz:=by omega
     have hone:v.cells.all V.one=true:=by
      rw [di]
      intro y hy
      obtain ⟨i,hi,rfl⟩:=jR hy
      obtain ⟨y',_,hy'⟩:=Ak him i _ (bC hi)
      exact (w9 hy').1
     have hle':i0 * sz+sz<=cs.length:=by
      have:(i0+1) * sz<=(i0+(ps.length+1)) * sz:=cO _ (by omega)
      grind
     have hcl:(cs.take (i0 * sz)++v.cells++cs.drop (i0 * sz+sz)).length=cs.length:=by simp;omega
     obtain ⟨out,h1,h2,h3,h4,h5⟩:=ih (i0+1) rest (cs.take (i0 * sz)++v.cells++cs.drop (i0 * sz+sz)) hr (fun x hx=>hel x (by grind)) (by grind)
     have hto:(cs.take (i0 * sz)).length=i0 * sz:=by grind
     refine ⟨out,?_,by omega,by grind,fun i hi=>?_,fun m x i y' hm hy=>?_⟩
     ·simp only [pY,aJ]
      grind
     ·grind
     ·cases m with
      | zero =>
       simp at hm
       subst hm
       have hi:i < sz:=by grind
       obtain ⟨y,hy1,hy2⟩:=hg1 i y' hy
       refine ⟨y,?_,hy2⟩
       rw [dK,h4 _ (by grind),bu,cY (by omega),hto,db (by omega)]
       simp_all
      | succ m =>
       obtain ⟨y,hy1,hy2⟩:=h5 m x i y' (by grind) hy
       grind
  grind
theorem PK (s:SR P Z w j mem) {t e:TypeId} {len:Nat} {ps:List (Nat × V)} {qs:Array (Nat × Value)} {els:List V} (he:ef P t=some e) (hl:qn 0 ps=some els) (hlen:els.length=len) (hroom:dG P e len=true)
  (hcap:len * P.cellsOf e<=16777216) (hall:els.all (fun y=>y.cells.length==P.cellsOf e)=true) (hp:PR Z w j ps qs.toList) :
  ∃r w1,(Instr.buildSlice t len qs).run P w = .ok r w1/\cC P Z w j mem (newRow mem e els 0).1 (newRow mem e els 0).2 r w1/\(cC P Z w j mem (.lit e els) mem r w1):=by
 have ht:P.underlying t=some (.slice e):=by
  unfold ef at he
  grind
 obtain ⟨hn,hby,hpos,i,z,hi,his,hib,hz,hzs⟩:=jk hroom
 have hels:∀x∈els,x.cells.length=P.cellsOf e:=fun x hx=>by grind
 have hpl:ps.length=len:=by
  obtain ⟨out,_,_,h3,_⟩:=KY ps 0 els (bE ((0+ps.length) * P.cellsOf e) .junk) hl hels (by simp)
  omega
 obtain ⟨out,h1,h2,h3,h4,h5⟩:=KY ps 0 els (bE (len * P.cellsOf e) .junk) hl hels (by grind)
 obtain ⟨zero,hzero⟩:∃zero:Array Value,(len * i.size=0/\zero=#[])∨(len * i.size≠0/\zero=z.cells):=by
  grind
 obtain ⟨us',hf,hr⟩:=JO ps qs.toList _ out ((Array.range (len * i.size)).map (zero[· % zero.size]!)) h1 hp
  ⟨by grind,fun k c hk=>by
   have aC:=(bj.1 hk).1
   simp at aC
   have:c = .junk:=by grind
   subst this
   exact ⟨_,eW (by grind),.junk⟩⟩
 refine ⟨.slice (some ⟨w.heap.size,0,none⟩) len len,w.alloc (.cells us' e),?_,?_⟩
 ·have hg:¬(len * i.size > 2 ^ 24):=by grind
  have hf':Instr.fill (fun k=>some (k * i.size,i.size)) ((Array.range (len * i.size)).map (zero[· % zero.size]!)) qs.toList=some us':=by simp_all
  simp only [Instr.buildSlice,Sem.run_bind,run_underlying ht,Result.andThen_ok,sizeOf,typeInfo,run_program,hi,Sem.run_pure]
  rw [if_neg hg]
  have hzr:(zeroValue e).run P w = .ok z w:=by simp [zeroValue,typeInfo,hi,hz]
  rcases hzero with ⟨h0,rfl⟩ | ⟨h0,rfl⟩
  ·rw [if_pos h0]
   simp only [Sem.run_bind,Sem.run_pure,Result.andThen_ok,hf']
   simp [Go.newRow,newObj,Sem.run]
  ·rw [if_neg h0]
   simp only [Sem.run_bind,Sem.run_pure,Result.andThen_ok,hzr,hf']
   simp [Go.newRow,newObj,Sem.run]
 ·have hcl:∀(k:Nat) (x:V) (i:Nat) (y:V),els[k]? = some x->x.cells[i]? = some y->y.one=true/\∃u,us'[k * P.cellsOf e+i]? = some u/\VR Z w j0 y u:=fun k x i y' hk hy=>by
   obtain ⟨y,hy1,hy2⟩:=h5 k x i y' hk hy
   rw [dZ] at hy1
   obtain ⟨u,hu,hv⟩:=hr.2 _ y hy1
   obtain ⟨q1,q2,_⟩:=lW hy2 hv
   grind
  have a:=xH (fz:=0) (els:=els) (us:=us') (c:=len) (w1:=w.alloc (.cells us' e)) s rfl rfl rfl rfl hpos hels (by omega) (by omega) (by simp only [maxLen];omega) (by rw [hr.1,h2];simp) hcl
  have b:=My (els:=els) (us:=us') (c:=len) (w1:=w.alloc (.cells us' e)) s rfl rfl rfl rfl hpos hels (by omega) hcl
  grind
theorem VC (s:SR P Z w j mem) {t:TypeId}:∃r w1,(Instr.makeMap t none).run P w = .ok r w1/\cC P Z w j mem (.mp mem.length) (mem++[.map []]) r w1:=by
 refine ⟨.map (some w.heap.size),w.alloc (.map #[] 0),rfl,?_⟩
 obtain ⟨s1,st,je⟩:=s.push (w1:=w.alloc (.map #[] 0)) (ob:=.map #[] 0) rfl rfl rfl rfl 0 (h:=⟨.map (some w.heap.size),0⟩) (by simp [bz.blk]) (o:=.map [])
  ⟨w.heap.size,#[],0,eU _ _ _,heap_alloc_new w _,rfl,fun i a x h=>by grind,fun o ho=>by
   rcases ho with ho | ho
   ·have:=s.zin _ _ ho;omega
   grind,MapKept.stamped_empty 0⟩
 exact ⟨_,_,.mp (eU _ _ _),s1,st,je⟩
theorem VB (s:SR P Z w j mem) {t:TypeId}:∃r w1,(Instr.makeMap t none).run P w = .ok r w1/\cC P Z w j mem (As mem t).1 (As mem t).2 r w1:=by
 unfold As
 cases hf:k7 t 0 mem with
 | none=>exact VC s
 | some r =>
  obtain ⟨id,ms⟩:=r
  have hm:=Do hf
  refine ⟨.map (some w.heap.size),w.alloc (.map #[] 0),rfl,?_⟩
  have hO:=s.obj id _ hm
  obtain ⟨q1,q2⟩:=s.growA (o':=.marena t (ms++[[]])) hm (n:=ms.length) (t:=t) rfl (by simp [O.ar]) (w1:=w.alloc (.map #[] 0)) (ob:=.map #[] 0) rfl rfl rfl rfl (fun hz hA=>by
   refine ⟨by grind,fun k es g hk hg=>?_⟩
   by_cases aC:k < ms.length
   ·rw [db aC] at hk
    rw [j5 (by omega)] at hg
    have hs:g < w.heap.size:=by
     obtain ⟨es',c,h1,_⟩:=hO.2 k es g hk hg
     grind
    exact (hO.2 k es g hk hg).mono hz ⟨kp (w:=w) (w1:=w.alloc (.map #[] 0)) rfl hs,fun _=>Iff.rfl⟩
   ·have e:k=ms.length:=by grind
    subst e
    rw [pG] at hg
    cases hg
    simp at hk
    subst hk
    exact ⟨#[],0,heap_alloc_new w _,rfl,fun i a x h=>by grind,fun o ho=>by have:=s.zin _ _ ho;omega,MapKept.stamped_empty 0⟩)
  exact ⟨_,j,.hm (pG _ _ _),q1,q2,aQ.refl _⟩
theorem H1 (s:SR P Z w j mem) {t:TypeId} {v:V} {u:Value} {r:V × List O} (h:qD P mem t v=some r) (hl:v.cells.length=P.cellsOf t) (ho:v.cells.all V.one=true) (hv:VR Z w j v u) :
  ∃r' w1,(Instr.box t u).run P w = .ok r' w1/\cC P Z w j mem r.1 r.2 r' w1:=by
 unfold qD at h
 cases hf:iq t 0 mem with
 | none =>
  rw [hf] at h
  cases h
  exact PG s hl ho hv
 | some q =>
  obtain ⟨id,els⟩:=q
  rw [hf] at h
  simp only at h
  split at h
  rotate_left
  ·cases h
  rename_i hpos
  simp only [omi] at h
  obtain ⟨y,hy,rfl⟩:=h
  have hm:=Dl hf
  have hO:=s.obj id _ hm
  obtain ⟨hsz,hcl⟩:=hv.cellsOf (nA ho)
  obtain ⟨m1,m2⟩:=iR (xc hy)
  refine ⟨.pointer (some ⟨w.heap.size,0,none⟩),w.alloc (.cells u.cells t),by simp [Instr.box,newVar,Go.newRow,newObj,Sem.run],?_⟩
  obtain ⟨q1,q2⟩:=s.growA (o':=.arena t (els++[y])) hm (n:=els.length) (t:=t) rfl (by simp [O.ar]) (w1:=w.alloc (.cells u.cells t)) (ob:=.cells u.cells t) rfl rfl rfl rfl (fun hz hA=>by
   refine ⟨by grind,fun k x g hk hg=>?_⟩
   by_cases aC:k < els.length
   ·rw [db aC] at hk
    rw [j5 (by omega)] at hg
    have hs:g < w.heap.size:=by
     obtain ⟨us,h1,_⟩:=hO.2 k x g hk hg
     grind
    exact (hO.2 k x g hk hg).mono hz ⟨kp (w:=w) (w1:=w.alloc (.cells u.cells t)) rfl hs,fun _=>Iff.rfl⟩
   ·have e:k=els.length:=by grind
    subst e
    rw [pG] at hg
    cases hg
    simp at hk
    subst hk
    refine ⟨u.cells,heap_alloc_new w _,by omega,by omega,hpos,fun i c hc=>?_,fun o ho=>by have:=s.zin _ _ ho;omega⟩
    obtain ⟨x,hx,hxc⟩:=m2 i c hc
    obtain ⟨cu,hcu,hvr⟩:=hcl i x hx
    obtain ⟨p1,p2,_⟩:=lW hxc hvr
    refine ⟨p2,cu,?_,p1.mono hz (aQ.refl _)⟩
    simp_all)
  exact ⟨_,j,.hp (pG _ _ _),q1,q2,aQ.refl _⟩
theorem O8 (s:SR P Z w j mem) {t:TypeId} {z:V} {r:V × List O} (h:qD P mem t z=some r) (hz:gF P t=some z) (hl:z.cells.length=P.cellsOf t) (ho:z.cells.all V.one=true) :
  ∃r' w1,(Instr.alloc t true (.tuple #[])).run P w = .ok r' w1/\cC P Z w j mem r.1 r.2 r' w1:=by
 obtain ⟨i,zv,hi,hzz,hv,_⟩:=rc (Z:=Z) (w:=w) (j:=j) hz
 obtain ⟨r,w1,h1,h2⟩:=H1 s h hl ho hv
 refine ⟨r,w1,?_,h2⟩
 rw [<-h1]
 simp [Instr.alloc,Instr.box,zeroValue,typeInfo,hi,hzz]
theorem S2 {d:TypeDesc} {k a:V} {uk ua:Value} {b:Bool} (hd:(∃kk,d = .int kk)∨d = .string) (h:dL k a=some b) (hk:VR Z w j k uk) (ha:VR Z w j' a ua) (hfit:IsKey d uk):Instr.sameNow d uk ua=some b:=by
 cases hk<;>cases ha<;>simp [dL] at h
 ·rcases hd with ⟨kk,rfl⟩ | rfl<;>simp [IsKey] at hfit
 ·obtain ⟨rfl,rfl⟩:=h
  rcases hd with ⟨kk,rfl⟩ | rfl<;>simp [IsKey] at hfit
  simp [Instr.sameNow]
 ·rcases hd with ⟨kk,rfl⟩ | rfl<;>simp [IsKey] at hfit
  rw [<-h]
  simp only [Instr.sameNow]
  rw [beq_toListBytes,tC,tC]
  simp
theorem wU {d:TypeDesc} {k:V} {uk:Value} (hd:(∃kk,d = .int kk)∨d = .string) (hk:VR Z w j k uk) (hfit:IsKey d uk) :
  ∀(es:List (V × V)) (es':List MapEntry) (n:Nat) (r:Option V),en es k=some r->es.length=es'.length ->
   (∀(i:Nat) (a x:V),es[i]? = some (a,x)->∃e:MapEntry,es'[i]? = some e/\a.flat1=true/\x.inMap=true/\VR Z w j0 a e.key/\VR Z w j0 x e.val) ->
   (r=none/\Instr.findNow d uk es' n=some none)∨∃(i:Nat) (a x:V) (e:MapEntry),r=some x/\es[i]? = some (a,x)/\es'[i]? = some e/\Instr.findNow d uk es' n=some (some (n+i,e.val))/\VR Z w j0 x e.val /\
    dL k a=some true/\(∀i' a' x',i' < i->es[i']? = some (a',x')->dL k a'=some false):=by
 intro es
 induction es with
 | nil =>
  intro es' n r h hl _
  simp [en] at h
  subst h
  cases es' with
  | nil=>exact .inl ⟨rfl,rfl⟩
  | cons _ _=>grind
 | cons p es ih =>
  intro es' n r h hl hh
  obtain ⟨a,x⟩:=p
  cases es' with
  | nil=>grind
  | cons e es' =>
   simp only [en] at h
   obtain ⟨e0,he0,hfa,hfx,hva,hvx⟩:=hh 0 a x rfl
   simp at he0
   subst he0
   cases hb:dL k a with
   | none=>grind
   | some b =>
    have hn:=S2 hd hb hk hva hfit
    cases b
    ·simp [hb] at h
     rcases ih es' (n+1) r h (by grind) (fun i a x hi=>by simpa using hh (i+1) a x (by grind)) with ⟨h1,h2⟩ | ⟨i,a',x',e',h1,h2,h3,h4,h5,h6,h7⟩
     ·exact .inl ⟨h1,by simp [Instr.findNow,hn,h2]⟩
     ·refine .inr ⟨i+1,a',x',e',h1,by grind,by grind,by simp only [Instr.findNow,hn,h4];grind,h5,h6,fun i' a'' x'' hi' he''=>?_⟩
      grind
    ·simp [hb] at h
     subst h
     exact .inr ⟨0,a,x,e,rfl,rfl,rfl,by simp [Instr.findNow,hn],hvx,hb,fun i' _ _ hi'=>by omega⟩
theorem Eo {t:TypeId} {k:V} {uk:Value} (h:lZ P t k=true) (hk:VR Z w j k uk):∃kt e d,P.underlying t=some (.map kt e)/\P.underlying kt=some d/\((∃kk,d = .int kk)∨d = .string)/\IsKey d uk/\k.flat1=true:=by
 cases k<;>simp [lZ] at h
 all_goals
  cases hu:P.underlying t with
  | none=>grind
  | some dt =>
   cases dt<;>simp [hu] at h
   rename_i kt e
   cases hkt:P.underlying kt with
   | none=>grind
   | some d =>
    cases d<;>simp [hkt] at h
    cases hk
    first
    |(subst h;exact ⟨kt,e,_,rfl,hkt,.inl ⟨_,rfl⟩,rfl,rfl⟩)
    | exact ⟨kt,e,_,rfl,hkt,.inr rfl,trivial,rfl⟩
theorem Vs (s:SR P Z w j mem) {t e:TypeId} {m:V} {es:List (V × V)} {k z:V} {r:Option V} {um uk:Value} {ok:Bool} (hm:fd mem m=some es) (hfit:lZ P t k=true) (he:uW P t=some e) (hz:gF P e=some z)
  (hf:en es k=some r) (hvm:VR Z w j m um) (hvk:VR Z w j k uk) :
  ∃v,(Instr.lookup t um uk ok).run P w = .ok v w/\VR Z w j (if ok then .tup [r.getD z,.bool r.isSome] else r.getD z) v:=by
 obtain ⟨kt,e',d,hu,hkt,hd,hik,hfl⟩:=Eo hfit hvk
 have he':e'=e:=by
  simp only [uW,hu] at he
  grind
 subst he'
 obtain ⟨i,zv,hi,hzz,hzv,_⟩:=rc (Z:=Z) (w:=w) (j:=j) hz
 obtain ⟨rr,rfl,es',clock,h2,h3,h4,_⟩:=Aj s hm hvm
 have fin:∀(x:V) (b:Bool) (u:Value),VR Z w j x u->VR Z w j (if ok then .tup [x,.bool b] else x) (if ok then .tuple #[u,.bool b] else u):=by
  intro x b u hx
  cases ok
  ·grind
  ·refine VR.tup (us:=[u,.bool b]) rfl fun i c v hc hv=>?_
   match i with
   | 0=>grind
   | 1=>simp at hc hv;subst hc hv;exact .bool
   | i+2=>grind
 rcases wU hd hvk hik es es'.toList 0 r hf (by grind) (by grind) with ⟨rfl,hn⟩ | ⟨i',a,x,e',rfl,_,_,hn,hx,_⟩
 ·refine ⟨_,?_,fin z false zv hzv⟩
  cases ok<;>simp [Instr.lookup,run_underlying hu,MapKept.run_getObj_map h2,run_checkKey hkt hik,run_findKey hkt hn,zeroValue,typeInfo,hi,hzz]
 ·refine ⟨_,?_,fin x true e'.val (hx.up j)⟩
  cases ok<;>simp [Instr.lookup,run_underlying hu,MapKept.run_getObj_map h2,run_checkKey hkt hik,run_findKey hkt hn]
theorem Xk {k x:V}:∀{es out:List (V × V)},ix es k x=some out ->
  (en es k=some none/\out=es++[(k,x)]) ∨
  ∃(i:Nat) (a y:V),es[i]? = some (a,y)/\dL k a=some true/\(∀i' a' x',i' < i->es[i']? = some (a',x')->dL k a'=some false)/\en es k=some (some y)/\out=es.set i (a,x):=by
 intro es
 induction es with
 | nil=>intro out h;simp [ix] at h;subst h;exact .inl ⟨rfl,rfl⟩
 | cons p es ih =>
  intro out h
  obtain ⟨a,y⟩:=p
  simp only [ix] at h
  cases hb:dL k a with
  | none=>grind
  | some b =>
   cases b
   ·cases hr:ix es k x with
    | none=>grind
    | some rest =>
     simp [hb,hr] at h
     subst h
     rcases ih hr with ⟨h1,rfl⟩ | ⟨i,a',y',h1,h2,h3,h4,rfl⟩
     ·exact .inl ⟨by simp [en,hb,h1],rfl⟩
     ·refine .inr ⟨i+1,a',y',by grind,h2,fun i' a'' x'' hi he=>?_,by simp [en,hb,h4],rfl⟩
      grind
   ·simp [hb] at h
    subst h
    exact .inr ⟨0,a,y,rfl,hb,fun i' _ _ hi=>by omega,by simp [en,hb],rfl⟩
theorem Nu {k:V} {es:List (V × V)} {i i':Nat} {a y a' y':V} (h1:es[i]? = some (a,y)) (h2:dL k a=some true) (h3:∀i' a' x',i' < i->es[i']? = some (a',x')->dL k a'=some false)
  (g1:es[i']? = some (a',y')) (g2:dL k a'=some true) (g3:∀i a x,i < i'->es[i]? = some (a,x)->dL k a=some false):i=i':=by
 grind
theorem S1 {k a:V} (h:dL k a=some true):k=a:=by
 cases k<;>cases a<;>simp [dL] at h
 all_goals grind
theorem VR.strInv {a:List UInt8} {u:Value} (h:VR Z w j (.str a) u):∃b:ByteArray,u = .string b/\b.data.toList=a:=by
 cases h;grind
theorem Tn {a:V} {u u':Value} (hf:a.flat1=true) (h:VR Z w j a u) (h':VR Z w j' a u'):u=u':=by
 cases a<;>simp [V.flat1] at hf
 ·cases h;cases h';rfl
 ·cases h;cases h';rfl
 ·obtain ⟨b,rfl,hb⟩:=h.strInv
  obtain ⟨b',rfl,hb'⟩:=h'.strInv
  congr 1
  exact WideShapes.bytes_inj (hb.trans hb'.symm)
theorem YI {r:Nat} {es':Array MapEntry} {clock:Nat} {o:Obj} (h2:w.heap[r]? = some (.map es' clock)) (hz:∀o,¬Z r o):be Z w Z { w with heap:=w.heap.setIfInBounds r o } :=
 .of fun g x hx=>⟨hx,gC ((heap_set h2).2 g fun e=>hz x (e ▸ hx)) x⟩
theorem VR.inMap0 {x:V} {u:Value} (h:VR Z w j x u) (hf:x.inMap=true) (j':J):VR Z w j' x u:=by
 cases h<;>first | (simp [V.inMap] at hf;done) | (constructor;done) | (constructor;grind)
theorem Al (s:SR P Z w j mem) {m:V} {r:Nat} {es es2:List (V × V)} {es' es2':Array MapEntry} {clock clock2:Nat} (hm:fd mem m=some es) (hvm:VR Z w j m (.map (some r))) (h2:w.heap[r]? = some (.map es' clock))
  (hl:es2.length=es2'.size) (hh:∀(i:Nat) (a x:V),es2[i]? = some (a,x)->∃e:MapEntry,es2'[i]? = some e/\a.flat1=true/\x.inMap=true/\VR Z w j0 a e.key/\VR Z w j0 x e.val) (hzz:∀o,¬Z r o) (hst:MapKept.Stamped es2' clock2) :
  cC P Z w j mem (.tup []) (qp mem m es2) undef { w with heap:=w.heap.setIfInBounds r (.map es2' clock2) }:=by
 have hz':=YI (o:=.map es2' clock2) h2 hzz
 have aC:r < w.heap.size:=(eX.1 h2).1
 have hmi:tS Z { w with heap:=w.heap.setIfInBounds r (.map es2' clock2) } r es2:=by
  refine ⟨es2',clock2,(heap_set h2).1,hl,fun i a x hi=>?_,hzz,hst⟩
  obtain ⟨e,h1,h3,h4,h5,h6⟩:=hh i a x hi
  exact ⟨e,h1,h3,h4,h5.mono hz' (aQ.refl _),h6.mono hz' (aQ.refl _)⟩
 have tup:∀(Z:Zs) (w:World),VR Z w j (.tup []) undef:=fun Z w=>.tup (us:=[]) rfl (fun i c u hc=>by grind)
 cases m with
 | mp id =>
  simp only [fd] at hm
  cases hmm:mem[id]? with
  | none=>grind
  | some o =>
   cases o<;>simp only [hmm] at hm<;>first | (cases hm;done) | skip
   cases hm
   obtain ⟨r',es3,clock3,h1,_⟩:=s.obj id _ hmm
   cases hvm with
   | mp hj =>
    rw [hj] at h1;cases h1
    have hot:∀g,cf j id≠some g->({ w with heap:=w.heap.setIfInBounds r (.map es2' clock2) }:World).heap[g]? = w.heap[g]?:=fun g hg=>(heap_set h2).2 g fun e=>hg (by simp [cf,hj,bz.blk,e])
    refine ⟨Z,j,tup _ _,s.set hmm (fun _=>rfl) hz' (fun g hg=>⟨hot g hg,fun _=>Iff.rfl⟩) (fun g o ho=>by simpa using s.zin g o ho) (fun h=>by cases h) ?_,
     aI.set hmm (fun _=>rfl) rfl hz' (fun g hg=>⟨hot g hg,fun _=>Iff.rfl⟩) rfl rfl rfl (by simp),aQ.refl _⟩
    obtain ⟨a1,a2,a3,a4,a5,a6⟩:=hmi
    exact ⟨r,a1,a2,hj,a3,a4,a5,a6⟩
 | hm t k =>
  simp only [fd,obi] at hm
  obtain ⟨⟨id,ms⟩,hf,hk⟩:=hm
  have hmm:=Do hf
  have hO:=s.obj id _ hmm
  have hkl:k < ms.length:=(bj.1 hk).1
  cases hvm with
  | hm hg =>
   have hot:∀g,g≠r->({ w with heap:=w.heap.setIfInBounds r (.map es2' clock2) }:World).heap[g]? = w.heap[g]?:=fun g hg=>(heap_set h2).2 g hg
   obtain ⟨q1,q2⟩:=s.setA (o':=.marena t (ms.set k es2)) (w':={ w with heap:=w.heap.setIfInBounds r (.map es2' clock2) }) hmm (n:=ms.length) (t:=t) rfl (by simp [O.ar]) hz'
    (fun g' hg'=>⟨hot g' fun e=>hg' ⟨k,hkl,by grind⟩,fun _=>Iff.rfl⟩) (fun g o ho=>by simpa using s.zin g o ho) rfl rfl rfl (by simp) (by
     refine ⟨by rw [nZ];exact hO.1,fun k' x' g' hk' hg'=>?_⟩
     by_cases e:k=k'
     ·grind
     ·rw [fE e] at hk'
      exact (hO.2 k' x' g' hk' hg').mono hz' ⟨hot g' fun e'=>e (hO.1.inj k k' r hg (by grind)),fun _=>Iff.rfl⟩)
   simp only [qp,hf]
   exact ⟨Z,j,tup _ _,q1,q2,aQ.refl _⟩
 | _=>simp [fd] at hm
theorem JQ {k:V}:∀{es:List (V × V)},en es k=some none->∀p∈es,dL k p.1=some false
 | [],_,p,hp=>nomatch hp
 |(a,x)::es,h,p,hp=>by
  simp only [en] at h
  cases hb:dL k a with
  | none=>grind
  | some b =>
   cases b
   ·simp [hb] at h
    rcases bP.1 hp with rfl | hp
    ·grind
    ·exact JQ h p hp
   grind
theorem oE {k a:V} {uk ua:Value} {j j':J} (h:dL k a=some false) (hk:VR Z w j k uk) (ha:VR Z w j' a ua):uk≠ua:=by
 rintro rfl
 unfold dL at h
 split at h
 ·cases hk;cases ha;grind
 ·split at h
  ·rename_i e
   subst e
   cases hk;cases ha;grind
  grind
 ·cases hk;cases ha;grind
 grind
theorem Z5 (s:SR P Z w j mem) {t:TypeId} {m:V} {es out:List (V × V)} {k x:V} {um uk ux:Value} (hm:fd mem m=some es) (hfit:lZ P t k=true) (hx:x.inMap=true)
  (hp:ix es k x=some out) (hvm:VR Z w j m um) (hvk:VR Z w j k uk) (hvx:VR Z w j x ux) :
  ∃w1,(Instr.mapUpdate t um uk ux).run P w = .ok () w1/\cC P Z w j mem (.tup []) (qp mem m out) undef w1:=by
 obtain ⟨kt,e',d,hu,hkt,hd,hik,hfl⟩:=Eo hfit hvk
 obtain ⟨rr,rfl,es',clock,h2,h3,h4,h5⟩:=Aj s hm hvm
 rcases Xk hp with ⟨hf,rfl⟩ | ⟨i,a,y,g1,g2,g3,hf,rfl⟩
 ·rcases wU hd hvk hik es es'.toList 0 none hf (by grind) (by grind) with ⟨_,hn⟩ | ⟨i',a,x',e',hne,_⟩
  ·refine ⟨_,by simp [Instr.mapUpdate,run_underlying hu,MapKept.run_getObj_map h2,run_checkKey hkt hik,run_findKey hkt hn,MapKept.run_setObj_map _ h2];rfl,?_⟩
   refine Al s hm hvm h2 (by grind) (fun i a x' hi=>?_) h5.1 (MapKept.stamped_push h5.2 fun x hx e=>?_)
   rotate_left
   ·obtain ⟨i,hi⟩:=vT hx
    have hil:=(bj.1 hi).1
    obtain ⟨e1,q1,q2,_,q3,_⟩:=h4 i _ _ (bC (show i < es.length by grind))
    simp only [ye] at hi
    rw [hi] at q1;cases q1
    exact oE (JQ hf _ (vU _)) hvk q3 e.symm
   by_cases aC:i < es.length
   ·grind
   ·rw [cY (by omega)] at hi
    have e0:i=es.length:=by grind
    subst e0
    simp at hi
    obtain ⟨rfl,rfl⟩:=hi
    exact ⟨⟨uk,ux,clock⟩,by grind,hfl,hx,hvk.flat hfl j0,hvx.inMap0 hx j0⟩
  grind
 ·rcases wU hd hvk hik es es'.toList 0 (some y) hf (by grind) (by grind) with ⟨hne,_⟩ | ⟨i',a',x',e',_,q1,q2,hn,_,q3,q4⟩
  ·grind
  ·have ei:=Nu g1 g2 g3 q1 q3 q4
   subst ei
   rw [q1] at g1
   cases g1
   obtain ⟨e0,w1,w2,w3,w4,w5⟩:=h4 i a y q1
   have q2':es'[i]? = some e':=by grind
   rw [q2'] at w1;cases w1
   have hkk:e'.key=uk:=by
    rw [<-S1 q3] at w4
    exact Tn hfl w4 hvk
   rw [dZ] at hn
   refine ⟨_,by simp [Instr.mapUpdate,run_underlying hu,MapKept.run_getObj_map h2,run_checkKey hkt hik,run_findKey hkt hn,q2',hkk,run_keyThatStays hik,MapKept.run_setObj_map _ h2];rfl,?_⟩
   refine Al s hm hvm h2 (by grind) (fun i2 a2 x2 hi=>?_) h5.1 (MapKept.stamped_modify h5.2 i _ (fun e _=>rfl) fun e _ he=>?_)
   rotate_left
   ·grind
   by_cases e2:i=i2
   ·subst e2
    have aC:i < es.length:=(bj.1 q1).1
    rw [fj aC] at hi
    cases hi
    refine ⟨{ e' with key:=uk,val:=ux },by grind,w2,hx,?_,hvx.inMap0 hx j0⟩
    grind
   grind
theorem QK {k:V}:∀{es out:List (V × V)},lr es k=some out ->
  (en es k=some none/\out=es) ∨
  ∃(i:Nat) (a y:V),es[i]? = some (a,y)/\dL k a=some true/\(∀i' a' x',i' < i->es[i']? = some (a',x')->dL k a'=some false)/\en es k=some (some y)/\out=es.eraseIdx i:=by
 intro es
 induction es with
 | nil=>intro out h;simp [lr] at h;subst h;exact .inl ⟨rfl,rfl⟩
 | cons p es ih =>
  intro out h
  obtain ⟨a,y⟩:=p
  simp only [lr] at h
  cases hb:dL k a with
  | none=>grind
  | some b =>
   cases b
   ·cases hr:lr es k with
    | none=>grind
    | some rest =>
     simp [hb,hr] at h
     subst h
     rcases ih hr with ⟨h1,rfl⟩ | ⟨i,a',y',h1,h2,h3,h4,rfl⟩
     ·exact .inl ⟨by simp [en,hb,h1],rfl⟩
     ·refine .inr ⟨i+1,a',y',by grind,h2,fun i' a'' x'' hi he=>?_,by simp [en,hb,h4],rfl⟩
      grind
   ·simp [hb] at h
    subst h
    exact .inr ⟨0,a,y,rfl,hb,fun i' _ _ hi=>by omega,by simp [en,hb],rfl⟩
theorem QN (s:SR P Z w j mem) {t ty:TypeId} {m:V} {es out:List (V × V)} {k:V} {um uk:Value} {ts:Array TypeId} {us:Array Value} (ht:ts[0]? = some t) (hu0:us[0]? = some um) (hu1:us[1]? = some uk)
  (hm:fd mem m=some es) (hfit:lZ P t k=true) (hp:lr es k=some out) (hvm:VR Z w j m um) (hvk:VR Z w j k uk) :
  ∃w1,(Builtin.delete_ ts ty us).run P w = .ok undef w1/\cC P Z w j mem (.tup []) (qp mem m out) undef w1:=by
 obtain ⟨kt,e',d,hu,hkt,hd,hik,hfl⟩:=Eo hfit hvk
 obtain ⟨rr,rfl,es',clock,h2,h3,h4,h5⟩:=Aj s hm hvm
 rcases QK hp with ⟨hf,he⟩ | ⟨i,a,y,g1,g2,g3,hf,rfl⟩
 ·subst he
  rcases wU hd hvk hik out es'.toList 0 none hf (by grind) (by grind) with ⟨_,hn⟩ | ⟨i',a,x',e',hne,_⟩
  ·refine ⟨_,by simp [Builtin.delete_,ht,hu0,hu1,run_underlying hu,MapKept.run_getObj_map h2,run_checkKey hkt hik,run_findKey hkt hn,MapKept.run_setObj_map _ h2,undef];rfl,?_⟩
   exact Al s hm hvm h2 h3 h4 h5.1 h5.2
  grind
 ·rcases wU hd hvk hik es es'.toList 0 (some y) hf (by grind) (by grind) with ⟨hne,_⟩ | ⟨i',a',x',e',_,q1,q2,hn,_,q3,q4⟩
  ·grind
  ·have ei:=Nu g1 g2 g3 q1 q3 q4
   subst ei
   rw [dZ] at hn
   have aC:i < es.length:=(bj.1 q1).1
   refine ⟨_,by simp [Builtin.delete_,ht,hu0,hu1,run_underlying hu,MapKept.run_getObj_map h2,run_checkKey hkt hik,run_findKey hkt hn,MapKept.run_setObj_map _ h2,undef];rfl,?_⟩
   have her:es'.eraseIdxIfInBounds i=(es'.toList.eraseIdx i).toArray:=by
    grind
   refine Al s hm hvm h2 (by grind) (fun i2 a2 x2 hi=>?_) h5.1 (MapKept.stamped_erase h5.2 i)
   grind
theorem Gw (s:SR P Z w j mem) {sv:V} {u:Value} {id off len fz:Nat} {e:TypeId} {els:List V} (h:tq mem sv=some (id,off,len)) (hm:mem[id]? = some (.row e els fz)) (hv:VR Z w j sv u):VR Z w j (.win id off len) u:=by
 cases sv<;>simp only [tq] at h<;>first | (cases h;done) | skip
 case win a b c=>grind
 case tail a b =>
  split at h
  ·rename_i hm'
   cases h
   rw [hm] at hm';cases hm'
   exact (vI s hm hv).2
  grind
 case own a =>
  split at h
  ·rename_i hm'
   cases h
   rw [hm] at hm';cases hm'
   obtain ⟨hn,hh,hr⟩:=s.obj id _ hm
   cases hv with
   | own hj h0 =>
    rw [hj] at hh;cases hh
    obtain ⟨h1,h2,h3,h4,h5⟩:=hr
    rcases h5 with ⟨hu,he⟩ | ⟨g,b,c,us,hu,hlc,_⟩
    ·cases hu;subst he
     exact .win hj (bG _) (bG _) rfl (.inl ⟨rfl,rfl⟩)
    ·cases hu
     exact .win hj (by simp) hlc (by simp) (.inr ⟨g,b,0,rfl,rfl,by simp,by simp⟩)
  grind
theorem Qs (s:SR P Z w j mem) {t tx ty:TypeId} {sv x v:V} {u ux:Value} (hty:kK P t tx x=true) (h:wH P mem t sv x=some (v,mem')) (hv:VR Z w j sv u) (hx:VR Z w j x ux) :
  ∃r w1,(Builtin.copy_ #[t,tx] ty #[u,ux]).run P w = .ok r w1/\cC P Z w j mem v mem' r w1:=by
 unfold wH at h
 simp only [obi] at h
 obtain ⟨e,he,xs,hxs,⟨id,off,len⟩,hsp,h⟩:=h
 have ht:P.underlying t=some (.slice e):=by
  unfold ef at he
  grind
 simp only at h
 split at h
 rotate_left
 ·cases h
 rename_i e' els fz hm
 split at h
 rotate_left
 ·cases h
 rename_i hc
 obtain ⟨rfl,hall,hfz,hend⟩:=hc
 cases h
 have hw:=Gw s hsp hm hv
 have hall':∀y∈xs,y.cells.length=P.cellsOf e':=fun y hy=>by grind
 obtain ⟨hn,hh,hr⟩:=s.obj id _ hm
 obtain ⟨h1,h2,h3,h4,h5⟩:=hr
 have hpos:0 < P.cellsOf e':=by grind
 obtain ⟨news,ha,hnr⟩:=B3 s hty ht hpos hxs hall' hx
 obtain ⟨i,hi,his,_⟩:=sj hpos
 cases hw with
 | win hj hnn hlc hcc hA =>
 rename_i n c sz c' A A'
 rw [hj] at hh;cases hh
 simp only at h1 h2 h4 h5
 subst h1
 obtain ⟨m,hmd⟩:∃m,m=min xs.length len:=⟨_,rfl⟩
 rw [<-hmd]
 have hml:m<=len:=by omega
 have hmx:m<=xs.length:=by omega
 have hnm:Nat.min xs.length len=m:=hmd.symm
 have hfc:=ha.cells m w hmx rfl
 rw [<-his] at hfc
 have hrun:(Builtin.copy_ #[t,tx] ty #[.slice A' len c',ux]).run P w=(match A' with | some a=>(storeCells a (news.take (m * i.size))).run P w | none=>.ok () w).andThen fun _ w1=>.ok (goInt m) w1:=by
  have hlen:=ha.len w
  cases A'<;>simp [Builtin.copy_,run_underlying ht,hlen,sizeOf,typeInfo,hi,hnm,hfc]
 by_cases hm0:m=0
 ·subst hm0
  have he1:els.take off++xs.take 0++els.drop (off+0)=els:=by simp
  rw [he1]
  have he2:mem.set id (.row e' els fz)=mem:=by
   apply tK
   grind
  rw [he2]
  refine ⟨goInt 0,w,?_,dF s .int⟩
  rw [hrun]
  cases A'<;>simp [storeCells]
 ·rcases h5 with ⟨_,hel⟩ | ⟨g,b,c2,us,hu,hlc2,hcm,hg,hus,hcells,hz1,hz2⟩
  ·grind
  ·simp only [Value.slice.injEq] at hu
   obtain ⟨rfl,rfl,rfl⟩:=hu
   rcases hA with ⟨hA,_⟩ | ⟨g',b',o,hA,rfl,ho1,ho2⟩
   ·grind
   cases hA
   have ho:o=off * P.cellsOf e':=ho2 (by omega)
   subst ho
   obtain ⟨vals,hvd⟩:∃vals,vals=news.take (m * P.cellsOf e'):=⟨_,rfl⟩
   have hvl:vals.length=m * P.cellsOf e':=by
    rw [hvd,gq,ha.size]
    simp_all
   have hsz1:(off+m) * P.cellsOf e'<=els.length * P.cellsOf e':=cO _ (by omega)
   have hsz2:els.length * P.cellsOf e'<=c * P.cellsOf e':=cO _ hlc2
   rw [ij] at hsz1
   have hus:b+c * P.cellsOf e'<=us.size:=hus
   obtain ⟨p,hp⟩:∃p,p=b+off * P.cellsOf e':=⟨_,rfl⟩
   have hpl:p+vals.length<=us.size:=by omega
   obtain ⟨q1,q2,q3⟩:=xZ (w:=w) (p:=p) (vals:=vals) hg hpl
   have hone:∀v∈vals,v.oneCell'=true:=fun v hv=>ha.one v (mE (hvd ▸ hv))
   have hst:=run_storeCells_at P g p e' vals 0 us w hg (by grind) hone
   simp only [dK] at hst
   refine ⟨goInt m,w.setRow g (us.toList.take p++vals++us.toList.drop (p+vals.length)).toArray,?_,?_⟩
   ·simp_all
   obtain ⟨w1,hw1⟩:∃w1,w1=w.setRow g (us.toList.take p++vals++us.toList.drop (p+vals.length)).toArray:=⟨_,rfl⟩
   have hot:∀k,k≠g->w1.heap[k]? = w.heap[k]?:=fun k hk=>by rw [hw1];exact setRow_other w g k _ hk
   rw [<-hw1] at q1 q3 |-
   have hfz':fz * P.cellsOf e'<=off * P.cellsOf e':=cO _ hfz
   have hz':be Z w Z w1:=by
    refine .of fun g' x hx=>⟨hx,?_⟩
    by_cases e:g'=g
    ·subst e
     have h7:x < b+fz * P.cellsOf e':=(hz1 x hx).2
     refine ⟨by rw [q3 x,if_neg (by omega),eG hg],?_⟩
     simp only [gy,q1,hg,q2]
    ·exact gC (hot g' e) x
   have hbk:cf j id=some g:=by simp [cf,hj,bz.blk]
   have hne:∀g',cf j id≠some g'->g'≠g:=by
    grind
   have hrow:OR P Z w1 j id (.row e' (els.take off++xs.take m++els.drop (off+m)) fz):=by
    have hto:(els.take off).length=off:=by simp;omega
    have htx:(xs.take m).length=m:=by grind
    have hlen':(els.take off++xs.take m++els.drop (off+m)).length=els.length:=by grind
    refine ⟨_,hj,rfl,hpos,by grind,fun z hz=>?_,.inr ⟨g,b,c,_,by grind,by grind,hcm,q1,by grind,fun k x hk i y hy=>?_,hz1,hz2⟩⟩
    ·grind
    ·show _/\∃u,w1.cell? ⟨g,b+k * P.cellsOf e'+i,none⟩=some u/\_
     rw [q3]
     have old:∀x,els[k]? = some x->x.cells[i]? = some y->(k < off∨off+m<=k)->y.one=true/\∃u,(if p<=b+k * P.cellsOf e'+i/\b+k * P.cellsOf e'+i < p+vals.length then vals[b+k * P.cellsOf e'+i - p]? else us[b+k * P.cellsOf e'+i]?)=some u/\VR Z w1 j0 y u:=by
      intro x hk hy hkk
      have hil:i < P.cellsOf e':=by grind
      have hout:¬(p<=b+k * P.cellsOf e'+i/\b+k * P.cellsOf e'+i < p+vals.length):=by
       rintro ⟨r1,r2⟩
       rcases hkk with hk1 | hk1
       ·have:(k+1) * P.cellsOf e'<=off * P.cellsOf e':=cO _ hk1
        grind
       ·have:(off+m) * P.cellsOf e'<=k * P.cellsOf e':=cO _ hk1
        grind
      rw [if_neg hout]
      obtain ⟨a,u',hu'',hvv⟩:=hcells k x hk i y hy
      rw [eG hg] at hu''
      exact ⟨a,u',hu'',hvv.mono hz' (aQ.refl _)⟩
     by_cases hk1:k < off
     ·grind
     ·rw [bu,cY (by omega),hto] at hk
      by_cases hk2:k - off < m
      ·rw [db (by omega),gI,if_pos hk2] at hk
       have hil:i < P.cellsOf e':=by grind
       obtain ⟨a,u',hu',hvv⟩:=hnr _ x i y hk hy
       have e1:k * P.cellsOf e'=off * P.cellsOf e'+(k - off) * P.cellsOf e':=by rw [<-ij];grind
       have e2:(k - off+1) * P.cellsOf e'<=m * P.cellsOf e':=cO _ (by omega)
       rw [jX] at e2
       rw [if_pos (by omega),show b+k * P.cellsOf e'+i - p=(k - off) * P.cellsOf e'+i by omega,hvd,gI,if_pos (by omega)]
       exact ⟨a,u',hu',hvv.mono hz' (aQ.refl _)⟩
      ·rw [cY (by omega),htx,gf,show off+m+(k - off - m)=k by omega] at hk
       grind
   refine ⟨Z,j,.int,s.set hm (fun _=>rfl) hz' (fun g' hg'=>⟨hot g' (hne g' hg'),fun _=>Iff.rfl⟩) (fun g' x hx=>?_) (fun h=>by cases h) hrow,?_,aQ.refl _⟩
   ·have:=s.zin g' x hx
    simp_all
   ·exact aI.set hm (fun _=>rfl) rfl hz' (fun g' hg'=>⟨hot g' (hne g' hg'),fun _=>Iff.rfl⟩) (by simp_all) (by simp_all) (by simp_all) (by simp_all)
theorem U4 (s:SR P Z w j mem) {id off m fz:Nat} {e':TypeId} {els xs:List V} {vals:List Value} {v:V} {r:Value} (hm:mem[id]? = some (.row e' els fz)) {g b c:Nat} {us:Array Value}
  (hj:j id=some ⟨.slice (some ⟨g,b,none⟩) els.length c,P.cellsOf e'⟩) (hlc2:els.length<=c) (hcm:c<=maxLen) (hg:w.heap[g]? = some (.cells us e' (0,0))) (hus:b+c * P.cellsOf e'<=us.size) (hpos:0 < P.cellsOf e')
  (h3:fz<=els.length) (h4:∀x∈els,x.cells.length=P.cellsOf e') (hcells:∀k x,els[k]? = some x->dY Z w j0 g (b+k * P.cellsOf e') x.cells) (hz1:∀o,Z g o->0 < fz/\o < b+fz * P.cellsOf e') (hz2:∀o,o < fz * P.cellsOf e'->Z g (b+o))
  (hfz:fz<=off) (hend:off+m<=els.length) (hxm:xs.length=m) (hall':∀y∈xs,y.cells.length=P.cellsOf e') (hvl:vals.length=m * P.cellsOf e')
  (hnr:∀(k:Nat) (x:V) (i:Nat) (y:V),xs[k]? = some x->x.cells[i]? = some y->y.one=true/\∃u,vals[k * P.cellsOf e'+i]? = some u/\VR Z w j0 y u) (hv:∀Z' w',VR Z' w' j v r) :
  cC P Z w j mem v (mem.set id (.row e' (els.take off++xs++els.drop (off+m)) fz)) r (w.setRow g (us.toList.take (b+off * P.cellsOf e')++vals++us.toList.drop (b+off * P.cellsOf e'+vals.length)).toArray):=by
 have hsz1:(off+m) * P.cellsOf e'<=els.length * P.cellsOf e':=cO _ (by omega)
 have hsz2:els.length * P.cellsOf e'<=c * P.cellsOf e':=cO _ hlc2
 rw [ij] at hsz1
 obtain ⟨p,hp⟩:∃p,p=b+off * P.cellsOf e':=⟨_,rfl⟩
 rw [<-hp]
 have hpl:p+vals.length<=us.size:=by omega
 obtain ⟨q1,q2,q3⟩:=xZ (w:=w) (p:=p) (vals:=vals) hg hpl
 obtain ⟨w1,hw1⟩:∃w1,w1=w.setRow g (us.toList.take p++vals++us.toList.drop (p+vals.length)).toArray:=⟨_,rfl⟩
 have hot:∀k,k≠g->w1.heap[k]? = w.heap[k]?:=fun k hk=>by rw [hw1];exact setRow_other w g k _ hk
 rw [<-hw1] at q1 q3 |-
 have hfz':fz * P.cellsOf e'<=off * P.cellsOf e':=cO _ hfz
 have hz':be Z w Z w1:=by
  refine .of fun g' x hx=>⟨hx,?_⟩
  by_cases e:g'=g
  ·subst e
   have h7:x < b+fz * P.cellsOf e':=(hz1 x hx).2
   refine ⟨by rw [q3 x,if_neg (by omega),eG hg],?_⟩
   simp only [gy,q1,hg,q2]
  ·exact gC (hot g' e) x
 have hbk:cf j id=some g:=by simp [cf,hj,bz.blk]
 have hne:∀g',cf j id≠some g'->g'≠g:=by
  grind
 have hrow:OR P Z w1 j id (.row e' (els.take off++xs++els.drop (off+m)) fz):=by
  have hto:(els.take off).length=off:=by simp;omega
  have hlen':(els.take off++xs++els.drop (off+m)).length=els.length:=by grind
  refine ⟨_,hj,rfl,hpos,by grind,fun z hz=>?_,.inr ⟨g,b,c,_,by grind,by grind,hcm,q1,by grind,fun k x hk i y hy=>?_,hz1,hz2⟩⟩
  ·grind
  ·show _/\∃u,w1.cell? ⟨g,b+k * P.cellsOf e'+i,none⟩=some u/\_
   rw [q3]
   have old:∀x,els[k]? = some x->x.cells[i]? = some y->(k < off∨off+m<=k)->y.one=true/\∃u,(if p<=b+k * P.cellsOf e'+i/\b+k * P.cellsOf e'+i < p+vals.length then vals[b+k * P.cellsOf e'+i - p]? else us[b+k * P.cellsOf e'+i]?)=some u/\VR Z w1 j0 y u:=by
    intro x hk hy hkk
    have hil:i < P.cellsOf e':=by grind
    have hout:¬(p<=b+k * P.cellsOf e'+i/\b+k * P.cellsOf e'+i < p+vals.length):=by
     rintro ⟨r1,r2⟩
     rcases hkk with hk1 | hk1
     ·have:(k+1) * P.cellsOf e'<=off * P.cellsOf e':=cO _ hk1
      grind
     grind
    rw [if_neg hout]
    obtain ⟨a,u',hu'',hvv⟩:=hcells k x hk i y hy
    rw [eG hg] at hu''
    exact ⟨a,u',hu'',hvv.mono hz' (aQ.refl _)⟩
   by_cases hk1:k < off
   ·grind
   ·rw [bu,cY (by omega),hto] at hk
    by_cases hk2:k - off < m
    ·rw [db (by omega)] at hk
     have hil:i < P.cellsOf e':=by grind
     obtain ⟨a,u',hu',hvv⟩:=hnr _ x i y hk hy
     have e1:k * P.cellsOf e'=off * P.cellsOf e'+(k - off) * P.cellsOf e':=by rw [<-ij];grind
     have e2:(k - off+1) * P.cellsOf e'<=m * P.cellsOf e':=cO _ (by omega)
     rw [jX] at e2
     rw [if_pos (by omega),show b+k * P.cellsOf e'+i - p=(k - off) * P.cellsOf e'+i by omega]
     exact ⟨a,u',hu',hvv.mono hz' (aQ.refl _)⟩
    ·rw [cY (by omega),hxm,gf,show off+m+(k - off - m)=k by omega] at hk
     grind
 refine ⟨Z,j,hv _ _,s.set hm (fun _=>rfl) hz' (fun g' hg'=>⟨hot g' (hne g' hg'),fun _=>Iff.rfl⟩) (fun g' x hx=>?_) (fun h=>by cases h) hrow,?_,aQ.refl _⟩
 ·have:=s.zin g' x hx
  simp_all
 ·exact aI.set hm (fun _=>rfl) rfl hz' (fun g' hg'=>⟨hot g' (hne g' hg'),fun _=>Iff.rfl⟩) (by simp_all) (by simp_all) (by simp_all) (by simp_all)
theorem P6 (s:SR P Z w j mem) {t ty:TypeId} {sv v:V} {u:Value} (h:wE P mem t sv=some (v,mem')) (hv:VR Z w j sv u) :
  ∃r w1,(Builtin.clear_ #[t] ty #[u]).run P w = .ok r w1/\cC P Z w j mem v mem' r w1:=by
 unfold wE at h
 simp only [obi] at h
 obtain ⟨e,he,⟨id,off,len⟩,hsp,h⟩:=h
 have ht:P.underlying t=some (.slice e):=by
  unfold ef at he
  grind
 simp only at h
 split at h
 rotate_left
 ·cases h
 rename_i e' els fz hm
 split at h
 rotate_left
 ·cases h
 rename_i hc
 obtain ⟨rfl,hroom,hfz,hend⟩:=hc
 simp only [obi,omi] at h
 obtain ⟨z,hz,z',hz',h⟩:=h
 cases h
 have tup:∀(Z:Zs) (w:World),VR Z w j (.tup []) (.tuple #[]):=fun Z w=>.tup (us:=[]) rfl (fun i c u hc=>by grind)
 have hw:=Gw s hsp hm hv
 obtain ⟨hn,hh,h1,h2,h3,h4,h5⟩:=s.obj id _ hm
 have hpos:0 < P.cellsOf e':=by grind
 cases hw with
 | win hj hnn hlc hcc hA =>
 rename_i n c sz c' A A'
 rw [hj] at hh;cases hh
 simp only at h1 h2 h4 h5
 subst h1
 by_cases hm0:len=0
 ·subst hm0
  have he1:els.take off++bE 0 z'++els.drop (off+0)=els:=by simp
  rw [he1]
  have he2:mem.set id (.row e' els fz)=mem:=by
   apply tK
   grind
  rw [he2]
  refine ⟨.tuple #[],w,?_,dF s (tup _ _)⟩
  cases A'<;>simp [Builtin.clear_,run_underlying ht]
 ·rcases h5 with ⟨_,hel⟩ | ⟨g,b,c2,us,hu,hlc2,hcm,hg,hus,hcells,hz1,hz2⟩
  ·grind
  ·simp only [Value.slice.injEq] at hu
   obtain ⟨rfl,rfl,rfl⟩:=hu
   rcases hA with ⟨hA,_⟩ | ⟨g',b',o,hA,rfl,ho1,ho2⟩
   ·grind
   cases hA
   have ho:o=off * P.cellsOf e':=ho2 (by omega)
   subst ho
   obtain ⟨i,zv,hi,hzv,hvz,_⟩:=rc (P:=P) (Z:=Z) (w:=w) (j:=j) hz
   have hcellsz:=xc hz'
   obtain ⟨hm1,hm2⟩:=iR hcellsz
   have hone:∀y∈z.cells,y.one=true:=by
    intro y hy
    obtain ⟨k,hk,rfl⟩:=jR hy
    obtain ⟨y',_,hy'⟩:=Ak hcellsz k _ (bC hk)
    exact (w9 hy').1
   obtain ⟨hcs,hcl⟩:=hvz.cellsOf hone
   obtain ⟨x0,hx0⟩:∃x0,els[off]? = some x0:=⟨_,bC (by omega)⟩
   obtain ⟨i2,hi2,his,_⟩:=sj hpos
   rw [hi] at hi2;cases hi2
   have hzs:zv.cells.size=P.cellsOf e':=by
    obtain ⟨_,_,_,i3,zv3,hi3,_,_,hz3,hzs3⟩:=jk hroom
    grind
   have hzl:z'.cells.length=P.cellsOf e':=by grind
   have hzone:∀v∈zv.cells.toList,v.oneCell'=true:=by
    intro v hv
    obtain ⟨k,hk,rfl⟩:=jR hv
    have hk':k < zv.cells.size:=by grind
    obtain ⟨cu,hcu,hvr⟩:=hcl k _ (bC (by omega))
    have:zv.cells.toList[k]=cu:=by
     grind
    rw [this]
    exact hvr.oneCell (hone _ (vU _))
   obtain ⟨vals,hvd⟩:∃vals,vals=(Builtin.zeroCells zv.cells len).toList:=⟨_,rfl⟩
   have hvl:vals.length=len * P.cellsOf e':=by rw [hvd];simp [Builtin.zeroCells,hzs]
   have hvone:∀v∈vals,v.oneCell'=true:=by
    intro v hv
    rw [hvd] at hv
    simp only [Builtin.zeroCells,Array.toList_map,dP,Array.mem_toList_iff,Array.mem_range] at hv
    obtain ⟨q,hq,rfl⟩:=hv
    have aC:q % zv.cells.size < zv.cells.size:=Nat.mod_lt _ (by omega)
    grind
   have hsz1:(off+len) * P.cellsOf e'<=els.length * P.cellsOf e':=cO _ (by omega)
   have hsz2:els.length * P.cellsOf e'<=c * P.cellsOf e':=cO _ hlc2
   rw [ij] at hsz1
   have hst:=run_storeCells_at P g (b+off * P.cellsOf e') e' vals 0 us w hg (by grind) hvone
   simp only [dK] at hst
   refine ⟨.tuple #[],_,?_,U4 (vals:=vals) (m:=len) (xs:=bE len z') s hm hj hlc2 hcm hg hus hpos h3 h4 hcells hz1 hz2 hfz hend (by simp) (fun y hy=>by grind) hvl (fun k x q y hk hy=>?_) tup⟩
   ·obtain ⟨m,rfl⟩:∃m,len=m+1:=⟨len - 1,by omega⟩
    simp [Builtin.clear_,run_underlying ht,zeroValue,typeInfo,hi,hzv,<-hvd,hst]
   ·have hx:=vR (cG hk)
    subst hx
    have hkl:k < len:=by grind
    have hq:q < P.cellsOf e':=by grind
    obtain ⟨y0,hy0,hyi⟩:=hm2 q y hy
    obtain ⟨cu,hcu,hvr⟩:=hcl q y0 hy0
    obtain ⟨p1,p2,_⟩:=lW hyi hvr
    refine ⟨p2,cu,?_,p1⟩
    have hlt2:k * P.cellsOf e'+q < len * zv.cells.size:=by
     have:(k+1) * P.cellsOf e'<=len * P.cellsOf e':=cO _ (by omega)
     grind
    rw [hvd]
    unfold Builtin.zeroCells
    rw [ye,Bz,G0,if_pos hlt2]
    simp only [cg]
    have hmod:(k * P.cellsOf e'+q) % zv.cells.size=q:=by
     rw [hzs,py,Hq,yw hq]
    grind
theorem Lb {t:TypeId} {a b v:V} {ua ub:Value} (h:oH P mem t a b=some (v,mem')) (ha:VR Z w j a ua) (hb:VR Z w j b ub) :
  ∃e us els c,(Instr.makeSlice t ua ub).run P w = .ok (.slice (some ⟨w.heap.size,0,none⟩) els.length c) (w.alloc (.cells us e))/\v = .own mem.length/\mem'=mem++[.row e els 0]/\0 < P.cellsOf e/\(∀x∈els,x.cells.length=P.cellsOf e) /\
   els.length<=c/\c<=maxLen/\us.size=c * P.cellsOf e/\∀(k:Nat) (x:V) (i:Nat) (y:V),els[k]? = some x->x.cells[i]? = some y->y.one=true/\∃u,us[k * P.cellsOf e+i]? = some u/\VR Z w j0 y u:=by
 unfold oH at h
 simp only [obi] at h
 obtain ⟨e,he,h⟩:=h
 have ht:P.underlying t=some (.slice e):=by
  unfold ef at he
  cases hu:P.underlying t with
  | none=>simp [hu] at he
  | some d=>cases d<;>simp [hu] at he;subst he;rfl
 split at h
 rotate_left
 ·cases h
 rename_i kl l kc c
 cases ha;cases hb
 split at h
 rotate_left
 ·cases h
 rename_i hc
 obtain ⟨h0,hlc,hroom⟩:=hc
 simp only [obi,omi] at h
 obtain ⟨z,hz,z',hz',h⟩:=h
 cases h
 obtain ⟨hn,hby,hpos,i,zv,hi,his,hib,hzv,hzs⟩:=jk hroom
 obtain ⟨i2,zv2,hi2,hzv2,hvz,_⟩:=rc (P:=P) (Z:=Z) (w:=w) (j:=j) hz
 rw [hi] at hi2;cases hi2
 rw [hzv] at hzv2;cases hzv2
 have hcells:=xc hz'
 obtain ⟨hm1,hm2⟩:=iR hcells
 have hone:∀y∈z.cells,y.one=true:=by
  intro y hy
  obtain ⟨k,hk,rfl⟩:=jR hy
  obtain ⟨y',_,hy'⟩:=Ak hcells k _ (bC hk)
  exact (w9 hy').1
 obtain ⟨hcs,hcl⟩:=hvz.cellsOf hone
 have hzl:z'.cells.length=P.cellsOf e:=by rw [hm1,<-hcs,hzs]
 have hbytes:(i.bytes:Int) * c<=281474976710656:=by
  have h1:i.bytes * c.toNat<=4096 * 16777216:=yy (by rw [hib];exact hby) hn
  have h2:((i.bytes * c.toNat:Nat):Int)=(i.bytes:Int) * c:=by rw [Int.natCast_mul];congr 1;omega
  omega
 have hrun:=run_make (P:=P) w t e i zv ht hi hzv kl kc l c h0 hlc hbytes (by omega)
 have aC:l.toNat<=c.toNat:=by omega
 refine ⟨e,madeCells zv.cells (c.toNat * i.size),bE l.toNat z',c.toNat,by rw [vV];exact hrun,rfl,rfl,hpos,fun x hx=>by rw [vR hx];exact hzl,by simpa using aC,by simp only [maxLen];omega,by rw [size_madeCells,his],?_⟩
 intro k x q y hk hy
 have hx:=vR (cG hk)
 subst hx
 have hkl:k < l.toNat:=by have:=(bj.1 hk).1;simpa using this
 have hq:q < P.cellsOf e:=by rw [<-hzl];exact (bj.1 hy).1
 obtain ⟨y0,hy0,hyi⟩:=hm2 q y hy
 obtain ⟨cu,hcu,hvr⟩:=hcl q y0 hy0
 obtain ⟨p1,p2,_⟩:=lW hyi hvr
 refine ⟨p2,cu,?_,p1⟩
 have hlt2:k * P.cellsOf e+q < c.toNat * i.size:=by
  have:(k+1) * P.cellsOf e<=c.toNat * P.cellsOf e:=cO _ (by omega)
  rw [jX] at this
  rw [his];omega
 unfold madeCells
 rw [Bz,G0,if_pos hlt2]
 simp only [cg]
 have hmod:(k * P.cellsOf e+q) % zv.cells.size=q:=by
  rw [hzs,py,Hq,yw hq]
 rw [hmod]
 have hqs:q < zv.cells.size:=by rw [hzs];exact hq
 rw [getElem!_pos zv.cells q hqs]
 rw [eW hqs] at hcu
 exact hcu
theorem VD (s:SR P Z w j mem) {t:TypeId} {a b v:V} {ua ub:Value} (h:oH P mem t a b=some (v,mem')) (ha:VR Z w j a ua) (hb:VR Z w j b ub) :
  ∃r w1,(Instr.makeSlice t ua ub).run P w = .ok r w1/\cC P Z w j mem v mem' r w1:=by
 obtain ⟨e,us,els,c,h1,rfl,rfl,p1,p2,p3,p4,p5,p6⟩:=Lb h ha hb
 exact ⟨_,_,h1,xH s rfl rfl rfl rfl p1 p2 (iE _) p3 p4 p5 p6⟩
theorem Pd (s:SR P Z w j mem) {t tn ty:TypeId} {sv x v:V} {u ux:Value} (h:rz P mem t tn sv x=some (v,mem')) (hs:VR Z w j sv u) (hx:VR Z w j x ux) :
  ∃r w1,(Builtin.append_ #[t,tn] ty #[u,ux]).run P w = .ok r w1/\cC P Z w j mem v mem' r w1:=by
 unfold rz at h
 split at h
 rotate_left
 ·cases h
 rename_i kn n htn
 cases hs;cases hx
 simp only [obi] at h
 obtain ⟨e,he,h⟩:=h
 have ht:P.underlying t=some (.slice e):=by
  unfold ef at he
  cases hu:P.underlying t with
  | none=>simp [hu] at he
  | some d=>cases d<;>simp [hu] at he;subst he;rfl
 split at h
 rotate_left
 ·cases h
 rename_i hc
 obtain ⟨h0,hroom⟩:=hc
 simp only [obi,omi] at h
 obtain ⟨z,hz,z',hz',h⟩:=h
 cases h
 obtain ⟨hn,hby,hpos,i,zv,hi,his,hib,hzv,hzs⟩:=jk hroom
 obtain ⟨i2,zv2,hi2,hzv2,hvz,_⟩:=rc (P:=P) (Z:=Z) (w:=w) (j:=j) hz
 rw [hi] at hi2;cases hi2
 rw [hzv] at hzv2;cases hzv2
 have hcells:=xc hz'
 obtain ⟨hm1,hm2⟩:=iR hcells
 have hone:∀y∈z.cells,y.one=true:=by
  intro y hy
  obtain ⟨k,hk,rfl⟩:=jR hy
  obtain ⟨y',_,hy'⟩:=Ak hcells k _ (bC hk)
  exact (w9 hy').1
 obtain ⟨hcs,hcl⟩:=hvz.cellsOf hone
 have hzl:z'.cells.length=P.cellsOf e:=by rw [hm1,<-hcs,hzs]
 obtain ⟨N,rfl⟩:∃N:Nat,n=(N:Int):=⟨n.toNat,by omega⟩
 rw [Int.toNat_natCast] at hn hroom |-
 have hbytes:N * i.bytes<=140737488355328:=by
  rw [hib]
  exact lD (yy hn hby) (by decide)
 have hrun:=Lib.run_append_grow_zeros w t tn ty e i zv .i64 kn ht htn hi hzv none 0 0 [] (run_firstCells_none w.drew i.size 0 0 0) N (by omega) (by omega) (by omega) (by omega) (by omega) (growslice_fits (by omega) (by simpa using hbytes))
 rw [dZ] at hrun
 have hcp:N<=grownCap w N 0 e:=by
  exact grownCap_ge w N 0 e
 have hcm:grownCap w N 0 e<=maxLen:=grownCap_le_maxLen w _ _ e (by simp only [maxLen];omega)
 have hp:=xH (fz:=0) (els:=bE N z') (us:=#[].append (Builtin.zeroCells zv.cells N)++Builtin.zeroCells zv.cells (grownCap w N 0 e - N)) (c:=grownCap w N 0 e) (w1:=w.drew.alloc (.cells ([].toArray++Builtin.zeroCells zv.cells N++Builtin.zeroCells zv.cells (grownCap w N 0 e - N)) e)) s rfl rfl rfl rfl hpos (fun x hx=>by rw [vR hx];exact hzl) (iE _) (by simpa using hcp) hcm
  (by
   show (#[]++Builtin.zeroCells zv.cells N++Builtin.zeroCells zv.cells (grownCap w N 0 e - N)).size=_
   rw [yf,yf,size_zeroCells,size_zeroCells,hzs,Array.size_empty,dZ,<-ij,Nat.add_sub_of_le hcp]) (by
  intro k x q y hk hy
  have hx:=vR (cG hk)
  subst hx
  have hkl:k < N:=by have:=(bj.1 hk).1;simpa using this
  have hq:q < P.cellsOf e:=by rw [<-hzl];exact (bj.1 hy).1
  obtain ⟨y0,hy0,hyi⟩:=hm2 q y hy
  obtain ⟨cu,hcu,hvr⟩:=hcl q y0 hy0
  obtain ⟨p1,p2,_⟩:=lW hyi hvr
  refine ⟨p2,cu,?_,p1⟩
  have hlt2:k * P.cellsOf e+q < N * zv.cells.size:=by
   have:(k+1) * P.cellsOf e<=N * P.cellsOf e:=cO _ (by omega)
   rw [jX] at this
   rw [hzs];omega
  show (#[]++Builtin.zeroCells zv.cells N++Builtin.zeroCells zv.cells (grownCap w N 0 e - N))[k * P.cellsOf e+q]? = some cu
  rw [Array.empty_append,GZ (by rw [size_zeroCells];exact hlt2)]
  unfold Builtin.zeroCells
  rw [Bz,G0,if_pos hlt2]
  simp only [cg]
  have hmod:(k * P.cellsOf e+q) % zv.cells.size=q:=by
   rw [hzs,py,Hq,yw hq]
  rw [hmod]
  have hqs:q < zv.cells.size:=by rw [hzs];exact hq
  rw [getElem!_pos zv.cells q hqs]
  rw [eW hqs] at hcu
  exact hcu)
 rw [vV] at hp
 exact ⟨_,_,hrun,hp⟩
theorem Um {v x:V} {u:Value} (h:ir v=some x) (hv:VR Z w j v u):VR Z w j0 x u:=by
 cases v with
 | agg cs =>
  simp only [ir,omi] at h
  obtain ⟨ds,hd,rfl⟩:=h
  cases hv
  rename_i us hl hh
  obtain ⟨m1,m2⟩:=iR hd
  refine .agg (m1.trans hl) fun i c u hc hu=>?_
  obtain ⟨c0,h0,hi⟩:=m2 i c hc
  exact (lW hi (hh i c0 u h0 hu)).1
 | _=>exact (lW (by simpa [ir] using h) hv).1
theorem Vz {t:TypeId} {v v':V} {u:Value} (h:Ez P t v=some v') (hv:VR Z w j v u):∃r,(Instr.makeInterface t u).run P w = .ok r w/\VR Z w j v' r:=by
 unfold Ez at h
 cases hu:P.underlying t with
 | none=>simp [hu] at h
 | some d =>
  have key:(ir v).map (.ifc t)=some v'->VR Z w j v' (.iface t u):=fun h=>by
   obtain ⟨x,hx,rfl⟩:=omi.1 h
   exact .ifc (Um hx hv)
  cases d<;>simp only [hu] at h<;>first | (cases h;done) | exact ⟨_,by simp [Instr.makeInterface,run_underlying hu],key h⟩
theorem OD {t:TypeId} {v:V} (h:tE P t=some v):∃z,(zeroValue t).run P w = .ok z w/\VR Z w j v (.tuple #[z,.bool false]):=by
 obtain ⟨z,hz,rfl⟩:=omi.1 h
 obtain ⟨i,zv,hi,hzz,hv,_⟩:=rc (Z:=Z) (w:=w) (j:=j) hz
 refine ⟨zv,by simp [zeroValue,typeInfo,hi,hzz],.tup (us:=[zv,.bool false]) rfl fun k c u hc hu=>?_⟩
 match k with
 | 0=>simp at hc hu;subst hc hu;exact hv
 | 1=>simp at hc hu;subst hc hu;exact .bool
 | k+2=>simp at hc
theorem ZR {t s:TypeId} {ok:Bool} {v v':V} {u:Value} (h:vK P t ok v=some v') (hv:VR Z w j v u):∃r,(Instr.typeAssert u s t ok).run P w = .ok r w/\VR Z w j v' r:=by
 unfold vK at h
 cases hu:P.underlying t with
 | none=>simp [hu] at h
 | some d =>
  cases d<;>simp only [hu] at h<;>first | (cases h;done) | skip
  all_goals
   cases v<;>simp only [yU] at h<;>first | (cases h;done) | skip
   ·cases hv
    cases ok
    ·cases h
    ·obtain ⟨z,hz,hvz⟩:=OD (Z:=Z) (w:=w) (j:=j) (by simpa using h)
     exact ⟨_,by simp [Instr.typeAssert,run_underlying hu,hz],hvz⟩
   ·rename_i t' x
    cases hv
    rename_i u hx
    by_cases e:t'=t
    ·subst e
     rw [if_pos rfl] at h
     cases h
     cases ok
     ·exact ⟨_,by simp [Instr.typeAssert,run_underlying hu],hx.up j⟩
     ·refine ⟨_,by simp [Instr.typeAssert,run_underlying hu],.tup (us:=[u,.bool true]) rfl fun k c u hc hu=>?_⟩
      match k with
      | 0=>simp at hc hu;subst hc hu;exact hx.up j
      | 1=>simp at hc hu;subst hc hu;exact .bool
      | k+2=>simp at hc
    ·rw [if_neg e] at h
     cases ok
     ·cases h
     ·obtain ⟨z,hz,hvz⟩:=OD (Z:=Z) (w:=w) (j:=j) (by simpa using h)
      exact ⟨_,by simp [Instr.typeAssert,run_underlying hu,hz,e],hvz⟩
end
set_option linter.unusedVariables false
section
variable {P:Program} {Z Z':Zs} {w w':World} {j j':J} {mem mem':List O}
def jE (j:J) (id:Nat):Nat:=match (j id).bind bz.start with | some r=>r.2 | none=>0
def gA (P:Program) (j:J) (mem:List O) (id:Nat):Nat :=
 match mem[id]? with
 | some (.row t els _)=>jE j id+els.length * P.cellsOf t
 | some (.box t _ _)=>P.cellsOf t
 | _=>0
def Fz (P:Program) (j:J) (mem:List O) (ids:List Nat):Nat->Nat->Prop:=fun g o=>∃id,id∈ids/\cf j id=some g/\jE j id<=o/\o < gA P j mem id
def cS (A:Zs) (B:Nat->Nat->Prop):Zs:={ A with z:=fun g o=>A g o∨B g o }
theorem be.or (A:Zs) (B:Nat->Nat->Prop) (w:World):be A w (cS A B) w:=.of fun _ _ h=>⟨.inl h,rfl,rfl⟩
theorem LC (mem:List O) (i k:Nat):gA P j (freeze mem i) k=gA P j mem k:=by
 unfold freeze
 split
 ·rename_i t els fz hm
  have aC:i < mem.length:=(bj.1 hm).1
  unfold gA
  grind
 ·rename_i t v fz hm
  have aC:i < mem.length:=(bj.1 hm).1
  unfold gA
  grind
 ·rfl
theorem nw (s:SR P Z w j mem) {id g o:Nat} (hb:cf j id=some g) (ho:jE j id<=o/\o < gA P j mem id):bd Z j mem g:=by
 have ho:=ho.2
 unfold gA at ho
 cases hm:mem[id]? with
 | none=>grind
 | some x =>
  cases x with
  | dead=>grind
  | map es=>grind
  | arena t els=>grind
  | marena t ms=>grind
  | row t els fz=>exact ⟨id,_,hm,rfl,hb⟩
  | box t v fz=>exact ⟨id,_,hm,rfl,hb⟩
theorem TH (s:SR P Z w j mem) (i:Nat):SR P (cS Z (Fz P j mem [i])) w j (freeze mem i)/\(∀g,bd Z j (freeze mem i) g↔bd Z j mem g):=by
 have hin:∀g o,cS Z (Fz P j mem [i]) g o->g < w.heap.size:=by
  intro g o h
  rcases h with h | ⟨id,hid,hb,ho⟩
  ·exact s.zin g o h
  ·exact bd.lt s (nw s hb ho)
 have hne:∀g,cf j i≠some g->w.heap[g]? = w.heap[g]?/\∀o,cS Z (Fz P j mem [i]) g o↔Z g o:=fun g hg=>⟨rfl,fun o=>⟨fun h=>h.resolve_right fun ⟨id,hid,hb,_⟩=>by
  grind,.inl⟩⟩
 have live:∀(o o':O),mem[i]? = some o->o.live=true->o'.live=true->o.ar=none->o'.ar=none->∀g,bd Z j (mem.set i o') g↔bd Z j mem g:=by
  intro o o' hm hl hl' har har' g
  refine ⟨fun h=>h.set hm (fun _=>hl) har har',?_⟩
  rintro ⟨k,x,hx,hlx,hb⟩
  have aC:i < mem.length:=(bj.1 hm).1
  by_cases e:i=k
  ·subst e
   rw [hm] at hx;cases hx
   exact ⟨i,o',by grind,hl',(bf.plain har').2 ((bf.plain har).1 hb)⟩
  ·exact ⟨k,x,by grind,hlx,hb⟩
 unfold freeze
 split
 ·rename_i t els fz hm
  refine ⟨s.set hm (fun _=>rfl) (be.or _ _ _) hne hin (fun h=>by cases h) ?_,live _ _ hm rfl rfl rfl rfl⟩
  obtain ⟨h,hh,h1,h2,h3,h4,h5⟩:=s.obj i _ hm
  refine ⟨h,hh,h1,h2,bG _,h4,?_⟩
  rcases h5 with h5 | ⟨g,b,c,us,hu,hlc,hcm,hg,hsz,hcells,hz1,hz2⟩
  ·grind
  ·have hbk:cf j i=some g:=by cases h;simp at hu;subst hu;simp [cf,hh,bz.blk]
   have hof:jE j i=b:=by cases h;simp at hu;subst hu;simp [jE,hh,bz.start]
   have hol:gA P j mem i=b+els.length * h.sz:=by simp [gA,hof,hm,h1]
   refine .inr ⟨g,b,c,us,hu,hlc,hcm,hg,hsz,fun k x hk=>(hcells k x hk).mono (be.or _ _ _) (aQ.refl _) rfl,fun o ho=>?_,fun o ho=>.inr ⟨i,by simp,hbk,by grind,by grind⟩⟩
   rcases ho with ho | ⟨id,hid,_,ho⟩
   ·have:=hz1 o ho
    have:fz * h.sz<=els.length * h.sz:=cO _ h3
    omega
   grind
 ·rename_i t v fz hm
  refine ⟨s.set hm (fun _=>rfl) (be.or _ _ _) hne hin (fun h=>by cases h) ?_,live _ _ hm rfl rfl rfl rfl⟩
  obtain ⟨g,us,h1,h2,h3,h4,h5,h6,h7⟩:=s.obj i _ hm
  have hol:gA P j mem i=P.cellsOf t:=by simp [gA,hm]
  exact ⟨g,us,h1,h2,h3,h4,h5.mono (be.or _ _ _) (aQ.refl _) rfl,fun _ _=>rfl,fun _ o ho=>.inr ⟨i,by simp,by simp [cf,h1,bz.blk],by simp [jE,h1,bz.start],by omega⟩⟩
 ·rename_i h1 h2
  refine ⟨s.world (be.or _ _ _) (fun g _=>⟨rfl,fun o=>⟨fun h=>h.resolve_right fun ⟨id,hid,hb,ho⟩=>?_,.inl⟩⟩) hin,fun g=>Iff.rfl⟩
  simp at hid
  subst hid
  have ho:=ho.2
  unfold gA at ho
  grind
theorem sd:∀(ids:List Nat) (Z:Zs) (mem:List O),SR P Z w j mem->SR P (cS Z (Fz P j mem ids)) w j (freezeAll ids mem)/\(∀g,bd Z j (freezeAll ids mem) g↔bd Z j mem g):=by
 intro ids
 induction ids with
 | nil =>
  intro Z mem s
  refine ⟨s.world (be.or _ _ _) (fun g _=>⟨rfl,fun o=>⟨fun h=>h.resolve_right fun ⟨_,h,_⟩=>by grind,.inl⟩⟩) (fun g o h=>?_),fun g=>Iff.rfl⟩
  rcases h with h | ⟨_,h,_⟩
  ·exact s.zin g o h
  grind
 | cons i is ih =>
  intro Z mem s
  obtain ⟨s1,o1⟩:=TH s i
  obtain ⟨s2,o2⟩:=ih _ _ s1
  have e:cS (cS Z (Fz P j mem [i])) (Fz P j (freeze mem i) is)=cS Z (Fz P j mem (i::is)):=by
   show Zs.mk _ _ _=Zs.mk _ _ _
   congr 1
   funext g o
   apply propext
   constructor
   ·rintro ((h | ⟨id,hid,hb,ho⟩) | ⟨id,hid,hb,ho⟩)
    ·grind
    ·exact .inr ⟨id,by grind,hb,ho⟩
    ·exact .inr ⟨id,by grind,hb,by rwa [LC] at ho⟩
   ·rintro (h | ⟨id,hid,hb,ho⟩)
    ·exact .inl (.inl h)
    ·simp at hid
     rcases hid with rfl | hid
     ·exact .inl (.inr ⟨id,by simp,hb,ho⟩)
     ·exact .inr ⟨id,hid,hb,by rwa [LC]⟩
  rw [e] at s2
  exact ⟨s2,fun g=>((bd.eqA rfl).symm.trans (o2 g)).trans ((bd.eqA rfl).trans (o1 g))⟩
theorem Gr {v v':V} (h:dX mem v=some v'):v'.one=true/\v.one=true:=by
 cases v<;>simp [dX] at h
 all_goals first
  |(subst h;exact ⟨rfl,rfl⟩)
  |(obtain ⟨_,_,rfl⟩:=h;exact ⟨rfl,rfl⟩)
  |(obtain ⟨_,rfl⟩:=h;exact ⟨rfl,rfl⟩)
theorem NH (s:SR P Z w j mem) {id off len:Nat} {xs:List V} {u:Value} {ids:List Nat} (he:cy mem (.win id off len)=some xs) (hi:id∈ids) (hv:VR Z w j (.win id off len) u):VR (cS Z (Fz P j mem ids)) w j0 (.sl xs) u:=by
 have hz:be Z w (cS Z (Fz P j mem ids)) w:=be.or _ _ _
 have he0:=he
 obtain ⟨A,c,rfl,hel⟩:=rO s he hv
 have hlc:=Gq s he hv
 rcases hel with rfl | ⟨g,b,sz,rfl,hsz,hcl⟩
 ·exact .sl0
 ·simp only [cy] at he
  cases hm:mem[id]? with
  | none=>grind
  | some o =>
   cases o<;>simp [hm] at he
   obtain ⟨hle,rfl⟩:=he
   rename_i t els fz
   obtain ⟨hn,hh,h1,h2,h3,h4,h5⟩:=s.obj id _ hm
   generalize hxs:(els.drop off).take len=xs at *
   generalize hU:Value.slice (some ⟨g,b,none⟩) xs.length c=U at hv
   cases hv with
   | win hj hnn hlc' _ ha =>
    cases hU
    rw [hj] at hh;cases hh
    refine VR.slMk hlc hsz fun k x hk=>⟨(hcl k x hk).1,fun i hi'=>?_,(hcl k x hk).2.mono hz (aQ.refl _) rfl⟩
    have hkl:k < xs.length:=(bj.1 hk).1
    obtain ⟨g0,b0,o0,hA,hA',_,ho0⟩:=ha.resolve_left (fun h=>by grind)
    have ho0:=ho0 (by omega)
    subst ho0
    simp at hA'
    obtain ⟨rfl,rfl⟩:=hA'
    subst hA
    have hx:=h4 x (by grind)
    simp only at hx h1
    have e1:sz=P.cellsOf t:=by grind
    rcases h5 with ⟨hu,_⟩ | ⟨g',b',c',us,hu,_⟩
    ·grind
    ·simp at hu
     obtain ⟨⟨rfl,rfl⟩,hnl,_⟩:=hu
     have hof:jE j id=b0:=by simp [jE,hj,bz.start]
     refine .inr ⟨id,hi,by simp [cf,hj,bz.blk],by omega,?_⟩
     have:gA P j mem id=b0+els.length * sz:=by simp [gA,hof,hm,e1]
     rw [this,h1,<-e1]
     have h8:(off+k+1) * sz<=els.length * sz:=cO _ (by omega)
     grind
theorem qR (s:SR P Z w j mem) {v v':V} {u:Value} {ids:List Nat} (h:dX mem v=some v') (hi:∀i∈gx v,i∈ids) (hv:VR Z w j v u):VR (cS Z (Fz P j mem ids)) w j0 v' u:=by
 have hz:be Z w (cS Z (Fz P j mem ids)) w:=be.or _ _ _
 cases v<;>simp only [dX] at h
 case bool=>cases h;cases hv;exact .bool
 case int=>cases h;cases hv;exact .int
 case str=>cases h;exact (hv.mono hz (aQ.refl _)).flat rfl j0
 case nilP=>cases h;cases hv;exact .nilP
 case nilF=>cases h;cases hv;exact .nilF
 case nilM=>cases h;cases hv;exact .nilM
 case nilI=>cases h;cases hv;exact .nilI
 case ifc=>cases h;cases hv;rename_i hx;exact .ifc (hx.mono hz (aQ.refl _))
 case hp=>cases h;cases hv;rename_i hg;exact .hp hg
 case hm=>cases h;cases hv;rename_i hg;exact .hm hg
 case nilS=>cases h;cases hv;exact .sl0
 case sl=>cases h;exact (hv.mono hz (aQ.refl _)).down j0
 case lit=>cases h;exact (hv.litSl.mono hz (aQ.refl _)).down j0
 case ref x off =>
  cases h
  obtain ⟨g,b,rfl,h1,h2⟩:=hv.refInv
  exact VR.refMk (fun i hi=>.inl (h1 i hi)) (h2.mono hz (aQ.refl _) rfl)
 case fn f caps =>
  split at h
  ·rename_i hc
   cases h
   have:caps=[]:=by simpa using hc
   subst this
   cases hv with
   | fn hl hh=>exact .fn hl fun i c u hc=>by simp at hc
  ·cases h
 case own id =>
  cases he:cy mem (.own id) with
  | none=>simp [he] at h
  | some els =>
   simp [he] at h
   subst h
   obtain ⟨A,c,rfl,hel⟩:=rO s he hv
   have hlc:=Gq s he hv
   rcases hel with rfl | ⟨g,b,sz,rfl,hsz,hcl⟩
   ·exact .sl0
   ·refine VR.slMk hlc hsz fun k x hk=>⟨(hcl k x hk).1,fun i hi'=>.inr ⟨id,hi id (by simp [gx]),?_,?_⟩,(hcl k x hk).2.mono hz (aQ.refl _) rfl⟩
    ·cases hv with
     | own hj=>simp [cf,hj,bz.blk]
    ·simp only [cy] at he
     cases hm:mem[id]? with
     | none=>simp [hm] at he
     | some o =>
      cases o<;>simp [hm] at he
      subst he
      rename_i t els fz
      obtain ⟨hn,hh,h1,h2,h3,h4,h5⟩:=s.obj id _ hm
      have hx:=h4 x (cG hk)
      have e1:sz=P.cellsOf t:=by rw [<-(hcl k x hk).1,hx,h1]
      rcases h5 with ⟨_,he⟩ | ⟨g',b',c',us,hu,_⟩
      ·subst he;simp at hk
      ·cases hv with
       | own hj =>
        rw [hj] at hh;cases hh
        simp at hu
        obtain ⟨⟨rfl,rfl⟩,_⟩:=hu
        have hkl:k < els.length:=(bj.1 hk).1
        have:(k+1) * sz<=els.length * sz:=cO _ hkl
        rw [jX] at this
        have hof:jE j id=b:=by simp [jE,hj,bz.start]
        have:gA P j mem id=b+els.length * sz:=by simp [gA,hof,hm,e1]
        omega
 case win id off len =>
  cases he:cy mem (.win id off len) with
  | none=>simp [he] at h
  | some xs =>
   simp [he] at h
   subst h
   exact NH s he (hi id (by simp [gx])) hv
 case tail id off =>
  cases he:cy mem (.tail id off) with
  | none=>simp [he] at h
  | some xs =>
   simp [he] at h
   subst h
   have he0:=he
   simp only [cy] at he
   cases hm:mem[id]? with
   | none=>simp [hm] at he
   | some o =>
    cases o<;>simp [hm] at he
    subst he
    obtain ⟨h1,h2⟩:=vI s hm hv
    exact NH s (NY hm h1) (hi id (by simp [gx])) h2
 all_goals (cases h)
theorem YW {mem:List O} {Z1:Zs} {cs ds:List V} (hm:bo (dX mem) cs=some ds) (key:∀(i:Nat) (c d:V) (u:Value),cs[i]? = some c->dX mem c=some d->VR Z w j c u->VR Z1 w j0 d u) {us:Array Value} (hr:LR Z w j cs us):LR Z1 w j0 ds us:=by
 obtain ⟨hl,hg⟩:=iR hm
 refine ⟨by rw [hr.1,hl],fun i d hd=>?_⟩
 obtain ⟨c,hc,hs⟩:=hg i d hd
 obtain ⟨u,hu,hv⟩:=hr.2 i c hc
 grind
theorem E1 (s:SR P Z w j mem) {id k off:Nat} {x:V} {off':Nat} {u:Value} {ids:List Nat} (hl:d6 mem (.ptr id k off)=some (x,off')) (hid:id∈ids) (hv:VR Z w j (.ptr id k off) u) :
  ∃g b,u = .pointer (some ⟨g,b+off',none⟩)/\dY Z w j g b x.cells/\∀i,i < x.cells.length->cS Z (Fz P j mem ids) g (b+i):=by
 cases hv with
 | ptr hj hs =>
  rename_i g b0 hn
  simp only [d6] at hl
  cases hm:mem[id]? with
  | none=>grind
  | some ob =>
   have hO:=s.obj id ob hm
   cases ob with
   | dead=>grind
   | map es=>grind
   | arena t els=>grind
   | marena t ms=>grind
   | row t els fz =>
    simp only [hm] at hl
    obtain ⟨hn',hh,h1,h2,h3,h4,h5⟩:=hO
    rw [hj] at hh;cases hh
    cases hk:els[k]? with
    | none=>grind
    | some y =>
     simp [hk] at hl
     obtain ⟨rfl,rfl⟩:=hl
     have hkl:k < els.length:=(bj.1 hk).1
     rcases h5 with ⟨_,he⟩ | ⟨g',b',c,us,hu,_,_,_,_,hcells,_⟩
     ·grind
     ·have e:(g',b')=(g,b0):=by cases hn;simp at hu;subst hu;simpa [bz.start] using hs
      cases e
      refine ⟨g,b0+k * hn.sz,by grind,(hcells k y hk).mono (be.refl _ _) (aQ.zero _) rfl,fun i hi=>.inr ⟨id,hid,by cases hn;simp at hu;subst hu;simp [cf,hj,bz.blk],by
       have:jE j id=b0:=by simp [jE,hj,hs]
       omega,?_⟩⟩
      have hy:=h4 y (cG hk)
      have:gA P j mem id=b0+els.length * hn.sz:=by simp [gA,jE,hj,hs,hm,h1]
      rw [this]
      have h8:(k+1) * hn.sz<=els.length * hn.sz:=cO _ hkl
      grind
   | box t v fz =>
    simp only [hm] at hl
    by_cases hk:k=0
    ·simp [hk] at hl
     obtain ⟨rfl,rfl⟩:=hl
     obtain ⟨g',us,h1,h2,h3,h4,h5,_⟩:=hO
     rw [hj] at h1;cases h1
     simp [bz.start] at hs
     obtain ⟨rfl,rfl⟩:=hs
     subst hk
     refine ⟨g',0,by simp,h5,fun i hi=>.inr ⟨id,hid,by simp [cf,hj,bz.blk],by simp [jE,hj,bz.start],?_⟩⟩
     have:gA P j mem id=P.cellsOf t:=by simp [gA,hm]
     omega
    grind
theorem xV (s:SR P Z w j mem) {v v':V} {u:Value} {ids:List Nat} (h:fD mem v=some v') (hi:∀i∈fW mem v,i∈ids) (hv:VR Z w j v u):VR (cS Z (Fz P j mem ids)) w j0 v' u:=by
 have hz:be Z w (cS Z (Fz P j mem ids)) w:=be.or _ _ _
 cases v with
 | agg cs =>
  simp only [fD] at h
  cases hm:bo (dX mem) cs with
  | none=>grind
  | some ds =>
   simp [hm] at h
   subst h
   obtain ⟨us,rfl,hr⟩:=hv.aggInv
   refine (YW hm (fun i c d u hc hs hvv=>qR s hs (fun k hk=>hi k ?_) hvv) hr).aggMk
   simp only [fW,gK]
   grind
 | ptr id k off =>
  simp only [fD] at h
  cases hl:d6 mem (.ptr id k off) with
  | none=>grind
  | some r =>
   obtain ⟨x,off'⟩:=r
   simp only [hl,aJ] at h
   obtain ⟨g,b,rfl,hc,hfz⟩:=E1 s hl (hi id (by simp [fW])) hv
   have sub:∀(y:V) (i:Nat),x.cells[i]? = some y->∀(n:Nat),n∈gx y->(∃y',dX mem y=some y')->n∈ids:=by
    intro y i hy n hn hsn
    refine hi n ?_
    simp only [d6] at hl
    cases hm:mem[id]? with
    | none=>grind
    | some ob =>
     cases ob with
     | dead=>grind
     | map es=>grind
     | arena t els=>grind
     | marena t ms=>grind
     | row t els fz =>
      exfalso
      simp only [hm] at hl
      cases hk:els[k]? with
      | none=>grind
      | some z =>
       simp [hk] at hl
       obtain ⟨rfl,rfl⟩:=hl
       obtain ⟨hn',hh,h1,h2,h3,h4,h5⟩:=s.obj id _ hm
       rcases h5 with ⟨_,he⟩ | ⟨g',b',c,us,hu,_,_,_,_,hcells,_⟩
       ·grind
       ·obtain ⟨_,u0,_,hv0⟩:=hcells k z hk i y hy
        cases y<;>simp [gx] at hn
        ·cases hv0 with
         | own hj=>cases hj
        ·cases hv0 with
         | win hj _ _ _=>cases hj
        ·cases hv0 with
         | tail hj _ _=>cases hj
     | box t v fz =>
      simp only [hm] at hl
      by_cases hk:k=0
      ·simp [hk] at hl
       obtain ⟨rfl,rfl⟩:=hl
       simp only [fW,hm,bP,gK]
       grind
      grind
   have fin:∀(x':V),x'.cells.length=x.cells.length->(∀(i:Nat) (d:V),x'.cells[i]? = some d->∃c,x.cells[i]? = some c/\dX mem c=some d)->VR (cS Z (Fz P j mem ids)) w j0 (.ref x' off') (.pointer (some ⟨g,b+off',none⟩)):=by
    intro x' hlen hcc
    refine VR.refMk (fun i hi'=>hfz i (by omega)) (fun i d hd=>?_)
    obtain ⟨c,hcx,hs⟩:=hcc i d hd
    obtain ⟨_,u0,hu0,hv0⟩:=hc i c hcx
    exact ⟨(Gr hs).1,u0,hu0,qR s hs (fun n hn=>sub c i hcx n hn ⟨d,hs⟩) hv0⟩
   cases x with
   | agg cs =>
    simp only at h
    cases hm:bo (dX mem) cs with
    | none=>grind
    | some ds =>
     simp [hm] at h
     subst h
     obtain ⟨hl',hg⟩:=iR hm
     exact fin (.agg ds) hl' hg
   | _ =>
    simp only at h
    revert h
    generalize hx0:dX mem _=sx
    intro h
    cases sx with
    | none=>grind
    | some y =>
     simp at h
     subst h
     obtain ⟨o1,o2⟩:=Gr hx0
     refine fin y (by rw [jw o1,jw o2];rfl) (fun i d hd=>?_)
     rw [jw o1] at hd
     cases i with
     | zero=>simp at hd;subst hd;exact ⟨_,by rw [jw o2];rfl,hx0⟩
     | succ i=>grind
 | _=>exact qR s (by simpa [fD] using h) (by simpa [fW] using hi) hv
theorem Gt (s:SR P Z w j mem) {v v':V} {u:Value} {ids:List Nat} (h:gR mem v=some v') (hi:∀i∈iO mem v,i∈ids) (hv:VR Z w j v u):VR (cS Z (Fz P j mem ids)) w j0 v' u:=by
 cases v with
 | fn f caps =>
  simp only [gR] at h
  cases hm:bo (fD mem) caps with
  | none=>grind
  | some ds =>
   simp [hm] at h
   subst h
   cases hv with
   | fn hl hh =>
    obtain ⟨hl',hg⟩:=iR hm
    refine .fn (by grind) fun i d u hd hu=>?_
    obtain ⟨c,hc,hs⟩:=hg i d hd
    refine xV s hs (fun n hn=>hi n ?_) (hh i c u hc hu)
    simp only [iO,gK]
    grind
 | _=>exact xV s (by simpa [gR] using h) (by simpa [iO] using hi) hv
theorem Og {v:V} {u:Value} (h:VR Z w j v u) (ho:v.one=true):VR Z w j0 (ml v) u/\(ml v).one=true:=by
 unfold ml
 cases hf:v.flat1 with
 | true=>exact ⟨h.flat hf j0,ho⟩
 | false=>exact ⟨.unk (h.oneCell ho),rfl⟩
theorem ZV (s:SR P Z w j mem) {ids:List Nat} {id k off:Nat} {r:V × Nat} {u:Value} (hl:d6 mem (.ptr id k off)=some r) (hi:id∈ids) (hv:VR Z w j (.ptr id k off) u):VR (cS Z (Fz P j mem ids)) w j0 (Oh r) u:=by
 have hz:be Z w (cS Z (Fz P j mem ids)) w:=be.or _ _ _
 obtain ⟨x,off'⟩:=r
 obtain ⟨g,b,rfl,hc,hfz⟩:=E1 s hl hi hv
 have cell:∀(i:Nat) (y:V),x.cells[i]? = some y->∃u,w.cell? ⟨g,b+i,none⟩=some u/\VR (cS Z (Fz P j mem ids)) w j0 (ml y) u/\(ml y).one=true:=fun i y hy=>by
  obtain ⟨h1,u0,hu0,hv0⟩:=hc i y hy
  obtain ⟨q1,q2⟩:=Og (hv0.mono hz (aQ.refl _)) h1
  exact ⟨u0,hu0,q1,q2⟩
 have fin:∀x':V,x'.cells=x.cells.map ml->VR (cS Z (Fz P j mem ids)) w j0 (.ref x' off') (.pointer (some ⟨g,b+off',none⟩)):=fun x' e=>by
  refine VR.refMk (fun i hi'=>hfz i (by rw [e] at hi';simpa using hi')) (fun i d hd=>?_)
  rw [e,dB,omi] at hd
  obtain ⟨c,hcx,rfl⟩:=hd
  obtain ⟨u0,h0,h1,h2⟩:=cell i c hcx
  exact ⟨h2,u0,h0,h1⟩
 have one:x.cells=[x]->(ml x).cells=x.cells.map ml:=fun e=>by
  obtain ⟨_,_,_,h2⟩:=cell 0 x (by rw [e];rfl)
  rw [jw h2,e];rfl
 cases x with
 | agg cs=>exact fin _ rfl
 | _=>exact fin _ (one rfl)
theorem ZU (s:SR P Z w j mem) {ids:List Nat} {v:V} {u:Value} (hi:∀i∈E3 v,i∈ids) (hv:VR Z w j v u) (ho:v.one=true):VR (cS Z (Fz P j mem ids)) w j0 (nO mem v) u/\(nO mem v).one=true:=by
 have hz:be Z w (cS Z (Fz P j mem ids)) w:=be.or _ _ _
 have fl:=Og (hv.mono hz (aQ.refl _)) ho
 cases v with
 | ptr id k off =>
  simp only [nO]
  cases hl:d6 mem (.ptr id k off) with
  | none=>exact ⟨.unk ((hv.mono hz (aQ.refl _)).oneCell ho),rfl⟩
  | some r=>exact ⟨ZV s hl (hi id (by simp [E3])) hv,rfl⟩
 | _=>exact fl
theorem YV (s:SR P Z w j mem) {q:Bool} {v v':V} {u:Value} {ids:List Nat} (h:tp q mem v=some v') (hi:∀i∈m5 q mem v,i∈ids) (hv:VR Z w j v u):VR (cS Z (Fz P j mem ids)) w j0 v' u:=by
 have hz:be Z w (cS Z (Fz P j mem ids)) w:=be.or _ _ _
 cases q with
 | false=>exact xV s h hi hv
 | true =>
  have fl:(if v.flat1 then some v else none)=some v'->VR (cS Z (Fz P j mem ids)) w j0 v' u:=fun h=>by
   split at h
   ·rename_i hf;cases h;exact (hv.mono hz (aQ.refl _)).flat hf j0
   ·cases h
  cases v with
  | ptr id k off =>
   simp only [tp,cond_true] at h
   cases hm:mem[id]? with
   | none=>simp [hm] at h
   | some ob =>
   cases ob<;>simp only [hm] at h<;>first | (cases h;done) | skip
   rename_i tb vb fb
   simp only [omi] at h
   obtain ⟨⟨x,off'⟩,hl,rfl⟩:=h
   have hx:x=vb:=by
    simp only [d6,hm] at hl
    split at hl<;>cases hl
    rfl
   subst hx
   obtain ⟨g,b,rfl,hc,hfz⟩:=E1 s hl (hi id (by simp [m5])) hv
   have cell:∀(i:Nat) (y:V),x.cells[i]? = some y->∃u,w.cell? ⟨g,b+i,none⟩=some u/\VR (cS Z (Fz P j mem ids)) w j0 (nO mem y) u/\(nO mem y).one=true:=fun i y hy=>by
    obtain ⟨h1,u0,hu0,hv0⟩:=hc i y hy
    obtain ⟨q1,q2⟩:=ZU s (ids:=ids) (fun n hn=>hi n (by simp only [m5,cond_true,hm,bP,gK];exact .inr ⟨y,cG hy,hn⟩)) hv0 h1
    exact ⟨u0,hu0,q1,q2⟩
   have fin:∀x':V,x'.cells=x.cells.map (nO mem)->VR (cS Z (Fz P j mem ids)) w j0 (.ref x' off') (.pointer (some ⟨g,b+off',none⟩)):=fun x' e=>by
    refine VR.refMk (fun i hi'=>hfz i (by rw [e] at hi';simpa using hi')) (fun i d hd=>?_)
    rw [e,dB,omi] at hd
    obtain ⟨c,hcx,rfl⟩:=hd
    obtain ⟨u0,h0,h1,h2⟩:=cell i c hcx
    exact ⟨h2,u0,h0,h1⟩
   have one:x.cells=[x]->(nO mem x).cells=x.cells.map (nO mem):=fun e=>by
    obtain ⟨_,_,_,h2⟩:=cell 0 x (by rw [e];rfl)
    rw [jw h2,e];rfl
   cases x with
   | agg cs=>exact fin _ rfl
   | _=>exact fin _ (one rfl)
  | _=>exact fl (by simpa [tp] using h)
theorem YX (s:SR P Z w j mem) {q:Bool} {f:FuncId} {caps as0:List V} {u:Value} (h:bo (tp q mem) caps=some as0) (hv:VR Z w j (.fn f caps) u):VR (cS Z (Fz P j mem (caps.flatMap (m5 q mem)))) w j0 (.fn f as0) u:=by
 cases hv with
 | fn hl hh =>
  obtain ⟨hl',hg⟩:=iR h
  refine .fn (by rw [hl',hl]) fun i d u hd hu=>?_
  obtain ⟨c,hc,hs⟩:=hg i d hd
  refine YV s hs (fun n hn=>?_) (hh i c u hc hu)
  simp only [gK]
  exact ⟨c,cG hc,hn⟩
def eB (Z:Zs) (w:World) (j:J) (vs:List V) (us:List Value):Prop:=vs.length=us.length/\∀(i:Nat) (v:V) (u:Value),vs[i]? = some v->us[i]? = some u->VR Z w j v u
theorem YY (s:SR P Z w j mem) {vs vs':List V} {us:List Value} (h:bo (gR mem) vs=some vs') (hv:eB Z w j vs us):eB (cS Z (Fz P j mem (vs.flatMap (iO mem)))) w j0 vs' us:=by
 obtain ⟨hl,hg⟩:=iR h
 refine ⟨by rw [hl];exact hv.1,fun i d u hd hu=>?_⟩
 obtain ⟨c,hc,hs⟩:=hg i d hd
 refine Gt s hs (fun n hn=>?_) (hv.2 i c u hc hu)
 grind
structure pC (Z:Zs) (w:World) (Z':Zs) (w':World):Prop where
 os:w'.os=w.os
 tape:w'.tape=w.tape
 output:w'.output=w.output
 size:w.heap.size<=w'.heap.size
 keep:∀g,g < w.heap.size->w'.heap[g]? = w.heap[g]?/\∀o,Z' g o↔Z g o
 zin:∀g o,Z' g o->g < w'.heap.size
 a:Z'.a=Z.a
 i:Z'.i=Z.i
def R1 (P:Program) (Z:Zs) (w0 w:World) (v:V) (u:Value):Prop :=
 match v with
 | .fr t els=>∃A n c,u = .slice A n c/\jt P Z w ⟨u,P.cellsOf t⟩ t els 0/\(∀x∈els,∀y∈x.cells,y.flat1=true)/\(∀g,bz.blk ⟨u,P.cellsOf t⟩=some g->w0.heap.size<=g/\g < w.heap.size)/\∀a,A=some a->a.off=0
 | v=>VR Z w j0 v u
def RR (P:Program) (Z:Zs) (w0 w:World) (v:V) (u:Value):Prop :=
 match v with
 | .tup vs=>∃us:List Value,u = .tuple us.toArray/\vs.length=us.length/\∀(i:Nat) (v:V) (x:Value),vs[i]? = some v->us[i]? = some x->R1 P Z w0 w v x
 | v=>R1 P Z w0 w v u
def gh (P:Program) (pc:FuncId->List V->Option V):Prop :=
 ∀f as0 r,pc f as0=some r->jB P f=true->∀(Z:Zs) (w:World) (us:List Value),(∀g o,Z g o->g < w.heap.size)->eB Z w j0 as0 us ->
  Calls P f us.toArray w fun e w1=>∃u Z1,e = .returned u/\RR P Z1 w w1 r u/\pC Z w Z1 w1
def eY (P:Program) (ic:FuncId->List V->List O->Option (V × List O)):Prop :=
 ∀f as0 mem r mem',ic f as0 mem=some (r,mem')->jB P f=true->∀(Z:Zs) (w:World) (j:J) (us:List Value),SR P Z w j mem->eB Z w j as0 us ->
  Calls P f us.toArray w fun e w1=>∃u,e = .returned u/\cC P Z w j mem r mem' u w1
theorem yR {o:Obj} (hin:∀g x,Z g x->g < w.heap.size):be Z w Z (w.alloc o):=.of fun g x hz=>⟨hz,gC (kp (w:=w) (w1:=w.alloc o) rfl (hin g x hz)) x⟩
theorem SR.alloc (s:SR P Z w j mem) (o:Obj):SR P Z (w.alloc o) j mem :=
 s.world (yR s.zin) (fun g hg=>⟨kp (w:=w) (w1:=w.alloc o) rfl (bd.lt s hg),fun _=>Iff.rfl⟩) (fun g x hz=>by rw [World.size_alloc];have:=s.zin g x hz;omega)
theorem aI.alloc (s:SR P Z w j mem) (o:Obj):aI Z w j mem Z (w.alloc o) j mem :=
 ⟨rfl,rfl,rfl,by simp_all,fun g hg _=>⟨kp (w:=w) (w1:=w.alloc o) rfl hg,fun _=>Iff.rfl⟩,fun _ _ h=>h,yR s.zin,fun _ h=>⟨h,rfl⟩⟩
end
section
variable {P:Program} {Z Z':Zs} {w w':World} {j j':J} {mem mem':List O}
def n9 (ρ:Nat->Option Nat) (j j':J):Prop:=∀i k,ρ i=some k->j' k=j i
theorem VR.ren0 {ρ:Nat->Option Nat} (hr:n9 ρ j j') {v:V} {u:Value} (h:VR Z w j v u):VR Z w j' (ren0 ρ v) u:=by
 cases h with
 | junk=>exact .junk
 | rest=>exact .rest
 | bool=>exact .bool
 | int=>exact .int
 | str=>exact .str
 | agg _ _=>exact .junk
 | tup hl hh =>
  rename_i cs us
  simp only [Lite.ren0]
  split
  ·rename_i hc
   have:cs=[]:=by simpa using hc
   subst this
   exact .tup hl fun i c u hc=>by simp at hc
  ·exact .junk
 | nilS=>exact .nilS
 | sl0=>exact .sl0
 | sl f a b c d e=>exact .sl f a b c d e
 | lit h hk hz=>exact .lit (h.down _) hk hz
 | own hj h0 =>
  simp only [Lite.ren0]
  split
  ·rename_i k hk;exact .own ((hr _ _ hk).trans hj) h0
  ·exact .junk
 | win hj a b c d =>
  simp only [Lite.ren0]
  split
  ·rename_i k hk;exact .win ((hr _ _ hk).trans hj) a b c d
  ·exact .junk
 | tail hj hn h =>
  simp only [Lite.ren0]
  split
  ·rename_i k hk
   cases h with
   | win hj' a b c d=>exact .tail ((hr _ _ hk).trans hj) hn (.win ((hr _ _ hk).trans hj') a b c d)
  ·exact .junk
 | ptr hj a =>
  simp only [Lite.ren0]
  split
  ·rename_i k hk;exact .ptr ((hr _ _ hk).trans hj) a
  ·exact .junk
 | ref f a b=>exact .ref f a b
 | fn hl hh =>
  rename_i cs us
  simp only [Lite.ren0]
  split
  ·rename_i hc
   have:cs=[]:=by simpa using hc
   subst this
   exact .fn hl fun i c u hc=>by simp at hc
  ·exact .junk
 | mp hj =>
  simp only [Lite.ren0]
  split
  ·rename_i k hk;exact .mp ((hr _ _ hk).trans hj)
  ·exact .junk
 | nilP=>exact .nilP
 | nilF=>exact .nilF
 | nilM=>exact .nilM
 | nilI=>exact .nilI
 | unk h=>exact .junk
 | ifc h=>exact .ifc h
 | hp h=>exact .hp h
 | hm h=>exact .hm h
theorem VR.ren1 {ρ:Nat->Option Nat} (hr:n9 ρ j j') {v:V} {u:Value} (h:VR Z w j v u):VR Z w j' (ren1 ρ v) u:=by
 cases h with
 | fn hl hh =>
  refine .fn (by simpa using hl) fun i c u hc hu=>?_
  simp only [dB,omi] at hc
  obtain ⟨c0,h0,rfl⟩:=hc
  exact (hh i c0 u h0 hu).ren0 hr
 | agg hl hh=>exact VR.ren0 hr (.agg hl hh)
 | tup hl hh=>exact VR.ren0 hr (.tup hl hh)
 | junk=>exact VR.ren0 hr .junk
 | rest=>exact VR.ren0 hr .rest
 | bool=>exact VR.ren0 hr .bool
 | int=>exact VR.ren0 hr .int
 | str=>exact VR.ren0 hr .str
 | nilS=>exact VR.ren0 hr .nilS
 | sl0=>exact VR.ren0 hr .sl0
 | sl f a b c d e=>exact VR.ren0 hr (.sl f a b c d e)
 | lit h hk hz=>exact VR.ren0 hr (.lit h hk hz)
 | own hj h0=>exact VR.ren0 hr (.own hj h0)
 | win hj a b c d=>exact VR.ren0 hr (.win hj a b c d)
 | tail hj hn h=>exact VR.ren0 hr (.tail hj hn h)
 | ptr hj a=>exact VR.ren0 hr (.ptr hj a)
 | ref f a b=>exact VR.ren0 hr (.ref f a b)
 | mp hj=>exact VR.ren0 hr (.mp hj)
 | nilP=>exact VR.ren0 hr .nilP
 | nilF=>exact VR.ren0 hr .nilF
 | nilM=>exact VR.ren0 hr .nilM
 | nilI=>exact VR.ren0 hr .nilI
 | unk h=>exact VR.ren0 hr (.unk h)
 | ifc h=>exact VR.ren0 hr (.ifc h)
 | hp h=>exact VR.ren0 hr (.hp h)
 | hm h=>exact VR.ren0 hr (.hm h)
theorem VR.ren2 {ρ:Nat->Option Nat} (hr:n9 ρ j j') {v:V} {u:Value} (h:VR Z w j v u):VR Z w j' (ren2 ρ v) u:=by
 have lst:∀{cs:List V} {us:List Value},(∀(i:Nat) (c:V) (u:Value),cs[i]? = some c->us[i]? = some u->VR Z w j c u)->∀(i:Nat) (c:V) (u:Value),(cs.map (Lite.ren1 ρ))[i]? = some c->us[i]? = some u->VR Z w j' c u:=by
  intro cs us hh i c u hc hu
  simp only [dB,omi] at hc
  obtain ⟨c0,h0,rfl⟩:=hc
  exact (hh i c0 u h0 hu).ren1 hr
 cases h with
 | agg hl hh=>exact .agg (by simpa using hl) (lst hh)
 | tup hl hh=>exact .tup (by simpa using hl) (lst hh)
 | fn hl hh=>exact .fn (by simpa using hl) (lst hh)
 | junk=>exact VR.ren1 hr .junk
 | rest=>exact VR.ren1 hr .rest
 | bool=>exact VR.ren1 hr .bool
 | int=>exact VR.ren1 hr .int
 | str=>exact VR.ren1 hr .str
 | nilS=>exact VR.ren1 hr .nilS
 | sl0=>exact VR.ren1 hr .sl0
 | sl f a b c d e=>exact VR.ren1 hr (.sl f a b c d e)
 | lit h hk hz=>exact VR.ren1 hr (.lit h hk hz)
 | own hj h0=>exact VR.ren1 hr (.own hj h0)
 | win hj a b c d=>exact VR.ren1 hr (.win hj a b c d)
 | tail hj hn h=>exact VR.ren1 hr (.tail hj hn h)
 | ptr hj a=>exact VR.ren1 hr (.ptr hj a)
 | ref f a b=>exact VR.ren1 hr (.ref f a b)
 | mp hj=>exact VR.ren1 hr (.mp hj)
 | nilP=>exact VR.ren1 hr .nilP
 | nilF=>exact VR.ren1 hr .nilF
 | nilM=>exact VR.ren1 hr .nilM
 | nilI=>exact VR.ren1 hr .nilI
 | unk h=>exact VR.ren1 hr (.unk h)
 | ifc h=>exact VR.ren1 hr (.ifc h)
 | hp h=>exact VR.ren1 hr (.hp h)
 | hm h=>exact VR.ren1 hr (.hm h)
theorem yQ {n0:Nat}:∀(is acc:List Nat),acc.Nodup->(∀i∈acc,n0<=i)->(pH n0 acc is).Nodup/\∀i∈pH n0 acc is,n0<=i:=by
 intro is
 induction is with
 | nil=>intro acc h1 h2;exact ⟨h1,h2⟩
 | cons i is ih =>
  intro acc h1 h2
  simp only [pH]
  grind
theorem Fj {n0:Nat} {mem:List O}:∀(k:Nat) (acc:List Nat),acc.Nodup->(∀i∈acc,n0<=i)->(s7 n0 mem k acc).Nodup/\∀i∈s7 n0 mem k acc,n0<=i:=by
 intro k
 induction k with
 | zero=>intro acc h1 h2;exact ⟨h1,h2⟩
 | succ k ih =>
  intro acc h1 h2
  simp only [s7]
  split
  ·grind
  ·obtain ⟨a,b⟩:=yQ (acc.flatMap (AM mem)) acc h1 h2
   grind
theorem Uj (n0:Nat) (s:S):(D4 n0 s).Nodup/\∀i∈D4 n0 s,n0<=i:=by
 obtain ⟨a,b⟩:=yQ (n0:=n0) (s.env.flatMap nI++(dl n0).flatMap fun i=>AM s.mem i) [] BK (by simp)
 exact Fj _ _ a b
theorem XA {ρ:Nat->Option Nat} {v:V}:(ren2 ρ v).cells.length=v.cells.length/\∀(i:Nat) (y:V),(ren2 ρ v).cells[i]? = some y->∃x,v.cells[i]? = some x/\(y=ren1 ρ x∨y=ren2 ρ x):=by
 have one:∀(v v':V),v.cells=[v]->v'=ren2 ρ v->v'.cells=[v']->v'.cells.length=v.cells.length/\∀(i:Nat) (y:V),v'.cells[i]? = some y->∃x,v.cells[i]? = some x/\(y=ren1 ρ x∨y=ren2 ρ x):=by
  grind
 cases v with
 | agg cs =>
  refine ⟨by simp [ren2,V.cells],fun i y hy=>?_⟩
  simp only [ren2,V.cells,dB,omi] at hy
  obtain ⟨x,hx,rfl⟩:=hy
  exact ⟨x,hx,.inl rfl⟩
 | own id=>exact one _ _ rfl rfl (by simp only [ren2,ren1,ren0];split<;>rfl)
 | win id a b=>exact one _ _ rfl rfl (by simp only [ren2,ren1,ren0];split<;>rfl)
 | tail id a=>exact one _ _ rfl rfl (by simp only [ren2,ren1,ren0];split<;>rfl)
 | ptr id a b=>exact one _ _ rfl rfl (by simp only [ren2,ren1,ren0];split<;>rfl)
 | mp id=>exact one _ _ rfl rfl (by simp only [ren2,ren1,ren0];split<;>rfl)
 | _=>exact one _ _ rfl rfl rfl
theorem OR.ren {ρ:Nat->Option Nat} (hr:n9 ρ j j') {i k:Nat} (hk:j' k=j i) {o:O} (h:OR P Z w j i o) (hik:fe o=false->k=i):OR P Z w j' k (iz ρ o):=by
 cases o with
 | dead=>exact True.intro
 | arena t els=>rw [hik rfl];exact h
 | marena t els=>rw [hik rfl];exact h
 | row t els fz=>obtain ⟨hn,h1,h2⟩:=h;exact ⟨hn,hk.trans h1,h2⟩
 | map es=>obtain ⟨r,es',clock,h1,h2⟩:=h;exact ⟨r,es',clock,hk.trans h1,h2⟩
 | box t v fz =>
  simp only [iz]
  split
  ·rename_i hall
   obtain ⟨g,us,h1,h2,h3,h4,h5,h6⟩:=h
   obtain ⟨r1,r2⟩:=XA (ρ:=ρ) (v:=v)
   refine ⟨g,us,hk.trans h1,h2,by omega,h4,fun n y hy=>?_,h6⟩
   obtain ⟨x,hx,hyx⟩:=r2 n y hy
   obtain ⟨_,u,hu,hv⟩:=h5 n x hx
   refine ⟨di.1 hall y (cG hy),u,hu,?_⟩
   rcases hyx with rfl | rfl
   ·exact hv.ren1 hr
   ·exact hv.ren2 hr
  ·exact True.intro
theorem OR.renD {ρ:Nat->Option Nat} (hr:n9 ρ j j') {i k:Nat} (hk:j' k=j i) {o:O} (h:OR P Z w j i o):OR P Z w j' k (renD ρ o):=by
 unfold Lite.renD
 cases ha:fe o with
 | true=>exact h.ren hr hk (fun h=>by grind)
 | false=>exact True.intro
theorem XB {ρ:Nat->Option Nat} {o:O} (h:(iz ρ o).live=true):(iz ρ o).ar=o.ar:=by
 cases o<;>first | rfl | skip
 simp only [iz]
 split
 ·rfl
 ·rename_i hc;simp only [iz,if_neg hc] at h;cases h
theorem xC {ρ:Nat->Option Nat} {o:O}:(renD ρ o).ar=none:=by
 cases o with
 | box t v fz =>
  show (iz ρ (.box t v fz)).ar=none
  simp only [iz]
  by_cases hc:(ren2 ρ v).cells.all V.one=true
  ·rw [if_pos hc];rfl
  ·rw [if_neg hc];rfl
 | _=>rfl
theorem Mr {ρ:Nat->Option Nat} {o:O} (h:(iz ρ o).live=true):o.live=true:=by
 cases o<;>first | rfl | exact h
theorem AN {ρ:Nat->Option Nat} {o:O} (h:(renD ρ o).live=true):o.live=true/\fe o=true:=by
 unfold Lite.renD at h
 cases ha:fe o with
 | true=>rw [ha] at h;exact ⟨Mr h,rfl⟩
 | false=>rw [ha] at h;cases h
def fc (n0:Nat) (ids:List Nat) (j:J):J:=fun k=>if k < n0 then j k else (ids[k - n0]?).bind j
theorem zU {i:Nat}:∀{l:List Nat} {m:Nat},jb i l=some m->l[m]? = some i:=by
 intro l
 induction l with
 | nil=>intro m h;simp [jb] at h
 | cons x l ih =>
  intro m h
  simp only [jb] at h
  split at h
  ·grind
  ·simp only [omi] at h
   grind
theorem Fp (n0:Nat) (ids:List Nat) (j:J):n9 (oX n0 ids) j (fc n0 ids j):=by
 intro i k h
 simp only [oX] at h
 unfold fc
 split at h
 ·grind
 ·simp only [omi] at h
  obtain ⟨m,hm,rfl⟩:=h
  have hm':ids[m]? = some i:=zU hm
  grind
theorem N9 {s:S} {n0:Nat} {ids:List Nat} (hn:n0<=s.mem.length) (hnd:ids.Nodup) (hge:∀i∈ids,n0<=i) (sr:SR P Z w j s.mem) :
  SR P Z w (fc n0 ids j) (iB n0 ids s).mem/\(∀k o,(iB n0 ids s).mem[k]? = some o->o.live=true->∃i o0,s.mem[i]? = some o0/\o0.live=true/\o.ar=o0.ar/\fc n0 ids j k=j i /\
   ((k < n0/\i=k)∨(n0<=k/\ids[k - n0]? = some i/\o.ar=none)))/\∀id,id < n0->fc n0 ids j id=j id:=by
 have hρ:=Fp n0 ids j
 have hj:∀id,id < n0->fc n0 ids j id=j id:=fun id h=>by simp [fc,h]
 have hto:((s.mem.take n0).map (iz (oX n0 ids))).length=n0:=by grind
 have pre:∀(k:Nat) (o:O),(iB n0 ids s).mem[k]? = some o->o.live=true->∃i o0,s.mem[i]? = some o0/\fc n0 ids j k=j i/\((k < n0/\i=k/\o=iz (oX n0 ids) o0)∨(n0<=k/\ids[k - n0]? = some i/\o=renD (oX n0 ids) o0)):=by
  intro k o ho hl
  simp only [iB] at ho
  by_cases hk:k < n0
  ·grind
  ·rw [cY (by omega),hto] at ho
   simp only [dB,omi] at ho
   obtain ⟨i,hi,rfl⟩:=ho
   cases hm:s.mem[i]? with
   | none=>rw [hm] at hl;simp [Lite.renD,fe,O.ar,iz,O.live] at hl
   | some o0=>exact ⟨i,o0,hm,by simp [fc,hk,hi],.inr ⟨by omega,hi,by simp⟩⟩
 have pre2:∀k o,(iB n0 ids s).mem[k]? = some o->o.live=true->∃i o0,s.mem[i]? = some o0/\o0.live=true/\o.ar=o0.ar/\fc n0 ids j k=j i /\
   ((k < n0/\i=k)∨(n0<=k/\ids[k - n0]? = some i/\o.ar=none)):=by
  intro k o ho hl
  obtain ⟨i,o0,h0,hji,⟨a1,a2,rfl⟩ | ⟨a1,a2,rfl⟩⟩:=pre k o ho hl
  ·exact ⟨i,o0,h0,Mr hl,XB hl,hji,.inl ⟨a1,a2⟩⟩
  ·obtain ⟨b1,b2⟩:=AN hl
   have:o0.ar=none:=by simpa [fe] using b2
   exact ⟨i,o0,h0,b1,xC.trans this.symm,hji,.inr ⟨a1,a2,xC⟩⟩
 have blk:∀{k i:Nat} {o o0:O} {g:Nat},o.ar=o0.ar->fc n0 ids j k=j i->bf Z (fc n0 ids j) k o g->bf Z j i o0 g:=by
  intro k i o o0 g ha hji hb
  unfold bf at hb |-
  rw [ha] at hb
  cases hr:o0.ar with
  | none=>rw [hr] at hb;simpa [cf,hji] using hb
  | some r=>grind
 refine ⟨⟨fun k o ho=>?_,fun k k' o o' g ho ho' hl hl' hb hb'=>?_,fun k hk=>?_,sr.zin⟩,pre2,hj⟩
 ·by_cases hl:o.live=true
  ·obtain ⟨i,o0,h0,hji,⟨a1,a2,rfl⟩ | ⟨a1,a2,rfl⟩⟩:=pre k o ho hl
   ·exact (sr.obj i o0 h0).ren hρ hji (fun _=>a2.symm)
   ·exact (sr.obj i o0 h0).renD hρ hji
  ·cases o<;>first | exact True.intro | (simp [O.live] at hl)
 ·obtain ⟨i,o0,h0,hl0,ha,hji,hc⟩:=pre2 k o ho hl
  obtain ⟨i',o0',h0',hl0',ha',hji',hc'⟩:=pre2 k' o' ho' hl'
  have e:i=i':=sr.inj i i' o0 o0' g h0 h0' hl0 hl0' (blk ha hji hb) (blk ha' hji' hb')
  subst e
  rcases hc with ⟨a1,a2⟩ | ⟨a1,a2,_⟩<;>rcases hc' with ⟨b1,b2⟩ | ⟨b1,b2,_⟩
  ·omega
  ·grind
  ·grind
  ·have aC:=(bj.1 a2).1
   have hlt':=(bj.1 b2).1
   have e1:=(bj.1 a2).2
   have e2:=(bj.1 b2).2
   have:=BL.1 hnd
   grind
 ·simp only [iB,c8,hto,dO] at hk
  unfold fc
  grind
theorem ZH {n0:Nat} {ids:List Nat} {k i:Nat} {o o0:O} {g:Nat} (ha:o.ar=o0.ar) (hji:fc n0 ids j k=j i) (hb:bf Z (fc n0 ids j) k o g):bf Z j i o0 g:=by
 unfold bf at hb |-
 rw [ha] at hb
 cases hr:o0.ar with
 | none=>rw [hr] at hb;simpa [cf,hji] using hb
 | some r=>grind
theorem ZI {jc:J} {k i:Nat} {o o0:O} {g:Nat} (ha:o.ar=o0.ar) (hji:jc k=j i) (hb:bf Z jc k o g):bf Z j i o0 g:=by
 unfold bf at hb |-
 rw [ha] at hb
 cases hr:o0.ar with
 | none=>rw [hr] at hb;simpa [cf,hji] using hb
 | some r=>grind
theorem wW:∀(mem:List O),cX mem<=mem.length/\∀k,k < cX mem->∃o,mem[k]? = some o/\fe o=false
 | []=>⟨bG _,fun k h=>by simp [cX] at h⟩
 | o::l=>by
  obtain ⟨h1,h2⟩:=wW l
  cases ha:fe o with
  | true=>exact ⟨by simp [cX,ha],fun k h=>by simp [cX,ha] at h⟩
  | false =>
   refine ⟨by simpa [cX,ha] using h1,fun k h=>?_⟩
   cases k with
   | zero=>grind
   | succ k=>simpa using h2 k (by simpa [cX,ha] using h)
theorem J3:∀(c:List O) (n:Nat),(∀k,k < n->∃o,c[k]? = some o/\fe o=false)->n<=cX c
 | [],n,h=>by
  grind
 | o::l,n,h=>by
  cases n with
  | zero=>omega
  | succ n =>
   obtain ⟨o',ho,hn⟩:=h 0 (by omega)
   simp at ho
   subst ho
   have:=J3 l n fun k hk=>by grind
   simp only [cX,hn,cond_false]
   omega
theorem TI (args:List V) (mem:List O):cX mem<=cX (gj args mem).mem:=by
 obtain ⟨f1,f2⟩:=wW mem
 refine J3 _ _ fun k hk=>?_
 obtain ⟨o,ho,hna⟩:=f2 k hk
 refine ⟨iz (oX (cX mem) (gU args mem)) o,?_,?_⟩
 ·simp only [gj,iB]
  grind
 ·cases o<;>first | exact hna | (simp [fe,O.ar] at hna)
theorem PW (args:List V) (mem:List O):(gU args mem).Nodup/\∀i∈gU args mem,cX mem<=i:=by
 obtain ⟨a,b⟩:=yQ (n0:=cX mem) (args.flatMap nI) [] BK (by simp)
 exact Fj _ _ a b
theorem PX (rd:TypeId->Bool) (n0:Nat) (c m1:List O) (v:V):(uw rd n0 c m1 v).Nodup/\∀i∈uw rd n0 c m1 v,n0<=i/\mf rd c m1 i=false:=by
 obtain ⟨a,b⟩:=yQ (n0:=n0) ((dl c.length).filter (mf rd c m1)++nI v) [] BK (by simp)
 obtain ⟨a,b⟩:=Fj (mem:=m1) m1.length _ a b
 refine ⟨a.filter _,fun i hi=>?_⟩
 unfold uw at hi
 rw [mD] at hi
 exact ⟨b i hi.1,by simpa using hi.2⟩
theorem Ay (g:Nat->O->O):∀(l:List O) (i:Nat),(ny g i l).length=l.length/\∀k,(ny g i l)[k]? = (l[k]?).map fun o=>g (i+k) o
 | [],i=>⟨rfl,fun k=>by simp [ny]⟩
 | o::l,i=>by
  obtain ⟨h1,h2⟩:=Ay g l (i+1)
  refine ⟨by simp [ny,h1],fun k=>?_⟩
  cases k with
  | zero=>simp [ny]
  | succ k=>simp only [ny,He,h2 k,show i+1+k=i+(k+1) by omega]
theorem Uk {i:Nat}:∀{l:List Nat},jb i l=none->i∉l:=by
 intro l
 induction l with
 | nil=>grind
 | cons x l ih =>
  intro h
  simp only [jb] at h
  split at h
  ·cases h
  ·rename_i hne
   simp only [Option.map_eq_none_iff] at h
   grind
theorem Wj {l:List Nat} (h:l.Nodup) {a b i:Nat} (ha:l[a]? = some i) (hb:l[b]? = some i):a=b:=by
 have aC:=(bj.1 ha).1
 have hlt':=(bj.1 hb).1
 have e1:=(bj.1 ha).2
 have e2:=(bj.1 hb).2
 have:=BL.1 h
 grind
theorem VR.ren3 {ρ:Nat->Option Nat} (hr:n9 ρ j j') {v:V} {u:Value} (h:VR Z w j v u):VR Z w j' (ren3 ρ v) u:=by
 cases v with
 | tup vs =>
  cases h with
  | tup hl hh =>
   refine .tup (by grind) fun i c u hc hu=>?_
   simp only [dB,omi] at hc
   obtain ⟨c0,h0,rfl⟩:=hc
   exact (hh i c0 u h0 hu).ren2 hr
 | _=>exact h.ren2 hr
theorem SR.han (s:SR P Z w j mem) {k:Nat} {o:O} (hm:mem[k]? = some o) (hl:o.live=true) (ha:o.ar=none):∃h,j k=some h:=by
 have hO:=s.obj k o hm
 cases o with
 | dead=>cases hl
 | row t els fz=>obtain ⟨h,hh,_⟩:=hO;grind
 | box t v fz=>obtain ⟨g,us,hh,_⟩:=hO;grind
 | map es=>obtain ⟨r,es',c,hh,_⟩:=hO;grind
 | arena t els=>cases ha
 | marena t els=>cases ha
theorem H8 {n0:Nat} {ids:List Nat} {c:List O} {jc:J} (hn:n0<=mem.length) (hnd:ids.Nodup) (s:SR P Z w j mem) (sc:SR P Z w jc c)
  (pre:∀k o,c[k]? = some o->o.live=true->∃i o0,mem[i]? = some o0/\o0.live=true/\o.ar=o0.ar/\jc k=j i/\((k < n0/\i=k)∨(n0<=k/\ids[k - n0]? = some i/\o.ar=none)))
  {rd:TypeId->Bool} {v1:V} {m1:List O} {u:Value} {w1:World} (hp:cC P Z w jc c v1 m1 u w1) :
  cC P Z w j mem (rG rd n0 ids c mem v1 m1).1 (rG rd n0 ids c mem v1 m1).2 u w1:=by
 obtain ⟨Z1,j1,q1,q2,q3,q4⟩:=hp
 unfold rG
 obtain ⟨news,hnews⟩:∃news,news=uw rd n0 c m1 v1:=⟨_,rfl⟩
 obtain ⟨nnd,nge⟩:=PX rd n0 c m1 v1
 simp only
 rw [<-hnews] at nnd nge |-
 obtain ⟨σ,hσd⟩:∃σ,σ=y8 rd n0 mem.length ids news c m1:=⟨_,rfl⟩
 rw [<-hσd]
 obtain ⟨j2,hj2⟩:∃j2:J,j2=fun id=>if id < mem.length then j id else (news[id - mem.length]?).bind j1:=⟨_,rfl⟩
 have j2lo:∀id,id < mem.length->j2 id=j id:=fun id h=>by rw [hj2];simp only;rw [if_pos h]
 have j2hi:∀id,j2 (mem.length+id)=(news[id]?).bind j1:=fun id=>by rw [hj2];simp only;rw [if_neg (by omega),show mem.length+id - mem.length=id by omega]
 have stay:∀i,n0<=i->mf rd c m1 i=true->∃k h,ids[i - n0]? = some k/\k < mem.length/\j k=some h/\j1 i=some h:=by
  intro i hi hs
  unfold mf KZ at hs
  rw [bv] at hs
  cases hci:c[i]? with
  | none=>rw [hci] at hs;simp at hs
  | some o =>
   have hl:o.live=true:=by
    rw [hci] at hs
    cases o<;>first | rfl | (simp at hs)
   obtain ⟨k,o0,h0,hl0,ha,hji,hcc⟩:=pre i o hci hl
   rcases hcc with ⟨h1,_⟩ | ⟨h1,h2,h3⟩
   ·omega
   ·obtain ⟨h,hh⟩:=sc.han hci hl h3
    exact ⟨k,h,h2,(bj.1 h0).1,hji ▸ hh,q4 i h hh⟩
 have hσ:n9 σ j1 j2:=by
  intro i k hk
  rw [hσd] at hk
  unfold y8 at hk
  split at hk
  ·cases hk
  ·rename_i aC
   cases hs:mf rd c m1 i with
   | true =>
    rw [hs,cond_true] at hk
    obtain ⟨k',h,a1,a2,a3,a4⟩:=stay i (by omega) hs
    rw [hk] at a1
    cases a1
    rw [j2lo k a2,a3,a4]
   | false =>
    rw [hs,cond_false] at hk
    simp only [omi] at hk
    obtain ⟨q,hq,rfl⟩:=hk
    rw [j2hi,zU hq]
    rfl
 have jext:aQ j j2:=fun id h hh=>by
  rw [j2lo id (Nat.lt_of_not_le fun hle=>by rw [s.out id hle] at hh;cases hh)]
  exact hh
 obtain ⟨mem',hmem'⟩:∃mem',mem'=ny (rH rd n0 ids σ c m1) 0 mem++news.map fun i=>renD σ ((m1[i]?).getD .dead):=⟨_,rfl⟩
 rw [<-hmem']
 have olen:(ny (rH rd n0 ids σ c m1) 0 mem).length=mem.length:=(Ay _ mem 0).1
 have mlen:mem'.length=mem.length+news.length:=by rw [hmem',c8,olen,dO]
 have blkD:∀{i k:Nat} {o1:O} {g:Nat},j2 k=j1 i->(renD σ o1).live=true->bf Z1 j2 k (renD σ o1) g->bf Z1 j1 i o1 g:=by
  intro i k o1 g hji hl hb
  have h1:o1.ar=none:=by simpa [fe] using (AN hl).2
  have hb:=(bf.plain xC).1 hb
  exact (bf.plain h1).2 (by simpa [cf,hji] using hb)
 have cls:∀k o,mem'[k]? = some o->o.live=true ->
   (∃i o1,m1[i]? = some o1/\o1.live=true/\OR P Z1 w1 j2 k o/\(∀g,bf Z1 j2 k o g->bf Z1 j1 i o1 g)/\(∀t n,o.ar=some (t,n)->o1.ar=some (t,n)) /\
    ((k < n0/\i=k)∨(n0<=k/\k < mem.length/\n0<=i/\ids[i - n0]? = some k/\mf rd c m1 i=true)∨(mem.length<=k/\news[k - mem.length]? = some i))) ∨
   (n0<=k/\k < mem.length/\k∉ids/\mem[k]? = some o):=by
  intro k o ho hl
  rw [hmem'] at ho
  by_cases hk:k < mem.length
  ·rw [db (by omega),(Ay _ mem 0).2 k,dZ] at ho
   simp only [omi] at ho
   obtain ⟨o0,h0,ho⟩:=ho
   unfold rH at ho
   split at ho
   ·rename_i hkn
    left
    unfold uv at ho
    cases hm1:m1[k]? with
    | none=>rw [hm1] at ho;subst ho;cases hl
    | some o1 =>
     rw [hm1] at ho
     simp only at ho
     cases hna:fe o1 with
     | true=>rw [hna,cond_true] at ho;subst ho;cases hl
     | false =>
      rw [hna,cond_false] at ho
      subst ho
      refine ⟨k,o1,hm1,hl,?_,fun g hb=>?_,fun _ _ h=>h,.inl ⟨hkn,rfl⟩⟩
      ·have:=q2.obj k o1 hm1
       cases o1<;>first | exact this | (simp [fe,O.ar] at hna)
      ·unfold bf at hb |-
       cases hr:o1.ar with
       | none=>simp [fe,hr] at hna
       | some r=>rw [hr] at hb;exact hb
   ·rename_i hkn
    cases hid:jb k ids with
    | none =>
     rw [hid] at ho
     subst ho
     exact .inr ⟨by omega,hk,Uk hid,h0⟩
    | some q =>
     rw [hid] at ho
     simp only at ho
     cases hs:mf rd c m1 (n0+q) with
     | false=>rw [hs,cond_false] at ho;subst ho;cases hl
     | true =>
      rw [hs,cond_true] at ho
      subst ho
      have hq:=zU hid
      obtain ⟨k',h,a1,a2,a3,a4⟩:=stay (n0+q) (by omega) hs
      rw [show n0+q - n0=q by omega,hq] at a1
      cases a1
      cases hm1:m1[n0+q]? with
      | none=>rw [hm1] at hl;simp [Lite.renD,fe,O.ar,iz,O.live] at hl
      | some o1 =>
       rw [hm1] at hl
       simp only [tV] at hl |-
       have hji:j2 k=j1 (n0+q):=by rw [j2lo k hk,a3,a4]
       exact .inl ⟨n0+q,o1,hm1,(AN hl).1,(q2.obj _ _ hm1).renD hσ hji,fun g hb=>blkD hji hl hb,(fun t n h=>by rw [xC] at h;cases h),.inr (.inl ⟨by omega,hk,by omega,by rw [show n0+q - n0=q by omega];exact hq,hs⟩)⟩
  ·rw [cY (by omega),olen] at ho
   simp only [dB,omi] at ho
   obtain ⟨i,hi,rfl⟩:=ho
   cases hm1:m1[i]? with
   | none=>rw [hm1] at hl;simp [Lite.renD,fe,O.ar,iz,O.live] at hl
   | some o1 =>
    rw [hm1] at hl
    simp only [tV] at hl |-
    have hji:j2 k=j1 i:=by
     have:=j2hi (k - mem.length)
     rw [show mem.length+(k - mem.length)=k by omega,hi] at this
     exact this
    exact .inl ⟨i,o1,hm1,(AN hl).1,(q2.obj _ _ hm1).renD hσ hji,fun g hb=>blkD hji hl hb,(fun t n h=>by rw [xC] at h;cases h),.inr (.inr ⟨by omega,hi⟩)⟩
 have ownC:∀g,bd Z jc c g->∃i o0,mem[i]? = some o0/\o0.live=true/\bf Z j i o0 g/\(i < n0∨i∈ids):=by
  rintro g ⟨k,o,ho,hl,hb⟩
  obtain ⟨i,o0,h0,hl0,ha,hji,hcc⟩:=pre k o ho hl
  refine ⟨i,o0,h0,hl0,ZI ha hji hb,?_⟩
  rcases hcc with ⟨h1,rfl⟩ | ⟨_,h2,_⟩
  ·exact .inl h1
  ·exact .inr (cG h2)
 have noAc:∀t,dW t mem->dW t c:=by
  intro t hno k o n ho hr
  have hl:=mN hr
  obtain ⟨i,o0,h0,hl0,ha,_,_⟩:=pre k o ho hl
  exact hno i o0 n h0 (by rw [<-ha];exact hr)
 have besA:∀k o t n,n0<=k->mem[k]? = some o->o.ar=some (t,n)->Z1.a t=Z.a t:=by
  intro k o t n hk hm hr
  refine (q3.ar t fun k' o' n' ho' hr'=>?_).2
  obtain ⟨i,o0,h0,hl0,ha,_,hcc⟩:=pre k' o' ho' (mN hr')
  rcases hcc with ⟨h1,rfl⟩ | ⟨_,_,h3⟩
  ·have e1:=((s.obj k o hm).arena hr).i
   have e2:=((s.obj i o0 h0).arena (ha ▸ hr')).i
   rw [e1] at e2
   cases e2
   omega
  ·rw [h3] at hr';cases hr'
 have besB:∀k o g,n0<=k->k < mem.length->mem[k]? = some o->bf Z1 j2 k o g->bf Z j k o g:=by
  intro k o g hk aC hm hb
  unfold bf at hb |-
  cases hr:o.ar with
  | none=>rw [hr] at hb;simpa [cf,j2lo k aC] using hb
  | some r =>
   obtain ⟨t,n⟩:=r
   rw [hr] at hb
   simp only at hb |-
   rw [besA k o t n hk hm hr] at hb
   exact hb
 have besN:∀k o g,n0<=k->k∉ids->mem[k]? = some o->o.live=true->bf Z j k o g->¬bd Z jc c g:=by
  intro k o g hk hni hm hl hb ho
  obtain ⟨i,o0,h0,hl0,hb0,hi⟩:=ownC g ho
  have:=s.inj k i o o0 g hm h0 hl hl0 hb hb0
  subst this
  rcases hi with hi | hi
  ·omega
  ·exact hni hi
 have lt:∀k o g,mem[k]? = some o->o.live=true->bf Z j k o g->g < w.heap.size:=fun k o g hm hl hb=>bd.lt s ⟨k,o,hm,hl,hb⟩
 have cross:∀{k o g i o1},n0<=k->k∉ids->mem[k]? = some o->o.live=true->bf Z j k o g->m1[i]? = some o1->o1.live=true->bf Z1 j1 i o1 g->False:=by
  intro k o g i o1 hk hni hm hl hb hm1 hl1 hb1
  exact besN k o g hk hni hm hl hb (q3.owned g (lt k o g hm hl hb) ⟨i,o1,hm1,hl1,hb1⟩)
 refine ⟨Z1,j2,q1.ren3 hσ,⟨fun k o ho=>?_,fun k k' o o' g ho ho' hl hl' hb hb'=>?_,fun k hk=>?_,q2.zin⟩,⟨q3.os,q3.tape,q3.output,q3.size,fun g hg hn=>q3.keep g hg fun ho=>?_,fun g hg ho=>?_,q3.z,fun t hno=>⟨fun k o n ho hr=>?_,(q3.ar t (noAc t hno)).2⟩⟩,jext⟩
 ·by_cases hl:o.live=true
  ·rcases cls k o ho hl with ⟨i,o1,_,_,h3,_⟩ | ⟨h1,h2,h3,h4⟩
   ·exact h3
   ·refine (s.obj k o h4).mono q3.z jext (fun g hg=>q3.keep g (lt k o g h4 hl hg) (besN k o g h1 h3 h4 hl hg)) (fun t n hr=>besA k o t n h1 h4 hr)
  ·cases o<;>first | exact True.intro | (simp [O.live] at hl)
 ·rcases cls k o ho hl with ⟨i,o1,h1,h2,_,h4,_,h5⟩ | ⟨h1,h2,h3,h4⟩
  ·rcases cls k' o' ho' hl' with ⟨i',o1',h1',h2',_,h4',_,h5'⟩ | ⟨h1',h2',h3',h4'⟩
   ·have e:=q2.inj i i' o1 o1' g h1 h1' h2 h2' (h4 g hb) (h4' g hb')
    subst e
    rcases h5 with ⟨a1,a2⟩ | ⟨a1,a2,a3,a4,a5⟩ | ⟨a1,a2⟩<;>rcases h5' with ⟨b1,b2⟩ | ⟨b1,b2,b3,b4,b5⟩ | ⟨b1,b2⟩
    ·omega
    ·omega
    ·have:=(nge i (cG b2)).1;omega
    ·omega
    ·rw [a4] at b4;exact Option.some.inj b4
    ·have:=(nge i (cG b2)).2;rw [a5] at this;cases this
    ·have:=(nge i (cG a2)).1;omega
    ·have:=(nge i (cG a2)).2;rw [b5] at this;cases this
    ·have:=Wj nnd a2 b2;omega
   ·exact (cross h1' h3' h4' hl' (besB k' o' g h1' h2' h4' hb') h1 h2 (h4 g hb)).elim
  ·rcases cls k' o' ho' hl' with ⟨i',o1',h1',h2',_,h4',_,h5'⟩ | ⟨h1',h2',h3',h4'⟩
   ·exact (cross h1 h3 h4 hl (besB k o g h1 h2 h4 hb) h1' h2' (h4' g hb')).elim
   ·exact s.inj k k' o o' g h4 h4' hl hl' (besB k o g h1 h2 h4 hb) (besB k' o' g h1' h2' h4' hb')
 ·rw [mlen] at hk
  have:=j2hi (k - mem.length)
  rw [show mem.length+(k - mem.length)=k by omega,vS (by omega)] at this
  exact this
 ·obtain ⟨i,o0,h0,hl0,hb0,_⟩:=ownC g ho
  exact hn ⟨i,o0,h0,hl0,hb0⟩
 ·obtain ⟨k,o,ho,hl,hb⟩:=ho
  rcases cls k o ho hl with ⟨i,o1,h1,h2,_,h4,_,_⟩ | ⟨h1,h2,h3,h4⟩
  ·obtain ⟨i',o0,h0,hl0,hb0,_⟩:=ownC g (q3.owned g hg ⟨i,o1,h1,h2,h4 g hb⟩)
   exact ⟨i',o0,h0,hl0,hb0⟩
  ·exact ⟨k,o,h4,hl,besB k o g h1 h2 h4 hb⟩
 ·rcases cls k o ho (mN hr) with ⟨i,o1,h1,h2,_,_,h6,_⟩ | ⟨h1,h2,h3,h4⟩
  ·exact (q3.ar t (noAc t hno)).1 i o1 n h1 (h6 t n hr)
  ·exact hno k o n h4 hr
theorem Z9 (s:SR P Z w j mem) {v:V} {u:Value} (hv:VR Z w j v u):VR Z w j (pb mem v) u:=by
 unfold pb
 split
 ·rename_i r hr
  obtain ⟨id,off,len⟩:=r
  simp only
  split
  ·rename_i hm
   exact Gw s hr hm hv
  grind
 grind
theorem TG {i k:Nat} {o:O} (h:(freeze mem i)[k]? = some o):∃o0,mem[k]? = some o0/\o.ar=o0.ar:=by
 unfold freeze at h
 split at h
 ·rename_i t els fz hm
  by_cases e:i=k
  ·subst e;rw [fj (bj.1 hm).1] at h;cases h;exact ⟨_,hm,rfl⟩
  grind
 ·rename_i t v fz hm
  by_cases e:i=k
  ·subst e;rw [fj (bj.1 hm).1] at h;cases h;exact ⟨_,hm,rfl⟩
  grind
 grind
theorem dW.freeze {t:TypeId} {i:Nat} (h:dW t mem):dW t (freeze mem i):=by
 intro k o n ho hr
 obtain ⟨o0,h0,e⟩:=TG ho
 exact h k o0 n h0 (e ▸ hr)
theorem dW.freezeAll {t:TypeId}:∀(ids:List Nat) {mem:List O},dW t mem->dW t (freezeAll ids mem)
 | [],_,h=>h
 | _::is,_,h=>dW.freezeAll is h.freeze
theorem YQ (s:SR P Z w j mem) {v:V} {u:Value} (b:Bool) (hv:VR Z w j v u):cC P Z w j mem (o5 b (v,mem)).1 (o5 b (v,mem)).2 u w:=by
 cases b with
 | false=>exact ⟨Z,j,hv,s,.refl _ _ _ _,.refl _⟩
 | true =>
  obtain ⟨sf,of⟩:=sd (tl v) Z mem s
  have hzs:be Z w (cS Z (Fz P j mem (tl v))) w:=be.or _ _ _
  have hfz:∀g,¬bd Z j mem g->∀o,cS Z (Fz P j mem (tl v)) g o↔Z g o:=fun g hg o=>⟨fun h=>h.resolve_right fun ⟨id,_,hb,ho⟩=>hg (nw s hb ho),.inl⟩
  have one:∀(x:V) (y:Value),(∀i∈gx x,i∈tl v)->VR Z w j x y->VR (cS Z (Fz P j mem (tl v))) w j (xU mem x) y:=fun x y hi hx=>by
   have keep:=hx.mono hzs (aQ.refl _)
   unfold xU
   split
   ·split
    ·exact (qR s ‹_› hi hx).up j
    ·exact keep
   ·split
    ·exact (qR s ‹_› hi hx).up j
    ·exact keep
   ·split
    ·exact (qR s ‹_› hi hx).up j
    ·exact keep
   ·split
    ·exact (qR s ‹_› hi hx).up j
    ·exact keep
   ·exact keep
  refine ⟨_,j,?_,sf,⟨rfl,rfl,rfl,bG _,fun g _ hn=>⟨rfl,hfz g hn⟩,fun g _ ho=>(of g).1 ((bd.eqA rfl).1 ho),hzs,fun t h=>⟨dW.freezeAll _ h,rfl⟩⟩,aQ.refl _⟩
  show VR _ w j (Gn mem v) u
  cases v with
  | tup vs =>
   cases hv with
   | tup hl hh =>
    refine .tup (by simpa using hl) fun i c u hc hu=>?_
    rw [dB,omi] at hc
    obtain ⟨x,hx,rfl⟩:=hc
    exact one x u (fun n hn=>gK.2 ⟨x,cG hx,hn⟩) (hh i x u hx hu)
  | _ =>
   refine one _ u ?_ hv
   exact fun n hn=>hn
theorem TK (s:SR P Z w j mem) {v:V} {u:Value} (l:List TypeId) (hv:VR Z w j v u):cC P Z w j mem (p8 l (v,mem)).1 (p8 l (v,mem)).2 u w:=by
 unfold p8
 cases l.any fun t=>Nat.ble 1000000 t with
 | false=>exact ⟨Z,j,hv,s,.refl _ _ _ _,.refl _⟩
 | true =>
  obtain ⟨sf,of⟩:=sd (zM l mem) Z mem s
  have hzs:be Z w (cS Z (Fz P j mem (zM l mem))) w:=be.or _ _ _
  have hfz:∀g,¬bd Z j mem g->∀o,cS Z (Fz P j mem (zM l mem)) g o↔Z g o:=fun g hg o=>⟨fun h=>h.resolve_right fun ⟨id,_,hb,ho⟩=>hg (nw s hb ho),.inl⟩
  exact ⟨_,j,hv.mono hzs (aQ.refl _),sf,⟨rfl,rfl,rfl,bG _,fun g _ hn=>⟨rfl,hfz g hn⟩,fun g _ ho=>(of g).1 ((bd.eqA rfl).1 ho),hzs,fun t h=>⟨dW.freezeAll _ h,rfl⟩⟩,aQ.refl _⟩
theorem PZ {call:b9} (hi:eY P call.ic) {rd:CM} {f:FuncId} {args:List V} {us:List Value} {v:V} (s:SR P Z w j mem) (h:pM call rd f args mem=some (v,mem')) (aR:jB P f=true) (ha:eB Z w j args us) :
  Calls P f us.toArray w fun e w1=>∃u,e = .returned u/\cC P Z w j mem v mem' u w1:=by
 unfold pM at h
 simp only [omi] at h
 obtain ⟨⟨v1,m1⟩,h1,h2⟩:=h
 obtain ⟨a1,a2⟩:=wW mem
 obtain ⟨b1,b2⟩:=PW args mem
 obtain ⟨sc,pre,_⟩:=N9 (s:=⟨args,mem⟩) a1 b1 b2 s
 have hv:eB Z w (fc (cX mem) (gU args mem) j) (gj args mem).env us:=by
  refine ⟨by simpa [gj,iB] using ha.1,fun i c u hc hu=>?_⟩
  simp only [gj,iB,dB,omi] at hc
  obtain ⟨c0,h0,rfl⟩:=hc
  exact (ha.2 i c0 u h0 hu).ren2 (Fp _ _ _)
 refine (hi f _ _ v1 m1 h1 aR Z w _ us sc hv).mono ?_
 rintro e w1 ⟨u,rfl,hp⟩
 refine ⟨u,rfl,?_⟩
 replace sc:SR P Z w (fc (cX mem) (gU args mem) j) (gj args mem).mem:=sc
 obtain ⟨pre⟩:Nonempty (∀k o,(gj args mem).mem[k]? = some o->o.live=true->∃i o0,mem[i]? = some o0/\o0.live=true/\o.ar=o0.ar/\fc (cX mem) (gU args mem) j k=j i/\((k < cX mem/\i=k)∨(cX mem<=k/\(gU args mem)[k - cX mem]? = some i/\o.ar=none))):=⟨pre⟩
 obtain ⟨c,hc⟩:∃c,c=(gj args mem).mem:=⟨_,rfl⟩
 rw [<-hc] at hp sc pre h2
 obtain ⟨f1,f2⟩:=wW c
 replace hp:cC P Z w (fc (cX mem) (gU args mem) j) c (cond rd.wv (pb m1 v1) v1) m1 u w1:=by
  obtain ⟨Z1,j1,p1,p2,p3,p4⟩:=hp
  cases rd.wv with
  | true=>exact ⟨Z1,j1,Z9 p2 p1,p2,p3,p4⟩
  | false=>exact ⟨Z1,j1,p1,p2,p3,p4⟩
 replace hp:cC P Z w (fc (cX mem) (gU args mem) j) c (o5 rd.sv (cond rd.wv (pb m1 v1) v1,m1)).1 (o5 rd.sv (cond rd.wv (pb m1 v1) v1,m1)).2 u w1:=by
  obtain ⟨Z1,j1,p1,p2,p3,p4⟩:=hp
  obtain ⟨Z2,j2,q1,q2,q3,q4⟩:=YQ p2 rd.sv p1
  exact ⟨Z2,j2,q1,q2,p3.trans q3,p4.trans q4⟩
 replace hp:cC P Z w (fc (cX mem) (gU args mem) j) c (p8 rd.mv (o5 rd.sv (cond rd.wv (pb m1 v1) v1,m1))).1 (p8 rd.mv (o5 rd.sv (cond rd.wv (pb m1 v1) v1,m1))).2 u w1:=by
  obtain ⟨Z1,j1,p1,p2,p3,p4⟩:=hp
  obtain ⟨Z2,j2,q1,q2,q3,q4⟩:=TK p2 rd.mv p1
  exact ⟨Z2,j2,q1,q2,p3.trans q3,p4.trans q4⟩
 have norm:=H8 (rd:=rd.row) f1 List.nodup_range' sc sc (fun k o ho hl=>⟨k,o,ho,hl,rfl,rfl,by
  by_cases hk:k < cX c
  ·exact .inl ⟨hk,rfl⟩
  ·have hkl:=(bj.1 ho).1
   refine .inr ⟨by omega,?_,?_⟩
   ·rw [List.getElem?_range' (show k - cX c < c.length - cX c by omega)]
    rw [show cX c+1 * (k - cX c)=k by omega]
   ·have hle:cX mem<=cX c:=by
     rw [hc]
     exact TI args mem
    obtain ⟨i,o0,h0,hl0,ha,hji,hcc⟩:=pre k o ho hl
    rcases hcc with ⟨h1,_⟩ | ⟨_,_,h3⟩
    ·omega
    ·exact h3⟩) hp
 have:=H8 (rd:=rd.row) a1 b1 s sc pre norm
 unfold kO at h2
 rw [<-hc] at h2
 unfold gV at h2
 rw [h2] at this
 exact this
end
section
variable {P:Program} {Z Z':Zs} {w w':World} {j j':J} {mem mem':List O}
theorem Lx {v:V} {u:Value} (h:sA v=false) (hv:VR Z w j v u) (Z':Zs) (w':World) (j':J):VR Z' w' j' v u:=by
 cases v with
 | sl l=>simp [sA] at h
 | fr t els=>cases hv
 | _=>cases hv<;>first | (simp [sA] at h;done) | constructor
theorem We {v:V} {u:Value} (h:sC v=false) (hv:VR Z w j v u) (Z':Zs) (w':World) (j':J):VR Z' w' j' v u:=by
 cases v with
 | agg cs =>
  obtain ⟨us,rfl,hr⟩:=hv.aggInv
  refine LR.aggMk ⟨hr.1,fun i c hc=>?_⟩
  obtain ⟨u,hu,hvv⟩:=hr.2 i c hc
  have:sA c=false:=by
   simp only [sC,tI] at h
   grind
  exact ⟨u,hu,Lx this hvv Z' w' j'⟩
 | _=>exact Lx (by simpa [sC] using h) hv Z' w' j'
theorem JX {v:V} {u:Value} (h:VR Z w j0 v u) (hf:v.flat1=true):VR Z' w j0 v u:=by
 cases h<;>first | (simp [V.flat1] at hf;done) | constructor
theorem jt.flatZ {h:bz} {t:TypeId} {els:List V} (r:jt P Z w h t els 0) (hf:∀x∈els,∀y∈x.cells,y.flat1=true) (hz:∀g,h.blk=some g->∀o,¬Z' g o):jt P Z' w h t els 0:=by
 obtain ⟨h1,h2,h3,h4,h5⟩:=r
 refine ⟨h1,h2,h3,h4,?_⟩
 rcases h5 with h5 | ⟨g,b,c,us,hu,hlc,hcm,hg,hb,hcells,hz1,hz2⟩
 ·grind
 ·have hbk:h.blk=some g:=by cases h;simp at hu;subst hu;rfl
  refine .inr ⟨g,b,c,us,hu,hlc,hcm,hg,hb,fun k x hk i y hy=>?_,fun o ho=>(hz g hbk o ho).elim,fun o ho=>by omega⟩
  obtain ⟨q1,u0,q2,q3⟩:=hcells k x hk i y hy
  have hyf:=hf x (cG hk) y (cG hy)
  exact ⟨q1,u0,q2,JX q3 hyf⟩
theorem XX {h:bz} {t:TypeId} {els:List V} {fz:Nat} {A:Option Addr} {n c:Nat} (r:jt P Z w h t els fz) (hu:h.u = .slice A n c) (hz:be Z w Z' w) (hzz:∀g,h.blk=some g->∀o,Z' g o):VR Z' w j (.sl els) (.slice A n c):=by
 obtain ⟨h1,h2,h3,h4,h5⟩:=r
 rcases h5 with ⟨hv,he⟩ | ⟨g,b,c',us,hv,hlc,hcm,hg,hs,hcells,_⟩
 ·rw [hu] at hv;cases hv;subst he;exact .sl0
 ·have hbk:h.blk=some g:=by cases h;simp at hv;subst hv;rfl
  rw [hu] at hv;cases hv
  exact VR.slMk hlc h2 fun k x hk=>⟨h4 x (cG hk),fun i _=>hzz g hbk _,(hcells k x hk).mono hz (aQ.refl _) rfl⟩
def ry (Z:Zs) (w0 w1:World):Zs:={ Z with z:=fun g o=>Z g o∨(w0.heap.size<=g/\g < w1.heap.size) }
theorem RR.one {Z2:Zs} {w1:World} {r:V} {u:Value} (h:RR P Z2 w w1 r u) (hn:∀vs,r≠.tup vs):R1 P Z2 w w1 r u:=by
 cases r<;>first | exact (hn _ rfl).elim | exact h
theorem RR.mk {Z2:Zs} {w1:World} {r:V} {u:Value} (h:R1 P Z2 w w1 r u) (hn:∀vs,r≠.tup vs):RR P Z2 w w1 r u:=by
 cases r<;>first | exact (hn _ rfl).elim | exact h
theorem ZB (mem:List O) (v:V):(vJ false mem v).2=mem:=by cases v<;>rfl
theorem N2 {w1:World} {mem1:List O} {Z2:Zs} {r:V} {u:Value} {ad:Bool} (s1:SR P Z2 w1 j mem1) (st:aI Z w j mem Z2 w1 j mem1) (hown:∀g,bd Z2 j mem1 g->g < w.heap.size) (hr:RR P Z2 w w1 r u) :
  cC P Z w j mem (mh ad mem1 r).1 (mh ad mem1 r).2 u w1:=by
 have hzn:be Z2 w1 (ry Z2 w w1) w1:=.of fun g o h=>⟨.inl h,rfl,rfl⟩
 have s3:SR P (ry Z2 w w1) w1 j mem1:=s1.world hzn (fun g hg=>⟨rfl,fun o=>⟨fun h=>h.resolve_right fun h=>by grind,.inl⟩⟩) (fun g o h=>by
  rcases h with h | h
  ·exact s1.zin g o h
  grind)
 have st3:aI Z w j mem (ry Z2 w w1) w1 j mem1:=⟨st.os,st.tape,st.output,st.size,fun g hg hn=>⟨(st.keep g hg hn).1,fun o=>⟨fun h=>((st.keep g hg hn).2 o).1 (h.resolve_right fun h=>by omega),fun h=>.inl (((st.keep g hg hn).2 o).2 h)⟩⟩,st.owned,st.z.trans hzn,st.ar⟩
 have one:∀(v:V) (x:Value),R1 P Z2 w w1 v x->VR (ry Z2 w w1) w1 j (vJ false mem1 v).1 x:=by
  intro v x hx
  cases v with
  | fr t els =>
   obtain ⟨A,n,c,rfl,hrow,hfl,hb,h0⟩:=hx
   exact XX hrow rfl hzn (fun g hg o=>.inr (hb g hg))
  | _=>exact (VR.up hx j).mono hzn (aQ.refl _)
 cases r with
 | tup vs =>
  obtain ⟨us,rfl,hl,hh⟩:=hr
  refine ⟨ry Z2 w w1,j,.tup (by grind) fun i c x hc hx=>?_,s3,st3,aQ.refl _⟩
  grind
 | fr t els =>
  cases ad with
  | false=>exact ⟨ry Z2 w w1,j,one _ _ (RR.one hr (by grind)),s3,st3,aQ.refl _⟩
  | true =>
   obtain ⟨A,n,c,rfl,hrow,hfl,hb,h0⟩:=hr
   have s4:=s1.add (h:=⟨.slice A n c,P.cellsOf t⟩) (o:=.row t els 0) (fun g hg ho=>by grind) ⟨_,eU _ _ _,hrow⟩
   refine ⟨Z2,_,.own (eU _ _ _) h0,s4,⟨st.os,st.tape,st.output,st.size,st.keep,fun g hg ho=>?_,st.z,fun t h=>⟨(st.ar t h).1.add rfl,(st.ar t h).2⟩⟩,s1.ext _⟩
   rcases bd.add ho with ho | ho
   ·exact st.owned g hg ho
   grind
 | _=>exact ⟨ry Z2 w w1,j,one _ _ (RR.one hr (by grind)),s3,st3,aQ.refl _⟩
theorem Zm (s:SR P Z w j mem) {t:TypeId} {p v:V} {u up:Value} (h:qT P mem t p v=some mem') (hp:VR Z w j p up) (hv:VR Z w j v u) :
  ∃w1,(Instr.storeAt t up u).run P w = .ok () w1/\cC P Z w j mem (.tup []) mem' undef w1:=by
 unfold qT at h
 split at h
 rotate_left
 ·exact NN s h hp hv
 simp only [obi] at h
 obtain ⟨v',hs,h⟩:=h
 have hv1:=xV s hs (fun i hi=>hi) hv
 obtain ⟨sf,of⟩:=sd (fW mem v) Z mem s
 have hzs:be Z w (cS Z (Fz P j mem (fW mem v))) w:=be.or _ _ _
 obtain ⟨w1,h1,Z1,j1,q1,q2,q3,q4⟩:=NN sf h (hp.mono hzs (aQ.refl _)) (hv1.up j)
 have hfz:∀g,¬bd Z j mem g->∀o,cS Z (Fz P j mem (fW mem v)) g o↔Z g o:=fun g hg o=>⟨fun h=>h.resolve_right fun ⟨id,_,hb,ho⟩=>hg (nw s hb ho),.inl⟩
 have stp:aI Z w j mem (cS Z (Fz P j mem (fW mem v))) w j (freezeAll (fW mem v) mem) :=
  ⟨rfl,rfl,rfl,bG _,fun g _ hn=>⟨rfl,hfz g hn⟩,fun g _ ho=>(of g).1 ((bd.eqA rfl).1 ho),hzs,fun t h=>⟨h.freezeAll _,rfl⟩⟩
 exact ⟨w1,h1,Z1,j1,q1,q2,stp.trans q3,q4⟩
theorem J4 (s:SR P Z w j mem) {v v1:V} {u:Value} (h:dX mem v=some v1) (hv:VR Z w j v u):cC P Z w j mem v1 (freezeAll (gx v) mem) u w:=by
 have hv1:=qR s h (ids:=gx v) (fun i hi=>hi) hv
 obtain ⟨sf,of⟩:=sd (gx v) Z mem s
 have hzs:be Z w (cS Z (Fz P j mem (gx v))) w:=be.or _ _ _
 have hfz:∀g,¬bd Z j mem g->∀o,cS Z (Fz P j mem (gx v)) g o↔Z g o:=fun g hg o=>⟨fun h=>h.resolve_right fun ⟨id,_,hb,ho⟩=>hg (nw s hb ho),.inl⟩
 exact ⟨_,j,hv1.up j,sf,⟨rfl,rfl,rfl,bG _,fun g _ hn=>⟨rfl,hfz g hn⟩,fun g _ ho=>(of g).1 ((bd.eqA rfl).1 ho),hzs,fun t h=>⟨h.freezeAll _,rfl⟩⟩,aQ.refl _⟩
theorem Ca {cfg:bi} {call:b9} (hp:gh cfg.P call.pc) (hi:eY cfg.P call.ic) {dr:Bool} {f:FuncId} {args:List V} {us:List Value} {v:V} (s:SR cfg.P Z w j mem)
  (h:gN cfg call dr f args mem=some (v,mem')) (ha:eB Z w j args us) :
  jB cfg.P f=true/\Calls cfg.P f us.toArray w fun e w1=>∃u,e = .returned u/\cC cfg.P Z w j mem v mem' u w1:=by
 unfold gN at h
 split at h
 ·cases h
 ·rename_i aR
  have hok':jB cfg.P f=true:=by grind
  refine ⟨hok',?_⟩
  split at h
  ·cases hs:bo (gR mem) args with
   | none=>grind
   | some as0 =>
    cases hpc:call.pc f as0 with
    | none=>grind
    | some r =>
     simp only [hs,hpc,aJ] at h
     have hsn:=YY s hs ha
     obtain ⟨sf,of⟩:=sd (args.flatMap (iO mem)) Z mem s
     refine (hp f as0 r hpc hok' _ w us sf.zin hsn).mono ?_
     rintro e w1 ⟨u,Z1,rfl,hrr,st⟩
     refine ⟨u,rfl,?_⟩
     have hzs:be Z w (cS Z (Fz cfg.P j mem (args.flatMap (iO mem)))) w:=be.or _ _ _
     have hz1:be (cS Z (Fz cfg.P j mem (args.flatMap (iO mem)))) w Z1 w1:=.of (fun g o ho=>by
      have hg:=sf.zin g o ho
      exact ⟨((st.keep g hg).2 o).2 ho,gC (st.keep g hg).1 o⟩) st.a st.i
     have hfz:∀g,¬bd Z j mem g->∀o,cS Z (Fz cfg.P j mem (args.flatMap (iO mem))) g o↔Z g o:=fun g hg o=>⟨fun h=>h.resolve_right fun ⟨id,_,hb,ho⟩=>hg (nw s hb ho),.inl⟩
     by_cases hl:sB r=true
     ·-- what was handed over NM as0 it is from here on
      have s1:SR cfg.P Z1 w1 j (freezeAll (args.flatMap (iO mem)) mem):=sf.world hz1 (fun g hg=>st.keep g (bd.lt sf hg)) st.zin st.a
      have st1:aI Z w j mem Z1 w1 j (freezeAll (args.flatMap (iO mem)) mem):=⟨st.os,st.tape,st.output,st.size,fun g hg hn=>⟨(st.keep g hg).1,fun o=>((st.keep g hg).2 o).trans (hfz g hn o)⟩,fun g _ ho=>(of g).1 ((bd.eqA st.a).1 ho),hzs.trans hz1,fun t h=>⟨h.freezeAll _,congrFun st.a t⟩⟩
      rw [if_pos hl] at h
      split at h
      ·cases h
      ·injection h with h
       have:=N2 (ad:=cfg.adopt f && !dr) s1 st1 (fun g hg=>bd.lt s ((of g).1 ((bd.eqA st.a).1 hg))) hrr
       grind
     ·-- nothing sA there
      rw [if_neg hl] at h
      have hl':sB r=false:=by grind
      let Z2:Zs:={ Z with z:=fun g o=>(g < w.heap.size/\Z g o)∨(w.heap.size<=g/\Z1 g o) }
      have hz2:be Z w Z2 w1:=.of fun g o ho=>⟨.inl ⟨s.zin g o ho,ho⟩,gC (st.keep g (s.zin g o ho)).1 o⟩
      have iff:∀g,g < w.heap.size->∀o,Z2 g o↔Z g o:=fun g hg o=>⟨fun h=>(h.resolve_right fun h=>by omega).2,fun h=>.inl ⟨hg,h⟩⟩
      have s1:SR cfg.P Z2 w1 j mem:=s.world hz2 (fun g hg=>⟨(st.keep g (bd.lt s hg)).1,iff g (bd.lt s hg)⟩) (fun g o ho=>by
       rcases ho with ⟨h1,_⟩ | ⟨_,h2⟩
       ·exact n6 h1 st.size
       ·exact st.zin g o h2)
      have st1:aI Z w j mem Z2 w1 j mem:=⟨st.os,st.tape,st.output,st.size,fun g hg _=>⟨(st.keep g hg).1,iff g hg⟩,fun _ _ ho=>ho,hz2,fun _ h=>⟨h,rfl⟩⟩
      have one:∀(x:V) (y:Value),sC x=false->R1 cfg.P Z1 w w1 x y->R1 cfg.P Z2 w w1 x y:=by
       intro x y hlx hx
       cases x with
       | fr t els =>
        obtain ⟨A,n,c,rfl,hrow,hfl,hb,h0⟩:=hx
        refine ⟨A,n,c,rfl,hrow.flatZ hfl (fun g hg o ho=>?_),hfl,hb,h0⟩
        obtain ⟨q1,q2,q3,q4,q5⟩:=hrow
        rcases ho with ho | ho
        ·grind
        ·rcases q5 with ⟨q5,_⟩ | ⟨g',b,c',us',hu,_,_,_,_,_,hz1',_⟩
         ·simp at q5;obtain ⟨rfl,_⟩:=q5;simp [bz.blk] at hg
         ·simp at hu
          obtain ⟨rfl,_⟩:=hu
          simp [bz.blk] at hg
          grind
       | _=>exact We hlx hx _ _ _
      injection h with h
      have fin:RR cfg.P Z2 w w1 r u->cC cfg.P Z w j mem v mem' u w1:=fun hr=>by
       have:=N2 (ad:=cfg.adopt f && !dr) s1 st1 (fun g hg=>bd.lt s ((bd.eqA rfl).1 hg)) hr
       grind
      refine fin ?_
      cases r with
      | tup vs =>
       obtain ⟨us',rfl,q1,q2⟩:=hrr
       refine ⟨us',rfl,q1,fun i x y hx hy=>?_⟩
       have hlx:sC x=false:=by
        simp only [sB,tI] at hl'
        grind
       grind
      | _=>exact RR.mk (one _ _ (by simpa [sB] using hl') (RR.one hrr (by grind))) (by grind)
  ·split at h
   ·cases h
   ·split at h
    ·exact hi f args mem v mem' h hok' Z w j us s ha
    ·exact PZ hi s (AR h).1 hok' ha
theorem En (S:List Nat):∀(l:List O) (i:Nat),(qf S i l).length=l.length/\∀k,(qf S i l)[k]? = (l[k]?).map fun o=>cond (S.contains (i+k)) o .dead
 | [],i=>⟨rfl,fun k=>by simp [qf]⟩
 | o::l,i=>by
  obtain ⟨h1,h2⟩:=En S l (i+1)
  refine ⟨by simp [qf,h1],fun k=>?_⟩
  cases k with
  | zero=>simp [qf]
  | succ k=>simp only [qf,He,h2 k,show i+1+k=i+(k+1) by omega]
theorem wD (S:List Nat):∀(l m:List O) (i:Nat),l.length<=m.length->(oh S i l m).length=m.length/\∀k,(oh S i l m)[k]? = if k < l.length then (if S.contains (i+k) then m[k]? else l[k]?) else m[k]?
 | [],m,i,_=>⟨rfl,fun k=>by simp [oh]⟩
 | o::l,[],i,h=>by grind
 | o::l,p::m,i,h=>by
  obtain ⟨h1,h2⟩:=wD S l m (i+1) (by grind)
  refine ⟨by simp [oh,h1],fun k=>?_⟩
  cases k with
  | zero=>simp only [oh,Hf,cL,Nat.zero_lt_succ,if_true,dK];all_goals grind
  | succ k=>simp only [oh,He,h2 k,show i+1+k=i+(k+1) by omega,cL,Nat.succ_lt_succ_iff]
theorem uQ {S:List Nat} {mem:List O} {k:Nat} {o:O} (h:(keepOnly S mem)[k]? = some o) (hl:o.live=true):mem[k]? = some o/\S.contains k=true:=by
 have:=(En S mem 0).2 k
 unfold keepOnly at h
 rw [this,dZ] at h
 cases hm:mem[k]? with
 | none=>grind
 | some q =>
  rw [hm,cg] at h
  cases hc:S.contains k with
  | true=>grind
  | false=>rw [hc] at h;cases h;cases hl
theorem SR.keepOnly (s:SR P Z w j mem) (S:List Nat):SR P Z w j (Lite.keepOnly S mem):=by
 refine ⟨fun id o h=>?_,fun id id' o o' g h h' hl hl'=>?_,fun id h=>s.out id (by have:=(En S mem 0).1;unfold Lite.keepOnly at h;omega),s.zin⟩
 ·cases hl:o.live with
  | true=>exact s.obj id o (uQ h hl).1
  | false=>cases o<;>first | exact True.intro | (cases hl)
 ·exact s.inj id id' o o' g (uQ h hl).1 (uQ h' hl').1 hl hl'
theorem bd.keepOnly {S:List Nat} {g:Nat} (h:bd Z j (Lite.keepOnly S mem) g):∃id o,mem[id]? = some o/\o.live=true/\bf Z j id o g/\S.contains id=true:=by
 obtain ⟨id,o,h1,h2,h3⟩:=h
 exact ⟨id,o,(uQ h1 h2).1,h2,h3,(uQ h1 h2).2⟩
theorem TB {call:b9} (hi:eY P call.ic) {f:FuncId} {args:List V} {us:List Value} {v:V} (s:SR P Z w j mem) (h:mX call f args mem=some (v,mem')) (aR:jB P f=true) (ha:eB Z w j args us) :
  Calls P f us.toArray w fun e w1=>∃u,e = .returned u/\cC P Z w j mem v mem' u w1:=by
 unfold mX at h
 obtain ⟨S,hS⟩:∃S,S=args.flatMap ji:=⟨_,rfl⟩
 rw [<-hS] at h
 split at h
 ·cases h
 rename_i hall
 have hall:∀(id:Nat) (o:O),mem[id]? = some o->S.contains id=true->o.ar=none:=fun id o hm hc=>by
  have hall':Dy S mem=true:=by grind
  have:=di.1 hall' id (by grind)
  rw [hm] at this
  simpa [fe] using this
 simp only [obi] at h
 obtain ⟨⟨v1,m1⟩,h1,h2⟩:=h
 split at h2
 rotate_left
 ·grind
 rename_i hle
 cases h2
 simp only at hle
 refine (hi f args _ v1 m1 h1 aR Z w j us (s.keepOnly S) ha).mono ?_
 rintro e w1 ⟨u,rfl,Z1,j1,q1,q2,q3,q4⟩
 have noAk:∀t,dW t (Lite.keepOnly S mem):=fun t id o n hm hr=>by
  have:=uQ hm (mN hr)
  grind
 have za:Z1.a=Z.a:=funext fun t=>(q3.ar t (noAk t)).2
 have har1:∀(id:Nat) (o:O),m1[id]? = some o->o.ar=none:=fun id o hm=>by
  cases hr:o.ar with
  | none=>rfl
  | some r=>exact ((q3.ar r.1 (noAk r.1)).1 id o r.2 hm hr).elim
 refine ⟨u,rfl,Z1,j1,q1,?_,?_,q4⟩
 ·-- the memory
  obtain ⟨b1,b2⟩:=wD S mem m1 0 hle
  have get:∀id o,(qI S mem m1)[id]? = some o->(m1[id]? = some o/\(id < mem.length->S.contains id=true))∨(id < mem.length/\S.contains id=false/\mem[id]? = some o):=by
   intro id o h
   unfold qI at h
   grind
  have blk:∀(id:Nat) (o:O) (g:Nat),mem[id]? = some o->o.live=true->bf Z1 j1 id o g->bf Z j id o g:=by
   intro id o g hm hl hb
   unfold bf at hb |-
   cases hr:o.ar with
   | none =>
    rw [hr] at hb
    obtain ⟨h,hh⟩:=s.han hm hl hr
    simp only [cf,q4 _ _ hh] at hb
    simp only [cf,hh]
    grind
   | some r =>
    simp_all
  have notOwned:∀(id:Nat) (o:O) (g:Nat),mem[id]? = some o->o.live=true->bf Z j id o g->S.contains id=false->¬bd Z j (Lite.keepOnly S mem) g:=by
   intro id o g hm hl hb hc ho
   obtain ⟨id',o',e1,e2,e3,e4⟩:=ho.keepOnly
   have:=s.inj id id' o o' g hm e1 hl e2 hb e3
   grind
  have lt:∀(id:Nat) (o:O) (g:Nat),mem[id]? = some o->o.live=true->bf Z j id o g->g < w.heap.size:=fun id o g hm hl hb=>bd.lt s ⟨id,o,hm,hl,hb⟩
  have cross:∀(id id':Nat) (o o':O) (g:Nat),mem[id]? = some o->S.contains id=false->m1[id']? = some o'->o.live=true->o'.live=true->bf Z1 j1 id o g->bf Z1 j1 id' o' g->False:=by
   intro id id' o o' g hm hc hm' hl hl' hb hb'
   have hb:=blk id o g hm hl hb
   exact notOwned id o g hm hl hb hc (q3.owned g (lt id o g hm hl hb) ⟨id',o',hm',hl',hb'⟩)
  refine ⟨fun id o h=>?_,fun id id' o o' g h h' hl hl' hb hb'=>?_,fun id h=>q2.out id (by have h':(oh S 0 mem m1).length<=id:=h;grind),q2.zin⟩
  ·rcases get id o h with ⟨h,_⟩ | ⟨aC,hc,hm⟩
   ·exact q2.obj id o h
   ·cases hl:o.live with
    | false=>cases o<;>first | exact True.intro | (cases hl)
    | true =>
     refine (s.obj id o hm).mono q3.z q4 (fun g hg=>?_) (fun t n _=>congrFun za t)
     exact q3.keep g (lt id o g hm hl hg) (notOwned id o g hm hl hg hc)
  ·rcases get id o h with ⟨h,_⟩ | ⟨aC,hc,hm⟩
   ·rcases get id' o' h' with ⟨h',_⟩ | ⟨hlt',hc',hm'⟩
    ·exact q2.inj id id' o o' g h h' hl hl' hb hb'
    grind
   ·rcases get id' o' h' with ⟨h',_⟩ | ⟨hlt',hc',hm'⟩
    ·grind
    ·exact s.inj id id' o o' g hm hm' hl hl' (blk id o g hm hl hb) (blk id' o' g hm' hl' hb')
 ·-- the step
  refine ⟨q3.os,q3.tape,q3.output,q3.size,fun g hg hn=>q3.keep g hg fun ho=>?_,fun g hg ho=>?_,q3.z,fun t hno=>⟨fun id o n h hr=>?_,congrFun za t⟩⟩
  ·obtain ⟨id,o,e1,e2,e3,_⟩:=ho.keepOnly
   exact hn ⟨id,o,e1,e2,e3⟩
  ·obtain ⟨id,o,h,hl,hb⟩:=ho
   obtain ⟨b1,b2⟩:=wD S mem m1 0 hle
   unfold qI at h
   rw [b2 id,dZ] at h
   have inM1:m1[id]? = some o->bd Z j mem g:=fun h=>by
    obtain ⟨id',o',e1,e2,e3,_⟩:=(q3.owned g hg ⟨id,o,h,hl,hb⟩).keepOnly
    exact ⟨id',o',e1,e2,e3⟩
   split at h
   ·cases hc:S.contains id with
    | true=>grind
    | false =>
     rw [if_neg (by grind)] at h
     refine ⟨id,o,h,hl,?_⟩
     unfold bf at hb |-
     cases hr:o.ar with
     | none =>
      rw [hr] at hb
      obtain ⟨hh,he⟩:=s.han h hl hr
      simp only [cf,q4 _ _ he] at hb
      simpa only [cf,he] using hb
     | some r =>
      simp_all
   grind
  ·obtain ⟨b1,b2⟩:=wD S mem m1 0 hle
   unfold qI at h
   rw [b2 id,dZ] at h
   split at h
   ·split at h
    ·grind
    ·exact hno id o n h hr
   grind
end
section
variable {P:Program} {Z Z':Zs} {w w':World} {j j':J} {mem mem':List O}
theorem dy {Post:Value->World->Prop} {s:Sem Value} {u:Value} {w1:World} (h:s.run P w = .ok u w1) (hp:Post u w1):kH P Post ((do pure (Next.value (<-s)):Sem Next).run P w):=by
 simp only [Sem.run_bind,h,Result.andThen_ok,Sem.run_pure]
 exact hp
theorem LD {Post:Value->World->Prop} {s:Sem Unit} {w1:World} (h:s.run P w = .ok () w1) (hp:Post undef w1):kH P Post ((do s;pure Next.skip:Sem Next).run P w):=by
 simp only [Sem.run_bind,h,Result.andThen_ok,Sem.run_pure]
 exact hp
theorem zC {env:List V} {ρ:Operand->Value} (hρ:∀x v,aO env x=some v->VR Z w j v (ρ x)) {l:List Operand} {vs:List V} (h:bo (aO env) l=some vs):eB Z w j vs (l.map ρ):=by
 obtain ⟨hl,hg⟩:=iR h
 refine ⟨by grind,fun i v u hv hu=>?_⟩
 grind
theorem eB.append {vs ws:List V} {us xs:List Value} (h:eB Z w j vs us) (h':eB Z w j ws xs):eB Z w j (vs++ws) (us++xs):=by
 refine ⟨by simp [h.1,h'.1],fun i v u hv hu=>?_⟩
 by_cases hi:i < vs.length
 ·rw [db hi] at hv
  rw [db (by rw [<-h.1];grind)] at hu
  exact h.2 i v u hv hu
 ·rw [cY (by omega)] at hv
  rw [cY (by rw [<-h.1];omega),<-h.1] at hu
  exact h'.2 _ v u hv hu
theorem B6 {env:List V} {ρ:Operand->Value} (hρ:∀x v,aO env x=some v->VR Z w j v (ρ x)) (o:Option Operand):nT Z w j (o.map (aO env)) (o.map ρ):=by
 cases o with
 | none=>trivial
 | some x =>
  simp only [cg]
  cases hx:aO env x with
  | none=>trivial
  | some v=>exact hρ x v hx
theorem MK {f:FuncId} {args:Array Value} (h:jB P f=true):(callFunc f args).run P w = .ok (.enter f args) w:=by
 unfold jB at h
 cases hf:P.funcs[f]? with
 | none=>grind
 | some fn =>
  simp only [hf,bv,bne_iff_ne,ne_eq] at h
  cases hb:fn.body with
  | none=>grind
  | some c=>simp [callFunc,hf,hb,h.2]
theorem PM (s:SR P Z w j mem) {b:Builtin} {ts:Array TypeId} {ty:TypeId} {consts:Array Bool} {args:List V} {us:List Value} {v:V} (h:gv P b mem ts.toList args=some (v,mem')) (ha:eB Z w j args us) :
  kH P (cC P Z w j mem v mem') ((builtin b ts ty consts us.toArray).run P w):=by
 cases b<;>simp only [gv] at h<;>first | (cases h;done) | skip
 case len =>
  cases hts:ts.toList with
  | nil=>simp [hts,oG] at h
  | cons t rest =>
   cases args with
   | nil=>simp [hts,oG] at h
   | cons x xs =>
    simp only [hts,oG] at h
    cases hl:lp P mem t x with
    | none=>simp [hl] at h
    | some r =>
     simp [hl] at h
     obtain ⟨rfl,rfl⟩:=h
     cases us with
     | nil=>have:=ha.1;simp at this
     | cons u us =>
      have hv:=ha.2 0 x u rfl rfl
      have ht0:ts[0]? = some t:=by rw [<-ye,hts];rfl
      obtain ⟨r',h1,h2⟩:=Ve (ty:=ty) s (ts:=ts) (us:=(u::us).toArray) ht0 (by simp) hl hv
      exact dy h1 (dF s h2)
 case append =>
  unfold un at h
  split at h
  ·rename_i t t' sv x ht
   split at h
   ·rename_i he
    match us,ha with
    | [u,ux],ha =>
     obtain ⟨r',w1,h1,h2⟩:=BZ (ty:=ty) s he h (ha.2 0 sv u rfl rfl) (ha.2 1 x ux rfl rfl)
     have hts:ts=#[t,t']:=by apply nR;rw [ht]
     subst hts
     exact dy h1 h2
    | [],ha=>have:=ha.1;simp at this
    | [_],ha=>have:=ha.1;simp at this
    | _::_::_::_,ha=>have:=ha.1;simp at this
   ·match us,ha with
    | [u,ux],ha =>
     obtain ⟨r',w1,h1,h2⟩:=Pd (ty:=ty) s h (ha.2 0 sv u rfl rfl) (ha.2 1 x ux rfl rfl)
     have hts:ts=#[t,t']:=by apply nR;rw [ht]
     subst hts
     exact dy h1 h2
    | [],ha=>have:=ha.1;simp at this
    | [_],ha=>have:=ha.1;simp at this
    | _::_::_::_,ha=>have:=ha.1;simp at this
  ·cases h
 case copy =>
  unfold Ci at h
  split at h
  ·rename_i t t' sv x ht
   split at h
   ·rename_i he
    match us,ha with
    | [u,ux],ha =>
     obtain ⟨r',w1,h1,h2⟩:=Qs (ty:=ty) s he h (ha.2 0 sv u rfl rfl) (ha.2 1 x ux rfl rfl)
     have hts:ts=#[t,t']:=by apply nR;rw [ht]
     subst hts
     exact dy h1 h2
    | [],ha=>have:=ha.1;simp at this
    | [_],ha=>have:=ha.1;simp at this
    | _::_::_::_,ha=>have:=ha.1;simp at this
   ·cases h
  ·cases h
 case clear =>
  unfold Cc at h
  split at h
  ·rename_i t sv ht
   match us,ha with
   | [u],ha =>
    obtain ⟨r',w1,h1,h2⟩:=P6 (ty:=ty) s h (ha.2 0 sv u rfl rfl)
    have hts:ts=#[t]:=by apply nR;rw [ht]
    subst hts
    exact dy h1 h2
   | [],ha=>have:=ha.1;simp at this
   | _::_::_,ha=>have:=ha.1;simp at this
  ·cases h
 case cap =>
  unfold H9 at h
  split at h
  ·rename_i t ht
   split at h
   ·rename_i e hu
    cases h
    match us,ha with
    | [u],ha =>
     have hv:=ha.2 0 _ u rfl rfl
     have hts:ts=#[t]:=by apply nR;rw [ht]
     subst hts
     cases hv
     exact dy (s:=Builtin.cap_ #[t] ty #[.slice none 0 0]) (by simp [Builtin.cap_,run_underlying hu];rfl) (dF s .int)
    | [],ha=>have:=ha.1;simp at this
    | _::_::_,ha=>have:=ha.1;simp at this
   ·cases h
  ·cases h
 case min =>
  cases args with
  | nil=>simp [mW] at h
  | cons x xs =>
   simp only [mW] at h
   cases hl:rZ min2 x xs with
   | none=>simp [hl] at h
   | some r =>
    simp [hl] at h
    obtain ⟨rfl,rfl⟩:=h
    cases us with
    | nil=>have:=ha.1;simp at this
    | cons u us =>
     obtain ⟨r',h1,h2⟩:=J1 (P:=P) (g:=Builtin.min2) (fun a b v u u' h ha hb=>VN h ha hb) xs us x r u hl (ha.2 0 x u rfl rfl) (by have:=ha.1;simp at this;exact this.symm) (fun i c u' hc hu=>ha.2 (i+1) c u' (by simpa using hc) (by simpa using hu))
     exact dy (s:=Builtin.min_ ts ty (u::us).toArray) (by simpa [Builtin.min_] using h1) (dF s h2)
 case max =>
  cases args with
  | nil=>simp [mW] at h
  | cons x xs =>
   simp only [mW] at h
   cases hl:rZ max2 x xs with
   | none=>simp [hl] at h
   | some r =>
    simp [hl] at h
    obtain ⟨rfl,rfl⟩:=h
    cases us with
    | nil=>have:=ha.1;simp at this
    | cons u us =>
     obtain ⟨r',h1,h2⟩:=J1 (P:=P) (g:=Builtin.max2) (fun a b v u u' h ha hb=>VF h ha hb) xs us x r u hl (ha.2 0 x u rfl rfl) (by have:=ha.1;simp at this;exact this.symm) (fun i c u' hc hu=>ha.2 (i+1) c u' (by simpa using hc) (by simpa using hu))
     exact dy (s:=Builtin.max_ ts ty (u::us).toArray) (by simpa [Builtin.max_] using h1) (dF s h2)
 case delete =>
  unfold Cr at h
  split at h
  ·rename_i t rest m k ht
   cases hm:fd mem m with
   | none=>simp [hm] at h
   | some es =>
    simp only [hm,aJ] at h
    split at h
    ·rename_i hfit
     cases hd:lr es k with
     | none=>simp [hd] at h
     | some out =>
      simp [hd] at h
      obtain ⟨rfl,rfl⟩:=h
      match us,ha with
      | [u,uk],ha =>
       have ht0:ts[0]? = some t:=by rw [<-ye,ht];rfl
       obtain ⟨w1,h1,h2⟩:=QN (ty:=ty) (ts:=ts) (us:=#[u,uk]) s ht0 rfl rfl hm hfit hd (ha.2 0 _ u rfl rfl) (ha.2 1 k uk rfl rfl)
       exact dy h1 h2
      | [],ha=>have:=ha.1;simp at this
      | [_],ha=>have:=ha.1;simp at this
      | _::_::_::_,ha=>have:=ha.1;simp at this
    ·cases h
  ·cases h
theorem KF {t:TypeId} {z:V} (hz:gF P t=some z) (hl:z.cells.length=P.cellsOf t) (ho:z.cells.all V.one=true) :
  ∃us,(Instr.alloc t true (.tuple #[])).run P w = .ok (.pointer (some ⟨w.heap.size,0,none⟩)) (w.alloc (.cells us t))/\us.size=P.cellsOf t:=by
 obtain ⟨i,zv,hi,hzv,hvz,_⟩:=rc (P:=P) (Z:=⟨fun _ _=>False,fun _ _=>none,fun _=>none⟩) (w:=w) (j:=j0) hz
 obtain ⟨hcs,_⟩:=hvz.cellsOf (nA ho)
 exact ⟨zv.cells,by simp [Instr.alloc,zeroValue,typeInfo,hi,hzv,newVar,Go.newRow,newObj,Sem.run],by grind⟩
theorem EP {cfg:bi} {call:b9} (hp:gh cfg.P call.pc) (hi:eY cfg.P call.ic) {dr:Bool} {o:Oper} {g:Option (Nat × Bool)} {bx sq rx:Bool} {env:List V} {ρ:Operand->Value} {v:V}
  (s:SR cfg.P Z w j mem) (hρ:∀x v,aO env x=some v->VR Z w j v (ρ x)) (h:bQ cfg call dr ⟨o.dst,o.op,o.type,g,bx,sq,rx⟩ env mem=some (v,mem')) :
  kH cfg.P (cC cfg.P Z w j mem v mem') ((execOp ρ o).run cfg.P w):=by
 unfold execOp
 simp only [bQ] at h
 cases hop:o.op<;>simp only [hop] at h |-<;>first | (cases h;done) | skip
 case move x =>
  cases hx:aO env x with
  | none=>simp [hx] at h
  | some a =>
   simp only [hx,aJ] at h
   split at h
   ·obtain ⟨v1,hs1,h⟩:=omi.1 h
    cases h
    exact J4 s hs1 (hρ x _ hx)
   ·cases h
    exact dF s (hρ x _ hx)
 case nilCheck x =>
  cases hx:aO env x with
  | none=>simp [hx] at h
  | some a =>
   simp only [hx,aJ] at h
   split at h
   ·rename_i hs
    cases h
    have hv:=hρ x _ hx
    generalize ρ x=u at hv |-
    cases v<;>first | (simp [Gu] at hs;done) | skip
    ·have hv':=hv
     cases hv
     exact dF s hv'
    ·have hv':=hv
     cases hv
     exact dF s hv'
    ·have hv':=hv
     cases hv
     exact dF s hv'
   ·cases h
 case assign x =>
  cases hx:aO env x with
  | none=>simp [hx] at h
  | some a =>
   simp only [hx,aJ] at h
   split at h
   ·obtain ⟨v1,hs1,h⟩:=omi.1 h
    cases h
    exact J4 s hs1 (hρ x _ hx)
   have same:some (a,mem)=some (v,mem')->kH cfg.P (cC cfg.P Z w j mem v mem') ((Pure.pure (Next.value (ρ x)):Sem Next).run cfg.P w):=by
    intro h
    cases h
    exact dF s (hρ x _ hx)
   cases a<;>simp only at h<;>first | exact same h | skip
   split at h
   ·exact same h
   ·split at h
    ·split at h
     ·rename_i e he hroom
      cases h
      have hv:=hρ x _ hx
      cases hrx:ρ x<;>rw [hrx] at hv<;>cases hv
      exact XY s (jk hroom).2.2.1
     ·exact same h
    ·exact same h
 case pick c a b =>
  cases hc:aO env c with
  | none=>simp [hc] at h
  | some vc =>
   cases ha:aO env a with
   | none=>simp [hc,ha] at h
   | some va =>
    cases hb:aO env b with
    | none=>simp [hc,ha,hb] at h
    | some vb =>
     simp only [hc,ha,hb,aJ] at h
     have hv:=hρ c _ hc
     cases vc<;>simp only at h<;>first | (cases h;done) | skip
     rename_i t
     cases h
     cases hrc:ρ c<;>rw [hrc] at hv<;>cases hv
     simp only [asBool,Sem.run_bind,Sem.run_pure,Result.andThen_ok]
     cases t
     ·exact dF s (hρ b _ hb)
     ·exact dF s (hρ a _ ha)
 case alloc t =>
  cases hz:gF cfg.P t with
  | none=>simp [hz] at h
  | some z =>
   simp only [hz,aJ] at h
   split at h
   ·rename_i hc
    split at h
    ·cases h
     obtain ⟨us,h1,h2⟩:=KF (w:=w) hz hc.1 hc.2
     exact dy h1 ⟨Z,j,.junk,s.alloc _,aI.alloc s _,aQ.refl _⟩
    split at h
    ·cases h
    obtain ⟨r,w1,h1,h2⟩:=O8 s h hz hc.1 hc.2
    exact dy h1 h2
   ·cases h
 case box t x =>
  cases hx:aO env x with
  | none=>simp [hx] at h
  | some a =>
   simp only [hx,aJ] at h
   split at h
   ·cases h
   split at h
   ·rename_i hc
    split at h
    ·cases h
    obtain ⟨r,w1,h1,h2⟩:=H1 s h hc.1 hc.2 (hρ x _ hx)
    exact dy h1 h2
   ·cases h
 case build t parts =>
  cases hps:bo (nB env) parts.toList with
  | none=>simp [hps] at h
  | some ps =>
   cases hb:y5 cfg.P t ps with
   | none=>simp [hps,hb] at h
   | some r =>
    simp [hps,hb] at h
    obtain ⟨rfl,rfl⟩:=h
    have hpr:=L2 hρ parts.toList ps hps
    obtain ⟨r',h1,h2⟩:=PL (P:=cfg.P) (qs:=parts.map fun p=>(p.1,ρ p.2)) hb (by simpa using hpr)
    exact dy h1 (dF s h2)
 case buildSlice t len parts =>
  cases hps:bo (nB env) parts.toList with
  | none=>simp [hps] at h
  | some ps =>
   cases he:ef cfg.P t with
   | none=>simp [hps,he] at h
   | some e =>
    cases hl:qn 0 ps with
    | none=>simp [hps,he,hl] at h
    | some els =>
     simp only [hps,he,hl,aJ] at h
     split at h
     ·rename_i hc
      have hpr:=L2 hρ parts.toList ps hps
      obtain ⟨r',w1,h1,h2,h3⟩:=PK (qs:=parts.map fun p=>(p.1,ρ p.2)) s he hl hc.1 hc.2.1 hc.2.2.1 (by
       rw [di]
       intro y hy
       have:=di.1 hc.2.2.2 y hy
       simp only [bv] at this
       exact this.1) (by simpa using hpr)
      cases bx
      ·change some (newRow mem e els 0)=_ at h
       injection h with h
       rw [h] at h2
       exact dy h1 h2
      ·change some (V.lit e els,mem)=_ at h
       cases h
       exact dy h1 h3
     ·cases h
 case load t a =>
  cases hx:aO env a with
  | none=>simp [hx] at h
  | some p =>
   cases hl:eP cfg.P mem t p with
   | none=>simp [hx,hl] at h
   | some r =>
    simp only [hx,hl,aJ,cg] at h
    split at h
    ·cases h
    obtain ⟨rfl,rfl⟩:=h
    obtain ⟨r',h1,h2⟩:=K3 s hl (hρ a _ hx)
    exact dy h1 (dF s h2)
 case store t a x =>
  cases hx:aO env a with
  | none=>simp [hx] at h
  | some p =>
   cases hy:aO env x with
   | none=>simp [hx,hy] at h
   | some q =>
    simp only [hx,hy,aJ] at h
    split at h
    ·cases h
    cases hl:qT cfg.P mem t p q with
    | none=>simp [hl] at h
    | some r =>
     simp [hl] at h
     obtain ⟨rfl,rfl⟩:=h
     obtain ⟨w1,h1,h2⟩:=Zm s hl (hρ a _ hx) (hρ x _ hy)
     exact LD h1 h2
 case binOp op t x y yt =>
  cases hx:aO env x with
  | none=>simp [hx] at h
  | some p =>
   cases hy:aO env y with
   | none=>simp [hx,hy] at h
   | some q =>
    cases hl:lI cfg.P op t p q with
    | none=>simp [hx,hy,hl] at h
    | some r =>
     simp [hx,hy,hl] at h
     obtain ⟨rfl,rfl⟩:=h
     obtain ⟨r',h1,h2⟩:=Px x y hl (hρ x _ hx) (hρ y _ hy)
     exact dy h1 (dF s h2)
 case unOp op t x =>
  cases hx:aO env x with
  | none=>simp [hx] at h
  | some p =>
   cases hl:Bp op p with
   | none=>simp [hx,hl] at h
   | some r =>
    simp [hx,hl] at h
    obtain ⟨rfl,rfl⟩:=h
    obtain ⟨r',h1,h2⟩:=ZT (P:=cfg.P) hl (hρ x _ hx)
    exact dy h1 (dF s h2)
 case convert st d x =>
  cases hx:aO env x with
  | none=>simp [hx] at h
  | some p =>
   cases hl:mT cfg.P (if dr then [] else mem) st d p with
   | none=>simp [hx,hl] at h
   | some r =>
    simp only [hx,hl,aJ,cg,Option.some.injEq,Prod.mk.injEq] at h
    obtain ⟨rfl,rfl⟩:=h
    obtain ⟨r',w1,h1,h2⟩:=Qo (P:=cfg.P) s (by cases dr<;>simp) hl (hρ x _ hx)
    exact dy h1 h2
 case makeSlice t n c =>
  cases hx:aO env n with
  | none=>simp [hx] at h
  | some p =>
   cases hy:aO env c with
   | none=>simp [hx,hy] at h
   | some q =>
    simp only [hx,hy,aJ] at h
    obtain ⟨r',w1,h1,h2⟩:=VD s h (hρ n _ hx) (hρ c _ hy)
    exact dy h1 h2
 case makeInterface t x =>
  cases hx:aO env x with
  | none=>simp [hx] at h
  | some p =>
   simp only [hx,aJ,omi,Prod.mk.injEq] at h
   obtain ⟨r,hr,rfl,rfl⟩:=h
   obtain ⟨u,h1,h2⟩:=Vz hr (hρ x _ hx)
   exact dy h1 (dF s h2)
 case typeAssert x t0 t ok =>
  cases hx:aO env x with
  | none=>simp [hx] at h
  | some p =>
   simp only [hx,aJ,omi,Prod.mk.injEq] at h
   obtain ⟨r,hr,rfl,rfl⟩:=h
   obtain ⟨u,h1,h2⟩:=ZR hr (hρ x _ hx)
   exact dy h1 (dF s h2)
 case slice t x lo hh mx =>
  cases hx:aO env x with
  | none=>simp [hx] at h
  | some p =>
   cases hl:jn cfg.P mem t p (lo.map (aO env)) (hh.map (aO env)) (mx.map (aO env)) with
   | none=>simp [hx,hl] at h
   | some r =>
    simp [hx,hl] at h
    obtain ⟨_,rfl,rfl⟩:=h
    obtain ⟨r',h1,h2⟩:=YT s hl (hρ x _ hx) (B6 hρ lo) (B6 hρ hh) (B6 hρ mx)
    exact dy h1 (dF s h2)
 case fieldAddr st x f =>
  cases hx:aO env x with
  | none=>simp [hx] at h
  | some p =>
   cases hl:zE cfg.P st p f with
   | none=>simp [hx,hl] at h
   | some r =>
    simp [hx,hl] at h
    obtain ⟨rfl,rfl⟩:=h
    obtain ⟨r',h1,h2⟩:=Tc hl (hρ x _ hx)
    exact dy h1 (dF s h2)
 case field st x f =>
  cases hx:aO env x with
  | none=>simp [hx] at h
  | some p =>
   simp only [hx,aJ] at h
   cases p<;>simp only at h<;>first | (cases h;done) | skip
   rename_i cs
   cases hf:uH cfg.P st f with
   | none=>simp [hf] at h
   | some r =>
    obtain ⟨off,t⟩:=r
    cases hl:oS cfg.P t cs off with
    | none=>simp [hf,hl] at h
    | some r =>
     simp [hf,hl] at h
     obtain ⟨rfl,rfl⟩:=h
     obtain ⟨r',h1,h2⟩:=Td hf hl (hρ x _ hx)
     exact dy h1 (dF s h2)
 case indexAddr t x i =>
  cases hx:aO env x with
  | none=>simp [hx] at h
  | some p =>
   cases hy:aO env i with
   | none=>simp [hx,hy] at h
   | some q =>
    cases hl:iu cfg.P mem t p q with
    | none=>simp [hx,hy,hl] at h
    | some r =>
     simp [hx,hy,hl] at h
     obtain ⟨_,rfl,rfl⟩:=h
     obtain ⟨r',h1,h2⟩:=Uu s hl (hρ x _ hx) (hρ i _ hy)
     exact dy h1 (dF s h2)
 case index t x i =>
  cases hx:aO env x with
  | none=>simp [hx] at h
  | some p =>
   cases hy:aO env i with
   | none=>simp [hx,hy] at h
   | some q =>
    cases hl:oz cfg.P t p q with
    | none=>simp [hx,hy,hl] at h
    | some r =>
     simp [hx,hy,hl] at h
     obtain ⟨rfl,rfl⟩:=h
     obtain ⟨r',h1,h2⟩:=Ux (P:=cfg.P) hl (hρ x _ hx) (hρ i _ hy)
     exact dy h1 (dF s h2)
 case extract t i =>
  cases hx:aO env t with
  | none=>simp [hx] at h
  | some p =>
   simp only [hx,aJ] at h
   cases p<;>simp only at h<;>first | (cases h;done) | skip
   rename_i vs
   cases hg:vs[i]? with
   | none=>simp [hg] at h
   | some r =>
    simp [hg] at h
    obtain ⟨rfl,rfl⟩:=h
    obtain ⟨us,hu,hr⟩:=(hρ t _ hx).tupInv
    obtain ⟨u,hu2,hv2⟩:=hr.2 i _ hg
    rw [hu]
    exact dy (s:=Instr.extract (.tuple us) i) (by simp [Instr.extract,hu2]) (dF s hv2)
 case makeFunc fn first caps =>
  cases fn<;>simp only at h<;>first | (cases h;done) | skip
  rename_i f
  split at h
  ·rename_i hf
   split at h
   rotate_left
   ·cases h
   rename_i hfb
   cases hm:bo (aO env) caps.toList with
   | none=>simp [hm] at h
   | some cs =>
    simp [hm] at h
    obtain ⟨rfl,rfl⟩:=h
    have hL:=zC hρ hm
    have e1:first.map ρ=#[]:=by
     have:first=#[]:=by simpa using hf
     rw [this];simp
    have e2:caps.map ρ=(caps.toList.map ρ).toArray:=nR (by simp)
    rw [e1,e2]
    have hv:=VR.fn (f:=f) hL.1 hL.2
    rw [zI hfb] at hv
    exact dy (s:=Instr.makeFunc (.func f) #[] (caps.toList.map ρ).toArray) rfl (dF s hv)
  ·split at h
   rotate_left
   ·cases h
   rename_i hcp
   cases hm:bo (aO env) first.toList with
   | none=>simp [hm] at h
   | some cs =>
    simp [hm] at h
    obtain ⟨rfl,rfl⟩:=h
    have hL:=zC hρ hm
    have e1:caps.map ρ=#[]:=by
     have:caps=#[]:=by simpa using hcp
     rw [this];simp
    have e2:first.map ρ=(first.toList.map ρ).toArray:=nR (by simp)
    rw [e1,e2]
    have hv:=VR.fn (f:=gm+f) hL.1 hL.2
    rw [Tp] at hv
    exact dy (s:=Instr.makeFunc (.func f) (first.toList.map ρ).toArray #[]) rfl (dF s hv)
 case makeMap t r =>
  cases r<;>simp only at h<;>first | (cases h;done) | skip
  split at h
  ·split at h
   ·cases h
   ·obtain ⟨r',w1,h1,h2⟩:=VB s (t:=t)
    rw [Option.some.inj h] at h2
    exact dy h1 h2
  ·cases h
 case lookup t m k ok =>
  cases hx:aO env m with
  | none=>simp [hx] at h
  | some p =>
   cases hy:aO env k with
   | none=>simp [hx,hy] at h
   | some q =>
    simp only [hx,hy,aJ] at h
    cases hm:fd mem p with
    | none=>simp [hm] at h
    | some es =>
     simp only [hm,aJ] at h
     split at h
     ·rename_i hfit
      cases he:uW cfg.P t with
      | none=>simp [he] at h
      | some e =>
       cases hz:gF cfg.P e with
       | none=>simp [he,hz] at h
       | some z =>
        cases hf:en es q with
        | none=>simp [he,hf] at h
        | some r =>
         simp only [he,hz,hf,aJ,cg] at h
         cases h
         obtain ⟨r',h1,h2⟩:=Vs (ok:=ok) s hm hfit he hz hf (hρ m _ hx) (hρ k _ hy)
         exact dy h1 (dF s h2)
     ·cases h
 case mapUpdate t m k x =>
  cases hx:aO env m with
  | none=>simp [hx] at h
  | some p =>
   cases hy:aO env k with
   | none=>simp [hx,hy] at h
   | some q =>
    cases hz:aO env x with
    | none=>simp [hx,hy,hz] at h
    | some y =>
     simp only [hx,hy,hz,aJ] at h
     cases hm:fd mem p with
     | none=>simp [hm] at h
     | some es =>
      simp only [hm,aJ] at h
      split at h
      ·rename_i hc
       cases hf:ix es q y with
       | none=>simp [hf] at h
       | some out =>
        simp [hf] at h
        obtain ⟨rfl,rfl⟩:=h
        obtain ⟨w1,h1,h2⟩:=Z5 s hm hc.1 hc.2 hf (hρ m _ hx) (hρ k _ hy) (hρ x _ hz)
        exact LD h1 h2
      ·cases h
 case call c =>
  cases hcal:c.callee<;>simp only [hcal] at h<;>first | (cases h;done) | skip
  case builtin b =>
   cases ha:bo (aO env) c.args.toList with
   | none=>simp [ha] at h
   | some args =>
    simp only [ha,aJ] at h
    split at h
    ·cases h
    have hL:=zC hρ ha
    have:=PM (ty:=o.type) (consts:=c.args.map fun | .const _=>true | _=>false) s h hL
    have e2:c.args.map ρ=(c.args.toList.map ρ).toArray:=nR (by simp)
    simp only [resolve,hcal,Sem.run_bind,Sem.run_pure,Result.andThen_ok,invoke,e2]
    exact this
  case value f =>
   cases hf:aO env f with
   | none=>simp [hf] at h
   | some fv =>
    cases ha:bo (aO env) c.args.toList with
    | none=>simp [hf,ha] at h
    | some args =>
     simp only [hf,ha,aJ] at h
     cases fv<;>simp only at h<;>first | (cases h;done) | skip
     rename_i fid caps
     have hL:=zC hρ ha
     have hfv:=hρ f _ hf
     obtain ⟨us,hrf,hl,hh⟩:∃us:List Value,ρ f=mV fid us/\eB Z w j caps us:=by
      generalize ρ f=uf at hfv
      cases hfv
      exact ⟨_,rfl,‹_›,‹_›⟩
     have e2:c.args.map ρ=(c.args.toList.map ρ).toArray:=nR (by simp)
     split at h
     ·rename_i hfb
      split at h
      ·cases h
      obtain ⟨aR,hcall⟩:=Ca hp hi s h (eB.append ⟨hl,hh⟩ hL)
      rw [Tq hfb] at hrf
      simp only [resolve,hcal,hrf,Deferred.ofValue,Sem.run_bind,Sem.run_pure,Result.andThen_ok,invoke,e2]
      have e3:(us.toArray++(c.args.toList.map ρ).toArray++#[]:Array Value)=(us++c.args.toList.map ρ).toArray:=by simp
      rw [e3,MK aR]
      exact hcall
     rename_i hfb
     rw [zI (Nat.lt_of_not_le hfb)] at hrf
     have both:jB cfg.P fid=true/\Calls cfg.P fid (c.args.toList.map ρ++us).toArray w fun e w1=>∃u,e = .returned u/\cC cfg.P Z w j mem v mem' u w1:=by
      split at h
      ·split at h
       ·rename_i hfr
        simp only [bv] at hfr
        exact ⟨hfr.2,TB hi s h hfr.2 (hL.append ⟨hl,hh⟩)⟩
       ·cases h
      ·exact Ca hp hi s h (hL.append ⟨hl,hh⟩)
     obtain ⟨aR,hcall⟩:=both
     simp only [resolve,hcal,hrf,Deferred.ofValue,Sem.run_bind,Sem.run_pure,Result.andThen_ok,invoke,e2]
     have e3:(#[]++(c.args.toList.map ρ).toArray++us.toArray:Array Value)=(c.args.toList.map ρ++us).toArray:=by simp
     rw [e3,MK aR]
     exact hcall
theorem Le {env:List V} {ρ:Operand->Value} (hρ:∀x v,aO env x=some v->VR Z w j v (ρ x)):∀x v,aO (qt env) x=some v->VR Z w j0 v (ρ x):=by
 intro x v h
 have hr:n9 (fun _=>none) j j0:=fun i k h=>by cases h
 cases x with
 | tmp t =>
  simp only [aO,qt,dB,omi] at h
  obtain ⟨v0,h0,rfl⟩:=h
  exact (hρ (.tmp t) v0 h0).ren2 hr
 | const c =>
  have h1:=hρ (.const c) v h
  simp only [aO] at h
  have h2:=h1.ren2 hr
  have e:Lite.ren2 (fun _=>none) v=v:=by
   unfold mS at h
   split at h<;>first | (cases h;rfl) | (cases h;done) | skip
   split at h<;>cases h
   rfl
  rwa [e] at h2
 | global g=>simp [aO] at h
 | func f =>
  have h1:=hρ (.func f) v h
  simp only [aO] at h
  cases hfb:gL f gm<;>rw [hfb] at h<;>cases h
  have h2:=h1.ren2 hr
  exact h2
theorem LN {cfg:bi} {call:b9} (hp:gh cfg.P call.pc) (hi:eY cfg.P call.ic) {dr:Bool} {o:Oper} {g:Option (Nat × Bool)} {bx sq rx:Bool} {env:List V} {ρ:Operand->Value} {v:V}
  (s:SR cfg.P Z w j mem) (hρ:∀x v,aO env x=some v->VR Z w j v (ρ x)) (h:da cfg call dr ⟨o.dst,o.op,o.type,g,bx,sq,rx⟩ env mem=some (v,mem')) :
  kH cfg.P (cC cfg.P Z w j mem v mem') ((execOp ρ o).run cfg.P w):=by
 unfold da at h
 split at h
 rotate_left
 ·exact EP hp hi s hρ h
 cases ho:bQ cfg call true ⟨o.dst,o.op,o.type,g,bx,sq,rx⟩ (qt env) [] with
 | none=>grind
 | some r =>
  obtain ⟨v1,m1⟩:=r
  simp only [ho,aJ] at h
  have s0:SR cfg.P Z w j0 []:=⟨fun id o h=>by grind,fun id id' o o' g h=>by grind,fun _ _=>rfl,s.zin⟩
  cases m1 with
  | cons q qs =>
   simp only [omi] at h
   obtain ⟨v2,hsn,h⟩:=h
   cases h
   have key:=EP hp hi s0 (Le hρ) ho
   have imp:∀u w1,cC cfg.P Z w j0 [] v1 (q::qs) u w1->cC cfg.P Z w j mem v mem u w1:=by
    rintro u w1 ⟨Z1,j1,hv,s1,st,je⟩
    have no:∀g,¬bd Z j0 [] g:=by
     rintro g ⟨id,o,ho,_⟩;grind
    have za:Z1.a=Z.a:=funext fun t=>(st.ar t fun id o n ho=>by grind).2
    obtain ⟨sf,_⟩:=sd (fW (q::qs) v1) Z1 (q::qs) s1
    have hv2:=xV s1 hsn (ids:=fW (q::qs) v1) (fun i hi=>hi) hv
    have hz2:be Z w (cS Z1 (Fz cfg.P j1 (q::qs) (fW (q::qs) v1))) w1:=st.z.trans (be.or _ _ _)
    have hz3:∀g,g < w.heap.size->∀o,cS Z1 (Fz cfg.P j1 (q::qs) (fW (q::qs) v1)) g o↔Z g o:=fun g hg o=>⟨fun h=>by
     rcases h with h | ⟨id,_,h2,h3⟩
     ·exact ((st.keep g hg (no g)).2 o).1 h
     ·exact absurd (st.owned g hg (nw s1 h2 h3)) (no g),fun h=>.inl (((st.keep g hg (no g)).2 o).2 h)⟩
    refine ⟨_,j,hv2.mono (be.refl _ _) (aQ.zero _),s.world hz2 (fun g hg=>⟨(st.keep g (bd.lt s hg) (no g)).1,hz3 g (bd.lt s hg)⟩) sf.zin za,
     ⟨st.os,st.tape,st.output,st.size,fun g hg _=>⟨(st.keep g hg (no g)).1,hz3 g hg⟩,fun _ _ ho=>(bd.eqA za).1 ho,hz2,fun t h=>⟨h,congrFun za t⟩⟩,aQ.refl _⟩
   revert key
   unfold kH
   split
   ·grind
   ·grind
   ·intro h;exact h.mono fun e w1 hx=>by
     grind
   grind
  | nil =>
   cases h
   have key:=EP hp hi s0 (Le hρ) ho
   have imp:∀u w1,cC cfg.P Z w j0 [] v [] u w1->cC cfg.P Z w j mem v mem u w1:=by
    rintro u w1 ⟨Z1,j1,hv,s1,st,je⟩
    have hj1:∀id,j1 id=none:=fun id=>s1.out id (iE _)
    have no:∀g,¬bd Z j0 [] g:=by
     rintro g ⟨id,o,ho,_⟩;grind
    have za:Z1.a=Z.a:=funext fun t=>(st.ar t fun id o n ho=>by grind).2
    have hv':VR Z1 w1 j v u:=hv.mono (be.refl _ _) fun id h e=>by grind
    refine ⟨Z1,j,hv',s.world st.z (fun g hg=>st.keep g (bd.lt s hg) (no g)) s1.zin za,⟨st.os,st.tape,st.output,st.size,fun g hg _=>st.keep g hg (no g),fun _ _ ho=>(bd.eqA za).1 ho,st.z,fun t h=>⟨h,congrFun za t⟩⟩,aQ.refl _⟩
   revert key
   unfold kH
   split
   ·grind
   ·grind
   ·intro h;exact h.mono fun e w1 hx=>by
     grind
   grind
end
section
variable {P:Program} {Z Z':Zs} {w w':World} {j j':J} {mem mem':List O}
structure St (Z:Zs) (w:World) (j:J) (env:List V) (a:Act):Prop where
 len:a.tmps.size=env.length
 val:∀(i:Nat) (v:V),env[i]? = some v->∃u,a.tmps[i]? = some u/\VR Z w j v u
theorem St.mono {env:List V} {a:Act} (s:St Z w j env a) (hz:be Z w Z' w') (hj:aQ j j'):St Z' w' j' env a :=
 ⟨s.len,fun i v h=>let ⟨u,h1,h2⟩:=s.val i v h;⟨u,h1,h2.mono hz hj⟩⟩
theorem St.eval {env:List V} {a:Act} (s:St Z w j env a):∀x v,aO env x=some v->VR Z w j v (a.eval x):=by
 intro x v h
 cases x with
 | tmp t =>
  simp only [aO] at h
  obtain ⟨u,h1,h2⟩:=s.val t v h
  simp [Act.eval,h1,gG]
  exact h2
 | const c =>
  simp only [aO] at h
  exact Cg h
 | global g=>simp [aO] at h
 | func f =>
  simp only [aO] at h
  cases hfb:gL f gm<;>rw [hfb] at h<;>cases h
  have hv:VR Z w j (.fn f []) (mV f []):=.fn (us:=[]) rfl fun i c u hc=>by simp at hc
  rw [zI (mG ▸ hfb)] at hv
  exact hv
theorem St.put {env:List V} {a:Act} (s:St Z w j env a) (d:Option Nat) {v:V} {u:Value} (hv:VR Z w j v u):St Z w j (dM env d v) (a.put d u):=by
 cases d with
 | none=>exact s
 | some d =>
  refine ⟨by simp [dM,Act.put,s.len],fun i x hx=>?_⟩
  simp only [dM,Act.put] at hx |-
  rw [BA]
  by_cases e:d=i
  ·subst e
   have aC:d < env.length:=by
    have:=(bj.1 hx).1;simpa using this
   rw [fj aC] at hx
   cases hx
   exact ⟨u,by rw [if_pos rfl,if_pos (by rw [s.len];exact aC)],hv⟩
  ·rw [fE e] at hx
   rw [if_neg e]
   exact s.val i x hx
def rn (ops:Array Oper) (o:Oper) (q:aF):Prop :=
 ∃g bx sq rx,q=⟨o.dst,o.op,o.type,g,bx,sq,rx⟩/\((o.guard=none/\g=none)∨∃k want d,o.guard=some (k,want)/\(ops[k]?).bind (·.dst)=some d/\g=some (d,want))
def mH (ops:Array Oper) (opers:List Oper) (l:List aF):Prop :=
 l.length=opers.length/\∀(k:Nat) (o:Oper) (q:aF),opers[k]? = some o->l[k]? = some q->rn ops o q
theorem WZ {ops:Array Oper} {o:Oper} {q:aF} (h:xu ops o=some q):rn ops o q:=by
 unfold xu at h
 split at h
 ·rename_i hg;cases h;exact ⟨none,_,_,_,rfl,.inl ⟨hg,rfl⟩⟩
 ·rename_i k want hg
  cases hd:(ops[k]?).bind (·.dst) with
  | none=>simp [hd] at h
  | some d=>simp [hd] at h;subst h;exact ⟨_,_,_,_,rfl,.inr ⟨k,want,d,hg,hd,rfl⟩⟩
theorem W6 {ops:Array Oper} {opers:List Oper} {l:List aF} (h:bo (xu ops) opers=some l):mH ops opers l:=by
 obtain ⟨h1,h2⟩:=iR h
 refine ⟨h1,fun k o q ho hq=>?_⟩
 obtain ⟨o',ho',hp⟩:=h2 k q hq
 rw [ho] at ho'
 cases ho'
 exact WZ hp
theorem PF {ops:Array Oper} {o:Oper} {q:aF} (pr:Nat->Bool) (h:rn ops o q):rn ops o (yZ pr q):=by
 obtain ⟨g,bx,sq,rx,rfl,hg⟩:=h
 unfold yZ
 split
 ·rename_i d _ _
  cases pr (5000000+d)
  ·exact ⟨g,bx,sq,rx,rfl,hg⟩
  ·exact ⟨g,bx,sq,true,rfl,hg⟩
 ·rename_i d _ _
  cases pr (7000000+d)
  ·exact ⟨g,bx,sq,rx,rfl,hg⟩
  ·exact ⟨g,true,sq,rx,rfl,hg⟩
 ·rename_i d _ _
  cases pr (7000000+d)
  ·exact ⟨g,bx,sq,rx,rfl,hg⟩
  ·exact ⟨g,true,sq,rx,rfl,hg⟩
 ·rename_i d _ _
  cases pr (7000000+d)
  ·exact ⟨g,bx,sq,rx,rfl,hg⟩
  ·exact ⟨g,true,sq,rx,rfl,hg⟩
 ·exact ⟨g,bx,sq,rx,rfl,hg⟩
theorem W0 {ops:Array Oper} {opers:List Oper} {l:List aF} (pr:Nat->Bool) (h:mH ops opers l):mH ops opers (l.map (yZ pr)):=by
 refine ⟨by rw [dO];exact h.1,fun k o q ho hq=>?_⟩
 rw [dB,omi] at hq
 obtain ⟨q0,hq0,rfl⟩:=hq
 exact PF pr (h.2 k o q0 ho hq0)
theorem JW:∀(l:List aF) (fs:List (Bool × Bool × Bool)),(lR l fs).length=l.length/\∀(k:Nat) (q:aF),(lR l fs)[k]? = some q->∃q0 bx sq rx,l[k]? = some q0/\q=⟨q0.dst,q0.op,q0.type,q0.guard,bx,sq,rx⟩/\(q0.bx=true->bx=true)
 | [],fs=>⟨by cases fs<;>rfl,fun k q h=>by cases fs<;>simp [lR] at h⟩
 | q::l,[]=>⟨rfl,fun k q h=>⟨q,q.bx,q.sq,q.rx,h,rfl,id⟩⟩
 | q::l,x::fs=>by
  obtain ⟨h1,h2⟩:=JW l fs
  refine ⟨by simp [lR,h1],fun k p hp=>?_⟩
  cases k with
  | zero=>simp [lR] at hp;exact ⟨q,x.1 || q.bx,x.2.1,x.2.2,rfl,hp.symm,fun h=>by simp [h]⟩
  | succ k=>exact h2 k p (by simpa [lR] using hp)
def OU (o:Oper) (q:aF):Prop:=∃T d x ty sq rx,o.op = .store T (.tmp d) x/\o.dst=none/\o.guard=none/\q=⟨some d,.box T x,ty,none,true,sq,rx⟩
def Ht (ops:Array Oper) (o:Oper) (q:aF):Prop:=rn ops o q∨OU o q
def lE (ops:Array Oper) (opers:List Oper) (l:List aF):Prop :=
 l.length=opers.length/\∀(k:Nat) (o:Oper) (q:aF),opers[k]? = some o->l[k]? = some q->Ht ops o q
theorem mH.drawn {ops:Array Oper} {opers:List Oper} {l:List aF} (h:mH ops opers l):lE ops opers l:=⟨h.1,fun k o q h1 h2=>.inl (h.2 k o q h1 h2)⟩
theorem W5 {ops:Array Oper} {opers:List Oper} {l:List aF} (h:mH ops opers l):lE ops opers (xg l):=by
 refine ⟨by simp [xg,h.1],fun k o q ho hq=>?_⟩
 unfold xg at hq
 rw [dB] at hq
 cases hl:l[k]? with
 | none=>simp [hl] at hq
 | some q0 =>
  simp only [hl,cg,Option.some.injEq] at hq
  have hp:=h.2 k o q0 ho hl
  subst hq
  obtain ⟨g,bx,sq,rx,rfl,hg⟩:=id hp
  unfold KE
  simp only
  split
  ·split
   ·rename_i hop _ d hd
    cases hc:Ad l d _ with
    | true=>exact .inl ⟨g,true,sq,rx,by simp only [cond_true,hd,hop],hg⟩
    | false=>exact .inl hp
   ·exact .inl hp
  ·rename_i T d y hop
   cases hc:(Ad l d T && g.isNone && o.dst.isNone) with
   | true =>
    simp only [bv,BQ] at hc
    obtain ⟨⟨_,hgn⟩,hdn⟩:=hc
    refine .inr ⟨T,d,y,_,sq,rx,hop,hdn,?_,rfl⟩
    rcases hg with ⟨h1,_⟩ | ⟨k,want,d,_,_,h3⟩
    ·exact h1
    ·rw [hgn] at h3;cases h3
   | false=>exact .inl hp
  ·exact .inl hp
theorem W4 {ops:Array Oper} {opers:List Oper} {l:List aF} (h:lE ops opers l) (fs:List (Bool × Bool × Bool)):lE ops opers (lR l fs):=by
 obtain ⟨h1,h2⟩:=JW l fs
 refine ⟨h1.trans h.1,fun k o q ho hq=>?_⟩
 obtain ⟨q0,bx,sq,rx,hq0,rfl,hbx⟩:=h2 k q hq
 rcases h.2 k o q0 ho hq0 with ⟨g,_,_,_,rfl,hg⟩ | ⟨T,d,x,ty,sq0,rx0,e1,e2,e3,rfl⟩
 ·exact .inl ⟨g,bx,sq,rx,rfl,hg⟩
 ·have hb:bx=true:=hbx rfl
  subst hb
  exact .inr ⟨T,d,x,ty,sq,rx,e1,e2,e3,rfl⟩
theorem ZP {ops:Array Oper} {opers:List Oper} {l l':List aF} (h:mH ops opers l):∀(r:List (Nat × Bool)),yb ops l r=some l'->lE ops opers l'/\uB ops l'=true:=by
 intro r
 induction r with
 | nil=>intro h;cases h
 | cons x r ih =>
  obtain ⟨m,lz⟩:=x
  intro h'
  unfold yb at h'
  have key:∀l0,lE ops opers l0->(if uB ops (lR l0 (Dr m l0 (iG ops.toList [])))=true then some (lR l0 (Dr m l0 (iG ops.toList []))) else yb ops l r)=some l'->lE ops opers l'/\uB ops l'=true:=by
   intro l0 h0 h'
   split at h'
   ·rename_i hd
    cases h'
    exact ⟨W4 h0 _,hd⟩
   ·exact ih h'
  cases lz
  ·exact key l h.drawn h'
  ·exact key (xg l) (W5 h) h'
theorem St.fill {env:List V} {a:Act} (s:St Z w j env a) {d:Nat} {v:V} {u:Value} (hu:a.tmps[d]? = some u) (hv:VR Z w j v u):St Z w j (env.set d v) a:=by
 refine ⟨by simp [s.len],fun i x hx=>?_⟩
 by_cases e:d=i
 ·subst e
  have aC:d < env.length:=by have:=(bj.1 hx).1;simpa using this
  rw [fj aC] at hx
  cases hx
  exact ⟨u,hu,hv⟩
 ·rw [fE e] at hx
  exact s.val i x hx
theorem Bt {ops:Array Oper} {o:Oper} {q:aF} {env:List V} {a:Act} {b:Bool} (h:rn ops o q) (s:St Z w j env a) (hw:dN env q.guard=some b):Region.wanted o (yielded ops a.tmps)=b:=by
 obtain ⟨g,_,_,_,rfl,hg⟩:=h
 rcases hg with ⟨h1,rfl⟩ | ⟨k,want,d,h1,h2,rfl⟩
 ·simp [dN] at hw
  subst hw
  simp [Region.wanted,h1]
 ·simp only [dN] at hw
  have hy:yielded ops a.tmps k=match a.tmps[d]? with | some (.bool b)=>some b | _=>none:=by
   simp only [yielded,h2,aJ]
   rfl
  simp only [Region.wanted,h1,hy]
  split at hw
  ·rename_i b0 he
   obtain ⟨u,hu,hv⟩:=s.val d _ he
   cases hv
   cases hw
   rw [hu]
   cases b0<;>cases want<;>rfl
  ·rename_i he
   obtain ⟨u,hu,hv⟩:=s.val d _ he
   cases hw
   rw [hu]
   cases hv
   rfl
  ·cases hw
structure fi (l:List aF) (a a':Act):Prop where
 defs:a'.defers=a.defers
 size:a'.tmps.size=a.tmps.size
 tmps:∀i,(∀o∈l,o.dst≠some i)->a'.tmps[i]? = a.tmps[i]?
theorem fi.refl (l:List aF) (a:Act):fi l a a:=⟨rfl,rfl,fun _ _=>rfl⟩
theorem fi.put {l:List aF} {a a':Act} {o:aF} (h:fi l a a') (ho:o∈l) (u:Value):fi l a (a'.put o.dst u):=by
 obtain ⟨h1,h0,h2⟩:=h
 cases hd:o.dst with
 | none=>exact ⟨h1,h0,h2⟩
 | some d =>
  refine ⟨h1,?_,fun i hi=>?_⟩
  ·show (a'.tmps.setIfInBounds d u).size=_
   rw [Array.size_setIfInBounds];exact h0
  have:d≠i:=fun e=>hi o ho (by rw [hd,e])
  show (a'.tmps.setIfInBounds d u)[i]? = _
  rw [G1 this]
  exact h2 i hi
theorem fi.cons {l:List aF} {o:aF} {a a1 a':Act} {u:Value} (h:fi l (a.put o.dst u) a'):fi (o::l) a a':=by
 have h0:=(fi.refl (o::l) a).put (o:=o) (by simp) u
 exact ⟨h.1.trans h0.1,h.2.trans h0.2,fun i hi=>(h.3 i fun q hq=>hi q (by simp [hq])).trans (h0.3 i hi)⟩
abbrev FR (r:Option Nat):Fence:={ Fence.wide with round:=r }
theorem H7 {r:Option Nat} {n:Nat} {P:Program} {f:FuncId} {args:Array Value} {w:World} {R:Ending->World->Prop} (h:Calls P f args w R):CallsIn (FR r) n P f args w R:=by
 have h1:CallsIn Fence.wide n P f args w R:=callsIn_wide.2 h
 cases r with
 | none=>exact h1
 | some l=>exact h1.inRound l
theorem kH.uponIn {o:Oper} {a:Act} {next:Act->World->Prop} {Q:Exit->Act->World->Prop} {Post:Value->World->Prop} {res:Result Next} {r:Option Nat} {n:Nat}
  (h:kH P Post res) (hn:∀u w',Post u w'->next (a.put o.dst u) w'):o.uponIn (FR r) n P a next Q res:=by
 cases res with
 | ok x w1 =>
  cases x<;>first | exact h.elim | skip
  case value u=>exact hn _ _ h
  case skip=>exact hn _ _ h
  case enter f args=>exact ⟨fun e=>(by cases e),H7 (Calls.mono h fun e w'' ⟨u,he,hp⟩=>by subst he;exact hn _ _ hp)⟩
 | halt x w1=>exact h.elim
theorem LI {cfg:bi} {call:b9} {dr:Bool} {o:aF} {env:List V} {mem:List O} {v:V} {m:List O} (h:bQ cfg call dr o env mem=some (v,m)):∀c,o.op≠.defer c:=by
 intro c e
 simp [bQ,e] at h
theorem EO {cfg:bi} {call:b9} {dr:Bool} {o:aF} {env:List V} {mem:List O} {v:V} {m:List O} (h:da cfg call dr o env mem=some (v,m)):∀c,o.op≠.defer c:=by
 unfold da at h
 split at h
 ·simp only [obi] at h
  obtain ⟨⟨v1,m1⟩,h1,_⟩:=h
  exact LI h1
 ·exact LI h
theorem xp {o:Oper} {a:Act} {w:World} {next:Act->World->Prop} {Q:Exit->Act->World->Prop} {Post:Value->World->Prop} {r:Option Nat} {n:Nat} (hd:∀c,o.op≠.defer c)
  (h:kH P Post ((execOp a.eval o).run P w)) (hn:∀u w',Post u w'->next (a.put o.dst u) w'):o.wpIn (FR r) n P a w next Q:=by
 refine ⟨fun _ _=>trivial,?_⟩
 rw [Oper.semAt_eq _ _ _ hd]
 exact h.uponIn hn
def vO (P:Program) (Z:Zs) (w:World) (j:J) (mem:List O) (s':S) (a:Act) (w':World):Prop :=
 ∃Z' j',St Z' w' j' s'.env a/\SR P Z' w' j' s'.mem/\aI Z w j mem Z' w' j' s'.mem/\aQ j j'
theorem Wy {r:Option Nat} {n:Nat} {cfg:bi} {call:b9} (hp:gh cfg.P call.pc) (hi:eY cfg.P call.ic) {ops:Array Oper} {Q:Exit->Act->World->Prop} {dr:Bool} :
  ∀(opers:List Oper) (l:List aF) (env:List V) (mem:List O) (s':S) (a:Act) (w:World) (Z:Zs) (j:J),mH ops opers l->fB cfg call dr l ⟨env,mem⟩=some s'->St Z w j env a->SR cfg.P Z w j mem ->
   (∀a' w',vO cfg.P Z w j mem s' a' w'->fi l a a'->Q .normal a' w')->wpListIn (FR r) n cfg.P ops Q opers a w:=by
 intro opers
 induction opers with
 | nil =>
  intro l env mem s' a w Z j hl h st sr hQ
  have:l=[]:=pw hl.1
  subst this
  simp [fB] at h
  subst h
  exact hQ a w ⟨Z,j,st,sr,aI.refl _ _ _ _,aQ.refl _⟩ (fi.refl _ _)
 | cons o opers ih =>
  intro l env mem s' a w Z j hl h st sr hQ
  cases l with
  | nil=>have:=hl.1;simp at this
  | cons q rest =>
   have hq:=hl.2 0 o q rfl rfl
   have hr:mH ops opers rest:=⟨by have:=hl.1;simpa using this,fun k o' q' h1 h2=>hl.2 (k+1) o' q' (by simpa using h1) (by simpa using h2)⟩
   simp only [fB] at h
   cases hw:dN env q.guard with
   | none=>simp [hw] at h
   | some b =>
    have hwt:=Bt hq st hw
    obtain ⟨g,bx,sq,rx,rfl,_⟩:=hq
    simp only [wpListIn,hwt]
    cases b
    ·simp [hw] at h
     rw [if_neg (by simp)]
     exact ⟨fun _ _=>trivial,ih rest _ mem s' _ w Z j hr h (st.put o.dst (.tup (us:=[]) rfl fun i c u hc=>by simp at hc)) sr fun a' w' h1 h2=>hQ a' w' h1 (fi.cons (a1:=a) (o:=⟨o.dst,o.op,o.type,g,bx,sq,rx⟩) h2)⟩
    ·simp only [hw,aJ,if_true] at h
     rw [if_pos rfl]
     cases ho:da cfg call (dw dr ⟨o.dst,o.op,o.type,g,bx,sq,rx⟩) ⟨o.dst,o.op,o.type,g,bx,sq,rx⟩ env mem with
     | none=>simp [ho] at h
     | some r =>
      obtain ⟨v,m⟩:=r
      simp only [ho,aJ] at h
      have hop:=LN hp hi sr st.eval ho
      refine xp (EO ho) hop ?_
      rintro u w1 ⟨Z1,j1,hv,s1,stp,je⟩
      refine ih rest _ m s' _ w1 Z1 j1 hr h ((st.mono stp.z je).put o.dst hv) s1 fun a' w' ⟨Z2,j2,h1,h2,h3,h4⟩ hk=>hQ a' w' ⟨Z2,j2,h1,h2,stp.trans h3,je.trans h4⟩ (fi.cons (a1:=a) (o:=⟨o.dst,o.op,o.type,g,bx,sq,rx⟩) hk)
theorem Xz {r:Option Nat} {n:Nat} {cfg:bi} {call:b9} (hp:gh cfg.P call.pc) (hi:eY cfg.P call.ic) {ops:Array Oper} {Q:Exit->Act->World->Prop} {id:Nat} {l:List aF} {env:List V} {s':S} {a:Act}
  (hl:mH ops ops.toList l) (h:fB cfg call false l ⟨env,mem⟩=some s') (st:St Z w j env a) (sr:SR cfg.P Z w j mem) (hQ:∀a' w',vO cfg.P Z w j mem s' a' w'->fi l a a'->Q .normal a' w') :
  (Code.region id ops false).wpIn (FR r) n cfg.P Q a w :=
 wpIn_region_list (Wy hp hi ops.toList l env mem s' a w Z j hl h st sr hQ)
end
section
variable {P:Program} {Z Z':Zs} {w w':World} {j j':J} {mem mem':List O}
def i4 (cfg:bi) (call:b9) (o:aF) (s:S) (v:V) (s':S):Prop :=
 (dN s.env o.guard=some true/\da cfg call (dw true o) o s.env s.mem=some (v,s'.mem)/\s'.env=dM s.env o.dst v) ∨
 (dN s.env o.guard=some false/\v = .tup []/\s'.mem=s.mem/\s'.env=dM s.env o.dst v)
theorem ZL {cfg:bi} {call:b9}:∀(l:List aF) (s s':S),fB cfg call true l s=some s' ->
  ∃(vs:Nat->V) (st:Nat->S),st 0=s/\st l.length=s'/\∀(k:Nat) (o:aF),l[k]? = some o->i4 cfg call o (st k) (vs k) (st (k+1)):=by
 intro l
 induction l with
 | nil=>intro s s' h;simp [fB] at h;subst h;exact ⟨fun _=>.junk,fun _=>s,rfl,rfl,fun k o h=>by grind⟩
 | cons o l ih =>
  intro s s' h
  simp only [fB] at h
  have fin:∀(v:V) (s1:S),i4 cfg call o s v s1->fB cfg call true l s1=some s'->∃(vs:Nat->V) (st:Nat->S),st 0=s/\st (o::l).length=s'/\∀(k:Nat) (q:aF),(o::l)[k]? = some q->i4 cfg call q (st k) (vs k) (st (k+1)):=by
   intro v s1 h1 h2
   obtain ⟨vs,st,e0,e1,e2⟩:=ih s1 s' h2
   refine ⟨fun k=>match k with | 0=>v | k+1=>vs k,fun k=>match k with | 0=>s | k+1=>st k,rfl,e1,fun k q hq=>?_⟩
   grind
  cases hw:dN s.env o.guard with
  | none=>grind
  | some b =>
   cases b
   ·simp [hw] at h
    exact fin (.tup []) ⟨dM s.env o.dst (.tup []),s.mem⟩ (.inr ⟨hw,rfl,rfl,rfl⟩) h
   ·simp only [hw,aJ,if_true] at h
    cases ho:da cfg call (dw true o) o s.env s.mem with
    | none=>grind
    | some r =>
     obtain ⟨v,m⟩:=r
     simp only [ho,aJ] at h
     exact fin v _ (.inl ⟨hw,ho,rfl⟩) h
theorem rS {e1 e2:List V} {x:Operand} (h:∀t,x = .tmp t->e1[t]? = e2[t]?):aO e1 x=aO e2 x:=by
 cases x<;>simp [aO]
 grind
theorem zB {e1 e2:List V} {l:List Operand} (h:∀x∈l,aO e1 x=aO e2 x):bo (aO e1) l=bo (aO e2) l:=by
 induction l with
 | nil=>rfl
 | cons x l ih=>simp only [bo];grind
theorem L1 {e1 e2:List V} {l:List (Nat × Operand)} (h:∀p∈l,aO e1 p.2=aO e2 p.2):bo (nB e1) l=bo (nB e2) l:=by
 induction l with
 | nil=>rfl
 | cons x l ih=>simp only [bo,nB];grind
theorem LG {cfg:bi} {call:b9} {dr:Bool} {o:aF} {e1 e2:List V} (h:∀x∈o.op.operands,aO e1 x=aO e2 x) (m:List O):bQ cfg call dr o e1 m=bQ cfg call dr o e2 m:=by
 have om:∀(x:Option Operand),(∀y,x=some y->aO e1 y=aO e2 y)->x.map (aO e1)=x.map (aO e2):=by
  intro x hx
  cases x with
  | none=>rfl
  | some y=>simp [hx y rfl]
 simp only [bQ]
 cases hop:o.op<;>simp only [hop,Op.operands,Call.operands] at h |-
 case build t ps =>
  rw [L1 (e1:=e1) (e2:=e2) fun p hp=>h p.2 (by simp;exact ⟨p.1,by simpa using hp⟩)]
 case buildSlice t n ps =>
  rw [L1 (e1:=e1) (e2:=e2) fun p hp=>h p.2 (by simp;exact ⟨p.1,by simpa using hp⟩)]
 case makeFunc fn first caps =>
  cases fn<;>simp only
  rw [zB (l:=caps.toList) (e1:=e1) (e2:=e2) fun x hx=>h x (by simp;exact .inr (by simpa using hx)),zB (l:=first.toList) (e1:=e1) (e2:=e2) fun x hx=>h x (by simp;exact .inl (by simpa using hx))]
 case slice t x lo hi mx =>
  rw [h x (by simp),om lo fun y hy=>h y (by simp [hy]),om hi fun y hy=>h y (by simp [hy]),om mx fun y hy=>h y (by simp [hy])]
 case call c =>
  cases hc:c.callee<;>simp only [hc] at h |-
  ·rename_i f
   rw [h f (by simp),zB (e1:=e1) (e2:=e2) fun x hx=>h x (by simp;exact .inr (by simpa using hx))]
  ·rw [zB (e1:=e1) (e2:=e2) fun x hx=>h x (by simpa using hx)]
 case makeMap t r=>cases r<;>simp
 all_goals first
  | rfl
  |(simp at h;simp [h];done)
  |(simp at h;obtain ⟨h1,h2⟩:=h;rw [h1,h2])
  |(simp at h;obtain ⟨h1,h2,h3⟩:=h;rw [h1,h2,h3])
  |(simp at h;rw [h])
theorem Lt {cfg:bi} {call:b9} {o:aF} {env:List V} {v:V} (hw:iT o.op=false) (hcb:ej o.op=true->o.bx=false) (h:bQ cfg call true o env mem=some (v,mem')):mem'=mem:=by
 simp only [bQ] at h
 cases hop:o.op<;>simp only [hop,iT] at h hw<;>first | (cases h;done) | (cases hw;done) | skip
 case move x =>
  cases hx:aO env x with
  | none=>simp [hx] at h
  | some a =>
   simp only [hx,aJ,bR,lB,cK,if_false] at h
   cases h;rfl
 case assign x =>
  cases hx:aO env x with
  | none=>simp [hx] at h
  | some a =>
   simp only [hx,aJ,bR,lB,cK,if_false] at h
   cases a<;>simp at h<;>exact h.2.symm
 case load t a =>
  simp only [obi] at h
  obtain ⟨p,_,h⟩:=h
  split at h
  ·cases h
  ·simp only [omi] at h
   obtain ⟨_,_,h⟩:=h
   cases h;rfl
 case nilCheck x =>
  simp only [obi] at h
  obtain ⟨p,_,h⟩:=h
  split at h
  ·cases h;rfl
  ·cases h
 case pick c a b =>
  cases hc:aO env c with
  | none=>simp [hc] at h
  | some vc =>
   cases ha:aO env a with
   | none=>simp [hc,ha] at h
   | some va =>
    cases hb:aO env b with
    | none=>simp [hc,ha,hb] at h
    | some vb =>
     simp only [hc,ha,hb,aJ] at h
     cases vc<;>simp at h
     exact h.2.symm
 case makeFunc fn first caps =>
  cases fn<;>simp only at h<;>first | (cases h;done) | skip
  repeat' split at h
  all_goals first | (cases h;done) | (simp only [omi] at h;obtain ⟨_,_,h⟩:=h;cases h;rfl)
 case field st x f =>
  cases hx:aO env x with
  | none=>simp [hx] at h
  | some p =>
   simp only [hx,aJ] at h
   cases p<;>simp only at h<;>first | (cases h;done) | skip
   simp only [obi,omi] at h
   obtain ⟨_,_,_,_,h⟩:=h
   cases h;rfl
 case extract t i =>
  cases hx:aO env t with
  | none=>simp [hx] at h
  | some p =>
   simp only [hx,aJ] at h
   cases p<;>simp only at h<;>first | (cases h;done) | skip
   simp only [omi] at h
   obtain ⟨_,_,h⟩:=h
   cases h;rfl
 case lookup t m k ok =>
  cases hx:aO env m with
  | none=>simp [hx] at h
  | some p =>
   cases hy:aO env k with
   | none=>simp [hx,hy] at h
   | some q =>
    simp only [hx,hy,aJ] at h
    simp only [obi] at h
    obtain ⟨_,_,h⟩:=h
    split at h
    ·simp only [obi,omi] at h
     obtain ⟨_,_,_,_,_,_,h⟩:=h
     cases h;rfl
    ·cases h
 case call c =>
  cases hc:c.callee<;>simp only [hc] at h hw<;>first | (cases h;done) | skip
  case builtin b =>
   simp only [obi] at h
   obtain ⟨args,_,h⟩:=h
   split at h
   ·cases h
   cases b<;>simp at hw<;>simp only [gv] at h
   ·unfold oG at h
    split at h
    ·simp only [omi] at h
     obtain ⟨_,_,h⟩:=h
     cases h;rfl
    ·cases h
   ·cases args<;>simp only [mW] at h
    ·cases h
    ·simp only [omi] at h
     obtain ⟨_,_,h⟩:=h
     cases h;rfl
   ·cases args<;>simp only [mW] at h
    ·cases h
    ·simp only [omi] at h
     obtain ⟨_,_,h⟩:=h
     cases h;rfl
  case value f =>
   simp only [obi] at h
   obtain ⟨fv,_,args,_,h⟩:=h
   cases fv<;>simp only at h<;>first | (cases h;done) | skip
   split at h
   ·cases h
   rw [hcb (by simp [hop,ej,hc])] at h
   simp only [mr,cK,if_false] at h
   unfold gN at h
   split at h
   ·cases h
   ·split at h
    ·simp only [obi] at h
     obtain ⟨as0,_,r,_,h⟩:=h
     have tk:∀(ad:Bool),(mh (ad && !true) mem r).2=mem:=by
      intro ad
      simp only [bR,lB]
      cases r<;>first | rfl | exact ZB _ _
     split at h
     ·split at h
      ·cases h
      ·rename_i hz
       simp only [dI,Bool.not_eq_true,Bool.not_eq_false',List.isEmpty_iff] at hz
       rw [hz] at h
       simp only [freezeAll] at h
       injection h with h
       have:=congrArg Prod.snd h
       rw [tk] at this
       exact this.symm
     ·injection h with h
      have:=congrArg Prod.snd h
      rw [tk] at this
      exact this.symm
    ·cases h
 case slice t x lo hi mx =>
  simp only [obi] at h
  obtain ⟨_,_,h⟩:=h
  split at h
  ·cases h
  ·simp only [omi] at h
   obtain ⟨_,_,h⟩:=h
   cases h;rfl
 case indexAddr t x i =>
  simp only [obi] at h
  obtain ⟨_,_,_,_,h⟩:=h
  split at h
  ·cases h
  ·simp only [omi] at h
   obtain ⟨_,_,h⟩:=h
   cases h;rfl
 all_goals
  (simp only [obi,omi] at h
   first
   |(obtain ⟨_,_,h⟩:=h;cases h;rfl)
   |(obtain ⟨_,_,_,_,h⟩:=h;cases h;rfl)
   |(obtain ⟨_,_,_,_,_,_,h⟩:=h;cases h;rfl))
theorem Ou {o:aF} (hx:o.rx=false) (h:cN o=false):dw true o=true/\(ej o.op=true->o.bx=false)/\(iT o.op=false∨((m8 o.op=true∨so o.op=true∨oD o.op=true)/\o.bx=true)):=by
 unfold cN at h
 rw [hx,jq,dI,re] at h
 refine ⟨by unfold dw;grind,fun hc=>by grind,?_⟩
 grind
theorem LM {cfg:bi} {call:b9} {dr:Bool} {o:aF} {env:List V} {v:V} (hx:o.rx=true) (h:da cfg call dr o env mem=some (v,mem')):mem'=mem/\∀m2,da cfg call dr o env m2=some (v,m2):=by
 unfold da at h |-
 rw [if_pos hx] at h
 simp only [obi] at h
 obtain ⟨⟨v1,m1⟩,h1,h2⟩:=h
 cases m1 with
 | cons _ _ =>
  simp only [omi] at h2
  grind
 | nil =>
  grind
theorem ma {cfg:bi} {call:b9} {dr:Bool} {o:aF} {env:List V} (hx:o.rx=false) (m:List O):da cfg call dr o env m=bQ cfg call dr o env m:=by
 unfold da;grind
theorem Wp {cfg:bi} {call:b9} {dr:Bool} {o:aF} {e1 e2:List V} (h:∀x∈o.op.operands,aO e1 x=aO e2 x) (m:List O):da cfg call dr o e1 m=da cfg call dr o e2 m:=by
 unfold da
 rw [LG h m]
 rw [LG (e1:=qt e1) (e2:=qt e2) (fun x hx=>?_) []]
 have:=h x hx
 cases x with
 | tmp t=>simp only [aO,qt,dB] at this |-;grind
 | _=>rfl
theorem H3 {cfg:bi} {call:b9} {dr:Bool} {o:aF} {env:List V} {v:V} (hb:m8 o.op=true) (hx:o.bx=true) (h:bQ cfg call dr o env mem=some (v,mem')):mem'=mem/\∀m2,bQ cfg call dr o env m2=some (v,m2):=by
 simp only [bQ,hx] at h |-
 cases hop:o.op<;>simp only [hop,m8] at h hb |-<;>first | (cases hb;done) | skip
 simp only [obi] at h |-
 grind
theorem HH {cfg:bi} {call:b9} {dr:Bool} {o:aF} {env:List V} {v:V} (hb:oD o.op=true) (hx:o.bx=true) (h:bQ cfg call dr o env mem=some (v,mem')):mem'=mem/\∀m2,bQ cfg call dr o env m2=some (v,m2):=by
 simp only [bQ,hx] at h |-
 cases hop:o.op<;>simp only [hop,oD] at h hb |-<;>first | (cases hb;done) | skip
 simp only [obi] at h |-
 grind
theorem Wf {x:V} (h:nv x=true) (m m2:List O):lO m x=lO m2 x:=by
 cases x<;>first | rfl | (cases h;done)
theorem Wi {P:Program} {x:V} (h:nv x=true) (m m2:List O) (t:TypeId) (lo hi mx:Option (Option V)):jn P m t x lo hi mx=jn P m2 t x lo hi mx:=by
 unfold jn
 cases P.underlying t with
 | none=>cases x<;>rfl
 | some d=>cases x<;>first | (cases h;done) | (cases d<;>rfl)
theorem Wg {P:Program} {x:V} (h:nv x=true) (m m2:List O) (t:TypeId) (i:V):iu P m t x i=iu P m2 t x i:=by
 cases x<;>first | rfl | (cases h;done)
theorem Wh {P:Program} {x:V} (h:nv x=true) (m m2:List O) (t:TypeId):lp P m t x=lp P m2 t x:=by
 unfold lp
 cases P.underlying t with
 | none=>cases x<;>rfl
 | some d=>cases x<;>first | (cases h;done) | (cases d<;>rfl)
theorem B7 {cfg:bi} {call:b9} {dr:Bool} {o:aF} {env:List V} {v:V} (hb:mP o.op=true) (hx:o.bx=true) (hs:o.sq=false∨so o.op=true) (h:bQ cfg call dr o env mem=some (v,mem')):mem'=mem/\∀m2,bQ cfg call dr o env m2=some (v,m2):=by
 have hsq:o.sq=false:=by
  rcases hs with h1 | h1
  ·exact h1
  ·cases hsq:o.sq with
   | false=>rfl
   | true =>
    exfalso
    simp only [bQ,hx,hsq] at h
    cases hop:o.op<;>simp only [hop,so] at h h1<;>first | (cases h1;done) | skip
    rename_i c
    cases hc:c.callee<;>simp only [hc] at h h1<;>first | (cases h1;done) | skip
    rename_i b
    cases b<;>simp only at h1<;>first | (cases h1;done) | skip
    simp only [obi] at h
    obtain ⟨_,_,h⟩:=h
    simp [qo] at h
 simp only [bQ,hx,hsq,cond_false,jq,nS] at h |-
 cases hop:o.op<;>simp only [hop,mP] at h hb |-<;>first | (cases hb;done) | skip
 case slice t x lo hi mx =>
  simp only [obi] at h |-
  obtain ⟨a,ha,h⟩:=h
  split at h
  ·cases h
  ·rename_i hn
   simp only [dI,iC,G6] at hn
   simp only [omi] at h
   obtain ⟨r,hr,h⟩:=h
   cases h
   exact ⟨rfl,fun m2=>⟨a,ha,by rw [hn];simp only [dI,bR,cK,if_false];rw [Wi hn m2 mem,hr];rfl⟩⟩
 case indexAddr t x i =>
  simp only [obi] at h |-
  obtain ⟨a,ha,b,hb',h⟩:=h
  split at h
  ·cases h
  ·rename_i hn
   simp only [dI,iC,G6] at hn
   simp only [omi] at h
   obtain ⟨r,hr,h⟩:=h
   cases h
   exact ⟨rfl,fun m2=>⟨a,ha,b,hb',by rw [hn];simp only [dI,bR,cK,if_false];rw [Wg hn m2 mem,hr];rfl⟩⟩
 case call c =>
  cases hc:c.callee<;>simp only [hc] at h hb |-<;>first | (cases hb;done) | skip
  rename_i b
  simp only [obi] at h |-
  obtain ⟨args,ha,h⟩:=h
  split at h
  ·cases h
  rename_i hn
  simp only [dI,iC,G6] at hn
  have goal:∀m2,(if (true && !mO b args)=true then none else gv cfg.P b m2 c.argTypes.toList args)=gv cfg.P b m2 c.argTypes.toList args:=by
   intro m2;rw [hn];rfl
  have fin:(mem'=mem/\∀m2,gv cfg.P b m2 c.argTypes.toList args=some (v,m2))->mem'=mem/\∀m2,∃a,bo (aO env) c.args.toList=some a/\(if (true && !mO b a)=true then none else gv cfg.P b m2 c.argTypes.toList a)=some (v,m2) :=
   fun ⟨q1,q2⟩=>⟨q1,fun m2=>⟨args,ha,(goal m2).trans (q2 m2)⟩⟩
  refine fin ?_
  clear fin goal
  cases b<;>simp at hb
  ·-- append
   simp only [gv] at h |-
   unfold un at h |-
   split at h
   ·rename_i t t' s x hts
    simp only [mO,bv] at hn
    split at h
    ·rename_i htt
     have key:mem'=mem/\∀m2,iH cfg.P m2 t s x=some (v,m2):=by
      cases s<;>first | (cases hn.1;done) | skip
      unfold iH at h |-
      simp only [obi] at h |-
      obtain ⟨e,he,xs,hxs,h⟩:=h
      split at h
      ·rename_i hall
       split at h
       ·rename_i hcc
        cases h
        exact ⟨rfl,fun m2=>⟨e,he,xs,(Wf hn.2 m2 mem).trans hxs,by rw [if_pos hall,if_pos hcc]⟩⟩
       ·cases h
      ·cases h
     exact ⟨key.1,fun m2=>by rw [if_pos htt];exact key.2 m2⟩
    ·exfalso
     unfold rz at h
     split at h
     ·cases hn.1
     ·cases h
   ·cases h
  ·-- len
   simp only [gv] at h |-
   unfold oG at h |-
   split at h
   ·rename_i t _ x _ hts
    simp only [mO] at hn
    simp only [omi] at h
    obtain ⟨r,hr,h⟩:=h
    cases h
    exact ⟨rfl,fun m2=>by rw [Wh hn m2 mem,hr];rfl⟩
   ·cases h
theorem HJ {o:Op} (h:so o=true):mP o=true:=by
 cases o<;>simp only [so] at h<;>first | (cases h;done) | skip
 simp only [mP]
 grind
theorem EJ {cfg:bi} {call:b9} {o:aF} {env:List V} {v:V} (hw:cN o=false) (h:da cfg call (dw true o) o env mem=some (v,mem')):mem'=mem:=by
 cases hrx:o.rx
 rotate_left
 ·exact (LM hrx h).1
 rw [ma hrx] at h
 obtain ⟨hd,hcb,hw | ⟨hb | hb | hb,hx⟩⟩:=Ou hrx hw
 ·rw [hd] at h;exact Lt hw hcb h
 ·exact (H3 hb hx h).1
 ·exact (B7 (HJ hb) hx (.inr hb) h).1
 ·exact (HH hb hx h).1
theorem Lu {cfg:bi} {call:b9} {o:aF} {env:List V} {v:V} (hw:iT o.op=false) (hr:oV o.op=false) (h:bQ cfg call true o env mem=some (v,mem')) (m2:List O):bQ cfg call true o env m2=some (v,m2):=by
 simp only [bQ] at h |-
 cases hop:o.op<;>simp only [hop,iT,oV] at h hw hr |-<;>first | (cases h;done) | (cases hw;done) | (cases hr;done) | skip
 case move x =>
  cases hx:aO env x with
  | none=>simp [hx] at h
  | some a =>
   simp only [hx,aJ,bR,lB,cK,if_false] at h |-
   cases h;rfl
 case assign x =>
  cases hx:aO env x with
  | none=>simp [hx] at h
  | some a =>
   simp only [hx,aJ,bR,lB,cK,if_false] at h |-
   cases a<;>simp at h |-<;>exact h.1
 case nilCheck x =>
  simp only [obi] at h |-
  obtain ⟨p,hp,h⟩:=h
  split at h
  ·rename_i hs
   cases h
   exact ⟨_,hp,by rw [if_pos hs]⟩
  ·cases h
 case pick c a b =>
  cases hc:aO env c with
  | none=>simp [hc] at h
  | some vc =>
   cases ha:aO env a with
   | none=>simp [hc,ha] at h
   | some va =>
    cases hb:aO env b with
    | none=>simp [hc,ha,hb] at h
    | some vb =>
     simp only [hc,ha,hb,aJ] at h |-
     cases vc<;>simp at h |-
     exact h.1
 case makeFunc fn first caps =>
  cases fn<;>simp only at h |-<;>first | (cases h;done) | skip
  by_cases hc:first.isEmpty=true
  ·rw [if_pos hc] at h |-
   split at h
   ·rename_i hd
    rw [if_pos hd]
    simp only [omi] at h |-
    obtain ⟨x,hx,h⟩:=h
    cases h
    exact ⟨x,hx,rfl⟩
   ·cases h
  ·rw [if_neg hc] at h |-
   split at h
   ·rename_i hd
    rw [if_pos hd]
    simp only [omi] at h |-
    obtain ⟨x,hx,h⟩:=h
    cases h
    exact ⟨x,hx,rfl⟩
   ·cases h
 case field st x f =>
  cases hx:aO env x with
  | none=>simp [hx] at h
  | some p =>
   simp only [hx,aJ] at h |-
   cases p<;>simp only at h |-<;>first | (cases h;done) | skip
   simp only [obi,omi] at h |-
   obtain ⟨a,ha,b,hb,h⟩:=h
   cases h
   exact ⟨_,ha,_,hb,rfl⟩
 case extract t i =>
  cases hx:aO env t with
  | none=>simp [hx] at h
  | some p =>
   simp only [hx,aJ] at h |-
   cases p<;>simp only at h |-<;>first | (cases h;done) | skip
   simp only [omi] at h |-
   obtain ⟨a,ha,h⟩:=h
   cases h
   exact ⟨_,ha,rfl⟩
 case call c =>
  cases hc:c.callee<;>simp only [hc] at h hw hr |-<;>first | (cases h;done) | (cases hr;done) | skip
  rename_i b
  simp only [obi] at h |-
  obtain ⟨args,ha,h⟩:=h
  refine ⟨args,ha,?_⟩
  split at h
  ·cases h
  rename_i hn
  rw [if_neg hn]
  cases b<;>simp at hw hr<;>simp only [gv] at h |-
  ·cases args<;>simp only [mW] at h |-
   ·cases h
   ·simp only [omi] at h |-
    obtain ⟨q,hq,h⟩:=h
    cases h;exact ⟨_,hq,rfl⟩
  ·cases args<;>simp only [mW] at h |-
   ·cases h
   ·simp only [omi] at h |-
    obtain ⟨q,hq,h⟩:=h
    cases h;exact ⟨_,hq,rfl⟩
 all_goals
  (simp only [obi,omi] at h |-
   first
   |(obtain ⟨a,ha,h⟩:=h;cases h;exact ⟨_,ha,rfl⟩)
   |(obtain ⟨a,ha,b,hb,h⟩:=h;cases h;exact ⟨_,ha,_,hb,rfl⟩)
   |(obtain ⟨a,ha,b,hb,c,hc,h⟩:=h;cases h;exact ⟨_,ha,_,hb,_,hc,rfl⟩))
theorem Wc {cfg:bi} {call:b9} {o:aF} {env:List V} {v:V} (hw:cN o=false) (hr:nH o=false) (h:da cfg call (dw true o) o env mem=some (v,mem')) (m2:List O):da cfg call (dw true o) o env m2=some (v,m2):=by
 cases hrx:o.rx
 rotate_left
 ·exact (LM hrx h).2 m2
 rw [ma hrx] at h |-
 unfold nH at hr
 rw [hrx,jq,dI] at hr
 obtain ⟨hd,_,hw | ⟨hb | hb | hb,hx⟩⟩:=Ou hrx hw
 ·cases hrm:oV o.op with
  | false=>rw [hd] at h |-;exact Lu hw hrm h m2
  | true =>
   rw [hrm] at hr
   simp only [dI,Bool.not_eq_false',bv] at hr
   exact (B7 hr.2 hr.1.1 (.inl (by grind)) h).2 m2
 ·exact (H3 hb hx h).2 m2
 ·exact (B7 (HJ hb) hx (.inr hb) h).2 m2
 ·exact (HH hb hx h).2 m2
def du (m m':List O):Prop:=m.length<=m'.length/\∀id,id < m.length->∀t x,((∃fz,m'[id]? = some (.box t x fz))↔∃fz,m[id]? = some (.box t x fz))
theorem du.refl (m:List O):du m m:=⟨bG _,fun _ _ _ _=>Iff.rfl⟩
theorem du.trans {a b c:List O} (h:du a b) (h':du b c):du a c :=
 ⟨lD h.1 h'.1,fun id hi t x=>(h'.2 id (n6 hi h.1) t x).trans (h.2 id hi t x)⟩
theorem du.push (m:List O) (q:O):du m (m++[q]):=⟨by simp,fun id hi t x=>by grind⟩
theorem du.kill {m:List O} {i:Nat} {t:TypeId} {els:List V} {fz:Nat} (h:m[i]? = some (.row t els fz)) (q:O):du m (m.set i .dead++[q]):=by
 refine ⟨by simp,fun id hi t x=>?_⟩
 grind
theorem du.freeze (m:List O) (i:Nat):du m (freeze m i):=by
 unfold Lite.freeze
 split
 ·rename_i t els fz h
  refine ⟨by simp,fun id hi t x=>?_⟩
  grind
 ·rename_i t v fz h
  refine ⟨by simp,fun id hi t' x=>?_⟩
  grind
 ·exact .refl _
theorem du.freezeAll:∀(is:List Nat) (m:List O),du m (freezeAll is m)
 | [],m=>.refl m
 | i::is,m=>(du.freeze m i).trans (du.freezeAll is _)
theorem du.take (ad:Bool) (m:List O) (r:V):du m (mh ad m r).2:=by
 have h1:du m (vJ ad m r).2:=by
  cases r<;>simp only [vJ]<;>first | exact .refl _ | skip
  split
  ·exact .push _ _
  ·exact .refl _
 cases r<;>first | exact .refl _ | exact h1
theorem du.boxed (P:Program):∀(ts:List TypeId) (vs:List V) (m:List O),du m (boxed P ts vs m).2:=by
 intro ts
 induction ts with
 | nil=>intro vs m;cases vs<;>exact .refl _
 | cons t ts ih =>
  intro vs m
  cases vs with
  | nil=>exact .refl _
  | cons v vs =>
   cases v<;>first | exact ih vs m | skip
   simp only [Lite.boxed]
   split
   ·split
    ·exact (du.push _ _).trans (ih vs _)
    grind
   grind
theorem du.newBox (P:Program) (m:List O) (t:TypeId) (v:V):du m (newBox P m t v).2:=by
 have:du m (ol P m t v).2:=by
  unfold ol
  split
  ·exact du.boxed P _ _ m
  ·have:=du.boxed P (mQ P t) [v] m
   split
   ·grind
   ·exact .refl _
 exact this.trans (.push _ _)
theorem dW.boxed {P:Program} {q:TypeId}:∀(ts:List TypeId) (vs:List V) (m:List O),dW q m->dW q (boxed P ts vs m).2:=by
 intro ts
 induction ts with
 | nil=>intro vs m h;cases vs<;>exact h
 | cons t ts ih =>
  intro vs m h
  cases vs with
  | nil=>exact h
  | cons v vs =>
   cases v<;>first | exact ih vs m h | skip
   simp only [Lite.boxed]
   split
   ·split
    ·exact ih vs _ (h.add rfl)
    grind
   grind
theorem dW.newBox {P:Program} {q:TypeId} {m:List O} (t:TypeId) (v:V) (h:dW q m):dW q (newBox P m t v).2:=by
 have:dW q (ol P m t v).2:=by
  unfold ol
  split
  ·exact dW.boxed _ _ m h
  ·have:=dW.boxed (P:=P) (mQ P t) [v] m h
   grind
 exact this.add rfl
theorem Xb {cfg:bi} {call:b9} {o:aF} {env:List V} {v:V} (hp:nE o=true) (hfr:iM cfg o=false) (h:da cfg call (dw true o) o env mem=some (v,mem')):du mem mem':=by
 unfold nE at hp
 rw [bv] at hp
 have hrx:o.rx=false:=by simpa using hp.1
 rw [ma hrx] at h
 have hp:=hp.2
 have hns:(uO o.op && o.bx)=false:=by
  unfold iM at hfr
  rw [hrx] at hfr
  simp only [jq,dI,re] at hfr
  rw [Bool.and_comm];exact hfr.2
 rw [hns,rh] at hp
 simp only [bQ] at h
 cases hop:o.op<;>simp only [hop,Me,ej] at h hp<;>first | (cases hp;done) | skip
 case alloc t =>
  simp only [obi] at h
  obtain ⟨z,_,h⟩:=h
  split at h
  ·split at h
   ·cases h;exact .refl _
   ·split at h
    ·cases h
    ·rename_i hna
     have hd:dw true o=true:=by simp [dw,ej,hop]
     rw [hd,dI] at hna
     unfold qD at h
     cases hf:iq t 0 mem with
     | none=>rw [hf] at h;cases h;exact .newBox _ _ _ _
     | some r=>rw [hf] at hna;simp at hna
  ·cases h
 case box t x =>
  simp only [obi] at h
  obtain ⟨z,_,h⟩:=h
  split at h
  ·cases h
  split at h
  ·split at h
   ·cases h
   ·rename_i hna
    have hd:dw true o=true:=by simp [dw,ej,hop]
    rw [hd,dI] at hna
    unfold qD at h
    cases hf:iq t 0 mem with
    | none=>rw [hf] at h;cases h;exact .newBox _ _ _ _
    | some r=>rw [hf] at hna;simp at hna
  ·cases h
 case buildSlice t n ps =>
  simp only [obi] at h
  obtain ⟨_,_,_,_,_,_,h⟩:=h
  split at h
  ·split at h
   ·cases h;exact .refl _
   ·cases h;exact .push _ _
  ·cases h
 case makeSlice t n c =>
  simp only [obi] at h
  obtain ⟨_,_,_,_,h⟩:=h
  unfold oH at h
  simp only [obi] at h
  obtain ⟨_,_,h⟩:=h
  split at h
  ·split at h
   ·simp only [obi,omi] at h
    obtain ⟨_,_,_,_,h⟩:=h
    cases h;exact .push _ _
   ·cases h
  ·cases h
 case call c =>
  cases hc:c.callee<;>simp only [hc] at h hp<;>first | (cases hp;done) | skip
  case builtin b =>
   cases b<;>simp only at h hp<;>first | (cases hp;done) | skip
   simp only [obi] at h
   obtain ⟨args,_,h⟩:=h
   split at h
   ·cases h
   simp only [gv] at h
   unfold un at h
   split at h
   ·split at h
    ·unfold iH at h
     simp only [obi] at h
     obtain ⟨_,_,_,_,h⟩:=h
     split at h
     ·split at h
      ·split at h
       ·cases h;exact .push _ _
       ·cases h
      ·split at h
       ·rename_i hm
        split at h
        ·cases h;exact .kill hm _
        ·cases h
       ·cases h
      ·split at h
       ·rename_i hm
        split at h
        ·cases h;exact .kill hm _
        ·cases h
       ·cases h
      ·split at h
       ·rename_i hm
        split at h
        ·cases h;exact .kill hm _
        ·cases h
       ·cases h
      ·split at h
       ·cases h;exact .refl _
       ·cases h
      ·cases h
     ·cases h
    ·unfold rz at h
     split at h
     ·simp only [obi] at h
      obtain ⟨_,_,h⟩:=h
      split at h
      ·simp only [obi,omi] at h
       obtain ⟨_,_,_,_,h⟩:=h
       cases h;exact .push _ _
      ·cases h
     ·cases h
   ·cases h
  case value f =>
   simp only [iU,dI,bv] at hp
   simp only [obi] at h
   obtain ⟨fv,_,args,_,h⟩:=h
   cases fv<;>simp only at h<;>first | (cases h;done) | skip
   split at h
   ·rw [hp.1] at h;simp at h
   rw [hp.1] at h
   have hfo:wV cfg o=false:=by
    unfold iM at hfr
    rw [hrx] at hfr
    simp only [jq,dI,re] at hfr
    exact hfr.1
   rw [hfo] at h
   simp only [mr,cK,if_false] at h
   split at h
   ·cases h
   rename_i hpu
   unfold gN at h
   split at h
   ·cases h
   ·split at h
    ·simp only [obi] at h
     obtain ⟨as0,_,r,_,h⟩:=h
     split at h
     ·split at h
      ·cases h
      ·injection h with h
       have this:_=mem':=congrArg Prod.snd h
       rw [<-this]
       exact (du.freezeAll _ _).trans (du.take _ _ _)
     ·injection h with h
      have this:_=mem':=congrArg Prod.snd h
      rw [<-this]
      exact du.take _ _ _
    ·rename_i hn
     have hsq:o.sq=false:=by simpa using hp.2
     simp [hsq] at hpu
     exact (hn hpu).elim
def kz (p:V) (m m':List O):Prop:=m.length<=m'.length/\∀id k off,p = .ptr id k off->id < m.length->∀t x,((∃fz,m'[id]? = some (.box t x fz))↔∃fz,m[id]? = some (.box t x fz))
theorem du.at {m m':List O} (h:du m m') (p:V):kz p m m':=⟨h.1,fun id _ _ _ hi t x=>h.2 id hi t x⟩
theorem kz.refl (p:V) (m:List O):kz p m m:=(du.refl m).at p
theorem kz.trans {p:V} {a b c:List O} (h:kz p a b) (h':kz p b c):kz p a c :=
 ⟨lD h.1 h'.1,fun id k off e hi t x=>(h'.2 id k off e (n6 hi h.1) t x).trans (h.2 id k off e hi t x)⟩
theorem Zj {P:Program} {t:TypeId} {p v:V} (hnp:lk p=false) (h:lA P mem t p v=some mem'):mem.length<=mem'.length/\∀id,id < mem.length->id∉ji p->mem'[id]? = mem[id]?:=by
 unfold lA at h
 split at h
 rotate_left
 ·cases h
 cases p<;>simp only at h<;>first | (cases h;done) | (simp [lk] at hnp;done) | skip
 rename_i i k off
 have key:∀q,mem'=mem.set i q->mem.length<=mem'.length/\∀id,id < mem.length->id∉ji (.ptr i k off)->mem'[id]? = mem[id]?:=by
  rintro q rfl
  refine ⟨by simp,fun id _ hn=>?_⟩
  rw [fE]
  intro e
  exact hn (by simp [ji,nI,xB,fO,e])
 cases hm:mem[i]? with
 | none=>grind
 | some o =>
  cases o<;>simp only [hm] at h<;>first | (cases h;done) | skip
  ·split at h
   ·simp only [obi,omi] at h
    grind
   grind
  ·split at h
   ·simp only [omi] at h
    grind
   grind
theorem Zl {P:Program} {t:TypeId} {p v:V} (hnp:lk p=false):qT P mem t p v=lA P mem t p v:=by
 unfold qT
 grind
theorem TA {cfg:bi} {call:b9} {o:aF} {env:List V} {v:V} (hfr:iM cfg o=true) (h:da cfg call (dw true o) o env mem=some (v,mem')) :
  mem.length<=mem'.length/\∀id,id < mem.length->id∉lg env o->mem'[id]? = mem[id]?:=by
 unfold iM at hfr
 rw [bv] at hfr
 have hrx:o.rx=false:=by simpa using hfr.1
 rw [ma hrx] at h
 have hfr:=hfr.2
 by_cases hst:(o.bx && uO o.op)=true
 ·rw [bv] at hst
  simp only [bQ] at h
  cases hop:o.op<;>simp only [hop,uO] at h hst<;>first | (simp at hst;done) | skip
  rename_i t a x
  simp only [obi] at h
  obtain ⟨p,hp,v',hv,h⟩:=h
  rw [hst.1,dI] at h
  split at h
  ·cases h
  rename_i hnp
  simp only [omi] at h
  obtain ⟨m,hm,h⟩:=h
  cases h
  rw [Zl (by simpa using hnp)] at hm
  have:=Zj (by simpa using hnp) hm
  simpa only [lg,hop,lh,hp] using this
 rw [mTz] at hfr
 have hfr:=hfr.resolve_right hst
 have hfr0:=hfr
 unfold wV at hfr
 simp only [bv] at hfr
 obtain ⟨hbx,hfr⟩:=hfr
 simp only [bQ] at h
 cases hop:o.op<;>simp only [hop] at h hfr<;>first | (cases hfr;done) | skip
 rename_i c
 cases hc:c.callee<;>simp only [hc] at h hfr<;>first | (cases hfr;done) | skip
 rename_i f
 cases f<;>simp only at h hfr<;>first | (cases hfr;done) | skip
 rename_i f
 simp only [obi] at h
 obtain ⟨fv,hfv,args,ha,h⟩:=h
 simp only [aO] at hfv
 cases hfb:gL f gm<;>rw [hfb] at hfv<;>cases hfv
 simp only [if_neg (Nat.not_le.2 (mG ▸ hfb)),hbx,hfr,hfr0,dI,if_true,dA] at h
 split at h
 rotate_left
 ·cases h
 have hS:lg env o=args.flatMap ji:=by
  unfold lg
  simp only [hop]
  have:∀(l:List Operand) (as0:List V),bo (aO env) l=some as0->l.flatMap (lh env)=as0.flatMap ji:=by
   intro l
   induction l with
   | nil=>intro as0 h;cases h;rfl
   | cons x l ih =>
    intro as0 h
    simp only [bo,obi,omi] at h
    obtain ⟨y,hy,ys,hys,rfl⟩:=h
    simp only [iD,ih ys hys,lh,hy]
  exact this _ _ ha
 rw [hS]
 unfold mX at h
 split at h
 ·cases h
 simp only [obi] at h
 obtain ⟨⟨v1,m1⟩,h1,h2⟩:=h
 split at h2
 rotate_left
 ·cases h2
 rename_i hle
 cases h2
 obtain ⟨b1,b2⟩:=wD (args.flatMap ji) mem m1 0 hle
 refine ⟨by unfold qI;rw [b1];exact hle,fun id hi hn=>?_⟩
 unfold qI
 rw [b2 id,if_pos hi,dZ,if_neg]
 simpa using hn
theorem H2 {m m':List O} {p:V} {t:TypeId} (hb:kz p m m') (aC:∀id k off,p = .ptr id k off->id < m.length):(j6 m' p=j6 m p)/\(j6 m p=true->eP P m' t p=eP P m t p):=by
 cases p
 case ptr id k off =>
  have hi:=aC id k off rfl
  have key:=hb.2 id k off rfl hi
  cases hm:m[id]? with
  | none=>grind
  | some o =>
   cases hm':m'[id]? with
   | none=>rw [List.getElem?_eq_none_iff] at hm';have:=hb.1;omega
   | some o' =>
    rw [hm,hm'] at key
    cases o with
    | box t0 x fz =>
     obtain ⟨fz',this⟩:=(key t0 x).2 ⟨fz,rfl⟩
     cases this
     exact ⟨by simp only [j6,hm,hm'],fun _=>by simp only [eP,d6,hm,hm']⟩
    | _ =>
     cases o' with
     | box t0 x fz=>simp_all
     | _=>exact ⟨by simp only [j6,hm,hm'],fun h=>by simp [j6,hm] at h⟩
 case ref x off=>exact ⟨rfl,fun _=>by simp only [eP,d6]⟩
 all_goals exact ⟨rfl,fun h=>by simp [j6] at h⟩
def KP (ids:List Nat) (m m':List O):Prop:=∀id∈ids,∀o,fe o=true->o≠.dead->m[id]? = some o->m'[id]? = some o
theorem KP.row {ids:List Nat} {m m':List O} (h:KP ids m m') {id:Nat} {t:TypeId} {els:List V} {fz:Nat} (hi:id∈ids) (hm:m[id]? = some (.row t els fz)):m'[id]? = some (.row t els fz):=h id hi _ rfl (by simp) hm
theorem Jw {m m':List O} {x:V} {l:List V} (hk:KP (fO x) m m') (h:cy m x=some l):cy m' x=some l:=by
 cases x<;>simp only [cy] at h |-<;>first | exact h | skip
 case own id =>
  cases hm:m[id]? with
  | none=>grind
  | some o =>
   cases o<;>simp only [hm] at h<;>first | (cases h;done) | skip
   rw [hk.row (by simp [fO]) hm];exact h
 case win id a b =>
  cases hm:m[id]? with
  | none=>grind
  | some o =>
   cases o<;>simp only [hm] at h<;>first | (cases h;done) | skip
   rw [hk.row (by simp [fO]) hm];exact h
 case tail id a =>
  cases hm:m[id]? with
  | none=>grind
  | some o =>
   cases o<;>simp only [hm] at h<;>first | (cases h;done) | skip
   rw [hk.row (by simp [fO]) hm];exact h
theorem Vo {m m':List O} {t:TypeId} {p v:V} (hn:lk p=false) (hk:KP (fO p) m m') (h:eP P m t p=some v):eP P m' t p=some v:=by
 have key:∀r,d6 m p=some r->d6 m' p=some r:=by
  intro r hr
  cases p<;>simp only [d6] at hr |-<;>first | exact hr | (cases hr;done) | (simp [lk] at hn;done) | skip
  rename_i id k off
  cases hm:m[id]? with
  | none=>grind
  | some o =>
   cases o<;>simp only [hm] at hr<;>first | (cases hr;done) | skip
   ·rw [hk.row (by simp [fO]) hm];grind
   ·rw [hk id (by simp [fO]) _ rfl (by simp) hm];grind
 unfold eP at h |-
 cases hl:d6 m p with
 | none=>grind
 | some r=>grind
theorem X0 {m:List O} {x:V} {l:List V} (h:cy m x=some l):∀id∈fO x,∃t els fz,m[id]? = some (.row t els fz):=by
 cases x<;>simp only [cy] at h<;>first | (cases h;done) | (intro id hi;simp [fO] at hi;done) | skip
 all_goals
  intro id hi
  simp only [fO,eZ] at hi
  grind
theorem YS {m m':List O} {t:TypeId} {x v:V} {lo hi mx:Option (Option V)} (hk:KP (fO x) m m') (h:jn P m t x lo hi mx=some v):jn P m' t x lo hi mx=some v:=by
 unfold jn at h |-
 split at h
 ·exact h
 ·simp only [obi] at h |-
  obtain ⟨xs,hx,l,hl,hh,hhh,mm,hmm,h⟩:=h
  refine ⟨xs,Jw hk hx,l,hl,hh,hhh,mm,hmm,?_⟩
  split at h
  rotate_left
  ·cases h
  rename_i hc
  rw [if_pos hc]
  have hr:=X0 hx
  split at h
  ·exact h
  ·exact h
  all_goals
   first
   |(obtain ⟨t',els,fz,hm⟩:=hr _ (eZ.2 rfl)
     rw [hm] at h
     simp only at h |-
     rw [hk.row (eZ.2 rfl) hm]
     exact h)
   | grind
 grind
theorem Uw {m m':List O} {t:TypeId} {x i v:V} (hk:KP (fO x) m m') (h:iu P m t x i=some v):iu P m' t x i=some v:=by
 unfold iu at h |-
 cases hu:P.underlying t with
 | none=>grind
 | some d =>
  rw [hu] at h
  cases d<;>cases i<;>simp only at h |-<;>first | exact h | (cases h;done) | skip
  split at h
  rotate_left
  ·cases h
  rename_i hc
  rw [if_pos hc]
  cases x<;>simp only at h |-<;>first | exact h | (cases h;done) | skip
  case own id =>
   cases hm:m[id]? with
   | none=>grind
   | some o =>
    cases o<;>simp only [hm] at h<;>first | (cases h;done) | skip
    rw [hk.row (eZ.2 rfl) hm]
    exact h
  case win id _ _ =>
   cases hm:m[id]? with
   | none=>grind
   | some o =>
    cases o<;>simp only [hm] at h<;>first | (cases h;done) | skip
    rw [hk.row (eZ.2 rfl) hm]
    exact h
  case tail id _ =>
   cases hm:m[id]? with
   | none=>grind
   | some o =>
    cases o<;>simp only [hm] at h<;>first | (cases h;done) | skip
    rw [hk.row (eZ.2 rfl) hm]
    exact h
theorem VE {m m':List O} {x:V} {es:List (V × V)} (hn:∀t k,x≠.hm t k) (hk:KP (fO x) m m') (he:fd m x=some es):fd m' x=some es:=by
 cases x<;>simp only [fd] at he |-<;>first | (cases he;done) | (exact (hn _ _ rfl).elim) | skip
 rename_i id
 cases hm:m[id]? with
 | none=>grind
 | some o =>
  cases o<;>simp only [hm] at he<;>first | (cases he;done) | skip
  rw [hk id (by simp [fO]) _ rfl (by simp) hm];grind
theorem Vd {m m':List O} {t:TypeId} {x v:V} (hn:∀t k,x≠.hm t k) (hk:KP (fO x) m m') (h:lp P m t x=some v):lp P m' t x=some v:=by
 unfold lp at h |-
 split at h
 ·exact h
 ·exact h
 ·simp only [omi] at h |-
  obtain ⟨l,hl,h⟩:=h
  exact ⟨l,Jw hk hl,h⟩
 ·simp only [omi] at h |-
  obtain ⟨es,he,h⟩:=h
  exact ⟨es,VE hn hk he,h⟩
 grind
theorem Vu {cfg:bi} {call:b9} {dr:Bool} {o:aF} {env:List V} {v:V} {m m':List O} (hl:hJ o=true) (hk:KP (iQ env o) m m') (h:bQ cfg call dr o env m=some (v,m)):bQ cfg call dr o env m'=some (v,m'):=by
 simp only [hJ,bv] at hl
 obtain ⟨⟨⟨_,hb⟩,hsq⟩,hr⟩:=hl
 simp only [bQ,hb,hsq,cond_true,bR,lB,mr,dI,cK,if_false] at h |-
 cases hop:o.op<;>simp only [hop,o4,iQ] at h hr hk |-<;>first | (cases hr;done) | skip
 case load t a =>
  simp only [obi] at h |-
  obtain ⟨p,hp,h⟩:=h
  refine ⟨p,hp,?_⟩
  split at h
  ·cases h
  rename_i hn
  rw [if_neg hn]
  simp only [omi] at h |-
  obtain ⟨x,hx,h⟩:=h
  cases h
  simp only [jg,hp] at hk
  exact ⟨_,Vo (by grind) hk hx,rfl⟩
 case slice t x lo hi mx =>
  simp only [obi,omi] at h |-
  obtain ⟨a,ha,r,hr,h⟩:=h
  cases h
  simp only [jg,ha] at hk
  exact ⟨a,ha,_,YS hk hr,rfl⟩
 case indexAddr t x i =>
  simp only [obi,omi] at h |-
  obtain ⟨a,ha,b,hb,r,hr,h⟩:=h
  cases h
  simp only [jg,ha] at hk
  exact ⟨a,ha,b,hb,_,Uw hk hr,rfl⟩
 case call c =>
  cases hc:c.callee<;>simp only [hc] at h hr |-<;>first | (cases hr;done) | skip
  rename_i b
  cases b<;>simp only at hr<;>first | (cases hr;done) | skip
  simp only [obi] at h |-
  obtain ⟨args,ha,h⟩:=h
  refine ⟨args,ha,?_⟩
  split at h
  ·cases h
  rename_i hn
  rw [if_neg hn]
  simp only [gv] at h |-
  unfold oG at h |-
  split at h
  rotate_left
  ·cases h
  rename_i t _ x xs
  simp only [omi] at h |-
  obtain ⟨r,hr,h⟩:=h
  cases h
  refine ⟨_,Vd (fun t k e=>?_) (fun id hid=>hk id ?_) hr,rfl⟩
  ·subst e;simp [qo] at hn
  ·cases hl:c.args.toList with
   | nil=>rw [hl] at ha;simp [bo] at ha
   | cons y ys =>
    rw [hl] at ha
    simp only [bo,obi,omi] at ha
    obtain ⟨z,hz,zs,_,e⟩:=ha
    cases e
    exact gK.2 ⟨y,by simp,by simp only [jg,hz];grind⟩
theorem PU (rd:TypeId->Bool) (args:List V) (mem:List O) (v:V) (m1:List O):mem.length<=(kO rd args mem v m1).2.length /\
  ∀id o,mem[id]? = some o->id∉gU args mem->(cX mem<=id->(kO rd args mem v m1).2[id]? = some o)/\(id < cX mem->(kO rd args mem v m1).2[id]? = some (uv m1 id)):=by
 unfold kO rG
 simp only
 obtain ⟨h1,h2⟩:=Ay (rH rd (cX mem) (gU args mem) (y8 rd (cX mem) mem.length (gU args mem) (uw rd (cX mem) (gj args mem).mem m1 v) (gj args mem).mem m1) (gj args mem).mem m1) mem 0
 refine ⟨by rw [c8,h1];omega,fun id o hm hn=>?_⟩
 have aC:=(bj.1 hm).1
 rw [db (by rw [h1];exact aC),h2 id,hm,cg,dZ]
 refine ⟨fun hf=>?_,fun hf=>?_⟩
 ·unfold rH
  rw [if_neg (by omega)]
  cases hi:jb id (gU args mem) with
  | none=>rfl
  | some q=>exact (hn (cG (zU hi))).elim
 ·unfold rH
  rw [if_pos hf]
theorem PV (m1:List O) (k:Nat):fe (uv m1 k)=false∨uv m1 k = .dead:=by
 unfold uv
 grind
theorem Qu {cfg:bi} {call:b9} {o:aF} {env:List V} {v:V} (hc:fG o=true) (hcan:zd cfg o=true) (h:da cfg call (dw true o) o env mem=some (v,mem')) :
  (mem.length<=mem'.length/\∀id,id < mem.length->id∉kU o env mem->∀q,fe q=true->q≠.dead->(mem'[id]? = some q↔mem[id]? = some q))/\(kV cfg o=true->mem'.take mem.length=mem):=by
 simp only [fG,bv] at hc
 obtain ⟨⟨⟨hrx,hcv⟩,hb⟩,hsq⟩:=hc
 rw [ma (by simpa using hrx)] at h
 have hd:dw true o=false:=by simp [dw,hcv,hb,hsq]
 rw [hd] at h
 simp only [bQ,hb,hsq] at h
 cases hop:o.op<;>simp only [hop,zd] at h hcan<;>first | (cases hcan;done) | skip
 rename_i c
 cases hcc:c.callee<;>simp only [hcc] at h hcan<;>first | (cases hcan;done) | skip
 rename_i f
 cases f<;>simp only at h hcan<;>first | (cases hcan;done) | skip
 rename_i f
 simp only [bv] at hcan
 simp only [obi] at h
 obtain ⟨fv,hfv,args,ha,h⟩:=h
 simp only [aO] at hfv
 cases hfb:gL f gm<;>rw [hfb] at hfv<;>cases hfv
 simp only [if_neg (Nat.not_le.2 (mG ▸ hfb)),bR,lB,mr,cK,if_false,dA] at h
 have hfr:kU o env mem=gU args mem:=by simp only [kU,hop,ha]
 rw [hfr]
 unfold gN at h
 split at h
 ·cases h
 rw [if_neg (by simpa using hcan.1)] at h
 simp only [cK,if_false] at h
 cases hcf:cfg.can f with
 | none=>rw [hcf] at hcan;simp at hcan
 | some rd =>
  simp only [hcf] at h
  obtain ⟨h,hro⟩:=AR h
  refine ⟨?_,fun e=>hro (by simpa [kV,hop,hcc] using e)⟩
  unfold pM at h
  simp only [omi] at h
  obtain ⟨r,_,h⟩:=h
  obtain ⟨k1,k2⟩:=PU rd.row args mem (gV rd (gj args mem).mem r.1 r.2).1 (gV rd (gj args mem).mem r.1 r.2).2
  rw [h] at k1 k2
  refine ⟨k1,fun id hi hn q hq hqd=>?_⟩
  obtain ⟨k3,k4⟩:=k2 id _ (bC hi) hn
  obtain ⟨f1,f2⟩:=wW mem
  by_cases hf:cX mem<=id
  ·have:=k3 hf
   simp only at this
   rw [this,bC hi]
  ·have h4:=k4 (by omega)
   simp only at h4
   obtain ⟨o1,ho1,ho2⟩:=f2 id (by omega)
   rw [h4,ho1]
   constructor
   ·intro e
    rcases PV (gV rd (gj args mem).mem r.1 r.2).2 id with h5 | h5
    ·cases e;rw [hq] at h5;cases h5
    ·cases e;exact (hqd h5).elim
   ·intro e;cases e;rw [hq] at ho2;cases ho2
end
end Go.Lite
