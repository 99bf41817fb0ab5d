/-
  Texts that the last one stands on.
-/
import Derived.Test.YtlphgcjepphhcaaGreatD1
import Derived.Laws.MakeOwn
import Derived.Lib.AppendZerosOnto
import Derived.OrdersIn
import Derived.TacticsIn
import Derived.LoopNIn
import Derived.RangeFuncNested
noncomputable section
open Go renaming Program->bu,World->be,TypeId->aO,Value->aR,typeInfo->gY,run_underlying->dS,maxLen->f8,run_storeCells_at->yu,setRow_other->oP,grownCap->gv,FuncId->bL,Operand->fi,Oper->dF
open Option renaming some->aA,bind_some->bk,none->aF,map_some->du,getD_some->uC,isNone_iff_eq_none->FT
open List renaming range->fK,all_eq_true->eJ,getElem_of_mem->mi,getElem?_eq_getElem->cj,append_assoc->cO,getElem?_append_right->eO,getElem?_append_left->eK,replicate->dh,getElem?_eq_some_iff->bX,length_set->gS,getElem?_set_ne->ia,mem_cons->dE,getElem?_of_mem->y4,getElem_mem->Bu,getElem?_set_self->gR,ext_getElem?->uw,length_take->eC,mem_of_mem_take->o4,getElem?_take->lj,getElem?_drop->js,mem_map->ib,eq_of_mem_replicate->y3,mem_of_getElem?->dx,length_replicate->Lp,mem_flatMap->jN,getElem?_map->fW,nodup_nil->FM,pairwise_iff_getElem->By,length_append->eV,length_map->d9,mem_filter->mW,getElem?_cons_succ->Ll,getElem?_eq_none->rY,any_eq_false->yZ,getElem?_cons_zero->Lm,length_cons->dp,eq_nil_of_length_eq_zero->wx,append_nil->fh,flatMap_cons->nZ,mem_singleton->jO
open Array renaming mapM_eq_mapM_toList->Uv,getElem?_eq_getElem->gH,getElem?_eq_some_iff->hJ,getElem?_toList->Bj,getElem?_map->Fw,getElem?_range->K7,size_append->Bl,getElem?_append_left->K6,ext'->qp,getD_eq_getD_getElem?->jr,getElem?_setIfInBounds->Fx,getElem?_setIfInBounds_ne->K8
open Bool renaming true->aC,false->aD,and_eq_true->co,not_true->bK,and_false->gP,false_eq_true->dw,false_and->iZ,true_and->dL,not_false->gb,or_eq_false_iff->qu,and_self->qt,not_eq_true'->kE,not_eq_false->Ld,or_false->j9,false_or->gq,or_eq_true->nS
open Go.Lite.V renaming cells->gT,one->fq,flat1->jw
open Nat renaming mul_le_mul_right->dQ,add_zero->fL,zero_add->fY,le_refl->c7,add_mul->kf,succ_mul->ml,add_comm->sg,add_mul_mod_self_right->Lu,mod_eq_of_lt->FQ,mul_le_mul->BH,zero_le->jQ,le_trans->sh,lt_of_lt_of_le->si,blt->jt,blt_eq->o7
namespace Go.Lite
open Go Go.MapKept
section
variable {P:bu}{Z Z':Zs}{w w':be}{j j':J}{mem mem':List O}
theorem Vn{t:aO}{ps:List (Nat × V)}{qs:Array (Nat × aR)}{v:V}(h:Cj P t ps=aA v)(hp:PR Z w j ps qs.toList):∃r,(Instr.build t qs).run P w = .ok r w/\VR Z w j v r:=by
 unfold Cj at h;cases hz:jq P t with
 |none=>grind
 |some z =>
  obtain⟨i,zv,hi,hzz,hv,_⟩:=uo (Z:=Z) (w:=w) (j:=j) hz;cases z<;>simp only[hz]at h<;>first|(cases h;done)|skip;rename_i zs;obtain⟨us,rfl,hr⟩:=hv.aggInv;cases hpl:I2 P t with
  |none=>grind
  |some pl =>
  cases hf:sZ (fun i=>pl[i]?) zs ps with
  |none=>grind
  |some out =>
  simp[hpl,hf]at h;subst h;obtain⟨us',h1,h2⟩:=Ol ps qs.toList zs out us hf hp hr;refine⟨.agg us',?_,h2.aggMk⟩;unfold I2 at hpl;cases hu:P.underlying t with
  |none=>grind
  |some d =>
   cases d<;>simp only[hu]at hpl<;>first|(cases hpl;done)|skip
   case array n e =>
    split at hpl
    ·rename_i hpos;obtain⟨ie,hie,his,_⟩:=vg hpos;cases hpl
     have hfl:Instr.fill (fun i=>aA (i * ie.size,ie.size)) us qs.toList=aA us':=by
      have key:∀(l:List (Nat × aR)) (a b:Array aR),Instr.fill (fun i=>((fK n).map fun i=>(i * P.cellsOf e,P.cellsOf e))[i]?) a l=aA b->Instr.fill (fun i=>aA (i * ie.size,ie.size)) a l=aA b:=by
       intro l
       induction l with
       |nil=>intro a b h;exact h
       |cons q l ih =>
        intro a b h;obtain⟨i,v⟩:=q;simp only[Instr.fill]at h |-
        grind
      grind
     simp[Instr.build,zeroValue,gY,hi,hzz,Value.cells,dS hu,sizeOf,hie,hfl]
    grind
   case struct fs =>
    split at hpl
    ·rename_i hall;cases hpl
     have run:∀(l:List Field),(∀f∈l,0 < P.cellsOf f.type)->(l.mapM (m:=Sem) fun f=>do pure (f.offset,<-sizeOf f.type)).run P w = .ok (l.map fun f=>(f.offset,P.cellsOf f.type)) w:=by
      intro l
      induction l with
      |nil=>simp_all
      |cons f l ih =>
       intro hl;obtain⟨ie,hie,his,_⟩:=vg (hl f (by simp));have ih':=ih fun f hf=>hl f (by grind)
       have hs:(sizeOf f.type).run P w = .ok (P.cellsOf f.type) w:=by simp[sizeOf,gY,hie,his]
       simp_all
     have hr:=run fs.toList (fun f hf=>by grind)
     have hfl:Instr.fill (fun i=>(fs.toList.map fun f=>(f.offset,P.cellsOf f.type)).toArray[i]?) us qs.toList=aA us':=by
      simp_all
     simp only[Instr.build,zeroValue,gY,Sem.run_bind,run_program,hi,hzz,Result.andThen_ok,Sem.run_pure,Value.cells,dS hu];rw[Uv];simp_all
    grind
theorem z9{y y':V}(h:kU y=aA y'):y.one=aC/\y'.one=true:=by
 cases y<;>simp[kU]at h<;>subst h<;>exact⟨rfl,rfl⟩
theorem Aa{v x:V}(h:ko v=aA x):cC kU v.cells=aA x.cells:=by
 have key:kU v=aA x->cC kU v.cells=aA x.cells:=fun h=>by
  have h1:=z9 h;rw[lS h1.1,lS h1.2];simp[cC,h]
 cases v with
 |agg cs =>
  simp only[ko]at h;cases hm:cC kU cs with
  |none=>grind
  |some ds=>simp[hm]at h;subst h;simpa[gT]using hm
 |_=>exact key (by simpa[ko]using h)
theorem Dx{α β:Type}{f:α->Option β}:∀{l:List α} {r:List β},cC f l=aA r->∀(i:Nat) (x:α),l[i]? = aA x->∃y,r[i]? = aA y/\f x=aA y:=by
 intro l
 induction l with
 |nil=>grind
 |cons a l ih =>
  intro r h i x hx;simp only[cC]at h;cases h1:f a with
  |none=>grind
  |some b =>
   cases h2:cC f l with
   |none=>grind
   |some bs =>
    grind
theorem PW{sz:Nat}:∀(ps:List (Nat × V)) (k:Nat) (els:List V) (cs:List V),tA k ps=aA els->(∀x∈els,x.cells.length=sz)->(k+ps.length) * sz<=cs.length ->
  ∃out,sZ (fun i=>aA (i * sz,sz)) cs ps=aA out/\out.length=cs.length/\els.length=ps.length/\(∀i,i < k * sz->out[i]? = cs[i]?) /\
   (∀(m:Nat) (x:V) (i:Nat) (y':V),els[m]? = aA x->x.cells[i]? = aA y'->∃y,out[(k+m) * sz+i]? = aA y/\kU y=aA y'):=by
 intro ps
 induction ps with
 |nil =>
  intro k els cs h _ _;simp[tA]at h;subst h;exact⟨cs,rfl,rfl,rfl,fun _ _=>rfl,fun m x i y' hm=>by grind⟩
 |cons p ps ih =>
  intro k els cs h hel hle;obtain⟨i0,v⟩:=p;simp only[tA]at h;split at h
  ·rename_i hik;subst hik;cases hx:ko v with
   |none=>grind
   |some x0 =>
    cases hr:tA (i0+1) ps with
    |none=>grind
    |some rest =>
     simp[hx,hr]at h;subst h;have him:=Aa hx;obtain⟨hl1,hg1⟩:=kZ him;have hxl:=hel x0 (by simp);have hvl:v.cells.length=sz:=by omega
     have hone:v.cells.all fq=true:=by
      rw[eJ];intro y hy;obtain⟨i,hi,rfl⟩:=mi hy;obtain⟨y',_,hy'⟩:=Dx him i _ (cj hi);exact(z9 hy').1
     have hle':i0 * sz+sz<=cs.length:=by
      have:(i0+1) * sz<=(i0+(ps.length+1)) * sz:=dQ _ (by omega);grind
     have hcl:(cs.take (i0 * sz)++v.cells++cs.drop (i0 * sz+sz)).length=cs.length:=by simp;omega
     obtain⟨out,h1,h2,h3,h4,h5⟩:=ih (i0+1) rest (cs.take (i0 * sz)++v.cells++cs.drop (i0 * sz+sz)) hr (fun x hx=>hel x (by grind)) (by grind);have hto:(cs.take (i0 * sz)).length=i0 * sz:=by grind
     refine⟨out,?_,by omega,by grind,fun i hi=>?_,fun m x i y' hm hy=>?_⟩
     ·simp only[sZ,bk];grind
     ·grind
     ·cases m with
      |zero =>
       simp at hm;subst hm;have hi:i < sz:=by grind
       obtain⟨y,hy1,hy2⟩:=hg1 i y' hy;refine⟨y,?_,hy2⟩;rw[fL,h4 _ (by grind),cO,eO (by omega),hto,eK (by omega)];simp_all
      |succ m =>
       obtain⟨y,hy1,hy2⟩:=h5 m x i y' (by grind) hy;grind
  grind
theorem Vm(s:SR P Z w j mem){t e:aO}{len:Nat}{ps:List (Nat × V)}{qs:Array (Nat × aR)}{els:List V}(he:gj P t=aA e)(hl:tA 0 ps=aA els)(hlen:els.length=len)(hroom:fC P e len=aC)
  (hcap:len * P.cellsOf e<=16777216) (hall:els.all (fun y=>y.cells.length==P.cellsOf e)=aC) (hp:PR Z w j ps qs.toList) :
  ∃r w1,(Instr.buildSlice t len qs).run P w = .ok r w1/\dz P Z w j mem (newRow mem e els 0).1 (newRow mem e els 0).2 r w1/\(dz P Z w j mem (.lit e els) mem r w1):=by
 have ht:P.underlying t=aA (.slice e):=by
  unfold gj at he;grind
 obtain⟨hn,hby,hpos,i,z,hi,his,hib,hz,hzs⟩:=lI hroom;have hels:∀x∈els,x.cells.length=P.cellsOf e:=fun x hx=>by grind
 have hpl:ps.length=len:=by
  obtain⟨out,_,_,h3,_⟩:=PW ps 0 els (dh ((0+ps.length) * P.cellsOf e) .junk) hl hels (by simp);omega
 obtain⟨out,h1,h2,h3,h4,h5⟩:=PW ps 0 els (dh (len * P.cellsOf e) .junk) hl hels (by grind)
 obtain⟨zero,hzero⟩:∃zero:Array aR,(len * i.size=0/\zero=#[])∨(len * i.size≠0/\zero=z.cells):=by
  grind
 obtain⟨us',hf,hr⟩:=Ol ps qs.toList _ out ((Array.range (len * i.size)).map (zero[· % zero.size]!)) h1 hp
  ⟨by grind,fun k c hk=>by
   have bd:=(bX.1 hk).1;simp at bd;have:c = .junk:=by grind
   subst this;exact⟨_,gH (by grind),.junk⟩⟩
 refine⟨.slice (aA ⟨w.heap.size,0,aF⟩) len len,w.alloc (.cells us' e),?_,?_⟩
 ·have hg:¬(len * i.size > 2 ^ 24):=by grind
  have hf':Instr.fill (fun k=>aA (k * i.size,i.size)) ((Array.range (len * i.size)).map (zero[· % zero.size]!)) qs.toList=aA us':=by simp_all
  simp only[Instr.buildSlice,Sem.run_bind,dS ht,Result.andThen_ok,sizeOf,gY,run_program,hi,Sem.run_pure];rw[aY hg];have hzr:(zeroValue e).run P w = .ok z w:=by simp[zeroValue,gY,hi,hz]
  rcases hzero with⟨h0,rfl⟩|⟨h0,rfl⟩
  ·rw[aU h0];simp only[Sem.run_bind,Sem.run_pure,Result.andThen_ok,hf'];simp[Go.newRow,newObj,Sem.run]
  ·rw[aY h0];simp only[Sem.run_bind,Sem.run_pure,Result.andThen_ok,hzr,hf'];simp[Go.newRow,newObj,Sem.run]
 ·have hcl:∀(k:Nat) (x:V) (i:Nat) (y:V),els[k]? = aA x->x.cells[i]? = aA y->y.one=aC/\∃u,us'[k * P.cellsOf e+i]? = aA u/\VR Z w j0 y u:=fun k x i y' hk hy=>by
   obtain⟨y,hy1,hy2⟩:=h5 k x i y' hk hy;rw[fY]at hy1;obtain⟨u,hu,hv⟩:=hr.2 _ y hy1;obtain⟨q1,q2,_⟩:=oE hy2 hv;grind
  have a:=AP (fz:=0) (els:=els) (us:=us') (c:=len) (w1:=w.alloc (.cells us' e)) s rfl rfl rfl rfl hpos hels (by omega) (by omega) (by simp only[f8];omega) (by rw[hr.1,h2];simp) hcl;have b:=R4 (els:=els) (us:=us') (c:=len) (w1:=w.alloc (.cells us' e)) s rfl rfl rfl rfl hpos hels (by omega) hcl;grind
theorem acd(s:SR P Z w j mem){t:aO}:∃r w1,(Instr.makeMap t aF).run P w = .ok r w1/\dz P Z w j mem (.mp mem.length) (mem++[.map []]) r w1:=by
 refine⟨.map (aA w.heap.size),w.alloc (.map #[] 0),rfl,?_⟩
 obtain⟨s1,st,je⟩:=s.push (w1:=w.alloc (.map #[] 0)) (ob:=.map #[] 0) rfl rfl rfl rfl 0 (h:=⟨.map (aA w.heap.size),0⟩) (by simp[cE.blk]) (o:=.map [])
  ⟨w.heap.size,#[],0,gZ _ _ _,heap_alloc_new w _,rfl,fun i a x h=>by grind,fun o ho=>by
   rcases ho with ho|ho
   ·have:=s.zin _ _ ho;omega
   grind,MapKept.stamped_empty 0⟩
 exact⟨_,_,.mp (gZ _ _ _),s1,st,je⟩
theorem acb(s:SR P Z w j mem){t:aO}:∃r w1,(Instr.makeMap t aF).run P w = .ok r w1/\dz P Z w j mem (DJ mem t).1 (DJ mem t).2 r w1:=by
 unfold DJ;cases hf:ny t 0 mem with
 |none=>exact acd s
 |some r =>
  obtain⟨id,ms⟩:=r;have hm:=HN hf;refine⟨.map (aA w.heap.size),w.alloc (.map #[] 0),rfl,?_⟩;have hO:=s.obj id _ hm
  obtain⟨q1,q2⟩:=s.growA (o':=.marena t (ms++[[]])) hm (n:=ms.length) (t:=t) rfl (by simp[O.ar]) (w1:=w.alloc (.map #[] 0)) (ob:=.map #[] 0) rfl rfl rfl rfl (fun hz hA=>by
   refine⟨by grind,fun k es g hk hg=>?_⟩
   by_cases bd:k < ms.length
   ·rw[eK bd]at hk;rw[my (by omega)]at hg
    have hs:g < w.heap.size:=by
     obtain⟨es',c,h1,_⟩:=hO.2 k es g hk hg;grind
    exact(hO.2 k es g hk hg).mono hz ⟨mM (w:=w) (w1:=w.alloc (.map #[] 0)) rfl hs,fun _=>Iff.rfl⟩
   ·have e:k=ms.length:=by grind
    subst e;rw[sA]at hg;cases hg;simp at hk;subst hk;exact⟨#[],0,heap_alloc_new w _,rfl,fun i a x h=>by grind,fun o ho=>by have:=s.zin _ _ ho;omega,MapKept.stamped_empty 0⟩)
  exact⟨_,j,.hm (sA _ _ _),q1,q2,bE.refl _⟩
theorem Mb(s:SR P Z w j mem){t:aO}{v:V}{u:aR}{r:V × List O}(h:tJ P mem t v=aA r)(hl:v.cells.length=P.cellsOf t)(ho:v.cells.all fq=aC)(hv:VR Z w j v u) :
  ∃r' w1,(Instr.box t u).run P w = .ok r' w1/\dz P Z w j mem r.1 r.2 r' w1:=by
 unfold tJ at h;cases hf:kj t 0 mem with
 |none =>
  rw[hf]at h;cases h;exact Vj s hl ho hv
 |some q =>
  obtain⟨id,els⟩:=q;rw[hf]at h;simp only at h;split at h;rotate_left
  ·cases h
  rename_i hpos;simp only[omi]at h;obtain⟨y,hy,rfl⟩:=h;have hm:=HL hf;have hO:=s.obj id _ hm;obtain⟨hsz,hcl⟩:=hv.cellsOf (pU ho);obtain⟨m1,m2⟩:=kZ (Aa hy);refine⟨.pointer (aA ⟨w.heap.size,0,aF⟩),w.alloc (.cells u.cells t),by simp[Instr.box,newVar,Go.newRow,newObj,Sem.run],?_⟩
  obtain⟨q1,q2⟩:=s.growA (o':=.arena t (els++[y])) hm (n:=els.length) (t:=t) rfl (by simp[O.ar]) (w1:=w.alloc (.cells u.cells t)) (ob:=.cells u.cells t) rfl rfl rfl rfl (fun hz hA=>by
   refine⟨by grind,fun k x g hk hg=>?_⟩
   by_cases bd:k < els.length
   ·rw[eK bd]at hk;rw[my (by omega)]at hg
    have hs:g < w.heap.size:=by
     obtain⟨us,h1,_⟩:=hO.2 k x g hk hg;grind
    exact(hO.2 k x g hk hg).mono hz ⟨mM (w:=w) (w1:=w.alloc (.cells u.cells t)) rfl hs,fun _=>Iff.rfl⟩
   ·have e:k=els.length:=by grind
    subst e;rw[sA]at hg;cases hg;simp at hk;subst hk;refine⟨u.cells,heap_alloc_new w _,by omega,by omega,hpos,fun i c hc=>?_,fun o ho=>by have:=s.zin _ _ ho;omega⟩;obtain⟨x,hx,hxc⟩:=m2 i c hc;obtain⟨cu,hcu,hvr⟩:=hcl i x hx;obtain⟨p1,p2,_⟩:=oE hxc hvr;refine⟨p2,cu,?_,p1.mono hz (bE.refl _)⟩;simp_all)
  exact⟨_,j,.hp (sA _ _ _),q1,q2,bE.refl _⟩
theorem UQ(s:SR P Z w j mem){t:aO}{z:V}{r:V × List O}(h:tJ P mem t z=aA r)(hz:jq P t=aA z)(hl:z.cells.length=P.cellsOf t)(ho:z.cells.all fq=aC) :
  ∃r' w1,(Instr.alloc t aC (.tuple #[])).run P w = .ok r' w1/\dz P Z w j mem r.1 r.2 r' w1:=by
 obtain⟨i,zv,hi,hzz,hv,_⟩:=uo (Z:=Z) (w:=w) (j:=j) hz;obtain⟨r,w1,h1,h2⟩:=Mb s h hl ho hv;refine⟨r,w1,?_,h2⟩;rw[<-h1];simp[Instr.alloc,Instr.box,zeroValue,gY,hi,hzz]
theorem ZD{d:TypeDesc}{k a:V}{uk ua:aR}{b:Bool}(hd:(∃kk,d = .int kk)∨d = .string)(h:fU k a=aA b)(hk:VR Z w j k uk)(ha:VR Z w j' a ua)(hfit:IsKey d uk):Instr.sameNow d uk ua=aA b:=by
 cases hk<;>cases ha<;>simp[fU]at h
 ·rcases hd with⟨kk,rfl⟩|rfl<;>simp[IsKey]at hfit
 ·obtain⟨rfl,rfl⟩:=h;rcases hd with⟨kk,rfl⟩|rfl<;>simp[IsKey]at hfit
  simp[Instr.sameNow]
 ·rcases hd with⟨kk,rfl⟩|rfl<;>simp[IsKey]at hfit
  rw[<-h];simp only[Instr.sameNow];rw[beq_toListBytes,wh,wh];simp
theorem z5{d:TypeDesc}{k:V}{uk:aR}(hd:(∃kk,d = .int kk)∨d = .string)(hk:VR Z w j k uk)(hfit:IsKey d uk) :
  ∀(es:List (V × V)) (es':List MapEntry) (n:Nat) (r:Option V),gM es k=aA r->es.length=es'.length ->
   (∀(i:Nat) (a x:V),es[i]? = aA (a,x)->∃e:MapEntry,es'[i]? = aA e/\a.flat1=aC/\x.inMap=aC/\VR Z w j0 a e.key/\VR Z w j0 x e.val) ->
   (r=aF/\Instr.findNow d uk es' n=aA aF)∨∃(i:Nat) (a x:V) (e:MapEntry),r=aA x/\es[i]? = aA (a,x)/\es'[i]? = aA e/\Instr.findNow d uk es' n=aA (aA (n+i,e.val))/\VR Z w j0 x e.val /\
    fU k a=aA aC/\(∀i' a' x',i' < i->es[i']? = aA (a',x')->fU k a'=aA aD):=by
 intro es
 induction es with
 |nil =>
  intro es' n r h hl _;simp[gM]at h;subst h;cases es' with
  |nil=>exact .inl ⟨rfl,rfl⟩
  |cons _ _=>grind
 |cons p es ih =>
  intro es' n r h hl hh;obtain⟨a,x⟩:=p;cases es' with
  |nil=>grind
  |cons e es' =>
   simp only[gM]at h;obtain⟨e0,he0,hfa,hfx,hva,hvx⟩:=hh 0 a x rfl;simp at he0;subst he0;cases hb:fU k a with
   |none=>grind
   |some b =>
    have hn:=ZD hd hb hk hva hfit;cases b
    ·simp[hb]at h;rcases ih es' (n+1) r h (by grind) (fun i a x hi=>by simpa using hh (i+1) a x (by grind))with⟨h1,h2⟩|⟨i,a',x',e',h1,h2,h3,h4,h5,h6,h7⟩
     ·exact .inl ⟨h1,by simp[Instr.findNow,hn,h2]⟩
     ·refine .inr ⟨i+1,a',x',e',h1,by grind,by grind,by simp only[Instr.findNow,hn,h4];grind,h5,h6,fun i' a'' x'' hi' he''=>?_⟩;grind
    ·simp[hb]at h;subst h;exact .inr ⟨0,a,x,e,rfl,rfl,rfl,by simp[Instr.findNow,hn],hvx,hb,fun i' _ _ hi'=>by omega⟩
theorem Is{t:aO}{k:V}{uk:aR}(h:oF P t k=aC)(hk:VR Z w j k uk):∃kt e d,P.underlying t=aA (.map kt e)/\P.underlying kt=aA d/\((∃kk,d = .int kk)∨d = .string)/\IsKey d uk/\k.flat1=true:=by
 cases k<;>simp[oF]at h
 all_goals
  cases hu:P.underlying t with
  |none=>grind
  |some dt =>
   cases dt<;>simp[hu]at h;rename_i kt e;cases hkt:P.underlying kt with
   |none=>grind
   |some d =>
    cases d<;>simp[hkt]at h;cases hk
    first
    |(subst h;exact⟨kt,e,_,rfl,hkt,.inl ⟨_,rfl⟩,rfl,rfl⟩)
    |exact⟨kt,e,_,rfl,hkt,.inr rfl,trivial,rfl⟩
theorem ab1(s:SR P Z w j mem){t e:aO}{m:V}{es:List (V × V)}{k z:V}{r:Option V}{um uk:aR}{ok:Bool}(hm:gL mem m=aA es)(hfit:oF P t k=aC)(he:xF P t=aA e)(hz:jq P e=aA z)
  (hf:gM es k=aA r) (hvm:VR Z w j m um) (hvk:VR Z w j k uk) :
  ∃v,(Instr.lookup t um uk ok).run P w = .ok v w/\VR Z w j (if ok then .tup [r.getD z,.bool r.isSome] else r.getD z) v:=by
 obtain⟨kt,e',d,hu,hkt,hd,hik,hfl⟩:=Is hfit hvk
 have he':e'=e:=by
  simp only[xF,hu]at he;grind
 subst he';obtain⟨i,zv,hi,hzz,hzv,_⟩:=uo (Z:=Z) (w:=w) (j:=j) hz;obtain⟨rr,rfl,es',clock,h2,h3,h4,_⟩:=Dw s hm hvm
 have fin:∀(x:V) (b:Bool) (u:aR),VR Z w j x u->VR Z w j (if ok then .tup [x,.bool b] else x) (if ok then .tuple #[u,.bool b] else u):=by
  intro x b u hx;cases ok
  ·grind
  ·refine VR.tup (us:=[u,.bool b]) rfl fun i c v hc hv=>?_
   match i with
   |0=>grind
   |1=>simp at hc hv;subst hc hv;exact .bool
   |i+2=>grind
 rcases z5 hd hvk hik es es'.toList 0 r hf (by grind) (by grind)with⟨rfl,hn⟩|⟨i',a,x,e',rfl,_,_,hn,hx,_⟩
 ·refine⟨_,?_,fin z aD zv hzv⟩;cases ok<;>simp[Instr.lookup,dS hu,MapKept.run_getObj_map h2,run_checkKey hkt hik,run_findKey hkt hn,zeroValue,gY,hi,hzz]
 ·refine⟨_,?_,fin x aC e'.val (hx.up j)⟩;cases ok<;>simp[Instr.lookup,dS hu,MapKept.run_getObj_map h2,run_checkKey hkt hik,run_findKey hkt hn]
theorem adP{k x:V}:∀{es out:List (V × V)},mO es k x=aA out ->
  (gM es k=aA aF/\out=es++[(k,x)]) ∨
  ∃(i:Nat) (a y:V),es[i]? = aA (a,y)/\fU k a=aA aC/\(∀i' a' x',i' < i->es[i']? = aA (a',x')->fU k a'=aA aD)/\gM es k=aA (aA y)/\out=es.set i (a,x):=by
 intro es
 induction es with
 |nil=>intro out h;simp[mO]at h;subst h;exact .inl ⟨rfl,rfl⟩
 |cons p es ih =>
  intro out h;obtain⟨a,y⟩:=p;simp only[mO]at h;cases hb:fU k a with
  |none=>grind
  |some b =>
   cases b
   ·cases hr:mO es k x with
    |none=>grind
    |some rest =>
     simp[hb,hr]at h;subst h;rcases ih hr with⟨h1,rfl⟩|⟨i,a',y',h1,h2,h3,h4,rfl⟩
     ·exact .inl ⟨by simp[gM,hb,h1],rfl⟩
     ·refine .inr ⟨i+1,a',y',by grind,h2,fun i' a'' x'' hi he=>?_,by simp[gM,hb,h4],rfl⟩;grind
   ·simp[hb]at h;subst h;exact .inr ⟨0,a,y,rfl,hb,fun i' _ _ hi=>by omega,by simp[gM,hb],rfl⟩
theorem Ti{k:V}{es:List (V × V)}{i i':Nat}{a y a' y':V}(h1:es[i]? = aA (a,y))(h2:fU k a=aA aC)(h3:∀i' a' x',i' < i->es[i']? = aA (a',x')->fU k a'=aA aD)
  (g1:es[i']? = aA (a',y')) (g2:fU k a'=aA aC) (g3:∀i a x,i < i'->es[i]? = aA (a,x)->fU k a=aA aD):i=i':=by
 grind
theorem ZC{k a:V}(h:fU k a=aA aC):k=a:=by
 cases k<;>cases a<;>simp[fU]at h
 all_goals grind
theorem VR.strInv{a:List UInt8}{u:aR}(h:VR Z w j (.str a) u):∃b:ByteArray,u = .string b/\b.data.toList=a:=by
 cases h;grind
theorem aac{a:V}{u u':aR}(hf:a.flat1=aC)(h:VR Z w j a u)(h':VR Z w j' a u'):u=u':=by
 cases a<;>simp[jw]at hf
 ·cases h;cases h';rfl
 ·cases h;cases h';rfl
 ·obtain⟨b,rfl,hb⟩:=h.strInv;obtain⟨b',rfl,hb'⟩:=h'.strInv;congr 1;exact WideShapes.bytes_inj (hb.trans hb'.symm)
theorem afS{r:Nat}{es':Array MapEntry}{clock:Nat}{o:Obj}(h2:w.heap[r]? = aA (.map es' clock))(hz:∀o,¬Z r o):bO Z w Z { w with heap:=w.heap.setIfInBounds r o } :=
 .of fun g x hx=>⟨hx,j7 ((heap_set h2).2 g fun e=>hz x (e ▸ hx)) x⟩
theorem VR.inMap0{x:V}{u:aR}(h:VR Z w j x u)(hf:x.inMap=aC)(j':J):VR Z w j' x u:=by
 cases h<;>first|(simp[V.inMap]at hf;done)|(constructor;done)|(constructor;grind)
theorem Dy(s:SR P Z w j mem){m:V}{r:Nat}{es es2:List (V × V)}{es' es2':Array MapEntry}{clock clock2:Nat}(hm:gL mem m=aA es)(hvm:VR Z w j m (.map (aA r)))(h2:w.heap[r]? = aA (.map es' clock))
  (hl:es2.length=es2'.size) (hh:∀(i:Nat) (a x:V),es2[i]? = aA (a,x)->∃e:MapEntry,es2'[i]? = aA e/\a.flat1=aC/\x.inMap=aC/\VR Z w j0 a e.key/\VR Z w j0 x e.val) (hzz:∀o,¬Z r o) (hst:MapKept.Stamped es2' clock2) :
  dz P Z w j mem (.tup []) (tC mem m es2) undef { w with heap:=w.heap.setIfInBounds r (.map es2' clock2) }:=by
 have hz':=afS (o:=.map es2' clock2) h2 hzz;have bd:r < w.heap.size:=(hJ.1 h2).1
 have hmi:wD Z { w with heap:=w.heap.setIfInBounds r (.map es2' clock2) } r es2:=by
  refine⟨es2',clock2,(heap_set h2).1,hl,fun i a x hi=>?_,hzz,hst⟩;obtain⟨e,h1,h3,h4,h5,h6⟩:=hh i a x hi;exact⟨e,h1,h3,h4,h5.mono hz' (bE.refl _),h6.mono hz' (bE.refl _)⟩
 have tup:∀(Z:Zs) (w:be),VR Z w j (.tup []) undef:=fun Z w=>.tup (us:=[]) rfl (fun i c u hc=>by grind)
 cases m with
 |mp id =>
  simp only[gL]at hm;cases hmm:mem[id]? with
  |none=>grind
  |some o =>
   cases o<;>simp only[hmm]at hm<;>first|(cases hm;done)|skip;cases hm;obtain⟨r',es3,clock3,h1,_⟩:=s.obj id _ hmm;cases hvm with
   |mp hj =>
    rw[hj]at h1;cases h1;have hot:∀g,dj j id≠aA g->({ w with heap:=w.heap.setIfInBounds r (.map es2' clock2) }:be).heap[g]? = w.heap[g]?:=fun g hg=>(heap_set h2).2 g fun e=>hg (by simp[dj,hj,cE.blk,e])
    refine⟨Z,j,tup _ _,s.set hmm (fun _=>rfl) hz' (fun g hg=>⟨hot g hg,fun _=>Iff.rfl⟩) (fun g o ho=>by simpa using s.zin g o ho) (fun h=>by cases h) ?_,
     bh.set hmm (fun _=>rfl) rfl hz' (fun g hg=>⟨hot g hg,fun _=>Iff.rfl⟩) rfl rfl rfl (by simp),bE.refl _⟩
    obtain⟨a1,a2,a3,a4,a5,a6⟩:=hmi;exact⟨r,a1,a2,hj,a3,a4,a5,a6⟩
 |hm t k =>
  simp only[gL,obi]at hm;obtain⟨⟨id,ms⟩,hf,hk⟩:=hm;have hmm:=HN hf;have hO:=s.obj id _ hmm;have hkl:k < ms.length:=(bX.1 hk).1;cases hvm with
  |hm hg =>
   have hot:∀g,g≠r->({ w with heap:=w.heap.setIfInBounds r (.map es2' clock2) }:be).heap[g]? = w.heap[g]?:=fun g hg=>(heap_set h2).2 g hg
   obtain⟨q1,q2⟩:=s.setA (o':=.marena t (ms.set k es2)) (w':={ w with heap:=w.heap.setIfInBounds r (.map es2' clock2) }) hmm (n:=ms.length) (t:=t) rfl (by simp[O.ar]) hz'
    (fun g' hg'=>⟨hot g' fun e=>hg' ⟨k,hkl,by grind⟩,fun _=>Iff.rfl⟩) (fun g o ho=>by simpa using s.zin g o ho) rfl rfl rfl (by simp) (by
     refine⟨by rw[gS];exact hO.1,fun k' x' g' hk' hg'=>?_⟩
     by_cases e:k=k'
     ·grind
     ·rw[ia e]at hk';exact(hO.2 k' x' g' hk' hg').mono hz' ⟨hot g' fun e'=>e (hO.1.inj k k' r hg (by grind)),fun _=>Iff.rfl⟩)
   simp only[tC,hf];exact⟨Z,j,tup _ _,q1,q2,bE.refl _⟩
 |_=>simp[gL]at hm
theorem Ou{k:V}:∀{es:List (V × V)},gM es k=aA aF->∀p∈es,fU k p.1=aA aD
 | [],_,p,hp=>nomatch hp
 |(a,x)::es,h,p,hp=>by
  simp only[gM]at h;cases hb:fU k a with
  |none=>grind
  |some b =>
   cases b
   ·simp[hb]at h;rcases dE.1 hp with rfl|hp
    ·grind
    ·exact Ou h p hp
   grind
theorem pM{k a:V}{uk ua:aR}{j j':J}(h:fU k a=aA aD)(hk:VR Z w j k uk)(ha:VR Z w j' a ua):uk≠ua:=by
 rintro rfl;unfold fU at h;split at h
 ·cases hk;cases ha;grind
 ·split at h
  ·rename_i e;subst e;cases hk;cases ha;grind
  grind
 ·cases hk;cases ha;grind
 grind
theorem agX(s:SR P Z w j mem){t:aO}{m:V}{es out:List (V × V)}{k x:V}{um uk ux:aR}(hm:gL mem m=aA es)(hfit:oF P t k=aC)(hx:x.inMap=aC)
  (hp:mO es k x=aA out) (hvm:VR Z w j m um) (hvk:VR Z w j k uk) (hvx:VR Z w j x ux) :
  ∃w1,(Instr.mapUpdate t um uk ux).run P w = .ok () w1/\dz P Z w j mem (.tup []) (tC mem m out) undef w1:=by
 obtain⟨kt,e',d,hu,hkt,hd,hik,hfl⟩:=Is hfit hvk;obtain⟨rr,rfl,es',clock,h2,h3,h4,h5⟩:=Dw s hm hvm;rcases adP hp with⟨hf,rfl⟩|⟨i,a,y,g1,g2,g3,hf,rfl⟩
 ·rcases z5 hd hvk hik es es'.toList 0 aF hf (by grind) (by grind)with⟨_,hn⟩|⟨i',a,x',e',hne,_⟩
  ·refine⟨_,by simp[Instr.mapUpdate,dS hu,MapKept.run_getObj_map h2,run_checkKey hkt hik,run_findKey hkt hn,MapKept.run_setObj_map _ h2];rfl,?_⟩;refine Dy s hm hvm h2 (by grind) (fun i a x' hi=>?_) h5.1 (MapKept.stamped_push h5.2 fun x hx e=>?_);rotate_left
   ·obtain⟨i,hi⟩:=y4 hx;have hil:=(bX.1 hi).1;obtain⟨e1,q1,q2,_,q3,_⟩:=h4 i _ _ (cj (show i < es.length by grind));simp only[Bj]at hi;rw[hi]at q1;cases q1;exact pM (Ou hf _ (Bu _)) hvk q3 e.symm
   by_cases bd:i < es.length
   ·grind
   ·rw[eO (by omega)]at hi;have e0:i=es.length:=by grind
    subst e0;simp at hi;obtain⟨rfl,rfl⟩:=hi;exact⟨⟨uk,ux,clock⟩,by grind,hfl,hx,hvk.flat hfl j0,hvx.inMap0 hx j0⟩
  grind
 ·rcases z5 hd hvk hik es es'.toList 0 (aA y) hf (by grind) (by grind)with⟨hne,_⟩|⟨i',a',x',e',_,q1,q2,hn,_,q3,q4⟩
  ·grind
  ·have ei:=Ti g1 g2 g3 q1 q3 q4;subst ei;rw[q1]at g1;cases g1;obtain⟨e0,w1,w2,w3,w4,w5⟩:=h4 i a y q1;have q2':es'[i]? = aA e':=by grind
   rw[q2']at w1;cases w1
   have hkk:e'.key=uk:=by
    rw[<-ZC q3]at w4;exact aac hfl w4 hvk
   rw[fY]at hn;refine⟨_,by simp[Instr.mapUpdate,dS hu,MapKept.run_getObj_map h2,run_checkKey hkt hik,run_findKey hkt hn,q2',hkk,run_keyThatStays hik,MapKept.run_setObj_map _ h2];rfl,?_⟩;refine Dy s hm hvm h2 (by grind) (fun i2 a2 x2 hi=>?_) h5.1 (MapKept.stamped_modify h5.2 i _ (fun e _=>rfl) fun e _ he=>?_);rotate_left
   ·grind
   by_cases e2:i=i2
   ·subst e2;have bd:i < es.length:=(bX.1 q1).1;rw[gR bd]at hi;cases hi;refine⟨{ e' with key:=uk,val:=ux },by grind,w2,hx,?_,hvx.inMap0 hx j0⟩;grind
   grind
theorem Wr{k:V}:∀{es out:List (V × V)},nK es k=aA out ->
  (gM es k=aA aF/\out=es) ∨
  ∃(i:Nat) (a y:V),es[i]? = aA (a,y)/\fU k a=aA aC/\(∀i' a' x',i' < i->es[i']? = aA (a',x')->fU k a'=aA aD)/\gM es k=aA (aA y)/\out=es.eraseIdx i:=by
 intro es
 induction es with
 |nil=>intro out h;simp[nK]at h;subst h;exact .inl ⟨rfl,rfl⟩
 |cons p es ih =>
  intro out h;obtain⟨a,y⟩:=p;simp only[nK]at h;cases hb:fU k a with
  |none=>grind
  |some b =>
   cases b
   ·cases hr:nK es k with
    |none=>grind
    |some rest =>
     simp[hb,hr]at h;subst h;rcases ih hr with⟨h1,rfl⟩|⟨i,a',y',h1,h2,h3,h4,rfl⟩
     ·exact .inl ⟨by simp[gM,hb,h1],rfl⟩
     ·refine .inr ⟨i+1,a',y',by grind,h2,fun i' a'' x'' hi he=>?_,by simp[gM,hb,h4],rfl⟩;grind
   ·simp[hb]at h;subst h;exact .inr ⟨0,a,y,rfl,hb,fun i' _ _ hi=>by omega,by simp[gM,hb],rfl⟩
theorem Wv(s:SR P Z w j mem){t ty:aO}{m:V}{es out:List (V × V)}{k:V}{um uk:aR}{ts:Array aO}{us:Array aR}(ht:ts[0]? = aA t)(hu0:us[0]? = aA um)(hu1:us[1]? = aA uk)
  (hm:gL mem m=aA es) (hfit:oF P t k=aC) (hp:nK es k=aA out) (hvm:VR Z w j m um) (hvk:VR Z w j k uk) :
  ∃w1,(Builtin.delete_ ts ty us).run P w = .ok undef w1/\dz P Z w j mem (.tup []) (tC mem m out) undef w1:=by
 obtain⟨kt,e',d,hu,hkt,hd,hik,hfl⟩:=Is hfit hvk;obtain⟨rr,rfl,es',clock,h2,h3,h4,h5⟩:=Dw s hm hvm;rcases Wr hp with⟨hf,he⟩|⟨i,a,y,g1,g2,g3,hf,rfl⟩
 ·subst he;rcases z5 hd hvk hik out es'.toList 0 aF hf (by grind) (by grind)with⟨_,hn⟩|⟨i',a,x',e',hne,_⟩
  ·refine⟨_,by simp[Builtin.delete_,ht,hu0,hu1,dS hu,MapKept.run_getObj_map h2,run_checkKey hkt hik,run_findKey hkt hn,MapKept.run_setObj_map _ h2,undef];rfl,?_⟩;exact Dy s hm hvm h2 h3 h4 h5.1 h5.2
  grind
 ·rcases z5 hd hvk hik es es'.toList 0 (aA y) hf (by grind) (by grind)with⟨hne,_⟩|⟨i',a',x',e',_,q1,q2,hn,_,q3,q4⟩
  ·grind
  ·have ei:=Ti g1 g2 g3 q1 q3 q4;subst ei;rw[fY]at hn;have bd:i < es.length:=(bX.1 q1).1;refine⟨_,by simp[Builtin.delete_,ht,hu0,hu1,dS hu,MapKept.run_getObj_map h2,run_checkKey hkt hik,run_findKey hkt hn,MapKept.run_setObj_map _ h2,undef];rfl,?_⟩
   have her:es'.eraseIdxIfInBounds i=(es'.toList.eraseIdx i).toArray:=by
    grind
   refine Dy s hm hvm h2 (by grind) (fun i2 a2 x2 hi=>?_) h5.1 (MapKept.stamped_erase h5.2 i);grind
theorem KQ(s:SR P Z w j mem){sv:V}{u:aR}{id off len fz:Nat}{e:aO}{els:List V}(h:v8 mem sv=aA (id,off,len))(hm:mem[id]? = aA (.row e els fz))(hv:VR Z w j sv u):VR Z w j (.win id off len) u:=by
 cases sv<;>simp only[v8]at h<;>first|(cases h;done)|skip
 case win a b c=>grind
 case tail a b =>
  split at h
  ·rename_i hm';cases h;rw[hm]at hm';cases hm';exact(yN s hm hv).2
  grind
 case own a =>
  split at h
  ·rename_i hm';cases h;rw[hm]at hm';cases hm';obtain⟨hn,hh,hr⟩:=s.obj id _ hm;cases hv with
   |own hj h0 =>
    rw[hj]at hh;cases hh;obtain⟨h1,h2,h3,h4,h5⟩:=hr;rcases h5 with⟨hu,he⟩|⟨g,b,c,us,hu,hlc,_⟩
    ·cases hu;subst he;exact .win hj (c7 _) (c7 _) rfl (.inl ⟨rfl,rfl⟩)
    ·cases hu;exact .win hj (by simp) hlc (by simp) (.inr ⟨g,b,0,rfl,rfl,by simp,by simp⟩)
  grind
theorem V2(s:SR P Z w j mem){t tx ty:aO}{sv x v:V}{u ux:aR}(hty:nc P t tx x=aC)(h:zJ P mem t sv x=aA (v,mem'))(hv:VR Z w j sv u)(hx:VR Z w j x ux) :
  ∃r w1,(Builtin.copy_ #[t,tx] ty #[u,ux]).run P w = .ok r w1/\dz P Z w j mem v mem' r w1:=by
 unfold zJ at h;simp only[obi]at h;obtain⟨e,he,xs,hxs,⟨id,off,len⟩,hsp,h⟩:=h
 have ht:P.underlying t=aA (.slice e):=by
  unfold gj at he;grind
 simp only at h;split at h;rotate_left
 ·cases h
 rename_i e' els fz hm;split at h;rotate_left
 ·cases h
 rename_i hc;obtain⟨rfl,hall,hfz,hend⟩:=hc;cases h;have hw:=KQ s hsp hm hv;have hall':∀y∈xs,y.cells.length=P.cellsOf e':=fun y hy=>by grind
 obtain⟨hn,hh,hr⟩:=s.obj id _ hm;obtain⟨h1,h2,h3,h4,h5⟩:=hr;have hpos:0 < P.cellsOf e':=by grind
 obtain⟨news,ha,hnr⟩:=F2 s hty ht hpos hxs hall' hx;obtain⟨i,hi,his,_⟩:=vg hpos;cases hw with
 |win hj hnn hlc hcc hA =>
 rename_i n c sz c' A A';rw[hj]at hh;cases hh;simp only at h1 h2 h4 h5;subst h1;obtain⟨m,hmd⟩:∃m,m=min xs.length len:=⟨_,rfl⟩
 rw[<-hmd];have hml:m<=len:=by omega
 have hmx:m<=xs.length:=by omega
 have hnm:Nat.min xs.length len=m:=hmd.symm;have hfc:=ha.cells m w hmx rfl;rw[<-his]at hfc
 have hrun:(Builtin.copy_ #[t,tx] ty #[.slice A' len c',ux]).run P w=(match A' with|some a=>(storeCells a (news.take (m * i.size))).run P w|none=>.ok () w).andThen fun _ w1=>.ok (goInt m) w1:=by
  have hlen:=ha.len w;cases A'<;>simp[Builtin.copy_,dS ht,hlen,sizeOf,gY,hi,hnm,hfc]
 by_cases hm0:m=0
 ·subst hm0;have he1:els.take off++xs.take 0++els.drop (off+0)=els:=by simp
  rw[he1]
  have he2:mem.set id (.row e' els fz)=mem:=by
   apply uw;grind
  rw[he2];refine⟨goInt 0,w,?_,fG s .int⟩;rw[hrun];cases A'<;>simp[storeCells]
 ·rcases h5 with⟨_,hel⟩|⟨g,b,c2,us,hu,hlc2,hcm,hg,hus,hcells,hz1,hz2⟩
  ·grind
  ·simp only[Value.slice.injEq]at hu;obtain⟨rfl,rfl,rfl⟩:=hu;rcases hA with⟨hA,_⟩|⟨g',b',o,hA,rfl,ho1,ho2⟩
   ·grind
   cases hA;have ho:o=off * P.cellsOf e':=ho2 (by omega);subst ho;obtain⟨vals,hvd⟩:∃vals,vals=news.take (m * P.cellsOf e'):=⟨_,rfl⟩
   have hvl:vals.length=m * P.cellsOf e':=by
    rw[hvd,eC,ha.size];simp_all
   have hsz1:(off+m) * P.cellsOf e'<=els.length * P.cellsOf e':=dQ _ (by omega);have hsz2:els.length * P.cellsOf e'<=c * P.cellsOf e':=dQ _ hlc2;rw[kf]at hsz1;have hus:b+c * P.cellsOf e'<=us.size:=hus;obtain⟨p,hp⟩:∃p,p=b+off * P.cellsOf e':=⟨_,rfl⟩
   have hpl:p+vals.length<=us.size:=by omega
   obtain⟨q1,q2,q3⟩:=Bd (w:=w) (p:=p) (vals:=vals) hg hpl;have hone:∀v∈vals,v.oneCell'=true:=fun v hv=>ha.one v (o4 (hvd ▸ hv))
   have hst:=yu P g p e' vals 0 us w hg (by grind) hone;simp only[fL]at hst;refine⟨goInt m,w.setRow g (us.toList.take p++vals++us.toList.drop (p+vals.length)).toArray,?_,?_⟩
   ·simp_all
   obtain⟨w1,hw1⟩:∃w1,w1=w.setRow g (us.toList.take p++vals++us.toList.drop (p+vals.length)).toArray:=⟨_,rfl⟩
   have hot:∀k,k≠g->w1.heap[k]? = w.heap[k]?:=fun k hk=>by rw[hw1];exact oP w g k _ hk
   rw[<-hw1]at q1 q3 |-
   have hfz':fz * P.cellsOf e'<=off * P.cellsOf e':=dQ _ hfz
   have hz':bO Z w Z w1:=by
    refine .of fun g' x hx=>⟨hx,?_⟩
    by_cases e:g'=g
    ·subst e;have h7:x < b+fz * P.cellsOf e':=(hz1 x hx).2;refine⟨by rw[q3 x,aY (by omega),gI hg],?_⟩;simp only[jg,q1,hg,q2]
    ·exact j7 (hot g' e) x
   have hbk:dj j id=aA g:=by simp[dj,hj,cE.blk]
   have hne:∀g',dj j id≠aA g'->g'≠g:=by
    grind
   have hrow:OR P Z w1 j id (.row e' (els.take off++xs.take m++els.drop (off+m)) fz):=by
    have hto:(els.take off).length=off:=by simp;omega
    have htx:(xs.take m).length=m:=by grind
    have hlen':(els.take off++xs.take m++els.drop (off+m)).length=els.length:=by grind
    refine⟨_,hj,rfl,hpos,by grind,fun z hz=>?_,.inr ⟨g,b,c,_,by grind,by grind,hcm,q1,by grind,fun k x hk i y hy=>?_,hz1,hz2⟩⟩
    ·grind
    ·show _/\∃u,w1.cell? ⟨g,b+k * P.cellsOf e'+i,aF⟩=aA u/\_;rw[q3]
     have old:∀x,els[k]? = aA x->x.cells[i]? = aA y->(k < off∨off+m<=k)->y.one=aC/\∃u,(if p<=b+k * P.cellsOf e'+i/\b+k * P.cellsOf e'+i < p+vals.length then vals[b+k * P.cellsOf e'+i - p]? else us[b+k * P.cellsOf e'+i]?)=aA u/\VR Z w1 j0 y u:=by
      intro x hk hy hkk;have hil:i < P.cellsOf e':=by grind
      have hout:¬(p<=b+k * P.cellsOf e'+i/\b+k * P.cellsOf e'+i < p+vals.length):=by
       rintro⟨r1,r2⟩;rcases hkk with hk1|hk1
       ·have:(k+1) * P.cellsOf e'<=off * P.cellsOf e':=dQ _ hk1;grind
       ·have:(off+m) * P.cellsOf e'<=k * P.cellsOf e':=dQ _ hk1;grind
      rw[aY hout];obtain⟨a,u',hu'',hvv⟩:=hcells k x hk i y hy;rw[gI hg]at hu'';exact⟨a,u',hu'',hvv.mono hz' (bE.refl _)⟩
     by_cases hk1:k < off
     ·grind
     ·rw[cO,eO (by omega),hto]at hk
      by_cases hk2:k - off < m
      ·rw[eK (by omega),lj,aU hk2]at hk;have hil:i < P.cellsOf e':=by grind
       obtain⟨a,u',hu',hvv⟩:=hnr _ x i y hk hy;have e1:k * P.cellsOf e'=off * P.cellsOf e'+(k - off) * P.cellsOf e':=by rw[<-kf];grind
       have e2:(k - off+1) * P.cellsOf e'<=m * P.cellsOf e':=dQ _ (by omega);rw[ml]at e2;rw[aU (by omega),show b+k * P.cellsOf e'+i - p=(k - off) * P.cellsOf e'+i by omega,hvd,lj,aU (by omega)];exact⟨a,u',hu',hvv.mono hz' (bE.refl _)⟩
      ·rw[eO (by omega),htx,js,show off+m+(k - off - m)=k by omega]at hk;grind
   refine⟨Z,j,.int,s.set hm (fun _=>rfl) hz' (fun g' hg'=>⟨hot g' (hne g' hg'),fun _=>Iff.rfl⟩) (fun g' x hx=>?_) (fun h=>by cases h) hrow,?_,bE.refl _⟩
   ·have:=s.zin g' x hx;simp_all
   ·exact bh.set hm (fun _=>rfl) rfl hz' (fun g' hg'=>⟨hot g' (hne g' hg'),fun _=>Iff.rfl⟩) (by simp_all) (by simp_all) (by simp_all) (by simp_all)
theorem abG(s:SR P Z w j mem){id off m fz:Nat}{e':aO}{els xs:List V}{vals:List aR}{v:V}{r:aR}(hm:mem[id]? = aA (.row e' els fz)){g b c:Nat}{us:Array aR}
  (hj:j id=aA ⟨.slice (aA ⟨g,b,aF⟩) els.length c,P.cellsOf e'⟩) (hlc2:els.length<=c) (hcm:c<=f8) (hg:w.heap[g]? = aA (.cells us e' (0,0))) (hus:b+c * P.cellsOf e'<=us.size) (hpos:0 < P.cellsOf e')
  (h3:fz<=els.length) (h4:∀x∈els,x.cells.length=P.cellsOf e') (hcells:∀k x,els[k]? = aA x->ge Z w j0 g (b+k * P.cellsOf e') x.cells) (hz1:∀o,Z g o->0 < fz/\o < b+fz * P.cellsOf e') (hz2:∀o,o < fz * P.cellsOf e'->Z g (b+o))
  (hfz:fz<=off) (hend:off+m<=els.length) (hxm:xs.length=m) (hall':∀y∈xs,y.cells.length=P.cellsOf e') (hvl:vals.length=m * P.cellsOf e')
  (hnr:∀(k:Nat) (x:V) (i:Nat) (y:V),xs[k]? = aA x->x.cells[i]? = aA y->y.one=aC/\∃u,vals[k * P.cellsOf e'+i]? = aA u/\VR Z w j0 y u) (hv:∀Z' w',VR Z' w' j v r) :
  dz P Z w j mem v (mem.set id (.row e' (els.take off++xs++els.drop (off+m)) fz)) r (w.setRow g (us.toList.take (b+off * P.cellsOf e')++vals++us.toList.drop (b+off * P.cellsOf e'+vals.length)).toArray):=by
 have hsz1:(off+m) * P.cellsOf e'<=els.length * P.cellsOf e':=dQ _ (by omega);have hsz2:els.length * P.cellsOf e'<=c * P.cellsOf e':=dQ _ hlc2;rw[kf]at hsz1;obtain⟨p,hp⟩:∃p,p=b+off * P.cellsOf e':=⟨_,rfl⟩
 rw[<-hp];have hpl:p+vals.length<=us.size:=by omega
 obtain⟨q1,q2,q3⟩:=Bd (w:=w) (p:=p) (vals:=vals) hg hpl;obtain⟨w1,hw1⟩:∃w1,w1=w.setRow g (us.toList.take p++vals++us.toList.drop (p+vals.length)).toArray:=⟨_,rfl⟩
 have hot:∀k,k≠g->w1.heap[k]? = w.heap[k]?:=fun k hk=>by rw[hw1];exact oP w g k _ hk
 rw[<-hw1]at q1 q3 |-
 have hfz':fz * P.cellsOf e'<=off * P.cellsOf e':=dQ _ hfz
 have hz':bO Z w Z w1:=by
  refine .of fun g' x hx=>⟨hx,?_⟩
  by_cases e:g'=g
  ·subst e;have h7:x < b+fz * P.cellsOf e':=(hz1 x hx).2;refine⟨by rw[q3 x,aY (by omega),gI hg],?_⟩;simp only[jg,q1,hg,q2]
  ·exact j7 (hot g' e) x
 have hbk:dj j id=aA g:=by simp[dj,hj,cE.blk]
 have hne:∀g',dj j id≠aA g'->g'≠g:=by
  grind
 have hrow:OR P Z w1 j id (.row e' (els.take off++xs++els.drop (off+m)) fz):=by
  have hto:(els.take off).length=off:=by simp;omega
  have hlen':(els.take off++xs++els.drop (off+m)).length=els.length:=by grind
  refine⟨_,hj,rfl,hpos,by grind,fun z hz=>?_,.inr ⟨g,b,c,_,by grind,by grind,hcm,q1,by grind,fun k x hk i y hy=>?_,hz1,hz2⟩⟩
  ·grind
  ·show _/\∃u,w1.cell? ⟨g,b+k * P.cellsOf e'+i,aF⟩=aA u/\_;rw[q3]
   have old:∀x,els[k]? = aA x->x.cells[i]? = aA y->(k < off∨off+m<=k)->y.one=aC/\∃u,(if p<=b+k * P.cellsOf e'+i/\b+k * P.cellsOf e'+i < p+vals.length then vals[b+k * P.cellsOf e'+i - p]? else us[b+k * P.cellsOf e'+i]?)=aA u/\VR Z w1 j0 y u:=by
    intro x hk hy hkk;have hil:i < P.cellsOf e':=by grind
    have hout:¬(p<=b+k * P.cellsOf e'+i/\b+k * P.cellsOf e'+i < p+vals.length):=by
     rintro⟨r1,r2⟩;rcases hkk with hk1|hk1
     ·have:(k+1) * P.cellsOf e'<=off * P.cellsOf e':=dQ _ hk1;grind
     grind
    rw[aY hout];obtain⟨a,u',hu'',hvv⟩:=hcells k x hk i y hy;rw[gI hg]at hu'';exact⟨a,u',hu'',hvv.mono hz' (bE.refl _)⟩
   by_cases hk1:k < off
   ·grind
   ·rw[cO,eO (by omega),hto]at hk
    by_cases hk2:k - off < m
    ·rw[eK (by omega)]at hk;have hil:i < P.cellsOf e':=by grind
     obtain⟨a,u',hu',hvv⟩:=hnr _ x i y hk hy;have e1:k * P.cellsOf e'=off * P.cellsOf e'+(k - off) * P.cellsOf e':=by rw[<-kf];grind
     have e2:(k - off+1) * P.cellsOf e'<=m * P.cellsOf e':=dQ _ (by omega);rw[ml]at e2;rw[aU (by omega),show b+k * P.cellsOf e'+i - p=(k - off) * P.cellsOf e'+i by omega];exact⟨a,u',hu',hvv.mono hz' (bE.refl _)⟩
    ·rw[eO (by omega),hxm,js,show off+m+(k - off - m)=k by omega]at hk;grind
 refine⟨Z,j,hv _ _,s.set hm (fun _=>rfl) hz' (fun g' hg'=>⟨hot g' (hne g' hg'),fun _=>Iff.rfl⟩) (fun g' x hx=>?_) (fun h=>by cases h) hrow,?_,bE.refl _⟩
 ·have:=s.zin g' x hx;simp_all
 ·exact bh.set hm (fun _=>rfl) rfl hz' (fun g' hg'=>⟨hot g' (hne g' hg'),fun _=>Iff.rfl⟩) (by simp_all) (by simp_all) (by simp_all) (by simp_all)
theorem VK(s:SR P Z w j mem){t ty:aO}{sv v:V}{u:aR}(h:zH P mem t sv=aA (v,mem'))(hv:VR Z w j sv u) :
  ∃r w1,(Builtin.clear_ #[t] ty #[u]).run P w = .ok r w1/\dz P Z w j mem v mem' r w1:=by
 unfold zH at h;simp only[obi]at h;obtain⟨e,he,⟨id,off,len⟩,hsp,h⟩:=h
 have ht:P.underlying t=aA (.slice e):=by
  unfold gj at he;grind
 simp only at h;split at h;rotate_left
 ·cases h
 rename_i e' els fz hm;split at h;rotate_left
 ·cases h
 rename_i hc;obtain⟨rfl,hroom,hfz,hend⟩:=hc;simp only[obi,omi]at h;obtain⟨z,hz,z',hz',h⟩:=h;cases h;have tup:∀(Z:Zs) (w:be),VR Z w j (.tup []) (.tuple #[]):=fun Z w=>.tup (us:=[]) rfl (fun i c u hc=>by grind)
 have hw:=KQ s hsp hm hv;obtain⟨hn,hh,h1,h2,h3,h4,h5⟩:=s.obj id _ hm;have hpos:0 < P.cellsOf e':=by grind
 cases hw with
 |win hj hnn hlc hcc hA =>
 rename_i n c sz c' A A';rw[hj]at hh;cases hh;simp only at h1 h2 h4 h5;subst h1
 by_cases hm0:len=0
 ·subst hm0;have he1:els.take off++dh 0 z'++els.drop (off+0)=els:=by simp
  rw[he1]
  have he2:mem.set id (.row e' els fz)=mem:=by
   apply uw;grind
  rw[he2];refine⟨.tuple #[],w,?_,fG s (tup _ _)⟩;cases A'<;>simp[Builtin.clear_,dS ht]
 ·rcases h5 with⟨_,hel⟩|⟨g,b,c2,us,hu,hlc2,hcm,hg,hus,hcells,hz1,hz2⟩
  ·grind
  ·simp only[Value.slice.injEq]at hu;obtain⟨rfl,rfl,rfl⟩:=hu;rcases hA with⟨hA,_⟩|⟨g',b',o,hA,rfl,ho1,ho2⟩
   ·grind
   cases hA;have ho:o=off * P.cellsOf e':=ho2 (by omega);subst ho;obtain⟨i,zv,hi,hzv,hvz,_⟩:=uo (P:=P) (Z:=Z) (w:=w) (j:=j) hz;have hcellsz:=Aa hz';obtain⟨hm1,hm2⟩:=kZ hcellsz
   have hone:∀y∈z.cells,y.one=true:=by
    intro y hy;obtain⟨k,hk,rfl⟩:=mi hy;obtain⟨y',_,hy'⟩:=Dx hcellsz k _ (cj hk);exact(z9 hy').1
   obtain⟨hcs,hcl⟩:=hvz.cellsOf hone;obtain⟨x0,hx0⟩:∃x0,els[off]? = aA x0:=⟨_,cj (by omega)⟩
   obtain⟨i2,hi2,his,_⟩:=vg hpos;rw[hi]at hi2;cases hi2
   have hzs:zv.cells.size=P.cellsOf e':=by
    obtain⟨_,_,_,i3,zv3,hi3,_,_,hz3,hzs3⟩:=lI hroom;grind
   have hzl:z'.cells.length=P.cellsOf e':=by grind
   have hzone:∀v∈zv.cells.toList,v.oneCell'=true:=by
    intro v hv;obtain⟨k,hk,rfl⟩:=mi hv;have hk':k < zv.cells.size:=by grind
    obtain⟨cu,hcu,hvr⟩:=hcl k _ (cj (by omega))
    have:zv.cells.toList[k]=cu:=by
     grind
    rw[this];exact hvr.oneCell (hone _ (Bu _))
   obtain⟨vals,hvd⟩:∃vals,vals=(Builtin.zeroCells zv.cells len).toList:=⟨_,rfl⟩
   have hvl:vals.length=len * P.cellsOf e':=by rw[hvd];simp[Builtin.zeroCells,hzs]
   have hvone:∀v∈vals,v.oneCell'=true:=by
    intro v hv;rw[hvd]at hv;simp only[Builtin.zeroCells,Array.toList_map,ib,Array.mem_toList_iff,Array.mem_range]at hv;obtain⟨q,hq,rfl⟩:=hv;have bd:q % zv.cells.size < zv.cells.size:=Nat.mod_lt _ (by omega);grind
   have hsz1:(off+len) * P.cellsOf e'<=els.length * P.cellsOf e':=dQ _ (by omega);have hsz2:els.length * P.cellsOf e'<=c * P.cellsOf e':=dQ _ hlc2;rw[kf]at hsz1;have hst:=yu P g (b+off * P.cellsOf e') e' vals 0 us w hg (by grind) hvone;simp only[fL]at hst;refine⟨.tuple #[],_,?_,abG (vals:=vals) (m:=len) (xs:=dh len z') s hm hj hlc2 hcm hg hus hpos h3 h4 hcells hz1 hz2 hfz hend (by simp) (fun y hy=>by grind) hvl (fun k x q y hk hy=>?_) tup⟩
   ·obtain⟨m,rfl⟩:∃m,len=m+1:=⟨len - 1,by omega⟩
    simp[Builtin.clear_,dS ht,zeroValue,gY,hi,hzv,<-hvd,hst]
   ·have hx:=y3 (dx hk);subst hx;have hkl:k < len:=by grind
    have hq:q < P.cellsOf e':=by grind
    obtain⟨y0,hy0,hyi⟩:=hm2 q y hy;obtain⟨cu,hcu,hvr⟩:=hcl q y0 hy0;obtain⟨p1,p2,_⟩:=oE hyi hvr;refine⟨p2,cu,?_,p1⟩
    have hlt2:k * P.cellsOf e'+q < len * zv.cells.size:=by
     have:(k+1) * P.cellsOf e'<=len * P.cellsOf e':=dQ _ (by omega);grind
    rw[hvd];unfold Builtin.zeroCells;rw[Bj,Fw,K7,aU hlt2];simp only[du]
    have hmod:(k * P.cellsOf e'+q) % zv.cells.size=q:=by
     rw[hzs,sg,Lu,FQ hq]
    grind
theorem Qa{t:aO}{a b v:V}{ua ub:aR}(h:qX P mem t a b=aA (v,mem'))(ha:VR Z w j a ua)(hb:VR Z w j b ub) :
  ∃e us els c,(Instr.makeSlice t ua ub).run P w = .ok (.slice (aA ⟨w.heap.size,0,aF⟩) els.length c) (w.alloc (.cells us e))/\v = .own mem.length/\mem'=mem++[.row e els 0]/\0 < P.cellsOf e/\(∀x∈els,x.cells.length=P.cellsOf e) /\
   els.length<=c/\c<=f8/\us.size=c * P.cellsOf e/\∀(k:Nat) (x:V) (i:Nat) (y:V),els[k]? = aA x->x.cells[i]? = aA y->y.one=aC/\∃u,us[k * P.cellsOf e+i]? = aA u/\VR Z w j0 y u:=by
 unfold qX at h;simp only[obi]at h;obtain⟨e,he,h⟩:=h
 have ht:P.underlying t=aA (.slice e):=by
  unfold gj at he;cases hu:P.underlying t with
  |none=>simp[hu]at he
  |some d=>cases d<;>simp[hu]at he;subst he;rfl
 split at h;rotate_left
 ·cases h
 rename_i kl l kc c;cases ha;cases hb;split at h;rotate_left
 ·cases h
 rename_i hc;obtain⟨h0,hlc,hroom⟩:=hc;simp only[obi,omi]at h;obtain⟨z,hz,z',hz',h⟩:=h;cases h;obtain⟨hn,hby,hpos,i,zv,hi,his,hib,hzv,hzs⟩:=lI hroom;obtain⟨i2,zv2,hi2,hzv2,hvz,_⟩:=uo (P:=P) (Z:=Z) (w:=w) (j:=j) hz;rw[hi]at hi2;cases hi2;rw[hzv]at hzv2;cases hzv2;have hcells:=Aa hz';obtain⟨hm1,hm2⟩:=kZ hcells
 have hone:∀y∈z.cells,y.one=true:=by
  intro y hy;obtain⟨k,hk,rfl⟩:=mi hy;obtain⟨y',_,hy'⟩:=Dx hcells k _ (cj hk);exact(z9 hy').1
 obtain⟨hcs,hcl⟩:=hvz.cellsOf hone;have hzl:z'.cells.length=P.cellsOf e:=by rw[hm1,<-hcs,hzs]
 have hbytes:(i.bytes:Int) * c<=281474976710656:=by
  have h1:i.bytes * c.toNat<=4096 * 16777216:=BH (by rw[hib];exact hby) hn;have h2:((i.bytes * c.toNat:Nat):Int)=(i.bytes:Int) * c:=by rw[Int.natCast_mul];congr 1;omega
  omega
 have hrun:=run_make (P:=P) w t e i zv ht hi hzv kl kc l c h0 hlc hbytes (by omega);have bd:l.toNat<=c.toNat:=by omega
 refine⟨e,madeCells zv.cells (c.toNat * i.size),dh l.toNat z',c.toNat,by rw[Lp];exact hrun,rfl,rfl,hpos,fun x hx=>by rw[y3 hx];exact hzl,by simpa using bd,by simp only[f8];omega,by rw[size_madeCells,his],?_⟩;intro k x q y hk hy;have hx:=y3 (dx hk);subst hx;have hkl:k < l.toNat:=by have:=(bX.1 hk).1;simpa using this
 have hq:q < P.cellsOf e:=by rw[<-hzl];exact(bX.1 hy).1
 obtain⟨y0,hy0,hyi⟩:=hm2 q y hy;obtain⟨cu,hcu,hvr⟩:=hcl q y0 hy0;obtain⟨p1,p2,_⟩:=oE hyi hvr;refine⟨p2,cu,?_,p1⟩
 have hlt2:k * P.cellsOf e+q < c.toNat * i.size:=by
  have:(k+1) * P.cellsOf e<=c.toNat * P.cellsOf e:=dQ _ (by omega);rw[ml]at this;rw[his];omega
 unfold madeCells;rw[Fw,K7,aU hlt2];simp only[du]
 have hmod:(k * P.cellsOf e+q) % zv.cells.size=q:=by
  rw[hzs,sg,Lu,FQ hq]
 rw[hmod];have hqs:q < zv.cells.size:=by rw[hzs];exact hq
 rw[getElem!_pos zv.cells q hqs];rw[gH hqs]at hcu;exact hcu
theorem ace(s:SR P Z w j mem){t:aO}{a b v:V}{ua ub:aR}(h:qX P mem t a b=aA (v,mem'))(ha:VR Z w j a ua)(hb:VR Z w j b ub) :
  ∃r w1,(Instr.makeSlice t ua ub).run P w = .ok r w1/\dz P Z w j mem v mem' r w1:=by
 obtain⟨e,us,els,c,h1,rfl,rfl,p1,p2,p3,p4,p5,p6⟩:=Qa h ha hb;exact⟨_,_,h1,AP s rfl rfl rfl rfl p1 p2 (jQ _) p3 p4 p5 p6⟩
theorem UU(s:SR P Z w j mem){t tn ty:aO}{sv x v:V}{u ux:aR}(h:uK P mem t tn sv x=aA (v,mem'))(hs:VR Z w j sv u)(hx:VR Z w j x ux) :
  ∃r w1,(Builtin.append_ #[t,tn] ty #[u,ux]).run P w = .ok r w1/\dz P Z w j mem v mem' r w1:=by
 unfold uK at h;split at h;rotate_left
 ·cases h
 rename_i kn n htn;cases hs;cases hx;simp only[obi]at h;obtain⟨e,he,h⟩:=h
 have ht:P.underlying t=aA (.slice e):=by
  unfold gj at he;cases hu:P.underlying t with
  |none=>simp[hu]at he
  |some d=>cases d<;>simp[hu]at he;subst he;rfl
 split at h;rotate_left
 ·cases h
 rename_i hc;obtain⟨h0,hroom⟩:=hc;simp only[obi,omi]at h;obtain⟨z,hz,z',hz',h⟩:=h;cases h;obtain⟨hn,hby,hpos,i,zv,hi,his,hib,hzv,hzs⟩:=lI hroom;obtain⟨i2,zv2,hi2,hzv2,hvz,_⟩:=uo (P:=P) (Z:=Z) (w:=w) (j:=j) hz;rw[hi]at hi2;cases hi2;rw[hzv]at hzv2;cases hzv2;have hcells:=Aa hz';obtain⟨hm1,hm2⟩:=kZ hcells
 have hone:∀y∈z.cells,y.one=true:=by
  intro y hy;obtain⟨k,hk,rfl⟩:=mi hy;obtain⟨y',_,hy'⟩:=Dx hcells k _ (cj hk);exact(z9 hy').1
 obtain⟨hcs,hcl⟩:=hvz.cellsOf hone;have hzl:z'.cells.length=P.cellsOf e:=by rw[hm1,<-hcs,hzs]
 obtain⟨N,rfl⟩:∃N:Nat,n=(N:Int):=⟨n.toNat,by omega⟩
 rw[Int.toNat_natCast]at hn hroom |-
 have hbytes:N * i.bytes<=140737488355328:=by
  rw[hib];exact sh (BH hn hby) (by decide)
 have hrun:=Lib.run_append_grow_zeros w t tn ty e i zv .i64 kn ht htn hi hzv aF 0 0 [] (run_firstCells_none w.drew i.size 0 0 0) N (by omega) (by omega) (by omega) (by omega) (by omega) (growslice_fits (by omega) (by simpa using hbytes));rw[fY]at hrun
 have hcp:N<=gv w N 0 e:=by
  exact grownCap_ge w N 0 e
 have hcm:gv w N 0 e<=f8:=grownCap_le_maxLen w _ _ e (by simp only[f8];omega)
 have hp:=AP (fz:=0) (els:=dh N z') (us:=#[].append (Builtin.zeroCells zv.cells N)++Builtin.zeroCells zv.cells (gv w N 0 e - N)) (c:=gv w N 0 e) (w1:=w.drew.alloc (.cells ([].toArray++Builtin.zeroCells zv.cells N++Builtin.zeroCells zv.cells (gv w N 0 e - N)) e)) s rfl rfl rfl rfl hpos (fun x hx=>by rw[y3 hx];exact hzl) (jQ _) (by simpa using hcp) hcm
  (by
   show(#[]++Builtin.zeroCells zv.cells N++Builtin.zeroCells zv.cells (gv w N 0 e - N)).size=_;rw[Bl,Bl,size_zeroCells,size_zeroCells,hzs,Array.size_empty,fY,<-kf,Nat.add_sub_of_le hcp]) (by
  intro k x q y hk hy;have hx:=y3 (dx hk);subst hx;have hkl:k < N:=by have:=(bX.1 hk).1;simpa using this
  have hq:q < P.cellsOf e:=by rw[<-hzl];exact(bX.1 hy).1
  obtain⟨y0,hy0,hyi⟩:=hm2 q y hy;obtain⟨cu,hcu,hvr⟩:=hcl q y0 hy0;obtain⟨p1,p2,_⟩:=oE hyi hvr;refine⟨p2,cu,?_,p1⟩
  have hlt2:k * P.cellsOf e+q < N * zv.cells.size:=by
   have:(k+1) * P.cellsOf e<=N * P.cellsOf e:=dQ _ (by omega);rw[ml]at this;rw[hzs];omega
  show(#[]++Builtin.zeroCells zv.cells N++Builtin.zeroCells zv.cells (gv w N 0 e - N))[k * P.cellsOf e+q]? = aA cu;rw[Array.empty_append,K6 (by rw[size_zeroCells];exact hlt2)];unfold Builtin.zeroCells;rw[Fw,K7,aU hlt2];simp only[du]
  have hmod:(k * P.cellsOf e+q) % zv.cells.size=q:=by
   rw[hzs,sg,Lu,FQ hq]
  rw[hmod];have hqs:q < zv.cells.size:=by rw[hzs];exact hq
  rw[getElem!_pos zv.cells q hqs];rw[gH hqs]at hcu;exact hcu)
 rw[Lp]at hp;exact⟨_,_,hrun,hp⟩
theorem aaY{v x:V}{u:aR}(h:ko v=aA x)(hv:VR Z w j v u):VR Z w j0 x u:=by
 cases v with
 |agg cs =>
  simp only[ko,omi]at h;obtain⟨ds,hd,rfl⟩:=h;cases hv;rename_i us hl hh;obtain⟨m1,m2⟩:=kZ hd;refine .agg (m1.trans hl) fun i c u hc hu=>?_
  obtain⟨c0,h0,hi⟩:=m2 i c hc;exact(oE hi (hh i c0 u h0 hu)).1
 |_=>exact(oE (by simpa[ko]using h) hv).1
theorem ab9{t:aO}{v v':V}{u:aR}(h:Iz P t v=aA v')(hv:VR Z w j v u):∃r,(Instr.makeInterface t u).run P w = .ok r w/\VR Z w j v' r:=by
 unfold Iz at h;cases hu:P.underlying t with
 |none=>simp[hu]at h
 |some d =>
  have key:(ko v).map (.ifc t)=aA v'->VR Z w j v' (.iface t u):=fun h=>by
   obtain⟨x,hx,rfl⟩:=omi.1 h;exact .ifc (aaY hx hv)
  cases d<;>simp only[hu]at h<;>first|(cases h;done)|exact⟨_,by simp[Instr.makeInterface,dS hu],key h⟩
theorem Us{t:aO}{v:V}(h:wo P t=aA v):∃z,(zeroValue t).run P w = .ok z w/\VR Z w j v (.tuple #[z,.bool aD]):=by
 obtain⟨z,hz,rfl⟩:=omi.1 h;obtain⟨i,zv,hi,hzz,hv,_⟩:=uo (Z:=Z) (w:=w) (j:=j) hz;refine⟨zv,by simp[zeroValue,gY,hi,hzz],.tup (us:=[zv,.bool aD]) rfl fun k c u hc hu=>?_⟩
 match k with
 |0=>simp at hc hu;subst hc hu;exact hv
 |1=>simp at hc hu;subst hc hu;exact .bool
 |k+2=>simp at hc
theorem agP{t s:aO}{ok:Bool}{v v':V}{u:aR}(h:yQ P t ok v=aA v')(hv:VR Z w j v u):∃r,(Instr.typeAssert u s t ok).run P w = .ok r w/\VR Z w j v' r:=by
 unfold yQ at h;cases hu:P.underlying t with
 |none=>simp[hu]at h
 |some d =>
  cases d<;>simp only[hu]at h<;>first|(cases h;done)|skip
  all_goals
   cases v<;>simp only[Ce]at h<;>first|(cases h;done)|skip
   ·cases hv;cases ok
    ·cases h
    ·obtain⟨z,hz,hvz⟩:=Us (Z:=Z) (w:=w) (j:=j) (by simpa using h);exact⟨_,by simp[Instr.typeAssert,dS hu,hz],hvz⟩
   ·rename_i t' x;cases hv;rename_i u hx
    by_cases e:t'=t
    ·subst e;rw[aU rfl]at h;cases h;cases ok
     ·exact⟨_,by simp[Instr.typeAssert,dS hu],hx.up j⟩
     ·refine⟨_,by simp[Instr.typeAssert,dS hu],.tup (us:=[u,.bool aC]) rfl fun k c u hc hu=>?_⟩
      match k with
      |0=>simp at hc hu;subst hc hu;exact hx.up j
      |1=>simp at hc hu;subst hc hu;exact .bool
      |k+2=>simp at hc
    ·rw[aY e]at h;cases ok
     ·cases h
     ·obtain⟨z,hz,hvz⟩:=Us (Z:=Z) (w:=w) (j:=j) (by simpa using h);exact⟨_,by simp[Instr.typeAssert,dS hu,hz,e],hvz⟩
end
set_option linter.unusedVariables false
section
variable {P:bu}{Z Z':Zs}{w w':be}{j j':J}{mem mem':List O}
def mb(j:J)(id:Nat):Nat:=match (j id).bind cE.start with|some r=>r.2|none=>0
def jk(P:bu)(j:J)(mem:List O)(id:Nat):Nat :=
 match mem[id]? with
 |some (.row t els _)=>mb j id+els.length * P.cellsOf t
 |some (.box t _ _)=>P.cellsOf t
 |_=>0
def Fz(P:bu)(j:J)(mem:List O)(ids:List Nat):Nat->Nat->Prop:=fun g o=>∃id,id∈ids/\dj j id=aA g/\mb j id<=o/\o < jk P j mem id
def dV(A:Zs)(B:Nat->Nat->Prop):Zs:={ A with z:=fun g o=>A g o∨B g o }
theorem bO.or(A:Zs)(B:Nat->Nat->Prop)(w:be):bO A w (dV A B) w:=.of fun _ _ h=>⟨.inl h,rfl,rfl⟩
theorem QA(mem:List O)(i k:Nat):jk P j (freeze mem i) k=jk P j mem k:=by
 unfold freeze;split
 ·rename_i t els fz hm;have bd:i < mem.length:=(bX.1 hm).1;unfold jk;grind
 ·rename_i t v fz hm;have bd:i < mem.length:=(bX.1 hm).1;unfold jk;grind
 ·rfl
theorem pS(s:SR P Z w j mem){id g o:Nat}(hb:dj j id=aA g)(ho:mb j id<=o/\o < jk P j mem id):bM Z j mem g:=by
 have ho:=ho.2;unfold jk at ho;cases hm:mem[id]? with
 |none=>grind
 |some x =>
  cases x with
  |dead=>grind
  |map es=>grind
  |arena t els=>grind
  |marena t ms=>grind
  |row t els fz=>exact⟨id,_,hm,rfl,hb⟩
  |box t v fz=>exact⟨id,_,hm,rfl,hb⟩
theorem aat(s:SR P Z w j mem)(i:Nat):SR P (dV Z (Fz P j mem [i])) w j (freeze mem i)/\(∀g,bM Z j (freeze mem i) g↔bM Z j mem g):=by
 have hin:∀g o,dV Z (Fz P j mem [i]) g o->g < w.heap.size:=by
  intro g o h;rcases h with h|⟨id,hid,hb,ho⟩
  ·exact s.zin g o h
  ·exact bM.lt s (pS s hb ho)
 have hne:∀g,dj j i≠aA g->w.heap[g]? = w.heap[g]?/\∀o,dV Z (Fz P j mem [i]) g o↔Z g o:=fun g hg=>⟨rfl,fun o=>⟨fun h=>h.resolve_right fun⟨id,hid,hb,_⟩=>by
  grind,.inl⟩⟩
 have live:∀(o o':O),mem[i]? = aA o->o.live=aC->o'.live=aC->o.ar=aF->o'.ar=aF->∀g,bM Z j (mem.set i o') g↔bM Z j mem g:=by
  intro o o' hm hl hl' har har' g;refine⟨fun h=>h.set hm (fun _=>hl) har har',?_⟩;rintro⟨k,x,hx,hlx,hb⟩;have bd:i < mem.length:=(bX.1 hm).1
  by_cases e:i=k
  ·subst e;rw[hm]at hx;cases hx;exact⟨i,o',by grind,hl',(bQ.plain har').2 ((bQ.plain har).1 hb)⟩
  ·exact⟨k,x,by grind,hlx,hb⟩
 unfold freeze;split
 ·rename_i t els fz hm;refine⟨s.set hm (fun _=>rfl) (bO.or _ _ _) hne hin (fun h=>by cases h) ?_,live _ _ hm rfl rfl rfl rfl⟩;obtain⟨h,hh,h1,h2,h3,h4,h5⟩:=s.obj i _ hm;refine⟨h,hh,h1,h2,c7 _,h4,?_⟩;rcases h5 with h5|⟨g,b,c,us,hu,hlc,hcm,hg,hsz,hcells,hz1,hz2⟩
  ·grind
  ·have hbk:dj j i=aA g:=by cases h;simp at hu;subst hu;simp[dj,hh,cE.blk]
   have hof:mb j i=b:=by cases h;simp at hu;subst hu;simp[mb,hh,cE.start]
   have hol:jk P j mem i=b+els.length * h.sz:=by simp[jk,hof,hm,h1]
   refine .inr ⟨g,b,c,us,hu,hlc,hcm,hg,hsz,fun k x hk=>(hcells k x hk).mono (bO.or _ _ _) (bE.refl _) rfl,fun o ho=>?_,fun o ho=>.inr ⟨i,by simp,hbk,by grind,by grind⟩⟩;rcases ho with ho|⟨id,hid,_,ho⟩
   ·have:=hz1 o ho;have:fz * h.sz<=els.length * h.sz:=dQ _ h3;omega
   grind
 ·rename_i t v fz hm;refine⟨s.set hm (fun _=>rfl) (bO.or _ _ _) hne hin (fun h=>by cases h) ?_,live _ _ hm rfl rfl rfl rfl⟩;obtain⟨g,us,h1,h2,h3,h4,h5,h6,h7⟩:=s.obj i _ hm;have hol:jk P j mem i=P.cellsOf t:=by simp[jk,hm]
  exact⟨g,us,h1,h2,h3,h4,h5.mono (bO.or _ _ _) (bE.refl _) rfl,fun _ _=>rfl,fun _ o ho=>.inr ⟨i,by simp,by simp[dj,h1,cE.blk],by simp[mb,h1,cE.start],by omega⟩⟩
 ·rename_i h1 h2;refine⟨s.world (bO.or _ _ _) (fun g _=>⟨rfl,fun o=>⟨fun h=>h.resolve_right fun⟨id,hid,hb,ho⟩=>?_,.inl⟩⟩) hin,fun g=>Iff.rfl⟩;simp at hid;subst hid;have ho:=ho.2;unfold jk at ho;grind
theorem ve:∀(ids:List Nat) (Z:Zs) (mem:List O),SR P Z w j mem->SR P (dV Z (Fz P j mem ids)) w j (freezeAll ids mem)/\(∀g,bM Z j (freezeAll ids mem) g↔bM Z j mem g):=by
 intro ids
 induction ids with
 |nil =>
  intro Z mem s;refine⟨s.world (bO.or _ _ _) (fun g _=>⟨rfl,fun o=>⟨fun h=>h.resolve_right fun⟨_,h,_⟩=>by grind,.inl⟩⟩) (fun g o h=>?_),fun g=>Iff.rfl⟩;rcases h with h|⟨_,h,_⟩
  ·exact s.zin g o h
  grind
 |cons i is ih =>
  intro Z mem s;obtain⟨s1,o1⟩:=aat s i;obtain⟨s2,o2⟩:=ih _ _ s1
  have e:dV (dV Z (Fz P j mem [i])) (Fz P j (freeze mem i) is)=dV Z (Fz P j mem (i::is)):=by
   show Zs.mk _ _ _=Zs.mk _ _ _;congr 1;funext g o;apply propext;constructor
   ·rintro((h|⟨id,hid,hb,ho⟩)|⟨id,hid,hb,ho⟩)
    ·grind
    ·exact .inr ⟨id,by grind,hb,ho⟩
    ·exact .inr ⟨id,by grind,hb,by rwa [QA]at ho⟩
   ·rintro(h|⟨id,hid,hb,ho⟩)
    ·exact .inl (.inl h)
    ·simp at hid;rcases hid with rfl|hid
     ·exact .inl (.inr ⟨id,by simp,hb,ho⟩)
     ·exact .inr ⟨id,hid,hb,by rwa [QA]⟩
  rw[e]at s2;exact⟨s2,fun g=>((bM.eqA rfl).symm.trans (o2 g)).trans ((bM.eqA rfl).trans (o1 g))⟩
theorem KL{v v':V}(h:f9 mem v=aA v'):v'.one=aC/\v.one=true:=by
 cases v<;>simp[f9]at h
 all_goals first
  |(subst h;exact⟨rfl,rfl⟩)
  |(obtain⟨_,_,rfl⟩:=h;exact⟨rfl,rfl⟩)
  |(obtain⟨_,rfl⟩:=h;exact⟨rfl,rfl⟩)
theorem TA(s:SR P Z w j mem){id off len:Nat}{xs:List V}{u:aR}{ids:List Nat}(he:dy mem (.win id off len)=aA xs)(hi:id∈ids)(hv:VR Z w j (.win id off len) u):VR (dV Z (Fz P j mem ids)) w j0 (.sl xs) u:=by
 have hz:bO Z w (dV Z (Fz P j mem ids)) w:=bO.or _ _ _;have he0:=he;obtain⟨A,c,rfl,hel⟩:=uU s he hv;have hlc:=KJ s he hv;rcases hel with rfl|⟨g,b,sz,rfl,hsz,hcl⟩
 ·exact .sl0
 ·simp only[dy]at he;cases hm:mem[id]? with
  |none=>grind
  |some o =>
   cases o<;>simp[hm]at he;obtain⟨hle,rfl⟩:=he;rename_i t els fz;obtain⟨hn,hh,h1,h2,h3,h4,h5⟩:=s.obj id _ hm;generalize hxs:(els.drop off).take len=xs at *
   generalize hU:Value.slice (aA ⟨g,b,aF⟩) xs.length c=U at hv;cases hv with
   |win hj hnn hlc' _ ha =>
    cases hU;rw[hj]at hh;cases hh;refine VR.slMk hlc hsz fun k x hk=>⟨(hcl k x hk).1,fun i hi'=>?_,(hcl k x hk).2.mono hz (bE.refl _) rfl⟩
    have hkl:k < xs.length:=(bX.1 hk).1;obtain⟨g0,b0,o0,hA,hA',_,ho0⟩:=ha.resolve_left (fun h=>by grind);have ho0:=ho0 (by omega);subst ho0;simp at hA';obtain⟨rfl,rfl⟩:=hA';subst hA;have hx:=h4 x (by grind);simp only at hx h1;have e1:sz=P.cellsOf t:=by grind
    rcases h5 with⟨hu,_⟩|⟨g',b',c',us,hu,_⟩
    ·grind
    ·simp at hu;obtain⟨⟨rfl,rfl⟩,hnl,_⟩:=hu;have hof:mb j id=b0:=by simp[mb,hj,cE.start]
     refine .inr ⟨id,hi,by simp[dj,hj,cE.blk],by omega,?_⟩;have:jk P j mem id=b0+els.length * sz:=by simp[jk,hof,hm,e1]
     rw[this,h1,<-e1];have h8:(off+k+1) * sz<=els.length * sz:=dQ _ (by omega);grind
theorem t5(s:SR P Z w j mem){v v':V}{u:aR}{ids:List Nat}(h:f9 mem v=aA v')(hi:∀i∈jb v,i∈ids)(hv:VR Z w j v u):VR (dV Z (Fz P j mem ids)) w j0 v' u:=by
 have hz:bO Z w (dV Z (Fz P j mem ids)) w:=bO.or _ _ _;cases v<;>simp only[f9]at h
 case bool=>cases h;cases hv;exact .bool
 case int=>cases h;cases hv;exact .int
 case str=>cases h;exact(hv.mono hz (bE.refl _)).flat rfl j0
 case nilP=>cases h;cases hv;exact .nilP
 case nilF=>cases h;cases hv;exact .nilF
 case nilM=>cases h;cases hv;exact .nilM
 case nilI=>cases h;cases hv;exact .nilI
 case ifc=>cases h;cases hv;rename_i hx;exact .ifc (hx.mono hz (bE.refl _))
 case hp=>cases h;cases hv;rename_i hg;exact .hp hg
 case hm=>cases h;cases hv;rename_i hg;exact .hm hg
 case nilS=>cases h;cases hv;exact .sl0
 case sl=>cases h;exact(hv.mono hz (bE.refl _)).down j0
 case lit=>cases h;exact(hv.litSl.mono hz (bE.refl _)).down j0
 case ref x off =>
  cases h;obtain⟨g,b,rfl,h1,h2⟩:=hv.refInv;exact VR.refMk (fun i hi=>.inl (h1 i hi)) (h2.mono hz (bE.refl _) rfl)
 case fn f caps =>
  split at h
  ·rename_i hc;cases h;have:caps=[]:=by simpa using hc
   subst this;cases hv with
   |fn hl hh=>exact .fn hl fun i c u hc=>by simp at hc
  ·cases h
 case own id =>
  cases he:dy mem (.own id)with
  |none=>simp[he]at h
  |some els =>
   simp[he]at h;subst h;obtain⟨A,c,rfl,hel⟩:=uU s he hv;have hlc:=KJ s he hv;rcases hel with rfl|⟨g,b,sz,rfl,hsz,hcl⟩
   ·exact .sl0
   ·refine VR.slMk hlc hsz fun k x hk=>⟨(hcl k x hk).1,fun i hi'=>.inr ⟨id,hi id (by simp[jb]),?_,?_⟩,(hcl k x hk).2.mono hz (bE.refl _) rfl⟩
    ·cases hv with
     |own hj=>simp[dj,hj,cE.blk]
    ·simp only[dy]at he;cases hm:mem[id]? with
     |none=>simp[hm]at he
     |some o =>
      cases o<;>simp[hm]at he;subst he;rename_i t els fz;obtain⟨hn,hh,h1,h2,h3,h4,h5⟩:=s.obj id _ hm;have hx:=h4 x (dx hk);have e1:sz=P.cellsOf t:=by rw[<-(hcl k x hk).1,hx,h1]
      rcases h5 with⟨_,he⟩|⟨g',b',c',us,hu,_⟩
      ·subst he;simp at hk
      ·cases hv with
       |own hj =>
        rw[hj]at hh;cases hh;simp at hu;obtain⟨⟨rfl,rfl⟩,_⟩:=hu;have hkl:k < els.length:=(bX.1 hk).1;have:(k+1) * sz<=els.length * sz:=dQ _ hkl;rw[ml]at this;have hof:mb j id=b:=by simp[mb,hj,cE.start]
        have:jk P j mem id=b+els.length * sz:=by simp[jk,hof,hm,e1]
        omega
 case win id off len =>
  cases he:dy mem (.win id off len)with
  |none=>simp[he]at h
  |some xs =>
   simp[he]at h;subst h;exact TA s he (hi id (by simp[jb])) hv
 case tail id off =>
  cases he:dy mem (.tail id off)with
  |none=>simp[he]at h
  |some xs =>
   simp[he]at h;subst h;have he0:=he;simp only[dy]at he;cases hm:mem[id]? with
   |none=>simp[hm]at he
   |some o =>
    cases o<;>simp[hm]at he;subst he;obtain⟨h1,h2⟩:=yN s hm hv;exact TA s (TS hm h1) (hi id (by simp[jb])) h2
 all_goals (cases h)
theorem af4{mem:List O}{Z1:Zs}{cs ds:List V}(hm:cC (f9 mem) cs=aA ds)(key:∀(i:Nat) (c d:V) (u:aR),cs[i]? = aA c->f9 mem c=aA d->VR Z w j c u->VR Z1 w j0 d u){us:Array aR}(hr:LR Z w j cs us):LR Z1 w j0 ds us:=by
 obtain⟨hl,hg⟩:=kZ hm;refine⟨by rw[hr.1,hl],fun i d hd=>?_⟩;obtain⟨c,hc,hs⟩:=hg i d hd;obtain⟨u,hu,hv⟩:=hr.2 i c hc;grind
theorem I7(s:SR P Z w j mem){id k off:Nat}{x:V}{off':Nat}{u:aR}{ids:List Nat}(hl:f7 mem (.ptr id k off)=aA (x,off'))(hid:id∈ids)(hv:VR Z w j (.ptr id k off) u) :
  ∃g b,u = .pointer (aA ⟨g,b+off',aF⟩)/\ge Z w j g b x.cells/\∀i,i < x.cells.length->dV Z (Fz P j mem ids) g (b+i):=by
 cases hv with
 |ptr hj hs =>
  rename_i g b0 hn;simp only[f7]at hl;cases hm:mem[id]? with
  |none=>grind
  |some ob =>
   have hO:=s.obj id ob hm;cases ob with
   |dead=>grind
   |map es=>grind
   |arena t els=>grind
   |marena t ms=>grind
   |row t els fz =>
    simp only[hm]at hl;obtain⟨hn',hh,h1,h2,h3,h4,h5⟩:=hO;rw[hj]at hh;cases hh;cases hk:els[k]? with
    |none=>grind
    |some y =>
     simp[hk]at hl;obtain⟨rfl,rfl⟩:=hl;have hkl:k < els.length:=(bX.1 hk).1;rcases h5 with⟨_,he⟩|⟨g',b',c,us,hu,_,_,_,_,hcells,_⟩
     ·grind
     ·have e:(g',b')=(g,b0):=by cases hn;simp at hu;subst hu;simpa[cE.start]using hs
      cases e
      refine⟨g,b0+k * hn.sz,by grind,(hcells k y hk).mono (bO.refl _ _) (bE.zero _) rfl,fun i hi=>.inr ⟨id,hid,by cases hn;simp at hu;subst hu;simp[dj,hj,cE.blk],by
       have:mb j id=b0:=by simp[mb,hj,hs]
       omega,?_⟩⟩
      have hy:=h4 y (dx hk);have:jk P j mem id=b0+els.length * hn.sz:=by simp[jk,mb,hj,hs,hm,h1]
      rw[this];have h8:(k+1) * hn.sz<=els.length * hn.sz:=dQ _ hkl;grind
   |box t v fz =>
    simp only[hm]at hl
    by_cases hk:k=0
    ·simp[hk]at hl;obtain⟨rfl,rfl⟩:=hl;obtain⟨g',us,h1,h2,h3,h4,h5,_⟩:=hO;rw[hj]at h1;cases h1;simp[cE.start]at hs;obtain⟨rfl,rfl⟩:=hs;subst hk;refine⟨g',0,by simp,h5,fun i hi=>.inr ⟨id,hid,by simp[dj,hj,cE.blk],by simp[mb,hj,cE.start],?_⟩⟩;have:jk P j mem id=P.cellsOf t:=by simp[jk,hm]
     omega
    grind
theorem Ba(s:SR P Z w j mem){v v':V}{u:aR}{ids:List Nat}(h:iy mem v=aA v')(hi:∀i∈iF mem v,i∈ids)(hv:VR Z w j v u):VR (dV Z (Fz P j mem ids)) w j0 v' u:=by
 have hz:bO Z w (dV Z (Fz P j mem ids)) w:=bO.or _ _ _;cases v with
 |agg cs =>
  simp only[iy]at h;cases hm:cC (f9 mem) cs with
  |none=>grind
  |some ds =>
   simp[hm]at h;subst h;obtain⟨us,rfl,hr⟩:=hv.aggInv;refine(af4 hm (fun i c d u hc hs hvv=>t5 s hs (fun k hk=>hi k ?_) hvv) hr).aggMk;simp only[iF,jN];grind
 |ptr id k off =>
  simp only[iy]at h;cases hl:f7 mem (.ptr id k off)with
  |none=>grind
  |some r =>
   obtain⟨x,off'⟩:=r;simp only[hl,bk]at h;obtain⟨g,b,rfl,hc,hfz⟩:=I7 s hl (hi id (by simp[iF])) hv
   have sub:∀(y:V) (i:Nat),x.cells[i]? = aA y->∀(n:Nat),n∈jb y->(∃y',f9 mem y=aA y')->n∈ids:=by
    intro y i hy n hn hsn;refine hi n ?_;simp only[f7]at hl;cases hm:mem[id]? with
    |none=>grind
    |some ob =>
     cases ob with
     |dead=>grind
     |map es=>grind
     |arena t els=>grind
     |marena t ms=>grind
     |row t els fz =>
      exfalso;simp only[hm]at hl;cases hk:els[k]? with
      |none=>grind
      |some z =>
       simp[hk]at hl;obtain⟨rfl,rfl⟩:=hl;obtain⟨hn',hh,h1,h2,h3,h4,h5⟩:=s.obj id _ hm;rcases h5 with⟨_,he⟩|⟨g',b',c,us,hu,_,_,_,_,hcells,_⟩
       ·grind
       ·obtain⟨_,u0,_,hv0⟩:=hcells k z hk i y hy;cases y<;>simp[jb]at hn
        ·cases hv0 with
         |own hj=>cases hj
        ·cases hv0 with
         |win hj _ _ _=>cases hj
        ·cases hv0 with
         |tail hj _ _=>cases hj
     |box t v fz =>
      simp only[hm]at hl
      by_cases hk:k=0
      ·simp[hk]at hl;obtain⟨rfl,rfl⟩:=hl;simp only[iF,hm,dE,jN];grind
      grind
   have fin:∀(x':V),x'.cells.length=x.cells.length->(∀(i:Nat) (d:V),x'.cells[i]? = aA d->∃c,x.cells[i]? = aA c/\f9 mem c=aA d)->VR (dV Z (Fz P j mem ids)) w j0 (.ref x' off') (.pointer (aA ⟨g,b+off',aF⟩)):=by
    intro x' hlen hcc;refine VR.refMk (fun i hi'=>hfz i (by omega)) (fun i d hd=>?_);obtain⟨c,hcx,hs⟩:=hcc i d hd;obtain⟨_,u0,hu0,hv0⟩:=hc i c hcx;exact⟨(KL hs).1,u0,hu0,t5 s hs (fun n hn=>sub c i hcx n hn ⟨d,hs⟩) hv0⟩
   cases x with
   |agg cs =>
    simp only at h;cases hm:cC (f9 mem) cs with
    |none=>grind
    |some ds =>
     simp[hm]at h;subst h;obtain⟨hl',hg⟩:=kZ hm;exact fin (.agg ds) hl' hg
   |_ =>
    simp only at h;revert h;generalize hx0:f9 mem _=sx;intro h;cases sx with
    |none=>grind
    |some y =>
     simp at h;subst h;obtain⟨o1,o2⟩:=KL hx0;refine fin y (by rw[lS o1,lS o2];rfl) (fun i d hd=>?_);rw[lS o1]at hd;cases i with
     |zero=>simp at hd;subst hd;exact⟨_,by rw[lS o2];rfl,hx0⟩
     |succ i=>grind
 |_=>exact t5 s (by simpa[iy]using h) (by simpa[iF]using hi) hv
theorem KN(s:SR P Z w j mem){v v':V}{u:aR}{ids:List Nat}(h:k9 mem v=aA v')(hi:∀i∈kR mem v,i∈ids)(hv:VR Z w j v u):VR (dV Z (Fz P j mem ids)) w j0 v' u:=by
 cases v with
 |fn f caps =>
  simp only[k9]at h;cases hm:cC (iy mem) caps with
  |none=>grind
  |some ds =>
   simp[hm]at h;subst h;cases hv with
   |fn hl hh =>
    obtain⟨hl',hg⟩:=kZ hm;refine .fn (by grind) fun i d u hd hu=>?_
    obtain⟨c,hc,hs⟩:=hg i d hd;refine Ba s hs (fun n hn=>hi n ?_) (hh i c u hc hu);simp only[kR,jN];grind
 |_=>exact Ba s (by simpa[k9]using h) (by simpa[kR]using hi) hv
theorem Ua{v:V}{u:aR}(h:VR Z w j v u)(ho:v.one=aC):VR Z w j0 (oT v) u/\(oT v).one=true:=by
 unfold oT;cases hf:v.flat1 with
 |true=>exact⟨h.flat hf j0,ho⟩
 |false=>exact⟨.unk (h.oneCell ho),rfl⟩
theorem agT(s:SR P Z w j mem){ids:List Nat}{id k off:Nat}{r:V × Nat}{u:aR}(hl:f7 mem (.ptr id k off)=aA r)(hi:id∈ids)(hv:VR Z w j (.ptr id k off) u):VR (dV Z (Fz P j mem ids)) w j0 (Ub r) u:=by
 have hz:bO Z w (dV Z (Fz P j mem ids)) w:=bO.or _ _ _;obtain⟨x,off'⟩:=r;obtain⟨g,b,rfl,hc,hfz⟩:=I7 s hl hi hv
 have cell:∀(i:Nat) (y:V),x.cells[i]? = aA y->∃u,w.cell? ⟨g,b+i,aF⟩=aA u/\VR (dV Z (Fz P j mem ids)) w j0 (oT y) u/\(oT y).one=true:=fun i y hy=>by
  obtain⟨h1,u0,hu0,hv0⟩:=hc i y hy;obtain⟨q1,q2⟩:=Ua (hv0.mono hz (bE.refl _)) h1;exact⟨u0,hu0,q1,q2⟩
 have fin:∀x':V,x'.cells=x.cells.map oT->VR (dV Z (Fz P j mem ids)) w j0 (.ref x' off') (.pointer (aA ⟨g,b+off',aF⟩)):=fun x' e=>by
  refine VR.refMk (fun i hi'=>hfz i (by rw[e]at hi';simpa using hi')) (fun i d hd=>?_);rw[e,fW,omi]at hd;obtain⟨c,hcx,rfl⟩:=hd;obtain⟨u0,h0,h1,h2⟩:=cell i c hcx;exact⟨h2,u0,h0,h1⟩
 have one:x.cells=[x]->(oT x).cells=x.cells.map oT:=fun e=>by
  obtain⟨_,_,_,h2⟩:=cell 0 x (by rw[e];rfl);rw[lS h2,e];rfl
 cases x with
 |agg cs=>exact fin _ rfl
 |_=>exact fin _ (one rfl)
theorem agS(s:SR P Z w j mem){ids:List Nat}{v:V}{u:aR}(hi:∀i∈I8 v,i∈ids)(hv:VR Z w j v u)(ho:v.one=aC):VR (dV Z (Fz P j mem ids)) w j0 (qm mem v) u/\(qm mem v).one=true:=by
 have hz:bO Z w (dV Z (Fz P j mem ids)) w:=bO.or _ _ _;have fl:=Ua (hv.mono hz (bE.refl _)) ho;cases v with
 |ptr id k off =>
  simp only[qm];cases hl:f7 mem (.ptr id k off)with
  |none=>exact⟨.unk ((hv.mono hz (bE.refl _)).oneCell ho),rfl⟩
  |some r=>exact⟨agT s hl (hi id (by simp[I8])) hv,rfl⟩
 |_=>exact fl
theorem af3(s:SR P Z w j mem){q:Bool}{v v':V}{u:aR}{ids:List Nat}(h:v7 q mem v=aA v')(hi:∀i∈pI q mem v,i∈ids)(hv:VR Z w j v u):VR (dV Z (Fz P j mem ids)) w j0 v' u:=by
 have hz:bO Z w (dV Z (Fz P j mem ids)) w:=bO.or _ _ _;cases q with
 |false=>exact Ba s h hi hv
 |true =>
  have fl:(if v.flat1 then aA v else aF)=aA v'->VR (dV Z (Fz P j mem ids)) w j0 v' u:=fun h=>by
   split at h
   ·rename_i hf;cases h;exact(hv.mono hz (bE.refl _)).flat hf j0
   ·cases h
  cases v with
  |ptr id k off =>
   simp only[v7,aZ]at h;cases hm:mem[id]? with
   |none=>simp[hm]at h
   |some ob =>
   cases ob<;>simp only[hm]at h<;>first|(cases h;done)|skip;rename_i tb vb fb;simp only[omi]at h;obtain⟨⟨x,off'⟩,hl,rfl⟩:=h
   have hx:x=vb:=by
    simp only[f7,hm]at hl;split at hl<;>cases hl;rfl
   subst hx;obtain⟨g,b,rfl,hc,hfz⟩:=I7 s hl (hi id (by simp[pI])) hv
   have cell:∀(i:Nat) (y:V),x.cells[i]? = aA y->∃u,w.cell? ⟨g,b+i,aF⟩=aA u/\VR (dV Z (Fz P j mem ids)) w j0 (qm mem y) u/\(qm mem y).one=true:=fun i y hy=>by
    obtain⟨h1,u0,hu0,hv0⟩:=hc i y hy;obtain⟨q1,q2⟩:=agS s (ids:=ids) (fun n hn=>hi n (by simp only[pI,aZ,hm,dE,jN];exact .inr ⟨y,dx hy,hn⟩)) hv0 h1;exact⟨u0,hu0,q1,q2⟩
   have fin:∀x':V,x'.cells=x.cells.map (qm mem)->VR (dV Z (Fz P j mem ids)) w j0 (.ref x' off') (.pointer (aA ⟨g,b+off',aF⟩)):=fun x' e=>by
    refine VR.refMk (fun i hi'=>hfz i (by rw[e]at hi';simpa using hi')) (fun i d hd=>?_);rw[e,fW,omi]at hd;obtain⟨c,hcx,rfl⟩:=hd;obtain⟨u0,h0,h1,h2⟩:=cell i c hcx;exact⟨h2,u0,h0,h1⟩
   have one:x.cells=[x]->(qm mem x).cells=x.cells.map (qm mem):=fun e=>by
    obtain⟨_,_,_,h2⟩:=cell 0 x (by rw[e];rfl);rw[lS h2,e];rfl
   cases x with
   |agg cs=>exact fin _ rfl
   |_=>exact fin _ (one rfl)
  |_=>exact fl (by simpa[v7]using h)
theorem af5(s:SR P Z w j mem){q:Bool}{f:bL}{caps as0:List V}{u:aR}(h:cC (v7 q mem) caps=aA as0)(hv:VR Z w j (.fn f caps) u):VR (dV Z (Fz P j mem (caps.flatMap (pI q mem)))) w j0 (.fn f as0) u:=by
 cases hv with
 |fn hl hh =>
  obtain⟨hl',hg⟩:=kZ h;refine .fn (by rw[hl',hl]) fun i d u hd hu=>?_
  obtain⟨c,hc,hs⟩:=hg i d hd;refine af3 s hs (fun n hn=>?_) (hh i c u hc hu);simp only[jN];exact⟨c,dx hc,hn⟩
def gB(Z:Zs)(w:be)(j:J)(vs:List V)(us:List aR):Prop:=vs.length=us.length/\∀(i:Nat) (v:V) (u:aR),vs[i]? = aA v->us[i]? = aA u->VR Z w j v u
theorem af6(s:SR P Z w j mem){vs vs':List V}{us:List aR}(h:cC (k9 mem) vs=aA vs')(hv:gB Z w j vs us):gB (dV Z (Fz P j mem (vs.flatMap (kR mem)))) w j0 vs' us:=by
 obtain⟨hl,hg⟩:=kZ h;refine⟨by rw[hl];exact hv.1,fun i d u hd hu=>?_⟩;obtain⟨c,hc,hs⟩:=hg i d hd;refine KN s hs (fun n hn=>?_) (hv.2 i c u hc hu);grind
structure sn(Z:Zs)(w:be)(Z':Zs)(w':be):Prop where
 os:w'.os=w.os
 tape:w'.tape=w.tape
 output:w'.output=w.output
 size:w.heap.size<=w'.heap.size
 keep:∀g,g < w.heap.size->w'.heap[g]? = w.heap[g]?/\∀o,Z' g o↔Z g o
 zin:∀g o,Z' g o->g < w'.heap.size
 a:Z'.a=Z.a
 i:Z'.i=Z.i
def R1(P:bu)(Z:Zs)(w0 w:be)(v:V)(u:aR):Prop :=
 match v with
 |.fr t els=>∃A n c,u = .slice A n c/\lQ P Z w ⟨u,P.cellsOf t⟩ t els 0/\(∀x∈els,∀y∈x.cells,y.flat1=aC)/\(∀g,cE.blk ⟨u,P.cellsOf t⟩=aA g->w0.heap.size<=g/\g < w.heap.size)/\∀a,A=aA a->a.off=0
 |v=>VR Z w j0 v u
def RR(P:bu)(Z:Zs)(w0 w:be)(v:V)(u:aR):Prop :=
 match v with
 |.tup vs=>∃us:List aR,u = .tuple us.toArray/\vs.length=us.length/\∀(i:Nat) (v:V) (x:aR),vs[i]? = aA v->us[i]? = aA x->R1 P Z w0 w v x
 |v=>R1 P Z w0 w v u
def i5(P:bu)(pc:bL->List V->Option V):Prop :=
 ∀f as0 r,pc f as0=aA r->lX P f=aC->∀(Z:Zs) (w:be) (us:List aR),(∀g o,Z g o->g < w.heap.size)->gB Z w j0 as0 us ->
  Calls P f us.toArray w fun e w1=>∃u Z1,e = .returned u/\RR P Z1 w w1 r u/\sn Z w Z1 w1
def iK(P:bu)(ic:bL->List V->List O->Option (V × List O)):Prop :=
 ∀f as0 mem r mem',ic f as0 mem=aA (r,mem')->lX P f=aC->∀(Z:Zs) (w:be) (j:J) (us:List aR),SR P Z w j mem->gB Z w j as0 us ->
  Calls P f us.toArray w fun e w1=>∃u,e = .returned u/\dz P Z w j mem r mem' u w1
theorem Cb{o:Obj}(hin:∀g x,Z g x->g < w.heap.size):bO Z w Z (w.alloc o):=.of fun g x hz=>⟨hz,j7 (mM (w:=w) (w1:=w.alloc o) rfl (hin g x hz)) x⟩
theorem SR.alloc(s:SR P Z w j mem)(o:Obj):SR P Z (w.alloc o) j mem :=
 s.world (Cb s.zin) (fun g hg=>⟨mM (w:=w) (w1:=w.alloc o) rfl (bM.lt s hg),fun _=>Iff.rfl⟩) (fun g x hz=>by rw[World.size_alloc];have:=s.zin g x hz;omega)
theorem bh.alloc(s:SR P Z w j mem)(o:Obj):bh Z w j mem Z (w.alloc o) j mem :=
 ⟨rfl,rfl,rfl,by simp_all,fun g hg _=>⟨mM (w:=w) (w1:=w.alloc o) rfl hg,fun _=>Iff.rfl⟩,fun _ _ h=>h,Cb s.zin,fun _ h=>⟨h,rfl⟩⟩
end
section
variable {P:bu}{Z Z':Zs}{w w':be}{j j':J}{mem mem':List O}
def qD(ρ:Nat->Option Nat)(j j':J):Prop:=∀i k,ρ i=aA k->j' k=j i
theorem VR.ren0{ρ:Nat->Option Nat}(hr:qD ρ j j'){v:V}{u:aR}(h:VR Z w j v u):VR Z w j' (ren0 ρ v) u:=by
 cases h with
 |junk=>exact .junk
 |rest=>exact .rest
 |bool=>exact .bool
 |int=>exact .int
 |str=>exact .str
 |agg _ _=>exact .junk
 |tup hl hh =>
  rename_i cs us;simp only[Lite.ren0];split
  ·rename_i hc;have:cs=[]:=by simpa using hc
   subst this;exact .tup hl fun i c u hc=>by simp at hc
  ·exact .junk
 |nilS=>exact .nilS
 |sl0=>exact .sl0
 |sl f a b c d e=>exact .sl f a b c d e
 |lit h hk hz=>exact .lit (h.down _) hk hz
 |own hj h0 =>
  simp only[Lite.ren0];split
  ·rename_i k hk;exact .own ((hr _ _ hk).trans hj) h0
  ·exact .junk
 |win hj a b c d =>
  simp only[Lite.ren0];split
  ·rename_i k hk;exact .win ((hr _ _ hk).trans hj) a b c d
  ·exact .junk
 |tail hj hn h =>
  simp only[Lite.ren0];split
  ·rename_i k hk;cases h with
   |win hj' a b c d=>exact .tail ((hr _ _ hk).trans hj) hn (.win ((hr _ _ hk).trans hj') a b c d)
  ·exact .junk
 |ptr hj a =>
  simp only[Lite.ren0];split
  ·rename_i k hk;exact .ptr ((hr _ _ hk).trans hj) a
  ·exact .junk
 |ref f a b=>exact .ref f a b
 |fn hl hh =>
  rename_i cs us;simp only[Lite.ren0];split
  ·rename_i hc;have:cs=[]:=by simpa using hc
   subst this;exact .fn hl fun i c u hc=>by simp at hc
  ·exact .junk
 |mp hj =>
  simp only[Lite.ren0];split
  ·rename_i k hk;exact .mp ((hr _ _ hk).trans hj)
  ·exact .junk
 |nilP=>exact .nilP
 |nilF=>exact .nilF
 |nilM=>exact .nilM
 |nilI=>exact .nilI
 |unk h=>exact .junk
 |ifc h=>exact .ifc h
 |hp h=>exact .hp h
 |hm h=>exact .hm h
theorem VR.ren1{ρ:Nat->Option Nat}(hr:qD ρ j j'){v:V}{u:aR}(h:VR Z w j v u):VR Z w j' (ren1 ρ v) u:=by
 cases h with
 |fn hl hh =>
  refine .fn (by simpa using hl) fun i c u hc hu=>?_
  simp only[fW,omi]at hc;obtain⟨c0,h0,rfl⟩:=hc;exact(hh i c0 u h0 hu).ren0 hr
 |agg hl hh=>exact VR.ren0 hr (.agg hl hh)
 |tup hl hh=>exact VR.ren0 hr (.tup hl hh)
 |junk=>exact VR.ren0 hr .junk
 |rest=>exact VR.ren0 hr .rest
 |bool=>exact VR.ren0 hr .bool
 |int=>exact VR.ren0 hr .int
 |str=>exact VR.ren0 hr .str
 |nilS=>exact VR.ren0 hr .nilS
 |sl0=>exact VR.ren0 hr .sl0
 |sl f a b c d e=>exact VR.ren0 hr (.sl f a b c d e)
 |lit h hk hz=>exact VR.ren0 hr (.lit h hk hz)
 |own hj h0=>exact VR.ren0 hr (.own hj h0)
 |win hj a b c d=>exact VR.ren0 hr (.win hj a b c d)
 |tail hj hn h=>exact VR.ren0 hr (.tail hj hn h)
 |ptr hj a=>exact VR.ren0 hr (.ptr hj a)
 |ref f a b=>exact VR.ren0 hr (.ref f a b)
 |mp hj=>exact VR.ren0 hr (.mp hj)
 |nilP=>exact VR.ren0 hr .nilP
 |nilF=>exact VR.ren0 hr .nilF
 |nilM=>exact VR.ren0 hr .nilM
 |nilI=>exact VR.ren0 hr .nilI
 |unk h=>exact VR.ren0 hr (.unk h)
 |ifc h=>exact VR.ren0 hr (.ifc h)
 |hp h=>exact VR.ren0 hr (.hp h)
 |hm h=>exact VR.ren0 hr (.hm h)
theorem VR.ren2{ρ:Nat->Option Nat}(hr:qD ρ j j'){v:V}{u:aR}(h:VR Z w j v u):VR Z w j' (ren2 ρ v) u:=by
 have lst:∀{cs:List V} {us:List aR},(∀(i:Nat) (c:V) (u:aR),cs[i]? = aA c->us[i]? = aA u->VR Z w j c u)->∀(i:Nat) (c:V) (u:aR),(cs.map (Lite.ren1 ρ))[i]? = aA c->us[i]? = aA u->VR Z w j' c u:=by
  intro cs us hh i c u hc hu;simp only[fW,omi]at hc;obtain⟨c0,h0,rfl⟩:=hc;exact(hh i c0 u h0 hu).ren1 hr
 cases h with
 |agg hl hh=>exact .agg (by simpa using hl) (lst hh)
 |tup hl hh=>exact .tup (by simpa using hl) (lst hh)
 |fn hl hh=>exact .fn (by simpa using hl) (lst hh)
 |junk=>exact VR.ren1 hr .junk
 |rest=>exact VR.ren1 hr .rest
 |bool=>exact VR.ren1 hr .bool
 |int=>exact VR.ren1 hr .int
 |str=>exact VR.ren1 hr .str
 |nilS=>exact VR.ren1 hr .nilS
 |sl0=>exact VR.ren1 hr .sl0
 |sl f a b c d e=>exact VR.ren1 hr (.sl f a b c d e)
 |lit h hk hz=>exact VR.ren1 hr (.lit h hk hz)
 |own hj h0=>exact VR.ren1 hr (.own hj h0)
 |win hj a b c d=>exact VR.ren1 hr (.win hj a b c d)
 |tail hj hn h=>exact VR.ren1 hr (.tail hj hn h)
 |ptr hj a=>exact VR.ren1 hr (.ptr hj a)
 |ref f a b=>exact VR.ren1 hr (.ref f a b)
 |mp hj=>exact VR.ren1 hr (.mp hj)
 |nilP=>exact VR.ren1 hr .nilP
 |nilF=>exact VR.ren1 hr .nilF
 |nilM=>exact VR.ren1 hr .nilM
 |nilI=>exact VR.ren1 hr .nilI
 |unk h=>exact VR.ren1 hr (.unk h)
 |ifc h=>exact VR.ren1 hr (.ifc h)
 |hp h=>exact VR.ren1 hr (.hp h)
 |hm h=>exact VR.ren1 hr (.hm h)
theorem Ca{n0:Nat}:∀(is acc:List Nat),acc.Nodup->(∀i∈acc,n0<=i)->(sB n0 acc is).Nodup/\∀i∈sB n0 acc is,n0<=i:=by
 intro is
 induction is with
 |nil=>intro acc h1 h2;exact⟨h1,h2⟩
 |cons i is ih =>
  intro acc h1 h2;simp only[sB];grind
theorem Jo{n0:Nat}{mem:List O}:∀(k:Nat) (acc:List Nat),acc.Nodup->(∀i∈acc,n0<=i)->(vU n0 mem k acc).Nodup/\∀i∈vU n0 mem k acc,n0<=i:=by
 intro k
 induction k with
 |zero=>intro acc h1 h2;exact⟨h1,h2⟩
 |succ k ih =>
  intro acc h1 h2;simp only[vU];split
  ·grind
  ·obtain⟨a,b⟩:=Ca (acc.flatMap (Eb mem)) acc h1 h2;grind
theorem aaV(n0:Nat)(s:S):(Ic n0 s).Nodup/\∀i∈Ic n0 s,n0<=i:=by
 obtain⟨a,b⟩:=Ca (n0:=n0) (s.env.flatMap p9++(fK n0).flatMap fun i=>Eb s.mem i) [] FM (by simp);exact Jo _ _ a b
theorem aei{ρ:Nat->Option Nat}{v:V}:(ren2 ρ v).cells.length=v.cells.length/\∀(i:Nat) (y:V),(ren2 ρ v).cells[i]? = aA y->∃x,v.cells[i]? = aA x/\(y=ren1 ρ x∨y=ren2 ρ x):=by
 have one:∀(v v':V),v.cells=[v]->v'=ren2 ρ v->v'.cells=[v']->v'.cells.length=v.cells.length/\∀(i:Nat) (y:V),v'.cells[i]? = aA y->∃x,v.cells[i]? = aA x/\(y=ren1 ρ x∨y=ren2 ρ x):=by
  grind
 cases v with
 |agg cs =>
  refine⟨by simp[ren2,gT],fun i y hy=>?_⟩;simp only[ren2,gT,fW,omi]at hy;obtain⟨x,hx,rfl⟩:=hy;exact⟨x,hx,.inl rfl⟩
 |own id=>exact one _ _ rfl rfl (by simp only[ren2,ren1,ren0];split<;>rfl)
 |win id a b=>exact one _ _ rfl rfl (by simp only[ren2,ren1,ren0];split<;>rfl)
 |tail id a=>exact one _ _ rfl rfl (by simp only[ren2,ren1,ren0];split<;>rfl)
 |ptr id a b=>exact one _ _ rfl rfl (by simp only[ren2,ren1,ren0];split<;>rfl)
 |mp id=>exact one _ _ rfl rfl (by simp only[ren2,ren1,ren0];split<;>rfl)
 |_=>exact one _ _ rfl rfl rfl
theorem OR.ren{ρ:Nat->Option Nat}(hr:qD ρ j j'){i k:Nat}(hk:j' k=j i){o:O}(h:OR P Z w j i o)(hik:gN o=aD->k=i):OR P Z w j' k (kx ρ o):=by
 cases o with
 |dead=>exact True.intro
 |arena t els=>rw[hik rfl];exact h
 |marena t els=>rw[hik rfl];exact h
 |row t els fz=>obtain⟨hn,h1,h2⟩:=h;exact⟨hn,hk.trans h1,h2⟩
 |map es=>obtain⟨r,es',clock,h1,h2⟩:=h;exact⟨r,es',clock,hk.trans h1,h2⟩
 |box t v fz =>
  simp only[kx];split
  ·rename_i hall;obtain⟨g,us,h1,h2,h3,h4,h5,h6⟩:=h;obtain⟨r1,r2⟩:=aei (ρ:=ρ) (v:=v);refine⟨g,us,hk.trans h1,h2,by omega,h4,fun n y hy=>?_,h6⟩;obtain⟨x,hx,hyx⟩:=r2 n y hy;obtain⟨_,u,hu,hv⟩:=h5 n x hx;refine⟨eJ.1 hall y (dx hy),u,hu,?_⟩;rcases hyx with rfl|rfl
   ·exact hv.ren1 hr
   ·exact hv.ren2 hr
  ·exact True.intro
theorem OR.renD{ρ:Nat->Option Nat}(hr:qD ρ j j'){i k:Nat}(hk:j' k=j i){o:O}(h:OR P Z w j i o):OR P Z w j' k (renD ρ o):=by
 unfold Lite.renD;cases ha:gN o with
 |true=>exact h.ren hr hk (fun h=>by grind)
 |false=>exact True.intro
theorem aej{ρ:Nat->Option Nat}{o:O}(h:(kx ρ o).live=aC):(kx ρ o).ar=o.ar:=by
 cases o<;>first|rfl|skip;simp only[kx];split
 ·rfl
 ·rename_i hc;simp only[kx,aY hc]at h;cases h
theorem AK{ρ:Nat->Option Nat}{o:O}:(renD ρ o).ar=none:=by
 cases o with
 |box t v fz =>
  show(kx ρ (.box t v fz)).ar=aF;simp only[kx]
  by_cases hc:(ren2 ρ v).cells.all fq=aC
  ·rw[aU hc];rfl
  ·rw[aY hc];rfl
 |_=>rfl
theorem Rv{ρ:Nat->Option Nat}{o:O}(h:(kx ρ o).live=aC):o.live=true:=by
 cases o<;>first|rfl|exact h
theorem Ee{ρ:Nat->Option Nat}{o:O}(h:(renD ρ o).live=aC):o.live=aC/\gN o=true:=by
 unfold Lite.renD at h;cases ha:gN o with
 |true=>rw[ha]at h;exact⟨Rv h,rfl⟩
 |false=>rw[ha]at h;cases h
def gK(n0:Nat)(ids:List Nat)(j:J):J:=fun k=>if k < n0 then j k else (ids[k - n0]?).bind j
theorem Di{i:Nat}:∀{l:List Nat} {m:Nat},lB i l=aA m->l[m]? = aA i:=by
 intro l
 induction l with
 |nil=>intro m h;simp[lB]at h
 |cons x l ih =>
  intro m h;simp only[lB]at h;split at h
  ·grind
  ·simp only[omi]at h;grind
theorem Jv(n0:Nat)(ids:List Nat)(j:J):qD (rC n0 ids) j (gK n0 ids j):=by
 intro i k h;simp only[rC]at h;unfold gK;split at h
 ·grind
 ·simp only[omi]at h;obtain⟨m,hm,rfl⟩:=h;have hm':ids[m]? = aA i:=Di hm;grind
theorem T4{s:S}{n0:Nat}{ids:List Nat}(hn:n0<=s.mem.length)(hnd:ids.Nodup)(hge:∀i∈ids,n0<=i)(sr:SR P Z w j s.mem) :
  SR P Z w (gK n0 ids j) (kD n0 ids s).mem/\(∀k o,(kD n0 ids s).mem[k]? = aA o->o.live=aC->∃i o0,s.mem[i]? = aA o0/\o0.live=aC/\o.ar=o0.ar/\gK n0 ids j k=j i /\
   ((k < n0/\i=k)∨(n0<=k/\ids[k - n0]? = aA i/\o.ar=aF)))/\∀id,id < n0->gK n0 ids j id=j id:=by
 have hρ:=Jv n0 ids j;have hj:∀id,id < n0->gK n0 ids j id=j id:=fun id h=>by simp[gK,h]
 have hto:((s.mem.take n0).map (kx (rC n0 ids))).length=n0:=by grind
 have pre:∀(k:Nat) (o:O),(kD n0 ids s).mem[k]? = aA o->o.live=aC->∃i o0,s.mem[i]? = aA o0/\gK n0 ids j k=j i/\((k < n0/\i=k/\o=kx (rC n0 ids) o0)∨(n0<=k/\ids[k - n0]? = aA i/\o=renD (rC n0 ids) o0)):=by
  intro k o ho hl;simp only[kD]at ho
  by_cases hk:k < n0
  ·grind
  ·rw[eO (by omega),hto]at ho;simp only[fW,omi]at ho;obtain⟨i,hi,rfl⟩:=ho;cases hm:s.mem[i]? with
   |none=>rw[hm]at hl;simp[Lite.renD,gN,O.ar,kx,O.live]at hl
   |some o0=>exact⟨i,o0,hm,by simp[gK,hk,hi],.inr ⟨by omega,hi,by simp⟩⟩
 have pre2:∀k o,(kD n0 ids s).mem[k]? = aA o->o.live=aC->∃i o0,s.mem[i]? = aA o0/\o0.live=aC/\o.ar=o0.ar/\gK n0 ids j k=j i /\
   ((k < n0/\i=k)∨(n0<=k/\ids[k - n0]? = aA i/\o.ar=aF)):=by
  intro k o ho hl;obtain⟨i,o0,h0,hji,⟨a1,a2,rfl⟩|⟨a1,a2,rfl⟩⟩:=pre k o ho hl
  ·exact⟨i,o0,h0,Rv hl,aej hl,hji,.inl ⟨a1,a2⟩⟩
  ·obtain⟨b1,b2⟩:=Ee hl;have:o0.ar=none:=by simpa[gN]using b2
   exact⟨i,o0,h0,b1,AK.trans this.symm,hji,.inr ⟨a1,a2,AK⟩⟩
 have blk:∀{k i:Nat} {o o0:O} {g:Nat},o.ar=o0.ar->gK n0 ids j k=j i->bQ Z (gK n0 ids j) k o g->bQ Z j i o0 g:=by
  intro k i o o0 g ha hji hb;unfold bQ at hb |-
  rw[ha]at hb;cases hr:o0.ar with
  |none=>rw[hr]at hb;simpa[dj,hji]using hb
  |some r=>grind
 refine⟨⟨fun k o ho=>?_,fun k k' o o' g ho ho' hl hl' hb hb'=>?_,fun k hk=>?_,sr.zin⟩,pre2,hj⟩
 ·by_cases hl:o.live=aC
  ·obtain⟨i,o0,h0,hji,⟨a1,a2,rfl⟩|⟨a1,a2,rfl⟩⟩:=pre k o ho hl
   ·exact(sr.obj i o0 h0).ren hρ hji (fun _=>a2.symm)
   ·exact(sr.obj i o0 h0).renD hρ hji
  ·cases o<;>first|exact True.intro|(simp[O.live]at hl)
 ·obtain⟨i,o0,h0,hl0,ha,hji,hc⟩:=pre2 k o ho hl;obtain⟨i',o0',h0',hl0',ha',hji',hc'⟩:=pre2 k' o' ho' hl';have e:i=i':=sr.inj i i' o0 o0' g h0 h0' hl0 hl0' (blk ha hji hb) (blk ha' hji' hb');subst e;rcases hc with⟨a1,a2⟩|⟨a1,a2,_⟩<;>rcases hc' with⟨b1,b2⟩|⟨b1,b2,_⟩
  ·omega
  ·grind
  ·grind
  ·have bd:=(bX.1 a2).1;have hlt':=(bX.1 b2).1;have e1:=(bX.1 a2).2;have e2:=(bX.1 b2).2;have:=By.1 hnd;grind
 ·simp only[kD,eV,hto,d9]at hk;unfold gK;grind
theorem agG{n0:Nat}{ids:List Nat}{k i:Nat}{o o0:O}{g:Nat}(ha:o.ar=o0.ar)(hji:gK n0 ids j k=j i)(hb:bQ Z (gK n0 ids j) k o g):bQ Z j i o0 g:=by
 unfold bQ at hb |-
 rw[ha]at hb;cases hr:o0.ar with
 |none=>rw[hr]at hb;simpa[dj,hji]using hb
 |some r=>grind
theorem agH{jc:J}{k i:Nat}{o o0:O}{g:Nat}(ha:o.ar=o0.ar)(hji:jc k=j i)(hb:bQ Z jc k o g):bQ Z j i o0 g:=by
 unfold bQ at hb |-
 rw[ha]at hb;cases hr:o0.ar with
 |none=>rw[hr]at hb;simpa[dj,hji]using hb
 |some r=>grind
theorem z7:∀(mem:List O),dZ mem<=mem.length/\∀k,k < dZ mem->∃o,mem[k]? = aA o/\gN o=aD
 | []=>⟨c7 _,fun k h=>by simp[dZ]at h⟩
 |o::l=>by
  obtain⟨h1,h2⟩:=z7 l;cases ha:gN o with
  |true=>exact⟨by simp[dZ,ha],fun k h=>by simp[dZ,ha]at h⟩
  |false =>
   refine⟨by simpa[dZ,ha]using h1,fun k h=>?_⟩;cases k with
   |zero=>grind
   |succ k=>simpa using h2 k (by simpa[dZ,ha]using h)
theorem OP:∀(c:List O) (n:Nat),(∀k,k < n->∃o,c[k]? = aA o/\gN o=aD)->n<=dZ c
 | [],n,h=>by
  grind
 |o::l,n,h=>by
  cases n with
  |zero=>omega
  |succ n =>
   obtain⟨o',ho,hn⟩:=h 0 (by omega);simp at ho;subst ho;have:=OP l n fun k hk=>by grind
   simp only[dZ,hn,aP];omega
theorem aau(args:List V)(mem:List O):dZ mem<=dZ (iQ args mem).mem:=by
 obtain⟨f1,f2⟩:=z7 mem;refine OP _ _ fun k hk=>?_
 obtain⟨o,ho,hna⟩:=f2 k hk;refine⟨kx (rC (dZ mem) (jS args mem)) o,?_,?_⟩
 ·simp only[iQ,kD];grind
 ·cases o<;>first|exact hna|(simp[gN,O.ar]at hna)
theorem Vx(args:List V)(mem:List O):(jS args mem).Nodup/\∀i∈jS args mem,dZ mem<=i:=by
 obtain⟨a,b⟩:=Ca (n0:=dZ mem) (args.flatMap p9) [] FM (by simp);exact Jo _ _ a b
theorem Vy(rd:aO->Bool)(n0:Nat)(c m1:List O)(v:V):(wY rd n0 c m1 v).Nodup/\∀i∈wY rd n0 c m1 v,n0<=i/\oQ rd c m1 i=false:=by
 obtain⟨a,b⟩:=Ca (n0:=n0) ((fK c.length).filter (oQ rd c m1)++p9 v) [] FM (by simp);obtain⟨a,b⟩:=Jo (mem:=m1) m1.length _ a b;refine⟨a.filter _,fun i hi=>?_⟩;unfold wY at hi;rw[mW]at hi;exact⟨b i hi.1,by simpa using hi.2⟩
theorem DT(g:Nat->O->O):∀(l:List O) (i:Nat),(pT g i l).length=l.length/\∀k,(pT g i l)[k]? = (l[k]?).map fun o=>g (i+k) o
 | [],i=>⟨rfl,fun k=>by simp[pT]⟩
 |o::l,i=>by
  obtain⟨h1,h2⟩:=DT g l (i+1);refine⟨by simp[pT,h1],fun k=>?_⟩;cases k with
  |zero=>simp[pT]
  |succ k=>simp only[pT,Ll,h2 k,show i+1+k=i+(k+1) by omega]
theorem aaW{i:Nat}:∀{l:List Nat},lB i l=aF->i∉l:=by
 intro l
 induction l with
 |nil=>grind
 |cons x l ih =>
  intro h;simp only[lB]at h;split at h
  ·cases h
  ·rename_i hne;simp only[Option.map_eq_none_iff]at h;grind
theorem ac4{l:List Nat}(h:l.Nodup){a b i:Nat}(ha:l[a]? = aA i)(hb:l[b]? = aA i):a=b:=by
 have bd:=(bX.1 ha).1;have hlt':=(bX.1 hb).1;have e1:=(bX.1 ha).2;have e2:=(bX.1 hb).2;have:=By.1 h;grind
theorem VR.ren3{ρ:Nat->Option Nat}(hr:qD ρ j j'){v:V}{u:aR}(h:VR Z w j v u):VR Z w j' (ren3 ρ v) u:=by
 cases v with
 |tup vs =>
  cases h with
  |tup hl hh =>
   refine .tup (by grind) fun i c u hc hu=>?_
   simp only[fW,omi]at hc;obtain⟨c0,h0,rfl⟩:=hc;exact(hh i c0 u h0 hu).ren2 hr
 |_=>exact h.ren2 hr
theorem SR.han(s:SR P Z w j mem){k:Nat}{o:O}(hm:mem[k]? = aA o)(hl:o.live=aC)(ha:o.ar=aF):∃h,j k=aA h:=by
 have hO:=s.obj k o hm;cases o with
 |dead=>cases hl
 |row t els fz=>obtain⟨h,hh,_⟩:=hO;grind
 |box t v fz=>obtain⟨g,us,hh,_⟩:=hO;grind
 |map es=>obtain⟨r,es',c,hh,_⟩:=hO;grind
 |arena t els=>cases ha
 |marena t els=>cases ha
theorem Ml{n0:Nat}{ids:List Nat}{c:List O}{jc:J}(hn:n0<=mem.length)(hnd:ids.Nodup)(s:SR P Z w j mem)(sc:SR P Z w jc c)
  (pre:∀k o,c[k]? = aA o->o.live=aC->∃i o0,mem[i]? = aA o0/\o0.live=aC/\o.ar=o0.ar/\jc k=j i/\((k < n0/\i=k)∨(n0<=k/\ids[k - n0]? = aA i/\o.ar=aF)))
  {rd:aO->Bool} {v1:V} {m1:List O} {u:aR} {w1:be} (hp:dz P Z w jc c v1 m1 u w1) :
  dz P Z w j mem (uN rd n0 ids c mem v1 m1).1 (uN rd n0 ids c mem v1 m1).2 u w1:=by
 obtain⟨Z1,j1,q1,q2,q3,q4⟩:=hp;unfold uN;obtain⟨news,hnews⟩:∃news,news=wY rd n0 c m1 v1:=⟨_,rfl⟩
 obtain⟨nnd,nge⟩:=Vy rd n0 c m1 v1;simp only;rw[<-hnews]at nnd nge |-
 obtain⟨σ,hσd⟩:∃σ,σ=Cm rd n0 mem.length ids news c m1:=⟨_,rfl⟩
 rw[<-hσd];obtain⟨j2,hj2⟩:∃j2:J,j2=fun id=>if id < mem.length then j id else (news[id - mem.length]?).bind j1:=⟨_,rfl⟩
 have j2lo:∀id,id < mem.length->j2 id=j id:=fun id h=>by rw[hj2];simp only;rw[aU h]
 have j2hi:∀id,j2 (mem.length+id)=(news[id]?).bind j1:=fun id=>by rw[hj2];simp only;rw[aY (by omega),show mem.length+id - mem.length=id by omega]
 have stay:∀i,n0<=i->oQ rd c m1 i=aC->∃k h,ids[i - n0]? = aA k/\k < mem.length/\j k=aA h/\j1 i=aA h:=by
  intro i hi hs;unfold oQ PX at hs;rw[co]at hs;cases hci:c[i]? with
  |none=>rw[hci]at hs;simp at hs
  |some o =>
   have hl:o.live=true:=by
    rw[hci]at hs;cases o<;>first|rfl|(simp at hs)
   obtain⟨k,o0,h0,hl0,ha,hji,hcc⟩:=pre i o hci hl;rcases hcc with⟨h1,_⟩|⟨h1,h2,h3⟩
   ·omega
   ·obtain⟨h,hh⟩:=sc.han hci hl h3;exact⟨k,h,h2,(bX.1 h0).1,hji ▸ hh,q4 i h hh⟩
 have hσ:qD σ j1 j2:=by
  intro i k hk;rw[hσd]at hk;unfold Cm at hk;split at hk
  ·cases hk
  ·rename_i bd;cases hs:oQ rd c m1 i with
   |true =>
    rw[hs,aZ]at hk;obtain⟨k',h,a1,a2,a3,a4⟩:=stay i (by omega) hs;rw[hk]at a1;cases a1;rw[j2lo k a2,a3,a4]
   |false =>
    rw[hs,aP]at hk;simp only[omi]at hk;obtain⟨q,hq,rfl⟩:=hk;rw[j2hi,Di hq];rfl
 have jext:bE j j2:=fun id h hh=>by
  rw[j2lo id (Nat.lt_of_not_le fun hle=>by rw[s.out id hle]at hh;cases hh)];exact hh
 obtain⟨mem',hmem'⟩:∃mem',mem'=pT (uO rd n0 ids σ c m1) 0 mem++news.map fun i=>renD σ ((m1[i]?).getD .dead):=⟨_,rfl⟩
 rw[<-hmem'];have olen:(pT (uO rd n0 ids σ c m1) 0 mem).length=mem.length:=(DT _ mem 0).1;have mlen:mem'.length=mem.length+news.length:=by rw[hmem',eV,olen,d9]
 have blkD:∀{i k:Nat} {o1:O} {g:Nat},j2 k=j1 i->(renD σ o1).live=aC->bQ Z1 j2 k (renD σ o1) g->bQ Z1 j1 i o1 g:=by
  intro i k o1 g hji hl hb;have h1:o1.ar=none:=by simpa[gN]using(Ee hl).2
  have hb:=(bQ.plain AK).1 hb;exact(bQ.plain h1).2 (by simpa[dj,hji]using hb)
 have cls:∀k o,mem'[k]? = aA o->o.live=aC ->
   (∃i o1,m1[i]? = aA o1/\o1.live=aC/\OR P Z1 w1 j2 k o/\(∀g,bQ Z1 j2 k o g->bQ Z1 j1 i o1 g)/\(∀t n,o.ar=aA (t,n)->o1.ar=aA (t,n)) /\
    ((k < n0/\i=k)∨(n0<=k/\k < mem.length/\n0<=i/\ids[i - n0]? = aA k/\oQ rd c m1 i=aC)∨(mem.length<=k/\news[k - mem.length]? = aA i))) ∨
   (n0<=k/\k < mem.length/\k∉ids/\mem[k]? = aA o):=by
  intro k o ho hl;rw[hmem']at ho
  by_cases hk:k < mem.length
  ·rw[eK (by omega),(DT _ mem 0).2 k,fY]at ho;simp only[omi]at ho;obtain⟨o0,h0,ho⟩:=ho;unfold uO at ho;split at ho
   ·rename_i hkn;left;unfold wX at ho;cases hm1:m1[k]? with
    |none=>rw[hm1]at ho;subst ho;cases hl
    |some o1 =>
     rw[hm1]at ho;simp only at ho;cases hna:gN o1 with
     |true=>rw[hna,aZ]at ho;subst ho;cases hl
     |false =>
      rw[hna,aP]at ho;subst ho;refine⟨k,o1,hm1,hl,?_,fun g hb=>?_,fun _ _ h=>h,.inl ⟨hkn,rfl⟩⟩
      ·have:=q2.obj k o1 hm1;cases o1<;>first|exact this|(simp[gN,O.ar]at hna)
      ·unfold bQ at hb |-
       cases hr:o1.ar with
       |none=>simp[gN,hr]at hna
       |some r=>rw[hr]at hb;exact hb
   ·rename_i hkn;cases hid:lB k ids with
    |none =>
     rw[hid]at ho;subst ho;exact .inr ⟨by omega,hk,aaW hid,h0⟩
    |some q =>
     rw[hid]at ho;simp only at ho;cases hs:oQ rd c m1 (n0+q)with
     |false=>rw[hs,aP]at ho;subst ho;cases hl
     |true =>
      rw[hs,aZ]at ho;subst ho;have hq:=Di hid;obtain⟨k',h,a1,a2,a3,a4⟩:=stay (n0+q) (by omega) hs;rw[show n0+q - n0=q by omega,hq]at a1;cases a1;cases hm1:m1[n0+q]? with
      |none=>rw[hm1]at hl;simp[Lite.renD,gN,O.ar,kx,O.live]at hl
      |some o1 =>
       rw[hm1]at hl;simp only[uC]at hl |-
       have hji:j2 k=j1 (n0+q):=by rw[j2lo k hk,a3,a4]
       exact .inl ⟨n0+q,o1,hm1,(Ee hl).1,(q2.obj _ _ hm1).renD hσ hji,fun g hb=>blkD hji hl hb,(fun t n h=>by rw[AK]at h;cases h),.inr (.inl ⟨by omega,hk,by omega,by rw[show n0+q - n0=q by omega];exact hq,hs⟩)⟩
  ·rw[eO (by omega),olen]at ho;simp only[fW,omi]at ho;obtain⟨i,hi,rfl⟩:=ho;cases hm1:m1[i]? with
   |none=>rw[hm1]at hl;simp[Lite.renD,gN,O.ar,kx,O.live]at hl
   |some o1 =>
    rw[hm1]at hl;simp only[uC]at hl |-
    have hji:j2 k=j1 i:=by
     have:=j2hi (k - mem.length);rw[show mem.length+(k - mem.length)=k by omega,hi]at this;exact this
    exact .inl ⟨i,o1,hm1,(Ee hl).1,(q2.obj _ _ hm1).renD hσ hji,fun g hb=>blkD hji hl hb,(fun t n h=>by rw[AK]at h;cases h),.inr (.inr ⟨by omega,hi⟩)⟩
 have ownC:∀g,bM Z jc c g->∃i o0,mem[i]? = aA o0/\o0.live=aC/\bQ Z j i o0 g/\(i < n0∨i∈ids):=by
  rintro g ⟨k,o,ho,hl,hb⟩;obtain⟨i,o0,h0,hl0,ha,hji,hcc⟩:=pre k o ho hl;refine⟨i,o0,h0,hl0,agH ha hji hb,?_⟩;rcases hcc with⟨h1,rfl⟩|⟨_,h2,_⟩
  ·exact .inl h1
  ·exact .inr (dx h2)
 have noAc:∀t,fV t mem->fV t c:=by
  intro t hno k o n ho hr;have hl:=pm hr;obtain⟨i,o0,h0,hl0,ha,_,_⟩:=pre k o ho hl;exact hno i o0 n h0 (by rw[<-ha];exact hr)
 have besA:∀k o t n,n0<=k->mem[k]? = aA o->o.ar=aA (t,n)->Z1.a t=Z.a t:=by
  intro k o t n hk hm hr;refine(q3.ar t fun k' o' n' ho' hr'=>?_).2;obtain⟨i,o0,h0,hl0,ha,_,hcc⟩:=pre k' o' ho' (pm hr');rcases hcc with⟨h1,rfl⟩|⟨_,_,h3⟩
  ·have e1:=((s.obj k o hm).arena hr).i;have e2:=((s.obj i o0 h0).arena (ha ▸ hr')).i;rw[e1]at e2;cases e2;omega
  ·rw[h3]at hr';cases hr'
 have besB:∀k o g,n0<=k->k < mem.length->mem[k]? = aA o->bQ Z1 j2 k o g->bQ Z j k o g:=by
  intro k o g hk bd hm hb;unfold bQ at hb |-
  cases hr:o.ar with
  |none=>rw[hr]at hb;simpa[dj,j2lo k bd]using hb
  |some r =>
   obtain⟨t,n⟩:=r;rw[hr]at hb;simp only at hb |-
   rw[besA k o t n hk hm hr]at hb;exact hb
 have besN:∀k o g,n0<=k->k∉ids->mem[k]? = aA o->o.live=aC->bQ Z j k o g->¬bM Z jc c g:=by
  intro k o g hk hni hm hl hb ho;obtain⟨i,o0,h0,hl0,hb0,hi⟩:=ownC g ho;have:=s.inj k i o o0 g hm h0 hl hl0 hb hb0;subst this;rcases hi with hi|hi
  ·omega
  ·exact hni hi
 have lt:∀k o g,mem[k]? = aA o->o.live=aC->bQ Z j k o g->g < w.heap.size:=fun k o g hm hl hb=>bM.lt s ⟨k,o,hm,hl,hb⟩
 have cross:∀{k o g i o1},n0<=k->k∉ids->mem[k]? = aA o->o.live=aC->bQ Z j k o g->m1[i]? = aA o1->o1.live=aC->bQ Z1 j1 i o1 g->False:=by
  intro k o g i o1 hk hni hm hl hb hm1 hl1 hb1;exact besN k o g hk hni hm hl hb (q3.owned g (lt k o g hm hl hb) ⟨i,o1,hm1,hl1,hb1⟩)
 refine⟨Z1,j2,q1.ren3 hσ,⟨fun k o ho=>?_,fun k k' o o' g ho ho' hl hl' hb hb'=>?_,fun k hk=>?_,q2.zin⟩,⟨q3.os,q3.tape,q3.output,q3.size,fun g hg hn=>q3.keep g hg fun ho=>?_,fun g hg ho=>?_,q3.z,fun t hno=>⟨fun k o n ho hr=>?_,(q3.ar t (noAc t hno)).2⟩⟩,jext⟩
 ·by_cases hl:o.live=aC
  ·rcases cls k o ho hl with⟨i,o1,_,_,h3,_⟩|⟨h1,h2,h3,h4⟩
   ·exact h3
   ·refine(s.obj k o h4).mono q3.z jext (fun g hg=>q3.keep g (lt k o g h4 hl hg) (besN k o g h1 h3 h4 hl hg)) (fun t n hr=>besA k o t n h1 h4 hr)
  ·cases o<;>first|exact True.intro|(simp[O.live]at hl)
 ·rcases cls k o ho hl with⟨i,o1,h1,h2,_,h4,_,h5⟩|⟨h1,h2,h3,h4⟩
  ·rcases cls k' o' ho' hl' with⟨i',o1',h1',h2',_,h4',_,h5'⟩|⟨h1',h2',h3',h4'⟩
   ·have e:=q2.inj i i' o1 o1' g h1 h1' h2 h2' (h4 g hb) (h4' g hb');subst e;rcases h5 with⟨a1,a2⟩|⟨a1,a2,a3,a4,a5⟩|⟨a1,a2⟩<;>rcases h5' with⟨b1,b2⟩|⟨b1,b2,b3,b4,b5⟩|⟨b1,b2⟩
    ·omega
    ·omega
    ·have:=(nge i (dx b2)).1;omega
    ·omega
    ·rw[a4]at b4;exact Option.some.inj b4
    ·have:=(nge i (dx b2)).2;rw[a5]at this;cases this
    ·have:=(nge i (dx a2)).1;omega
    ·have:=(nge i (dx a2)).2;rw[b5]at this;cases this
    ·have:=ac4 nnd a2 b2;omega
   ·exact(cross h1' h3' h4' hl' (besB k' o' g h1' h2' h4' hb') h1 h2 (h4 g hb)).elim
  ·rcases cls k' o' ho' hl' with⟨i',o1',h1',h2',_,h4',_,h5'⟩|⟨h1',h2',h3',h4'⟩
   ·exact(cross h1 h3 h4 hl (besB k o g h1 h2 h4 hb) h1' h2' (h4' g hb')).elim
   ·exact s.inj k k' o o' g h4 h4' hl hl' (besB k o g h1 h2 h4 hb) (besB k' o' g h1' h2' h4' hb')
 ·rw[mlen]at hk;have:=j2hi (k - mem.length);rw[show mem.length+(k - mem.length)=k by omega,rY (by omega)]at this;exact this
 ·obtain⟨i,o0,h0,hl0,hb0,_⟩:=ownC g ho;exact hn ⟨i,o0,h0,hl0,hb0⟩
 ·obtain⟨k,o,ho,hl,hb⟩:=ho;rcases cls k o ho hl with⟨i,o1,h1,h2,_,h4,_,_⟩|⟨h1,h2,h3,h4⟩
  ·obtain⟨i',o0,h0,hl0,hb0,_⟩:=ownC g (q3.owned g hg ⟨i,o1,h1,h2,h4 g hb⟩);exact⟨i',o0,h0,hl0,hb0⟩
  ·exact⟨k,o,h4,hl,besB k o g h1 h2 h4 hb⟩
 ·rcases cls k o ho (pm hr)with⟨i,o1,h1,h2,_,_,h6,_⟩|⟨h1,h2,h3,h4⟩
  ·exact(q3.ar t (noAc t hno)).1 i o1 n h1 (h6 t n hr)
  ·exact hno k o n h4 hr
theorem ag7(s:SR P Z w j mem){v:V}{u:aR}(hv:VR Z w j v u):VR Z w j (rP mem v) u:=by
 unfold rP;split
 ·rename_i r hr;obtain⟨id,off,len⟩:=r;simp only;split
  ·rename_i hm;exact KQ s hr hm hv
  grind
 grind
theorem aas{i k:Nat}{o:O}(h:(freeze mem i)[k]? = aA o):∃o0,mem[k]? = aA o0/\o.ar=o0.ar:=by
 unfold freeze at h;split at h
 ·rename_i t els fz hm
  by_cases e:i=k
  ·subst e;rw[gR (bX.1 hm).1]at h;cases h;exact⟨_,hm,rfl⟩
  grind
 ·rename_i t v fz hm
  by_cases e:i=k
  ·subst e;rw[gR (bX.1 hm).1]at h;cases h;exact⟨_,hm,rfl⟩
  grind
 grind
theorem fV.freeze{t:aO}{i:Nat}(h:fV t mem):fV t (freeze mem i):=by
 intro k o n ho hr;obtain⟨o0,h0,e⟩:=aas ho;exact h k o0 n h0 (e ▸ hr)
theorem fV.freezeAll{t:aO}:∀(ids:List Nat) {mem:List O},fV t mem->fV t (freezeAll ids mem)
 | [],_,h=>h
 |_::is,_,h=>fV.freezeAll is h.freeze
theorem afY(s:SR P Z w j mem){v:V}{u:aR}(b:Bool)(hv:VR Z w j v u):dz P Z w j mem (rH b (v,mem)).1 (rH b (v,mem)).2 u w:=by
 cases b with
 |false=>exact⟨Z,j,hv,s,.refl _ _ _ _,.refl _⟩
 |true =>
  obtain⟨sf,of⟩:=ve (v6 v) Z mem s;have hzs:bO Z w (dV Z (Fz P j mem (v6 v))) w:=bO.or _ _ _;have hfz:∀g,¬bM Z j mem g->∀o,dV Z (Fz P j mem (v6 v)) g o↔Z g o:=fun g hg o=>⟨fun h=>h.resolve_right fun⟨id,_,hb,ho⟩=>hg (pS s hb ho),.inl⟩
  have one:∀(x:V) (y:aR),(∀i∈jb x,i∈v6 v)->VR Z w j x y->VR (dV Z (Fz P j mem (v6 v))) w j (A9 mem x) y:=fun x y hi hx=>by
   have keep:=hx.mono hzs (bE.refl _);unfold A9;split
   ·split
    ·exact(t5 s ‹_› hi hx).up j
    ·exact keep
   ·split
    ·exact(t5 s ‹_› hi hx).up j
    ·exact keep
   ·split
    ·exact(t5 s ‹_› hi hx).up j
    ·exact keep
   ·split
    ·exact(t5 s ‹_› hi hx).up j
    ·exact keep
   ·exact keep
  refine⟨_,j,?_,sf,⟨rfl,rfl,rfl,c7 _,fun g _ hn=>⟨rfl,hfz g hn⟩,fun g _ ho=>(of g).1 ((bM.eqA rfl).1 ho),hzs,fun t h=>⟨fV.freezeAll _ h,rfl⟩⟩,bE.refl _⟩;show VR _ w j (KG mem v) u;cases v with
  |tup vs =>
   cases hv with
   |tup hl hh =>
    refine .tup (by simpa using hl) fun i c u hc hu=>?_
    rw[fW,omi]at hc;obtain⟨x,hx,rfl⟩:=hc;exact one x u (fun n hn=>jN.2 ⟨x,dx hx,hn⟩) (hh i x u hx hu)
  |_ =>
   refine one _ u ?_ hv;exact fun n hn=>hn
theorem aav(s:SR P Z w j mem){v:V}{u:aR}(l:List aO)(hv:VR Z w j v u):dz P Z w j mem (s7 l (v,mem)).1 (s7 l (v,mem)).2 u w:=by
 unfold s7;cases l.any fun t=>Nat.ble 1000000 t with
 |false=>exact⟨Z,j,hv,s,.refl _ _ _ _,.refl _⟩
 |true =>
  obtain⟨sf,of⟩:=ve (C5 l mem) Z mem s;have hzs:bO Z w (dV Z (Fz P j mem (C5 l mem))) w:=bO.or _ _ _;have hfz:∀g,¬bM Z j mem g->∀o,dV Z (Fz P j mem (C5 l mem)) g o↔Z g o:=fun g hg o=>⟨fun h=>h.resolve_right fun⟨id,_,hb,ho⟩=>hg (pS s hb ho),.inl⟩
  exact⟨_,j,hv.mono hzs (bE.refl _),sf,⟨rfl,rfl,rfl,c7 _,fun g _ hn=>⟨rfl,hfz g hn⟩,fun g _ ho=>(of g).1 ((bM.eqA rfl).1 ho),hzs,fun t h=>⟨fV.freezeAll _ h,rfl⟩⟩,bE.refl _⟩
theorem VA{call:de}(hi:iK P call.ic){rd:CM}{f:bL}{args:List V}{us:List aR}{v:V}(s:SR P Z w j mem)(h:sI call rd f args mem=aA (v,mem'))(bA:lX P f=aC)(ha:gB Z w j args us) :
  Calls P f us.toArray w fun e w1=>∃u,e = .returned u/\dz P Z w j mem v mem' u w1:=by
 unfold sI at h;simp only[omi]at h;obtain⟨⟨v1,m1⟩,h1,h2⟩:=h;obtain⟨a1,a2⟩:=z7 mem;obtain⟨b1,b2⟩:=Vx args mem;obtain⟨sc,pre,_⟩:=T4 (s:=⟨args,mem⟩) a1 b1 b2 s
 have hv:gB Z w (gK (dZ mem) (jS args mem) j) (iQ args mem).env us:=by
  refine⟨by simpa[iQ,kD]using ha.1,fun i c u hc hu=>?_⟩;simp only[iQ,kD,fW,omi]at hc;obtain⟨c0,h0,rfl⟩:=hc;exact(ha.2 i c0 u h0 hu).ren2 (Jv _ _ _)
 refine(hi f _ _ v1 m1 h1 bA Z w _ us sc hv).mono ?_;rintro e w1 ⟨u,rfl,hp⟩;refine⟨u,rfl,?_⟩;replace sc:SR P Z w (gK (dZ mem) (jS args mem) j) (iQ args mem).mem:=sc;obtain⟨pre⟩:Nonempty (∀k o,(iQ args mem).mem[k]? = aA o->o.live=aC->∃i o0,mem[i]? = aA o0/\o0.live=aC/\o.ar=o0.ar/\gK (dZ mem) (jS args mem) j k=j i/\((k < dZ mem/\i=k)∨(dZ mem<=k/\(jS args mem)[k - dZ mem]? = aA i/\o.ar=aF))):=⟨pre⟩
 obtain⟨c,hc⟩:∃c,c=(iQ args mem).mem:=⟨_,rfl⟩
 rw[<-hc]at hp sc pre h2;obtain⟨f1,f2⟩:=z7 c
 replace hp:dz P Z w (gK (dZ mem) (jS args mem) j) c (cond rd.wv (rP m1 v1) v1) m1 u w1:=by
  obtain⟨Z1,j1,p1,p2,p3,p4⟩:=hp;cases rd.wv with
  |true=>exact⟨Z1,j1,ag7 p2 p1,p2,p3,p4⟩
  |false=>exact⟨Z1,j1,p1,p2,p3,p4⟩
 replace hp:dz P Z w (gK (dZ mem) (jS args mem) j) c (rH rd.sv (cond rd.wv (rP m1 v1) v1,m1)).1 (rH rd.sv (cond rd.wv (rP m1 v1) v1,m1)).2 u w1:=by
  obtain⟨Z1,j1,p1,p2,p3,p4⟩:=hp;obtain⟨Z2,j2,q1,q2,q3,q4⟩:=afY p2 rd.sv p1;exact⟨Z2,j2,q1,q2,p3.trans q3,p4.trans q4⟩
 replace hp:dz P Z w (gK (dZ mem) (jS args mem) j) c (s7 rd.mv (rH rd.sv (cond rd.wv (rP m1 v1) v1,m1))).1 (s7 rd.mv (rH rd.sv (cond rd.wv (rP m1 v1) v1,m1))).2 u w1:=by
  obtain⟨Z1,j1,p1,p2,p3,p4⟩:=hp;obtain⟨Z2,j2,q1,q2,q3,q4⟩:=aav p2 rd.mv p1;exact⟨Z2,j2,q1,q2,p3.trans q3,p4.trans q4⟩
 have norm:=Ml (rd:=rd.row) f1 List.nodup_range' sc sc (fun k o ho hl=>⟨k,o,ho,hl,rfl,rfl,by
  by_cases hk:k < dZ c
  ·exact .inl ⟨hk,rfl⟩
  ·have hkl:=(bX.1 ho).1;refine .inr ⟨by omega,?_,?_⟩
   ·rw[List.getElem?_range' (show k - dZ c < c.length - dZ c by omega)];rw[show dZ c+1 * (k - dZ c)=k by omega]
   ·have hle:dZ mem<=dZ c:=by
     rw[hc];exact aau args mem
    obtain⟨i,o0,h0,hl0,ha,hji,hcc⟩:=pre k o ho hl;rcases hcc with⟨h1,_⟩|⟨_,_,h3⟩
    ·omega
    ·exact h3⟩) hp
 have:=Ml (rd:=rd.row) a1 b1 s sc pre norm;unfold ni at h2;rw[<-hc]at h2;unfold iP at h2;rw[h2]at this;exact this
end
section
variable {P:bu}{Z Z':Zs}{w w':be}{j j':J}{mem mem':List O}
theorem Qw{v:V}{u:aR}(h:vn v=aD)(hv:VR Z w j v u)(Z':Zs)(w':be)(j':J):VR Z' w' j' v u:=by
 cases v with
 |sl l=>simp[vn]at h
 |fr t els=>cases hv
 |_=>cases hv<;>first|(simp[vn]at h;done)|constructor
theorem acZ{v:V}{u:aR}(h:vo v=aD)(hv:VR Z w j v u)(Z':Zs)(w':be)(j':J):VR Z' w' j' v u:=by
 cases v with
 |agg cs =>
  obtain⟨us,rfl,hr⟩:=hv.aggInv;refine LR.aggMk ⟨hr.1,fun i c hc=>?_⟩;obtain⟨u,hu,hvv⟩:=hr.2 i c hc
  have:vn c=false:=by
   simp only[vo,yZ]at h;grind
  exact⟨u,hu,Qw this hvv Z' w' j'⟩
 |_=>exact Qw (by simpa[vo]using h) hv Z' w' j'
theorem OK{v:V}{u:aR}(h:VR Z w j0 v u)(hf:v.flat1=aC):VR Z' w j0 v u:=by
 cases h<;>first|(simp[jw]at hf;done)|constructor
theorem lQ.flatZ{h:cE}{t:aO}{els:List V}(r:lQ P Z w h t els 0)(hf:∀x∈els,∀y∈x.cells,y.flat1=aC)(hz:∀g,h.blk=aA g->∀o,¬Z' g o):lQ P Z' w h t els 0:=by
 obtain⟨h1,h2,h3,h4,h5⟩:=r;refine⟨h1,h2,h3,h4,?_⟩;rcases h5 with h5|⟨g,b,c,us,hu,hlc,hcm,hg,hb,hcells,hz1,hz2⟩
 ·grind
 ·have hbk:h.blk=aA g:=by cases h;simp at hu;subst hu;rfl
  refine .inr ⟨g,b,c,us,hu,hlc,hcm,hg,hb,fun k x hk i y hy=>?_,fun o ho=>(hz g hbk o ho).elim,fun o ho=>by omega⟩;obtain⟨q1,u0,q2,q3⟩:=hcells k x hk i y hy;have hyf:=hf x (dx hk) y (dx hy);exact⟨q1,u0,q2,OK q3 hyf⟩
theorem aeT{h:cE}{t:aO}{els:List V}{fz:Nat}{A:Option Addr}{n c:Nat}(r:lQ P Z w h t els fz)(hu:h.u = .slice A n c)(hz:bO Z w Z' w)(hzz:∀g,h.blk=aA g->∀o,Z' g o):VR Z' w j (.sl els) (.slice A n c):=by
 obtain⟨h1,h2,h3,h4,h5⟩:=r;rcases h5 with⟨hv,he⟩|⟨g,b,c',us,hv,hlc,hcm,hg,hs,hcells,_⟩
 ·rw[hu]at hv;cases hv;subst he;exact .sl0
 ·have hbk:h.blk=aA g:=by cases h;simp at hv;subst hv;rfl
  rw[hu]at hv;cases hv;exact VR.slMk hlc h2 fun k x hk=>⟨h4 x (dx hk),fun i _=>hzz g hbk _,(hcells k x hk).mono hz (bE.refl _) rfl⟩
def uJ(Z:Zs)(w0 w1:be):Zs:={ Z with z:=fun g o=>Z g o∨(w0.heap.size<=g/\g < w1.heap.size) }
theorem RR.one{Z2:Zs}{w1:be}{r:V}{u:aR}(h:RR P Z2 w w1 r u)(hn:∀vs,r≠.tup vs):R1 P Z2 w w1 r u:=by
 cases r<;>first|exact(hn _ rfl).elim|exact h
theorem RR.mk{Z2:Zs}{w1:be}{r:V}{u:aR}(h:R1 P Z2 w w1 r u)(hn:∀vs,r≠.tup vs):RR P Z2 w w1 r u:=by
 cases r<;>first|exact(hn _ rfl).elim|exact h
theorem agB(mem:List O)(v:V):(yO aD mem v).2=mem:=by cases v<;>rfl
theorem TW{w1:be}{mem1:List O}{Z2:Zs}{r:V}{u:aR}{ad:Bool}(s1:SR P Z2 w1 j mem1)(st:bh Z w j mem Z2 w1 j mem1)(hown:∀g,bM Z2 j mem1 g->g < w.heap.size)(hr:RR P Z2 w w1 r u) :
  dz P Z w j mem (qj ad mem1 r).1 (qj ad mem1 r).2 u w1:=by
 have hzn:bO Z2 w1 (uJ Z2 w w1) w1:=.of fun g o h=>⟨.inl h,rfl,rfl⟩
 have s3:SR P (uJ Z2 w w1) w1 j mem1:=s1.world hzn (fun g hg=>⟨rfl,fun o=>⟨fun h=>h.resolve_right fun h=>by grind,.inl⟩⟩) (fun g o h=>by
  rcases h with h|h
  ·exact s1.zin g o h
  grind)
 have st3:bh Z w j mem (uJ Z2 w w1) w1 j mem1:=⟨st.os,st.tape,st.output,st.size,fun g hg hn=>⟨(st.keep g hg hn).1,fun o=>⟨fun h=>((st.keep g hg hn).2 o).1 (h.resolve_right fun h=>by omega),fun h=>.inl (((st.keep g hg hn).2 o).2 h)⟩⟩,st.owned,st.z.trans hzn,st.ar⟩
 have one:∀(v:V) (x:aR),R1 P Z2 w w1 v x->VR (uJ Z2 w w1) w1 j (yO aD mem1 v).1 x:=by
  intro v x hx;cases v with
  |fr t els =>
   obtain⟨A,n,c,rfl,hrow,hfl,hb,h0⟩:=hx;exact aeT hrow rfl hzn (fun g hg o=>.inr (hb g hg))
  |_=>exact(VR.up hx j).mono hzn (bE.refl _)
 cases r with
 |tup vs =>
  obtain⟨us,rfl,hl,hh⟩:=hr;refine⟨uJ Z2 w w1,j,.tup (by grind) fun i c x hc hx=>?_,s3,st3,bE.refl _⟩;grind
 |fr t els =>
  cases ad with
  |false=>exact⟨uJ Z2 w w1,j,one _ _ (RR.one hr (by grind)),s3,st3,bE.refl _⟩
  |true =>
   obtain⟨A,n,c,rfl,hrow,hfl,hb,h0⟩:=hr;have s4:=s1.add (h:=⟨.slice A n c,P.cellsOf t⟩) (o:=.row t els 0) (fun g hg ho=>by grind) ⟨_,gZ _ _ _,hrow⟩;refine⟨Z2,_,.own (gZ _ _ _) h0,s4,⟨st.os,st.tape,st.output,st.size,st.keep,fun g hg ho=>?_,st.z,fun t h=>⟨(st.ar t h).1.add rfl,(st.ar t h).2⟩⟩,s1.ext _⟩;rcases bM.add ho with ho|ho
   ·exact st.owned g hg ho
   grind
 |_=>exact⟨uJ Z2 w w1,j,one _ _ (RR.one hr (by grind)),s3,st3,bE.refl _⟩
theorem agn(s:SR P Z w j mem){t:aO}{p v:V}{u up:aR}(h:t7 P mem t p v=aA mem')(hp:VR Z w j p up)(hv:VR Z w j v u) :
  ∃w1,(Instr.storeAt t up u).run P w = .ok () w1/\dz P Z w j mem (.tup []) mem' undef w1:=by
 unfold t7 at h;split at h;rotate_left
 ·exact TF s h hp hv
 simp only[obi]at h;obtain⟨v',hs,h⟩:=h;have hv1:=Ba s hs (fun i hi=>hi) hv;obtain⟨sf,of⟩:=ve (iF mem v) Z mem s;have hzs:bO Z w (dV Z (Fz P j mem (iF mem v))) w:=bO.or _ _ _;obtain⟨w1,h1,Z1,j1,q1,q2,q3,q4⟩:=TF sf h (hp.mono hzs (bE.refl _)) (hv1.up j);have hfz:∀g,¬bM Z j mem g->∀o,dV Z (Fz P j mem (iF mem v)) g o↔Z g o:=fun g hg o=>⟨fun h=>h.resolve_right fun⟨id,_,hb,ho⟩=>hg (pS s hb ho),.inl⟩
 have stp:bh Z w j mem (dV Z (Fz P j mem (iF mem v))) w j (freezeAll (iF mem v) mem) :=
  ⟨rfl,rfl,rfl,c7 _,fun g _ hn=>⟨rfl,hfz g hn⟩,fun g _ ho=>(of g).1 ((bM.eqA rfl).1 ho),hzs,fun t h=>⟨h.freezeAll _,rfl⟩⟩
 exact⟨w1,h1,Z1,j1,q1,q2,stp.trans q3,q4⟩
theorem OQ(s:SR P Z w j mem){v v1:V}{u:aR}(h:f9 mem v=aA v1)(hv:VR Z w j v u):dz P Z w j mem v1 (freezeAll (jb v) mem) u w:=by
 have hv1:=t5 s h (ids:=jb v) (fun i hi=>hi) hv;obtain⟨sf,of⟩:=ve (jb v) Z mem s;have hzs:bO Z w (dV Z (Fz P j mem (jb v))) w:=bO.or _ _ _;have hfz:∀g,¬bM Z j mem g->∀o,dV Z (Fz P j mem (jb v)) g o↔Z g o:=fun g hg o=>⟨fun h=>h.resolve_right fun⟨id,_,hb,ho⟩=>hg (pS s hb ho),.inl⟩
 exact⟨_,j,hv1.up j,sf,⟨rfl,rfl,rfl,c7 _,fun g _ hn=>⟨rfl,hfz g hn⟩,fun g _ ho=>(of g).1 ((bM.eqA rfl).1 ho),hzs,fun t h=>⟨h.freezeAll _,rfl⟩⟩,bE.refl _⟩
theorem Mi{cfg:bS}{call:de}(hp:i5 cfg.P call.pc)(hi:iK cfg.P call.ic){dr:Bool}{f:bL}{args:List V}{us:List aR}{v:V}(s:SR cfg.P Z w j mem)
  (h:jR cfg call dr f args mem=aA (v,mem')) (ha:gB Z w j args us) :
  lX cfg.P f=aC/\Calls cfg.P f us.toArray w fun e w1=>∃u,e = .returned u/\dz cfg.P Z w j mem v mem' u w1:=by
 unfold jR at h;split at h
 ·cases h
 ·rename_i bA;have hok':lX cfg.P f=true:=by grind
  refine⟨hok',?_⟩;split at h
  ·cases hs:cC (k9 mem) args with
   |none=>grind
   |some as0 =>
    cases hpc:call.pc f as0 with
    |none=>grind
    |some r =>
     simp only[hs,hpc,bk]at h;have hsn:=af6 s hs ha;obtain⟨sf,of⟩:=ve (args.flatMap (kR mem)) Z mem s;refine(hp f as0 r hpc hok' _ w us sf.zin hsn).mono ?_;rintro e w1 ⟨u,Z1,rfl,hrr,st⟩;refine⟨u,rfl,?_⟩;have hzs:bO Z w (dV Z (Fz cfg.P j mem (args.flatMap (kR mem)))) w:=bO.or _ _ _
     have hz1:bO (dV Z (Fz cfg.P j mem (args.flatMap (kR mem)))) w Z1 w1:=.of (fun g o ho=>by
      have hg:=sf.zin g o ho;exact⟨((st.keep g hg).2 o).2 ho,j7 (st.keep g hg).1 o⟩) st.a st.i
     have hfz:∀g,¬bM Z j mem g->∀o,dV Z (Fz cfg.P j mem (args.flatMap (kR mem))) g o↔Z g o:=fun g hg o=>⟨fun h=>h.resolve_right fun⟨id,_,hb,ho⟩=>hg (pS s hb ho),.inl⟩
     by_cases hl:xB r=aC
     ·-- what was handed over TE as0 it is from here on
      have s1:SR cfg.P Z1 w1 j (freezeAll (args.flatMap (kR mem)) mem):=sf.world hz1 (fun g hg=>st.keep g (bM.lt sf hg)) st.zin st.a;have st1:bh Z w j mem Z1 w1 j (freezeAll (args.flatMap (kR mem)) mem):=⟨st.os,st.tape,st.output,st.size,fun g hg hn=>⟨(st.keep g hg).1,fun o=>((st.keep g hg).2 o).trans (hfz g hn o)⟩,fun g _ ho=>(of g).1 ((bM.eqA st.a).1 ho),hzs.trans hz1,fun t h=>⟨h.freezeAll _,congrFun st.a t⟩⟩
      rw[aU hl]at h;split at h
      ·cases h
      ·injection h with h
       have:=TW (ad:=cfg.adopt f && !dr) s1 st1 (fun g hg=>bM.lt s ((of g).1 ((bM.eqA st.a).1 hg))) hrr;grind
     ·-- nothing vn there
      rw[aY hl]at h;have hl':xB r=false:=by grind
      let Z2:Zs:={ Z with z:=fun g o=>(g < w.heap.size/\Z g o)∨(w.heap.size<=g/\Z1 g o) }
      have hz2:bO Z w Z2 w1:=.of fun g o ho=>⟨.inl ⟨s.zin g o ho,ho⟩,j7 (st.keep g (s.zin g o ho)).1 o⟩
      have iff:∀g,g < w.heap.size->∀o,Z2 g o↔Z g o:=fun g hg o=>⟨fun h=>(h.resolve_right fun h=>by omega).2,fun h=>.inl ⟨hg,h⟩⟩
      have s1:SR cfg.P Z2 w1 j mem:=s.world hz2 (fun g hg=>⟨(st.keep g (bM.lt s hg)).1,iff g (bM.lt s hg)⟩) (fun g o ho=>by
       rcases ho with⟨h1,_⟩|⟨_,h2⟩
       ·exact si h1 st.size
       ·exact st.zin g o h2)
      have st1:bh Z w j mem Z2 w1 j mem:=⟨st.os,st.tape,st.output,st.size,fun g hg _=>⟨(st.keep g hg).1,iff g hg⟩,fun _ _ ho=>ho,hz2,fun _ h=>⟨h,rfl⟩⟩
      have one:∀(x:V) (y:aR),vo x=aD->R1 cfg.P Z1 w w1 x y->R1 cfg.P Z2 w w1 x y:=by
       intro x y hlx hx;cases x with
       |fr t els =>
        obtain⟨A,n,c,rfl,hrow,hfl,hb,h0⟩:=hx;refine⟨A,n,c,rfl,hrow.flatZ hfl (fun g hg o ho=>?_),hfl,hb,h0⟩;obtain⟨q1,q2,q3,q4,q5⟩:=hrow;rcases ho with ho|ho
        ·grind
        ·rcases q5 with⟨q5,_⟩|⟨g',b,c',us',hu,_,_,_,_,_,hz1',_⟩
         ·simp at q5;obtain⟨rfl,_⟩:=q5;simp[cE.blk]at hg
         ·simp at hu;obtain⟨rfl,_⟩:=hu;simp[cE.blk]at hg;grind
       |_=>exact acZ hlx hx _ _ _
      injection h with h
      have fin:RR cfg.P Z2 w w1 r u->dz cfg.P Z w j mem v mem' u w1:=fun hr=>by
       have:=TW (ad:=cfg.adopt f && !dr) s1 st1 (fun g hg=>bM.lt s ((bM.eqA rfl).1 hg)) hr;grind
      refine fin ?_;cases r with
      |tup vs =>
       obtain⟨us',rfl,q1,q2⟩:=hrr;refine⟨us',rfl,q1,fun i x y hx hy=>?_⟩
       have hlx:vo x=false:=by
        simp only[xB,yZ]at hl';grind
       grind
      |_=>exact RR.mk (one _ _ (by simpa[xB]using hl') (RR.one hrr (by grind))) (by grind)
  ·split at h
   ·cases h
   ·split at h
    ·exact hi f args mem v mem' h hok' Z w j us s ha
    ·exact VA hi s (Ej h).1 hok' ha
theorem Ir(S:List Nat):∀(l:List O) (i:Nat),(tj S i l).length=l.length/\∀k,(tj S i l)[k]? = (l[k]?).map fun o=>cond (S.contains (i+k)) o .dead
 | [],i=>⟨rfl,fun k=>by simp[tj]⟩
 |o::l,i=>by
  obtain⟨h1,h2⟩:=Ir S l (i+1);refine⟨by simp[tj,h1],fun k=>?_⟩;cases k with
  |zero=>simp[tj]
  |succ k=>simp only[tj,Ll,h2 k,show i+1+k=i+(k+1) by omega]
theorem zF(S:List Nat):∀(l m:List O) (i:Nat),l.length<=m.length->(qJ S i l m).length=m.length/\∀k,(qJ S i l m)[k]? = if k < l.length then (if S.contains (i+k) then m[k]? else l[k]?) else m[k]?
 | [],m,i,_=>⟨rfl,fun k=>by simp[qJ]⟩
 |o::l,[],i,h=>by grind
 |o::l,p::m,i,h=>by
  obtain⟨h1,h2⟩:=zF S l m (i+1) (by grind);refine⟨by simp[qJ,h1],fun k=>?_⟩;cases k with
  |zero=>simp only[qJ,Lm,dp,Nat.zero_lt_succ,cZ,fL];all_goals grind
  |succ k=>simp only[qJ,Ll,h2 k,show i+1+k=i+(k+1) by omega,dp,Nat.succ_lt_succ_iff]
theorem xy{S:List Nat}{mem:List O}{k:Nat}{o:O}(h:(keepOnly S mem)[k]? = aA o)(hl:o.live=aC):mem[k]? = aA o/\S.contains k=true:=by
 have:=(Ir S mem 0).2 k;unfold keepOnly at h;rw[this,fY]at h;cases hm:mem[k]? with
 |none=>grind
 |some q =>
  rw[hm,du]at h;cases hc:S.contains k with
  |true=>grind
  |false=>rw[hc]at h;cases h;cases hl
theorem SR.keepOnly(s:SR P Z w j mem)(S:List Nat):SR P Z w j (Lite.keepOnly S mem):=by
 refine⟨fun id o h=>?_,fun id id' o o' g h h' hl hl'=>?_,fun id h=>s.out id (by have:=(Ir S mem 0).1;unfold Lite.keepOnly at h;omega),s.zin⟩
 ·cases hl:o.live with
  |true=>exact s.obj id o (xy h hl).1
  |false=>cases o<;>first|exact True.intro|(cases hl)
 ·exact s.inj id id' o o' g (xy h hl).1 (xy h' hl').1 hl hl'
theorem bM.keepOnly{S:List Nat}{g:Nat}(h:bM Z j (Lite.keepOnly S mem) g):∃id o,mem[id]? = aA o/\o.live=aC/\bQ Z j id o g/\S.contains id=true:=by
 obtain⟨id,o,h1,h2,h3⟩:=h;exact⟨id,o,(xy h1 h2).1,h2,h3,(xy h1 h2).2⟩
theorem aan{call:de}(hi:iK P call.ic){f:bL}{args:List V}{us:List aR}{v:V}(s:SR P Z w j mem)(h:pG call f args mem=aA (v,mem'))(bA:lX P f=aC)(ha:gB Z w j args us) :
  Calls P f us.toArray w fun e w1=>∃u,e = .returned u/\dz P Z w j mem v mem' u w1:=by
 unfold pG at h;obtain⟨S,hS⟩:∃S,S=args.flatMap lG:=⟨_,rfl⟩
 rw[<-hS]at h;split at h
 ·cases h
 rename_i hall
 have hall:∀(id:Nat) (o:O),mem[id]? = aA o->S.contains id=aC->o.ar=none:=fun id o hm hc=>by
  have hall':HW S mem=true:=by grind
  have:=eJ.1 hall' id (by grind);rw[hm]at this;simpa[gN]using this
 simp only[obi]at h;obtain⟨⟨v1,m1⟩,h1,h2⟩:=h;split at h2;rotate_left
 ·grind
 rename_i hle;cases h2;simp only at hle;refine(hi f args _ v1 m1 h1 bA Z w j us (s.keepOnly S) ha).mono ?_;rintro e w1 ⟨u,rfl,Z1,j1,q1,q2,q3,q4⟩
 have noAk:∀t,fV t (Lite.keepOnly S mem):=fun t id o n hm hr=>by
  have:=xy hm (pm hr);grind
 have za:Z1.a=Z.a:=funext fun t=>(q3.ar t (noAk t)).2
 have har1:∀(id:Nat) (o:O),m1[id]? = aA o->o.ar=none:=fun id o hm=>by
  cases hr:o.ar with
  |none=>rfl
  |some r=>exact((q3.ar r.1 (noAk r.1)).1 id o r.2 hm hr).elim
 refine⟨u,rfl,Z1,j1,q1,?_,?_,q4⟩
 ·-- the memory
  obtain⟨b1,b2⟩:=zF S mem m1 0 hle
  have get:∀id o,(tP S mem m1)[id]? = aA o->(m1[id]? = aA o/\(id < mem.length->S.contains id=aC))∨(id < mem.length/\S.contains id=aD/\mem[id]? = aA o):=by
   intro id o h;unfold tP at h;grind
  have blk:∀(id:Nat) (o:O) (g:Nat),mem[id]? = aA o->o.live=aC->bQ Z1 j1 id o g->bQ Z j id o g:=by
   intro id o g hm hl hb;unfold bQ at hb |-
   cases hr:o.ar with
   |none =>
    rw[hr]at hb;obtain⟨h,hh⟩:=s.han hm hl hr;simp only[dj,q4 _ _ hh]at hb;simp only[dj,hh];grind
   |some r =>
    simp_all
  have notOwned:∀(id:Nat) (o:O) (g:Nat),mem[id]? = aA o->o.live=aC->bQ Z j id o g->S.contains id=aD->¬bM Z j (Lite.keepOnly S mem) g:=by
   intro id o g hm hl hb hc ho;obtain⟨id',o',e1,e2,e3,e4⟩:=ho.keepOnly;have:=s.inj id id' o o' g hm e1 hl e2 hb e3;grind
  have lt:∀(id:Nat) (o:O) (g:Nat),mem[id]? = aA o->o.live=aC->bQ Z j id o g->g < w.heap.size:=fun id o g hm hl hb=>bM.lt s ⟨id,o,hm,hl,hb⟩
  have cross:∀(id id':Nat) (o o':O) (g:Nat),mem[id]? = aA o->S.contains id=aD->m1[id']? = aA o'->o.live=aC->o'.live=aC->bQ Z1 j1 id o g->bQ Z1 j1 id' o' g->False:=by
   intro id id' o o' g hm hc hm' hl hl' hb hb';have hb:=blk id o g hm hl hb;exact notOwned id o g hm hl hb hc (q3.owned g (lt id o g hm hl hb) ⟨id',o',hm',hl',hb'⟩)
  refine⟨fun id o h=>?_,fun id id' o o' g h h' hl hl' hb hb'=>?_,fun id h=>q2.out id (by have h':(qJ S 0 mem m1).length<=id:=h;grind),q2.zin⟩
  ·rcases get id o h with⟨h,_⟩|⟨bd,hc,hm⟩
   ·exact q2.obj id o h
   ·cases hl:o.live with
    |false=>cases o<;>first|exact True.intro|(cases hl)
    |true =>
     refine(s.obj id o hm).mono q3.z q4 (fun g hg=>?_) (fun t n _=>congrFun za t);exact q3.keep g (lt id o g hm hl hg) (notOwned id o g hm hl hg hc)
  ·rcases get id o h with⟨h,_⟩|⟨bd,hc,hm⟩
   ·rcases get id' o' h' with⟨h',_⟩|⟨hlt',hc',hm'⟩
    ·exact q2.inj id id' o o' g h h' hl hl' hb hb'
    grind
   ·rcases get id' o' h' with⟨h',_⟩|⟨hlt',hc',hm'⟩
    ·grind
    ·exact s.inj id id' o o' g hm hm' hl hl' (blk id o g hm hl hb) (blk id' o' g hm' hl' hb')
 ·-- the step
  refine⟨q3.os,q3.tape,q3.output,q3.size,fun g hg hn=>q3.keep g hg fun ho=>?_,fun g hg ho=>?_,q3.z,fun t hno=>⟨fun id o n h hr=>?_,congrFun za t⟩⟩
  ·obtain⟨id,o,e1,e2,e3,_⟩:=ho.keepOnly;exact hn ⟨id,o,e1,e2,e3⟩
  ·obtain⟨id,o,h,hl,hb⟩:=ho;obtain⟨b1,b2⟩:=zF S mem m1 0 hle;unfold tP at h;rw[b2 id,fY]at h
   have inM1:m1[id]? = aA o->bM Z j mem g:=fun h=>by
    obtain⟨id',o',e1,e2,e3,_⟩:=(q3.owned g hg ⟨id,o,h,hl,hb⟩).keepOnly;exact⟨id',o',e1,e2,e3⟩
   split at h
   ·cases hc:S.contains id with
    |true=>grind
    |false =>
     rw[aY (by grind)]at h;refine⟨id,o,h,hl,?_⟩;unfold bQ at hb |-
     cases hr:o.ar with
     |none =>
      rw[hr]at hb;obtain⟨hh,he⟩:=s.han h hl hr;simp only[dj,q4 _ _ he]at hb;simpa only[dj,he]using hb
     |some r =>
      simp_all
   grind
  ·obtain⟨b1,b2⟩:=zF S mem m1 0 hle;unfold tP at h;rw[b2 id,fY]at h;split at h
   ·split at h
    ·grind
    ·exact hno id o n h hr
   grind
end
section
variable {P:bu}{Z Z':Zs}{w w':be}{j j':J}{mem mem':List O}
theorem fo{Post:aR->be->Prop}{s:Sem aR}{u:aR}{w1:be}(h:s.run P w = .ok u w1)(hp:Post u w1):m4 P Post ((do pure (Next.value (<-s)):Sem Next).run P w):=by
 simp only[Sem.run_bind,h,Result.andThen_ok,Sem.run_pure];exact hp
theorem QB{Post:aR->be->Prop}{s:Sem Unit}{w1:be}(h:s.run P w = .ok () w1)(hp:Post undef w1):m4 P Post ((do s;pure Next.skip:Sem Next).run P w):=by
 simp only[Sem.run_bind,h,Result.andThen_ok,Sem.run_pure];exact hp
theorem CW{env:List V}{ρ:fi->aR}(hρ:∀x v,bv env x=aA v->VR Z w j v (ρ x)){l:List fi}{vs:List V}(h:cC (bv env) l=aA vs):gB Z w j vs (l.map ρ):=by
 obtain⟨hl,hg⟩:=kZ h;refine⟨by grind,fun i v u hv hu=>?_⟩;grind
theorem gB.append{vs ws:List V}{us xs:List aR}(h:gB Z w j vs us)(h':gB Z w j ws xs):gB Z w j (vs++ws) (us++xs):=by
 refine⟨by simp[h.1,h'.1],fun i v u hv hu=>?_⟩
 by_cases hi:i < vs.length
 ·rw[eK hi]at hv;rw[eK (by rw[<-h.1];grind)]at hu;exact h.2 i v u hv hu
 ·rw[eO (by omega)]at hv;rw[eO (by rw[<-h.1];omega),<-h.1]at hu;exact h'.2 _ v u hv hu
theorem F7{env:List V}{ρ:fi->aR}(hρ:∀x v,bv env x=aA v->VR Z w j v (ρ x))(o:Option fi):qv Z w j (o.map (bv env)) (o.map ρ):=by
 cases o with
 |none=>trivial
 |some x =>
  simp only[du];cases hx:bv env x with
  |none=>trivial
  |some v=>exact hρ x v hx
theorem Sl{f:bL}{args:Array aR}(h:lX P f=aC):(callFunc f args).run P w = .ok (.enter f args) w:=by
 unfold lX at h;cases hf:P.funcs[f]? with
 |none=>grind
 |some fn =>
  simp only[hf,co,bne_iff_ne,ne_eq]at h;cases hb:fn.body with
  |none=>grind
  |some c=>simp[callFunc,hf,hb,h.2]
theorem Vo(s:SR P Z w j mem){b:Builtin}{ts:Array aO}{ty:aO}{consts:Array Bool}{args:List V}{us:List aR}{v:V}(h:i6 P b mem ts.toList args=aA (v,mem'))(ha:gB Z w j args us) :
  m4 P (dz P Z w j mem v mem') ((builtin b ts ty consts us.toArray).run P w):=by
 cases b<;>simp only[i6]at h<;>first|(cases h;done)|skip
 case len =>
  cases hts:ts.toList with
  |nil=>simp[hts,qW]at h
  |cons t rest =>
   cases args with
   |nil=>simp[hts,qW]at h
   |cons x xs =>
    simp only[hts,qW]at h;cases hl:nH P mem t x with
    |none=>simp[hl]at h
    |some r =>
     simp[hl]at h;obtain⟨rfl,rfl⟩:=h;cases us with
     |nil=>have:=ha.1;simp at this
     |cons u us =>
      have hv:=ha.2 0 x u rfl rfl;have ht0:ts[0]? = aA t:=by rw[<-Bj,hts];rfl
      obtain⟨r',h1,h2⟩:=abQ (ty:=ty) s (ts:=ts) (us:=(u::us).toArray) ht0 (by simp) hl hv;exact fo h1 (fG s h2)
 case append =>
  unfold wS at h;split at h
  ·rename_i t t' sv x ht;split at h
   ·rename_i he
    match us,ha with
    | [u,ux],ha =>
     obtain⟨r',w1,h1,h2⟩:=F0 (ty:=ty) s he h (ha.2 0 sv u rfl rfl) (ha.2 1 x ux rfl rfl);have hts:ts=#[t,t']:=by apply qp;rw[ht]
     subst hts;exact fo h1 h2
    | [],ha=>have:=ha.1;simp at this
    | [_],ha=>have:=ha.1;simp at this
    |_::_::_::_,ha=>have:=ha.1;simp at this
   ·match us,ha with
    | [u,ux],ha =>
     obtain⟨r',w1,h1,h2⟩:=UU (ty:=ty) s h (ha.2 0 sv u rfl rfl) (ha.2 1 x ux rfl rfl);have hts:ts=#[t,t']:=by apply qp;rw[ht]
     subst hts;exact fo h1 h2
    | [],ha=>have:=ha.1;simp at this
    | [_],ha=>have:=ha.1;simp at this
    |_::_::_::_,ha=>have:=ha.1;simp at this
  ·cases h
 case copy =>
  unfold Gi at h;split at h
  ·rename_i t t' sv x ht;split at h
   ·rename_i he
    match us,ha with
    | [u,ux],ha =>
     obtain⟨r',w1,h1,h2⟩:=V2 (ty:=ty) s he h (ha.2 0 sv u rfl rfl) (ha.2 1 x ux rfl rfl);have hts:ts=#[t,t']:=by apply qp;rw[ht]
     subst hts;exact fo h1 h2
    | [],ha=>have:=ha.1;simp at this
    | [_],ha=>have:=ha.1;simp at this
    |_::_::_::_,ha=>have:=ha.1;simp at this
   ·cases h
  ·cases h
 case clear =>
  unfold Gd at h;split at h
  ·rename_i t sv ht
   match us,ha with
   | [u],ha =>
    obtain⟨r',w1,h1,h2⟩:=VK (ty:=ty) s h (ha.2 0 sv u rfl rfl);have hts:ts=#[t]:=by apply qp;rw[ht]
    subst hts;exact fo h1 h2
   | [],ha=>have:=ha.1;simp at this
   |_::_::_,ha=>have:=ha.1;simp at this
  ·cases h
 case cap =>
  unfold Mm at h;split at h
  ·rename_i t ht;split at h
   ·rename_i e hu;cases h
    match us,ha with
    | [u],ha =>
     have hv:=ha.2 0 _ u rfl rfl;have hts:ts=#[t]:=by apply qp;rw[ht]
     subst hts;cases hv;exact fo (s:=Builtin.cap_ #[t] ty #[.slice aF 0 0]) (by simp[Builtin.cap_,dS hu];rfl) (fG s .int)
    | [],ha=>have:=ha.1;simp at this
    |_::_::_,ha=>have:=ha.1;simp at this
   ·cases h
  ·cases h
 case min =>
  cases args with
  |nil=>simp[pF]at h
  |cons x xs =>
   simp only[pF]at h;cases hl:vd min2 x xs with
   |none=>simp[hl]at h
   |some r =>
    simp[hl]at h;obtain⟨rfl,rfl⟩:=h;cases us with
    |nil=>have:=ha.1;simp at this
    |cons u us =>
     obtain⟨r',h1,h2⟩:=ON (P:=P) (g:=Builtin.min2) (fun a b v u u' h ha hb=>acj h ha hb) xs us x r u hl (ha.2 0 x u rfl rfl) (by have:=ha.1;simp at this;exact this.symm) (fun i c u' hc hu=>ha.2 (i+1) c u' (by simpa using hc) (by simpa using hu));exact fo (s:=Builtin.min_ ts ty (u::us).toArray) (by simpa[Builtin.min_]using h1) (fG s h2)
 case max =>
  cases args with
  |nil=>simp[pF]at h
  |cons x xs =>
   simp only[pF]at h;cases hl:vd max2 x xs with
   |none=>simp[hl]at h
   |some r =>
    simp[hl]at h;obtain⟨rfl,rfl⟩:=h;cases us with
    |nil=>have:=ha.1;simp at this
    |cons u us =>
     obtain⟨r',h1,h2⟩:=ON (P:=P) (g:=Builtin.max2) (fun a b v u u' h ha hb=>acg h ha hb) xs us x r u hl (ha.2 0 x u rfl rfl) (by have:=ha.1;simp at this;exact this.symm) (fun i c u' hc hu=>ha.2 (i+1) c u' (by simpa using hc) (by simpa using hu));exact fo (s:=Builtin.max_ ts ty (u::us).toArray) (by simpa[Builtin.max_]using h1) (fG s h2)
 case delete =>
  unfold Gu at h;split at h
  ·rename_i t rest m k ht;cases hm:gL mem m with
   |none=>simp[hm]at h
   |some es =>
    simp only[hm,bk]at h;split at h
    ·rename_i hfit;cases hd:nK es k with
     |none=>simp[hd]at h
     |some out =>
      simp[hd]at h;obtain⟨rfl,rfl⟩:=h
      match us,ha with
      | [u,uk],ha =>
       have ht0:ts[0]? = aA t:=by rw[<-Bj,ht];rfl
       obtain⟨w1,h1,h2⟩:=Wv (ty:=ty) (ts:=ts) (us:=#[u,uk]) s ht0 rfl rfl hm hfit hd (ha.2 0 _ u rfl rfl) (ha.2 1 k uk rfl rfl);exact fo h1 h2
      | [],ha=>have:=ha.1;simp at this
      | [_],ha=>have:=ha.1;simp at this
      |_::_::_::_,ha=>have:=ha.1;simp at this
    ·cases h
  ·cases h
theorem PH{t:aO}{z:V}(hz:jq P t=aA z)(hl:z.cells.length=P.cellsOf t)(ho:z.cells.all fq=aC) :
  ∃us,(Instr.alloc t aC (.tuple #[])).run P w = .ok (.pointer (aA ⟨w.heap.size,0,aF⟩)) (w.alloc (.cells us t))/\us.size=P.cellsOf t:=by
 obtain⟨i,zv,hi,hzv,hvz,_⟩:=uo (P:=P) (Z:=⟨fun _ _=>False,fun _ _=>aF,fun _=>aF⟩) (w:=w) (j:=j0) hz;obtain⟨hcs,_⟩:=hvz.cellsOf (pU ho);exact⟨zv.cells,by simp[Instr.alloc,zeroValue,gY,hi,hzv,newVar,Go.newRow,newObj,Sem.run],by grind⟩
theorem IQ{cfg:bS}{call:de}(hp:i5 cfg.P call.pc)(hi:iK cfg.P call.ic){dr:Bool}{o:dF}{g:Option (Nat × Bool)}{bx sq rx:Bool}{env:List V}{ρ:fi->aR}{v:V}
  (s:SR cfg.P Z w j mem) (hρ:∀x v,bv env x=aA v->VR Z w j v (ρ x)) (h:c8 cfg call dr ⟨o.dst,o.op,o.type,g,bx,sq,rx⟩ env mem=aA (v,mem')) :
  m4 cfg.P (dz cfg.P Z w j mem v mem') ((execOp ρ o).run cfg.P w):=by
 unfold execOp;simp only[c8]at h;cases hop:o.op<;>simp only[hop]at h |-<;>first|(cases h;done)|skip
 case move x =>
  cases hx:bv env x with
  |none=>simp[hx]at h
  |some a =>
   simp only[hx,bk]at h;split at h
   ·obtain⟨v1,hs1,h⟩:=omi.1 h;cases h;exact OQ s hs1 (hρ x _ hx)
   ·cases h;exact fG s (hρ x _ hx)
 case nilCheck x =>
  cases hx:bv env x with
  |none=>simp[hx]at h
  |some a =>
   simp only[hx,bk]at h;split at h
   ·rename_i hs;cases h;have hv:=hρ x _ hx;generalize ρ x=u at hv |-
    cases v<;>first|(simp[KO]at hs;done)|skip
    ·have hv':=hv;cases hv;exact fG s hv'
    ·have hv':=hv;cases hv;exact fG s hv'
    ·have hv':=hv;cases hv;exact fG s hv'
   ·cases h
 case assign x =>
  cases hx:bv env x with
  |none=>simp[hx]at h
  |some a =>
   simp only[hx,bk]at h;split at h
   ·obtain⟨v1,hs1,h⟩:=omi.1 h;cases h;exact OQ s hs1 (hρ x _ hx)
   have same:aA (a,mem)=aA (v,mem')->m4 cfg.P (dz cfg.P Z w j mem v mem') ((Pure.pure (Next.value (ρ x)):Sem Next).run cfg.P w):=by
    intro h;cases h;exact fG s (hρ x _ hx)
   cases a<;>simp only at h<;>first|exact same h|skip;split at h
   ·exact same h
   ·split at h
    ·split at h
     ·rename_i e he hroom;cases h;have hv:=hρ x _ hx;cases hrx:ρ x<;>rw[hrx]at hv<;>cases hv;exact aeU s (lI hroom).2.2.1
     ·exact same h
    ·exact same h
 case pick c a b =>
  cases hc:bv env c with
  |none=>simp[hc]at h
  |some vc =>
   cases ha:bv env a with
   |none=>simp[hc,ha]at h
   |some va =>
    cases hb:bv env b with
    |none=>simp[hc,ha,hb]at h
    |some vb =>
     simp only[hc,ha,hb,bk]at h;have hv:=hρ c _ hc;cases vc<;>simp only at h<;>first|(cases h;done)|skip;rename_i t;cases h;cases hrc:ρ c<;>rw[hrc]at hv<;>cases hv;simp only[asBool,Sem.run_bind,Sem.run_pure,Result.andThen_ok];cases t
     ·exact fG s (hρ b _ hb)
     ·exact fG s (hρ a _ ha)
 case alloc t =>
  cases hz:jq cfg.P t with
  |none=>simp[hz]at h
  |some z =>
   simp only[hz,bk]at h;split at h
   ·rename_i hc;split at h
    ·cases h;obtain⟨us,h1,h2⟩:=PH (w:=w) hz hc.1 hc.2;exact fo h1 ⟨Z,j,.junk,s.alloc _,bh.alloc s _,bE.refl _⟩
    split at h
    ·cases h
    obtain⟨r,w1,h1,h2⟩:=UQ s h hz hc.1 hc.2;exact fo h1 h2
   ·cases h
 case box t x =>
  cases hx:bv env x with
  |none=>simp[hx]at h
  |some a =>
   simp only[hx,bk]at h;split at h
   ·cases h
   split at h
   ·rename_i hc;split at h
    ·cases h
    obtain⟨r,w1,h1,h2⟩:=Mb s h hc.1 hc.2 (hρ x _ hx);exact fo h1 h2
   ·cases h
 case build t parts =>
  cases hps:cC (pW env) parts.toList with
  |none=>simp[hps]at h
  |some ps =>
   cases hb:Cj cfg.P t ps with
   |none=>simp[hps,hb]at h
   |some r =>
    simp[hps,hb]at h;obtain⟨rfl,rfl⟩:=h;have hpr:=Q2 hρ parts.toList ps hps;obtain⟨r',h1,h2⟩:=Vn (P:=cfg.P) (qs:=parts.map fun p=>(p.1,ρ p.2)) hb (by simpa using hpr);exact fo h1 (fG s h2)
 case buildSlice t len parts =>
  cases hps:cC (pW env) parts.toList with
  |none=>simp[hps]at h
  |some ps =>
   cases he:gj cfg.P t with
   |none=>simp[hps,he]at h
   |some e =>
    cases hl:tA 0 ps with
    |none=>simp[hps,he,hl]at h
    |some els =>
     simp only[hps,he,hl,bk]at h;split at h
     ·rename_i hc;have hpr:=Q2 hρ parts.toList ps hps
      obtain⟨r',w1,h1,h2,h3⟩:=Vm (qs:=parts.map fun p=>(p.1,ρ p.2)) s he hl hc.1 hc.2.1 hc.2.2.1 (by
       rw[eJ];intro y hy;have:=eJ.1 hc.2.2.2 y hy;simp only[co]at this;exact this.1) (by simpa using hpr)
      cases bx
      ·change aA (newRow mem e els 0)=_ at h;injection h with h
       rw[h]at h2;exact fo h1 h2
      ·change aA (V.lit e els,mem)=_ at h;cases h;exact fo h1 h3
     ·cases h
 case load t a =>
  cases hx:bv env a with
  |none=>simp[hx]at h
  |some p =>
   cases hl:gE cfg.P mem t p with
   |none=>simp[hx,hl]at h
   |some r =>
    simp only[hx,hl,bk,du]at h;split at h
    ·cases h
    obtain⟨rfl,rfl⟩:=h;obtain⟨r',h1,h2⟩:=P0 s hl (hρ a _ hx);exact fo h1 (fG s h2)
 case store t a x =>
  cases hx:bv env a with
  |none=>simp[hx]at h
  |some p =>
   cases hy:bv env x with
   |none=>simp[hx,hy]at h
   |some q =>
    simp only[hx,hy,bk]at h;split at h
    ·cases h
    cases hl:t7 cfg.P mem t p q with
    |none=>simp[hl]at h
    |some r =>
     simp[hl]at h;obtain⟨rfl,rfl⟩:=h;obtain⟨w1,h1,h2⟩:=agn s hl (hρ a _ hx) (hρ x _ hy);exact QB h1 h2
 case binOp op t x y yt =>
  cases hx:bv env x with
  |none=>simp[hx]at h
  |some p =>
   cases hy:bv env y with
   |none=>simp[hx,hy]at h
   |some q =>
    cases hl:n6 cfg.P op t p q with
    |none=>simp[hx,hy,hl]at h
    |some r =>
     simp[hx,hy,hl]at h;obtain⟨rfl,rfl⟩:=h;obtain⟨r',h1,h2⟩:=Ve x y hl (hρ x _ hx) (hρ y _ hy);exact fo h1 (fG s h2)
 case unOp op t x =>
  cases hx:bv env x with
  |none=>simp[hx]at h
  |some p =>
   cases hl:Fi op p with
   |none=>simp[hx,hl]at h
   |some r =>
    simp[hx,hl]at h;obtain⟨rfl,rfl⟩:=h;obtain⟨r',h1,h2⟩:=agR (P:=cfg.P) hl (hρ x _ hx);exact fo h1 (fG s h2)
 case convert st d x =>
  cases hx:bv env x with
  |none=>simp[hx]at h
  |some p =>
   cases hl:py cfg.P (if dr then [] else mem) st d p with
   |none=>simp[hx,hl]at h
   |some r =>
    simp only[hx,hl,bk,du,Option.some.injEq,Prod.mk.injEq]at h;obtain⟨rfl,rfl⟩:=h;obtain⟨r',w1,h1,h2⟩:=VZ (P:=cfg.P) s (by cases dr<;>simp) hl (hρ x _ hx);exact fo h1 h2
 case makeSlice t n c =>
  cases hx:bv env n with
  |none=>simp[hx]at h
  |some p =>
   cases hy:bv env c with
   |none=>simp[hx,hy]at h
   |some q =>
    simp only[hx,hy,bk]at h;obtain⟨r',w1,h1,h2⟩:=ace s h (hρ n _ hx) (hρ c _ hy);exact fo h1 h2
 case makeInterface t x =>
  cases hx:bv env x with
  |none=>simp[hx]at h
  |some p =>
   simp only[hx,bk,omi,Prod.mk.injEq]at h;obtain⟨r,hr,rfl,rfl⟩:=h;obtain⟨u,h1,h2⟩:=ab9 hr (hρ x _ hx);exact fo h1 (fG s h2)
 case typeAssert x t0 t ok =>
  cases hx:bv env x with
  |none=>simp[hx]at h
  |some p =>
   simp only[hx,bk,omi,Prod.mk.injEq]at h;obtain⟨r,hr,rfl,rfl⟩:=h;obtain⟨u,h1,h2⟩:=agP hr (hρ x _ hx);exact fo h1 (fG s h2)
 case slice t x lo hh mx =>
  cases hx:bv env x with
  |none=>simp[hx]at h
  |some p =>
   cases hl:lK cfg.P mem t p (lo.map (bv env)) (hh.map (bv env)) (mx.map (bv env))with
   |none=>simp[hx,hl]at h
   |some r =>
    simp[hx,hl]at h;obtain⟨_,rfl,rfl⟩:=h;obtain⟨r',h1,h2⟩:=af1 s hl (hρ x _ hx) (F7 hρ lo) (F7 hρ hh) (F7 hρ mx);exact fo h1 (fG s h2)
 case fieldAddr st x f =>
  cases hx:bv env x with
  |none=>simp[hx]at h
  |some p =>
   cases hl:CZ cfg.P st p f with
   |none=>simp[hx,hl]at h
   |some r =>
    simp[hx,hl]at h;obtain⟨rfl,rfl⟩:=h;obtain⟨r',h1,h2⟩:=ZO hl (hρ x _ hx);exact fo h1 (fG s h2)
 case field st x f =>
  cases hx:bv env x with
  |none=>simp[hx]at h
  |some p =>
   simp only[hx,bk]at h;cases p<;>simp only at h<;>first|(cases h;done)|skip;rename_i cs;cases hf:xj cfg.P st f with
   |none=>simp[hf]at h
   |some r =>
    obtain⟨off,t⟩:=r;cases hl:rl cfg.P t cs off with
    |none=>simp[hf,hl]at h
    |some r =>
     simp[hf,hl]at h;obtain⟨rfl,rfl⟩:=h;obtain⟨r',h1,h2⟩:=ZP hf hl (hρ x _ hx);exact fo h1 (fG s h2)
 case indexAddr t x i =>
  cases hx:bv env x with
  |none=>simp[hx]at h
  |some p =>
   cases hy:bv env i with
   |none=>simp[hx,hy]at h
   |some q =>
    cases hl:kp cfg.P mem t p q with
    |none=>simp[hx,hy,hl]at h
    |some r =>
     simp[hx,hy,hl]at h;obtain⟨_,rfl,rfl⟩:=h;obtain⟨r',h1,h2⟩:=aa6 s hl (hρ x _ hx) (hρ i _ hy);exact fo h1 (fG s h2)
 case index t x i =>
  cases hx:bv env x with
  |none=>simp[hx]at h
  |some p =>
   cases hy:bv env i with
   |none=>simp[hx,hy]at h
   |some q =>
    cases hl:qT cfg.P t p q with
    |none=>simp[hx,hy,hl]at h
    |some r =>
     simp[hx,hy,hl]at h;obtain⟨rfl,rfl⟩:=h;obtain⟨r',h1,h2⟩:=aa9 (P:=cfg.P) hl (hρ x _ hx) (hρ i _ hy);exact fo h1 (fG s h2)
 case extract t i =>
  cases hx:bv env t with
  |none=>simp[hx]at h
  |some p =>
   simp only[hx,bk]at h;cases p<;>simp only at h<;>first|(cases h;done)|skip;rename_i vs;cases hg:vs[i]? with
   |none=>simp[hg]at h
   |some r =>
    simp[hg]at h;obtain⟨rfl,rfl⟩:=h;obtain⟨us,hu,hr⟩:=(hρ t _ hx).tupInv;obtain⟨u,hu2,hv2⟩:=hr.2 i _ hg;rw[hu];exact fo (s:=Instr.extract (.tuple us) i) (by simp[Instr.extract,hu2]) (fG s hv2)
 case makeFunc fn first caps =>
  cases fn<;>simp only at h<;>first|(cases h;done)|skip;rename_i f;split at h
  ·rename_i hf;split at h;rotate_left
   ·cases h
   rename_i hfb;cases hm:cC (bv env) caps.toList with
   |none=>simp[hm]at h
   |some cs =>
    simp[hm]at h;obtain⟨rfl,rfl⟩:=h;have hL:=CW hρ hm
    have e1:first.map ρ=#[]:=by
     have:first=#[]:=by simpa using hf
     rw[this];simp
    have e2:caps.map ρ=(caps.toList.map ρ).toArray:=qp (by simp);rw[e1,e2];have hv:=VR.fn (f:=f) hL.1 hL.2;rw[C2 hfb]at hv;exact fo (s:=Instr.makeFunc (.func f) #[] (caps.toList.map ρ).toArray) rfl (fG s hv)
  ·split at h;rotate_left
   ·cases h
   rename_i hcp;cases hm:cC (bv env) first.toList with
   |none=>simp[hm]at h
   |some cs =>
    simp[hm]at h;obtain⟨rfl,rfl⟩:=h;have hL:=CW hρ hm
    have e1:caps.map ρ=#[]:=by
     have:caps=#[]:=by simpa using hcp
     rw[this];simp
    have e2:first.map ρ=(first.toList.map ρ).toArray:=qp (by simp);rw[e1,e2];have hv:=VR.fn (f:=iS+f) hL.1 hL.2;rw[aad]at hv;exact fo (s:=Instr.makeFunc (.func f) (first.toList.map ρ).toArray #[]) rfl (fG s hv)
 case makeMap t r =>
  cases r<;>simp only at h<;>first|(cases h;done)|skip;split at h
  ·split at h
   ·cases h
   ·obtain⟨r',w1,h1,h2⟩:=acb s (t:=t);rw[Option.some.inj h]at h2;exact fo h1 h2
  ·cases h
 case lookup t m k ok =>
  cases hx:bv env m with
  |none=>simp[hx]at h
  |some p =>
   cases hy:bv env k with
   |none=>simp[hx,hy]at h
   |some q =>
    simp only[hx,hy,bk]at h;cases hm:gL mem p with
    |none=>simp[hm]at h
    |some es =>
     simp only[hm,bk]at h;split at h
     ·rename_i hfit;cases he:xF cfg.P t with
      |none=>simp[he]at h
      |some e =>
       cases hz:jq cfg.P e with
       |none=>simp[he,hz]at h
       |some z =>
        cases hf:gM es q with
        |none=>simp[he,hf]at h
        |some r =>
         simp only[he,hz,hf,bk,du]at h;cases h;obtain⟨r',h1,h2⟩:=ab1 (ok:=ok) s hm hfit he hz hf (hρ m _ hx) (hρ k _ hy);exact fo h1 (fG s h2)
     ·cases h
 case mapUpdate t m k x =>
  cases hx:bv env m with
  |none=>simp[hx]at h
  |some p =>
   cases hy:bv env k with
   |none=>simp[hx,hy]at h
   |some q =>
    cases hz:bv env x with
    |none=>simp[hx,hy,hz]at h
    |some y =>
     simp only[hx,hy,hz,bk]at h;cases hm:gL mem p with
     |none=>simp[hm]at h
     |some es =>
      simp only[hm,bk]at h;split at h
      ·rename_i hc;cases hf:mO es q y with
       |none=>simp[hf]at h
       |some out =>
        simp[hf]at h;obtain⟨rfl,rfl⟩:=h;obtain⟨w1,h1,h2⟩:=agX s hm hc.1 hc.2 hf (hρ m _ hx) (hρ k _ hy) (hρ x _ hz);exact QB h1 h2
      ·cases h
 case call c =>
  cases hcal:c.callee<;>simp only[hcal]at h<;>first|(cases h;done)|skip
  case builtin b =>
   cases ha:cC (bv env) c.args.toList with
   |none=>simp[ha]at h
   |some args =>
    simp only[ha,bk]at h;split at h
    ·cases h
    have hL:=CW hρ ha;have:=Vo (ty:=o.type) (consts:=c.args.map fun |.const _=>aC|_=>aD) s h hL;have e2:c.args.map ρ=(c.args.toList.map ρ).toArray:=qp (by simp);simp only[resolve,hcal,Sem.run_bind,Sem.run_pure,Result.andThen_ok,invoke,e2];exact this
  case value f =>
   cases hf:bv env f with
   |none=>simp[hf]at h
   |some fv =>
    cases ha:cC (bv env) c.args.toList with
    |none=>simp[hf,ha]at h
    |some args =>
     simp only[hf,ha,bk]at h;cases fv<;>simp only at h<;>first|(cases h;done)|skip;rename_i fid caps;have hL:=CW hρ ha;have hfv:=hρ f _ hf
     obtain⟨us,hrf,hl,hh⟩:∃us:List aR,ρ f=pE fid us/\gB Z w j caps us:=by
      generalize ρ f=uf at hfv;cases hfv;exact⟨_,rfl,‹_›,‹_›⟩
     have e2:c.args.map ρ=(c.args.toList.map ρ).toArray:=qp (by simp);split at h
     ·rename_i hfb;split at h
      ·cases h
      obtain⟨bA,hcall⟩:=Mi hp hi s h (gB.append ⟨hl,hh⟩ hL);rw[aae hfb]at hrf;simp only[resolve,hcal,hrf,Deferred.ofValue,Sem.run_bind,Sem.run_pure,Result.andThen_ok,invoke,e2];have e3:(us.toArray++(c.args.toList.map ρ).toArray++#[]:Array aR)=(us++c.args.toList.map ρ).toArray:=by simp
      rw[e3,Sl bA];exact hcall
     rename_i hfb;rw[C2 (Nat.lt_of_not_le hfb)]at hrf
     have both:lX cfg.P fid=aC/\Calls cfg.P fid (c.args.toList.map ρ++us).toArray w fun e w1=>∃u,e = .returned u/\dz cfg.P Z w j mem v mem' u w1:=by
      split at h
      ·split at h
       ·rename_i hfr;simp only[co]at hfr;exact⟨hfr.2,aan hi s h hfr.2 (hL.append ⟨hl,hh⟩)⟩
       ·cases h
      ·exact Mi hp hi s h (hL.append ⟨hl,hh⟩)
     obtain⟨bA,hcall⟩:=both;simp only[resolve,hcal,hrf,Deferred.ofValue,Sem.run_bind,Sem.run_pure,Result.andThen_ok,invoke,e2];have e3:(#[]++(c.args.toList.map ρ).toArray++us.toArray:Array aR)=(c.args.toList.map ρ++us).toArray:=by simp
     rw[e3,Sl bA];exact hcall
theorem Qe{env:List V}{ρ:fi->aR}(hρ:∀x v,bv env x=aA v->VR Z w j v (ρ x)):∀x v,bv (tD env) x=aA v->VR Z w j0 v (ρ x):=by
 intro x v h;have hr:qD (fun _=>aF) j j0:=fun i k h=>by cases h
 cases x with
 |tmp t =>
  simp only[bv,tD,fW,omi]at h;obtain⟨v0,h0,rfl⟩:=h;exact(hρ (.tmp t) v0 h0).ren2 hr
 |const c =>
  have h1:=hρ (.const c) v h;simp only[bv]at h;have h2:=h1.ren2 hr
  have e:Lite.ren2 (fun _=>aF) v=v:=by
   unfold px at h;split at h<;>first|(cases h;rfl)|(cases h;done)|skip;split at h<;>cases h;rfl
  rwa [e]at h2
 |global g=>simp[bv]at h
 |func f =>
  have h1:=hρ (.func f) v h;simp only[bv]at h;cases hfb:jt f iS<;>rw[hfb]at h<;>cases h;have h2:=h1.ren2 hr;exact h2
theorem QJ{cfg:bS}{call:de}(hp:i5 cfg.P call.pc)(hi:iK cfg.P call.ic){dr:Bool}{o:dF}{g:Option (Nat × Bool)}{bx sq rx:Bool}{env:List V}{ρ:fi->aR}{v:V}
  (s:SR cfg.P Z w j mem) (hρ:∀x v,bv env x=aA v->VR Z w j v (ρ x)) (h:eB cfg call dr ⟨o.dst,o.op,o.type,g,bx,sq,rx⟩ env mem=aA (v,mem')) :
  m4 cfg.P (dz cfg.P Z w j mem v mem') ((execOp ρ o).run cfg.P w):=by
 unfold eB at h;split at h;rotate_left
 ·exact IQ hp hi s hρ h
 cases ho:c8 cfg call aC ⟨o.dst,o.op,o.type,g,bx,sq,rx⟩ (tD env) []with
 |none=>grind
 |some r =>
  obtain⟨v1,m1⟩:=r;simp only[ho,bk]at h;have s0:SR cfg.P Z w j0 []:=⟨fun id o h=>by grind,fun id id' o o' g h=>by grind,fun _ _=>rfl,s.zin⟩
  cases m1 with
  |cons q qs =>
   simp only[omi]at h;obtain⟨v2,hsn,h⟩:=h;cases h;have key:=IQ hp hi s0 (Qe hρ) ho
   have imp:∀u w1,dz cfg.P Z w j0 [] v1 (q::qs) u w1->dz cfg.P Z w j mem v mem u w1:=by
    rintro u w1 ⟨Z1,j1,hv,s1,st,je⟩
    have no:∀g,¬bM Z j0 [] g:=by
     rintro g ⟨id,o,ho,_⟩;grind
    have za:Z1.a=Z.a:=funext fun t=>(st.ar t fun id o n ho=>by grind).2
    obtain⟨sf,_⟩:=ve (iF (q::qs) v1) Z1 (q::qs) s1;have hv2:=Ba s1 hsn (ids:=iF (q::qs) v1) (fun i hi=>hi) hv;have hz2:bO Z w (dV Z1 (Fz cfg.P j1 (q::qs) (iF (q::qs) v1))) w1:=st.z.trans (bO.or _ _ _)
    have hz3:∀g,g < w.heap.size->∀o,dV Z1 (Fz cfg.P j1 (q::qs) (iF (q::qs) v1)) g o↔Z g o:=fun g hg o=>⟨fun h=>by
     rcases h with h|⟨id,_,h2,h3⟩
     ·exact((st.keep g hg (no g)).2 o).1 h
     ·exact gU (st.owned g hg (pS s1 h2 h3)) (no g),fun h=>.inl (((st.keep g hg (no g)).2 o).2 h)⟩
    refine⟨_,j,hv2.mono (bO.refl _ _) (bE.zero _),s.world hz2 (fun g hg=>⟨(st.keep g (bM.lt s hg) (no g)).1,hz3 g (bM.lt s hg)⟩) sf.zin za,
     ⟨st.os,st.tape,st.output,st.size,fun g hg _=>⟨(st.keep g hg (no g)).1,hz3 g hg⟩,fun _ _ ho=>(bM.eqA za).1 ho,hz2,fun t h=>⟨h,congrFun za t⟩⟩,bE.refl _⟩
   revert key;unfold m4;split
   ·grind
   ·grind
   ·intro h;exact h.mono fun e w1 hx=>by
     grind
   grind
  |nil =>
   cases h;have key:=IQ hp hi s0 (Qe hρ) ho
   have imp:∀u w1,dz cfg.P Z w j0 [] v [] u w1->dz cfg.P Z w j mem v mem u w1:=by
    rintro u w1 ⟨Z1,j1,hv,s1,st,je⟩;have hj1:∀id,j1 id=none:=fun id=>s1.out id (jQ _)
    have no:∀g,¬bM Z j0 [] g:=by
     rintro g ⟨id,o,ho,_⟩;grind
    have za:Z1.a=Z.a:=funext fun t=>(st.ar t fun id o n ho=>by grind).2
    have hv':VR Z1 w1 j v u:=hv.mono (bO.refl _ _) fun id h e=>by grind
    refine⟨Z1,j,hv',s.world st.z (fun g hg=>st.keep g (bM.lt s hg) (no g)) s1.zin za,⟨st.os,st.tape,st.output,st.size,fun g hg _=>st.keep g hg (no g),fun _ _ ho=>(bM.eqA za).1 ho,st.z,fun t h=>⟨h,congrFun za t⟩⟩,bE.refl _⟩
   revert key;unfold m4;split
   ·grind
   ·grind
   ·intro h;exact h.mono fun e w1 hx=>by
     grind
   grind
end
section
variable {P:bu}{Z Z':Zs}{w w':be}{j j':J}{mem mem':List O}
structure St(Z:Zs)(w:be)(j:J)(env:List V)(a:Act):Prop where
 len:a.tmps.size=env.length
 val:∀(i:Nat) (v:V),env[i]? = aA v->∃u,a.tmps[i]? = aA u/\VR Z w j v u
theorem St.mono{env:List V}{a:Act}(s:St Z w j env a)(hz:bO Z w Z' w')(hj:bE j j'):St Z' w' j' env a :=
 ⟨s.len,fun i v h=>let ⟨u,h1,h2⟩:=s.val i v h;⟨u,h1,h2.mono hz hj⟩⟩
theorem St.eval{env:List V}{a:Act}(s:St Z w j env a):∀x v,bv env x=aA v->VR Z w j v (a.eval x):=by
 intro x v h;cases x with
 |tmp t =>
  simp only[bv]at h;obtain⟨u,h1,h2⟩:=s.val t v h;simp[Act.eval,h1,jr];exact h2
 |const c =>
  simp only[bv]at h;exact Gg h
 |global g=>simp[bv]at h
 |func f =>
  simp only[bv]at h;cases hfb:jt f iS<;>rw[hfb]at h<;>cases h;have hv:VR Z w j (.fn f []) (pE f []):=.fn (us:=[]) rfl fun i c u hc=>by simp at hc
  rw[C2 (o7 ▸ hfb)]at hv;exact hv
theorem St.put{env:List V}{a:Act}(s:St Z w j env a)(d:Option Nat){v:V}{u:aR}(hv:VR Z w j v u):St Z w j (fH env d v) (a.put d u):=by
 cases d with
 |none=>exact s
 |some d =>
  refine⟨by simp[fH,Act.put,s.len],fun i x hx=>?_⟩;simp only[fH,Act.put]at hx |-
  rw[Fx]
  by_cases e:d=i
  ·subst e
   have bd:d < env.length:=by
    have:=(bX.1 hx).1;simpa using this
   rw[gR bd]at hx;cases hx;exact⟨u,by rw[aU rfl,aU (by rw[s.len];exact bd)],hv⟩
  ·rw[ia e]at hx;rw[aY e];exact s.val i x hx
def uD(ops:Array dF)(o:dF)(q:bj):Prop :=
 ∃g bx sq rx,q=⟨o.dst,o.op,o.type,g,bx,sq,rx⟩/\((o.guard=aF/\g=aF)∨∃k want d,o.guard=aA (k,want)/\(ops[k]?).bind (·.dst)=aA d/\g=aA (d,want))
def pb(ops:Array dF)(opers:List dF)(l:List bj):Prop :=
 l.length=opers.length/\∀(k:Nat) (o:dF) (q:bj),opers[k]? = aA o->l[k]? = aA q->uD ops o q
theorem adA{ops:Array dF}{o:dF}{q:bj}(h:AD ops o=aA q):uD ops o q:=by
 unfold AD at h;split at h
 ·rename_i hg;cases h;exact⟨aF,_,_,_,rfl,.inl ⟨hg,rfl⟩⟩
 ·rename_i k want hg;cases hd:(ops[k]?).bind (·.dst)with
  |none=>simp[hd]at h
  |some d=>simp[hd]at h;subst h;exact⟨_,_,_,_,rfl,.inr ⟨k,want,d,hg,hd,rfl⟩⟩
theorem adE{ops:Array dF}{opers:List dF}{l:List bj}(h:cC (AD ops) opers=aA l):pb ops opers l:=by
 obtain⟨h1,h2⟩:=kZ h;refine⟨h1,fun k o q ho hq=>?_⟩;obtain⟨o',ho',hp⟩:=h2 k q hq;rw[ho]at ho';cases ho';exact adA hp
theorem Vi{ops:Array dF}{o:dF}{q:bj}(pr:Nat->Bool)(h:uD ops o q):uD ops o (Ch pr q):=by
 obtain⟨g,bx,sq,rx,rfl,hg⟩:=h;unfold Ch;split
 ·rename_i d _ _;cases pr (5000000+d)
  ·exact⟨g,bx,sq,rx,rfl,hg⟩
  ·exact⟨g,bx,sq,aC,rfl,hg⟩
 ·rename_i d _ _;cases pr (7000000+d)
  ·exact⟨g,bx,sq,rx,rfl,hg⟩
  ·exact⟨g,aC,sq,rx,rfl,hg⟩
 ·rename_i d _ _;cases pr (7000000+d)
  ·exact⟨g,bx,sq,rx,rfl,hg⟩
  ·exact⟨g,aC,sq,rx,rfl,hg⟩
 ·rename_i d _ _;cases pr (7000000+d)
  ·exact⟨g,bx,sq,rx,rfl,hg⟩
  ·exact⟨g,aC,sq,rx,rfl,hg⟩
 ·exact⟨g,bx,sq,rx,rfl,hg⟩
theorem adB{ops:Array dF}{opers:List dF}{l:List bj}(pr:Nat->Bool)(h:pb ops opers l):pb ops opers (l.map (Ch pr)):=by
 refine⟨by rw[d9];exact h.1,fun k o q ho hq=>?_⟩;rw[fW,omi]at hq;obtain⟨q0,hq0,rfl⟩:=hq;exact Vi pr (h.2 k o q0 ho hq0)
theorem OJ:∀(l:List bj) (fs:List (Bool × Bool × Bool)),(ou l fs).length=l.length/\∀(k:Nat) (q:bj),(ou l fs)[k]? = aA q->∃q0 bx sq rx,l[k]? = aA q0/\q=⟨q0.dst,q0.op,q0.type,q0.guard,bx,sq,rx⟩/\(q0.bx=aC->bx=aC)
 | [],fs=>⟨by cases fs<;>rfl,fun k q h=>by cases fs<;>simp[ou]at h⟩
 |q::l,[]=>⟨rfl,fun k q h=>⟨q,q.bx,q.sq,q.rx,h,rfl,id⟩⟩
 |q::l,x::fs=>by
  obtain⟨h1,h2⟩:=OJ l fs;refine⟨by simp[ou,h1],fun k p hp=>?_⟩;cases k with
  |zero=>simp[ou]at hp;exact⟨q,x.1 ||q.bx,x.2.1,x.2.2,rfl,hp.symm,fun h=>by simp[h]⟩
  |succ k=>exact h2 k p (by simpa[ou]using hp)
def UG(o:dF)(q:bj):Prop:=∃T d x ty sq rx,o.op = .store T (.tmp d) x/\o.dst=aF/\o.guard=aF/\q=⟨aA d,.box T x,ty,aF,aC,sq,rx⟩
def Ly(ops:Array dF)(o:dF)(q:bj):Prop:=uD ops o q∨UG o q
def n4(ops:Array dF)(opers:List dF)(l:List bj):Prop :=
 l.length=opers.length/\∀(k:Nat) (o:dF) (q:bj),opers[k]? = aA o->l[k]? = aA q->Ly ops o q
theorem pb.drawn{ops:Array dF}{opers:List dF}{l:List bj}(h:pb ops opers l):n4 ops opers l:=⟨h.1,fun k o q h1 h2=>.inl (h.2 k o q h1 h2)⟩
theorem adD{ops:Array dF}{opers:List dF}{l:List bj}(h:pb ops opers l):n4 ops opers (Ae l):=by
 refine⟨by simp[Ae,h.1],fun k o q ho hq=>?_⟩;unfold Ae at hq;rw[fW]at hq;cases hl:l[k]? with
 |none=>simp[hl]at hq
 |some q0 =>
  simp only[hl,du,Option.some.injEq]at hq;have hp:=h.2 k o q0 ho hl;subst hq;obtain⟨g,bx,sq,rx,rfl,hg⟩:=id hp;unfold PG;simp only;split
  ·split
   ·rename_i hop _ d hd;cases hc:Dq l d _ with
    |true=>exact .inl ⟨g,aC,sq,rx,by simp only[aZ,hd,hop],hg⟩
    |false=>exact .inl hp
   ·exact .inl hp
  ·rename_i T d y hop;cases hc:(Dq l d T && g.isNone && o.dst.isNone)with
   |true =>
    simp only[co,FT]at hc;obtain⟨⟨_,hgn⟩,hdn⟩:=hc;refine .inr ⟨T,d,y,_,sq,rx,hop,hdn,?_,rfl⟩;rcases hg with⟨h1,_⟩|⟨k,want,d,_,_,h3⟩
    ·exact h1
    ·rw[hgn]at h3;cases h3
   |false=>exact .inl hp
  ·exact .inl hp
theorem adC{ops:Array dF}{opers:List dF}{l:List bj}(h:n4 ops opers l)(fs:List (Bool × Bool × Bool)):n4 ops opers (ou l fs):=by
 obtain⟨h1,h2⟩:=OJ l fs;refine⟨h1.trans h.1,fun k o q ho hq=>?_⟩;obtain⟨q0,bx,sq,rx,hq0,rfl,hbx⟩:=h2 k q hq;rcases h.2 k o q0 ho hq0 with⟨g,_,_,_,rfl,hg⟩|⟨T,d,x,ty,sq0,rx0,e1,e2,e3,rfl⟩
 ·exact .inl ⟨g,bx,sq,rx,rfl,hg⟩
 ·have hb:bx=true:=hbx rfl;subst hb;exact .inr ⟨T,d,x,ty,sq,rx,e1,e2,e3,rfl⟩
theorem agN{ops:Array dF}{opers:List dF}{l l':List bj}(h:pb ops opers l):∀(r:List (Nat × Bool)),Bh ops l r=aA l'->n4 ops opers l'/\w7 ops l'=true:=by
 intro r
 induction r with
 |nil=>intro h;cases h
 |cons x r ih =>
  obtain⟨m,lz⟩:=x;intro h';unfold Bh at h'
  have key:∀l0,n4 ops opers l0->(if w7 ops (ou l0 (HQ m l0 (kH ops.toList [])))=aC then aA (ou l0 (HQ m l0 (kH ops.toList []))) else Bh ops l r)=aA l'->n4 ops opers l'/\w7 ops l'=true:=by
   intro l0 h0 h';split at h'
   ·rename_i hd;cases h';exact⟨adC h0 _,hd⟩
   ·exact ih h'
  cases lz
  ·exact key l h.drawn h'
  ·exact key (Ae l) (adD h) h'
theorem St.fill{env:List V}{a:Act}(s:St Z w j env a){d:Nat}{v:V}{u:aR}(hu:a.tmps[d]? = aA u)(hv:VR Z w j v u):St Z w j (env.set d v) a:=by
 refine⟨by simp[s.len],fun i x hx=>?_⟩
 by_cases e:d=i
 ·subst e;have bd:d < env.length:=by have:=(bX.1 hx).1;simpa using this
  rw[gR bd]at hx;cases hx;exact⟨u,hu,hv⟩
 ·rw[ia e]at hx;exact s.val i x hx
theorem Fl{ops:Array dF}{o:dF}{q:bj}{env:List V}{a:Act}{b:Bool}(h:uD ops o q)(s:St Z w j env a)(hw:fI env q.guard=aA b):Region.wanted o (yielded ops a.tmps)=b:=by
 obtain⟨g,_,_,_,rfl,hg⟩:=h;rcases hg with⟨h1,rfl⟩|⟨k,want,d,h1,h2,rfl⟩
 ·simp[fI]at hw;subst hw;simp[Region.wanted,h1]
 ·simp only[fI]at hw
  have hy:yielded ops a.tmps k=match a.tmps[d]? with|some (.bool b)=>aA b|_=>none:=by
   simp only[yielded,h2,bk];rfl
  simp only[Region.wanted,h1,hy];split at hw
  ·rename_i b0 he;obtain⟨u,hu,hv⟩:=s.val d _ he;cases hv;cases hw;rw[hu];cases b0<;>cases want<;>rfl
  ·rename_i he;obtain⟨u,hu,hv⟩:=s.val d _ he;cases hw;rw[hu];cases hv;rfl
  ·cases hw
structure gQ(l:List bj)(a a':Act):Prop where
 defs:a'.defers=a.defers
 size:a'.tmps.size=a.tmps.size
 tmps:∀i,(∀o∈l,o.dst≠aA i)->a'.tmps[i]? = a.tmps[i]?
theorem gQ.refl(l:List bj)(a:Act):gQ l a a:=⟨rfl,rfl,fun _ _=>rfl⟩
theorem gQ.put{l:List bj}{a a':Act}{o:bj}(h:gQ l a a')(ho:o∈l)(u:aR):gQ l a (a'.put o.dst u):=by
 obtain⟨h1,h0,h2⟩:=h;cases hd:o.dst with
 |none=>exact⟨h1,h0,h2⟩
 |some d =>
  refine⟨h1,?_,fun i hi=>?_⟩
  ·show(a'.tmps.setIfInBounds d u).size=_;rw[Array.size_setIfInBounds];exact h0
  have:d≠i:=fun e=>hi o ho (by rw[hd,e])
  show(a'.tmps.setIfInBounds d u)[i]? = _;rw[K8 this];exact h2 i hi
theorem gQ.cons{l:List bj}{o:bj}{a a1 a':Act}{u:aR}(h:gQ l (a.put o.dst u) a'):gQ (o::l) a a':=by
 have h0:=(gQ.refl (o::l) a).put (o:=o) (by simp) u;exact⟨h.1.trans h0.1,h.2.trans h0.2,fun i hi=>(h.3 i fun q hq=>hi q (by simp[hq])).trans (h0.3 i hi)⟩
abbrev FR(r:Option Nat):Fence:={ Fence.wide with round:=r }
theorem Mj{r:Option Nat}{n:Nat}{P:bu}{f:bL}{args:Array aR}{w:be}{R:Ending->be->Prop}(h:Calls P f args w R):CallsIn (FR r) n P f args w R:=by
 have h1:CallsIn Fence.wide n P f args w R:=callsIn_wide.2 h;cases r with
 |none=>exact h1
 |some l=>exact h1.inRound l
theorem m4.uponIn{o:dF}{a:Act}{next:Act->be->Prop}{Q:Exit->Act->be->Prop}{Post:aR->be->Prop}{res:Result Next}{r:Option Nat}{n:Nat}
  (h:m4 P Post res) (hn:∀u w',Post u w'->next (a.put o.dst u) w'):o.uponIn (FR r) n P a next Q res:=by
 cases res with
 |ok x w1 =>
  cases x<;>first|exact h.elim|skip
  case value u=>exact hn _ _ h
  case skip=>exact hn _ _ h
  case enter f args=>exact⟨fun e=>(by cases e),Mj (Calls.mono h fun e w'' ⟨u,he,hp⟩=>by subst he;exact hn _ _ hp)⟩
 |halt x w1=>exact h.elim
theorem QF{cfg:bS}{call:de}{dr:Bool}{o:bj}{env:List V}{mem:List O}{v:V}{m:List O}(h:c8 cfg call dr o env mem=aA (v,m)):∀c,o.op≠.defer c:=by
 intro c e;simp[c8,e]at h
theorem IP{cfg:bS}{call:de}{dr:Bool}{o:bj}{env:List V}{mem:List O}{v:V}{m:List O}(h:eB cfg call dr o env mem=aA (v,m)):∀c,o.op≠.defer c:=by
 unfold eB at h;split at h
 ·simp only[obi]at h;obtain⟨⟨v1,m1⟩,h1,_⟩:=h;exact QF h1
 ·exact QF h
theorem Az{o:dF}{a:Act}{w:be}{next:Act->be->Prop}{Q:Exit->Act->be->Prop}{Post:aR->be->Prop}{r:Option Nat}{n:Nat}(hd:∀c,o.op≠.defer c)
  (h:m4 P Post ((execOp a.eval o).run P w)) (hn:∀u w',Post u w'->next (a.put o.dst u) w'):o.wpIn (FR r) n P a w next Q:=by
 refine⟨fun _ _=>trivial,?_⟩;rw[Oper.semAt_eq _ _ _ hd];exact h.uponIn hn
def yW(P:bu)(Z:Zs)(w:be)(j:J)(mem:List O)(s':S)(a:Act)(w':be):Prop :=
 ∃Z' j',St Z' w' j' s'.env a/\SR P Z' w' j' s'.mem/\bh Z w j mem Z' w' j' s'.mem/\bE j j'
theorem adk{r:Option Nat}{n:Nat}{cfg:bS}{call:de}(hp:i5 cfg.P call.pc)(hi:iK cfg.P call.ic){ops:Array dF}{Q:Exit->Act->be->Prop}{dr:Bool} :
  ∀(opers:List dF) (l:List bj) (env:List V) (mem:List O) (s':S) (a:Act) (w:be) (Z:Zs) (j:J),pb ops opers l->gW cfg call dr l ⟨env,mem⟩=aA s'->St Z w j env a->SR cfg.P Z w j mem ->
   (∀a' w',yW cfg.P Z w j mem s' a' w'->gQ l a a'->Q .normal a' w')->wpListIn (FR r) n cfg.P ops Q opers a w:=by
 intro opers
 induction opers with
 |nil =>
  intro l env mem s' a w Z j hl h st sr hQ;have:l=[]:=wx hl.1;subst this;simp[gW]at h;subst h;exact hQ a w ⟨Z,j,st,sr,bh.refl _ _ _ _,bE.refl _⟩ (gQ.refl _ _)
 |cons o opers ih =>
  intro l env mem s' a w Z j hl h st sr hQ;cases l with
  |nil=>have:=hl.1;simp at this
  |cons q rest =>
   have hq:=hl.2 0 o q rfl rfl;have hr:pb ops opers rest:=⟨by have:=hl.1;simpa using this,fun k o' q' h1 h2=>hl.2 (k+1) o' q' (by simpa using h1) (by simpa using h2)⟩
   simp only[gW]at h;cases hw:fI env q.guard with
   |none=>simp[hw]at h
   |some b =>
    have hwt:=Fl hq st hw;obtain⟨g,bx,sq,rx,rfl,_⟩:=hq;simp only[wpListIn,hwt];cases b
    ·simp[hw]at h;rw[aY (by simp)];exact⟨fun _ _=>trivial,ih rest _ mem s' _ w Z j hr h (st.put o.dst (.tup (us:=[]) rfl fun i c u hc=>by simp at hc)) sr fun a' w' h1 h2=>hQ a' w' h1 (gQ.cons (a1:=a) (o:=⟨o.dst,o.op,o.type,g,bx,sq,rx⟩) h2)⟩
    ·simp only[hw,bk,cZ]at h;rw[aU rfl];cases ho:eB cfg call (fk dr ⟨o.dst,o.op,o.type,g,bx,sq,rx⟩) ⟨o.dst,o.op,o.type,g,bx,sq,rx⟩ env mem with
     |none=>simp[ho]at h
     |some r =>
      obtain⟨v,m⟩:=r;simp only[ho,bk]at h;have hop:=QJ hp hi sr st.eval ho;refine Az (IP ho) hop ?_;rintro u w1 ⟨Z1,j1,hv,s1,stp,je⟩;refine ih rest _ m s' _ w1 Z1 j1 hr h ((st.mono stp.z je).put o.dst hv) s1 fun a' w' ⟨Z2,j2,h1,h2,h3,h4⟩ hk=>hQ a' w' ⟨Z2,j2,h1,h2,stp.trans h3,je.trans h4⟩ (gQ.cons (a1:=a) (o:=⟨o.dst,o.op,o.type,g,bx,sq,rx⟩) hk)
theorem aeh{r:Option Nat}{n:Nat}{cfg:bS}{call:de}(hp:i5 cfg.P call.pc)(hi:iK cfg.P call.ic){ops:Array dF}{Q:Exit->Act->be->Prop}{id:Nat}{l:List bj}{env:List V}{s':S}{a:Act}
  (hl:pb ops ops.toList l) (h:gW cfg call aD l ⟨env,mem⟩=aA s') (st:St Z w j env a) (sr:SR cfg.P Z w j mem) (hQ:∀a' w',yW cfg.P Z w j mem s' a' w'->gQ l a a'->Q .normal a' w') :
  (Code.region id ops aD).wpIn (FR r) n cfg.P Q a w :=
 wpIn_region_list (adk hp hi ops.toList l env mem s' a w Z j hl h st sr hQ)
end
section
variable {P:bu}{Z Z':Zs}{w w':be}{j j':J}{mem mem':List O}
def lp(cfg:bS)(call:de)(o:bj)(s:S)(v:V)(s':S):Prop :=
 (fI s.env o.guard=aA aC/\eB cfg call (fk aC o) o s.env s.mem=aA (v,s'.mem)/\s'.env=fH s.env o.dst v) ∨
 (fI s.env o.guard=aA aD/\v = .tup []/\s'.mem=s.mem/\s'.env=fH s.env o.dst v)
theorem agL{cfg:bS}{call:de}:∀(l:List bj) (s s':S),gW cfg call aC l s=aA s' ->
  ∃(vs:Nat->V) (st:Nat->S),st 0=s/\st l.length=s'/\∀(k:Nat) (o:bj),l[k]? = aA o->lp cfg call o (st k) (vs k) (st (k+1)):=by
 intro l
 induction l with
 |nil=>intro s s' h;simp[gW]at h;subst h;exact⟨fun _=>.junk,fun _=>s,rfl,rfl,fun k o h=>by grind⟩
 |cons o l ih =>
  intro s s' h;simp only[gW]at h
  have fin:∀(v:V) (s1:S),lp cfg call o s v s1->gW cfg call aC l s1=aA s'->∃(vs:Nat->V) (st:Nat->S),st 0=s/\st (o::l).length=s'/\∀(k:Nat) (q:bj),(o::l)[k]? = aA q->lp cfg call q (st k) (vs k) (st (k+1)):=by
   intro v s1 h1 h2;obtain⟨vs,st,e0,e1,e2⟩:=ih s1 s' h2;refine⟨fun k=>match k with|0=>v|k+1=>vs k,fun k=>match k with|0=>s|k+1=>st k,rfl,e1,fun k q hq=>?_⟩;grind
  cases hw:fI s.env o.guard with
  |none=>grind
  |some b =>
   cases b
   ·simp[hw]at h;exact fin (.tup []) ⟨fH s.env o.dst (.tup []),s.mem⟩ (.inr ⟨hw,rfl,rfl,rfl⟩) h
   ·simp only[hw,bk,cZ]at h;cases ho:eB cfg call (fk aC o) o s.env s.mem with
    |none=>grind
    |some r =>
     obtain⟨v,m⟩:=r;simp only[ho,bk]at h;exact fin v _ (.inl ⟨hw,ho,rfl⟩) h
theorem uZ{e1 e2:List V}{x:fi}(h:∀t,x = .tmp t->e1[t]? = e2[t]?):bv e1 x=bv e2 x:=by
 cases x<;>simp[bv];grind
theorem CV{e1 e2:List V}{l:List fi}(h:∀x∈l,bv e1 x=bv e2 x):cC (bv e1) l=cC (bv e2) l:=by
 induction l with
 |nil=>rfl
 |cons x l ih=>simp only[cC];grind
theorem Q1{e1 e2:List V}{l:List (Nat × fi)}(h:∀p∈l,bv e1 p.2=bv e2 p.2):cC (pW e1) l=cC (pW e2) l:=by
 induction l with
 |nil=>rfl
 |cons x l ih=>simp only[cC,pW];grind
theorem QD{cfg:bS}{call:de}{dr:Bool}{o:bj}{e1 e2:List V}(h:∀x∈o.op.operands,bv e1 x=bv e2 x)(m:List O):c8 cfg call dr o e1 m=c8 cfg call dr o e2 m:=by
 have om:∀(x:Option fi),(∀y,x=aA y->bv e1 y=bv e2 y)->x.map (bv e1)=x.map (bv e2):=by
  intro x hx;cases x with
  |none=>rfl
  |some y=>simp[hx y rfl]
 simp only[c8];cases hop:o.op<;>simp only[hop,Op.operands,Call.operands]at h |-
 case build t ps =>
  rw[Q1 (e1:=e1) (e2:=e2) fun p hp=>h p.2 (by simp;exact⟨p.1,by simpa using hp⟩)]
 case buildSlice t n ps =>
  rw[Q1 (e1:=e1) (e2:=e2) fun p hp=>h p.2 (by simp;exact⟨p.1,by simpa using hp⟩)]
 case makeFunc fn first caps =>
  cases fn<;>simp only;rw[CV (l:=caps.toList) (e1:=e1) (e2:=e2) fun x hx=>h x (by simp;exact .inr (by simpa using hx)),CV (l:=first.toList) (e1:=e1) (e2:=e2) fun x hx=>h x (by simp;exact .inl (by simpa using hx))]
 case slice t x lo hi mx =>
  rw[h x (by simp),om lo fun y hy=>h y (by simp[hy]),om hi fun y hy=>h y (by simp[hy]),om mx fun y hy=>h y (by simp[hy])]
 case call c =>
  cases hc:c.callee<;>simp only[hc]at h |-
  ·rename_i f;rw[h f (by simp),CV (e1:=e1) (e2:=e2) fun x hx=>h x (by simp;exact .inr (by simpa using hx))]
  ·rw[CV (e1:=e1) (e2:=e2) fun x hx=>h x (by simpa using hx)]
 case makeMap t r=>cases r<;>simp
 all_goals first
  |rfl
  |(simp at h;simp[h];done)
  |(simp at h;obtain⟨h1,h2⟩:=h;rw[h1,h2])
  |(simp at h;obtain⟨h1,h2,h3⟩:=h;rw[h1,h2,h3])
  |(simp at h;rw[h])
theorem Qr{cfg:bS}{call:de}{o:bj}{env:List V}{v:V}(hw:lc o.op=aD)(hcb:gl o.op=aC->o.bx=aD)(h:c8 cfg call aC o env mem=aA (v,mem')):mem'=mem:=by
 simp only[c8]at h;cases hop:o.op<;>simp only[hop,lc]at h hw<;>first|(cases h;done)|(cases hw;done)|skip
 case move x =>
  cases hx:bv env x with
  |none=>simp[hx]at h
  |some a =>
   simp only[hx,bk,bK,gP,dw,dI]at h;cases h;rfl
 case assign x =>
  cases hx:bv env x with
  |none=>simp[hx]at h
  |some a =>
   simp only[hx,bk,bK,gP,dw,dI]at h;cases a<;>simp at h<;>exact h.2.symm
 case load t a =>
  simp only[obi]at h;obtain⟨p,_,h⟩:=h;split at h
  ·cases h
  ·simp only[omi]at h;obtain⟨_,_,h⟩:=h;cases h;rfl
 case nilCheck x =>
  simp only[obi]at h;obtain⟨p,_,h⟩:=h;split at h
  ·cases h;rfl
  ·cases h
 case pick c a b =>
  cases hc:bv env c with
  |none=>simp[hc]at h
  |some vc =>
   cases ha:bv env a with
   |none=>simp[hc,ha]at h
   |some va =>
    cases hb:bv env b with
    |none=>simp[hc,ha,hb]at h
    |some vb =>
     simp only[hc,ha,hb,bk]at h;cases vc<;>simp at h;exact h.2.symm
 case makeFunc fn first caps =>
  cases fn<;>simp only at h<;>first|(cases h;done)|skip
  repeat' split at h
  all_goals first|(cases h;done)|(simp only[omi]at h;obtain⟨_,_,h⟩:=h;cases h;rfl)
 case field st x f =>
  cases hx:bv env x with
  |none=>simp[hx]at h
  |some p =>
   simp only[hx,bk]at h;cases p<;>simp only at h<;>first|(cases h;done)|skip;simp only[obi,omi]at h;obtain⟨_,_,_,_,h⟩:=h;cases h;rfl
 case extract t i =>
  cases hx:bv env t with
  |none=>simp[hx]at h
  |some p =>
   simp only[hx,bk]at h;cases p<;>simp only at h<;>first|(cases h;done)|skip;simp only[omi]at h;obtain⟨_,_,h⟩:=h;cases h;rfl
 case lookup t m k ok =>
  cases hx:bv env m with
  |none=>simp[hx]at h
  |some p =>
   cases hy:bv env k with
   |none=>simp[hx,hy]at h
   |some q =>
    simp only[hx,hy,bk]at h;simp only[obi]at h;obtain⟨_,_,h⟩:=h;split at h
    ·simp only[obi,omi]at h;obtain⟨_,_,_,_,_,_,h⟩:=h;cases h;rfl
    ·cases h
 case call c =>
  cases hc:c.callee<;>simp only[hc]at h hw<;>first|(cases h;done)|skip
  case builtin b =>
   simp only[obi]at h;obtain⟨args,_,h⟩:=h;split at h
   ·cases h
   cases b<;>simp at hw<;>simp only[i6]at h
   ·unfold qW at h;split at h
    ·simp only[omi]at h;obtain⟨_,_,h⟩:=h;cases h;rfl
    ·cases h
   ·cases args<;>simp only[pF]at h
    ·cases h
    ·simp only[omi]at h;obtain⟨_,_,h⟩:=h;cases h;rfl
   ·cases args<;>simp only[pF]at h
    ·cases h
    ·simp only[omi]at h;obtain⟨_,_,h⟩:=h;cases h;rfl
  case value f =>
   simp only[obi]at h;obtain⟨fv,_,args,_,h⟩:=h;cases fv<;>simp only at h<;>first|(cases h;done)|skip;split at h
   ·cases h
   rw[hcb (by simp[hop,gl,hc])]at h;simp only[iZ,dw,dI]at h;unfold jR at h;split at h
   ·cases h
   ·split at h
    ·simp only[obi]at h;obtain⟨as0,_,r,_,h⟩:=h
     have tk:∀(ad:Bool),(qj (ad && !aC) mem r).2=mem:=by
      intro ad;simp only[bK,gP];cases r<;>first|rfl|exact agB _ _
     split at h
     ·split at h
      ·cases h
      ·rename_i hz;simp only[dL,Bool.not_eq_true,Bool.not_eq_false',List.isEmpty_iff]at hz;rw[hz]at h;simp only[freezeAll]at h;injection h with h
       have:=ef Prod.snd h;rw[tk]at this;exact this.symm
     ·injection h with h
      have:=ef Prod.snd h;rw[tk]at this;exact this.symm
    ·cases h
 case slice t x lo hi mx =>
  simp only[obi]at h;obtain⟨_,_,h⟩:=h;split at h
  ·cases h
  ·simp only[omi]at h;obtain⟨_,_,h⟩:=h;cases h;rfl
 case indexAddr t x i =>
  simp only[obi]at h;obtain⟨_,_,_,_,h⟩:=h;split at h
  ·cases h
  ·simp only[omi]at h;obtain⟨_,_,h⟩:=h;cases h;rfl
 all_goals
  (simp only[obi,omi]at h
   first
   |(obtain⟨_,_,h⟩:=h;cases h;rfl)
   |(obtain⟨_,_,_,_,h⟩:=h;cases h;rfl)
   |(obtain⟨_,_,_,_,_,_,h⟩:=h;cases h;rfl))
theorem Uk{o:bj}(hx:o.rx=aD)(h:dP o=aD):fk aC o=aC/\(gl o.op=aC->o.bx=aD)/\(lc o.op=aD∨((pL o.op=aC∨vj o.op=aC∨qU o.op=aC)/\o.bx=aC)):=by
 unfold dP at h;rw[hx,gb,dL,qu]at h;refine⟨by unfold fk;grind,fun hc=>by grind,?_⟩;grind
theorem QI{cfg:bS}{call:de}{dr:Bool}{o:bj}{env:List V}{v:V}(hx:o.rx=aC)(h:eB cfg call dr o env mem=aA (v,mem')):mem'=mem/\∀m2,eB cfg call dr o env m2=aA (v,m2):=by
 unfold eB at h |-
 rw[aU hx]at h;simp only[obi]at h;obtain⟨⟨v1,m1⟩,h1,h2⟩:=h;cases m1 with
 |cons _ _ =>
  simp only[omi]at h2;grind
 |nil =>
  grind
theorem oJ{cfg:bS}{call:de}{dr:Bool}{o:bj}{env:List V}(hx:o.rx=aD)(m:List O):eB cfg call dr o env m=c8 cfg call dr o env m:=by
 unfold eB;grind
theorem ada{cfg:bS}{call:de}{dr:Bool}{o:bj}{e1 e2:List V}(h:∀x∈o.op.operands,bv e1 x=bv e2 x)(m:List O):eB cfg call dr o e1 m=eB cfg call dr o e2 m:=by
 unfold eB;rw[QD h m];rw[QD (e1:=tD e1) (e2:=tD e2) (fun x hx=>?_) []];have:=h x hx;cases x with
 |tmp t=>simp only[bv,tD,fW]at this |-;grind
 |_=>rfl
theorem Md{cfg:bS}{call:de}{dr:Bool}{o:bj}{env:List V}{v:V}(hb:pL o.op=aC)(hx:o.bx=aC)(h:c8 cfg call dr o env mem=aA (v,mem')):mem'=mem/\∀m2,c8 cfg call dr o env m2=aA (v,m2):=by
 simp only[c8,hx]at h |-
 cases hop:o.op<;>simp only[hop,pL]at h hb |-<;>first|(cases hb;done)|skip;simp only[obi]at h |-
 grind
theorem LN{cfg:bS}{call:de}{dr:Bool}{o:bj}{env:List V}{v:V}(hb:qU o.op=aC)(hx:o.bx=aC)(h:c8 cfg call dr o env mem=aA (v,mem')):mem'=mem/\∀m2,c8 cfg call dr o env m2=aA (v,m2):=by
 simp only[c8,hx]at h |-
 cases hop:o.op<;>simp only[hop,qU]at h hb |-<;>first|(cases hb;done)|skip;simp only[obi]at h |-
 grind
theorem ac0{x:V}(h:pR x=aC)(m m2:List O):og m x=og m2 x:=by
 cases x<;>first|rfl|(cases h;done)
theorem ac3{P:bu}{x:V}(h:pR x=aC)(m m2:List O)(t:aO)(lo hi mx:Option (Option V)):lK P m t x lo hi mx=lK P m2 t x lo hi mx:=by
 unfold lK;cases P.underlying t with
 |none=>cases x<;>rfl
 |some d=>cases x<;>first|(cases h;done)|(cases d<;>rfl)
theorem ac1{P:bu}{x:V}(h:pR x=aC)(m m2:List O)(t:aO)(i:V):kp P m t x i=kp P m2 t x i:=by
 cases x<;>first|rfl|(cases h;done)
theorem ac2{P:bu}{x:V}(h:pR x=aC)(m m2:List O)(t:aO):nH P m t x=nH P m2 t x:=by
 unfold nH;cases P.underlying t with
 |none=>cases x<;>rfl
 |some d=>cases x<;>first|(cases h;done)|(cases d<;>rfl)
theorem F8{cfg:bS}{call:de}{dr:Bool}{o:bj}{env:List V}{v:V}(hb:po o.op=aC)(hx:o.bx=aC)(hs:o.sq=aD∨vj o.op=aC)(h:c8 cfg call dr o env mem=aA (v,mem')):mem'=mem/\∀m2,c8 cfg call dr o env m2=aA (v,m2):=by
 have hsq:o.sq=false:=by
  rcases hs with h1|h1
  ·exact h1
  ·cases hsq:o.sq with
   |false=>rfl
   |true =>
    exfalso;simp only[c8,hx,hsq]at h;cases hop:o.op<;>simp only[hop,vj]at h h1<;>first|(cases h1;done)|skip;rename_i c;cases hc:c.callee<;>simp only[hc]at h h1<;>first|(cases h1;done)|skip;rename_i b;cases b<;>simp only at h1<;>first|(cases h1;done)|skip;simp only[obi]at h;obtain⟨_,_,h⟩:=h;simp[tB]at h
 simp only[c8,hx,hsq,aP,gb,qt]at h |-
 cases hop:o.op<;>simp only[hop,po]at h hb |-<;>first|(cases hb;done)|skip
 case slice t x lo hi mx =>
  simp only[obi]at h |-
  obtain⟨a,ha,h⟩:=h;split at h
  ·cases h
  ·rename_i hn;simp only[dL,kE,Ld]at hn;simp only[omi]at h;obtain⟨r,hr,h⟩:=h;cases h;exact⟨rfl,fun m2=>⟨a,ha,by rw[hn];simp only[dL,bK,dw,dI];rw[ac3 hn m2 mem,hr];rfl⟩⟩
 case indexAddr t x i =>
  simp only[obi]at h |-
  obtain⟨a,ha,b,hb',h⟩:=h;split at h
  ·cases h
  ·rename_i hn;simp only[dL,kE,Ld]at hn;simp only[omi]at h;obtain⟨r,hr,h⟩:=h;cases h;exact⟨rfl,fun m2=>⟨a,ha,b,hb',by rw[hn];simp only[dL,bK,dw,dI];rw[ac1 hn m2 mem,hr];rfl⟩⟩
 case call c =>
  cases hc:c.callee<;>simp only[hc]at h hb |-<;>first|(cases hb;done)|skip;rename_i b;simp only[obi]at h |-
  obtain⟨args,ha,h⟩:=h;split at h
  ·cases h
  rename_i hn;simp only[dL,kE,Ld]at hn
  have goal:∀m2,(if (aC && !pn b args)=aC then aF else i6 cfg.P b m2 c.argTypes.toList args)=i6 cfg.P b m2 c.argTypes.toList args:=by
   intro m2;rw[hn];rfl
  have fin:(mem'=mem/\∀m2,i6 cfg.P b m2 c.argTypes.toList args=aA (v,m2))->mem'=mem/\∀m2,∃a,cC (bv env) c.args.toList=aA a/\(if (aC && !pn b a)=aC then aF else i6 cfg.P b m2 c.argTypes.toList a)=aA (v,m2) :=
   fun⟨q1,q2⟩=>⟨q1,fun m2=>⟨args,ha,(goal m2).trans (q2 m2)⟩⟩
  refine fin ?_;clear fin goal;cases b<;>simp at hb
  ·-- append
   simp only[i6]at h |-
   unfold wS at h |-
   split at h
   ·rename_i t t' s x hts;simp only[pn,co]at hn;split at h
    ·rename_i htt
     have key:mem'=mem/\∀m2,kJ cfg.P m2 t s x=aA (v,m2):=by
      cases s<;>first|(cases hn.1;done)|skip;unfold kJ at h |-
      simp only[obi]at h |-
      obtain⟨e,he,xs,hxs,h⟩:=h;split at h
      ·rename_i hall;split at h
       ·rename_i hcc;cases h;exact⟨rfl,fun m2=>⟨e,he,xs,(ac0 hn.2 m2 mem).trans hxs,by rw[aU hall,aU hcc]⟩⟩
       ·cases h
      ·cases h
     exact⟨key.1,fun m2=>by rw[aU htt];exact key.2 m2⟩
    ·exfalso;unfold uK at h;split at h
     ·cases hn.1
     ·cases h
   ·cases h
  ·-- len
   simp only[i6]at h |-
   unfold qW at h |-
   split at h
   ·rename_i t _ x _ hts;simp only[pn]at hn;simp only[omi]at h;obtain⟨r,hr,h⟩:=h;cases h;exact⟨rfl,fun m2=>by rw[ac2 hn m2 mem,hr];rfl⟩
   ·cases h
theorem LP{o:Op}(h:vj o=aC):po o=true:=by
 cases o<;>simp only[vj]at h<;>first|(cases h;done)|skip;simp only[po];grind
theorem IH{cfg:bS}{call:de}{o:bj}{env:List V}{v:V}(hw:dP o=aD)(h:eB cfg call (fk aC o) o env mem=aA (v,mem')):mem'=mem:=by
 cases hrx:o.rx;rotate_left
 ·exact(QI hrx h).1
 rw[oJ hrx]at h;obtain⟨hd,hcb,hw|⟨hb|hb|hb,hx⟩⟩:=Uk hrx hw
 ·rw[hd]at h;exact Qr hw hcb h
 ·exact(Md hb hx h).1
 ·exact(F8 (LP hb) hx (.inr hb) h).1
 ·exact(LN hb hx h).1
theorem Qs{cfg:bS}{call:de}{o:bj}{env:List V}{v:V}(hw:lc o.op=aD)(hr:rv o.op=aD)(h:c8 cfg call aC o env mem=aA (v,mem'))(m2:List O):c8 cfg call aC o env m2=aA (v,m2):=by
 simp only[c8]at h |-
 cases hop:o.op<;>simp only[hop,lc,rv]at h hw hr |-<;>first|(cases h;done)|(cases hw;done)|(cases hr;done)|skip
 case move x =>
  cases hx:bv env x with
  |none=>simp[hx]at h
  |some a =>
   simp only[hx,bk,bK,gP,dw,dI]at h |-
   cases h;rfl
 case assign x =>
  cases hx:bv env x with
  |none=>simp[hx]at h
  |some a =>
   simp only[hx,bk,bK,gP,dw,dI]at h |-
   cases a<;>simp at h |-<;>exact h.1
 case nilCheck x =>
  simp only[obi]at h |-
  obtain⟨p,hp,h⟩:=h;split at h
  ·rename_i hs;cases h;exact⟨_,hp,by rw[aU hs]⟩
  ·cases h
 case pick c a b =>
  cases hc:bv env c with
  |none=>simp[hc]at h
  |some vc =>
   cases ha:bv env a with
   |none=>simp[hc,ha]at h
   |some va =>
    cases hb:bv env b with
    |none=>simp[hc,ha,hb]at h
    |some vb =>
     simp only[hc,ha,hb,bk]at h |-
     cases vc<;>simp at h |-
     exact h.1
 case makeFunc fn first caps =>
  cases fn<;>simp only at h |-<;>first|(cases h;done)|skip
  by_cases hc:first.isEmpty=aC
  ·rw[aU hc]at h |-
   split at h
   ·rename_i hd;rw[aU hd];simp only[omi]at h |-
    obtain⟨x,hx,h⟩:=h;cases h;exact⟨x,hx,rfl⟩
   ·cases h
  ·rw[aY hc]at h |-
   split at h
   ·rename_i hd;rw[aU hd];simp only[omi]at h |-
    obtain⟨x,hx,h⟩:=h;cases h;exact⟨x,hx,rfl⟩
   ·cases h
 case field st x f =>
  cases hx:bv env x with
  |none=>simp[hx]at h
  |some p =>
   simp only[hx,bk]at h |-
   cases p<;>simp only at h |-<;>first|(cases h;done)|skip;simp only[obi,omi]at h |-
   obtain⟨a,ha,b,hb,h⟩:=h;cases h;exact⟨_,ha,_,hb,rfl⟩
 case extract t i =>
  cases hx:bv env t with
  |none=>simp[hx]at h
  |some p =>
   simp only[hx,bk]at h |-
   cases p<;>simp only at h |-<;>first|(cases h;done)|skip;simp only[omi]at h |-
   obtain⟨a,ha,h⟩:=h;cases h;exact⟨_,ha,rfl⟩
 case call c =>
  cases hc:c.callee<;>simp only[hc]at h hw hr |-<;>first|(cases h;done)|(cases hr;done)|skip;rename_i b;simp only[obi]at h |-
  obtain⟨args,ha,h⟩:=h;refine⟨args,ha,?_⟩;split at h
  ·cases h
  rename_i hn;rw[aY hn];cases b<;>simp at hw hr<;>simp only[i6]at h |-
  ·cases args<;>simp only[pF]at h |-
   ·cases h
   ·simp only[omi]at h |-
    obtain⟨q,hq,h⟩:=h;cases h;exact⟨_,hq,rfl⟩
  ·cases args<;>simp only[pF]at h |-
   ·cases h
   ·simp only[omi]at h |-
    obtain⟨q,hq,h⟩:=h;cases h;exact⟨_,hq,rfl⟩
 all_goals
  (simp only[obi,omi]at h |-
   first
   |(obtain⟨a,ha,h⟩:=h;cases h;exact⟨_,ha,rfl⟩)
   |(obtain⟨a,ha,b,hb,h⟩:=h;cases h;exact⟨_,ha,_,hb,rfl⟩)
   |(obtain⟨a,ha,b,hb,c,hc,h⟩:=h;cases h;exact⟨_,ha,_,hb,_,hc,rfl⟩))
theorem acX{cfg:bS}{call:de}{o:bj}{env:List V}{v:V}(hw:dP o=aD)(hr:p8 o=aD)(h:eB cfg call (fk aC o) o env mem=aA (v,mem'))(m2:List O):eB cfg call (fk aC o) o env m2=aA (v,m2):=by
 cases hrx:o.rx;rotate_left
 ·exact(QI hrx h).2 m2
 rw[oJ hrx]at h |-
 unfold p8 at hr;rw[hrx,gb,dL]at hr;obtain⟨hd,_,hw|⟨hb|hb|hb,hx⟩⟩:=Uk hrx hw
 ·cases hrm:rv o.op with
  |false=>rw[hd]at h |-;exact Qs hw hrm h m2
  |true =>
   rw[hrm]at hr;simp only[dL,Bool.not_eq_false',co]at hr;exact(F8 hr.2 hr.1.1 (.inl (by grind)) h).2 m2
 ·exact(Md hb hx h).2 m2
 ·exact(F8 (LP hb) hx (.inr hb) h).2 m2
 ·exact(LN hb hx h).2 m2
def fg(m m':List O):Prop:=m.length<=m'.length/\∀id,id < m.length->∀t x,((∃fz,m'[id]? = aA (.box t x fz))↔∃fz,m[id]? = aA (.box t x fz))
theorem fg.refl(m:List O):fg m m:=⟨c7 _,fun _ _ _ _=>Iff.rfl⟩
theorem fg.trans{a b c:List O}(h:fg a b)(h':fg b c):fg a c :=
 ⟨sh h.1 h'.1,fun id hi t x=>(h'.2 id (si hi h.1) t x).trans (h.2 id hi t x)⟩
theorem fg.push(m:List O)(q:O):fg m (m++[q]):=⟨by simp,fun id hi t x=>by grind⟩
theorem fg.kill{m:List O}{i:Nat}{t:aO}{els:List V}{fz:Nat}(h:m[i]? = aA (.row t els fz))(q:O):fg m (m.set i .dead++[q]):=by
 refine⟨by simp,fun id hi t x=>?_⟩;grind
theorem fg.freeze(m:List O)(i:Nat):fg m (freeze m i):=by
 unfold Lite.freeze;split
 ·rename_i t els fz h;refine⟨by simp,fun id hi t x=>?_⟩;grind
 ·rename_i t v fz h;refine⟨by simp,fun id hi t' x=>?_⟩;grind
 ·exact .refl _
theorem fg.freezeAll:∀(is:List Nat) (m:List O),fg m (freezeAll is m)
 | [],m=>.refl m
 |i::is,m=>(fg.freeze m i).trans (fg.freezeAll is _)
theorem fg.take(ad:Bool)(m:List O)(r:V):fg m (qj ad m r).2:=by
 have h1:fg m (yO ad m r).2:=by
  cases r<;>simp only[yO]<;>first|exact .refl _|skip;split
  ·exact .push _ _
  ·exact .refl _
 cases r<;>first|exact .refl _|exact h1
theorem fg.boxed(P:bu):∀(ts:List aO) (vs:List V) (m:List O),fg m (boxed P ts vs m).2:=by
 intro ts
 induction ts with
 |nil=>intro vs m;cases vs<;>exact .refl _
 |cons t ts ih =>
  intro vs m;cases vs with
  |nil=>exact .refl _
  |cons v vs =>
   cases v<;>first|exact ih vs m|skip;simp only[Lite.boxed];split
   ·split
    ·exact(fg.push _ _).trans (ih vs _)
    grind
   grind
theorem fg.newBox(P:bu)(m:List O)(t:aO)(v:V):fg m (newBox P m t v).2:=by
 have:fg m (qL P m t v).2:=by
  unfold qL;split
  ·exact fg.boxed P _ _ m
  ·have:=fg.boxed P (pq P t) [v] m;split
   ·grind
   ·exact .refl _
 exact this.trans (.push _ _)
theorem fV.boxed{P:bu}{q:aO}:∀(ts:List aO) (vs:List V) (m:List O),fV q m->fV q (boxed P ts vs m).2:=by
 intro ts
 induction ts with
 |nil=>intro vs m h;cases vs<;>exact h
 |cons t ts ih =>
  intro vs m h;cases vs with
  |nil=>exact h
  |cons v vs =>
   cases v<;>first|exact ih vs m h|skip;simp only[Lite.boxed];split
   ·split
    ·exact ih vs _ (h.add rfl)
    grind
   grind
theorem fV.newBox{P:bu}{q:aO}{m:List O}(t:aO)(v:V)(h:fV q m):fV q (newBox P m t v).2:=by
 have:fV q (qL P m t v).2:=by
  unfold qL;split
  ·exact fV.boxed _ _ m h
  ·have:=fV.boxed (P:=P) (pq P t) [v] m h;grind
 exact this.add rfl
theorem adI{cfg:bS}{call:de}{o:bj}{env:List V}{v:V}(hp:pY o=aC)(hfr:kO cfg o=aD)(h:eB cfg call (fk aC o) o env mem=aA (v,mem')):fg mem mem':=by
 unfold pY at hp;rw[co]at hp;have hrx:o.rx=false:=by simpa using hp.1
 rw[oJ hrx]at h;have hp:=hp.2
 have hns:(xw o.op && o.bx)=false:=by
  unfold kO at hfr;rw[hrx]at hfr;simp only[gb,dL,qu]at hfr;rw[Bool.and_comm];exact hfr.2
 rw[hns,j9]at hp;simp only[c8]at h;cases hop:o.op<;>simp only[hop,Rb,gl]at h hp<;>first|(cases hp;done)|skip
 case alloc t =>
  simp only[obi]at h;obtain⟨z,_,h⟩:=h;split at h
  ·split at h
   ·cases h;exact .refl _
   ·split at h
    ·cases h
    ·rename_i hna;have hd:fk aC o=true:=by simp[fk,gl,hop]
     rw[hd,dL]at hna;unfold tJ at h;cases hf:kj t 0 mem with
     |none=>rw[hf]at h;cases h;exact .newBox _ _ _ _
     |some r=>rw[hf]at hna;simp at hna
  ·cases h
 case box t x =>
  simp only[obi]at h;obtain⟨z,_,h⟩:=h;split at h
  ·cases h
  split at h
  ·split at h
   ·cases h
   ·rename_i hna;have hd:fk aC o=true:=by simp[fk,gl,hop]
    rw[hd,dL]at hna;unfold tJ at h;cases hf:kj t 0 mem with
    |none=>rw[hf]at h;cases h;exact .newBox _ _ _ _
    |some r=>rw[hf]at hna;simp at hna
  ·cases h
 case buildSlice t n ps =>
  simp only[obi]at h;obtain⟨_,_,_,_,_,_,h⟩:=h;split at h
  ·split at h
   ·cases h;exact .refl _
   ·cases h;exact .push _ _
  ·cases h
 case makeSlice t n c =>
  simp only[obi]at h;obtain⟨_,_,_,_,h⟩:=h;unfold qX at h;simp only[obi]at h;obtain⟨_,_,h⟩:=h;split at h
  ·split at h
   ·simp only[obi,omi]at h;obtain⟨_,_,_,_,h⟩:=h;cases h;exact .push _ _
   ·cases h
  ·cases h
 case call c =>
  cases hc:c.callee<;>simp only[hc]at h hp<;>first|(cases hp;done)|skip
  case builtin b =>
   cases b<;>simp only at h hp<;>first|(cases hp;done)|skip;simp only[obi]at h;obtain⟨args,_,h⟩:=h;split at h
   ·cases h
   simp only[i6]at h;unfold wS at h;split at h
   ·split at h
    ·unfold kJ at h;simp only[obi]at h;obtain⟨_,_,_,_,h⟩:=h;split at h
     ·split at h
      ·split at h
       ·cases h;exact .push _ _
       ·cases h
      ·split at h
       ·rename_i hm;split at h
        ·cases h;exact .kill hm _
        ·cases h
       ·cases h
      ·split at h
       ·rename_i hm;split at h
        ·cases h;exact .kill hm _
        ·cases h
       ·cases h
      ·split at h
       ·rename_i hm;split at h
        ·cases h;exact .kill hm _
        ·cases h
       ·cases h
      ·split at h
       ·cases h;exact .refl _
       ·cases h
      ·cases h
     ·cases h
    ·unfold uK at h;split at h
     ·simp only[obi]at h;obtain⟨_,_,h⟩:=h;split at h
      ·simp only[obi,omi]at h;obtain⟨_,_,_,_,h⟩:=h;cases h;exact .push _ _
      ·cases h
     ·cases h
   ·cases h
  case value f =>
   simp only[gq,dL,co]at hp;simp only[obi]at h;obtain⟨fv,_,args,_,h⟩:=h;cases fv<;>simp only at h<;>first|(cases h;done)|skip;split at h
   ·rw[hp.1]at h;simp at h
   rw[hp.1]at h
   have hfo:z6 cfg o=false:=by
    unfold kO at hfr;rw[hrx]at hfr;simp only[gb,dL,qu]at hfr;exact hfr.1
   rw[hfo]at h;simp only[iZ,dw,dI]at h;split at h
   ·cases h
   rename_i hpu;unfold jR at h;split at h
   ·cases h
   ·split at h
    ·simp only[obi]at h;obtain⟨as0,_,r,_,h⟩:=h;split at h
     ·split at h
      ·cases h
      ·injection h with h
       have this:_=mem':=ef Prod.snd h;rw[<-this];exact(fg.freezeAll _ _).trans (fg.take _ _ _)
     ·injection h with h
      have this:_=mem':=ef Prod.snd h;rw[<-this];exact fg.take _ _ _
    ·rename_i hn;have hsq:o.sq=false:=by simpa using hp.2
     simp[hsq]at hpu;exact(hn hpu).elim
def mU(p:V)(m m':List O):Prop:=m.length<=m'.length/\∀id k off,p = .ptr id k off->id < m.length->∀t x,((∃fz,m'[id]? = aA (.box t x fz))↔∃fz,m[id]? = aA (.box t x fz))
theorem fg.at{m m':List O}(h:fg m m')(p:V):mU p m m':=⟨h.1,fun id _ _ _ hi t x=>h.2 id hi t x⟩
theorem mU.refl(p:V)(m:List O):mU p m m:=(fg.refl m).at p
theorem mU.trans{p:V}{a b c:List O}(h:mU p a b)(h':mU p b c):mU p a c :=
 ⟨sh h.1 h'.1,fun id k off e hi t x=>(h'.2 id k off e (si hi h.1) t x).trans (h.2 id k off e hi t x)⟩
theorem agk{P:bu}{t:aO}{p v:V}(hnp:nF p=aD)(h:nO P mem t p v=aA mem'):mem.length<=mem'.length/\∀id,id < mem.length->id∉lG p->mem'[id]? = mem[id]?:=by
 unfold nO at h;split at h;rotate_left
 ·cases h
 cases p<;>simp only at h<;>first|(cases h;done)|(simp[nF]at hnp;done)|skip;rename_i i k off
 have key:∀q,mem'=mem.set i q->mem.length<=mem'.length/\∀id,id < mem.length->id∉lG (.ptr i k off)->mem'[id]? = mem[id]?:=by
  rintro q rfl;refine⟨by simp,fun id _ hn=>?_⟩;rw[ia];intro e;exact hn (by simp[lG,p9,AJ,iw,e])
 cases hm:mem[i]? with
 |none=>grind
 |some o =>
  cases o<;>simp only[hm]at h<;>first|(cases h;done)|skip
  ·split at h
   ·simp only[obi,omi]at h;grind
   grind
  ·split at h
   ·simp only[omi]at h;grind
   grind
theorem agm{P:bu}{t:aO}{p v:V}(hnp:nF p=aD):t7 P mem t p v=nO P mem t p v:=by
 unfold t7;grind
theorem aam{cfg:bS}{call:de}{o:bj}{env:List V}{v:V}(hfr:kO cfg o=aC)(h:eB cfg call (fk aC o) o env mem=aA (v,mem')) :
  mem.length<=mem'.length/\∀id,id < mem.length->id∉nA env o->mem'[id]? = mem[id]?:=by
 unfold kO at hfr;rw[co]at hfr;have hrx:o.rx=false:=by simpa using hfr.1
 rw[oJ hrx]at h;have hfr:=hfr.2
 by_cases hst:(o.bx && xw o.op)=aC
 ·rw[co]at hst;simp only[c8]at h;cases hop:o.op<;>simp only[hop,xw]at h hst<;>first|(simp at hst;done)|skip;rename_i t a x;simp only[obi]at h;obtain⟨p,hp,v',hv,h⟩:=h;rw[hst.1,dL]at h;split at h
  ·cases h
  rename_i hnp;simp only[omi]at h;obtain⟨m,hm,h⟩:=h;cases h;rw[agm (by simpa using hnp)]at hm;have:=agk (by simpa using hnp) hm;simpa only[nA,hop,nD,hp]using this
 rw[nS]at hfr;have hfr:=hfr.resolve_right hst;have hfr0:=hfr;unfold z6 at hfr;simp only[co]at hfr;obtain⟨hbx,hfr⟩:=hfr;simp only[c8]at h;cases hop:o.op<;>simp only[hop]at h hfr<;>first|(cases hfr;done)|skip;rename_i c;cases hc:c.callee<;>simp only[hc]at h hfr<;>first|(cases hfr;done)|skip;rename_i f;cases f<;>simp only at h hfr<;>first|(cases hfr;done)|skip;rename_i f;simp only[obi]at h;obtain⟨fv,hfv,args,ha,h⟩:=h;simp only[bv]at hfv;cases hfb:jt f iS<;>rw[hfb]at hfv<;>cases hfv;simp only[aY (Nat.not_le.2 (o7 ▸ hfb)),hbx,hfr,hfr0,dL,cZ,fh]at h;split at h;rotate_left
 ·cases h
 have hS:nA env o=args.flatMap lG:=by
  unfold nA;simp only[hop]
  have:∀(l:List fi) (as0:List V),cC (bv env) l=aA as0->l.flatMap (nD env)=as0.flatMap lG:=by
   intro l
   induction l with
   |nil=>intro as0 h;cases h;rfl
   |cons x l ih =>
    intro as0 h;simp only[cC,obi,omi]at h;obtain⟨y,hy,ys,hys,rfl⟩:=h;simp only[nZ,ih ys hys,nD,hy]
  exact this _ _ ha
 rw[hS];unfold pG at h;split at h
 ·cases h
 simp only[obi]at h;obtain⟨⟨v1,m1⟩,h1,h2⟩:=h;split at h2;rotate_left
 ·cases h2
 rename_i hle;cases h2;obtain⟨b1,b2⟩:=zF (args.flatMap lG) mem m1 0 hle;refine⟨by unfold tP;rw[b1];exact hle,fun id hi hn=>?_⟩;unfold tP;rw[b2 id,aU hi,fY,aY];simpa using hn
theorem Mc{m m':List O}{p:V}{t:aO}(hb:mU p m m')(bd:∀id k off,p = .ptr id k off->id < m.length):(mB m' p=mB m p)/\(mB m p=aC->gE P m' t p=gE P m t p):=by
 cases p
 case ptr id k off =>
  have hi:=bd id k off rfl;have key:=hb.2 id k off rfl hi;cases hm:m[id]? with
  |none=>grind
  |some o =>
   cases hm':m'[id]? with
   |none=>rw[List.getElem?_eq_none_iff]at hm';have:=hb.1;omega
   |some o' =>
    rw[hm,hm']at key;cases o with
    |box t0 x fz =>
     obtain⟨fz',this⟩:=(key t0 x).2 ⟨fz,rfl⟩;cases this;exact⟨by simp only[mB,hm,hm'],fun _=>by simp only[gE,f7,hm,hm']⟩
    |_ =>
     cases o' with
     |box t0 x fz=>simp_all
     |_=>exact⟨by simp only[mB,hm,hm'],fun h=>by simp[mB,hm]at h⟩
 case ref x off=>exact⟨rfl,fun _=>by simp only[gE,f7]⟩
 all_goals exact⟨rfl,fun h=>by simp[mB]at h⟩
def KP(ids:List Nat)(m m':List O):Prop:=∀id∈ids,∀o,gN o=aC->o≠.dead->m[id]? = aA o->m'[id]? = aA o
theorem KP.row{ids:List Nat}{m m':List O}(h:KP ids m m'){id:Nat}{t:aO}{els:List V}{fz:Nat}(hi:id∈ids)(hm:m[id]? = aA (.row t els fz)):m'[id]? = aA (.row t els fz):=h id hi _ rfl (by simp) hm
theorem N4{m m':List O}{x:V}{l:List V}(hk:KP (iw x) m m')(h:dy m x=aA l):dy m' x=aA l:=by
 cases x<;>simp only[dy]at h |-<;>first|exact h|skip
 case own id =>
  cases hm:m[id]? with
  |none=>grind
  |some o =>
   cases o<;>simp only[hm]at h<;>first|(cases h;done)|skip;rw[hk.row (by simp[iw]) hm];exact h
 case win id a b =>
  cases hm:m[id]? with
  |none=>grind
  |some o =>
   cases o<;>simp only[hm]at h<;>first|(cases h;done)|skip;rw[hk.row (by simp[iw]) hm];exact h
 case tail id a =>
  cases hm:m[id]? with
  |none=>grind
  |some o =>
   cases o<;>simp only[hm]at h<;>first|(cases h;done)|skip;rw[hk.row (by simp[iw]) hm];exact h
theorem abZ{m m':List O}{t:aO}{p v:V}(hn:nF p=aD)(hk:KP (iw p) m m')(h:gE P m t p=aA v):gE P m' t p=aA v:=by
 have key:∀r,f7 m p=aA r->f7 m' p=aA r:=by
  intro r hr;cases p<;>simp only[f7]at hr |-<;>first|exact hr|(cases hr;done)|(simp[nF]at hn;done)|skip;rename_i id k off;cases hm:m[id]? with
  |none=>grind
  |some o =>
   cases o<;>simp only[hm]at hr<;>first|(cases hr;done)|skip
   ·rw[hk.row (by simp[iw]) hm];grind
   ·rw[hk id (by simp[iw]) _ rfl (by simp) hm];grind
 unfold gE at h |-
 cases hl:f7 m p with
 |none=>grind
 |some r=>grind
theorem aeW{m:List O}{x:V}{l:List V}(h:dy m x=aA l):∀id∈iw x,∃t els fz,m[id]? = aA (.row t els fz):=by
 cases x<;>simp only[dy]at h<;>first|(cases h;done)|(intro id hi;simp[iw]at hi;done)|skip
 all_goals
  intro id hi;simp only[iw,jO]at hi;grind
theorem af0{m m':List O}{t:aO}{x v:V}{lo hi mx:Option (Option V)}(hk:KP (iw x) m m')(h:lK P m t x lo hi mx=aA v):lK P m' t x lo hi mx=aA v:=by
 unfold lK at h |-
 split at h
 ·exact h
 ·simp only[obi]at h |-
  obtain⟨xs,hx,l,hl,hh,hhh,mm,hmm,h⟩:=h;refine⟨xs,N4 hk hx,l,hl,hh,hhh,mm,hmm,?_⟩;split at h;rotate_left
  ·cases h
  rename_i hc;rw[aU hc];have hr:=aeW hx;split at h
  ·exact h
  ·exact h
  all_goals
   first
   |(obtain⟨t',els,fz,hm⟩:=hr _ (jO.2 rfl)
     rw[hm]at h;simp only at h |-
     rw[hk.row (jO.2 rfl) hm];exact h)
   |grind
 grind
theorem aa8{m m':List O}{t:aO}{x i v:V}(hk:KP (iw x) m m')(h:kp P m t x i=aA v):kp P m' t x i=aA v:=by
 unfold kp at h |-
 cases hu:P.underlying t with
 |none=>grind
 |some d =>
  rw[hu]at h;cases d<;>cases i<;>simp only at h |-<;>first|exact h|(cases h;done)|skip;split at h;rotate_left
  ·cases h
  rename_i hc;rw[aU hc];cases x<;>simp only at h |-<;>first|exact h|(cases h;done)|skip
  case own id =>
   cases hm:m[id]? with
   |none=>grind
   |some o =>
    cases o<;>simp only[hm]at h<;>first|(cases h;done)|skip;rw[hk.row (jO.2 rfl) hm];exact h
  case win id _ _ =>
   cases hm:m[id]? with
   |none=>grind
   |some o =>
    cases o<;>simp only[hm]at h<;>first|(cases h;done)|skip;rw[hk.row (jO.2 rfl) hm];exact h
  case tail id _ =>
   cases hm:m[id]? with
   |none=>grind
   |some o =>
    cases o<;>simp only[hm]at h<;>first|(cases h;done)|skip;rw[hk.row (jO.2 rfl) hm];exact h
theorem acf{m m':List O}{x:V}{es:List (V × V)}(hn:∀t k,x≠.hm t k)(hk:KP (iw x) m m')(he:gL m x=aA es):gL m' x=aA es:=by
 cases x<;>simp only[gL]at he |-<;>first|(cases he;done)|(exact(hn _ _ rfl).elim)|skip;rename_i id;cases hm:m[id]? with
 |none=>grind
 |some o =>
  cases o<;>simp only[hm]at he<;>first|(cases he;done)|skip;rw[hk id (by simp[iw]) _ rfl (by simp) hm];grind
theorem abP{m m':List O}{t:aO}{x v:V}(hn:∀t k,x≠.hm t k)(hk:KP (iw x) m m')(h:nH P m t x=aA v):nH P m' t x=aA v:=by
 unfold nH at h |-
 split at h
 ·exact h
 ·exact h
 ·simp only[omi]at h |-
  obtain⟨l,hl,h⟩:=h;exact⟨l,N4 hk hl,h⟩
 ·simp only[omi]at h |-
  obtain⟨es,he,h⟩:=h;exact⟨es,acf hn hk he,h⟩
 grind
theorem ab2{cfg:bS}{call:de}{dr:Bool}{o:bj}{env:List V}{v:V}{m m':List O}(hl:jX o=aC)(hk:KP (kY env o) m m')(h:c8 cfg call dr o env m=aA (v,m)):c8 cfg call dr o env m'=aA (v,m'):=by
 simp only[jX,co]at hl;obtain⟨⟨⟨_,hb⟩,hsq⟩,hr⟩:=hl;simp only[c8,hb,hsq,aZ,bK,gP,iZ,dL,dw,dI]at h |-
 cases hop:o.op<;>simp only[hop,rF,kY]at h hr hk |-<;>first|(cases hr;done)|skip
 case load t a =>
  simp only[obi]at h |-
  obtain⟨p,hp,h⟩:=h;refine⟨p,hp,?_⟩;split at h
  ·cases h
  rename_i hn;rw[aY hn];simp only[omi]at h |-
  obtain⟨x,hx,h⟩:=h;cases h;simp only[lD,hp]at hk;exact⟨_,abZ (by grind) hk hx,rfl⟩
 case slice t x lo hi mx =>
  simp only[obi,omi]at h |-
  obtain⟨a,ha,r,hr,h⟩:=h;cases h;simp only[lD,ha]at hk;exact⟨a,ha,_,af0 hk hr,rfl⟩
 case indexAddr t x i =>
  simp only[obi,omi]at h |-
  obtain⟨a,ha,b,hb,r,hr,h⟩:=h;cases h;simp only[lD,ha]at hk;exact⟨a,ha,b,hb,_,aa8 hk hr,rfl⟩
 case call c =>
  cases hc:c.callee<;>simp only[hc]at h hr |-<;>first|(cases hr;done)|skip;rename_i b;cases b<;>simp only at hr<;>first|(cases hr;done)|skip;simp only[obi]at h |-
  obtain⟨args,ha,h⟩:=h;refine⟨args,ha,?_⟩;split at h
  ·cases h
  rename_i hn;rw[aY hn];simp only[i6]at h |-
  unfold qW at h |-
  split at h;rotate_left
  ·cases h
  rename_i t _ x xs;simp only[omi]at h |-
  obtain⟨r,hr,h⟩:=h;cases h;refine⟨_,abP (fun t k e=>?_) (fun id hid=>hk id ?_) hr,rfl⟩
  ·subst e;simp[tB]at hn
  ·cases hl:c.args.toList with
   |nil=>rw[hl]at ha;simp[cC]at ha
   |cons y ys =>
    rw[hl]at ha;simp only[cC,obi,omi]at ha;obtain⟨z,hz,zs,_,e⟩:=ha;cases e;exact jN.2 ⟨y,by simp,by simp only[lD,hz];grind⟩
theorem Vv(rd:aO->Bool)(args:List V)(mem:List O)(v:V)(m1:List O):mem.length<=(ni rd args mem v m1).2.length /\
  ∀id o,mem[id]? = aA o->id∉jS args mem->(dZ mem<=id->(ni rd args mem v m1).2[id]? = aA o)/\(id < dZ mem->(ni rd args mem v m1).2[id]? = aA (wX m1 id)):=by
 unfold ni uN;simp only;obtain⟨h1,h2⟩:=DT (uO rd (dZ mem) (jS args mem) (Cm rd (dZ mem) mem.length (jS args mem) (wY rd (dZ mem) (iQ args mem).mem m1 v) (iQ args mem).mem m1) (iQ args mem).mem m1) mem 0;refine⟨by rw[eV,h1];omega,fun id o hm hn=>?_⟩;have bd:=(bX.1 hm).1;rw[eK (by rw[h1];exact bd),h2 id,hm,du,fY];refine⟨fun hf=>?_,fun hf=>?_⟩
 ·unfold uO;rw[aY (by omega)];cases hi:lB id (jS args mem)with
  |none=>rfl
  |some q=>exact(hn (dx (Di hi))).elim
 ·unfold uO;rw[aU hf]
theorem Vw(m1:List O)(k:Nat):gN (wX m1 k)=aD∨wX m1 k = .dead:=by
 unfold wX;grind
theorem V4{cfg:bS}{call:de}{o:bj}{env:List V}{v:V}(hc:ij o=aC)(hcan:Cr cfg o=aC)(h:eB cfg call (fk aC o) o env mem=aA (v,mem')) :
  (mem.length<=mem'.length/\∀id,id < mem.length->id∉nj o env mem->∀q,gN q=aC->q≠.dead->(mem'[id]? = aA q↔mem[id]? = aA q))/\(nk cfg o=aC->mem'.take mem.length=mem):=by
 simp only[ij,co]at hc;obtain⟨⟨⟨hrx,hcv⟩,hb⟩,hsq⟩:=hc;rw[oJ (by simpa using hrx)]at h;have hd:fk aC o=false:=by simp[fk,hcv,hb,hsq]
 rw[hd]at h;simp only[c8,hb,hsq]at h;cases hop:o.op<;>simp only[hop,Cr]at h hcan<;>first|(cases hcan;done)|skip;rename_i c;cases hcc:c.callee<;>simp only[hcc]at h hcan<;>first|(cases hcan;done)|skip;rename_i f;cases f<;>simp only at h hcan<;>first|(cases hcan;done)|skip;rename_i f;simp only[co]at hcan;simp only[obi]at h;obtain⟨fv,hfv,args,ha,h⟩:=h;simp only[bv]at hfv;cases hfb:jt f iS<;>rw[hfb]at hfv<;>cases hfv;simp only[aY (Nat.not_le.2 (o7 ▸ hfb)),bK,gP,iZ,dw,dI,fh]at h;have hfr:nj o env mem=jS args mem:=by simp only[nj,hop,ha]
 rw[hfr];unfold jR at h;split at h
 ·cases h
 rw[aY (by simpa using hcan.1)]at h;simp only[dw,dI]at h;cases hcf:cfg.can f with
 |none=>rw[hcf]at hcan;simp at hcan
 |some rd =>
  simp only[hcf]at h;obtain⟨h,hro⟩:=Ej h;refine⟨?_,fun e=>hro (by simpa[nk,hop,hcc]using e)⟩;unfold sI at h;simp only[omi]at h;obtain⟨r,_,h⟩:=h;obtain⟨k1,k2⟩:=Vv rd.row args mem (iP rd (iQ args mem).mem r.1 r.2).1 (iP rd (iQ args mem).mem r.1 r.2).2;rw[h]at k1 k2;refine⟨k1,fun id hi hn q hq hqd=>?_⟩;obtain⟨k3,k4⟩:=k2 id _ (cj hi) hn;obtain⟨f1,f2⟩:=z7 mem
  by_cases hf:dZ mem<=id
  ·have:=k3 hf;simp only at this;rw[this,cj hi]
  ·have h4:=k4 (by omega);simp only at h4;obtain⟨o1,ho1,ho2⟩:=f2 id (by omega);rw[h4,ho1];constructor
   ·intro e;rcases Vw (iP rd (iQ args mem).mem r.1 r.2).2 id with h5|h5
    ·cases e;rw[hq]at h5;cases h5
    ·cases e;exact(hqd h5).elim
   ·intro e;cases e;rw[hq]at ho2;cases ho2
end
end Go.Lite
