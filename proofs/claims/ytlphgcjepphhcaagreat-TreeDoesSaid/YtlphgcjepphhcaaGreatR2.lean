/-
  Texts that the last one stands on.
-/
import Derived.Test.YtlphgcjepphhcaaGreatR1
import Derived.Laws.MakeOwn
import Derived.Lib.AppendZerosOnto
import Derived.OrdersIn
import Derived.TacticsIn
import Derived.LoopNIn
import Derived.RangeFuncNested
set_option linter.all false
noncomputable section
open Go renaming Program->bv,World->bg,typeInfo->ij,run_underlying->dP,TypeId->aP,Value->aR,maxLen->f9,run_storeCells_at->yG,setRow_other->oL,grownCap->gq,FuncId->cf,Calls->fQ,Operand->fD,Oper->dU
open Option renaming some->aA,none->aF,map_some->dy,bind_some->bu,getD_some->uH,isNone_iff_eq_none->Gz
open Go.Program renaming underlying->bO,cellsOf->aK
open List renaming range->eQ,all_eq_true->e9,getElem_of_mem->mq,getElem?_eq_getElem->cI,append_assoc->c8,getElem?_append_right->eC,getElem?_append_left->eP,replicate->cA,getElem?_eq_some_iff->cE,length_set->sg,getElem?_set_ne->iM,mem_cons->dC,getElem?_of_mem->zk,getElem_mem->Ca,getElem?_set_self->jn,ext_getElem?->uD,length_take->jW,mem_of_mem_take->uF,getElem?_take->kx,getElem?_drop->i6,mem_map->fi,eq_of_mem_replicate->B7,mem_of_getElem?->dH,length_replicate->Cb,mem_flatMap->jp,getElem?_map->gy,nodup_nil->Gs,pairwise_iff_getElem->Cc,length_append->gJ,length_map->gm,getElem?_cons_succ->MB,any_eq_false->zj,getElem?_cons_zero->MC,length_cons->d8,eq_nil_of_length_eq_zero->wL,append_nil->fR,flatMap_cons->lc,mem_singleton->iN
open Array renaming mapM_eq_mapM_toList->Wc,getElem?_eq_getElem->gG,getElem?_eq_some_iff->gS,getElem?_toList->BU,getElem?_map->Gf,getElem?_range->Mo,size_append->BV,getElem?_append_left->Mn,getD_eq_getD_getElem?->lP,getElem?_setIfInBounds->Mp
open Bool renaming true->aD,false->aE,and_eq_true->cT,not_true->cN,and_false->nO,false_eq_true->d5,false_and->uz,true_and->fP,not_false->lQ,or_eq_false_iff->uA,and_self->qp,not_eq_true'->mU,not_eq_false->Mu,or_false->zg,false_or->rV,or_eq_true->oT
open Go.Lite.V renaming cells->gV,one->fL,flat1->js
open Nat renaming mul_le_mul_right->dO,add_zero->gn,zero_add->eW,le_refl->cZ,add_mul->jX,succ_mul->my,add_comm->so,add_mul_mod_self_right->MO,mod_eq_of_lt->Gw,mul_le_mul->Cj,zero_le->kz,le_trans->qw,lt_of_lt_of_le->qx,blt->jq,blt_eq->oY
open Go.IntKind renaming i64->aB
namespace Go.Lite
open Go Go.MapKept
section
variable {P:bv}{Z Z':Zs}{w w':bg}{j j':J}{mem mem':List O}
def Xh{t ps qs v}(h:C4 P t ps=aA v)(hp:PR Z w j ps qs.toList):∃r,(Instr.build t qs).run P w = .ok r w/\VR Z w j v r:=by
 unfold C4 at h;cases hz:jm P t with
 |none=>grind
 |some z =>
  obtain⟨i,zv,hi,hzz,hv,_⟩:=uy (Z:=Z) (w:=w) (j:=j) hz;cases z<;>simp[hz]at h<;>first|(cases h)|skip
  rename_i zs;obtain⟨us,rfl,hr⟩:=hv.aggInv;cases hpl:JQ P t with
  |none=>grind
  |some pl =>
  cases hf:sZ (λi=>pl[i]?) zs ps with
  |none=>grind
  |some out =>
  simp[hpl,hf]at h;subst h;obtain⟨us',h1,h2⟩:=PW ps qs.toList zs out us hf hp hr;refine⟨.agg us',?_,h2.aggMk⟩;unfold JQ at hpl;cases hu:(bO P) t with
  |none=>grind
  |some d =>
   cases d<;>simp only[hu]at hpl<;>first|(cases hpl)|skip
   case array n e =>
    split at hpl
    ·rename_i hpos;obtain⟨ie,hie,his,_⟩:=vm hpos
     have hfl:Instr.fill (λi=>aA (i * ie.size,ie.size)) us qs.toList=aA us':=by
      have key:∀l a b,Instr.fill (λi=>((eQ n).map λi=>(i * (aK P) e,(aK P) e))[i]?) a l=aA b->Instr.fill (λi=>aA (i * ie.size,ie.size)) a l=aA b:=by
       intro l
       induction l with
       |nil=>intro a b h;exact h
       |cons q l ih =>
        intro a b h;simp[Instr.fill]at h |-
        grind
      grind
     simp[Instr.build,zeroValue,ij,hi,hzz,Value.cells,dP hu,sizeOf,hie,hfl]
    grind
   case struct fs =>
    split at hpl
    ·have run:∀(l:List Field),(∀f∈l,0 < (aK P) f.type)->(l.mapM (m:=Sem) λf=>do pure (f.offset,<-sizeOf f.type)).run P w = .ok (l.map λf=>(f.offset,(aK P) f.type)) w:=by
      intro l
      induction l with
      |nil=>simp_all
      |cons f l ih =>
       intro hl;obtain⟨ie,hie,his,_⟩:=vm (hl f (by simp));have hs:(sizeOf f.type).run P w = .ok ((aK P) f.type) w:=by simp[sizeOf,ij,hie,his]
       simp_all
     have hr:=run fs.toList (λf hf=>by grind);simp[Instr.build,zeroValue,ij,Sem.run_bind,Result.andThen_ok,Value.cells,dP hu];rw[Wc];simp_all
    grind
def AB{y y'}(h:kV y=aA y'):y.one=aD/\y'.one=true:=by
 cases y<;>simp[kV]at h<;>subst h<;>exact⟨rfl,rfl⟩
def AC{v x}(h:j7 v=aA x):cD kV v.cells=aA x.cells:=by
 have key:kV v=aA x->cD kV v.cells=aA x.cells:=λh=>by
  have h1:=AB h;rw[lW h1.1,lW h1.2];simp[cD,h]
 cases v with
 |agg cs =>
  simp[j7]at h;cases hm:cD kV cs with
  |none=>grind
  |some ds=>simp[hm]at h;subst h;simpa[gV]using hm
 |_=>exact key (by simpa[j7]using h)
def Ez{α β f}:∀{l} {r:List β},cD f l=aA r->∀(i:Nat) (x:α),l[i]? = aA x->∃y,r[i]? = aA y/\f x=aA y:=by
 intro l
 induction l with
 |nil=>grind
 |cons a l ih =>
  intro r h i x hx;simp[cD]at h;cases h1:f a with
  |none=>grind
  |some b =>
   cases h2:cD f l with
   |none=>grind
   |some bs =>
    grind
def Rc{sz}:∀ps k els cs,tv k ps=aA els->(∀x∈els,x.cells.length=sz)->(k+ps.length) * sz<=cs.length ->
  ∃out,sZ (λi=>aA (i * sz,sz)) cs ps=aA out/\out.length=cs.length/\els.length=ps.length/\(∀i,i < k * sz->out[i]? = cs[i]?) /\
   (∀m x i y',els[m]? = aA x->x.cells[i]? = aA y'->∃y,out[(k+m) * sz+i]? = aA y/\kV y=aA y'):=by
 intro ps
 induction ps with
 |nil =>
  intro k els cs h _ _;simp[tv]at h;subst h;exact⟨cs,rfl,rfl,rfl,λ_ _=>rfl,λm x i y' hm=>by grind⟩
 |cons p ps ih =>
  intro k els cs h hel hle;obtain⟨i0,v⟩:=p;simp only[tv]at h;split at h
  ·rename_i hik;subst hik;cases hx:j7 v with
   |none=>grind
   |some x0 =>
    cases hr:tv (i0+1) ps with
    |none=>grind
    |some rest =>
     simp[hx,hr]at h;subst h;have him:=AC hx;obtain⟨hl1,hg1⟩:=kY him;have hxl:=hel x0 (by simp)
     have hone:v.cells.all fL=true:=by
      rw[e9];intro y hy;obtain⟨i,hi,rfl⟩:=mq hy;obtain⟨y',_,hy'⟩:=Ez him i _ (cI hi);exact(AB hy').1
     have hle':i0 * sz+sz<=cs.length:=by
      have:(i0+1) * sz<=(i0+(ps.length+1)) * sz:=dO _ (by omega);grind
     have hcl:(cs.take (i0 * sz)++v.cells++cs.drop (i0 * sz+sz)).length=cs.length:=by simp;omega
     obtain⟨out,h1,h2,h3,h4,h5⟩:=ih (i0+1) rest (cs.take (i0 * sz)++v.cells++cs.drop (i0 * sz+sz)) hr (λx hx=>hel x (by grind)) (by grind);have hto:(cs.take (i0 * sz)).length=i0 * sz:=by grind
     refine⟨out,?_,by omega,by grind,λi hi=>?_,λm x i y' hm hy=>?_⟩
     ·simp[sZ];grind
     ·grind
     ·cases m with
      |zero =>
       simp at hm;subst hm;have hi:i < sz:=by grind
       obtain⟨y,hy1,hy2⟩:=hg1 i y' hy;rw[gn,h4 _ (by grind),c8,eC (by omega),eP (by omega)];simp_all
      |succ m =>
       obtain⟨y,hy1,hy2⟩:=h5 m x i y' (by grind) hy;grind
  grind
def Xg(s:SR P Z w j mem){t e:aP}{len:Nat}{ps:List (Nat × V)}{qs:Array (Nat × aR)}{els:List V}(he:gh P t=aA e)(hl:tv 0 ps=aA els)(hlen:els.length=len)(hroom:fC P e len=aD)
  (hcap:len * (aK P) e<=16777216) (hall:els.all (λy=>y.cells.length==(aK P) e)=aD) (hp:PR Z w j ps qs.toList) :
  ∃r w1,(Instr.buildSlice t len qs).run P w = .ok r w1/\dz P Z w j mem (newRow mem e els 0).1 (newRow mem e els 0).2 r w1/\(dz P Z w j mem (.lit e els) mem r w1):=by
 have ht:(bO P) t=aA (.slice e):=by
  unfold gh at he;grind
 obtain⟨hn,hby,hpos,i,z,hi,his,hib,hz,hzs⟩:=lI hroom;have hels:∀x∈els,x.cells.length=(aK P) e:=λx hx=>by grind
 have hpl:ps.length=len:=by
  obtain⟨out,_,_,h3,_⟩:=Rc ps 0 els (cA ((0+ps.length) * (aK P) e) .junk) hl hels (by simp);omega
 obtain⟨out,h1,h2,h3,h4,h5⟩:=Rc ps 0 els (cA (len * (aK P) e) .junk) hl hels (by grind)
 obtain⟨zero,hzero⟩:∃zero:Array aR,(len * i.size=0/\zero=#[])∨(len * i.size≠0/\zero=z.cells):=by
  grind
 obtain⟨us',hf,hr⟩:=PW ps qs.toList _ out ((Array.range (len * i.size)).map (zero[· % zero.size]!)) h1 hp
  ⟨by grind,λk c hk=>by
   have bf:=(cE.1 hk).1;simp at bf;have:c = .junk:=by grind
   subst this;exact⟨_,gG (by grind),.junk⟩⟩
 refine⟨.slice (aA ⟨w.heap.size,0,aF⟩) len len,w.alloc (.cells us' e),?_,?_⟩
 ·have hg:¬(len * i.size > 2 ^ 24):=by grind
  have hf':Instr.fill (λk=>aA (k * i.size,i.size)) ((Array.range (len * i.size)).map (zero[· % zero.size]!)) qs.toList=aA us':=by simp_all
  simp only[Instr.buildSlice,Sem.run_bind,dP ht,Result.andThen_ok,sizeOf,ij,run_program,hi,Sem.run_pure];rw[bh hg];have hzr:(zeroValue e).run P w = .ok z w:=by simp[zeroValue,ij,hi,hz]
  rcases hzero with⟨h0,rfl⟩|⟨h0,rfl⟩
  ·rw[bc h0];simp only[Sem.run_bind,Sem.run_pure,Result.andThen_ok,hf'];simp[Go.newRow,newObj,Sem.run]
  ·rw[bh h0];simp only[Sem.run_bind,Sem.run_pure,Result.andThen_ok,hzr,hf'];simp[Go.newRow,newObj,Sem.run]
 ·have hcl:∀(k:Nat) (x:V) (i:Nat) (y:V),els[k]? = aA x->x.cells[i]? = aA y->y.one=aD/\∃u,us'[k * (aK P) e+i]? = aA u/\VR Z w j0 y u:=λk x i y' hk hy=>by
   obtain⟨y,hy1,hy2⟩:=h5 k x i y' hk hy;rw[eW]at hy1;obtain⟨u,hu,hv⟩:=hr.2 _ y hy1;obtain⟨q1,q2,_⟩:=oo hy2 hv;grind
  have a:=Bo (fz:=0) (els:=els) (us:=us') (c:=len) (w1:=w.alloc (.cells us' e)) s rfl rfl rfl rfl hpos hels (by omega) (by omega) (by simp only[f9];omega) (by rw[hr.1,h2];simp) hcl;have b:=TB (els:=els) (us:=us') (c:=len) (w1:=w.alloc (.cells us' e)) s rfl rfl rfl rfl hpos hels (by omega) hcl;grind
def adY(s:SR P Z w j mem){t:aP}:∃r w1,(Instr.makeMap t aF).run P w = .ok r w1/\dz P Z w j mem (.mp mem.length) (mem++[.map []]) r w1:=by
 refine⟨.map (aA w.heap.size),w.alloc (.map #[] 0),rfl,?_⟩
 obtain⟨s1,st,je⟩:=s.push (w1:=w.alloc (.map #[] 0)) (ob:=.map #[] 0) rfl rfl rfl rfl 0 (h:=⟨.map (aA w.heap.size),0⟩) (by simp[cO.blk]) (o:=.map [])
  ⟨w.heap.size,#[],0,gF _ _ _,heap_alloc_new w _,rfl,λi a x h=>by grind,λo ho=>by
   rcases ho with ho|ho
   ·have:=s.zin _ _ ho;omega
   grind,MapKept.stamped_empty 0⟩
 exact⟨_,_,.mp (gF _ _ _),s1,st,je⟩
def adX(s:SR P Z w j mem){t:aP}:∃r w1,(Instr.makeMap t aF).run P w = .ok r w1/\dz P Z w j mem (EG mem t).1 (EG mem t).2 r w1:=by
 unfold EG;cases hf:nB t 0 mem with
 |none=>exact adY s
 |some r =>
  obtain⟨id,ms⟩:=r;have hm:=Iv hf;refine⟨.map (aA w.heap.size),w.alloc (.map #[] 0),rfl,?_⟩;have hO:=s.obj id _ hm
  obtain⟨q1,q2⟩:=s.growA (o':=.marena t (ms++[[]])) hm (n:=ms.length) (t:=t) rfl (by simp[O.ar]) (w1:=w.alloc (.map #[] 0)) (ob:=.map #[] 0) rfl rfl rfl rfl (λhz hA=>by
   refine⟨by grind,λk es g hk hg=>?_⟩
   by_cases bf:k < ms.length
   ·rw[eP bf]at hk;rw[mD (by omega)]at hg
    have hs:g < w.heap.size:=by
     obtain⟨es',c,h1,_⟩:=hO.2 k es g hk hg;grind
    exact(hO.2 k es g hk hg).mono hz ⟨mM (w:=w) (w1:=w.alloc (.map #[] 0)) rfl hs,λ_=>Iff.rfl⟩
   ·have e:k=ms.length:=by grind
    subst e;rw[sD]at hg;cases hg;simp at hk;subst hk;exact⟨#[],0,heap_alloc_new w _,rfl,λi a x h=>by grind,λo ho=>by have:=s.zin _ _ ho;omega,MapKept.stamped_empty 0⟩)
  exact⟨_,j,.hm (sD _ _ _),q1,q2,bG.refl _⟩
def Nv(s:SR P Z w j mem){t:aP}{v:V}{u:aR}{r:V × List O}(h:tN P mem t v=aA r)(hl:v.cells.length=(aK P) t)(ho:v.cells.all fL=aD)(hv:VR Z w j v u) :
  ∃r' w1,(Instr.box t u).run P w = .ok r' w1/\dz P Z w j mem r.1 r.2 r' w1:=by
 unfold tN at h;cases hf:j6 t 0 mem with
 |none =>
  rw[hf]at h;cases h;exact Xd s hl ho hv
 |some q =>
  obtain⟨id,els⟩:=q;rw[hf]at h;simp only at h;split at h;rotate_left
  ·cases h
  rename_i hpos;simp only[omi]at h;obtain⟨y,hy,rfl⟩:=h;have hm:=It hf;have hO:=s.obj id _ hm;obtain⟨hsz,hcl⟩:=hv.cellsOf (pT ho);obtain⟨m1,m2⟩:=kY (AC hy);refine⟨.pointer (aA ⟨w.heap.size,0,aF⟩),w.alloc (.cells u.cells t),by simp[Instr.box,newVar,Go.newRow,newObj,Sem.run],?_⟩
  obtain⟨q1,q2⟩:=s.growA (o':=.arena t (els++[y])) hm (n:=els.length) (t:=t) rfl (by simp[O.ar]) (w1:=w.alloc (.cells u.cells t)) (ob:=.cells u.cells t) rfl rfl rfl rfl (λhz hA=>by
   refine⟨by grind,λk x g hk hg=>?_⟩
   by_cases bf:k < els.length
   ·rw[eP bf]at hk;rw[mD (by omega)]at hg
    have hs:g < w.heap.size:=by
     obtain⟨us,h1,_⟩:=hO.2 k x g hk hg;grind
    exact(hO.2 k x g hk hg).mono hz ⟨mM (w:=w) (w1:=w.alloc (.cells u.cells t)) rfl hs,λ_=>Iff.rfl⟩
   ·have e:k=els.length:=by grind
    subst e;rw[sD]at hg;cases hg;simp at hk;subst hk;refine⟨u.cells,heap_alloc_new w _,by omega,by omega,hpos,λi c hc=>?_,λo ho=>by have:=s.zin _ _ ho;omega⟩;obtain⟨x,hx,hxc⟩:=m2 i c hc;obtain⟨cu,hcu,hvr⟩:=hcl i x hx;obtain⟨p1,p2,_⟩:=oo hxc hvr;refine⟨p2,cu,?_,p1.mono hz (bG.refl _)⟩;simp_all)
  exact⟨_,j,.hp (sD _ _ _),q1,q2,bG.refl _⟩
def WI(s:SR P Z w j mem){t:aP}{z:V}{r:V × List O}(h:tN P mem t z=aA r)(hz:jm P t=aA z)(hl:z.cells.length=(aK P) t)(ho:z.cells.all fL=aD) :
  ∃r' w1,(Instr.alloc t aD (.tuple #[])).run P w = .ok r' w1/\dz P Z w j mem r.1 r.2 r' w1:=by
 obtain⟨i,zv,hi,hzz,hv,_⟩:=uy (Z:=Z) (w:=w) (j:=j) hz;obtain⟨r,w1,h1,h2⟩:=Nv s h hl ho hv;refine⟨r,w1,?_,h2⟩;rw[<-h1];simp[Instr.alloc,Instr.box,zeroValue,ij,hi,hzz]
def abg{d:TypeDesc}{k a:V}{uk ua:aR}{b:Bool}(hd:(∃kk,d = .int kk)∨d = .string)(h:fE k a=aA b)(hk:VR Z w j k uk)(ha:VR Z w j' a ua)(hfit:IsKey d uk):Instr.sameNow d uk ua=aA b:=by
 cases hk<;>cases ha<;>simp[fE]at h
 ·rcases hd with⟨kk,rfl⟩|rfl<;>simp[IsKey]at hfit
 ·obtain⟨rfl,rfl⟩:=h;rcases hd with⟨kk,rfl⟩|rfl<;>simp[IsKey]at hfit
  simp[Instr.sameNow]
 ·rcases hd with⟨kk,rfl⟩|rfl<;>simp[IsKey]at hfit
  rw[<-h];simp only[Instr.sameNow];rw[beq_toListBytes,wC,wC];simp
def Aw{d:TypeDesc}{k:V}{uk:aR}(hd:(∃kk,d = .int kk)∨d = .string)(hk:VR Z w j k uk)(hfit:IsKey d uk) :
  ∀(es:List (V × V)) (es':List MapEntry) (n:Nat) (r:Option V),gj es k=aA r->es.length=es'.length ->
   (∀(i:Nat) (a x:V),es[i]? = aA (a,x)->∃e:MapEntry,es'[i]? = aA e/\a.flat1=aD/\x.inMap=aD/\VR Z w j0 a e.key/\VR Z w j0 x e.val) ->
   (r=aF/\Instr.findNow d uk es' n=aA aF)∨∃(i:Nat) (a x:V) (e:MapEntry),r=aA x/\es[i]? = aA (a,x)/\es'[i]? = aA e/\Instr.findNow d uk es' n=aA (aA (n+i,e.val))/\VR Z w j0 x e.val /\
    fE k a=aA aD/\(∀i' a' x',i' < i->es[i']? = aA (a',x')->fE k a'=aA aE):=by
 intro es
 induction es with
 |nil =>
  intro es' n r h hl _;simp[gj]at h;subst h;cases es' with
  |nil=>exact .inl ⟨rfl,rfl⟩
  |cons _ _=>grind
 |cons p es ih =>
  intro es' n r h hl hh;obtain⟨a,x⟩:=p;cases es' with
  |nil=>grind
  |cons e es' =>
   simp only[gj]at h;obtain⟨e0,he0,hfa,hfx,hva,hvx⟩:=hh 0 a x rfl;simp at he0;subst he0;cases hb:fE k a with
   |none=>grind
   |some b =>
    have hn:=abg hd hb hk hva hfit;cases b
    ·simp[hb]at h;rcases ih es' (n+1) r h (by grind) (λi a x hi=>by simpa using hh (i+1) a x (by grind))with⟨h1,h2⟩|⟨i,a',x',e',h1,h2,h3,h4,h5,h6,h7⟩
     ·exact .inl ⟨h1,by simp[Instr.findNow,hn,h2]⟩
     ·refine .inr ⟨i+1,a',x',e',h1,by grind,by grind,by simp only[Instr.findNow,hn,h4];grind,h5,h6,λi' a'' x'' hi' he''=>?_⟩;grind
    ·simp[hb]at h;subst h;exact .inr ⟨0,a,x,e,rfl,rfl,rfl,by simp[Instr.findNow,hn],hvx,hb,λi' _ _ hi'=>by omega⟩
def Je{t:aP}{k:V}{uk:aR}(h:ou P t k=aD)(hk:VR Z w j k uk):∃kt e d,(bO P) t=aA (.map kt e)/\(bO P) kt=aA d/\((∃kk,d = .int kk)∨d = .string)/\IsKey d uk/\k.flat1=true:=by
 cases k<;>simp[ou]at h
 all_goals
  cases hu:(bO P) t with
  |none=>grind
  |some dt =>
   cases dt<;>simp[hu]at h;rename_i kt e;cases hkt:(bO P) kt with
   |none=>grind
   |some d =>
    cases d<;>simp[hkt]at h;cases hk
    first
    |(subst h;exact⟨kt,e,_,rfl,hkt,.inl ⟨_,rfl⟩,rfl,rfl⟩)
    |exact⟨kt,e,_,rfl,hkt,.inr rfl,trivial,rfl⟩
def adJ(s:SR P Z w j mem){t e:aP}{m:V}{es:List (V × V)}{k z:V}{r:Option V}{um uk:aR}{ok:Bool}(hm:gO mem m=aA es)(hfit:ou P t k=aD)(he:xT P t=aA e)(hz:jm P e=aA z)
  (hf:gj es k=aA r) (hvm:VR Z w j m um) (hvk:VR Z w j k uk) :
  ∃v,(Instr.lookup t um uk ok).run P w = .ok v w/\VR Z w j (if ok then .tup [r.getD z,.bool r.isSome] else r.getD z) v:=by
 obtain⟨kt,e',d,hu,hkt,hd,hik,hfl⟩:=Je hfit hvk
 have he':e'=e:=by
  simp only[xT,hu]at he;grind
 subst he';obtain⟨i,zv,hi,hzz,hzv,_⟩:=uy (Z:=Z) (w:=w) (j:=j) hz;obtain⟨rr,rfl,es',clock,h2,h3,h4,_⟩:=Ey s hm hvm
 have fin:∀(x:V) (b:Bool) (u:aR),VR Z w j x u->VR Z w j (if ok then .tup [x,.bool b] else x) (if ok then .tuple #[u,.bool b] else u):=by
  intro x b u hx;cases ok
  ·grind
  ·refine VR.tup (us:=[u,.bool b]) rfl λi c v hc hv=>?_
   match i with
   |0=>grind
   |1=>simp at hc hv;subst hc hv;exact .bool
   |i+2=>grind
 rcases Aw hd hvk hik es es'.toList 0 r hf (by grind) (by grind)with⟨rfl,hn⟩|⟨i',a,x,e',rfl,_,_,hn,hx,_⟩
 ·refine⟨_,?_,fin z aE zv hzv⟩;cases ok<;>simp[Instr.lookup,dP hu,MapKept.run_getObj_map h2,run_checkKey hkt hik,run_findKey hkt hn,zeroValue,ij,hi,hzz]
 ·refine⟨_,?_,fin x aD e'.val (hx.up j)⟩;cases ok<;>simp[Instr.lookup,dP hu,MapKept.run_getObj_map h2,run_checkKey hkt hik,run_findKey hkt hn]
def afB{k x:V}:∀{es out:List (V × V)},kg es k x=aA out ->
  (gj es k=aA aF/\out=es++[(k,x)]) ∨
  ∃(i:Nat) (a y:V),es[i]? = aA (a,y)/\fE k a=aA aD/\(∀i' a' x',i' < i->es[i']? = aA (a',x')->fE k a'=aA aE)/\gj es k=aA (aA y)/\out=es.set i (a,x):=by
 intro es
 induction es with
 |nil=>intro out h;simp[kg]at h;subst h;exact .inl ⟨rfl,rfl⟩
 |cons p es ih =>
  intro out h;obtain⟨a,y⟩:=p;simp only[kg]at h;cases hb:fE k a with
  |none=>grind
  |some b =>
   cases b
   ·cases hr:kg es k x with
    |none=>grind
    |some rest =>
     simp[hb,hr]at h;subst h;rcases ih hr with⟨h1,rfl⟩|⟨i,a',y',h1,h2,h3,h4,rfl⟩
     ·exact .inl ⟨by simp[gj,hb,h1],rfl⟩
     ·refine .inr ⟨i+1,a',y',by grind,h2,λi' a'' x'' hi he=>?_,by simp[gj,hb,h4],rfl⟩;grind
   ·simp[hb]at h;subst h;exact .inr ⟨0,a,y,rfl,hb,λi' _ _ hi=>by omega,by simp[gj,hb],rfl⟩
def US{k:V}{es:List (V × V)}{i i':Nat}{a y a' y':V}(h1:es[i]? = aA (a,y))(h2:fE k a=aA aD)(h3:∀i' a' x',i' < i->es[i']? = aA (a',x')->fE k a'=aA aE)
  (g1:es[i']? = aA (a',y')) (g2:fE k a'=aA aD) (g3:∀i a x,i < i'->es[i]? = aA (a,x)->fE k a=aA aE):i=i':=by
 grind
def abf{k a:V}(h:fE k a=aA aD):k=a:=by
 cases k<;>cases a<;>simp[fE]at h
 all_goals grind
def VR.strInv{a:List UInt8}{u:aR}(h:VR Z w j (.str a) u):∃b:ByteArray,u = .string b/\b.data.toList=a:=by
 cases h;grind
def abB{a:V}{u u':aR}(hf:a.flat1=aD)(h:VR Z w j a u)(h':VR Z w j' a u'):u=u':=by
 cases a<;>simp[js]at hf
 ·cases h;cases h';rfl
 ·cases h;cases h';rfl
 ·obtain⟨b,rfl,hb⟩:=h.strInv;obtain⟨b',rfl,hb'⟩:=h'.strInv;congr 1;exact WideShapes.bytes_inj (hb.trans hb'.symm)
def ahG{r:Nat}{es':Array MapEntry}{clock:Nat}{o:Obj}(h2:w.heap[r]? = aA (.map es' clock))(hz:∀o,¬Z r o):bU Z w Z { w with heap:=w.heap.setIfInBounds r o } :=
 .of λg x hx=>⟨hx,ji ((heap_set h2).2 g λe=>hz x (e ▸ hx)) x⟩
def VR.inMap0{x:V}{u:aR}(h:VR Z w j x u)(hf:x.inMap=aD)(j':J):VR Z w j' x u:=by
 cases h<;>first|(simp[V.inMap]at hf;done)|(constructor;done)|(constructor;grind)
def EA(s:SR P Z w j mem){m:V}{r:Nat}{es es2:List (V × V)}{es' es2':Array MapEntry}{clock clock2:Nat}(hm:gO mem m=aA es)(hvm:VR Z w j m (.map (aA r)))(h2:w.heap[r]? = aA (.map es' clock))
  (hl:es2.length=es2'.size) (hh:∀(i:Nat) (a x:V),es2[i]? = aA (a,x)->∃e:MapEntry,es2'[i]? = aA e/\a.flat1=aD/\x.inMap=aD/\VR Z w j0 a e.key/\VR Z w j0 x e.val) (hzz:∀o,¬Z r o) (hst:MapKept.Stamped es2' clock2) :
  dz P Z w j mem (.tup []) (tA mem m es2) undef { w with heap:=w.heap.setIfInBounds r (.map es2' clock2) }:=by
 have hz':=ahG (o:=.map es2' clock2) h2 hzz;have bf:r < w.heap.size:=(gS.1 h2).1
 have hmi:wR Z { w with heap:=w.heap.setIfInBounds r (.map es2' clock2) } r es2:=by
  refine⟨es2',clock2,(heap_set h2).1,hl,λi a x hi=>?_,hzz,hst⟩;obtain⟨e,h1,h3,h4,h5,h6⟩:=hh i a x hi;exact⟨e,h1,h3,h4,h5.mono hz' (bG.refl _),h6.mono hz' (bG.refl _)⟩
 have tup:∀(Z:Zs) (w:bg),VR Z w j (.tup []) undef:=λZ w=>.tup (us:=[]) rfl (λi c u hc=>by grind)
 cases m with
 |mp id =>
  simp only[gO]at hm;cases hmm:mem[id]? with
  |none=>grind
  |some o =>
   cases o<;>simp only[hmm]at hm<;>first|(cases hm;done)|skip
   cases hm;obtain⟨r',es3,clock3,h1,_⟩:=s.obj id _ hmm;cases hvm with
   |mp hj =>
    rw[hj]at h1;cases h1;have hot:∀g,dk j id≠aA g->({ w with heap:=w.heap.setIfInBounds r (.map es2' clock2) }:bg).heap[g]? = w.heap[g]?:=λg hg=>(heap_set h2).2 g λe=>hg (by simp[dk,hj,cO.blk,e])
    refine⟨Z,j,tup _ _,s.set hmm (λ_=>rfl) hz' (λg hg=>⟨hot g hg,λ_=>Iff.rfl⟩) (λg o ho=>by simpa using s.zin g o ho) (λh=>by cases h) ?_,
     br.set hmm (λ_=>rfl) rfl hz' (λg hg=>⟨hot g hg,λ_=>Iff.rfl⟩) rfl rfl rfl (by simp),bG.refl _⟩
    obtain⟨a1,a2,a3,a4,a5,a6⟩:=hmi;exact⟨r,a1,a2,hj,a3,a4,a5,a6⟩
 |hm t k =>
  simp only[gO,obi]at hm;obtain⟨⟨id,ms⟩,hf,hk⟩:=hm;have hmm:=Iv hf;have hO:=s.obj id _ hmm;have hkl:k < ms.length:=(cE.1 hk).1;cases hvm with
  |hm hg =>
   have hot:∀g,g≠r->({ w with heap:=w.heap.setIfInBounds r (.map es2' clock2) }:bg).heap[g]? = w.heap[g]?:=λg hg=>(heap_set h2).2 g hg
   obtain⟨q1,q2⟩:=s.setA (o':=.marena t (ms.set k es2)) (w':={ w with heap:=w.heap.setIfInBounds r (.map es2' clock2) }) hmm (n:=ms.length) (t:=t) rfl (by simp[O.ar]) hz'
    (λg' hg'=>⟨hot g' λe=>hg' ⟨k,hkl,by grind⟩,λ_=>Iff.rfl⟩) (λg o ho=>by simpa using s.zin g o ho) rfl rfl rfl (by simp) (by
     refine⟨by rw[sg];exact hO.1,λk' x' g' hk' hg'=>?_⟩
     by_cases e:k=k'
     ·grind
     ·rw[iM e]at hk';exact(hO.2 k' x' g' hk' hg').mono hz' ⟨hot g' λe'=>e (hO.1.inj k k' r hg (by grind)),λ_=>Iff.rfl⟩)
   simp only[tA,hf];exact⟨Z,j,tup _ _,q1,q2,bG.refl _⟩
 |_=>simp[gO]at hm
def P2{k:V}:∀{es:List (V × V)},gj es k=aA aF->∀p∈es,fE k p.1=aA aE
 | [],_,p,hp=>nomatch hp
 |(a,x)::es,h,p,hp=>by
  simp only[gj]at h;cases hb:fE k a with
  |none=>grind
  |some b =>
   cases b
   ·simp[hb]at h;rcases dC.1 hp with rfl|hp
    ·grind
    ·exact P2 h p hp
   grind
def qV{k a:V}{uk ua:aR}{j j':J}(h:fE k a=aA aE)(hk:VR Z w j k uk)(ha:VR Z w j' a ua):uk≠ua:=by
 rintro rfl;unfold fE at h;split at h
 ·cases hk;cases ha;grind
 ·split at h
  ·rename_i e;subst e;cases hk;cases ha;grind
  grind
 ·cases hk;cases ha;grind
 grind
def aiZ(s:SR P Z w j mem){t:aP}{m:V}{es out:List (V × V)}{k x:V}{um uk ux:aR}(hm:gO mem m=aA es)(hfit:ou P t k=aD)(hx:x.inMap=aD)
  (hp:kg es k x=aA out) (hvm:VR Z w j m um) (hvk:VR Z w j k uk) (hvx:VR Z w j x ux) :
  ∃w1,(Instr.mapUpdate t um uk ux).run P w = .ok () w1/\dz P Z w j mem (.tup []) (tA mem m out) undef w1:=by
 obtain⟨kt,e',d,hu,hkt,hd,hik,hfl⟩:=Je hfit hvk;obtain⟨rr,rfl,es',clock,h2,h3,h4,h5⟩:=Ey s hm hvm;rcases afB hp with⟨hf,rfl⟩|⟨i,a,y,g1,g2,g3,hf,rfl⟩
 ·rcases Aw hd hvk hik es es'.toList 0 aF hf (by grind) (by grind)with⟨_,hn⟩|⟨i',a,x',e',hne,_⟩
  ·refine⟨_,by simp[Instr.mapUpdate,dP hu,MapKept.run_getObj_map h2,run_checkKey hkt hik,run_findKey hkt hn,MapKept.run_setObj_map _ h2];rfl,?_⟩;refine EA s hm hvm h2 (by grind) (λi a x' hi=>?_) h5.1 (MapKept.stamped_push h5.2 λx hx e=>?_);rotate_left
   ·obtain⟨i,hi⟩:=zk hx;have hil:=(cE.1 hi).1;obtain⟨e1,q1,q2,_,q3,_⟩:=h4 i _ _ (cI (show i < es.length by grind));simp only[BU]at hi;rw[hi]at q1;cases q1;exact qV (P2 hf _ (Ca _)) hvk q3 e.symm
   by_cases bf:i < es.length
   ·grind
   ·rw[eC (by omega)]at hi;have e0:i=es.length:=by grind
    subst e0;simp at hi;obtain⟨rfl,rfl⟩:=hi;exact⟨⟨uk,ux,clock⟩,by grind,hfl,hx,hvk.flat hfl j0,hvx.inMap0 hx j0⟩
  grind
 ·rcases Aw hd hvk hik es es'.toList 0 (aA y) hf (by grind) (by grind)with⟨hne,_⟩|⟨i',a',x',e',_,q1,q2,hn,_,q3,q4⟩
  ·grind
  ·have ei:=US g1 g2 g3 q1 q3 q4;subst ei;rw[q1]at g1;cases g1;obtain⟨e0,w1,w2,w3,w4,w5⟩:=h4 i a y q1;have q2':es'[i]? = aA e':=by grind
   rw[q2']at w1;cases w1
   have hkk:e'.key=uk:=by
    rw[<-abf q3]at w4;exact abB hfl w4 hvk
   rw[eW]at hn;refine⟨_,by simp[Instr.mapUpdate,dP hu,MapKept.run_getObj_map h2,run_checkKey hkt hik,run_findKey hkt hn,q2',hkk,run_keyThatStays hik,MapKept.run_setObj_map _ h2];rfl,?_⟩;refine EA s hm hvm h2 (by grind) (λi2 a2 x2 hi=>?_) h5.1 (MapKept.stamped_modify h5.2 i _ (λe _=>rfl) λe _ he=>?_);rotate_left
   ·grind
   by_cases e2:i=i2
   ·subst e2;have bf:i < es.length:=(cE.1 q1).1;rw[jn bf]at hi;cases hi;refine⟨{ e' with key:=uk,val:=ux },by grind,w2,hx,?_,hvx.inMap0 hx j0⟩;grind
   grind
def Yh{k:V}:∀{es out:List (V × V)},nI es k=aA out ->
  (gj es k=aA aF/\out=es) ∨
  ∃(i:Nat) (a y:V),es[i]? = aA (a,y)/\fE k a=aA aD/\(∀i' a' x',i' < i->es[i']? = aA (a',x')->fE k a'=aA aE)/\gj es k=aA (aA y)/\out=es.eraseIdx i:=by
 intro es
 induction es with
 |nil=>intro out h;simp[nI]at h;subst h;exact .inl ⟨rfl,rfl⟩
 |cons p es ih =>
  intro out h;obtain⟨a,y⟩:=p;simp only[nI]at h;cases hb:fE k a with
  |none=>grind
  |some b =>
   cases b
   ·cases hr:nI es k with
    |none=>grind
    |some rest =>
     simp[hb,hr]at h;subst h;rcases ih hr with⟨h1,rfl⟩|⟨i,a',y',h1,h2,h3,h4,rfl⟩
     ·exact .inl ⟨by simp[gj,hb,h1],rfl⟩
     ·refine .inr ⟨i+1,a',y',by grind,h2,λi' a'' x'' hi he=>?_,by simp[gj,hb,h4],rfl⟩;grind
   ·simp[hb]at h;subst h;exact .inr ⟨0,a,y,rfl,hb,λi' _ _ hi=>by omega,by simp[gj,hb],rfl⟩
def Yk(s:SR P Z w j mem){t ty:aP}{m:V}{es out:List (V × V)}{k:V}{um uk:aR}{ts:Array aP}{us:Array aR}(ht:ts[0]? = aA t)(hu0:us[0]? = aA um)(hu1:us[1]? = aA uk)
  (hm:gO mem m=aA es) (hfit:ou P t k=aD) (hp:nI es k=aA out) (hvm:VR Z w j m um) (hvk:VR Z w j k uk) :
  ∃w1,(Builtin.delete_ ts ty us).run P w = .ok undef w1/\dz P Z w j mem (.tup []) (tA mem m out) undef w1:=by
 obtain⟨kt,e',d,hu,hkt,hd,hik,hfl⟩:=Je hfit hvk;obtain⟨rr,rfl,es',clock,h2,h3,h4,h5⟩:=Ey s hm hvm;rcases Yh hp with⟨hf,he⟩|⟨i,a,y,g1,g2,g3,hf,rfl⟩
 ·subst he;rcases Aw hd hvk hik out es'.toList 0 aF hf (by grind) (by grind)with⟨_,hn⟩|⟨i',a,x',e',hne,_⟩
  ·refine⟨_,by simp[Builtin.delete_,ht,hu0,hu1,dP hu,MapKept.run_getObj_map h2,run_checkKey hkt hik,run_findKey hkt hn,MapKept.run_setObj_map _ h2,undef];rfl,?_⟩;exact EA s hm hvm h2 h3 h4 h5.1 h5.2
  grind
 ·rcases Aw hd hvk hik es es'.toList 0 (aA y) hf (by grind) (by grind)with⟨hne,_⟩|⟨i',a',x',e',_,q1,q2,hn,_,q3,q4⟩
  ·grind
  ·have ei:=US g1 g2 g3 q1 q3 q4;subst ei;rw[eW]at hn;have bf:i < es.length:=(cE.1 q1).1;refine⟨_,by simp[Builtin.delete_,ht,hu0,hu1,dP hu,MapKept.run_getObj_map h2,run_checkKey hkt hik,run_findKey hkt hn,MapKept.run_setObj_map _ h2,undef];rfl,?_⟩
   have her:es'.eraseIdxIfInBounds i=(es'.toList.eraseIdx i).toArray:=by
    grind
   refine EA s hm hvm h2 (by grind) (λi2 a2 x2 hi=>?_) h5.1 (MapKept.stamped_erase h5.2 i);grind
def L2(s:SR P Z w j mem){sv:V}{u:aR}{id off len fz:Nat}{e:aP}{els:List V}(h:wx mem sv=aA (id,off,len))(hm:mem[id]? = aA (.row e els fz))(hv:VR Z w j sv u):VR Z w j (.win id off len) u:=by
 cases sv<;>simp only[wx]at h<;>first|(cases h;done)|skip
 case win a b c=>grind
 case tail a b =>
  split at h
  ·rename_i hm';cases h;rw[hm]at hm';cases hm';exact(y5 s hm hv).2
  grind
 case own a =>
  split at h
  ·rename_i hm';cases h;rw[hm]at hm';cases hm';obtain⟨hn,hh,hr⟩:=s.obj id _ hm;cases hv with
   |own hj h0 =>
    rw[hj]at hh;cases hh;obtain⟨h1,h2,h3,h4,h5⟩:=hr;rcases h5 with⟨hu,he⟩|⟨g,b,c,us,hu,hlc,_⟩
    ·cases hu;subst he;exact .win hj (cZ _) (cZ _) rfl (.inl ⟨rfl,rfl⟩)
    ·cases hu;exact .win hj (by simp) hlc (by simp) (.inr ⟨g,b,0,rfl,rfl,by simp,by simp⟩)
  grind
def XT(s:SR P Z w j mem){t tx ty:aP}{sv x v:V}{u ux:aR}(hty:nc P t tx x=aD)(h:Ae P mem t sv x=aA (v,mem'))(hv:VR Z w j sv u)(hx:VR Z w j x ux) :
  ∃r w1,(Builtin.copy_ #[t,tx] ty #[u,ux]).run P w = .ok r w1/\dz P Z w j mem v mem' r w1:=by
 unfold Ae at h;simp only[obi]at h;obtain⟨e,he,xs,hxs,⟨id,off,len⟩,hsp,h⟩:=h
 have ht:(bO P) t=aA (.slice e):=by
  unfold gh at he;grind
 simp only at h;split at h;rotate_left
 ·cases h
 rename_i e' els fz hm;split at h;rotate_left
 ·cases h
 rename_i hc;obtain⟨rfl,hall,hfz,hend⟩:=hc;cases h;have hw:=L2 s hsp hm hv;have hall':∀y∈xs,y.cells.length=(aK P) e':=λy hy=>by grind
 obtain⟨hn,hh,hr⟩:=s.obj id _ hm;obtain⟨h1,h2,h3,h4,h5⟩:=hr;have hpos:0 < (aK P) e':=by grind
 obtain⟨news,ha,hnr⟩:=GL s hty ht hpos hxs hall' hx;obtain⟨i,hi,his,_⟩:=vm hpos;cases hw with
 |win hj hnn hlc hcc hA =>
 rename_i n c sz c' A A';rw[hj]at hh;cases hh;simp only at h1 h2 h4 h5;subst h1;obtain⟨m,hmd⟩:∃m,m=min xs.length len:=⟨_,rfl⟩
 rw[<-hmd];have hml:m<=len:=by omega
 have hmx:m<=xs.length:=by omega
 have hnm:Nat.min xs.length len=m:=hmd.symm;have hfc:=ha.cells m w hmx rfl;rw[<-his]at hfc
 have hrun:(Builtin.copy_ #[t,tx] ty #[.slice A' len c',ux]).run P w=(match A' with|some a=>(storeCells a (news.take (m * i.size))).run P w|none=>.ok () w).andThen λ_ w1=>.ok (goInt m) w1:=by
  have hlen:=ha.len w;cases A'<;>simp[Builtin.copy_,dP ht,hlen,sizeOf,ij,hi,hnm,hfc]
 by_cases hm0:m=0
 ·subst hm0;have he1:els.take off++xs.take 0++els.drop (off+0)=els:=by simp
  rw[he1]
  have he2:mem.set id (.row e' els fz)=mem:=by
   apply uD;grind
  rw[he2];refine⟨goInt 0,w,?_,fB s .int⟩;rw[hrun];cases A'<;>simp[storeCells]
 ·rcases h5 with⟨_,hel⟩|⟨g,b,c2,us,hu,hlc2,hcm,hg,hus,hcells,hz1,hz2⟩
  ·grind
  ·simp only[Value.slice.injEq]at hu;obtain⟨rfl,rfl,rfl⟩:=hu;rcases hA with⟨hA,_⟩|⟨g',b',o,hA,rfl,ho1,ho2⟩
   ·grind
   cases hA;have ho:o=off * (aK P) e':=ho2 (by omega);subst ho;obtain⟨vals,hvd⟩:∃vals,vals=news.take (m * (aK P) e'):=⟨_,rfl⟩
   have hvl:vals.length=m * (aK P) e':=by
    rw[hvd,jW,ha.size];simp_all
   have hsz1:(off+m) * (aK P) e'<=els.length * (aK P) e':=dO _ (by omega);have hsz2:els.length * (aK P) e'<=c * (aK P) e':=dO _ hlc2;rw[jX]at hsz1;have hus:b+c * (aK P) e'<=us.size:=hus;obtain⟨p,hp⟩:∃p,p=b+off * (aK P) e':=⟨_,rfl⟩
   have hpl:p+vals.length<=us.size:=by omega
   obtain⟨q1,q2,q3⟩:=BM (w:=w) (p:=p) (vals:=vals) hg hpl;have hone:∀v∈vals,v.oneCell'=true:=λv hv=>ha.one v (uF (hvd ▸ hv))
   have hst:=yG P g p e' vals 0 us w hg (by grind) hone;simp only[gn]at hst;refine⟨goInt m,w.setRow g (us.toList.take p++vals++us.toList.drop (p+vals.length)).toArray,?_,?_⟩
   ·simp_all
   obtain⟨w1,hw1⟩:∃w1,w1=w.setRow g (us.toList.take p++vals++us.toList.drop (p+vals.length)).toArray:=⟨_,rfl⟩
   have hot:∀k,k≠g->w1.heap[k]? = w.heap[k]?:=λk hk=>by rw[hw1];exact oL w g k _ hk
   rw[<-hw1]at q1 q3 |-
   have hfz':fz * (aK P) e'<=off * (aK P) e':=dO _ hfz
   have hz':bU Z w Z w1:=by
    refine .of λg' x hx=>⟨hx,?_⟩
    by_cases e:g'=g
    ·subst e;have h7:x < b+fz * (aK P) e':=(hz1 x hx).2;refine⟨by rw[q3 x,bh (by omega),gB hg],?_⟩;simp only[jf,q1,hg,q2]
    ·exact ji (hot g' e) x
   have hbk:dk j id=aA g:=by simp[dk,hj,cO.blk]
   have hne:∀g',dk j id≠aA g'->g'≠g:=by
    grind
   have hrow:OR P Z w1 j id (.row e' (els.take off++xs.take m++els.drop (off+m)) fz):=by
    have hto:(els.take off).length=off:=by simp;omega
    have htx:(xs.take m).length=m:=by grind
    have hlen':(els.take off++xs.take m++els.drop (off+m)).length=els.length:=by grind
    refine⟨_,hj,rfl,hpos,by grind,λz hz=>?_,.inr ⟨g,b,c,_,by grind,by grind,hcm,q1,by grind,λk x hk i y hy=>?_,hz1,hz2⟩⟩
    ·grind
    ·show _/\∃u,w1.cell? ⟨g,b+k * (aK P) e'+i,aF⟩=aA u/\_;rw[q3]
     have old:∀x,els[k]? = aA x->x.cells[i]? = aA y->(k < off∨off+m<=k)->y.one=aD/\∃u,(if p<=b+k * (aK P) e'+i/\b+k * (aK P) e'+i < p+vals.length then vals[b+k * (aK P) e'+i - p]? else us[b+k * (aK P) e'+i]?)=aA u/\VR Z w1 j0 y u:=by
      intro x hk hy hkk;have hil:i < (aK P) e':=by grind
      have hout:¬(p<=b+k * (aK P) e'+i/\b+k * (aK P) e'+i < p+vals.length):=by
       rintro⟨r1,r2⟩;rcases hkk with hk1|hk1
       ·have:(k+1) * (aK P) e'<=off * (aK P) e':=dO _ hk1;grind
       ·have:(off+m) * (aK P) e'<=k * (aK P) e':=dO _ hk1;grind
      rw[bh hout];obtain⟨a,u',hu'',hvv⟩:=hcells k x hk i y hy;rw[gB hg]at hu'';exact⟨a,u',hu'',hvv.mono hz' (bG.refl _)⟩
     by_cases hk1:k < off
     ·grind
     ·rw[c8,eC (by omega),hto]at hk
      by_cases hk2:k - off < m
      ·rw[eP (by omega),kx,bc hk2]at hk;have hil:i < (aK P) e':=by grind
       obtain⟨a,u',hu',hvv⟩:=hnr _ x i y hk hy;have e1:k * (aK P) e'=off * (aK P) e'+(k - off) * (aK P) e':=by rw[<-jX];grind
       have e2:(k - off+1) * (aK P) e'<=m * (aK P) e':=dO _ (by omega);rw[my]at e2;rw[bc (by omega),show b+k * (aK P) e'+i - p=(k - off) * (aK P) e'+i by omega,hvd,kx,bc (by omega)];exact⟨a,u',hu',hvv.mono hz' (bG.refl _)⟩
      ·rw[eC (by omega),htx,i6,show off+m+(k - off - m)=k by omega]at hk;grind
   refine⟨Z,j,.int,s.set hm (λ_=>rfl) hz' (λg' hg'=>⟨hot g' (hne g' hg'),λ_=>Iff.rfl⟩) (λg' x hx=>?_) (λh=>by cases h) hrow,?_,bG.refl _⟩
   ·have:=s.zin g' x hx;simp_all
   ·exact br.set hm (λ_=>rfl) rfl hz' (λg' hg'=>⟨hot g' (hne g' hg'),λ_=>Iff.rfl⟩) (by simp_all) (by simp_all) (by simp_all) (by simp_all)
def adj(s:SR P Z w j mem){id off m fz:Nat}{e':aP}{els xs:List V}{vals:List aR}{v:V}{r:aR}(hm:mem[id]? = aA (.row e' els fz)){g b c:Nat}{us:Array aR}
  (hj:j id=aA ⟨.slice (aA ⟨g,b,aF⟩) els.length c,(aK P) e'⟩) (hlc2:els.length<=c) (hcm:c<=f9) (hg:w.heap[g]? = aA (.cells us e' (0,0))) (hus:b+c * (aK P) e'<=us.size) (hpos:0 < (aK P) e')
  (h3:fz<=els.length) (h4:∀x∈els,x.cells.length=(aK P) e') (hcells:∀k x,els[k]? = aA x->fX Z w j0 g (b+k * (aK P) e') x.cells) (hz1:∀o,Z g o->0 < fz/\o < b+fz * (aK P) e') (hz2:∀o,o < fz * (aK P) e'->Z g (b+o))
  (hfz:fz<=off) (hend:off+m<=els.length) (hxm:xs.length=m) (hall':∀y∈xs,y.cells.length=(aK P) e') (hvl:vals.length=m * (aK P) e')
  (hnr:∀(k:Nat) (x:V) (i:Nat) (y:V),xs[k]? = aA x->x.cells[i]? = aA y->y.one=aD/\∃u,vals[k * (aK P) e'+i]? = aA u/\VR Z w j0 y u) (hv:∀Z' w',VR Z' w' j v r) :
  dz P Z w j mem v (mem.set id (.row e' (els.take off++xs++els.drop (off+m)) fz)) r (w.setRow g (us.toList.take (b+off * (aK P) e')++vals++us.toList.drop (b+off * (aK P) e'+vals.length)).toArray):=by
 have hsz1:(off+m) * (aK P) e'<=els.length * (aK P) e':=dO _ (by omega);have hsz2:els.length * (aK P) e'<=c * (aK P) e':=dO _ hlc2;rw[jX]at hsz1;obtain⟨p,hp⟩:∃p,p=b+off * (aK P) e':=⟨_,rfl⟩
 rw[<-hp];have hpl:p+vals.length<=us.size:=by omega
 obtain⟨q1,q2,q3⟩:=BM (w:=w) (p:=p) (vals:=vals) hg hpl;obtain⟨w1,hw1⟩:∃w1,w1=w.setRow g (us.toList.take p++vals++us.toList.drop (p+vals.length)).toArray:=⟨_,rfl⟩
 have hot:∀k,k≠g->w1.heap[k]? = w.heap[k]?:=λk hk=>by rw[hw1];exact oL w g k _ hk
 rw[<-hw1]at q1 q3 |-
 have hfz':fz * (aK P) e'<=off * (aK P) e':=dO _ hfz
 have hz':bU Z w Z w1:=by
  refine .of λg' x hx=>⟨hx,?_⟩
  by_cases e:g'=g
  ·subst e;have h7:x < b+fz * (aK P) e':=(hz1 x hx).2;refine⟨by rw[q3 x,bh (by omega),gB hg],?_⟩;simp only[jf,q1,hg,q2]
  ·exact ji (hot g' e) x
 have hbk:dk j id=aA g:=by simp[dk,hj,cO.blk]
 have hne:∀g',dk j id≠aA g'->g'≠g:=by
  grind
 have hrow:OR P Z w1 j id (.row e' (els.take off++xs++els.drop (off+m)) fz):=by
  have hto:(els.take off).length=off:=by simp;omega
  have hlen':(els.take off++xs++els.drop (off+m)).length=els.length:=by grind
  refine⟨_,hj,rfl,hpos,by grind,λz hz=>?_,.inr ⟨g,b,c,_,by grind,by grind,hcm,q1,by grind,λk x hk i y hy=>?_,hz1,hz2⟩⟩
  ·grind
  ·show _/\∃u,w1.cell? ⟨g,b+k * (aK P) e'+i,aF⟩=aA u/\_;rw[q3]
   have old:∀x,els[k]? = aA x->x.cells[i]? = aA y->(k < off∨off+m<=k)->y.one=aD/\∃u,(if p<=b+k * (aK P) e'+i/\b+k * (aK P) e'+i < p+vals.length then vals[b+k * (aK P) e'+i - p]? else us[b+k * (aK P) e'+i]?)=aA u/\VR Z w1 j0 y u:=by
    intro x hk hy hkk;have hil:i < (aK P) e':=by grind
    have hout:¬(p<=b+k * (aK P) e'+i/\b+k * (aK P) e'+i < p+vals.length):=by
     rintro⟨r1,r2⟩;rcases hkk with hk1|hk1
     ·have:(k+1) * (aK P) e'<=off * (aK P) e':=dO _ hk1;grind
     grind
    rw[bh hout];obtain⟨a,u',hu'',hvv⟩:=hcells k x hk i y hy;rw[gB hg]at hu'';exact⟨a,u',hu'',hvv.mono hz' (bG.refl _)⟩
   by_cases hk1:k < off
   ·grind
   ·rw[c8,eC (by omega),hto]at hk
    by_cases hk2:k - off < m
    ·rw[eP (by omega)]at hk;have hil:i < (aK P) e':=by grind
     obtain⟨a,u',hu',hvv⟩:=hnr _ x i y hk hy;have e1:k * (aK P) e'=off * (aK P) e'+(k - off) * (aK P) e':=by rw[<-jX];grind
     have e2:(k - off+1) * (aK P) e'<=m * (aK P) e':=dO _ (by omega);rw[my]at e2;rw[bc (by omega),show b+k * (aK P) e'+i - p=(k - off) * (aK P) e'+i by omega];exact⟨a,u',hu',hvv.mono hz' (bG.refl _)⟩
    ·rw[eC (by omega),hxm,i6,show off+m+(k - off - m)=k by omega]at hk;grind
 refine⟨Z,j,hv _ _,s.set hm (λ_=>rfl) hz' (λg' hg'=>⟨hot g' (hne g' hg'),λ_=>Iff.rfl⟩) (λg' x hx=>?_) (λh=>by cases h) hrow,?_,bG.refl _⟩
 ·have:=s.zin g' x hx;simp_all
 ·exact br.set hm (λ_=>rfl) rfl hz' (λg' hg'=>⟨hot g' (hne g' hg'),λ_=>Iff.rfl⟩) (by simp_all) (by simp_all) (by simp_all) (by simp_all)
def XB(s:SR P Z w j mem){t ty:aP}{sv v:V}{u:aR}(h:Aa P mem t sv=aA (v,mem'))(hv:VR Z w j sv u) :
  ∃r w1,(Builtin.clear_ #[t] ty #[u]).run P w = .ok r w1/\dz P Z w j mem v mem' r w1:=by
 unfold Aa at h;simp only[obi]at h;obtain⟨e,he,⟨id,off,len⟩,hsp,h⟩:=h
 have ht:(bO P) t=aA (.slice e):=by
  unfold gh at he;grind
 simp only at h;split at h;rotate_left
 ·cases h
 rename_i e' els fz hm;split at h;rotate_left
 ·cases h
 rename_i hc;obtain⟨rfl,hroom,hfz,hend⟩:=hc;simp only[obi,omi]at h;obtain⟨z,hz,z',hz',h⟩:=h;cases h;have tup:∀(Z:Zs) (w:bg),VR Z w j (.tup []) (.tuple #[]):=λZ w=>.tup (us:=[]) rfl (λi c u hc=>by grind)
 have hw:=L2 s hsp hm hv;obtain⟨hn,hh,h1,h2,h3,h4,h5⟩:=s.obj id _ hm;have hpos:0 < (aK P) e':=by grind
 cases hw with
 |win hj hnn hlc hcc hA =>
 rename_i n c sz c' A A';rw[hj]at hh;cases hh;simp only at h1 h2 h4 h5;subst h1
 by_cases hm0:len=0
 ·subst hm0;have he1:els.take off++cA 0 z'++els.drop (off+0)=els:=by simp
  rw[he1]
  have he2:mem.set id (.row e' els fz)=mem:=by
   apply uD;grind
  rw[he2];refine⟨.tuple #[],w,?_,fB s (tup _ _)⟩;cases A'<;>simp[Builtin.clear_,dP ht]
 ·rcases h5 with⟨_,hel⟩|⟨g,b,c2,us,hu,hlc2,hcm,hg,hus,hcells,hz1,hz2⟩
  ·grind
  ·simp only[Value.slice.injEq]at hu;obtain⟨rfl,rfl,rfl⟩:=hu;rcases hA with⟨hA,_⟩|⟨g',b',o,hA,rfl,ho1,ho2⟩
   ·grind
   cases hA;have ho:o=off * (aK P) e':=ho2 (by omega);subst ho;obtain⟨i,zv,hi,hzv,hvz,_⟩:=uy (P:=P) (Z:=Z) (w:=w) (j:=j) hz;have hcellsz:=AC hz';obtain⟨hm1,hm2⟩:=kY hcellsz
   have hone:∀y∈z.cells,y.one=true:=by
    intro y hy;obtain⟨k,hk,rfl⟩:=mq hy;obtain⟨y',_,hy'⟩:=Ez hcellsz k _ (cI hk);exact(AB hy').1
   obtain⟨hcs,hcl⟩:=hvz.cellsOf hone;obtain⟨x0,hx0⟩:∃x0,els[off]? = aA x0:=⟨_,cI (by omega)⟩
   obtain⟨i2,hi2,his,_⟩:=vm hpos;rw[hi]at hi2;cases hi2
   have hzs:zv.cells.size=(aK P) e':=by
    obtain⟨_,_,_,i3,zv3,hi3,_,_,hz3,hzs3⟩:=lI hroom;grind
   have hzl:z'.cells.length=(aK P) e':=by grind
   have hzone:∀v∈zv.cells.toList,v.oneCell'=true:=by
    intro v hv;obtain⟨k,hk,rfl⟩:=mq hv;have hk':k < zv.cells.size:=by grind
    obtain⟨cu,hcu,hvr⟩:=hcl k _ (cI (by omega))
    have:zv.cells.toList[k]=cu:=by
     grind
    rw[this];exact hvr.oneCell (hone _ (Ca _))
   obtain⟨vals,hvd⟩:∃vals,vals=(Builtin.zeroCells zv.cells len).toList:=⟨_,rfl⟩
   have hvl:vals.length=len * (aK P) e':=by rw[hvd];simp[Builtin.zeroCells,hzs]
   have hvone:∀v∈vals,v.oneCell'=true:=by
    intro v hv;rw[hvd]at hv;simp only[Builtin.zeroCells,Array.toList_map,fi,Array.mem_toList_iff,Array.mem_range]at hv;obtain⟨q,hq,rfl⟩:=hv;have bf:q % zv.cells.size < zv.cells.size:=Nat.mod_lt _ (by omega);grind
   have hsz1:(off+len) * (aK P) e'<=els.length * (aK P) e':=dO _ (by omega);have hsz2:els.length * (aK P) e'<=c * (aK P) e':=dO _ hlc2;rw[jX]at hsz1;have hst:=yG P g (b+off * (aK P) e') e' vals 0 us w hg (by grind) hvone;simp only[gn]at hst;refine⟨.tuple #[],_,?_,adj (vals:=vals) (m:=len) (xs:=cA len z') s hm hj hlc2 hcm hg hus hpos h3 h4 hcells hz1 hz2 hfz hend (by simp) (λy hy=>by grind) hvl (λk x q y hk hy=>?_) tup⟩
   ·obtain⟨m,rfl⟩:∃m,len=m+1:=⟨len - 1,by omega⟩
    simp[Builtin.clear_,dP ht,zeroValue,ij,hi,hzv,<-hvd,hst]
   ·have hx:=B7 (dH hk);subst hx;have hkl:k < len:=by grind
    have hq:q < (aK P) e':=by grind
    obtain⟨y0,hy0,hyi⟩:=hm2 q y hy;obtain⟨cu,hcu,hvr⟩:=hcl q y0 hy0;obtain⟨p1,p2,_⟩:=oo hyi hvr;refine⟨p2,cu,?_,p1⟩
    have hlt2:k * (aK P) e'+q < len * zv.cells.size:=by
     have:(k+1) * (aK P) e'<=len * (aK P) e':=dO _ (by omega);grind
    rw[hvd];unfold Builtin.zeroCells;rw[BU,Gf,Mo,bc hlt2];simp only[dy]
    have hmod:(k * (aK P) e'+q) % zv.cells.size=q:=by
     rw[hzs,so,MO,Gw hq]
    grind
def Rx{t:aP}{a b v:V}{ua ub:aR}(h:qY P mem t a b=aA (v,mem'))(ha:VR Z w j a ua)(hb:VR Z w j b ub) :
  ∃e us els c,(Instr.makeSlice t ua ub).run P w = .ok (.slice (aA ⟨w.heap.size,0,aF⟩) els.length c) (w.alloc (.cells us e))/\v = .own mem.length/\mem'=mem++[.row e els 0]/\0 < (aK P) e/\(∀x∈els,x.cells.length=(aK P) e) /\
   els.length<=c/\c<=f9/\us.size=c * (aK P) e/\∀(k:Nat) (x:V) (i:Nat) (y:V),els[k]? = aA x->x.cells[i]? = aA y->y.one=aD/\∃u,us[k * (aK P) e+i]? = aA u/\VR Z w j0 y u:=by
 unfold qY at h;simp only[obi]at h;obtain⟨e,he,h⟩:=h
 have ht:(bO P) t=aA (.slice e):=by
  unfold gh at he;cases hu:(bO P) t with
  |none=>simp[hu]at he
  |some d=>cases d<;>simp[hu]at he;subst he;rfl
 split at h;rotate_left
 ·cases h
 rename_i kl l kc c;cases ha;cases hb;split at h;rotate_left
 ·cases h
 rename_i hc;obtain⟨h0,hlc,hroom⟩:=hc;simp only[obi,omi]at h;obtain⟨z,hz,z',hz',h⟩:=h;cases h;obtain⟨hn,hby,hpos,i,zv,hi,his,hib,hzv,hzs⟩:=lI hroom;obtain⟨i2,zv2,hi2,hzv2,hvz,_⟩:=uy (P:=P) (Z:=Z) (w:=w) (j:=j) hz;rw[hi]at hi2;cases hi2;rw[hzv]at hzv2;cases hzv2;have hcells:=AC hz';obtain⟨hm1,hm2⟩:=kY hcells
 have hone:∀y∈z.cells,y.one=true:=by
  intro y hy;obtain⟨k,hk,rfl⟩:=mq hy;obtain⟨y',_,hy'⟩:=Ez hcells k _ (cI hk);exact(AB hy').1
 obtain⟨hcs,hcl⟩:=hvz.cellsOf hone;have hzl:z'.cells.length=(aK P) e:=by rw[hm1,<-hcs,hzs]
 have hbytes:(i.bytes:Int) * c<=281474976710656:=by
  have h1:i.bytes * c.toNat<=4096 * 16777216:=Cj (by rw[hib];exact hby) hn;have h2:((i.bytes * c.toNat:Nat):Int)=(i.bytes:Int) * c:=by rw[Int.natCast_mul];congr 1;omega
  omega
 have hrun:=run_make (P:=P) w t e i zv ht hi hzv kl kc l c h0 hlc hbytes (by omega);have bf:l.toNat<=c.toNat:=by omega
 refine⟨e,madeCells zv.cells (c.toNat * i.size),cA l.toNat z',c.toNat,by rw[Cb];exact hrun,rfl,rfl,hpos,λx hx=>by rw[B7 hx];exact hzl,by simpa using bf,by simp only[f9];omega,by rw[size_madeCells,his],?_⟩;intro k x q y hk hy;have hx:=B7 (dH hk);subst hx;have hkl:k < l.toNat:=by have:=(cE.1 hk).1;simpa using this
 have hq:q < (aK P) e:=by rw[<-hzl];exact(cE.1 hy).1
 obtain⟨y0,hy0,hyi⟩:=hm2 q y hy;obtain⟨cu,hcu,hvr⟩:=hcl q y0 hy0;obtain⟨p1,p2,_⟩:=oo hyi hvr;refine⟨p2,cu,?_,p1⟩
 have hlt2:k * (aK P) e+q < c.toNat * i.size:=by
  have:(k+1) * (aK P) e<=c.toNat * (aK P) e:=dO _ (by omega);rw[my]at this;rw[his];omega
 unfold madeCells;rw[Gf,Mo,bc hlt2];simp only[dy]
 have hmod:(k * (aK P) e+q) % zv.cells.size=q:=by
  rw[hzs,so,MO,Gw hq]
 rw[hmod];have hqs:q < zv.cells.size:=by rw[hzs];exact hq
 rw[getElem!_pos zv.cells q hqs];rw[gG hqs]at hcu;exact hcu
def adZ(s:SR P Z w j mem){t:aP}{a b v:V}{ua ub:aR}(h:qY P mem t a b=aA (v,mem'))(ha:VR Z w j a ua)(hb:VR Z w j b ub) :
  ∃r w1,(Instr.makeSlice t ua ub).run P w = .ok r w1/\dz P Z w j mem v mem' r w1:=by
 obtain⟨e,us,els,c,h1,rfl,rfl,p1,p2,p3,p4,p5,p6⟩:=Rx h ha hb;exact⟨_,_,h1,Bo s rfl rfl rfl rfl p1 p2 (kz _) p3 p4 p5 p6⟩
def WL(s:SR P Z w j mem){t tn ty:aP}{sv x v:V}{u ux:aR}(h:uO P mem t tn sv x=aA (v,mem'))(hs:VR Z w j sv u)(hx:VR Z w j x ux) :
  ∃r w1,(Builtin.append_ #[t,tn] ty #[u,ux]).run P w = .ok r w1/\dz P Z w j mem v mem' r w1:=by
 unfold uO at h;split at h;rotate_left
 ·cases h
 rename_i kn n htn;cases hs;cases hx;simp only[obi]at h;obtain⟨e,he,h⟩:=h
 have ht:(bO P) t=aA (.slice e):=by
  unfold gh at he;cases hu:(bO P) t with
  |none=>simp[hu]at he
  |some d=>cases d<;>simp[hu]at he;subst he;rfl
 split at h;rotate_left
 ·cases h
 rename_i hc;obtain⟨h0,hroom⟩:=hc;simp only[obi,omi]at h;obtain⟨z,hz,z',hz',h⟩:=h;cases h;obtain⟨hn,hby,hpos,i,zv,hi,his,hib,hzv,hzs⟩:=lI hroom;obtain⟨i2,zv2,hi2,hzv2,hvz,_⟩:=uy (P:=P) (Z:=Z) (w:=w) (j:=j) hz;rw[hi]at hi2;cases hi2;rw[hzv]at hzv2;cases hzv2;have hcells:=AC hz';obtain⟨hm1,hm2⟩:=kY hcells
 have hone:∀y∈z.cells,y.one=true:=by
  intro y hy;obtain⟨k,hk,rfl⟩:=mq hy;obtain⟨y',_,hy'⟩:=Ez hcells k _ (cI hk);exact(AB hy').1
 obtain⟨hcs,hcl⟩:=hvz.cellsOf hone;have hzl:z'.cells.length=(aK P) e:=by rw[hm1,<-hcs,hzs]
 obtain⟨N,rfl⟩:∃N:Nat,n=(N:Int):=⟨n.toNat,by omega⟩
 rw[Int.toNat_natCast]at hn hroom |-
 have hbytes:N * i.bytes<=140737488355328:=by
  rw[hib];exact qw (Cj hn hby) (by decide)
 have hrun:=Lib.run_append_grow_zeros w t tn ty e i zv aB kn ht htn hi hzv aF 0 0 [] (run_firstCells_none w.drew i.size 0 0 0) N (by omega) (by omega) (by omega) (by omega) (by omega) (growslice_fits (by omega) (by simpa using hbytes));rw[eW]at hrun
 have hcp:N<=gq w N 0 e:=by
  exact grownCap_ge w N 0 e
 have hcm:gq w N 0 e<=f9:=grownCap_le_maxLen w _ _ e (by simp only[f9];omega)
 have hp:=Bo (fz:=0) (els:=cA N z') (us:=#[].append (Builtin.zeroCells zv.cells N)++Builtin.zeroCells zv.cells (gq w N 0 e - N)) (c:=gq w N 0 e) (w1:=w.drew.alloc (.cells ([].toArray++Builtin.zeroCells zv.cells N++Builtin.zeroCells zv.cells (gq w N 0 e - N)) e)) s rfl rfl rfl rfl hpos (λx hx=>by rw[B7 hx];exact hzl) (kz _) (by simpa using hcp) hcm
  (by
   show(#[]++Builtin.zeroCells zv.cells N++Builtin.zeroCells zv.cells (gq w N 0 e - N)).size=_;rw[BV,BV,size_zeroCells,size_zeroCells,hzs,Array.size_empty,eW,<-jX,Nat.add_sub_of_le hcp]) (by
  intro k x q y hk hy;have hx:=B7 (dH hk);subst hx;have hkl:k < N:=by have:=(cE.1 hk).1;simpa using this
  have hq:q < (aK P) e:=by rw[<-hzl];exact(cE.1 hy).1
  obtain⟨y0,hy0,hyi⟩:=hm2 q y hy;obtain⟨cu,hcu,hvr⟩:=hcl q y0 hy0;obtain⟨p1,p2,_⟩:=oo hyi hvr;refine⟨p2,cu,?_,p1⟩
  have hlt2:k * (aK P) e+q < N * zv.cells.size:=by
   have:(k+1) * (aK P) e<=N * (aK P) e:=dO _ (by omega);rw[my]at this;rw[hzs];omega
  show(#[]++Builtin.zeroCells zv.cells N++Builtin.zeroCells zv.cells (gq w N 0 e - N))[k * (aK P) e+q]? = aA cu;rw[Array.empty_append,Mn (by rw[size_zeroCells];exact hlt2)];unfold Builtin.zeroCells;rw[Gf,Mo,bc hlt2];simp only[dy]
  have hmod:(k * (aK P) e+q) % zv.cells.size=q:=by
   rw[hzs,so,MO,Gw hq]
  rw[hmod];have hqs:q < zv.cells.size:=by rw[hzs];exact hq
  rw[getElem!_pos zv.cells q hqs];rw[gG hqs]at hcu;exact hcu)
 rw[Cb]at hp;exact⟨_,_,hrun,hp⟩
def acz{v x:V}{u:aR}(h:j7 v=aA x)(hv:VR Z w j v u):VR Z w j0 x u:=by
 cases v with
 |agg cs =>
  simp only[j7,omi]at h;obtain⟨ds,hd,rfl⟩:=h;cases hv;rename_i us hl hh;obtain⟨m1,m2⟩:=kY hd;refine .agg (m1.trans hl) λi c u hc hu=>?_
  obtain⟨c0,h0,hi⟩:=m2 i c hc;exact(oo hi (hh i c0 u h0 hu)).1
 |_=>exact(oo (by simpa[j7]using h) hv).1
def adV{t:aP}{v v':V}{u:aR}(h:Jm P t v=aA v')(hv:VR Z w j v u):∃r,(Instr.makeInterface t u).run P w = .ok r w/\VR Z w j v' r:=by
 unfold Jm at h;cases hu:(bO P) t with
 |none=>simp[hu]at h
 |some d =>
  have key:(j7 v).map (.ifc t)=aA v'->VR Z w j v' (.iface t u):=λh=>by
   obtain⟨x,hx,rfl⟩:=omi.1 h;exact .ifc (acz hx hv)
  cases d<;>simp only[hu]at h<;>first|(cases h;done)|exact⟨_,by simp[Instr.makeInterface,dP hu],key h⟩
def V7{t:aP}{v:V}(h:wG P t=aA v):∃z,(zeroValue t).run P w = .ok z w/\VR Z w j v (.tuple #[z,.bool aE]):=by
 obtain⟨z,hz,rfl⟩:=omi.1 h;obtain⟨i,zv,hi,hzz,hv,_⟩:=uy (Z:=Z) (w:=w) (j:=j) hz;refine⟨zv,by simp[zeroValue,ij,hi,hzz],.tup (us:=[zv,.bool aE]) rfl λk c u hc hu=>?_⟩
 match k with
 |0=>simp at hc hu;subst hc hu;exact hv
 |1=>simp at hc hu;subst hc hu;exact .bool
 |k+2=>simp at hc
def aiQ{t s:aP}{ok:Bool}{v v':V}{u:aR}(h:y7 P t ok v=aA v')(hv:VR Z w j v u):∃r,(Instr.typeAssert u s t ok).run P w = .ok r w/\VR Z w j v' r:=by
 unfold y7 at h;cases hu:(bO P) t with
 |none=>simp[hu]at h
 |some d =>
  cases d<;>simp only[hu]at h<;>first|(cases h;done)|skip
  all_goals
   cases v<;>simp only[CZ]at h<;>first|(cases h;done)|skip
   ·cases hv;cases ok
    ·cases h
    ·obtain⟨z,hz,hvz⟩:=V7 (Z:=Z) (w:=w) (j:=j) (by simpa using h);exact⟨_,by simp[Instr.typeAssert,dP hu,hz],hvz⟩
   ·rename_i t' x;cases hv;rename_i u hx
    by_cases e:t'=t
    ·subst e;rw[bc rfl]at h;cases h;cases ok
     ·exact⟨_,by simp[Instr.typeAssert,dP hu],hx.up j⟩
     ·refine⟨_,by simp[Instr.typeAssert,dP hu],.tup (us:=[u,.bool aD]) rfl λk c u hc hu=>?_⟩
      match k with
      |0=>simp at hc hu;subst hc hu;exact hx.up j
      |1=>simp at hc hu;subst hc hu;exact .bool
      |k+2=>simp at hc
    ·rw[bh e]at h;cases ok
     ·cases h
     ·obtain⟨z,hz,hvz⟩:=V7 (Z:=Z) (w:=w) (j:=j) (by simpa using h);exact⟨_,by simp[Instr.typeAssert,dP hu,hz,e],hvz⟩
end
set_option linter.unusedVariables false
section
variable {P:bv}{Z Z':Zs}{w w':bg}{j j':J}{mem mem':List O}
def mf(j:J)(id:Nat):Nat:=match (j id).bind cO.start with|some r=>r.2|none=>0
def jh(P:bv)(j:J)(mem:List O)(id:Nat):Nat :=
 match mem[id]? with
 |some (.row t els _)=>mf j id+els.length * (aK P) t
 |some (.box t _ _)=>(aK P) t
 |_=>0
def Fz(P:bv)(j:J)(mem:List O)(ids:List Nat):Nat->Nat->Prop:=λg o=>∃id,id∈ids/\dk j id=aA g/\mf j id<=o/\o < jh P j mem id
def dR(A:Zs)(B:Nat->Nat->Prop):Zs:={ A with z:=λg o=>A g o∨B g o }
def bU.or(A:Zs)(B:Nat->Nat->Prop)(w:bg):bU A w (dR A B) w:=.of λ_ _ h=>⟨.inl h,rfl,rfl⟩
def R9(mem:List O)(i k:Nat):jh P j (freeze mem i) k=jh P j mem k:=by
 unfold freeze;split
 ·rename_i t els fz hm;have bf:i < mem.length:=(cE.1 hm).1;unfold jh;grind
 ·rename_i t v fz hm;have bf:i < mem.length:=(cE.1 hm).1;unfold jh;grind
 ·rfl
def pR(s:SR P Z w j mem){id g o:Nat}(hb:dk j id=aA g)(ho:mf j id<=o/\o < jh P j mem id):bT Z j mem g:=by
 have ho:=ho.2;unfold jh at ho;cases hm:mem[id]? with
 |none=>grind
 |some x =>
  cases x with
  |dead=>grind
  |map es=>grind
  |arena t els=>grind
  |marena t ms=>grind
  |row t els fz=>exact⟨id,_,hm,rfl,hb⟩
  |box t v fz=>exact⟨id,_,hm,rfl,hb⟩
def abU(s:SR P Z w j mem)(i:Nat):SR P (dR Z (Fz P j mem [i])) w j (freeze mem i)/\(∀g,bT Z j (freeze mem i) g↔bT Z j mem g):=by
 have hin:∀g o,dR Z (Fz P j mem [i]) g o->g < w.heap.size:=by
  intro g o h;rcases h with h|⟨id,hid,hb,ho⟩
  ·exact s.zin g o h
  ·exact bT.lt s (pR s hb ho)
 have hne:∀g,dk j i≠aA g->w.heap[g]? = w.heap[g]?/\∀o,dR Z (Fz P j mem [i]) g o↔Z g o:=λg hg=>⟨rfl,λo=>⟨λh=>h.resolve_right fun⟨id,hid,hb,_⟩=>by
  grind,.inl⟩⟩
 have live:∀(o o':O),mem[i]? = aA o->o.live=aD->o'.live=aD->o.ar=aF->o'.ar=aF->∀g,bT Z j (mem.set i o') g↔bT Z j mem g:=by
  intro o o' hm hl hl' har har' g;refine⟨λh=>h.set hm (λ_=>hl) har har',?_⟩;rintro⟨k,x,hx,hlx,hb⟩;have bf:i < mem.length:=(cE.1 hm).1
  by_cases e:i=k
  ·subst e;rw[hm]at hx;cases hx;exact⟨i,o',by grind,hl',(bY.plain har').2 ((bY.plain har).1 hb)⟩
  ·exact⟨k,x,by grind,hlx,hb⟩
 unfold freeze;split
 ·rename_i t els fz hm;refine⟨s.set hm (λ_=>rfl) (bU.or _ _ _) hne hin (λh=>by cases h) ?_,live _ _ hm rfl rfl rfl rfl⟩;obtain⟨h,hh,h1,h2,h3,h4,h5⟩:=s.obj i _ hm;refine⟨h,hh,h1,h2,cZ _,h4,?_⟩;rcases h5 with h5|⟨g,b,c,us,hu,hlc,hcm,hg,hsz,hcells,hz1,hz2⟩
  ·grind
  ·have hbk:dk j i=aA g:=by cases h;simp at hu;subst hu;simp[dk,hh,cO.blk]
   have hof:mf j i=b:=by cases h;simp at hu;subst hu;simp[mf,hh,cO.start]
   have hol:jh P j mem i=b+els.length * h.sz:=by simp[jh,hof,hm,h1]
   refine .inr ⟨g,b,c,us,hu,hlc,hcm,hg,hsz,λk x hk=>(hcells k x hk).mono (bU.or _ _ _) (bG.refl _) rfl,λo ho=>?_,λo ho=>.inr ⟨i,by simp,hbk,by grind,by grind⟩⟩;rcases ho with ho|⟨id,hid,_,ho⟩
   ·have:=hz1 o ho;have:fz * h.sz<=els.length * h.sz:=dO _ h3;omega
   grind
 ·rename_i t v fz hm;refine⟨s.set hm (λ_=>rfl) (bU.or _ _ _) hne hin (λh=>by cases h) ?_,live _ _ hm rfl rfl rfl rfl⟩;obtain⟨g,us,h1,h2,h3,h4,h5,h6,h7⟩:=s.obj i _ hm;have hol:jh P j mem i=(aK P) t:=by simp[jh,hm]
  exact⟨g,us,h1,h2,h3,h4,h5.mono (bU.or _ _ _) (bG.refl _) rfl,λ_ _=>rfl,λ_ o ho=>.inr ⟨i,by simp,by simp[dk,h1,cO.blk],by simp[mf,h1,cO.start],by omega⟩⟩
 ·rename_i h1 h2;refine⟨s.world (bU.or _ _ _) (λg _=>⟨rfl,λo=>⟨λh=>h.resolve_right fun⟨id,hid,hb,ho⟩=>?_,.inl⟩⟩) hin,λg=>Iff.rfl⟩;simp at hid;subst hid;have ho:=ho.2;unfold jh at ho;grind
def vj:∀(ids:List Nat) (Z:Zs) (mem:List O),SR P Z w j mem->SR P (dR Z (Fz P j mem ids)) w j (freezeAll ids mem)/\(∀g,bT Z j (freezeAll ids mem) g↔bT Z j mem g):=by
 intro ids
 induction ids with
 |nil =>
  intro Z mem s;refine⟨s.world (bU.or _ _ _) (λg _=>⟨rfl,λo=>⟨λh=>h.resolve_right fun⟨_,h,_⟩=>by grind,.inl⟩⟩) (λg o h=>?_),λg=>Iff.rfl⟩;rcases h with h|⟨_,h,_⟩
  ·exact s.zin g o h
  grind
 |cons i is ih =>
  intro Z mem s;obtain⟨s1,o1⟩:=abU s i;obtain⟨s2,o2⟩:=ih _ _ s1
  have e:dR (dR Z (Fz P j mem [i])) (Fz P j (freeze mem i) is)=dR Z (Fz P j mem (i::is)):=by
   show Zs.mk _ _ _=Zs.mk _ _ _;congr 1;funext g o;apply propext;constructor
   ·rintro((h|⟨id,hid,hb,ho⟩)|⟨id,hid,hb,ho⟩)
    ·grind
    ·exact .inr ⟨id,by grind,hb,ho⟩
    ·exact .inr ⟨id,by grind,hb,by rwa [R9]at ho⟩
   ·rintro(h|⟨id,hid,hb,ho⟩)
    ·exact .inl (.inl h)
    ·simp at hid;rcases hid with rfl|hid
     ·exact .inl (.inr ⟨id,by simp,hb,ho⟩)
     ·exact .inr ⟨id,hid,hb,by rwa [R9]⟩
  rw[e]at s2;exact⟨s2,λg=>((bT.eqA rfl).symm.trans (o2 g)).trans ((bT.eqA rfl).trans (o1 g))⟩
def LW{v v':V}(h:ge mem v=aA v'):v'.one=aD/\v.one=true:=by
 cases v<;>simp[ge]at h
 all_goals first
  |(subst h;exact⟨rfl,rfl⟩)
  |(obtain⟨_,_,rfl⟩:=h;exact⟨rfl,rfl⟩)
  |(obtain⟨_,rfl⟩:=h;exact⟨rfl,rfl⟩)
def U8(s:SR P Z w j mem){id off len:Nat}{xs:List V}{u:aR}{ids:List Nat}(he:dA mem (.win id off len)=aA xs)(hi:id∈ids)(hv:VR Z w j (.win id off len) u):VR (dR Z (Fz P j mem ids)) w j0 (.sl xs) u:=by
 have hz:bU Z w (dR Z (Fz P j mem ids)) w:=bU.or _ _ _;have he0:=he;obtain⟨A,c,rfl,hel⟩:=uY s he hv;have hlc:=LU s he hv;rcases hel with rfl|⟨g,b,sz,rfl,hsz,hcl⟩
 ·exact .sl0
 ·simp only[dA]at he;cases hm:mem[id]? with
  |none=>grind
  |some o =>
   cases o<;>simp[hm]at he;obtain⟨hle,rfl⟩:=he;rename_i t els fz;obtain⟨hn,hh,h1,h2,h3,h4,h5⟩:=s.obj id _ hm;generalize hxs:(els.drop off).take len=xs at *
   generalize hU:Value.slice (aA ⟨g,b,aF⟩) xs.length c=U at hv;cases hv with
   |win hj hnn hlc' _ ha =>
    cases hU;rw[hj]at hh;cases hh;refine VR.slMk hlc hsz λk x hk=>⟨(hcl k x hk).1,λi hi'=>?_,(hcl k x hk).2.mono hz (bG.refl _) rfl⟩
    have hkl:k < xs.length:=(cE.1 hk).1;obtain⟨g0,b0,o0,hA,hA',_,ho0⟩:=ha.resolve_left (λh=>by grind);have ho0:=ho0 (by omega);subst ho0;simp at hA';obtain⟨rfl,rfl⟩:=hA';subst hA;have hx:=h4 x (by grind);simp only at hx h1;have e1:sz=(aK P) t:=by grind
    rcases h5 with⟨hu,_⟩|⟨g',b',c',us,hu,_⟩
    ·grind
    ·simp at hu;obtain⟨⟨rfl,rfl⟩,hnl,_⟩:=hu;have hof:mf j id=b0:=by simp[mf,hj,cO.start]
     refine .inr ⟨id,hi,by simp[dk,hj,cO.blk],by omega,?_⟩;have:jh P j mem id=b0+els.length * sz:=by simp[jh,hof,hm,e1]
     rw[this,h1,<-e1];have h8:(off+k+1) * sz<=els.length * sz:=dO _ (by omega);grind
def uh(s:SR P Z w j mem){v v':V}{u:aR}{ids:List Nat}(h:ge mem v=aA v')(hi:∀i∈jb v,i∈ids)(hv:VR Z w j v u):VR (dR Z (Fz P j mem ids)) w j0 v' u:=by
 have hz:bU Z w (dR Z (Fz P j mem ids)) w:=bU.or _ _ _;cases v<;>simp only[ge]at h
 case bool=>cases h;cases hv;exact .bool
 case int=>cases h;cases hv;exact .int
 case str=>cases h;exact(hv.mono hz (bG.refl _)).flat rfl j0
 case nilP=>cases h;cases hv;exact .nilP
 case nilF=>cases h;cases hv;exact .nilF
 case nilM=>cases h;cases hv;exact .nilM
 case nilI=>cases h;cases hv;exact .nilI
 case ifc=>cases h;cases hv;rename_i hx;exact .ifc (hx.mono hz (bG.refl _))
 case hp=>cases h;cases hv;rename_i hg;exact .hp hg
 case hm=>cases h;cases hv;rename_i hg;exact .hm hg
 case nilS=>cases h;cases hv;exact .sl0
 case sl=>cases h;exact(hv.mono hz (bG.refl _)).down j0
 case lit=>cases h;exact(hv.litSl.mono hz (bG.refl _)).down j0
 case ref x off =>
  cases h;obtain⟨g,b,rfl,h1,h2⟩:=hv.refInv;exact VR.refMk (λi hi=>.inl (h1 i hi)) (h2.mono hz (bG.refl _) rfl)
 case fn f caps =>
  split at h
  ·rename_i hc;cases h;have:caps=[]:=by simpa using hc
   subst this;cases hv with
   |fn hl hh=>exact .fn hl λi c u hc=>by simp at hc
  ·cases h
 case own id =>
  cases he:dA mem (.own id)with
  |none=>simp[he]at h
  |some els =>
   simp[he]at h;subst h;obtain⟨A,c,rfl,hel⟩:=uY s he hv;have hlc:=LU s he hv;rcases hel with rfl|⟨g,b,sz,rfl,hsz,hcl⟩
   ·exact .sl0
   ·refine VR.slMk hlc hsz λk x hk=>⟨(hcl k x hk).1,λi hi'=>.inr ⟨id,hi id (by simp[jb]),?_,?_⟩,(hcl k x hk).2.mono hz (bG.refl _) rfl⟩
    ·cases hv with
     |own hj=>simp[dk,hj,cO.blk]
    ·simp only[dA]at he;cases hm:mem[id]? with
     |none=>simp[hm]at he
     |some o =>
      cases o<;>simp[hm]at he;subst he;rename_i t els fz;obtain⟨hn,hh,h1,h2,h3,h4,h5⟩:=s.obj id _ hm;have hx:=h4 x (dH hk);have e1:sz=(aK P) t:=by rw[<-(hcl k x hk).1,hx,h1]
      rcases h5 with⟨_,he⟩|⟨g',b',c',us,hu,_⟩
      ·subst he;simp at hk
      ·cases hv with
       |own hj =>
        rw[hj]at hh;cases hh;simp at hu;obtain⟨⟨rfl,rfl⟩,_⟩:=hu;have hkl:k < els.length:=(cE.1 hk).1;have:(k+1) * sz<=els.length * sz:=dO _ hkl;rw[my]at this;have hof:mf j id=b:=by simp[mf,hj,cO.start]
        have:jh P j mem id=b+els.length * sz:=by simp[jh,hof,hm,e1]
        omega
 case win id off len =>
  cases he:dA mem (.win id off len)with
  |none=>simp[he]at h
  |some xs =>
   simp[he]at h;subst h;exact U8 s he (hi id (by simp[jb])) hv
 case tail id off =>
  cases he:dA mem (.tail id off)with
  |none=>simp[he]at h
  |some xs =>
   simp[he]at h;subst h;have he0:=he;simp only[dA]at he;cases hm:mem[id]? with
   |none=>simp[hm]at he
   |some o =>
    cases o<;>simp[hm]at he;subst he;obtain⟨h1,h2⟩:=y5 s hm hv;exact U8 s (Vq hm h1) (hi id (by simp[jb])) h2
 all_goals (cases h)
def ahT{mem:List O}{Z1:Zs}{cs ds:List V}(hm:cD (ge mem) cs=aA ds)(key:∀(i:Nat) (c d:V) (u:aR),cs[i]? = aA c->ge mem c=aA d->VR Z w j c u->VR Z1 w j0 d u){us:Array aR}(hr:LR Z w j cs us):LR Z1 w j0 ds us:=by
 obtain⟨hl,hg⟩:=kY hm;refine⟨by rw[hr.1,hl],λi d hd=>?_⟩;obtain⟨c,hc,hs⟩:=hg i d hd;obtain⟨u,hu,hv⟩:=hr.2 i c hc;grind
def JX(s:SR P Z w j mem){id k off:Nat}{x:V}{off':Nat}{u:aR}{ids:List Nat}(hl:f0 mem (.ptr id k off)=aA (x,off'))(hid:id∈ids)(hv:VR Z w j (.ptr id k off) u) :
  ∃g b,u = .pointer (aA ⟨g,b+off',aF⟩)/\fX Z w j g b x.cells/\∀i,i < x.cells.length->dR Z (Fz P j mem ids) g (b+i):=by
 cases hv with
 |ptr hj hs =>
  rename_i g b0 hn;simp only[f0]at hl;cases hm:mem[id]? with
  |none=>grind
  |some ob =>
   have hO:=s.obj id ob hm;cases ob with
   |dead=>grind
   |map es=>grind
   |arena t els=>grind
   |marena t ms=>grind
   |row t els fz =>
    simp only[hm]at hl;obtain⟨hn',hh,h1,h2,h3,h4,h5⟩:=hO;rw[hj]at hh;cases hh;cases hk:els[k]? with
    |none=>grind
    |some y =>
     simp[hk]at hl;obtain⟨rfl,rfl⟩:=hl;have hkl:k < els.length:=(cE.1 hk).1;rcases h5 with⟨_,he⟩|⟨g',b',c,us,hu,_,_,_,_,hcells,_⟩
     ·grind
     ·have e:(g',b')=(g,b0):=by cases hn;simp at hu;subst hu;simpa[cO.start]using hs
      cases e
      refine⟨g,b0+k * hn.sz,by grind,(hcells k y hk).mono (bU.refl _ _) (bG.zero _) rfl,λi hi=>.inr ⟨id,hid,by cases hn;simp at hu;subst hu;simp[dk,hj,cO.blk],by
       have:mf j id=b0:=by simp[mf,hj,hs]
       omega,?_⟩⟩
      have hy:=h4 y (dH hk);have:jh P j mem id=b0+els.length * hn.sz:=by simp[jh,mf,hj,hs,hm,h1]
      rw[this];have h8:(k+1) * hn.sz<=els.length * hn.sz:=dO _ hkl;grind
   |box t v fz =>
    simp only[hm]at hl
    by_cases hk:k=0
    ·simp[hk]at hl;obtain⟨rfl,rfl⟩:=hl;obtain⟨g',us,h1,h2,h3,h4,h5,_⟩:=hO;rw[hj]at h1;cases h1;simp[cO.start]at hs;obtain⟨rfl,rfl⟩:=hs;subst hk;refine⟨g',0,by simp,h5,λi hi=>.inr ⟨id,hid,by simp[dk,hj,cO.blk],by simp[mf,hj,cO.start],?_⟩⟩;have:jh P j mem id=(aK P) t:=by simp[jh,hm]
     omega
    grind
def BJ(s:SR P Z w j mem){v v':V}{u:aR}{ids:List Nat}(h:iy mem v=aA v')(hi:∀i∈iG mem v,i∈ids)(hv:VR Z w j v u):VR (dR Z (Fz P j mem ids)) w j0 v' u:=by
 have hz:bU Z w (dR Z (Fz P j mem ids)) w:=bU.or _ _ _;cases v with
 |agg cs =>
  simp only[iy]at h;cases hm:cD (ge mem) cs with
  |none=>grind
  |some ds =>
   simp[hm]at h;subst h;obtain⟨us,rfl,hr⟩:=hv.aggInv;refine(ahT hm (λi c d u hc hs hvv=>uh s hs (λk hk=>hi k ?_) hvv) hr).aggMk;simp only[iG,jp];grind
 |ptr id k off =>
  simp only[iy]at h;cases hl:f0 mem (.ptr id k off)with
  |none=>grind
  |some r =>
   obtain⟨x,off'⟩:=r;simp only[hl,bu]at h;obtain⟨g,b,rfl,hc,hfz⟩:=JX s hl (hi id (by simp[iG])) hv
   have sub:∀(y:V) (i:Nat),x.cells[i]? = aA y->∀(n:Nat),n∈jb y->(∃y',ge mem y=aA y')->n∈ids:=by
    intro y i hy n hn hsn;refine hi n ?_;simp only[f0]at hl;cases hm:mem[id]? with
    |none=>grind
    |some ob =>
     cases ob with
     |dead=>grind
     |map es=>grind
     |arena t els=>grind
     |marena t ms=>grind
     |row t els fz =>
      exfalso;simp only[hm]at hl;cases hk:els[k]? with
      |none=>grind
      |some z =>
       simp[hk]at hl;obtain⟨rfl,rfl⟩:=hl;obtain⟨hn',hh,h1,h2,h3,h4,h5⟩:=s.obj id _ hm;rcases h5 with⟨_,he⟩|⟨g',b',c,us,hu,_,_,_,_,hcells,_⟩
       ·grind
       ·obtain⟨_,u0,_,hv0⟩:=hcells k z hk i y hy;cases y<;>simp[jb]at hn
        ·cases hv0 with
         |own hj=>cases hj
        ·cases hv0 with
         |win hj _ _ _=>cases hj
        ·cases hv0 with
         |tail hj _ _=>cases hj
     |box t v fz =>
      simp only[hm]at hl
      by_cases hk:k=0
      ·simp[hk]at hl;obtain⟨rfl,rfl⟩:=hl;simp only[iG,hm,dC,jp];grind
      grind
   have fin:∀(x':V),x'.cells.length=x.cells.length->(∀(i:Nat) (d:V),x'.cells[i]? = aA d->∃c,x.cells[i]? = aA c/\ge mem c=aA d)->VR (dR Z (Fz P j mem ids)) w j0 (.ref x' off') (.pointer (aA ⟨g,b+off',aF⟩)):=by
    intro x' hlen hcc;refine VR.refMk (λi hi'=>hfz i (by omega)) (λi d hd=>?_);obtain⟨c,hcx,hs⟩:=hcc i d hd;obtain⟨_,u0,hu0,hv0⟩:=hc i c hcx;exact⟨(LW hs).1,u0,hu0,uh s hs (λn hn=>sub c i hcx n hn ⟨d,hs⟩) hv0⟩
   cases x with
   |agg cs =>
    simp only at h;cases hm:cD (ge mem) cs with
    |none=>grind
    |some ds =>
     simp[hm]at h;subst h;obtain⟨hl',hg⟩:=kY hm;exact fin (.agg ds) hl' hg
   |_ =>
    simp only at h;revert h;generalize hx0:ge mem _=sx;intro h;cases sx with
    |none=>grind
    |some y =>
     simp at h;subst h;obtain⟨o1,o2⟩:=LW hx0;refine fin y (by rw[lW o1,lW o2];rfl) (λi d hd=>?_);rw[lW o1]at hd;cases i with
     |zero=>simp at hd;subst hd;exact⟨_,by rw[lW o2];rfl,hx0⟩
     |succ i=>grind
 |_=>exact uh s (by simpa[iy]using h) (by simpa[iG]using hi) hv
def LY(s:SR P Z w j mem){v v':V}{u:aR}{ids:List Nat}(h:ku mem v=aA v')(hi:∀i∈kU mem v,i∈ids)(hv:VR Z w j v u):VR (dR Z (Fz P j mem ids)) w j0 v' u:=by
 cases v with
 |fn f caps =>
  simp only[ku]at h;cases hm:cD (iy mem) caps with
  |none=>grind
  |some ds =>
   simp[hm]at h;subst h;cases hv with
   |fn hl hh =>
    obtain⟨hl',hg⟩:=kY hm;refine .fn (by grind) λi d u hd hu=>?_
    obtain⟨c,hc,hs⟩:=hg i d hd;refine BJ s hs (λn hn=>hi n ?_) (hh i c u hc hu);simp only[kU,jp];grind
 |_=>exact BJ s (by simpa[ku]using h) (by simpa[kU]using hi) hv
def VL{v:V}{u:aR}(h:VR Z w j v u)(ho:v.one=aD):VR Z w j0 (oQ v) u/\(oQ v).one=true:=by
 unfold oQ;cases hf:v.flat1 with
 |true=>exact⟨h.flat hf j0,ho⟩
 |false=>exact⟨.unk (h.oneCell ho),rfl⟩
def aiU(s:SR P Z w j mem){ids:List Nat}{id k off:Nat}{r:V × Nat}{u:aR}(hl:f0 mem (.ptr id k off)=aA r)(hi:id∈ids)(hv:VR Z w j (.ptr id k off) u):VR (dR Z (Fz P j mem ids)) w j0 (VM r) u:=by
 have hz:bU Z w (dR Z (Fz P j mem ids)) w:=bU.or _ _ _;obtain⟨x,off'⟩:=r;obtain⟨g,b,rfl,hc,hfz⟩:=JX s hl hi hv
 have cell:∀(i:Nat) (y:V),x.cells[i]? = aA y->∃u,w.cell? ⟨g,b+i,aF⟩=aA u/\VR (dR Z (Fz P j mem ids)) w j0 (oQ y) u/\(oQ y).one=true:=λi y hy=>by
  obtain⟨h1,u0,hu0,hv0⟩:=hc i y hy;obtain⟨q1,q2⟩:=VL (hv0.mono hz (bG.refl _)) h1;exact⟨u0,hu0,q1,q2⟩
 have fin:∀x':V,x'.cells=x.cells.map oQ->VR (dR Z (Fz P j mem ids)) w j0 (.ref x' off') (.pointer (aA ⟨g,b+off',aF⟩)):=λx' e=>by
  refine VR.refMk (λi hi'=>hfz i (by rw[e]at hi';simpa using hi')) (λi d hd=>?_);rw[e,gy,omi]at hd;obtain⟨c,hcx,rfl⟩:=hd;obtain⟨u0,h0,h1,h2⟩:=cell i c hcx;exact⟨h2,u0,h0,h1⟩
 have one:x.cells=[x]->(oQ x).cells=x.cells.map oQ:=λe=>by
  obtain⟨_,_,_,h2⟩:=cell 0 x (by rw[e];rfl);rw[lW h2,e];rfl
 cases x with
 |agg cs=>exact fin _ rfl
 |_=>exact fin _ (one rfl)
def aiT(s:SR P Z w j mem){ids:List Nat}{v:V}{u:aR}(hi:∀i∈JY v,i∈ids)(hv:VR Z w j v u)(ho:v.one=aD):VR (dR Z (Fz P j mem ids)) w j0 (qm mem v) u/\(qm mem v).one=true:=by
 have hz:bU Z w (dR Z (Fz P j mem ids)) w:=bU.or _ _ _;have fl:=VL (hv.mono hz (bG.refl _)) ho;cases v with
 |ptr id k off =>
  simp only[qm];cases hl:f0 mem (.ptr id k off)with
  |none=>exact⟨.unk ((hv.mono hz (bG.refl _)).oneCell ho),rfl⟩
  |some r=>exact⟨aiU s hl (hi id (by simp[JY])) hv,rfl⟩
 |_=>exact fl
def ahS(s:SR P Z w j mem){q:Bool}{v v':V}{u:aR}{ids:List Nat}(h:ww q mem v=aA v')(hi:∀i∈pH q mem v,i∈ids)(hv:VR Z w j v u):VR (dR Z (Fz P j mem ids)) w j0 v' u:=by
 have hz:bU Z w (dR Z (Fz P j mem ids)) w:=bU.or _ _ _;cases q with
 |false=>exact BJ s h hi hv
 |true =>
  have fl:(if v.flat1 then aA v else aF)=aA v'->VR (dR Z (Fz P j mem ids)) w j0 v' u:=λh=>by
   split at h
   ·rename_i hf;cases h;exact(hv.mono hz (bG.refl _)).flat hf j0
   ·cases h
  cases v with
  |ptr id k off =>
   simp only[ww,bn]at h;cases hm:mem[id]? with
   |none=>simp[hm]at h
   |some ob =>
   cases ob<;>simp only[hm]at h<;>first|(cases h;done)|skip
   rename_i tb vb fb;simp only[omi]at h;obtain⟨⟨x,off'⟩,hl,rfl⟩:=h
   have hx:x=vb:=by
    simp only[f0,hm]at hl;split at hl<;>cases hl;rfl
   subst hx;obtain⟨g,b,rfl,hc,hfz⟩:=JX s hl (hi id (by simp[pH])) hv
   have cell:∀(i:Nat) (y:V),x.cells[i]? = aA y->∃u,w.cell? ⟨g,b+i,aF⟩=aA u/\VR (dR Z (Fz P j mem ids)) w j0 (qm mem y) u/\(qm mem y).one=true:=λi y hy=>by
    obtain⟨h1,u0,hu0,hv0⟩:=hc i y hy;obtain⟨q1,q2⟩:=aiT s (ids:=ids) (λn hn=>hi n (by simp only[pH,bn,hm,dC,jp];exact .inr ⟨y,dH hy,hn⟩)) hv0 h1;exact⟨u0,hu0,q1,q2⟩
   have fin:∀x':V,x'.cells=x.cells.map (qm mem)->VR (dR Z (Fz P j mem ids)) w j0 (.ref x' off') (.pointer (aA ⟨g,b+off',aF⟩)):=λx' e=>by
    refine VR.refMk (λi hi'=>hfz i (by rw[e]at hi';simpa using hi')) (λi d hd=>?_);rw[e,gy,omi]at hd;obtain⟨c,hcx,rfl⟩:=hd;obtain⟨u0,h0,h1,h2⟩:=cell i c hcx;exact⟨h2,u0,h0,h1⟩
   have one:x.cells=[x]->(qm mem x).cells=x.cells.map (qm mem):=λe=>by
    obtain⟨_,_,_,h2⟩:=cell 0 x (by rw[e];rfl);rw[lW h2,e];rfl
   cases x with
   |agg cs=>exact fin _ rfl
   |_=>exact fin _ (one rfl)
  |_=>exact fl (by simpa[ww]using h)
def ahU(s:SR P Z w j mem){q:Bool}{f:cf}{caps as0:List V}{u:aR}(h:cD (ww q mem) caps=aA as0)(hv:VR Z w j (.fn f caps) u):VR (dR Z (Fz P j mem (caps.flatMap (pH q mem)))) w j0 (.fn f as0) u:=by
 cases hv with
 |fn hl hh =>
  obtain⟨hl',hg⟩:=kY h;refine .fn (by rw[hl',hl]) λi d u hd hu=>?_
  obtain⟨c,hc,hs⟩:=hg i d hd;refine ahS s hs (λn hn=>?_) (hh i c u hc hu);simp only[jp];exact⟨c,dH hc,hn⟩
def gz(Z:Zs)(w:bg)(j:J)(vs:List V)(us:List aR):Prop:=vs.length=us.length/\∀(i:Nat) (v:V) (u:aR),vs[i]? = aA v->us[i]? = aA u->VR Z w j v u
def ahV(s:SR P Z w j mem){vs vs':List V}{us:List aR}(h:cD (ku mem) vs=aA vs')(hv:gz Z w j vs us):gz (dR Z (Fz P j mem (vs.flatMap (kU mem)))) w j0 vs' us:=by
 obtain⟨hl,hg⟩:=kY h;refine⟨by rw[hl];exact hv.1,λi d u hd hu=>?_⟩;obtain⟨c,hc,hs⟩:=hg i d hd;refine LY s hs (λn hn=>?_) (hv.2 i c u hc hu);grind
structure sy(Z:Zs)(w:bg)(Z':Zs)(w':bg):Prop where
 os:w'.os=w.os
 tape:w'.tape=w.tape
 output:w'.output=w.output
 size:w.heap.size<=w'.heap.size
 keep:∀g,g < w.heap.size->w'.heap[g]? = w.heap[g]?/\∀o,Z' g o↔Z g o
 zin:∀g o,Z' g o->g < w'.heap.size
 a:Z'.a=Z.a
 i:Z'.i=Z.i
def R1(P:bv)(Z:Zs)(w0 w:bg)(v:V)(u:aR):Prop :=
 match v with
 |.fr t els=>∃A n c,u = .slice A n c/\lV P Z w ⟨u,(aK P) t⟩ t els 0/\(∀x∈els,∀y∈x.cells,y.flat1=aD)/\(∀g,cO.blk ⟨u,(aK P) t⟩=aA g->w0.heap.size<=g/\g < w.heap.size)/\∀a,A=aA a->a.off=0
 |v=>VR Z w j0 v u
def RR(P:bv)(Z:Zs)(w0 w:bg)(v:V)(u:aR):Prop :=
 match v with
 |.tup vs=>∃us:List aR,u = .tuple us.toArray/\vs.length=us.length/\∀(i:Nat) (v:V) (x:aR),vs[i]? = aA v->us[i]? = aA x->R1 P Z w0 w v x
 |v=>R1 P Z w0 w v u
def iO(P:bv)(pc:cf->List V->Option V):Prop :=
 ∀f as0 r,pc f as0=aA r->l9 P f=aD->∀(Z:Zs) (w:bg) (us:List aR),(∀g o,Z g o->g < w.heap.size)->gz Z w j0 as0 us ->
  fQ P f us.toArray w λe w1=>∃u Z1,e = .returned u/\RR P Z1 w w1 r u/\sy Z w Z1 w1
def gH(P:bv)(ic:cf->List V->List O->Option (V × List O)):Prop :=
 ∀f as0 mem r mem',ic f as0 mem=aA (r,mem')->l9 P f=aD->∀(Z:Zs) (w:bg) (j:J) (us:List aR),SR P Z w j mem->gz Z w j as0 us ->
  fQ P f us.toArray w λe w1=>∃u,e = .returned u/\dz P Z w j mem r mem' u w1
def CW{o:Obj}(hin:∀g x,Z g x->g < w.heap.size):bU Z w Z (w.alloc o):=.of λg x hz=>⟨hz,ji (mM (w:=w) (w1:=w.alloc o) rfl (hin g x hz)) x⟩
def SR.alloc(s:SR P Z w j mem)(o:Obj):SR P Z (w.alloc o) j mem :=
 s.world (CW s.zin) (λg hg=>⟨mM (w:=w) (w1:=w.alloc o) rfl (bT.lt s hg),λ_=>Iff.rfl⟩) (λg x hz=>by rw[World.size_alloc];have:=s.zin g x hz;omega)
def br.alloc(s:SR P Z w j mem)(o:Obj):br Z w j mem Z (w.alloc o) j mem :=
 ⟨rfl,rfl,rfl,by simp_all,λg hg _=>⟨mM (w:=w) (w1:=w.alloc o) rfl hg,λ_=>Iff.rfl⟩,λ_ _ h=>h,CW s.zin,λ_ h=>⟨h,rfl⟩⟩
end
section
variable {P:bv}{Z Z':Zs}{w w':bg}{j j':J}{mem mem':List O}
def qz(ρ:Nat->Option Nat)(j j':J):Prop:=∀i k,ρ i=aA k->j' k=j i
def VR.ren0{ρ:Nat->Option Nat}(hr:qz ρ j j'){v:V}{u:aR}(h:VR Z w j v u):VR Z w j' (ren0 ρ v) u:=by
 cases h with
 |junk=>exact .junk
 |rest=>exact .rest
 |bool=>exact .bool
 |int=>exact .int
 |str=>exact .str
 |agg _ _=>exact .junk
 |tup hl hh =>
  rename_i cs us;simp only[Lite.ren0];split
  ·rename_i hc;have:cs=[]:=by grind
   subst this;exact .tup hl λi c u hc=>by grind
  ·exact .junk
 |nilS=>exact .nilS
 |sl0=>exact .sl0
 |sl f a b c d e=>exact .sl f a b c d e
 |lit h hk hz=>exact .lit (h.down _) hk hz
 |own hj h0 =>
  simp only[Lite.ren0];split
  ·rename_i k hk;exact .own ((hr _ _ hk).trans hj) h0
  ·exact .junk
 |win hj a b c d =>
  simp only[Lite.ren0];split
  ·rename_i k hk;exact .win ((hr _ _ hk).trans hj) a b c d
  ·exact .junk
 |tail hj hn h =>
  simp only[Lite.ren0];split
  ·rename_i k hk;cases h with
   |win hj' a b c d=>exact .tail ((hr _ _ hk).trans hj) hn (.win ((hr _ _ hk).trans hj') a b c d)
  ·exact .junk
 |ptr hj a =>
  simp only[Lite.ren0];split
  ·rename_i k hk;exact .ptr ((hr _ _ hk).trans hj) a
  ·exact .junk
 |ref f a b=>exact .ref f a b
 |fn hl hh =>
  rename_i cs us;simp only[Lite.ren0];split
  ·rename_i hc;have:cs=[]:=by grind
   subst this;exact .fn hl λi c u hc=>by grind
  ·exact .junk
 |mp hj =>
  simp only[Lite.ren0];split
  ·rename_i k hk;exact .mp ((hr _ _ hk).trans hj)
  ·exact .junk
 |nilP=>exact .nilP
 |nilF=>exact .nilF
 |nilM=>exact .nilM
 |nilI=>exact .nilI
 |unk h=>exact .junk
 |ifc h=>exact .ifc h
 |hp h=>exact .hp h
 |hm h=>exact .hm h
def VR.ren1{ρ:Nat->Option Nat}(hr:qz ρ j j'){v:V}{u:aR}(h:VR Z w j v u):VR Z w j' (ren1 ρ v) u:=by
 cases h with
 |fn hl hh =>
  refine .fn (by grind) λi c u hc hu=>?_
  simp only[gy,omi]at hc;obtain⟨c0,h0,rfl⟩:=hc;exact(hh i c0 u h0 hu).ren0 hr
 |agg hl hh=>exact VR.ren0 hr (.agg hl hh)
 |tup hl hh=>exact VR.ren0 hr (.tup hl hh)
 |junk=>exact VR.ren0 hr .junk
 |rest=>exact VR.ren0 hr .rest
 |bool=>exact VR.ren0 hr .bool
 |int=>exact VR.ren0 hr .int
 |str=>exact VR.ren0 hr .str
 |nilS=>exact VR.ren0 hr .nilS
 |sl0=>exact VR.ren0 hr .sl0
 |sl f a b c d e=>exact VR.ren0 hr (.sl f a b c d e)
 |lit h hk hz=>exact VR.ren0 hr (.lit h hk hz)
 |own hj h0=>exact VR.ren0 hr (.own hj h0)
 |win hj a b c d=>exact VR.ren0 hr (.win hj a b c d)
 |tail hj hn h=>exact VR.ren0 hr (.tail hj hn h)
 |ptr hj a=>exact VR.ren0 hr (.ptr hj a)
 |ref f a b=>exact VR.ren0 hr (.ref f a b)
 |mp hj=>exact VR.ren0 hr (.mp hj)
 |nilP=>exact VR.ren0 hr .nilP
 |nilF=>exact VR.ren0 hr .nilF
 |nilM=>exact VR.ren0 hr .nilM
 |nilI=>exact VR.ren0 hr .nilI
 |unk h=>exact VR.ren0 hr (.unk h)
 |ifc h=>exact VR.ren0 hr (.ifc h)
 |hp h=>exact VR.ren0 hr (.hp h)
 |hm h=>exact VR.ren0 hr (.hm h)
def VR.ren2{ρ:Nat->Option Nat}(hr:qz ρ j j'){v:V}{u:aR}(h:VR Z w j v u):VR Z w j' (ren2 ρ v) u:=by
 have lst:∀{cs:List V} {us:List aR},(∀(i:Nat) (c:V) (u:aR),cs[i]? = aA c->us[i]? = aA u->VR Z w j c u)->∀(i:Nat) (c:V) (u:aR),(cs.map (Lite.ren1 ρ))[i]? = aA c->us[i]? = aA u->VR Z w j' c u:=by
  intro cs us hh i c u hc hu;simp only[gy,omi]at hc;obtain⟨c0,h0,rfl⟩:=hc;exact(hh i c0 u h0 hu).ren1 hr
 cases h with
 |agg hl hh=>exact .agg (by grind) (lst hh)
 |tup hl hh=>exact .tup (by grind) (lst hh)
 |fn hl hh=>exact .fn (by grind) (lst hh)
 |junk=>exact VR.ren1 hr .junk
 |rest=>exact VR.ren1 hr .rest
 |bool=>exact VR.ren1 hr .bool
 |int=>exact VR.ren1 hr .int
 |str=>exact VR.ren1 hr .str
 |nilS=>exact VR.ren1 hr .nilS
 |sl0=>exact VR.ren1 hr .sl0
 |sl f a b c d e=>exact VR.ren1 hr (.sl f a b c d e)
 |lit h hk hz=>exact VR.ren1 hr (.lit h hk hz)
 |own hj h0=>exact VR.ren1 hr (.own hj h0)
 |win hj a b c d=>exact VR.ren1 hr (.win hj a b c d)
 |tail hj hn h=>exact VR.ren1 hr (.tail hj hn h)
 |ptr hj a=>exact VR.ren1 hr (.ptr hj a)
 |ref f a b=>exact VR.ren1 hr (.ref f a b)
 |mp hj=>exact VR.ren1 hr (.mp hj)
 |nilP=>exact VR.ren1 hr .nilP
 |nilF=>exact VR.ren1 hr .nilF
 |nilM=>exact VR.ren1 hr .nilM
 |nilI=>exact VR.ren1 hr .nilI
 |unk h=>exact VR.ren1 hr (.unk h)
 |ifc h=>exact VR.ren1 hr (.ifc h)
 |hp h=>exact VR.ren1 hr (.hp h)
 |hm h=>exact VR.ren1 hr (.hm h)
def CV{n0:Nat}:∀(is acc:List Nat),acc.Nodup->(∀i∈acc,n0<=i)->(sE n0 acc is).Nodup/\∀i∈sE n0 acc is,n0<=i:=by
 intro is
 induction is with
 |nil=>intro acc h1 h2;exact⟨h1,h2⟩
 |cons i is ih =>
  intro acc h1 h2;simp only[sE];grind
def Kf{n0:Nat}{mem:List O}:∀(k:Nat) (acc:List Nat),acc.Nodup->(∀i∈acc,n0<=i)->(v8 n0 mem k acc).Nodup/\∀i∈v8 n0 mem k acc,n0<=i:=by
 intro k
 induction k with
 |zero=>intro acc h1 h2;exact⟨h1,h2⟩
 |succ k ih =>
  intro acc h1 h2;simp only[v8];split
  ·grind
  ·obtain⟨a,b⟩:=CV (acc.flatMap (E6 mem)) acc h1 h2;grind
def acw(n0:Nat)(s:S):(I0 n0 s).Nodup/\∀i∈I0 n0 s,n0<=i:=by
 obtain⟨a,b⟩:=CV (n0:=n0) (s.env.flatMap p9++(eQ n0).flatMap λi=>E6 s.mem i) [] Gs (by simp);exact Kf _ _ a b
def af3{ρ:Nat->Option Nat}{v:V}:(ren2 ρ v).cells.length=v.cells.length/\∀(i:Nat) (y:V),(ren2 ρ v).cells[i]? = aA y->∃x,v.cells[i]? = aA x/\(y=ren1 ρ x∨y=ren2 ρ x):=by
 have one:∀(v v':V),v.cells=[v]->v'=ren2 ρ v->v'.cells=[v']->v'.cells.length=v.cells.length/\∀(i:Nat) (y:V),v'.cells[i]? = aA y->∃x,v.cells[i]? = aA x/\(y=ren1 ρ x∨y=ren2 ρ x):=by
  grind
 cases v with
 |agg cs =>
  refine⟨by simp[ren2,gV],λi y hy=>?_⟩;simp only[ren2,gV,gy,omi]at hy;obtain⟨x,hx,rfl⟩:=hy;exact⟨x,hx,.inl rfl⟩
 |own id=>exact one _ _ rfl rfl (by simp only[ren2,ren1,ren0];split<;>rfl)
 |win id a b=>exact one _ _ rfl rfl (by simp only[ren2,ren1,ren0];split<;>rfl)
 |tail id a=>exact one _ _ rfl rfl (by simp only[ren2,ren1,ren0];split<;>rfl)
 |ptr id a b=>exact one _ _ rfl rfl (by simp only[ren2,ren1,ren0];split<;>rfl)
 |mp id=>exact one _ _ rfl rfl (by simp only[ren2,ren1,ren0];split<;>rfl)
 |_=>exact one _ _ rfl rfl rfl
def OR.ren{ρ:Nat->Option Nat}(hr:qz ρ j j'){i k:Nat}(hk:j' k=j i){o:O}(h:OR P Z w j i o)(hik:gP o=aE->k=i):OR P Z w j' k (ko ρ o):=by
 cases o with
 |dead=>exact True.intro
 |arena t els=>rw[hik rfl];exact h
 |marena t els=>rw[hik rfl];exact h
 |row t els fz=>obtain⟨hn,h1,h2⟩:=h;exact⟨hn,hk.trans h1,h2⟩
 |map es=>obtain⟨r,es',clock,h1,h2⟩:=h;exact⟨r,es',clock,hk.trans h1,h2⟩
 |box t v fz =>
  simp only[ko];split
  ·rename_i hall;obtain⟨g,us,h1,h2,h3,h4,h5,h6⟩:=h;obtain⟨r1,r2⟩:=af3 (ρ:=ρ) (v:=v);refine⟨g,us,hk.trans h1,h2,by omega,h4,λn y hy=>?_,h6⟩;obtain⟨x,hx,hyx⟩:=r2 n y hy;obtain⟨_,u,hu,hv⟩:=h5 n x hx;refine⟨e9.1 hall y (dH hy),u,hu,?_⟩;rcases hyx with rfl|rfl
   ·exact hv.ren1 hr
   ·exact hv.ren2 hr
  ·exact True.intro
def OR.renD{ρ:Nat->Option Nat}(hr:qz ρ j j'){i k:Nat}(hk:j' k=j i){o:O}(h:OR P Z w j i o):OR P Z w j' k (renD ρ o):=by
 unfold Lite.renD;cases ha:gP o with
 |true=>exact h.ren hr hk (λh=>by grind)
 |false=>exact True.intro
def af4{ρ:Nat->Option Nat}{o:O}(h:(ko ρ o).live=aD):(ko ρ o).ar=o.ar:=by
 cases o<;>first|rfl|skip
 simp only[ko];split
 ·rfl
 ·rename_i hc;simp only[ko,bh hc]at h;cases h
def Bj{ρ:Nat->Option Nat}{o:O}:(renD ρ o).ar=none:=by
 cases o with
 |box t v fz =>
  show(ko ρ (.box t v fz)).ar=aF;simp only[ko]
  by_cases hc:(ren2 ρ v).cells.all fL=aD
  ·rw[bc hc];rfl
  ·rw[bh hc];rfl
 |_=>rfl
def S8{ρ:Nat->Option Nat}{o:O}(h:(ko ρ o).live=aD):o.live=true:=by
 cases o<;>first|rfl|exact h
def E7{ρ:Nat->Option Nat}{o:O}(h:(renD ρ o).live=aD):o.live=aD/\gP o=true:=by
 unfold Lite.renD at h;cases ha:gP o with
 |true=>rw[ha]at h;exact⟨S8 h,rfl⟩
 |false=>rw[ha]at h;cases h
def gN(n0:Nat)(ids:List Nat)(j:J):J:=λk=>if k < n0 then j k else (ids[k - n0]?).bind j
def Eg{i:Nat}:∀{l:List Nat} {m:Nat},lB i l=aA m->l[m]? = aA i:=by
 intro l
 induction l with
 |nil=>intro m h;simp[lB]at h
 |cons x l ih =>
  intro m h;simp only[lB]at h;split at h
  ·grind
  ·simp only[omi]at h;grind
def Kl(n0:Nat)(ids:List Nat)(j:J):qz (rD n0 ids) j (gN n0 ids j):=by
 intro i k h;simp only[rD]at h;unfold gN;split at h
 ·grind
 ·simp only[omi]at h;obtain⟨m,hm,rfl⟩:=h;have hm':ids[m]? = aA i:=Eg hm;grind
def VE{s:S}{n0:Nat}{ids:List Nat}(hn:n0<=s.mem.length)(hnd:ids.Nodup)(hge:∀i∈ids,n0<=i)(sr:SR P Z w j s.mem) :
  SR P Z w (gN n0 ids j) (kw n0 ids s).mem/\(∀k o,(kw n0 ids s).mem[k]? = aA o->o.live=aD->∃i o0,s.mem[i]? = aA o0/\o0.live=aD/\o.ar=o0.ar/\gN n0 ids j k=j i /\
   ((k < n0/\i=k)∨(n0<=k/\ids[k - n0]? = aA i/\o.ar=aF)))/\∀id,id < n0->gN n0 ids j id=j id:=by
 have hρ:=Kl n0 ids j;have hj:∀id,id < n0->gN n0 ids j id=j id:=λid h=>by simp[gN,h]
 have hto:((s.mem.take n0).map (ko (rD n0 ids))).length=n0:=by grind
 have pre:∀(k:Nat) (o:O),(kw n0 ids s).mem[k]? = aA o->o.live=aD->∃i o0,s.mem[i]? = aA o0/\gN n0 ids j k=j i/\((k < n0/\i=k/\o=ko (rD n0 ids) o0)∨(n0<=k/\ids[k - n0]? = aA i/\o=renD (rD n0 ids) o0)):=by
  intro k o ho hl;simp only[kw]at ho
  by_cases hk:k < n0
  ·grind
  ·rw[eC (by omega),hto]at ho;simp only[gy,omi]at ho;obtain⟨i,hi,rfl⟩:=ho;cases hm:s.mem[i]? with
   |none=>rw[hm]at hl;simp[Lite.renD,gP,O.ar,ko,O.live]at hl
   |some o0=>exact⟨i,o0,hm,by simp[gN,hk,hi],.inr ⟨by omega,hi,by simp⟩⟩
 have pre2:∀k o,(kw n0 ids s).mem[k]? = aA o->o.live=aD->∃i o0,s.mem[i]? = aA o0/\o0.live=aD/\o.ar=o0.ar/\gN n0 ids j k=j i /\
   ((k < n0/\i=k)∨(n0<=k/\ids[k - n0]? = aA i/\o.ar=aF)):=by
  intro k o ho hl;obtain⟨i,o0,h0,hji,⟨a1,a2,rfl⟩|⟨a1,a2,rfl⟩⟩:=pre k o ho hl
  ·exact⟨i,o0,h0,S8 hl,af4 hl,hji,.inl ⟨a1,a2⟩⟩
  ·obtain⟨b1,b2⟩:=E7 hl;have:o0.ar=none:=by simpa[gP]using b2
   exact⟨i,o0,h0,b1,Bj.trans this.symm,hji,.inr ⟨a1,a2,Bj⟩⟩
 have blk:∀{k i:Nat} {o o0:O} {g:Nat},o.ar=o0.ar->gN n0 ids j k=j i->bY Z (gN n0 ids j) k o g->bY Z j i o0 g:=by
  intro k i o o0 g ha hji hb;unfold bY at hb |-
  rw[ha]at hb;cases hr:o0.ar with
  |none=>rw[hr]at hb;simpa[dk,hji]using hb
  |some r=>grind
 refine⟨⟨λk o ho=>?_,λk k' o o' g ho ho' hl hl' hb hb'=>?_,λk hk=>?_,sr.zin⟩,pre2,hj⟩
 ·by_cases hl:o.live=aD
  ·obtain⟨i,o0,h0,hji,⟨a1,a2,rfl⟩|⟨a1,a2,rfl⟩⟩:=pre k o ho hl
   ·exact(sr.obj i o0 h0).ren hρ hji (λ_=>a2.symm)
   ·exact(sr.obj i o0 h0).renD hρ hji
  ·cases o<;>first|exact True.intro|(simp[O.live]at hl)
 ·obtain⟨i,o0,h0,hl0,ha,hji,hc⟩:=pre2 k o ho hl;obtain⟨i',o0',h0',hl0',ha',hji',hc'⟩:=pre2 k' o' ho' hl';have e:i=i':=sr.inj i i' o0 o0' g h0 h0' hl0 hl0' (blk ha hji hb) (blk ha' hji' hb');subst e;rcases hc with⟨a1,a2⟩|⟨a1,a2,_⟩<;>rcases hc' with⟨b1,b2⟩|⟨b1,b2,_⟩
  ·omega
  ·grind
  ·grind
  ·have bf:=(cE.1 a2).1;have hlt':=(cE.1 b2).1;have e1:=(cE.1 a2).2;have e2:=(cE.1 b2).2;have:=Cc.1 hnd;grind
 ·simp only[kw,gJ,hto,gm]at hk;unfold gN;grind
def aiF{n0:Nat}{ids:List Nat}{k i:Nat}{o o0:O}{g:Nat}(ha:o.ar=o0.ar)(hji:gN n0 ids j k=j i)(hb:bY Z (gN n0 ids j) k o g):bY Z j i o0 g:=by
 unfold bY at hb |-
 rw[ha]at hb;cases hr:o0.ar with
 |none=>rw[hr]at hb;simpa[dk,hji]using hb
 |some r=>grind
def aiG{jc:J}{k i:Nat}{o o0:O}{g:Nat}(ha:o.ar=o0.ar)(hji:jc k=j i)(hb:bY Z jc k o g):bY Z j i o0 g:=by
 unfold bY at hb |-
 rw[ha]at hb;cases hr:o0.ar with
 |none=>rw[hr]at hb;simpa[dk,hji]using hb
 |some r=>grind
def Ay:∀(mem:List O),dX mem<=mem.length/\∀k,k < dX mem->∃o,mem[k]? = aA o/\gP o=aE
 | []=>⟨cZ _,λk h=>by simp[dX]at h⟩
 |o::l=>by
  obtain⟨h1,h2⟩:=Ay l;cases ha:gP o with
  |true=>exact⟨by simp[dX,ha],λk h=>by simp[dX,ha]at h⟩
  |false =>
   refine⟨by simpa[dX,ha]using h1,λk h=>?_⟩;cases k with
   |zero=>grind
   |succ k=>simpa using h2 k (by simpa[dX,ha]using h)
def Qe:∀(c:List O) (n:Nat),(∀k,k < n->∃o,c[k]? = aA o/\gP o=aE)->n<=dX c
 | [],n,h=>by
  grind
 |o::l,n,h=>by
  cases n with
  |zero=>omega
  |succ n =>
   obtain⟨o',ho,hn⟩:=h 0 (by omega);simp at ho;subst ho;have:=Qe l n λk hk=>by grind
   simp only[dX,hn,be];omega
def abV(args:List V)(mem:List O):dX mem<=dX (iS args mem).mem:=by
 obtain⟨f1,f2⟩:=Ay mem;refine Qe _ _ λk hk=>?_
 obtain⟨o,ho,hna⟩:=f2 k hk;refine⟨ko (rD (dX mem) (jK args mem)) o,?_,?_⟩
 ·simp only[iS,kw];grind
 ·cases o<;>first|exact hna|(simp[gP,O.ar]at hna)
def Xr(args:List V)(mem:List O):(jK args mem).Nodup/\∀i∈jK args mem,dX mem<=i:=by
 obtain⟨a,b⟩:=CV (n0:=dX mem) (args.flatMap p9) [] Gs (by simp);exact Kf _ _ a b
def Xs(rd:aP->Bool)(n0:Nat)(c m1:List O)(v:V):(xm rd n0 c m1 v).Nodup/\∀i∈xm rd n0 c m1 v,n0<=i/\oM rd c m1 i=false:=by
 obtain⟨a,b⟩:=CV (n0:=n0) ((eQ c.length).filter (oM rd c m1)++p9 v) [] Gs (by simp);obtain⟨a,b⟩:=Kf (mem:=m1) m1.length _ a b;refine⟨a.filter _,λi hi=>?_⟩;unfold xm at hi;grind
def EM(g:Nat->O->O):∀(l:List O) (i:Nat),(pS g i l).length=l.length/\∀k,(pS g i l)[k]? = (l[k]?).map λo=>g (i+k) o
 | [],i=>⟨rfl,λk=>by simp[pS]⟩
 |o::l,i=>by
  obtain⟨h1,h2⟩:=EM g l (i+1);refine⟨by simp[pS,h1],λk=>?_⟩;cases k with
  |zero=>simp[pS]
  |succ k=>simp only[pS,MB,h2 k,show i+1+k=i+(k+1) by omega]
def acx{i:Nat}:∀{l:List Nat},lB i l=aF->i∉l:=by
 intro l
 induction l with
 |nil=>grind
 |cons x l ih =>
  intro h;simp only[lB]at h;split at h
  ·cases h
  ·rename_i hne;simp only[Option.map_eq_none_iff]at h;grind
def aeL{l:List Nat}(h:l.Nodup){a b i:Nat}(ha:l[a]? = aA i)(hb:l[b]? = aA i):a=b:=by
 have bf:=(cE.1 ha).1;have hlt':=(cE.1 hb).1;have e1:=(cE.1 ha).2;have e2:=(cE.1 hb).2;have:=Cc.1 h;grind
def VR.ren3{ρ:Nat->Option Nat}(hr:qz ρ j j'){v:V}{u:aR}(h:VR Z w j v u):VR Z w j' (ren3 ρ v) u:=by
 cases v with
 |tup vs =>
  cases h with
  |tup hl hh =>
   refine .tup (by grind) λi c u hc hu=>?_
   simp only[gy,omi]at hc;obtain⟨c0,h0,rfl⟩:=hc;exact(hh i c0 u h0 hu).ren2 hr
 |_=>exact h.ren2 hr
def SR.han(s:SR P Z w j mem){k:Nat}{o:O}(hm:mem[k]? = aA o)(hl:o.live=aD)(ha:o.ar=aF):∃h,j k=aA h:=by
 have hO:=s.obj k o hm;cases o with
 |dead=>cases hl
 |row t els fz=>obtain⟨h,hh,_⟩:=hO;grind
 |box t v fz=>obtain⟨g,us,hh,_⟩:=hO;grind
 |map es=>obtain⟨r,es',c,hh,_⟩:=hO;grind
 |arena t els=>cases ha
 |marena t els=>cases ha
def NC{n0:Nat}{ids:List Nat}{c:List O}{jc:J}(hn:n0<=mem.length)(hnd:ids.Nodup)(s:SR P Z w j mem)(sc:SR P Z w jc c)
  (pre:∀k o,c[k]? = aA o->o.live=aD->∃i o0,mem[i]? = aA o0/\o0.live=aD/\o.ar=o0.ar/\jc k=j i/\((k < n0/\i=k)∨(n0<=k/\ids[k - n0]? = aA i/\o.ar=aF)))
  {rd:aP->Bool} {v1:V} {m1:List O} {u:aR} {w1:bg} (hp:dz P Z w jc c v1 m1 u w1) :
  dz P Z w j mem (uR rd n0 ids c mem v1 m1).1 (uR rd n0 ids c mem v1 m1).2 u w1:=by
 obtain⟨Z1,j1,q1,q2,q3,q4⟩:=hp;unfold uR;obtain⟨news,hnews⟩:∃news,news=xm rd n0 c m1 v1:=⟨_,rfl⟩
 obtain⟨nnd,nge⟩:=Xs rd n0 c m1 v1;simp only;rw[<-hnews]at nnd nge |-
 obtain⟨σ,hσd⟩:∃σ,σ=C7 rd n0 mem.length ids news c m1:=⟨_,rfl⟩
 rw[<-hσd];obtain⟨j2,hj2⟩:∃j2:J,j2=λid=>if id < mem.length then j id else (news[id - mem.length]?).bind j1:=⟨_,rfl⟩
 have j2lo:∀id,id < mem.length->j2 id=j id:=λid h=>by grind
 have j2hi:∀id,j2 (mem.length+id)=(news[id]?).bind j1:=λid=>by grind
 have stay:∀i,n0<=i->oM rd c m1 i=aD->∃k h,ids[i - n0]? = aA k/\k < mem.length/\j k=aA h/\j1 i=aA h:=by
  intro i hi hs;unfold oM Re at hs;rw[cT]at hs;cases hci:c[i]? with
  |none=>grind
  |some o =>
   have hl:o.live=true:=by
    rw[hci]at hs;cases o<;>first|rfl|grind
   obtain⟨k,o0,h0,hl0,ha,hji,hcc⟩:=pre i o hci hl;rcases hcc with⟨h1,_⟩|⟨h1,h2,h3⟩
   ·omega
   ·obtain⟨h,hh⟩:=sc.han hci hl h3;exact⟨k,h,h2,(cE.1 h0).1,hji ▸ hh,q4 i h hh⟩
 have hσ:qz σ j1 j2:=by
  intro i k hk;rw[hσd]at hk;unfold C7 at hk;split at hk
  ·grind
  ·rename_i bf;cases hs:oM rd c m1 i with
   |true =>
    grind
   |false =>
    rw[hs,be]at hk;simp only[omi]at hk;obtain⟨q,hq,rfl⟩:=hk;rw[j2hi,Eg hq];rfl
 have jext:bG j j2:=λid h hh=>by
  rw[j2lo id (Nat.lt_of_not_le λhle=>by rw[s.out id hle]at hh;grind)];grind
 obtain⟨mem',hmem'⟩:∃mem',mem'=pS (uS rd n0 ids σ c m1) 0 mem++news.map λi=>renD σ ((m1[i]?).getD .dead):=⟨_,rfl⟩
 rw[<-hmem'];have olen:(pS (uS rd n0 ids σ c m1) 0 mem).length=mem.length:=(EM _ mem 0).1;have mlen:mem'.length=mem.length+news.length:=by grind
 have blkD:∀{i k:Nat} {o1:O} {g:Nat},j2 k=j1 i->(renD σ o1).live=aD->bY Z1 j2 k (renD σ o1) g->bY Z1 j1 i o1 g:=by
  intro i k o1 g hji hl hb;have h1:o1.ar=none:=by simpa[gP]using(E7 hl).2
  have hb:=(bY.plain Bj).1 hb;exact(bY.plain h1).2 (by simpa[dk,hji]using hb)
 have cls:∀k o,mem'[k]? = aA o->o.live=aD ->
   (∃i o1,m1[i]? = aA o1/\o1.live=aD/\OR P Z1 w1 j2 k o/\(∀g,bY Z1 j2 k o g->bY Z1 j1 i o1 g)/\(∀t n,o.ar=aA (t,n)->o1.ar=aA (t,n)) /\
    ((k < n0/\i=k)∨(n0<=k/\k < mem.length/\n0<=i/\ids[i - n0]? = aA k/\oM rd c m1 i=aD)∨(mem.length<=k/\news[k - mem.length]? = aA i))) ∨
   (n0<=k/\k < mem.length/\k∉ids/\mem[k]? = aA o):=by
  intro k o ho hl;rw[hmem']at ho
  by_cases hk:k < mem.length
  ·rw[eP (by omega),(EM _ mem 0).2 k,eW]at ho;simp only[omi]at ho;obtain⟨o0,h0,ho⟩:=ho;unfold uS at ho;split at ho
   ·rename_i hkn;left;unfold xl at ho;cases hm1:m1[k]? with
    |none=>rw[hm1]at ho;subst ho;cases hl
    |some o1 =>
     rw[hm1]at ho;simp only at ho;cases hna:gP o1 with
     |true=>rw[hna,bn]at ho;subst ho;cases hl
     |false =>
      rw[hna,be]at ho;subst ho;refine⟨k,o1,hm1,hl,?_,λg hb=>?_,λ_ _ h=>h,.inl ⟨hkn,rfl⟩⟩
      ·have:=q2.obj k o1 hm1;cases o1<;>first|exact this|(simp[gP,O.ar]at hna)
      ·unfold bY at hb |-
       cases hr:o1.ar with
       |none=>simp[gP,hr]at hna
       |some r=>grind
   ·rename_i hkn;cases hid:lB k ids with
    |none =>
     rw[hid]at ho;subst ho;exact .inr ⟨by omega,hk,acx hid,h0⟩
    |some q =>
     rw[hid]at ho;simp only at ho;cases hs:oM rd c m1 (n0+q)with
     |false=>rw[hs,be]at ho;subst ho;cases hl
     |true =>
      rw[hs,bn]at ho;subst ho;have hq:=Eg hid;obtain⟨k',h,a1,a2,a3,a4⟩:=stay (n0+q) (by omega) hs;rw[show n0+q - n0=q by omega,hq]at a1;cases a1;cases hm1:m1[n0+q]? with
      |none=>rw[hm1]at hl;simp[Lite.renD,gP,O.ar,ko,O.live]at hl
      |some o1 =>
       rw[hm1]at hl;simp only[uH]at hl |-
       have hji:j2 k=j1 (n0+q):=by grind
       exact .inl ⟨n0+q,o1,hm1,(E7 hl).1,(q2.obj _ _ hm1).renD hσ hji,λg hb=>blkD hji hl hb,(λt n h=>by rw[Bj]at h;cases h),.inr (.inl ⟨by omega,hk,by omega,by grind,hs⟩)⟩
  ·rw[eC (by omega),olen]at ho;simp only[gy,omi]at ho;obtain⟨i,hi,rfl⟩:=ho;cases hm1:m1[i]? with
   |none=>rw[hm1]at hl;simp[Lite.renD,gP,O.ar,ko,O.live]at hl
   |some o1 =>
    rw[hm1]at hl;simp only[uH]at hl |-
    have hji:j2 k=j1 i:=by
     grind
    exact .inl ⟨i,o1,hm1,(E7 hl).1,(q2.obj _ _ hm1).renD hσ hji,λg hb=>blkD hji hl hb,(λt n h=>by rw[Bj]at h;cases h),.inr (.inr ⟨by omega,hi⟩)⟩
 have ownC:∀g,bT Z jc c g->∃i o0,mem[i]? = aA o0/\o0.live=aD/\bY Z j i o0 g/\(i < n0∨i∈ids):=by
  rintro g ⟨k,o,ho,hl,hb⟩;obtain⟨i,o0,h0,hl0,ha,hji,hcc⟩:=pre k o ho hl;refine⟨i,o0,h0,hl0,aiG ha hji hb,?_⟩;grind
 have noAc:∀t,fU t mem->fU t c:=by
  intro t hno k o n ho hr;have hl:=o9 hr;obtain⟨i,o0,h0,hl0,ha,_,_⟩:=pre k o ho hl;exact hno i o0 n h0 (by grind)
 have besA:∀k o t n,n0<=k->mem[k]? = aA o->o.ar=aA (t,n)->Z1.a t=Z.a t:=by
  intro k o t n hk hm hr;refine(q3.ar t λk' o' n' ho' hr'=>?_).2;obtain⟨i,o0,h0,hl0,ha,_,hcc⟩:=pre k' o' ho' (o9 hr');rcases hcc with⟨h1,rfl⟩|⟨_,_,h3⟩
  ·have e1:=((s.obj k o hm).arena hr).i;have e2:=((s.obj i o0 h0).arena (ha ▸ hr')).i;grind
  grind
 have besB:∀k o g,n0<=k->k < mem.length->mem[k]? = aA o->bY Z1 j2 k o g->bY Z j k o g:=by
  intro k o g hk bf hm hb;unfold bY at hb |-
  cases hr:o.ar with
  |none=>rw[hr]at hb;simpa[dk,j2lo k bf]using hb
  |some r =>
   obtain⟨t,n⟩:=r;rw[hr]at hb;simp only at hb |-
   rw[besA k o t n hk hm hr]at hb;grind
 have besN:∀k o g,n0<=k->k∉ids->mem[k]? = aA o->o.live=aD->bY Z j k o g->¬bT Z jc c g:=by
  intro k o g hk hni hm hl hb ho;obtain⟨i,o0,h0,hl0,hb0,hi⟩:=ownC g ho;have:=s.inj k i o o0 g hm h0 hl hl0 hb hb0;grind
 have lt:∀k o g,mem[k]? = aA o->o.live=aD->bY Z j k o g->g < w.heap.size:=λk o g hm hl hb=>bT.lt s ⟨k,o,hm,hl,hb⟩
 have cross:∀{k o g i o1},n0<=k->k∉ids->mem[k]? = aA o->o.live=aD->bY Z j k o g->m1[i]? = aA o1->o1.live=aD->bY Z1 j1 i o1 g->False:=by
  intro k o g i o1 hk hni hm hl hb hm1 hl1 hb1;exact besN k o g hk hni hm hl hb (q3.owned g (lt k o g hm hl hb) ⟨i,o1,hm1,hl1,hb1⟩)
 refine⟨Z1,j2,q1.ren3 hσ,⟨λk o ho=>?_,λk k' o o' g ho ho' hl hl' hb hb'=>?_,λk hk=>?_,q2.zin⟩,⟨q3.os,q3.tape,q3.output,q3.size,λg hg hn=>q3.keep g hg λho=>?_,λg hg ho=>?_,q3.z,λt hno=>⟨λk o n ho hr=>?_,(q3.ar t (noAc t hno)).2⟩⟩,jext⟩
 ·by_cases hl:o.live=aD
  ·rcases cls k o ho hl with⟨i,o1,_,_,h3,_⟩|⟨h1,h2,h3,h4⟩
   ·grind
   ·refine(s.obj k o h4).mono q3.z jext (λg hg=>q3.keep g (lt k o g h4 hl hg) (besN k o g h1 h3 h4 hl hg)) (λt n hr=>besA k o t n h1 h4 hr)
  ·cases o<;>first|exact True.intro|(simp[O.live]at hl)
 ·rcases cls k o ho hl with⟨i,o1,h1,h2,_,h4,_,h5⟩|⟨h1,h2,h3,h4⟩
  ·rcases cls k' o' ho' hl' with⟨i',o1',h1',h2',_,h4',_,h5'⟩|⟨h1',h2',h3',h4'⟩
   ·have e:=q2.inj i i' o1 o1' g h1 h1' h2 h2' (h4 g hb) (h4' g hb');subst e;rcases h5 with⟨a1,a2⟩|⟨a1,a2,a3,a4,a5⟩|⟨a1,a2⟩<;>rcases h5' with⟨b1,b2⟩|⟨b1,b2,b3,b4,b5⟩|⟨b1,b2⟩
    ·omega
    ·omega
    ·grind
    ·omega
    ·grind
    ·grind
    ·grind
    ·grind
    ·have:=aeL nnd a2 b2;omega
   grind
  ·rcases cls k' o' ho' hl' with⟨i',o1',h1',h2',_,h4',_,h5'⟩|⟨h1',h2',h3',h4'⟩
   ·grind
   ·exact s.inj k k' o o' g h4 h4' hl hl' (besB k o g h1 h2 h4 hb) (besB k' o' g h1' h2' h4' hb')
 ·grind
 ·obtain⟨i,o0,h0,hl0,hb0,_⟩:=ownC g ho;exact hn ⟨i,o0,h0,hl0,hb0⟩
 ·obtain⟨k,o,ho,hl,hb⟩:=ho;rcases cls k o ho hl with⟨i,o1,h1,h2,_,h4,_,_⟩|⟨h1,h2,h3,h4⟩
  ·obtain⟨i',o0,h0,hl0,hb0,_⟩:=ownC g (q3.owned g hg ⟨i,o1,h1,h2,h4 g hb⟩);exact⟨i',o0,h0,hl0,hb0⟩
  ·exact⟨k,o,h4,hl,besB k o g h1 h2 h4 hb⟩
 ·rcases cls k o ho (o9 hr)with⟨i,o1,h1,h2,_,_,h6,_⟩|⟨h1,h2,h3,h4⟩
  ·exact(q3.ar t (noAc t hno)).1 i o1 n h1 (h6 t n hr)
  ·exact hno k o n h4 hr
def ai8(s:SR P Z w j mem){v:V}{u:aR}(hv:VR Z w j v u):VR Z w j (rR mem v) u:=by
 unfold rR;split
 ·rename_i r hr;obtain⟨id,off,len⟩:=r;simp only;split
  ·rename_i hm;exact L2 s hr hm hv
  grind
 grind
def abT{i k:Nat}{o:O}(h:(freeze mem i)[k]? = aA o):∃o0,mem[k]? = aA o0/\o.ar=o0.ar:=by
 unfold freeze at h;split at h
 ·rename_i t els fz hm
  by_cases e:i=k
  ·subst e;rw[jn (cE.1 hm).1]at h;cases h;exact⟨_,hm,rfl⟩
  grind
 ·rename_i t v fz hm
  by_cases e:i=k
  ·subst e;rw[jn (cE.1 hm).1]at h;cases h;exact⟨_,hm,rfl⟩
  grind
 grind
def fU.freeze{t:aP}{i:Nat}(h:fU t mem):fU t (freeze mem i):=by
 intro k o n ho hr;obtain⟨o0,h0,e⟩:=abT ho;exact h k o0 n h0 (e ▸ hr)
def fU.freezeAll{t:aP}:∀(ids:List Nat) {mem:List O},fU t mem->fU t (freezeAll ids mem)
 | [],_,h=>h
 |_::is,_,h=>fU.freezeAll is h.freeze
def ahN(s:SR P Z w j mem){v:V}{u:aR}(b:Bool)(hv:VR Z w j v u):dz P Z w j mem (rI b (v,mem)).1 (rI b (v,mem)).2 u w:=by
 cases b with
 |false=>exact⟨Z,j,hv,s,.refl _ _ _ _,.refl _⟩
 |true =>
  obtain⟨sf,of⟩:=vj (wu v) Z mem s;have hzs:bU Z w (dR Z (Fz P j mem (wu v))) w:=bU.or _ _ _;have hfz:∀g,¬bT Z j mem g->∀o,dR Z (Fz P j mem (wu v)) g o↔Z g o:=λg hg o=>⟨λh=>h.resolve_right fun⟨id,_,hb,ho⟩=>hg (pR s hb ho),.inl⟩
  have one:∀(x:V) (y:aR),(∀i∈jb x,i∈wu v)->VR Z w j x y->VR (dR Z (Fz P j mem (wu v))) w j (BI mem x) y:=λx y hi hx=>by
   have keep:=hx.mono hzs (bG.refl _);unfold BI;split
   ·split
    ·exact(uh s ‹_› hi hx).up j
    grind
   ·split
    ·exact(uh s ‹_› hi hx).up j
    grind
   ·split
    ·exact(uh s ‹_› hi hx).up j
    grind
   ·split
    ·exact(uh s ‹_› hi hx).up j
    grind
   grind
  refine⟨_,j,?_,sf,⟨rfl,rfl,rfl,cZ _,λg _ hn=>⟨rfl,hfz g hn⟩,λg _ ho=>(of g).1 ((bT.eqA rfl).1 ho),hzs,λt h=>⟨fU.freezeAll _ h,rfl⟩⟩,bG.refl _⟩;show VR _ w j (LQ mem v) u;cases v with
  |tup vs =>
   cases hv with
   |tup hl hh =>
    refine .tup (by grind) λi c u hc hu=>?_
    rw[gy,omi]at hc;obtain⟨x,hx,rfl⟩:=hc;exact one x u (λn hn=>jp.2 ⟨x,dH hx,hn⟩) (hh i x u hx hu)
  |_ =>
   refine one _ u ?_ hv;exact λn hn=>hn
def abW(s:SR P Z w j mem){v:V}{u:aR}(l:List aP)(hv:VR Z w j v u):dz P Z w j mem (s7 l (v,mem)).1 (s7 l (v,mem)).2 u w:=by
 unfold s7;cases l.any λt=>Nat.ble 1000000 t with
 |false=>exact⟨Z,j,hv,s,.refl _ _ _ _,.refl _⟩
 |true =>
  obtain⟨sf,of⟩:=vj (D4 l mem) Z mem s;have hzs:bU Z w (dR Z (Fz P j mem (D4 l mem))) w:=bU.or _ _ _;have hfz:∀g,¬bT Z j mem g->∀o,dR Z (Fz P j mem (D4 l mem)) g o↔Z g o:=λg hg o=>⟨λh=>h.resolve_right fun⟨id,_,hb,ho⟩=>hg (pR s hb ho),.inl⟩
  exact⟨_,j,hv.mono hzs (bG.refl _),sf,⟨rfl,rfl,rfl,cZ _,λg _ hn=>⟨rfl,hfz g hn⟩,λg _ ho=>(of g).1 ((bT.eqA rfl).1 ho),hzs,λt h=>⟨fU.freezeAll _ h,rfl⟩⟩,bG.refl _⟩
def Xu{call:dw}(hi:gH P call.ic){rd:CM}{f:cf}{args:List V}{us:List aR}{v:V}(s:SR P Z w j mem)(h:sK call rd f args mem=aA (v,mem'))(bC:l9 P f=aD)(ha:gz Z w j args us) :
  fQ P f us.toArray w λe w1=>∃u,e = .returned u/\dz P Z w j mem v mem' u w1:=by
 unfold sK at h;simp only[omi]at h;obtain⟨⟨v1,m1⟩,h1,h2⟩:=h;obtain⟨a1,a2⟩:=Ay mem;obtain⟨b1,b2⟩:=Xr args mem;obtain⟨sc,pre,_⟩:=VE (s:=⟨args,mem⟩) a1 b1 b2 s
 have hv:gz Z w (gN (dX mem) (jK args mem) j) (iS args mem).env us:=by
  refine⟨by simpa[iS,kw]using ha.1,λi c u hc hu=>?_⟩;simp only[iS,kw,gy,omi]at hc;obtain⟨c0,h0,rfl⟩:=hc;exact(ha.2 i c0 u h0 hu).ren2 (Kl _ _ _)
 refine(hi f _ _ v1 m1 h1 bC Z w _ us sc hv).mono ?_;rintro e w1 ⟨u,rfl,hp⟩;refine⟨u,rfl,?_⟩;replace sc:SR P Z w (gN (dX mem) (jK args mem) j) (iS args mem).mem:=sc;obtain⟨pre⟩:Nonempty (∀k o,(iS args mem).mem[k]? = aA o->o.live=aD->∃i o0,mem[i]? = aA o0/\o0.live=aD/\o.ar=o0.ar/\gN (dX mem) (jK args mem) j k=j i/\((k < dX mem/\i=k)∨(dX mem<=k/\(jK args mem)[k - dX mem]? = aA i/\o.ar=aF))):=⟨pre⟩
 obtain⟨c,hc⟩:∃c,c=(iS args mem).mem:=⟨_,rfl⟩
 rw[<-hc]at hp sc pre h2;obtain⟨f1,f2⟩:=Ay c
 replace hp:dz P Z w (gN (dX mem) (jK args mem) j) c (cond rd.wv (rR m1 v1) v1) m1 u w1:=by
  obtain⟨Z1,j1,p1,p2,p3,p4⟩:=hp;cases rd.wv with
  |true=>exact⟨Z1,j1,ai8 p2 p1,p2,p3,p4⟩
  |false=>exact⟨Z1,j1,p1,p2,p3,p4⟩
 replace hp:dz P Z w (gN (dX mem) (jK args mem) j) c (rI rd.sv (cond rd.wv (rR m1 v1) v1,m1)).1 (rI rd.sv (cond rd.wv (rR m1 v1) v1,m1)).2 u w1:=by
  obtain⟨Z1,j1,p1,p2,p3,p4⟩:=hp;obtain⟨Z2,j2,q1,q2,q3,q4⟩:=ahN p2 rd.sv p1;exact⟨Z2,j2,q1,q2,p3.trans q3,p4.trans q4⟩
 replace hp:dz P Z w (gN (dX mem) (jK args mem) j) c (s7 rd.mv (rI rd.sv (cond rd.wv (rR m1 v1) v1,m1))).1 (s7 rd.mv (rI rd.sv (cond rd.wv (rR m1 v1) v1,m1))).2 u w1:=by
  obtain⟨Z1,j1,p1,p2,p3,p4⟩:=hp;obtain⟨Z2,j2,q1,q2,q3,q4⟩:=abW p2 rd.mv p1;exact⟨Z2,j2,q1,q2,p3.trans q3,p4.trans q4⟩
 have norm:=NC (rd:=rd.row) f1 List.nodup_range' sc sc (λk o ho hl=>⟨k,o,ho,hl,rfl,rfl,by
  by_cases hk:k < dX c
  ·exact .inl ⟨hk,rfl⟩
  ·have hkl:=(cE.1 ho).1;refine .inr ⟨by omega,?_,?_⟩
   ·rw[List.getElem?_range' (show k - dX c < c.length - dX c by omega)];rw[show dX c+1 * (k - dX c)=k by omega]
   ·have hle:dX mem<=dX c:=by
     rw[hc];exact abV args mem
    grind⟩) hp
 have:=NC (rd:=rd.row) a1 b1 s sc pre norm;unfold nr at h2;rw[<-hc]at h2;unfold jZ at h2;grind
end
section
variable {P:bv}{Z Z':Zs}{w w':bg}{j j':J}{mem mem':List O}
def R4{v:V}{u:aR}(h:vv v=aE)(hv:VR Z w j v u)(Z':Zs)(w':bg)(j':J):VR Z' w' j' v u:=by
 cases v with
 |sl l=>simp[vv]at h
 |fr t els=>cases hv
 |_=>cases hv<;>first|(simp[vv]at h;done)|constructor
def aeG{v:V}{u:aR}(h:vx v=aE)(hv:VR Z w j v u)(Z':Zs)(w':bg)(j':J):VR Z' w' j' v u:=by
 cases v with
 |agg cs =>
  obtain⟨us,rfl,hr⟩:=hv.aggInv;refine LR.aggMk ⟨hr.1,λi c hc=>?_⟩;obtain⟨u,hu,hvv⟩:=hr.2 i c hc
  have:vv c=false:=by
   simp only[vx,zj]at h;grind
  exact⟨u,hu,R4 this hvv Z' w' j'⟩
 |_=>exact R4 (by simpa[vx]using h) hv Z' w' j'
def P8{v:V}{u:aR}(h:VR Z w j0 v u)(hf:v.flat1=aD):VR Z' w j0 v u:=by
 cases h<;>first|(simp[js]at hf;done)|constructor
def lV.flatZ{h:cO}{t:aP}{els:List V}(r:lV P Z w h t els 0)(hf:∀x∈els,∀y∈x.cells,y.flat1=aD)(hz:∀g,h.blk=aA g->∀o,¬Z' g o):lV P Z' w h t els 0:=by
 obtain⟨h1,h2,h3,h4,h5⟩:=r;refine⟨h1,h2,h3,h4,?_⟩;rcases h5 with h5|⟨g,b,c,us,hu,hlc,hcm,hg,hb,hcells,hz1,hz2⟩
 ·grind
 ·have hbk:h.blk=aA g:=by cases h;simp at hu;subst hu;rfl
  refine .inr ⟨g,b,c,us,hu,hlc,hcm,hg,hb,λk x hk i y hy=>?_,λo ho=>(hz g hbk o ho).elim,λo ho=>by omega⟩;obtain⟨q1,u0,q2,q3⟩:=hcells k x hk i y hy;have hyf:=hf x (dH hk) y (dH hy);exact⟨q1,u0,q2,P8 q3 hyf⟩
def agE{h:cO}{t:aP}{els:List V}{fz:Nat}{A:Option Addr}{n c:Nat}(r:lV P Z w h t els fz)(hu:h.u = .slice A n c)(hz:bU Z w Z' w)(hzz:∀g,h.blk=aA g->∀o,Z' g o):VR Z' w j (.sl els) (.slice A n c):=by
 obtain⟨h1,h2,h3,h4,h5⟩:=r;rcases h5 with⟨hv,he⟩|⟨g,b,c',us,hv,hlc,hcm,hg,hs,hcells,_⟩
 ·rw[hu]at hv;cases hv;subst he;exact .sl0
 ·have hbk:h.blk=aA g:=by cases h;simp at hv;subst hv;rfl
  rw[hu]at hv;cases hv;exact VR.slMk hlc h2 λk x hk=>⟨h4 x (dH hk),λi _=>hzz g hbk _,(hcells k x hk).mono hz (bG.refl _) rfl⟩
def uN(Z:Zs)(w0 w1:bg):Zs:={ Z with z:=λg o=>Z g o∨(w0.heap.size<=g/\g < w1.heap.size) }
def RR.one{Z2:Zs}{w1:bg}{r:V}{u:aR}(h:RR P Z2 w w1 r u)(hn:∀vs,r≠.tup vs):R1 P Z2 w w1 r u:=by
 cases r<;>first|exact(hn _ rfl).elim|exact h
def RR.mk{Z2:Zs}{w1:bg}{r:V}{u:aR}(h:R1 P Z2 w w1 r u)(hn:∀vs,r≠.tup vs):RR P Z2 w w1 r u:=by
 cases r<;>first|exact(hn _ rfl).elim|exact h
def aiz(mem:List O)(v:V):(y6 aE mem v).2=mem:=by cases v<;>rfl
def Vv{w1:bg}{mem1:List O}{Z2:Zs}{r:V}{u:aR}{ad:Bool}(s1:SR P Z2 w1 j mem1)(st:br Z w j mem Z2 w1 j mem1)(hown:∀g,bT Z2 j mem1 g->g < w.heap.size)(hr:RR P Z2 w w1 r u) :
  dz P Z w j mem (oP ad mem1 r).1 (oP ad mem1 r).2 u w1:=by
 have hzn:bU Z2 w1 (uN Z2 w w1) w1:=.of λg o h=>⟨.inl h,rfl,rfl⟩
 have s3:SR P (uN Z2 w w1) w1 j mem1:=s1.world hzn (λg hg=>⟨rfl,λo=>⟨λh=>h.resolve_right λh=>by grind,.inl⟩⟩) (λg o h=>by
  rcases h with h|h
  ·exact s1.zin g o h
  grind)
 have st3:br Z w j mem (uN Z2 w w1) w1 j mem1:=⟨st.os,st.tape,st.output,st.size,λg hg hn=>⟨(st.keep g hg hn).1,λo=>⟨λh=>((st.keep g hg hn).2 o).1 (h.resolve_right λh=>by omega),λh=>.inl (((st.keep g hg hn).2 o).2 h)⟩⟩,st.owned,st.z.trans hzn,st.ar⟩
 have one:∀(v:V) (x:aR),R1 P Z2 w w1 v x->VR (uN Z2 w w1) w1 j (y6 aE mem1 v).1 x:=by
  intro v x hx;cases v with
  |fr t els =>
   obtain⟨A,n,c,rfl,hrow,hfl,hb,h0⟩:=hx;exact agE hrow rfl hzn (λg hg o=>.inr (hb g hg))
  |_=>exact(VR.up hx j).mono hzn (bG.refl _)
 cases r with
 |tup vs =>
  obtain⟨us,rfl,hl,hh⟩:=hr;refine⟨uN Z2 w w1,j,.tup (by grind) λi c x hc hx=>?_,s3,st3,bG.refl _⟩;grind
 |fr t els =>
  cases ad with
  |false=>exact⟨uN Z2 w w1,j,one _ _ (RR.one hr (by grind)),s3,st3,bG.refl _⟩
  |true =>
   obtain⟨A,n,c,rfl,hrow,hfl,hb,h0⟩:=hr;have s4:=s1.add (h:=⟨.slice A n c,(aK P) t⟩) (o:=.row t els 0) (λg hg ho=>by grind) ⟨_,gF _ _ _,hrow⟩;refine⟨Z2,_,.own (gF _ _ _) h0,s4,⟨st.os,st.tape,st.output,st.size,st.keep,λg hg ho=>?_,st.z,λt h=>⟨(st.ar t h).1.add rfl,(st.ar t h).2⟩⟩,s1.ext _⟩;rcases bT.add ho with ho|ho
   ·exact st.owned g hg ho
   grind
 |_=>exact⟨uN Z2 w w1,j,one _ _ (RR.one hr (by grind)),s3,st3,bG.refl _⟩
def aik(s:SR P Z w j mem){t:aP}{p v:V}{u up:aR}(h:un P mem t p v=aA mem')(hp:VR Z w j p up)(hv:VR Z w j v u) :
  ∃w1,(Instr.storeAt t up u).run P w = .ok () w1/\dz P Z w j mem (.tup []) mem' undef w1:=by
 unfold un at h;split at h;rotate_left
 ·exact Vf s h hp hv
 simp only[obi]at h;obtain⟨v',hs,h⟩:=h;have hv1:=BJ s hs (λi hi=>hi) hv;obtain⟨sf,of⟩:=vj (iG mem v) Z mem s;have hzs:bU Z w (dR Z (Fz P j mem (iG mem v))) w:=bU.or _ _ _;obtain⟨w1,h1,Z1,j1,q1,q2,q3,q4⟩:=Vf sf h (hp.mono hzs (bG.refl _)) (hv1.up j);have hfz:∀g,¬bT Z j mem g->∀o,dR Z (Fz P j mem (iG mem v)) g o↔Z g o:=λg hg o=>⟨λh=>h.resolve_right fun⟨id,_,hb,ho⟩=>hg (pR s hb ho),.inl⟩
 have stp:br Z w j mem (dR Z (Fz P j mem (iG mem v))) w j (freezeAll (iG mem v) mem) :=
  ⟨rfl,rfl,rfl,cZ _,λg _ hn=>⟨rfl,hfz g hn⟩,λg _ ho=>(of g).1 ((bT.eqA rfl).1 ho),hzs,λt h=>⟨h.freezeAll _,rfl⟩⟩
 exact⟨w1,h1,Z1,j1,q1,q2,stp.trans q3,q4⟩
def Qf(s:SR P Z w j mem){v v1:V}{u:aR}(h:ge mem v=aA v1)(hv:VR Z w j v u):dz P Z w j mem v1 (freezeAll (jb v) mem) u w:=by
 have hv1:=uh s h (ids:=jb v) (λi hi=>hi) hv;obtain⟨sf,of⟩:=vj (jb v) Z mem s;have hzs:bU Z w (dR Z (Fz P j mem (jb v))) w:=bU.or _ _ _;have hfz:∀g,¬bT Z j mem g->∀o,dR Z (Fz P j mem (jb v)) g o↔Z g o:=λg hg o=>⟨λh=>h.resolve_right fun⟨id,_,hb,ho⟩=>hg (pR s hb ho),.inl⟩
 exact⟨_,j,hv1.up j,sf,⟨rfl,rfl,rfl,cZ _,λg _ hn=>⟨rfl,hfz g hn⟩,λg _ ho=>(of g).1 ((bT.eqA rfl).1 ho),hzs,λt h=>⟨h.freezeAll _,rfl⟩⟩,bG.refl _⟩
def GZ{cfg:cB}{call:dw}(hp:iO cfg.P call.pc)(hi:gH cfg.P call.ic){dr:Bool}{f:cf}{args:List V}{us:List aR}{v:V}(s:SR cfg.P Z w j mem)
  (h:jw cfg call dr f args mem=aA (v,mem')) (ha:gz Z w j args us) :
  l9 cfg.P f=aD/\fQ cfg.P f us.toArray w λe w1=>∃u,e = .returned u/\dz cfg.P Z w j mem v mem' u w1:=by
 unfold jw at h;split at h
 ·cases h
 ·rename_i bC;have hok':l9 cfg.P f=true:=by grind
  refine⟨hok',?_⟩;split at h
  ·cases hs:cD (ku mem) args with
   |none=>grind
   |some as0 =>
    cases hpc:call.pc f as0 with
    |none=>grind
    |some r =>
     simp only[hs,hpc,bu]at h;have hsn:=ahV s hs ha;obtain⟨sf,of⟩:=vj (args.flatMap (kU mem)) Z mem s;refine(hp f as0 r hpc hok' _ w us sf.zin hsn).mono ?_;rintro e w1 ⟨u,Z1,rfl,hrr,st⟩;refine⟨u,rfl,?_⟩;have hzs:bU Z w (dR Z (Fz cfg.P j mem (args.flatMap (kU mem)))) w:=bU.or _ _ _
     have hz1:bU (dR Z (Fz cfg.P j mem (args.flatMap (kU mem)))) w Z1 w1:=.of (λg o ho=>by
      have hg:=sf.zin g o ho;exact⟨((st.keep g hg).2 o).2 ho,ji (st.keep g hg).1 o⟩) st.a st.i
     have hfz:∀g,¬bT Z j mem g->∀o,dR Z (Fz cfg.P j mem (args.flatMap (kU mem))) g o↔Z g o:=λg hg o=>⟨λh=>h.resolve_right fun⟨id,_,hb,ho⟩=>hg (pR s hb ho),.inl⟩
     by_cases hl:vw r=aD
     ·-- what was handed over Ve as0 it is from here on
      have s1:SR cfg.P Z1 w1 j (freezeAll (args.flatMap (kU mem)) mem):=sf.world hz1 (λg hg=>st.keep g (bT.lt sf hg)) st.zin st.a;have st1:br Z w j mem Z1 w1 j (freezeAll (args.flatMap (kU mem)) mem):=⟨st.os,st.tape,st.output,st.size,λg hg hn=>⟨(st.keep g hg).1,λo=>((st.keep g hg).2 o).trans (hfz g hn o)⟩,λg _ ho=>(of g).1 ((bT.eqA st.a).1 ho),hzs.trans hz1,λt h=>⟨h.freezeAll _,congrFun st.a t⟩⟩
      rw[bc hl]at h;split at h
      ·cases h
      ·injection h with h
       have:=Vv (ad:=cfg.adopt f && !dr) s1 st1 (λg hg=>bT.lt s ((of g).1 ((bT.eqA st.a).1 hg))) hrr;grind
     ·-- nothing vv there
      rw[bh hl]at h;have hl':vw r=false:=by grind
      let Z2:Zs:={ Z with z:=λg o=>(g < w.heap.size/\Z g o)∨(w.heap.size<=g/\Z1 g o) }
      have hz2:bU Z w Z2 w1:=.of λg o ho=>⟨.inl ⟨s.zin g o ho,ho⟩,ji (st.keep g (s.zin g o ho)).1 o⟩
      have iff:∀g,g < w.heap.size->∀o,Z2 g o↔Z g o:=λg hg o=>⟨λh=>(h.resolve_right λh=>by omega).2,λh=>.inl ⟨hg,h⟩⟩
      have s1:SR cfg.P Z2 w1 j mem:=s.world hz2 (λg hg=>⟨(st.keep g (bT.lt s hg)).1,iff g (bT.lt s hg)⟩) (λg o ho=>by
       rcases ho with⟨h1,_⟩|⟨_,h2⟩
       ·exact qx h1 st.size
       ·exact st.zin g o h2)
      have st1:br Z w j mem Z2 w1 j mem:=⟨st.os,st.tape,st.output,st.size,λg hg _=>⟨(st.keep g hg).1,iff g hg⟩,λ_ _ ho=>ho,hz2,λ_ h=>⟨h,rfl⟩⟩
      have one:∀(x:V) (y:aR),vx x=aE->R1 cfg.P Z1 w w1 x y->R1 cfg.P Z2 w w1 x y:=by
       intro x y hlx hx;cases x with
       |fr t els =>
        obtain⟨A,n,c,rfl,hrow,hfl,hb,h0⟩:=hx;refine⟨A,n,c,rfl,hrow.flatZ hfl (λg hg o ho=>?_),hfl,hb,h0⟩;obtain⟨q1,q2,q3,q4,q5⟩:=hrow;rcases ho with ho|ho
        ·grind
        ·rcases q5 with⟨q5,_⟩|⟨g',b,c',us',hu,_,_,_,_,_,hz1',_⟩
         ·simp at q5;obtain⟨rfl,_⟩:=q5;simp[cO.blk]at hg
         ·simp at hu;obtain⟨rfl,_⟩:=hu;simp[cO.blk]at hg;grind
       |_=>exact aeG hlx hx _ _ _
      injection h with h
      have fin:RR cfg.P Z2 w w1 r u->dz cfg.P Z w j mem v mem' u w1:=λhr=>by
       have:=Vv (ad:=cfg.adopt f && !dr) s1 st1 (λg hg=>bT.lt s ((bT.eqA rfl).1 hg)) hr;grind
      refine fin ?_;cases r with
      |tup vs =>
       obtain⟨us',rfl,q1,q2⟩:=hrr;refine⟨us',rfl,q1,λi x y hx hy=>?_⟩
       have hlx:vx x=false:=by
        simp only[vw,zj]at hl';grind
       grind
      |_=>exact RR.mk (one _ _ (by simpa[vw]using hl') (RR.one hrr (by grind))) (by grind)
  ·split at h
   ·cases h
   ·split at h
    ·exact hi f args mem v mem' h hok' Z w j us s ha
    ·exact Xu hi s (Fc h).1 hok' ha
def Jd(S:List Nat):∀(l:List O) (i:Nat),(tj S i l).length=l.length/\∀k,(tj S i l)[k]? = (l[k]?).map λo=>cond (S.contains (i+k)) o .dead
 | [],i=>⟨rfl,λk=>by simp[tj]⟩
 |o::l,i=>by
  obtain⟨h1,h2⟩:=Jd S l (i+1);refine⟨by simp[tj,h1],λk=>?_⟩;cases k with
  |zero=>simp[tj]
  |succ k=>simp only[tj,MB,h2 k,show i+1+k=i+(k+1) by omega]
def z8(S:List Nat):∀(l m:List O) (i:Nat),l.length<=m.length->(qG S i l m).length=m.length/\∀k,(qG S i l m)[k]? = if k < l.length then (if S.contains (i+k) then m[k]? else l[k]?) else m[k]?
 | [],m,i,_=>⟨rfl,λk=>by simp[qG]⟩
 |o::l,[],i,h=>by grind
 |o::l,p::m,i,h=>by
  obtain⟨h1,h2⟩:=z8 S l m (i+1) (by grind);refine⟨by simp[qG,h1],λk=>?_⟩;cases k with
  |zero=>simp only[qG,MC,d8,Nat.zero_lt_succ,dv,gn];all_goals grind
  |succ k=>simp only[qG,MB,h2 k,show i+1+k=i+(k+1) by omega,d8,Nat.succ_lt_succ_iff]
def xN{S:List Nat}{mem:List O}{k:Nat}{o:O}(h:(keepOnly S mem)[k]? = aA o)(hl:o.live=aD):mem[k]? = aA o/\S.contains k=true:=by
 have:=(Jd S mem 0).2 k;unfold keepOnly at h;rw[this,eW]at h;cases hm:mem[k]? with
 |none=>grind
 |some q =>
  rw[hm,dy]at h;cases hc:S.contains k with
  |true=>grind
  |false=>rw[hc]at h;cases h;cases hl
def SR.keepOnly(s:SR P Z w j mem)(S:List Nat):SR P Z w j (Lite.keepOnly S mem):=by
 refine⟨λid o h=>?_,λid id' o o' g h h' hl hl'=>?_,λid h=>s.out id (by have:=(Jd S mem 0).1;unfold Lite.keepOnly at h;omega),s.zin⟩
 ·cases hl:o.live with
  |true=>exact s.obj id o (xN h hl).1
  |false=>cases o<;>first|exact True.intro|(cases hl)
 ·exact s.inj id id' o o' g (xN h hl).1 (xN h' hl').1 hl hl'
def bT.keepOnly{S:List Nat}{g:Nat}(h:bT Z j (Lite.keepOnly S mem) g):∃id o,mem[id]? = aA o/\o.live=aD/\bY Z j id o g/\S.contains id=true:=by
 obtain⟨id,o,h1,h2,h3⟩:=h;exact⟨id,o,(xN h1 h2).1,h2,h3,(xN h1 h2).2⟩
def abO{call:dw}(hi:gH P call.ic){f:cf}{args:List V}{us:List aR}{v:V}(s:SR P Z w j mem)(h:pC call f args mem=aA (v,mem'))(bC:l9 P f=aD)(ha:gz Z w j args us) :
  fQ P f us.toArray w λe w1=>∃u,e = .returned u/\dz P Z w j mem v mem' u w1:=by
 unfold pC at h;obtain⟨S,hS⟩:∃S,S=args.flatMap lH:=⟨_,rfl⟩
 rw[<-hS]at h;split at h
 ·cases h
 rename_i hall
 have hall:∀(id:Nat) (o:O),mem[id]? = aA o->S.contains id=aD->o.ar=none:=λid o hm hc=>by
  have hall':IE S mem=true:=by grind
  have:=e9.1 hall' id (by grind);rw[hm]at this;simpa[gP]using this
 simp only[obi]at h;obtain⟨⟨v1,m1⟩,h1,h2⟩:=h;split at h2;rotate_left
 ·grind
 rename_i hle;cases h2;simp only at hle;refine(hi f args _ v1 m1 h1 bC Z w j us (s.keepOnly S) ha).mono ?_;rintro e w1 ⟨u,rfl,Z1,j1,q1,q2,q3,q4⟩
 have noAk:∀t,fU t (Lite.keepOnly S mem):=λt id o n hm hr=>by
  have:=xN hm (o9 hr);grind
 have za:Z1.a=Z.a:=funext λt=>(q3.ar t (noAk t)).2
 have har1:∀(id:Nat) (o:O),m1[id]? = aA o->o.ar=none:=λid o hm=>by
  cases hr:o.ar with
  |none=>rfl
  |some r=>exact((q3.ar r.1 (noAk r.1)).1 id o r.2 hm hr).elim
 refine⟨u,rfl,Z1,j1,q1,?_,?_,q4⟩
 ·-- the memory
  obtain⟨b1,b2⟩:=z8 S mem m1 0 hle
  have get:∀id o,(tR S mem m1)[id]? = aA o->(m1[id]? = aA o/\(id < mem.length->S.contains id=aD))∨(id < mem.length/\S.contains id=aE/\mem[id]? = aA o):=by
   intro id o h;unfold tR at h;grind
  have blk:∀(id:Nat) (o:O) (g:Nat),mem[id]? = aA o->o.live=aD->bY Z1 j1 id o g->bY Z j id o g:=by
   intro id o g hm hl hb;unfold bY at hb |-
   cases hr:o.ar with
   |none =>
    rw[hr]at hb;obtain⟨h,hh⟩:=s.han hm hl hr;simp only[dk,q4 _ _ hh]at hb;simp only[dk,hh];grind
   |some r =>
    simp_all
  have notOwned:∀(id:Nat) (o:O) (g:Nat),mem[id]? = aA o->o.live=aD->bY Z j id o g->S.contains id=aE->¬bT Z j (Lite.keepOnly S mem) g:=by
   intro id o g hm hl hb hc ho;obtain⟨id',o',e1,e2,e3,e4⟩:=ho.keepOnly;have:=s.inj id id' o o' g hm e1 hl e2 hb e3;grind
  have lt:∀(id:Nat) (o:O) (g:Nat),mem[id]? = aA o->o.live=aD->bY Z j id o g->g < w.heap.size:=λid o g hm hl hb=>bT.lt s ⟨id,o,hm,hl,hb⟩
  have cross:∀(id id':Nat) (o o':O) (g:Nat),mem[id]? = aA o->S.contains id=aE->m1[id']? = aA o'->o.live=aD->o'.live=aD->bY Z1 j1 id o g->bY Z1 j1 id' o' g->False:=by
   intro id id' o o' g hm hc hm' hl hl' hb hb';have hb:=blk id o g hm hl hb;exact notOwned id o g hm hl hb hc (q3.owned g (lt id o g hm hl hb) ⟨id',o',hm',hl',hb'⟩)
  refine⟨λid o h=>?_,λid id' o o' g h h' hl hl' hb hb'=>?_,λid h=>q2.out id (by have h':(qG S 0 mem m1).length<=id:=h;grind),q2.zin⟩
  ·rcases get id o h with⟨h,_⟩|⟨bf,hc,hm⟩
   ·exact q2.obj id o h
   ·cases hl:o.live with
    |false=>cases o<;>first|exact True.intro|(cases hl)
    |true =>
     refine(s.obj id o hm).mono q3.z q4 (λg hg=>?_) (λt n _=>congrFun za t);exact q3.keep g (lt id o g hm hl hg) (notOwned id o g hm hl hg hc)
  ·rcases get id o h with⟨h,_⟩|⟨bf,hc,hm⟩
   ·rcases get id' o' h' with⟨h',_⟩|⟨hlt',hc',hm'⟩
    ·exact q2.inj id id' o o' g h h' hl hl' hb hb'
    grind
   ·rcases get id' o' h' with⟨h',_⟩|⟨hlt',hc',hm'⟩
    ·grind
    ·exact s.inj id id' o o' g hm hm' hl hl' (blk id o g hm hl hb) (blk id' o' g hm' hl' hb')
 ·-- the step
  refine⟨q3.os,q3.tape,q3.output,q3.size,λg hg hn=>q3.keep g hg λho=>?_,λg hg ho=>?_,q3.z,λt hno=>⟨λid o n h hr=>?_,congrFun za t⟩⟩
  ·obtain⟨id,o,e1,e2,e3,_⟩:=ho.keepOnly;exact hn ⟨id,o,e1,e2,e3⟩
  ·obtain⟨id,o,h,hl,hb⟩:=ho;obtain⟨b1,b2⟩:=z8 S mem m1 0 hle;unfold tR at h;rw[b2 id,eW]at h
   have inM1:m1[id]? = aA o->bT Z j mem g:=λh=>by
    obtain⟨id',o',e1,e2,e3,_⟩:=(q3.owned g hg ⟨id,o,h,hl,hb⟩).keepOnly;exact⟨id',o',e1,e2,e3⟩
   split at h
   ·cases hc:S.contains id with
    |true=>grind
    |false =>
     rw[bh (by grind)]at h;refine⟨id,o,h,hl,?_⟩;unfold bY at hb |-
     cases hr:o.ar with
     |none =>
      rw[hr]at hb;obtain⟨hh,he⟩:=s.han h hl hr;simp only[dk,q4 _ _ he]at hb;simpa only[dk,he]using hb
     |some r =>
      simp_all
   grind
  ·obtain⟨b1,b2⟩:=z8 S mem m1 0 hle;unfold tR at h;rw[b2 id,eW]at h;split at h
   ·split at h
    ·grind
    ·exact hno id o n h hr
   grind
end
section
variable {P:bv}{Z Z':Zs}{w w':bg}{j j':J}{mem mem':List O}
def fe{Post:aR->bg->Prop}{s:Sem aR}{u:aR}{w1:bg}(h:s.run P w = .ok u w1)(hp:Post u w1):m5 P Post ((do pure (Next.value (<-s)):Sem Next).run P w):=by
 simp only[Sem.run_bind,h,Result.andThen_ok,Sem.run_pure];exact hp
def Sa{Post:aR->bg->Prop}{s:Sem Unit}{w1:bg}(h:s.run P w = .ok () w1)(hp:Post undef w1):m5 P Post ((do s;pure Next.skip:Sem Next).run P w):=by
 simp only[Sem.run_bind,h,Result.andThen_ok,Sem.run_pure];exact hp
def DR{env:List V}{ρ:fD->aR}(hρ:∀x v,bB env x=aA v->VR Z w j v (ρ x)){l:List fD}{vs:List V}(h:cD (bB env) l=aA vs):gz Z w j vs (l.map ρ):=by
 obtain⟨hl,hg⟩:=kY h;refine⟨by grind,λi v u hv hu=>?_⟩;grind
def gz.append{vs ws:List V}{us xs:List aR}(h:gz Z w j vs us)(h':gz Z w j ws xs):gz Z w j (vs++ws) (us++xs):=by
 refine⟨by simp[h.1,h'.1],λi v u hv hu=>?_⟩
 by_cases hi:i < vs.length
 ·rw[eP hi]at hv;rw[eP (by rw[<-h.1];grind)]at hu;exact h.2 i v u hv hu
 ·rw[eC (by omega)]at hv;rw[eC (by rw[<-h.1];omega),<-h.1]at hu;exact h'.2 _ v u hv hu
def GU{env:List V}{ρ:fD->aR}(hρ:∀x v,bB env x=aA v->VR Z w j v (ρ x))(o:Option fD):qt Z w j (o.map (bB env)) (o.map ρ):=by
 cases o with
 |none=>trivial
 |some x =>
  simp only[dy];cases hx:bB env x with
  |none=>trivial
  |some v=>exact hρ x v hx
def TT{f:cf}{args:Array aR}(h:l9 P f=aD):(callFunc f args).run P w = .ok (.enter f args) w:=by
 unfold l9 at h;cases hf:P.funcs[f]? with
 |none=>grind
 |some fn =>
  simp only[hf,cT,bne_iff_ne,ne_eq]at h;cases hb:fn.body with
  |none=>grind
  |some c=>simp[callFunc,hf,hb,h.2]
def Xi(s:SR P Z w j mem){b:Builtin}{ts:Array aP}{ty:aP}{consts:Array Bool}{args:List V}{us:List aR}{v:V}(h:i9 P b mem ts.toList args=aA (v,mem'))(ha:gz Z w j args us) :
  m5 P (dz P Z w j mem v mem') ((builtin b ts ty consts us.toArray).run P w):=by
 cases b<;>simp only[i9]at h<;>first|(cases h;done)|skip
 case len =>
  cases hts:ts.toList with
  |nil=>simp[hts,qX]at h
  |cons t rest =>
   cases args with
   |nil=>simp[hts,qX]at h
   |cons x xs =>
    simp only[hts,qX]at h;cases hl:nH P mem t x with
    |none=>grind
    |some r =>
     simp[hl]at h;obtain⟨rfl,rfl⟩:=h;cases us with
     |nil=>have:=ha.1;grind
     |cons u us =>
      have hv:=ha.2 0 x u rfl rfl;have ht0:ts[0]? = aA t:=by rw[<-BU,hts];rfl
      obtain⟨r',h1,h2⟩:=ads (ty:=ty) s (ts:=ts) (us:=(u::us).toArray) ht0 (by simp) hl hv;exact fe h1 (fB s h2)
 case append =>
  unfold xe at h;split at h
  ·rename_i t t' sv x ht;split at h
   ·rename_i he
    match us,ha with
    | [u,ux],ha =>
     obtain⟨r',w1,h1,h2⟩:=GJ (ty:=ty) s he h (ha.2 0 sv u rfl rfl) (ha.2 1 x ux rfl rfl);have hts:ts=#[t,t']:=by grind
     subst hts;exact fe h1 h2
    | [],ha=>have:=ha.1;grind
    | [_],ha=>have:=ha.1;grind
    |_::_::_::_,ha=>have:=ha.1;grind
   ·match us,ha with
    | [u,ux],ha =>
     obtain⟨r',w1,h1,h2⟩:=WL (ty:=ty) s h (ha.2 0 sv u rfl rfl) (ha.2 1 x ux rfl rfl);have hts:ts=#[t,t']:=by grind
     subst hts;exact fe h1 h2
    | [],ha=>have:=ha.1;grind
    | [_],ha=>have:=ha.1;grind
    |_::_::_::_,ha=>have:=ha.1;grind
  grind
 case copy =>
  unfold G8 at h;split at h
  ·rename_i t t' sv x ht;split at h
   ·rename_i he
    match us,ha with
    | [u,ux],ha =>
     obtain⟨r',w1,h1,h2⟩:=XT (ty:=ty) s he h (ha.2 0 sv u rfl rfl) (ha.2 1 x ux rfl rfl);have hts:ts=#[t,t']:=by grind
     subst hts;exact fe h1 h2
    | [],ha=>have:=ha.1;grind
    | [_],ha=>have:=ha.1;grind
    |_::_::_::_,ha=>have:=ha.1;grind
   grind
  grind
 case clear =>
  unfold G1 at h;split at h
  ·rename_i t sv ht
   match us,ha with
   | [u],ha =>
    obtain⟨r',w1,h1,h2⟩:=XB (ty:=ty) s h (ha.2 0 sv u rfl rfl);have hts:ts=#[t]:=by grind
    subst hts;exact fe h1 h2
   | [],ha=>have:=ha.1;grind
   |_::_::_,ha=>have:=ha.1;grind
  grind
 case cap =>
  unfold ND at h;split at h
  ·rename_i t ht;split at h
   ·rename_i e hu;cases h
    match us,ha with
    | [u],ha =>
     have hv:=ha.2 0 _ u rfl rfl;have hts:ts=#[t]:=by grind
     subst hts;cases hv;exact fe (s:=Builtin.cap_ #[t] ty #[.slice aF 0 0]) (by simp[Builtin.cap_,dP hu];rfl) (fB s .int)
    | [],ha=>have:=ha.1;grind
    |_::_::_,ha=>have:=ha.1;grind
   grind
  grind
 case min =>
  cases args with
  |nil=>simp[pB]at h
  |cons x xs =>
   simp only[pB]at h;cases hl:vi min2 x xs with
   |none=>grind
   |some r =>
    simp[hl]at h;obtain⟨rfl,rfl⟩:=h;cases us with
    |nil=>have:=ha.1;grind
    |cons u us =>
     obtain⟨r',h1,h2⟩:=Qc (P:=P) (g:=Builtin.min2) (λa b v u u' h ha hb=>ad9 h ha hb) xs us x r u hl (ha.2 0 x u rfl rfl) (by have:=ha.1;grind) (λi c u' hc hu=>ha.2 (i+1) c u' (by grind) (by grind));exact fe (s:=Builtin.min_ ts ty (u::us).toArray) (by simpa[Builtin.min_]using h1) (fB s h2)
 case max =>
  cases args with
  |nil=>simp[pB]at h
  |cons x xs =>
   simp only[pB]at h;cases hl:vi max2 x xs with
   |none=>grind
   |some r =>
    simp[hl]at h;obtain⟨rfl,rfl⟩:=h;cases us with
    |nil=>have:=ha.1;grind
    |cons u us =>
     obtain⟨r',h1,h2⟩:=Qc (P:=P) (g:=Builtin.max2) (λa b v u u' h ha hb=>ad1 h ha hb) xs us x r u hl (ha.2 0 x u rfl rfl) (by have:=ha.1;grind) (λi c u' hc hu=>ha.2 (i+1) c u' (by grind) (by grind));exact fe (s:=Builtin.max_ ts ty (u::us).toArray) (by simpa[Builtin.max_]using h1) (fB s h2)
 case delete =>
  unfold Hg at h;split at h
  ·rename_i t rest m k ht;cases hm:gO mem m with
   |none=>grind
   |some es =>
    simp only[hm,bu]at h;split at h
    ·rename_i hfit;cases hd:nI es k with
     |none=>grind
     |some out =>
      simp[hd]at h;obtain⟨rfl,rfl⟩:=h
      match us,ha with
      | [u,uk],ha =>
       have ht0:ts[0]? = aA t:=by rw[<-BU,ht];rfl
       obtain⟨w1,h1,h2⟩:=Yk (ty:=ty) (ts:=ts) (us:=#[u,uk]) s ht0 rfl rfl hm hfit hd (ha.2 0 _ u rfl rfl) (ha.2 1 k uk rfl rfl);exact fe h1 h2
      | [],ha=>have:=ha.1;grind
      | [_],ha=>have:=ha.1;grind
      |_::_::_::_,ha=>have:=ha.1;grind
    grind
  grind
def QX{t:aP}{z:V}(hz:jm P t=aA z)(hl:z.cells.length=(aK P) t)(ho:z.cells.all fL=aD) :
  ∃us,(Instr.alloc t aD (.tuple #[])).run P w = .ok (.pointer (aA ⟨w.heap.size,0,aF⟩)) (w.alloc (.cells us t))/\us.size=(aK P) t:=by
 obtain⟨i,zv,hi,hzv,hvz,_⟩:=uy (P:=P) (Z:=⟨λ_ _=>False,λ_ _=>aF,λ_=>aF⟩) (w:=w) (j:=j0) hz;obtain⟨hcs,_⟩:=hvz.cellsOf (pT ho);exact⟨zv.cells,by simp[Instr.alloc,zeroValue,ij,hi,hzv,newVar,Go.newRow,newObj,Sem.run],by grind⟩
def JG{cfg:cB}{call:dw}(hp:iO cfg.P call.pc)(hi:gH cfg.P call.ic){dr:Bool}{o:dU}{g:Option (Nat × Bool)}{bx sq rx:Bool}{env:List V}{ρ:fD->aR}{v:V}
  (s:SR cfg.P Z w j mem) (hρ:∀x v,bB env x=aA v->VR Z w j v (ρ x)) (h:da cfg call dr ⟨o.dst,o.op,o.type,g,bx,sq,rx⟩ env mem=aA (v,mem')) :
  m5 cfg.P (dz cfg.P Z w j mem v mem') ((execOp ρ o).run cfg.P w):=by
 unfold execOp;simp only[da]at h;cases hop:o.op<;>simp only[hop]at h |-<;>first|(cases h;done)|skip
 case move x =>
  cases hx:bB env x with
  |none=>grind
  |some a =>
   simp only[hx,bu]at h;split at h
   ·obtain⟨v1,hs1,h⟩:=omi.1 h;cases h;exact Qf s hs1 (hρ x _ hx)
   ·cases h;exact fB s (hρ x _ hx)
 case nilCheck x =>
  cases hx:bB env x with
  |none=>grind
  |some a =>
   simp only[hx,bu]at h;split at h
   ·rename_i hs;cases h;have hv:=hρ x _ hx;generalize ρ x=u at hv |-
    cases v<;>first|(simp[LZ]at hs;done)|skip
    ·have hv':=hv;cases hv;exact fB s hv'
    ·have hv':=hv;cases hv;exact fB s hv'
    ·have hv':=hv;cases hv;exact fB s hv'
   grind
 case assign x =>
  cases hx:bB env x with
  |none=>grind
  |some a =>
   simp only[hx,bu]at h;split at h
   ·obtain⟨v1,hs1,h⟩:=omi.1 h;cases h;exact Qf s hs1 (hρ x _ hx)
   have same:aA (a,mem)=aA (v,mem')->m5 cfg.P (dz cfg.P Z w j mem v mem') ((Pure.pure (Next.value (ρ x)):Sem Next).run cfg.P w):=by
    intro h;cases h;exact fB s (hρ x _ hx)
   cases a<;>simp only at h<;>first|exact same h|skip
   split at h
   ·grind
   ·split at h
    ·split at h
     ·rename_i e he hroom;cases h;have hv:=hρ x _ hx;cases hrx:ρ x<;>rw[hrx]at hv<;>cases hv;exact agF s (lI hroom).2.2.1
     grind
    grind
 case pick c a b =>
  cases hc:bB env c with
  |none=>grind
  |some vc =>
   cases ha:bB env a with
   |none=>grind
   |some va =>
    cases hb:bB env b with
    |none=>grind
    |some vb =>
     simp only[hc,ha,hb,bu]at h;have hv:=hρ c _ hc;cases vc<;>simp only at h<;>first|(cases h;done)|skip
     rename_i t;cases h;cases hrc:ρ c<;>rw[hrc]at hv<;>cases hv;simp only[asBool,Sem.run_bind,Sem.run_pure,Result.andThen_ok];cases t
     ·exact fB s (hρ b _ hb)
     ·exact fB s (hρ a _ ha)
 case alloc t =>
  cases hz:jm cfg.P t with
  |none=>grind
  |some z =>
   simp only[hz,bu]at h;split at h
   ·rename_i hc;split at h
    ·cases h;obtain⟨us,h1,h2⟩:=QX (w:=w) hz hc.1 hc.2;exact fe h1 ⟨Z,j,.junk,s.alloc _,br.alloc s _,bG.refl _⟩
    split at h
    ·cases h
    obtain⟨r,w1,h1,h2⟩:=WI s h hz hc.1 hc.2;exact fe h1 h2
   grind
 case box t x =>
  cases hx:bB env x with
  |none=>grind
  |some a =>
   simp only[hx,bu]at h;split at h
   ·cases h
   split at h
   ·rename_i hc;split at h
    ·cases h
    obtain⟨r,w1,h1,h2⟩:=Nv s h hc.1 hc.2 (hρ x _ hx);exact fe h1 h2
   grind
 case build t parts =>
  cases hps:cD (pU env) parts.toList with
  |none=>grind
  |some ps =>
   cases hb:C4 cfg.P t ps with
   |none=>grind
   |some r =>
    simp[hps,hb]at h;obtain⟨rfl,rfl⟩:=h;have hpr:=SF hρ parts.toList ps hps;obtain⟨r',h1,h2⟩:=Xh (P:=cfg.P) (qs:=parts.map λp=>(p.1,ρ p.2)) hb (by simpa using hpr);exact fe h1 (fB s h2)
 case buildSlice t len parts =>
  cases hps:cD (pU env) parts.toList with
  |none=>grind
  |some ps =>
   cases he:gh cfg.P t with
   |none=>grind
   |some e =>
    cases hl:tv 0 ps with
    |none=>grind
    |some els =>
     simp only[hps,he,hl,bu]at h;split at h
     ·rename_i hc;have hpr:=SF hρ parts.toList ps hps
      obtain⟨r',w1,h1,h2,h3⟩:=Xg (qs:=parts.map λp=>(p.1,ρ p.2)) s he hl hc.1 hc.2.1 hc.2.2.1 (by
       grind) (by simp_all)
      cases bx
      ·change aA (newRow mem e els 0)=_ at h;injection h with h
       rw[h]at h2;exact fe h1 h2
      ·change aA (V.lit e els,mem)=_ at h;cases h;exact fe h1 h3
     grind
 case load t a =>
  cases hx:bB env a with
  |none=>grind
  |some p =>
   cases hl:gD cfg.P mem t p with
   |none=>grind
   |some r =>
    simp only[hx,hl,bu,dy]at h;split at h
    ·cases h
    obtain⟨rfl,rfl⟩:=h;obtain⟨r',h1,h2⟩:=Rj s hl (hρ a _ hx);exact fe h1 (fB s h2)
 case store t a x =>
  cases hx:bB env a with
  |none=>grind
  |some p =>
   cases hy:bB env x with
   |none=>grind
   |some q =>
    simp only[hx,hy,bu]at h;split at h
    ·cases h
    cases hl:un cfg.P mem t p q with
    |none=>grind
    |some r =>
     simp[hl]at h;obtain⟨rfl,rfl⟩:=h;obtain⟨w1,h1,h2⟩:=aik s hl (hρ a _ hx) (hρ x _ hy);exact Sa h1 h2
 case binOp op t x y yt =>
  cases hx:bB env x with
  |none=>grind
  |some p =>
   cases hy:bB env y with
   |none=>grind
   |some q =>
    cases hl:nX cfg.P op t p q with
    |none=>grind
    |some r =>
     simp[hx,hy,hl]at h;obtain⟨rfl,rfl⟩:=h;obtain⟨r',h1,h2⟩:=W7 x y hl (hρ x _ hx) (hρ y _ hy);exact fe h1 (fB s h2)
 case unOp op t x =>
  cases hx:bB env x with
  |none=>grind
  |some p =>
   cases hl:F7 op p with
   |none=>grind
   |some r =>
    simp[hx,hl]at h;obtain⟨rfl,rfl⟩:=h;obtain⟨r',h1,h2⟩:=aiS (P:=cfg.P) hl (hρ x _ hx);exact fe h1 (fB s h2)
 case convert st d x =>
  cases hx:bB env x with
  |none=>grind
  |some p =>
   cases hl:po cfg.P (if dr then [] else mem) st d p with
   |none=>grind
   |some r =>
    simp only[hx,hl,bu,dy,Option.some.injEq,Prod.mk.injEq]at h;obtain⟨rfl,rfl⟩:=h;obtain⟨r',w1,h1,h2⟩:=XR (P:=cfg.P) s (by cases dr<;>simp) hl (hρ x _ hx);exact fe h1 h2
 case makeSlice t n c =>
  cases hx:bB env n with
  |none=>grind
  |some p =>
   cases hy:bB env c with
   |none=>grind
   |some q =>
    simp only[hx,hy,bu]at h;obtain⟨r',w1,h1,h2⟩:=adZ s h (hρ n _ hx) (hρ c _ hy);exact fe h1 h2
 case makeInterface t x =>
  cases hx:bB env x with
  |none=>grind
  |some p =>
   simp only[hx,bu,omi,Prod.mk.injEq]at h;obtain⟨r,hr,rfl,rfl⟩:=h;obtain⟨u,h1,h2⟩:=adV hr (hρ x _ hx);exact fe h1 (fB s h2)
 case typeAssert x t0 t ok =>
  cases hx:bB env x with
  |none=>grind
  |some p =>
   simp only[hx,bu,omi,Prod.mk.injEq]at h;obtain⟨r,hr,rfl,rfl⟩:=h;obtain⟨u,h1,h2⟩:=aiQ hr (hρ x _ hx);exact fe h1 (fB s h2)
 case slice t x lo hh mx =>
  cases hx:bB env x with
  |none=>grind
  |some p =>
   cases hl:lL cfg.P mem t p (lo.map (bB env)) (hh.map (bB env)) (mx.map (bB env))with
   |none=>grind
   |some r =>
    simp[hx,hl]at h;obtain⟨_,rfl,rfl⟩:=h;obtain⟨r',h1,h2⟩:=ahQ s hl (hρ x _ hx) (GU hρ lo) (GU hρ hh) (GU hρ mx);exact fe h1 (fB s h2)
 case fieldAddr st x f =>
  cases hx:bB env x with
  |none=>grind
  |some p =>
   cases hl:DU cfg.P st p f with
   |none=>grind
   |some r =>
    simp[hx,hl]at h;obtain⟨rfl,rfl⟩:=h;obtain⟨r',h1,h2⟩:=abq hl (hρ x _ hx);exact fe h1 (fB s h2)
 case field st x f =>
  cases hx:bB env x with
  |none=>grind
  |some p =>
   simp only[hx,bu]at h;cases p<;>simp only at h<;>first|(cases h;done)|skip
   rename_i cs;cases hf:xB cfg.P st f with
   |none=>grind
   |some r =>
    obtain⟨off,t⟩:=r;cases hl:rp cfg.P t cs off with
    |none=>grind
    |some r =>
     simp[hf,hl]at h;obtain⟨rfl,rfl⟩:=h;obtain⟨r',h1,h2⟩:=abr hf hl (hρ x _ hx);exact fe h1 (fB s h2)
 case indexAddr t x i =>
  cases hx:bB env x with
  |none=>grind
  |some p =>
   cases hy:bB env i with
   |none=>grind
   |some q =>
    cases hl:j8 cfg.P mem t p q with
    |none=>grind
    |some r =>
     simp[hx,hy,hl]at h;obtain⟨_,rfl,rfl⟩:=h;obtain⟨r',h1,h2⟩:=acH s hl (hρ x _ hx) (hρ i _ hy);exact fe h1 (fB s h2)
 case index t x i =>
  cases hx:bB env x with
  |none=>grind
  |some p =>
   cases hy:bB env i with
   |none=>grind
   |some q =>
    cases hl:qR cfg.P t p q with
    |none=>grind
    |some r =>
     simp[hx,hy,hl]at h;obtain⟨rfl,rfl⟩:=h;obtain⟨r',h1,h2⟩:=acK (P:=cfg.P) hl (hρ x _ hx) (hρ i _ hy);exact fe h1 (fB s h2)
 case extract t i =>
  cases hx:bB env t with
  |none=>grind
  |some p =>
   simp only[hx,bu]at h;cases p<;>simp only at h<;>first|(cases h;done)|skip
   rename_i vs;cases hg:vs[i]? with
   |none=>grind
   |some r =>
    simp[hg]at h;obtain⟨rfl,rfl⟩:=h;obtain⟨us,hu,hr⟩:=(hρ t _ hx).tupInv;obtain⟨u,hu2,hv2⟩:=hr.2 i _ hg;rw[hu];exact fe (s:=Instr.extract (.tuple us) i) (by simp[Instr.extract,hu2]) (fB s hv2)
 case makeFunc fn first caps =>
  cases fn<;>simp only at h<;>first|(cases h;done)|skip
  rename_i f;split at h
  ·rename_i hf;split at h;rotate_left
   ·cases h
   rename_i hfb;cases hm:cD (bB env) caps.toList with
   |none=>grind
   |some cs =>
    simp[hm]at h;obtain⟨rfl,rfl⟩:=h;have hL:=DR hρ hm
    have e1:first.map ρ=#[]:=by
     grind
    have e2:caps.map ρ=(caps.toList.map ρ).toArray:=Array.ext' (by simp);rw[e1,e2];have hv:=VR.fn (f:=f) hL.1 hL.2;rw[DY hfb]at hv;exact fe (s:=Instr.makeFunc (.func f) #[] (caps.toList.map ρ).toArray) rfl (fB s hv)
  ·split at h;rotate_left
   ·cases h
   rename_i hcp;cases hm:cD (bB env) first.toList with
   |none=>grind
   |some cs =>
    simp[hm]at h;obtain⟨rfl,rfl⟩:=h;have hL:=DR hρ hm
    have e1:caps.map ρ=#[]:=by
     grind
    have e2:first.map ρ=(first.toList.map ρ).toArray:=Array.ext' (by simp)
    rw[e1,e2];have hv:=VR.fn (f:=iU+f) hL.1 hL.2;rw[abC]at hv;exact fe (s:=Instr.makeFunc (.func f) (first.toList.map ρ).toArray #[]) rfl (fB s hv)
 case makeMap t r =>
  cases r<;>simp only at h<;>first|(cases h;done)|skip
  split at h
  ·split at h
   ·cases h
   ·obtain⟨r',w1,h1,h2⟩:=adX s (t:=t);rw[Option.some.inj h]at h2;exact fe h1 h2
  grind
 case lookup t m k ok =>
  cases hx:bB env m with
  |none=>grind
  |some p =>
   cases hy:bB env k with
   |none=>grind
   |some q =>
    simp only[hx,hy,bu]at h;cases hm:gO mem p with
    |none=>grind
    |some es =>
     simp only[hm,bu]at h;split at h
     ·rename_i hfit;cases he:xT cfg.P t with
      |none=>grind
      |some e =>
       cases hz:jm cfg.P e with
       |none=>grind
       |some z =>
        cases hf:gj es q with
        |none=>grind
        |some r =>
         simp only[he,hz,hf,bu,dy]at h;cases h;obtain⟨r',h1,h2⟩:=adJ (ok:=ok) s hm hfit he hz hf (hρ m _ hx) (hρ k _ hy);exact fe h1 (fB s h2)
     grind
 case mapUpdate t m k x =>
  cases hx:bB env m with
  |none=>grind
  |some p =>
   cases hy:bB env k with
   |none=>grind
   |some q =>
    cases hz:bB env x with
    |none=>grind
    |some y =>
     simp only[hx,hy,hz,bu]at h;cases hm:gO mem p with
     |none=>grind
     |some es =>
      simp only[hm,bu]at h;split at h
      ·rename_i hc;cases hf:kg es q y with
       |none=>grind
       |some out =>
        simp[hf]at h;obtain⟨rfl,rfl⟩:=h;obtain⟨w1,h1,h2⟩:=aiZ s hm hc.1 hc.2 hf (hρ m _ hx) (hρ k _ hy) (hρ x _ hz);exact Sa h1 h2
      grind
 case call c =>
  cases hcal:c.callee<;>simp only[hcal]at h<;>first|(cases h;done)|skip
  case builtin b =>
   cases ha:cD (bB env) c.args.toList with
   |none=>grind
   |some args =>
    simp only[ha,bu]at h;split at h
    ·cases h
    have hL:=DR hρ ha;have:=Xi (ty:=o.type) (consts:=c.args.map λ|.const _=>aD|_=>aE) s h hL;have e2:c.args.map ρ=(c.args.toList.map ρ).toArray:=Array.ext' (by simp);simp only[resolve,hcal,Sem.run_bind,Sem.run_pure,Result.andThen_ok,invoke,e2];grind
  case value f =>
   cases hf:bB env f with
   |none=>grind
   |some fv =>
    cases ha:cD (bB env) c.args.toList with
    |none=>grind
    |some args =>
     simp only[hf,ha,bu]at h;cases fv<;>simp only at h<;>first|(cases h;done)|skip
     rename_i fid caps;have hL:=DR hρ ha;have hfv:=hρ f _ hf
     obtain⟨us,hrf,hl,hh⟩:∃us:List aR,ρ f=pA fid us/\gz Z w j caps us:=by
      generalize ρ f=uf at hfv;cases hfv;exact⟨_,rfl,‹_›,‹_›⟩
     have e2:c.args.map ρ=(c.args.toList.map ρ).toArray:=Array.ext' (by simp);split at h
     ·rename_i hfb;split at h
      ·cases h
      obtain⟨bC,hcall⟩:=GZ hp hi s h (gz.append ⟨hl,hh⟩ hL);rw[abD hfb]at hrf;simp only[resolve,hcal,hrf,Deferred.ofValue,Sem.run_bind,Sem.run_pure,Result.andThen_ok,invoke,e2];have e3:(us.toArray++(c.args.toList.map ρ).toArray++#[]:Array aR)=(us++c.args.toList.map ρ).toArray:=by simp
      rw[e3,TT bC];exact hcall
     rename_i hfb;rw[DY (Nat.lt_of_not_le hfb)]at hrf
     have both:l9 cfg.P fid=aD/\fQ cfg.P fid (c.args.toList.map ρ++us).toArray w λe w1=>∃u,e = .returned u/\dz cfg.P Z w j mem v mem' u w1:=by
      split at h
      ·split at h
       ·rename_i hfr;simp only[cT]at hfr;exact⟨hfr.2,abO hi s h hfr.2 (hL.append ⟨hl,hh⟩)⟩
       grind
      ·exact GZ hp hi s h (hL.append ⟨hl,hh⟩)
     obtain⟨bC,hcall⟩:=both;simp only[resolve,hcal,hrf,Deferred.ofValue,Sem.run_bind,Sem.run_pure,Result.andThen_ok,invoke,e2];have e3:(#[]++(c.args.toList.map ρ).toArray++us.toArray:Array aR)=(c.args.toList.map ρ++us).toArray:=by simp
     rw[e3,TT bC];exact hcall
def RA{env:List V}{ρ:fD->aR}(hρ:∀x v,bB env x=aA v->VR Z w j v (ρ x)):∀x v,bB (tB env) x=aA v->VR Z w j0 v (ρ x):=by
 intro x v h;have hr:qz (λ_=>aF) j j0:=λi k h=>by cases h
 cases x with
 |tmp t =>
  simp only[bB,tB,gy,omi]at h;obtain⟨v0,h0,rfl⟩:=h;exact(hρ (.tmp t) v0 h0).ren2 hr
 |const c =>
  have h1:=hρ (.const c) v h;simp only[bB]at h;have h2:=h1.ren2 hr
  have e:Lite.ren2 (λ_=>aF) v=v:=by
   unfold pn at h;split at h<;>first|(cases h;rfl)|(cases h;done)|skip
   split at h<;>cases h;rfl
  grind
 |global g=>simp[bB]at h
 |func f =>
  have h1:=hρ (.func f) v h;simp only[bB]at h;cases hfb:jq f iU<;>rw[hfb]at h<;>cases h;have h2:=h1.ren2 hr;exact h2
def Sj{cfg:cB}{call:dw}(hp:iO cfg.P call.pc)(hi:gH cfg.P call.ic){dr:Bool}{o:dU}{g:Option (Nat × Bool)}{bx sq rx:Bool}{env:List V}{ρ:fD->aR}{v:V}
  (s:SR cfg.P Z w j mem) (hρ:∀x v,bB env x=aA v->VR Z w j v (ρ x)) (h:eB cfg call dr ⟨o.dst,o.op,o.type,g,bx,sq,rx⟩ env mem=aA (v,mem')) :
  m5 cfg.P (dz cfg.P Z w j mem v mem') ((execOp ρ o).run cfg.P w):=by
 unfold eB at h;split at h;rotate_left
 ·exact JG hp hi s hρ h
 cases ho:da cfg call aD ⟨o.dst,o.op,o.type,g,bx,sq,rx⟩ (tB env) []with
 |none=>grind
 |some r =>
  obtain⟨v1,m1⟩:=r;simp only[ho,bu]at h;have s0:SR cfg.P Z w j0 []:=⟨λid o h=>by grind,λid id' o o' g h=>by grind,λ_ _=>rfl,s.zin⟩
  cases m1 with
  |cons q qs =>
   simp only[omi]at h;obtain⟨v2,hsn,h⟩:=h;cases h;have key:=JG hp hi s0 (RA hρ) ho
   have imp:∀u w1,dz cfg.P Z w j0 [] v1 (q::qs) u w1->dz cfg.P Z w j mem v mem u w1:=by
    rintro u w1 ⟨Z1,j1,hv,s1,st,je⟩
    have no:∀g,¬bT Z j0 [] g:=by
     rintro g ⟨id,o,ho,_⟩;grind
    have za:Z1.a=Z.a:=funext λt=>(st.ar t λid o n ho=>by grind).2
    obtain⟨sf,_⟩:=vj (iG (q::qs) v1) Z1 (q::qs) s1;have hv2:=BJ s1 hsn (ids:=iG (q::qs) v1) (λi hi=>hi) hv;have hz2:bU Z w (dR Z1 (Fz cfg.P j1 (q::qs) (iG (q::qs) v1))) w1:=st.z.trans (bU.or _ _ _)
    have hz3:∀g,g < w.heap.size->∀o,dR Z1 (Fz cfg.P j1 (q::qs) (iG (q::qs) v1)) g o↔Z g o:=λg hg o=>⟨λh=>by
     rcases h with h|⟨id,_,h2,h3⟩
     ·exact((st.keep g hg (no g)).2 o).1 h
     ·exact fY (st.owned g hg (pR s1 h2 h3)) (no g),λh=>.inl (((st.keep g hg (no g)).2 o).2 h)⟩
    refine⟨_,j,hv2.mono (bU.refl _ _) (bG.zero _),s.world hz2 (λg hg=>⟨(st.keep g (bT.lt s hg) (no g)).1,hz3 g (bT.lt s hg)⟩) sf.zin za,
     ⟨st.os,st.tape,st.output,st.size,λg hg _=>⟨(st.keep g hg (no g)).1,hz3 g hg⟩,λ_ _ ho=>(bT.eqA za).1 ho,hz2,λt h=>⟨h,congrFun za t⟩⟩,bG.refl _⟩
   revert key;unfold m5;split
   ·grind
   ·grind
   ·intro h;exact h.mono λe w1 hx=>by
     grind
   grind
  |nil =>
   cases h;have key:=JG hp hi s0 (RA hρ) ho
   have imp:∀u w1,dz cfg.P Z w j0 [] v [] u w1->dz cfg.P Z w j mem v mem u w1:=by
    rintro u w1 ⟨Z1,j1,hv,s1,st,je⟩;have hj1:∀id,j1 id=none:=λid=>s1.out id (kz _)
    have no:∀g,¬bT Z j0 [] g:=by
     rintro g ⟨id,o,ho,_⟩;grind
    have za:Z1.a=Z.a:=funext λt=>(st.ar t λid o n ho=>by grind).2
    have hv':VR Z1 w1 j v u:=hv.mono (bU.refl _ _) λid h e=>by grind
    refine⟨Z1,j,hv',s.world st.z (λg hg=>st.keep g (bT.lt s hg) (no g)) s1.zin za,⟨st.os,st.tape,st.output,st.size,λg hg _=>st.keep g hg (no g),λ_ _ ho=>(bT.eqA za).1 ho,st.z,λt h=>⟨h,congrFun za t⟩⟩,bG.refl _⟩
   revert key;unfold m5;split
   ·grind
   ·grind
   ·intro h;exact h.mono λe w1 hx=>by
     grind
   grind
end
section
variable {P:bv}{Z Z':Zs}{w w':bg}{j j':J}{mem mem':List O}
structure St(Z:Zs)(w:bg)(j:J)(env:List V)(a:Act):Prop where
 len:a.tmps.size=env.length
 val:∀(i:Nat) (v:V),env[i]? = aA v->∃u,a.tmps[i]? = aA u/\VR Z w j v u
def St.mono{env:List V}{a:Act}(s:St Z w j env a)(hz:bU Z w Z' w')(hj:bG j j'):St Z' w' j' env a :=
 ⟨s.len,λi v h=>let ⟨u,h1,h2⟩:=s.val i v h;⟨u,h1,h2.mono hz hj⟩⟩
def St.eval{env:List V}{a:Act}(s:St Z w j env a):∀x v,bB env x=aA v->VR Z w j v (a.eval x):=by
 intro x v h;cases x with
 |tmp t =>
  simp only[bB]at h;obtain⟨u,h1,h2⟩:=s.val t v h;simp[Act.eval,h1,lP];grind
 |const c =>
  simp only[bB]at h;exact G6 h
 |global g=>simp[bB]at h
 |func f =>
  simp only[bB]at h;cases hfb:jq f iU<;>rw[hfb]at h<;>cases h;have hv:VR Z w j (.fn f []) (pA f []):=.fn (us:=[]) rfl λi c u hc=>by grind
  rw[DY (oY ▸ hfb)]at hv;exact hv
def St.put{env:List V}{a:Act}(s:St Z w j env a)(d:Option Nat){v:V}{u:aR}(hv:VR Z w j v u):St Z w j (fH env d v) (a.put d u):=by
 cases d with
 |none=>exact s
 |some d =>
  refine⟨by simp[fH,Act.put,s.len],λi x hx=>?_⟩;simp only[fH,Act.put]at hx |-
  rw[Mp]
  by_cases e:d=i
  ·subst e
   have bf:d < env.length:=by
    grind
   rw[jn bf]at hx;cases hx;exact⟨u,by rw[bc rfl,bc (by rw[s.len];grind)],hv⟩
  ·rw[iM e]at hx;rw[bh e];exact s.val i x hx
def uI(ops:Array dU)(o:dU)(q:bz):Prop :=
 ∃g bx sq rx,q=⟨o.dst,o.op,o.type,g,bx,sq,rx⟩/\((o.guard=aF/\g=aF)∨∃k want d,o.guard=aA (k,want)/\(ops[k]?).bind (·.dst)=aA d/\g=aA (d,want))
def oZ(ops:Array dU)(opers:List dU)(l:List bz):Prop :=
 l.length=opers.length/\∀(k:Nat) (o:dU) (q:bz),opers[k]? = aA o->l[k]? = aA q->uI ops o q
def afl{ops:Array dU}{o:dU}{q:bz}(h:Ba ops o=aA q):uI ops o q:=by
 unfold Ba at h;split at h
 ·rename_i hg;cases h;exact⟨aF,_,_,_,rfl,.inl ⟨hg,rfl⟩⟩
 ·rename_i k want hg;cases hd:(ops[k]?).bind (·.dst)with
  |none=>grind
  |some d=>simp[hd]at h;subst h;exact⟨_,_,_,_,rfl,.inr ⟨k,want,d,hg,hd,rfl⟩⟩
def afp{ops:Array dU}{opers:List dU}{l:List bz}(h:cD (Ba ops) opers=aA l):oZ ops opers l:=by
 obtain⟨h1,h2⟩:=kY h;refine⟨h1,λk o q ho hq=>?_⟩;obtain⟨o',ho',hp⟩:=h2 k q hq;rw[ho]at ho';cases ho';exact afl hp
def Xc{ops:Array dU}{o:dU}{q:bz}(pr:Nat->Bool)(h:uI ops o q):uI ops o (C2 pr q):=by
 obtain⟨g,bx,sq,rx,rfl,hg⟩:=h;unfold C2;split
 ·rename_i d _ _;cases pr (5000000+d)
  ·exact⟨g,bx,sq,rx,rfl,hg⟩
  ·exact⟨g,bx,sq,aD,rfl,hg⟩
 ·rename_i d _ _;cases pr (7000000+d)
  ·exact⟨g,bx,sq,rx,rfl,hg⟩
  ·exact⟨g,aD,sq,rx,rfl,hg⟩
 ·rename_i d _ _;cases pr (7000000+d)
  ·exact⟨g,bx,sq,rx,rfl,hg⟩
  ·exact⟨g,aD,sq,rx,rfl,hg⟩
 ·rename_i d _ _;cases pr (7000000+d)
  ·exact⟨g,bx,sq,rx,rfl,hg⟩
  ·exact⟨g,aD,sq,rx,rfl,hg⟩
 ·exact⟨g,bx,sq,rx,rfl,hg⟩
def afm{ops:Array dU}{opers:List dU}{l:List bz}(pr:Nat->Bool)(h:oZ ops opers l):oZ ops opers (l.map (C2 pr)):=by
 refine⟨by rw[gm];exact h.1,λk o q ho hq=>?_⟩;rw[gy,omi]at hq;obtain⟨q0,hq0,rfl⟩:=hq;exact Xc pr (h.2 k o q0 ho hq0)
def P7:∀(l:List bz) (fs:List (Bool × Bool × Bool)),(og l fs).length=l.length/\∀(k:Nat) (q:bz),(og l fs)[k]? = aA q->∃q0 bx sq rx,l[k]? = aA q0/\q=⟨q0.dst,q0.op,q0.type,q0.guard,bx,sq,rx⟩/\(q0.bx=aD->bx=aD)
 | [],fs=>⟨by cases fs<;>rfl,λk q h=>by cases fs<;>simp[og]at h⟩
 |q::l,[]=>⟨rfl,λk q h=>⟨q,q.bx,q.sq,q.rx,h,rfl,id⟩⟩
 |q::l,x::fs=>by
  obtain⟨h1,h2⟩:=P7 l fs;refine⟨by simp[og,h1],λk p hp=>?_⟩;cases k with
  |zero=>simp[og]at hp;grind
  |succ k=>exact h2 k p (by simpa[og]using hp)
def Wq(o:dU)(q:bz):Prop:=∃T d x ty sq rx,o.op = .store T (.tmp d) x/\o.dst=aF/\o.guard=aF/\q=⟨aA d,.box T x,ty,aF,aD,sq,rx⟩
def MS(ops:Array dU)(o:dU)(q:bz):Prop:=uI ops o q∨Wq o q
def nT(ops:Array dU)(opers:List dU)(l:List bz):Prop :=
 l.length=opers.length/\∀(k:Nat) (o:dU) (q:bz),opers[k]? = aA o->l[k]? = aA q->MS ops o q
def oZ.drawn{ops:Array dU}{opers:List dU}{l:List bz}(h:oZ ops opers l):nT ops opers l:=⟨h.1,λk o q h1 h2=>.inl (h.2 k o q h1 h2)⟩
def afo{ops:Array dU}{opers:List dU}{l:List bz}(h:oZ ops opers l):nT ops opers (AI l):=by
 refine⟨by simp[AI,h.1],λk o q ho hq=>?_⟩;unfold AI at hq;rw[gy]at hq;cases hl:l[k]? with
 |none=>grind
 |some q0 =>
  simp only[hl,dy,Option.some.injEq]at hq;have hp:=h.2 k o q0 ho hl;subst hq;obtain⟨g,bx,sq,rx,rfl,hg⟩:=id hp;unfold QW;simp only;split
  ·split
   ·rename_i hop _ d hd;cases hc:Eo l d _ with
    |true=>exact .inl ⟨g,aD,sq,rx,by grind,hg⟩
    |false=>exact .inl hp
   ·exact .inl hp
  ·rename_i T d y hop;cases hc:(Eo l d T && g.isNone && o.dst.isNone)with
   |true =>
    simp only[cT,Gz]at hc;obtain⟨⟨_,hgn⟩,hdn⟩:=hc;refine .inr ⟨T,d,y,_,sq,rx,hop,hdn,?_,rfl⟩;grind
   |false=>exact .inl hp
  ·exact .inl hp
def afn{ops:Array dU}{opers:List dU}{l:List bz}(h:nT ops opers l)(fs:List (Bool × Bool × Bool)):nT ops opers (og l fs):=by
 obtain⟨h1,h2⟩:=P7 l fs;refine⟨h1.trans h.1,λk o q ho hq=>?_⟩;obtain⟨q0,bx,sq,rx,hq0,rfl,hbx⟩:=h2 k q hq;rcases h.2 k o q0 ho hq0 with⟨g,_,_,_,rfl,hg⟩|⟨T,d,x,ty,sq0,rx0,e1,e2,e3,rfl⟩
 ·exact .inl ⟨g,bx,sq,rx,rfl,hg⟩
 ·have hb:bx=true:=hbx rfl;subst hb;exact .inr ⟨T,d,x,ty,sq,rx,e1,e2,e3,rfl⟩
def aiO{ops:Array dU}{opers:List dU}{l l':List bz}(h:oZ ops opers l):∀(r:List (Nat × Bool)),BP ops l r=aA l'->nT ops opers l'/\xq ops l'=true:=by
 intro r
 induction r with
 |nil=>intro h;cases h
 |cons x r ih =>
  obtain⟨m,lz⟩:=x;intro h';unfold BP at h'
  have key:∀l0,nT ops opers l0->(if xq ops (og l0 (Iy m l0 (kD ops.toList [])))=aD then aA (og l0 (Iy m l0 (kD ops.toList []))) else BP ops l r)=aA l'->nT ops opers l'/\xq ops l'=true:=by
   intro l0 h0 h';split at h'
   ·rename_i hd;cases h';exact⟨afn h0 _,hd⟩
   grind
  cases lz
  ·exact key l h.drawn h'
  ·exact key (AI l) (afo h) h'
def St.fill{env:List V}{a:Act}(s:St Z w j env a){d:Nat}{v:V}{u:aR}(hu:a.tmps[d]? = aA u)(hv:VR Z w j v u):St Z w j (env.set d v) a:=by
 refine⟨by simp[s.len],λi x hx=>?_⟩
 by_cases e:d=i
 ·grind
 ·rw[iM e]at hx;exact s.val i x hx
def F9{ops:Array dU}{o:dU}{q:bz}{env:List V}{a:Act}{b:Bool}(h:uI ops o q)(s:St Z w j env a)(hw:fI env q.guard=aA b):Region.wanted o (yielded ops a.tmps)=b:=by
 obtain⟨g,_,_,_,rfl,hg⟩:=h;rcases hg with⟨h1,rfl⟩|⟨k,want,d,h1,h2,rfl⟩
 ·simp[fI]at hw;subst hw;simp[Region.wanted,h1]
 ·simp only[fI]at hw
  have hy:yielded ops a.tmps k=match a.tmps[d]? with|some (.bool b)=>aA b|_=>none:=by
   simp only[yielded,h2,bu];rfl
  simp only[Region.wanted,h1,hy];split at hw
  ·rename_i b0 he;obtain⟨u,hu,hv⟩:=s.val d _ he;cases hv;simp_all
  ·rename_i he;obtain⟨u,hu,hv⟩:=s.val d _ he;cases hw;rw[hu];cases hv;rfl
  grind
structure gT(l:List bz)(a a':Act):Prop where
 defs:a'.defers=a.defers
 size:a'.tmps.size=a.tmps.size
 tmps:∀i,(∀o∈l,o.dst≠aA i)->a'.tmps[i]? = a.tmps[i]?
def gT.refl(l:List bz)(a:Act):gT l a a:=⟨rfl,rfl,λ_ _=>rfl⟩
def gT.put{l:List bz}{a a':Act}{o:bz}(h:gT l a a')(ho:o∈l)(u:aR):gT l a (a'.put o.dst u):=by
 obtain⟨h1,h0,h2⟩:=h;cases hd:o.dst with
 |none=>exact⟨h1,h0,h2⟩
 |some d =>
  refine⟨h1,?_,λi hi=>?_⟩
  ·show(a'.tmps.setIfInBounds d u).size=_;grind
  have:d≠i:=λe=>hi o ho (by grind)
  show(a'.tmps.setIfInBounds d u)[i]? = _;grind
def gT.cons{l:List bz}{o:bz}{a a1 a':Act}{u:aR}(h:gT l (a.put o.dst u) a'):gT (o::l) a a':=by
 have h0:=(gT.refl (o::l) a).put (o:=o) (by simp) u;exact⟨h.1.trans h0.1,h.2.trans h0.2,λi hi=>(h.3 i λq hq=>hi q (by grind)).trans (h0.3 i hi)⟩
abbrev FR(r:Option Nat):Fence:={ Fence.wide with round:=r }
def NB{r:Option Nat}{n:Nat}{P:bv}{f:cf}{args:Array aR}{w:bg}{R:Ending->bg->Prop}(h:fQ P f args w R):CallsIn (FR r) n P f args w R:=by
 have h1:CallsIn Fence.wide n P f args w R:=callsIn_wide.2 h;cases r with
 |none=>exact h1
 |some l=>exact h1.inRound l
def m5.uponIn{o:dU}{a:Act}{next:Act->bg->Prop}{Q:Exit->Act->bg->Prop}{Post:aR->bg->Prop}{res:Result Next}{r:Option Nat}{n:Nat}
  (h:m5 P Post res) (hn:∀u w',Post u w'->next (a.put o.dst u) w'):o.uponIn (FR r) n P a next Q res:=by
 cases res with
 |ok x w1 =>
  cases x<;>first|exact h.elim|skip
  case value u=>exact hn _ _ h
  case skip=>exact hn _ _ h
  case enter f args=>exact⟨λe=>(by cases e),NB (Calls.mono h λe w'' ⟨u,he,hp⟩=>by grind)⟩
 |halt x w1=>exact h.elim
def Se{cfg:cB}{call:dw}{dr:Bool}{o:bz}{env:List V}{mem:List O}{v:V}{m:List O}(h:da cfg call dr o env mem=aA (v,m)):∀c,o.op≠.defer c:=by
 intro c e;simp[da,e]at h
def JF{cfg:cB}{call:dw}{dr:Bool}{o:bz}{env:List V}{mem:List O}{v:V}{m:List O}(h:eB cfg call dr o env mem=aA (v,m)):∀c,o.op≠.defer c:=by
 unfold eB at h;split at h
 ·simp only[obi]at h;obtain⟨⟨v1,m1⟩,h1,_⟩:=h;exact Se h1
 ·exact Se h
def A4{o:dU}{a:Act}{w:bg}{next:Act->bg->Prop}{Q:Exit->Act->bg->Prop}{Post:aR->bg->Prop}{r:Option Nat}{n:Nat}(hd:∀c,o.op≠.defer c)
  (h:m5 P Post ((execOp a.eval o).run P w)) (hn:∀u w',Post u w'->next (a.put o.dst u) w'):o.wpIn (FR r) n P a w next Q:=by
 refine⟨λ_ _=>trivial,?_⟩;rw[Oper.semAt_eq _ _ _ hd];exact h.uponIn hn
def ze(P:bv)(Z:Zs)(w:bg)(j:J)(mem:List O)(s':S)(a:Act)(w':bg):Prop :=
 ∃Z' j',St Z' w' j' s'.env a/\SR P Z' w' j' s'.mem/\br Z w j mem Z' w' j' s'.mem/\bG j j'
def ae0{r:Option Nat}{n:Nat}{cfg:cB}{call:dw}(hp:iO cfg.P call.pc)(hi:gH cfg.P call.ic){ops:Array dU}{Q:Exit->Act->bg->Prop}{dr:Bool} :
  ∀(opers:List dU) (l:List bz) (env:List V) (mem:List O) (s':S) (a:Act) (w:bg) (Z:Zs) (j:J),oZ ops opers l->ib cfg call dr l ⟨env,mem⟩=aA s'->St Z w j env a->SR cfg.P Z w j mem ->
   (∀a' w',ze cfg.P Z w j mem s' a' w'->gT l a a'->Q .normal a' w')->wpListIn (FR r) n cfg.P ops Q opers a w:=by
 intro opers
 induction opers with
 |nil =>
  intro l env mem s' a w Z j hl h st sr hQ;have:l=[]:=wL hl.1;subst this;simp[ib]at h;subst h;exact hQ a w ⟨Z,j,st,sr,br.refl _ _ _ _,bG.refl _⟩ (gT.refl _ _)
 |cons o opers ih =>
  intro l env mem s' a w Z j hl h st sr hQ;cases l with
  |nil=>have:=hl.1;grind
  |cons q rest =>
   have hq:=hl.2 0 o q rfl rfl;have hr:oZ ops opers rest:=⟨by have:=hl.1;grind,λk o' q' h1 h2=>hl.2 (k+1) o' q' (by grind) (by grind)⟩
   simp only[ib]at h;cases hw:fI env q.guard with
   |none=>grind
   |some b =>
    have hwt:=F9 hq st hw;obtain⟨g,bx,sq,rx,rfl,_⟩:=hq;simp only[wpListIn,hwt];cases b
    ·simp[hw]at h;rw[bh (by simp)];exact⟨λ_ _=>trivial,ih rest _ mem s' _ w Z j hr h (st.put o.dst (.tup (us:=[]) rfl λi c u hc=>by grind)) sr λa' w' h1 h2=>hQ a' w' h1 (gT.cons (a1:=a) (o:=⟨o.dst,o.op,o.type,g,bx,sq,rx⟩) h2)⟩
    ·simp only[hw,bu,dv]at h;rw[bc rfl];cases ho:eB cfg call (fc dr ⟨o.dst,o.op,o.type,g,bx,sq,rx⟩) ⟨o.dst,o.op,o.type,g,bx,sq,rx⟩ env mem with
     |none=>grind
     |some r =>
      obtain⟨v,m⟩:=r;simp only[ho,bu]at h;have hop:=Sj hp hi sr st.eval ho;refine A4 (JF ho) hop ?_;rintro u w1 ⟨Z1,j1,hv,s1,stp,je⟩;refine ih rest _ m s' _ w1 Z1 j1 hr h ((st.mono stp.z je).put o.dst hv) s1 λa' w' ⟨Z2,j2,h1,h2,h3,h4⟩ hk=>hQ a' w' ⟨Z2,j2,h1,h2,stp.trans h3,je.trans h4⟩ (gT.cons (a1:=a) (o:=⟨o.dst,o.op,o.type,g,bx,sq,rx⟩) hk)
def af2{r:Option Nat}{n:Nat}{cfg:cB}{call:dw}(hp:iO cfg.P call.pc)(hi:gH cfg.P call.ic){ops:Array dU}{Q:Exit->Act->bg->Prop}{id:Nat}{l:List bz}{env:List V}{s':S}{a:Act}
  (hl:oZ ops ops.toList l) (h:ib cfg call aE l ⟨env,mem⟩=aA s') (st:St Z w j env a) (sr:SR cfg.P Z w j mem) (hQ:∀a' w',ze cfg.P Z w j mem s' a' w'->gT l a a'->Q .normal a' w') :
  (Code.region id ops aE).wpIn (FR r) n cfg.P Q a w :=
 wpIn_region_list (ae0 hp hi ops.toList l env mem s' a w Z j hl h st sr hQ)
end
section
variable {P:bv}{Z Z':Zs}{w w':bg}{j j':J}{mem mem':List O}
def lq(cfg:cB)(call:dw)(o:bz)(s:S)(v:V)(s':S):Prop :=
 (fI s.env o.guard=aA aD/\eB cfg call (fc aD o) o s.env s.mem=aA (v,s'.mem)/\s'.env=fH s.env o.dst v) ∨
 (fI s.env o.guard=aA aE/\v = .tup []/\s'.mem=s.mem/\s'.env=fH s.env o.dst v)
def aiK{cfg:cB}{call:dw}:∀(l:List bz) (s s':S),ib cfg call aD l s=aA s' ->
  ∃(vs:Nat->V) (st:Nat->S),st 0=s/\st l.length=s'/\∀(k:Nat) (o:bz),l[k]? = aA o->lq cfg call o (st k) (vs k) (st (k+1)):=by
 intro l
 induction l with
 |nil=>intro s s' h;simp[ib]at h;subst h;exact⟨λ_=>.junk,λ_=>s,rfl,rfl,λk o h=>by grind⟩
 |cons o l ih =>
  intro s s' h;simp only[ib]at h
  have fin:∀(v:V) (s1:S),lq cfg call o s v s1->ib cfg call aD l s1=aA s'->∃(vs:Nat->V) (st:Nat->S),st 0=s/\st (o::l).length=s'/\∀(k:Nat) (q:bz),(o::l)[k]? = aA q->lq cfg call q (st k) (vs k) (st (k+1)):=by
   intro v s1 h1 h2;obtain⟨vs,st,e0,e1,e2⟩:=ih s1 s' h2;refine⟨λk=>match k with|0=>v|k+1=>vs k,λk=>match k with|0=>s|k+1=>st k,rfl,e1,λk q hq=>?_⟩;grind
  cases hw:fI s.env o.guard with
  |none=>grind
  |some b =>
   cases b
   ·simp[hw]at h;exact fin (.tup []) ⟨fH s.env o.dst (.tup []),s.mem⟩ (.inr ⟨hw,rfl,rfl,rfl⟩) h
   ·simp only[hw,bu,dv]at h;cases ho:eB cfg call (fc aD o) o s.env s.mem with
    |none=>grind
    |some r =>
     obtain⟨v,m⟩:=r;simp only[ho,bu]at h;exact fin v _ (.inl ⟨hw,ho,rfl⟩) h
def u6{e1 e2:List V}{x:fD}(h:∀t,x = .tmp t->e1[t]? = e2[t]?):bB e1 x=bB e2 x:=by
 cases x<;>simp[bB];grind
def DO{e1 e2:List V}{l:List fD}(h:∀x∈l,bB e1 x=bB e2 x):cD (bB e1) l=cD (bB e2) l:=by
 induction l with
 |nil=>rfl
 |cons x l ih=>simp only[cD];grind
def SE{e1 e2:List V}{l:List (Nat × fD)}(h:∀p∈l,bB e1 p.2=bB e2 p.2):cD (pU e1) l=cD (pU e2) l:=by
 induction l with
 |nil=>rfl
 |cons x l ih=>simp only[cD,pU];grind
def Sc{cfg:cB}{call:dw}{dr:Bool}{o:bz}{e1 e2:List V}(h:∀x∈o.op.operands,bB e1 x=bB e2 x)(m:List O):da cfg call dr o e1 m=da cfg call dr o e2 m:=by
 have om:∀(x:Option fD),(∀y,x=aA y->bB e1 y=bB e2 y)->x.map (bB e1)=x.map (bB e2):=by
  intro x hx;cases x with
  |none=>rfl
  |some y=>simp[hx y rfl]
 simp only[da];cases hop:o.op<;>simp only[hop,Op.operands,Call.operands]at h |-
 case build t ps =>
  rw[SE (e1:=e1) (e2:=e2) λp hp=>h p.2 (by simp;exact⟨p.1,by simpa using hp⟩)]
 case buildSlice t n ps =>
  rw[SE (e1:=e1) (e2:=e2) λp hp=>h p.2 (by simp;exact⟨p.1,by simpa using hp⟩)]
 case makeFunc fn first caps =>
  cases fn<;>simp only;rw[DO (l:=caps.toList) (e1:=e1) (e2:=e2) λx hx=>h x (by simp;exact .inr (by simpa using hx)),DO (l:=first.toList) (e1:=e1) (e2:=e2) λx hx=>h x (by simp;exact .inl (by simpa using hx))]
 case slice t x lo hi mx =>
  rw[h x (by simp),om lo λy hy=>h y (by simp[hy]),om hi λy hy=>h y (by simp[hy]),om mx λy hy=>h y (by simp[hy])]
 case call c =>
  cases hc:c.callee<;>simp only[hc]at h |-
  ·rename_i f;rw[h f (by simp),DO (e1:=e1) (e2:=e2) λx hx=>h x (by simp;exact .inr (by simpa using hx))]
  ·rw[DO (e1:=e1) (e2:=e2) λx hx=>h x (by simpa using hx)]
 case makeMap t r=>cases r<;>simp
 all_goals first
  |rfl
  |(simp at h;simp[h];done)
  |(simp at h;obtain⟨h1,h2⟩:=h;rw[h1,h2])
  |(simp at h;obtain⟨h1,h2,h3⟩:=h;rw[h1,h2,h3])
  |(simp at h;rw[h])
def RZ{cfg:cB}{call:dw}{o:bz}{env:List V}{v:V}(hw:k8 o.op=aE)(hcb:gi o.op=aD->o.bx=aE)(h:da cfg call aD o env mem=aA (v,mem')):mem'=mem:=by
 simp only[da]at h;cases hop:o.op<;>simp only[hop,k8]at h hw<;>first|(cases h;done)|(cases hw;done)|skip
 case move x =>
  cases hx:bB env x with
  |none=>simp[hx]at h
  |some a =>
   simp only[hx,bu,cN,nO,d5,ej]at h;cases h;rfl
 case assign x =>
  cases hx:bB env x with
  |none=>simp[hx]at h
  |some a =>
   simp only[hx,bu,cN,nO,d5,ej]at h;cases a<;>simp at h<;>exact h.2.symm
 case load t a =>
  simp only[obi]at h;obtain⟨p,_,h⟩:=h;split at h
  ·cases h
  ·simp only[omi]at h;obtain⟨_,_,h⟩:=h;cases h;rfl
 case nilCheck x =>
  simp only[obi]at h;obtain⟨p,_,h⟩:=h;split at h
  ·cases h;rfl
  ·cases h
 case pick c a b =>
  cases hc:bB env c with
  |none=>simp[hc]at h
  |some vc =>
   cases ha:bB env a with
   |none=>simp[hc,ha]at h
   |some va =>
    cases hb:bB env b with
    |none=>simp[hc,ha,hb]at h
    |some vb =>
     simp only[hc,ha,hb,bu]at h;cases vc<;>simp at h;exact h.2.symm
 case makeFunc fn first caps =>
  cases fn<;>simp only at h<;>first|(cases h;done)|skip
  repeat' split at h
  all_goals first|(cases h;done)|(simp only[omi]at h;obtain⟨_,_,h⟩:=h;cases h;rfl)
 case field st x f =>
  cases hx:bB env x with
  |none=>simp[hx]at h
  |some p =>
   simp only[hx,bu]at h;cases p<;>simp only at h<;>first|(cases h;done)|skip
   simp only[obi,omi]at h;obtain⟨_,_,_,_,h⟩:=h;cases h;rfl
 case extract t i =>
  cases hx:bB env t with
  |none=>simp[hx]at h
  |some p =>
   simp only[hx,bu]at h;cases p<;>simp only at h<;>first|(cases h;done)|skip
   simp only[omi]at h;obtain⟨_,_,h⟩:=h;cases h;rfl
 case lookup t m k ok =>
  cases hx:bB env m with
  |none=>simp[hx]at h
  |some p =>
   cases hy:bB env k with
   |none=>simp[hx,hy]at h
   |some q =>
    simp only[hx,hy,bu]at h;simp only[obi]at h;obtain⟨_,_,h⟩:=h;split at h
    ·simp only[obi,omi]at h;obtain⟨_,_,_,_,_,_,h⟩:=h;cases h;rfl
    ·cases h
 case call c =>
  cases hc:c.callee<;>simp only[hc]at h hw<;>first|(cases h;done)|skip
  case builtin b =>
   simp only[obi]at h;obtain⟨args,_,h⟩:=h;split at h
   ·cases h
   cases b<;>simp at hw<;>simp only[i9]at h
   ·unfold qX at h;split at h
    ·simp only[omi]at h;obtain⟨_,_,h⟩:=h;cases h;rfl
    ·cases h
   ·cases args<;>simp only[pB]at h
    ·cases h
    ·simp only[omi]at h;obtain⟨_,_,h⟩:=h;cases h;rfl
   ·cases args<;>simp only[pB]at h
    ·cases h
    ·simp only[omi]at h;obtain⟨_,_,h⟩:=h;cases h;rfl
  case value f =>
   simp only[obi]at h;obtain⟨fv,_,args,_,h⟩:=h;cases fv<;>simp only at h<;>first|(cases h;done)|skip
   split at h
   ·cases h
   rw[hcb (by simp[hop,gi,hc])]at h;simp only[uz,d5,ej]at h;unfold jw at h;split at h
   ·cases h
   ·split at h
    ·simp only[obi]at h;obtain⟨as0,_,r,_,h⟩:=h
     have tk:∀(ad:Bool),(oP (ad && !aD) mem r).2=mem:=by
      intro ad;simp only[cN,nO];cases r<;>first|rfl|exact aiz _ _
     split at h
     ·split at h
      ·cases h
      ·rename_i hz;simp only[fP,Bool.not_eq_true,Bool.not_eq_false',List.isEmpty_iff]at hz;rw[hz]at h;simp only[freezeAll]at h;injection h with h
       have:=di Prod.snd h;rw[tk]at this;exact this.symm
     ·injection h with h
      have:=di Prod.snd h;rw[tk]at this;exact this.symm
    ·cases h
 case slice t x lo hi mx =>
  simp only[obi]at h;obtain⟨_,_,h⟩:=h;split at h
  ·cases h
  ·simp only[omi]at h;obtain⟨_,_,h⟩:=h;cases h;rfl
 case indexAddr t x i =>
  simp only[obi]at h;obtain⟨_,_,_,_,h⟩:=h;split at h
  ·cases h
  ·simp only[omi]at h;obtain⟨_,_,h⟩:=h;cases h;rfl
 all_goals
  (simp only[obi,omi]at h
   first
   |(obtain⟨_,_,h⟩:=h;cases h;rfl)
   |(obtain⟨_,_,_,_,h⟩:=h;cases h;rfl)
   |(obtain⟨_,_,_,_,_,_,h⟩:=h;cases h;rfl))
def VW{o:bz}(hx:o.rx=aE)(h:dN o=aE):fc aD o=aD/\(gi o.op=aD->o.bx=aE)/\(k8 o.op=aE∨((pJ o.op=aD∨vp o.op=aD∨qT o.op=aD)/\o.bx=aD)):=by
 unfold dN at h;rw[hx,lQ,fP,uA]at h;refine⟨by unfold fc;grind,λhc=>by grind,?_⟩;grind
def Si{cfg:cB}{call:dw}{dr:Bool}{o:bz}{env:List V}{v:V}(hx:o.rx=aD)(h:eB cfg call dr o env mem=aA (v,mem')):mem'=mem/\∀m2,eB cfg call dr o env m2=aA (v,m2):=by
 unfold eB at h |-
 rw[bc hx]at h;simp only[obi]at h;obtain⟨⟨v1,m1⟩,h1,h2⟩:=h;cases m1 with
 |cons _ _ =>
  simp only[omi]at h2;grind
 |nil =>
  grind
def oE{cfg:cB}{call:dw}{dr:Bool}{o:bz}{env:List V}(hx:o.rx=aE)(m:List O):eB cfg call dr o env m=da cfg call dr o env m:=by
 unfold eB;grind
def aeR{cfg:cB}{call:dw}{dr:Bool}{o:bz}{e1 e2:List V}(h:∀x∈o.op.operands,bB e1 x=bB e2 x)(m:List O):eB cfg call dr o e1 m=eB cfg call dr o e2 m:=by
 unfold eB;rw[Sc h m];rw[Sc (e1:=tB e1) (e2:=tB e2) (λx hx=>?_) []];have:=h x hx;cases x with
 |tmp t=>simp only[bB,tB,gy]at this |-;grind
 |_=>rfl
def Nx{cfg:cB}{call:dw}{dr:Bool}{o:bz}{env:List V}{v:V}(hb:pJ o.op=aD)(hx:o.bx=aD)(h:da cfg call dr o env mem=aA (v,mem')):mem'=mem/\∀m2,da cfg call dr o env m2=aA (v,m2):=by
 simp only[da,hx]at h |-
 cases hop:o.op<;>simp only[hop,pJ]at h hb |-<;>first|(cases hb;done)|skip
 simp only[obi]at h |-
 grind
def M8{cfg:cB}{call:dw}{dr:Bool}{o:bz}{env:List V}{v:V}(hb:qT o.op=aD)(hx:o.bx=aD)(h:da cfg call dr o env mem=aA (v,mem')):mem'=mem/\∀m2,da cfg call dr o env m2=aA (v,m2):=by
 simp only[da,hx]at h |-
 cases hop:o.op<;>simp only[hop,qT]at h hb |-<;>first|(cases hb;done)|skip
 simp only[obi]at h |-
 grind
def aeH{x:V}(h:pQ x=aD)(m m2:List O):n7 m x=n7 m2 x:=by
 cases x<;>first|rfl|(cases h;done)
def aeK{P:bv}{x:V}(h:pQ x=aD)(m m2:List O)(t:aP)(lo hi mx:Option (Option V)):lL P m t x lo hi mx=lL P m2 t x lo hi mx:=by
 unfold lL;cases(bO P) t with
 |none=>cases x<;>rfl
 |some d=>cases x<;>first|(cases h;done)|(cases d<;>rfl)
def aeI{P:bv}{x:V}(h:pQ x=aD)(m m2:List O)(t:aP)(i:V):j8 P m t x i=j8 P m2 t x i:=by
 cases x<;>first|rfl|(cases h;done)
def aeJ{P:bv}{x:V}(h:pQ x=aD)(m m2:List O)(t:aP):nH P m t x=nH P m2 t x:=by
 unfold nH;cases(bO P) t with
 |none=>cases x<;>rfl
 |some d=>cases x<;>first|(cases h;done)|(cases d<;>rfl)
def GV{cfg:cB}{call:dw}{dr:Bool}{o:bz}{env:List V}{v:V}(hb:pf o.op=aD)(hx:o.bx=aD)(hs:o.sq=aE∨vp o.op=aD)(h:da cfg call dr o env mem=aA (v,mem')):mem'=mem/\∀m2,da cfg call dr o env m2=aA (v,m2):=by
 have hsq:o.sq=false:=by
  rcases hs with h1|h1
  ·exact h1
  ·cases hsq:o.sq with
   |false=>rfl
   |true =>
    exfalso;simp only[da,hx,hsq]at h;cases hop:o.op<;>simp only[hop,vp]at h h1<;>first|(cases h1;done)|skip
    rename_i c;cases hc:c.callee<;>simp only[hc]at h h1<;>first|(cases h1;done)|skip
    rename_i b;cases b<;>simp only at h1<;>first|(cases h1;done)|skip
    simp only[obi]at h;obtain⟨_,_,h⟩:=h;simp[tz]at h
 simp only[da,hx,hsq,be,lQ,qp]at h |-
 cases hop:o.op<;>simp only[hop,pf]at h hb |-<;>first|(cases hb;done)|skip
 case slice t x lo hi mx =>
  simp only[obi]at h |-
  obtain⟨a,ha,h⟩:=h;split at h
  ·cases h
  ·rename_i hn;simp only[fP,mU,Mu]at hn;simp only[omi]at h;obtain⟨r,hr,h⟩:=h;cases h;exact⟨rfl,λm2=>⟨a,ha,by rw[hn];simp only[fP,cN,d5,ej];rw[aeK hn m2 mem,hr];rfl⟩⟩
 case indexAddr t x i =>
  simp only[obi]at h |-
  obtain⟨a,ha,b,hb',h⟩:=h;split at h
  ·cases h
  ·rename_i hn;simp only[fP,mU,Mu]at hn;simp only[omi]at h;obtain⟨r,hr,h⟩:=h;cases h;exact⟨rfl,λm2=>⟨a,ha,b,hb',by rw[hn];simp only[fP,cN,d5,ej];rw[aeI hn m2 mem,hr];rfl⟩⟩
 case call c =>
  cases hc:c.callee<;>simp only[hc]at h hb |-<;>first|(cases hb;done)|skip
  rename_i b;simp only[obi]at h |-
  obtain⟨args,ha,h⟩:=h;split at h
  ·cases h
  rename_i hn;simp only[fP,mU,Mu]at hn
  have goal:∀m2,(if (aD && !pd b args)=aD then aF else i9 cfg.P b m2 c.argTypes.toList args)=i9 cfg.P b m2 c.argTypes.toList args:=by
   intro m2;rw[hn];rfl
  have fin:(mem'=mem/\∀m2,i9 cfg.P b m2 c.argTypes.toList args=aA (v,m2))->mem'=mem/\∀m2,∃a,cD (bB env) c.args.toList=aA a/\(if (aD && !pd b a)=aD then aF else i9 cfg.P b m2 c.argTypes.toList a)=aA (v,m2) :=
   fun⟨q1,q2⟩=>⟨q1,λm2=>⟨args,ha,(goal m2).trans (q2 m2)⟩⟩
  refine fin ?_;clear fin goal;cases b<;>simp at hb
  ·-- append
   simp only[i9]at h |-
   unfold xe at h |-
   split at h
   ·rename_i t t' s x hts;simp only[pd,cT]at hn;split at h
    ·rename_i htt
     have key:mem'=mem/\∀m2,kE cfg.P m2 t s x=aA (v,m2):=by
      cases s<;>first|(cases hn.1;done)|skip
      unfold kE at h |-
      simp only[obi]at h |-
      obtain⟨e,he,xs,hxs,h⟩:=h;split at h
      ·rename_i hall;split at h
       ·rename_i hcc;cases h;exact⟨rfl,λm2=>⟨e,he,xs,(aeH hn.2 m2 mem).trans hxs,by rw[bc hall,bc hcc]⟩⟩
       ·cases h
      ·cases h
     exact⟨key.1,λm2=>by rw[bc htt];exact key.2 m2⟩
    ·exfalso;unfold uO at h;split at h
     ·cases hn.1
     ·cases h
   ·cases h
  ·-- len
   simp only[i9]at h |-
   unfold qX at h |-
   split at h
   ·rename_i t _ x _ hts;simp only[pd]at hn;simp only[omi]at h;obtain⟨r,hr,h⟩:=h;cases h;exact⟨rfl,λm2=>by rw[aeJ hn m2 mem,hr];rfl⟩
   ·cases h
def Na{o:Op}(h:vp o=aD):pf o=true:=by
 cases o<;>simp only[vp]at h<;>first|(cases h;done)|skip
 simp only[pf];grind
def JA{cfg:cB}{call:dw}{o:bz}{env:List V}{v:V}(hw:dN o=aE)(h:eB cfg call (fc aD o) o env mem=aA (v,mem')):mem'=mem:=by
 cases hrx:o.rx;rotate_left
 ·exact(Si hrx h).1
 rw[oE hrx]at h;obtain⟨hd,hcb,hw|⟨hb|hb|hb,hx⟩⟩:=VW hrx hw
 ·rw[hd]at h;exact RZ hw hcb h
 ·exact(Nx hb hx h).1
 ·exact(GV (Na hb) hx (.inr hb) h).1
 ·exact(M8 hb hx h).1
def R2{cfg:cB}{call:dw}{o:bz}{env:List V}{v:V}(hw:k8 o.op=aE)(hr:ry o.op=aE)(h:da cfg call aD o env mem=aA (v,mem'))(m2:List O):da cfg call aD o env m2=aA (v,m2):=by
 simp only[da]at h |-
 cases hop:o.op<;>simp only[hop,k8,ry]at h hw hr |-<;>first|(cases h;done)|(cases hw;done)|(cases hr;done)|skip
 case move x =>
  cases hx:bB env x with
  |none=>simp[hx]at h
  |some a =>
   simp only[hx,bu,cN,nO,d5,ej]at h |-
   cases h;rfl
 case assign x =>
  cases hx:bB env x with
  |none=>simp[hx]at h
  |some a =>
   simp only[hx,bu,cN,nO,d5,ej]at h |-
   cases a<;>simp at h |-<;>exact h.1
 case nilCheck x =>
  simp only[obi]at h |-
  obtain⟨p,hp,h⟩:=h;split at h
  ·rename_i hs;cases h;exact⟨_,hp,by rw[bc hs]⟩
  ·cases h
 case pick c a b =>
  cases hc:bB env c with
  |none=>simp[hc]at h
  |some vc =>
   cases ha:bB env a with
   |none=>simp[hc,ha]at h
   |some va =>
    cases hb:bB env b with
    |none=>simp[hc,ha,hb]at h
    |some vb =>
     simp only[hc,ha,hb,bu]at h |-
     cases vc<;>simp at h |-
     exact h.1
 case makeFunc fn first caps =>
  cases fn<;>simp only at h |-<;>first|(cases h;done)|skip
  by_cases hc:first.isEmpty=aD
  ·rw[bc hc]at h |-
   split at h
   ·rename_i hd;rw[bc hd];simp only[omi]at h |-
    obtain⟨x,hx,h⟩:=h;cases h;exact⟨x,hx,rfl⟩
   ·cases h
  ·rw[bh hc]at h |-
   split at h
   ·rename_i hd;rw[bc hd];simp only[omi]at h |-
    obtain⟨x,hx,h⟩:=h;cases h;exact⟨x,hx,rfl⟩
   ·cases h
 case field st x f =>
  cases hx:bB env x with
  |none=>simp[hx]at h
  |some p =>
   simp only[hx,bu]at h |-
   cases p<;>simp only at h |-<;>first|(cases h;done)|skip
   simp only[obi,omi]at h |-
   obtain⟨a,ha,b,hb,h⟩:=h;cases h;exact⟨_,ha,_,hb,rfl⟩
 case extract t i =>
  cases hx:bB env t with
  |none=>simp[hx]at h
  |some p =>
   simp only[hx,bu]at h |-
   cases p<;>simp only at h |-<;>first|(cases h;done)|skip
   simp only[omi]at h |-
   obtain⟨a,ha,h⟩:=h;cases h;exact⟨_,ha,rfl⟩
 case call c =>
  cases hc:c.callee<;>simp only[hc]at h hw hr |-<;>first|(cases h;done)|(cases hr;done)|skip
  rename_i b;simp only[obi]at h |-
  obtain⟨args,ha,h⟩:=h;refine⟨args,ha,?_⟩;split at h
  ·cases h
  rename_i hn;rw[bh hn];cases b<;>simp at hw hr<;>simp only[i9]at h |-
  ·cases args<;>simp only[pB]at h |-
   ·cases h
   ·simp only[omi]at h |-
    obtain⟨q,hq,h⟩:=h;cases h;exact⟨_,hq,rfl⟩
  ·cases args<;>simp only[pB]at h |-
   ·cases h
   ·simp only[omi]at h |-
    obtain⟨q,hq,h⟩:=h;cases h;exact⟨_,hq,rfl⟩
 all_goals
  (simp only[obi,omi]at h |-
   first
   |(obtain⟨a,ha,h⟩:=h;cases h;exact⟨_,ha,rfl⟩)
   |(obtain⟨a,ha,b,hb,h⟩:=h;cases h;exact⟨_,ha,_,hb,rfl⟩)
   |(obtain⟨a,ha,b,hb,c,hc,h⟩:=h;cases h;exact⟨_,ha,_,hb,_,hc,rfl⟩))
def aeE{cfg:cB}{call:dw}{o:bz}{env:List V}{v:V}(hw:dN o=aE)(hr:p8 o=aE)(h:eB cfg call (fc aD o) o env mem=aA (v,mem'))(m2:List O):eB cfg call (fc aD o) o env m2=aA (v,m2):=by
 cases hrx:o.rx;rotate_left
 ·exact(Si hrx h).2 m2
 rw[oE hrx]at h |-
 unfold p8 at hr;rw[hrx,lQ,fP]at hr;obtain⟨hd,_,hw|⟨hb|hb|hb,hx⟩⟩:=VW hrx hw
 ·cases hrm:ry o.op with
  |false=>rw[hd]at h |-;exact R2 hw hrm h m2
  |true =>
   rw[hrm]at hr;simp only[fP,Bool.not_eq_false',cT]at hr;exact(GV hr.2 hr.1.1 (.inl (by grind)) h).2 m2
 ·exact(Nx hb hx h).2 m2
 ·exact(GV (Na hb) hx (.inr hb) h).2 m2
 ·exact(M8 hb hx h).2 m2
def eZ(m m':List O):Prop:=m.length<=m'.length/\∀id,id < m.length->∀t x,((∃fz,m'[id]? = aA (.box t x fz))↔∃fz,m[id]? = aA (.box t x fz))
def eZ.refl(m:List O):eZ m m:=⟨cZ _,λ_ _ _ _=>Iff.rfl⟩
def eZ.trans{a b c:List O}(h:eZ a b)(h':eZ b c):eZ a c :=
 ⟨qw h.1 h'.1,λid hi t x=>(h'.2 id (qx hi h.1) t x).trans (h.2 id hi t x)⟩
def eZ.push(m:List O)(q:O):eZ m (m++[q]):=⟨by simp,λid hi t x=>by grind⟩
def eZ.kill{m:List O}{i:Nat}{t:aP}{els:List V}{fz:Nat}(h:m[i]? = aA (.row t els fz))(q:O):eZ m (m.set i .dead++[q]):=by
 refine⟨by simp,λid hi t x=>?_⟩;grind
def eZ.freeze(m:List O)(i:Nat):eZ m (freeze m i):=by
 unfold Lite.freeze;split
 ·rename_i t els fz h;refine⟨by simp,λid hi t x=>?_⟩;grind
 ·rename_i t v fz h;refine⟨by simp,λid hi t' x=>?_⟩;grind
 ·exact .refl _
def eZ.freezeAll:∀(is:List Nat) (m:List O),eZ m (freezeAll is m)
 | [],m=>.refl m
 |i::is,m=>(eZ.freeze m i).trans (eZ.freezeAll is _)
def eZ.take(ad:Bool)(m:List O)(r:V):eZ m (oP ad m r).2:=by
 have h1:eZ m (y6 ad m r).2:=by
  cases r<;>simp only[y6]<;>first|exact .refl _|skip
  split
  ·exact .push _ _
  ·exact .refl _
 cases r<;>first|exact .refl _|exact h1
def eZ.boxed(P:bv):∀(ts:List aP) (vs:List V) (m:List O),eZ m (boxed P ts vs m).2:=by
 intro ts
 induction ts with
 |nil=>intro vs m;cases vs<;>exact .refl _
 |cons t ts ih =>
  intro vs m;cases vs with
  |nil=>exact .refl _
  |cons v vs =>
   cases v<;>first|exact ih vs m|skip
   simp only[Lite.boxed];split
   ·split
    ·exact(eZ.push _ _).trans (ih vs _)
    grind
   grind
def eZ.newBox(P:bv)(m:List O)(t:aP)(v:V):eZ m (newBox P m t v).2:=by
 have:eZ m (qH P m t v).2:=by
  unfold qH;split
  ·exact eZ.boxed P _ _ m
  ·have:=eZ.boxed P (pi P t) [v] m;split
   ·grind
   ·exact .refl _
 exact this.trans (.push _ _)
def fU.boxed{P:bv}{q:aP}:∀(ts:List aP) (vs:List V) (m:List O),fU q m->fU q (boxed P ts vs m).2:=by
 intro ts
 induction ts with
 |nil=>intro vs m h;cases vs<;>exact h
 |cons t ts ih =>
  intro vs m h;cases vs with
  |nil=>exact h
  |cons v vs =>
   cases v<;>first|exact ih vs m h|skip
   simp only[Lite.boxed];split
   ·split
    ·exact ih vs _ (h.add rfl)
    grind
   grind
def fU.newBox{P:bv}{q:aP}{m:List O}(t:aP)(v:V)(h:fU q m):fU q (newBox P m t v).2:=by
 have:fU q (qH P m t v).2:=by
  unfold qH;split
  ·exact fU.boxed _ _ m h
  ·have:=fU.boxed (P:=P) (pi P t) [v] m h;grind
 exact this.add rfl
def aft{cfg:cB}{call:dw}{o:bz}{env:List V}{v:V}(hp:pY o=aD)(hfr:kQ cfg o=aE)(h:eB cfg call (fc aD o) o env mem=aA (v,mem')):eZ mem mem':=by
 unfold pY at hp;rw[cT]at hp;have hrx:o.rx=false:=by simpa using hp.1
 rw[oE hrx]at h;have hp:=hp.2
 have hns:(xL o.op && o.bx)=false:=by
  unfold kQ at hfr;rw[hrx]at hfr;simp only[lQ,fP,uA]at hfr;rw[Bool.and_comm];exact hfr.2
 rw[hns,zg]at hp;simp only[da]at h;cases hop:o.op<;>simp only[hop,SP,gi]at h hp<;>first|(cases hp;done)|skip
 case alloc t =>
  simp only[obi]at h;obtain⟨z,_,h⟩:=h;split at h
  ·split at h
   ·cases h;exact .refl _
   ·split at h
    ·cases h
    ·rename_i hna;have hd:fc aD o=true:=by simp[fc,gi,hop]
     rw[hd,fP]at hna;unfold tN at h;cases hf:j6 t 0 mem with
     |none=>rw[hf]at h;cases h;exact .newBox _ _ _ _
     |some r=>rw[hf]at hna;simp at hna
  ·cases h
 case box t x =>
  simp only[obi]at h;obtain⟨z,_,h⟩:=h;split at h
  ·cases h
  split at h
  ·split at h
   ·cases h
   ·rename_i hna;have hd:fc aD o=true:=by simp[fc,gi,hop]
    rw[hd,fP]at hna;unfold tN at h;cases hf:j6 t 0 mem with
    |none=>rw[hf]at h;cases h;exact .newBox _ _ _ _
    |some r=>rw[hf]at hna;simp at hna
  ·cases h
 case buildSlice t n ps =>
  simp only[obi]at h;obtain⟨_,_,_,_,_,_,h⟩:=h;split at h
  ·split at h
   ·cases h;exact .refl _
   ·cases h;exact .push _ _
  ·cases h
 case makeSlice t n c =>
  simp only[obi]at h;obtain⟨_,_,_,_,h⟩:=h;unfold qY at h;simp only[obi]at h;obtain⟨_,_,h⟩:=h;split at h
  ·split at h
   ·simp only[obi,omi]at h;obtain⟨_,_,_,_,h⟩:=h;cases h;exact .push _ _
   ·cases h
  ·cases h
 case call c =>
  cases hc:c.callee<;>simp only[hc]at h hp<;>first|(cases hp;done)|skip
  case builtin b =>
   cases b<;>simp only at h hp<;>first|(cases hp;done)|skip
   simp only[obi]at h;obtain⟨args,_,h⟩:=h;split at h
   ·cases h
   simp only[i9]at h;unfold xe at h;split at h
   ·split at h
    ·unfold kE at h;simp only[obi]at h;obtain⟨_,_,_,_,h⟩:=h;split at h
     ·split at h
      ·split at h
       ·cases h;exact .push _ _
       ·cases h
      ·split at h
       ·rename_i hm;split at h
        ·cases h;exact .kill hm _
        ·cases h
       ·cases h
      ·split at h
       ·rename_i hm;split at h
        ·cases h;exact .kill hm _
        ·cases h
       ·cases h
      ·split at h
       ·rename_i hm;split at h
        ·cases h;exact .kill hm _
        ·cases h
       ·cases h
      ·split at h
       ·cases h;exact .refl _
       ·cases h
      ·cases h
     ·cases h
    ·unfold uO at h;split at h
     ·simp only[obi]at h;obtain⟨_,_,h⟩:=h;split at h
      ·simp only[obi,omi]at h;obtain⟨_,_,_,_,h⟩:=h;cases h;exact .push _ _
      ·cases h
     ·cases h
   ·cases h
  case value f =>
   simp only[rV,fP,cT]at hp;simp only[obi]at h;obtain⟨fv,_,args,_,h⟩:=h;cases fv<;>simp only at h<;>first|(cases h;done)|skip
   split at h
   ·rw[hp.1]at h;simp at h
   rw[hp.1]at h
   have hfo:Ax cfg o=false:=by
    unfold kQ at hfr;rw[hrx]at hfr;simp only[lQ,fP,uA]at hfr;exact hfr.1
   rw[hfo]at h;simp only[uz,d5,ej]at h;split at h
   ·cases h
   rename_i hpu;unfold jw at h;split at h
   ·cases h
   ·split at h
    ·simp only[obi]at h;obtain⟨as0,_,r,_,h⟩:=h;split at h
     ·split at h
      ·cases h
      ·injection h with h
       have this:_=mem':=di Prod.snd h;rw[<-this];exact(eZ.freezeAll _ _).trans (eZ.take _ _ _)
     ·injection h with h
      have this:_=mem':=di Prod.snd h;rw[<-this];exact eZ.take _ _ _
    ·rename_i hn;have hsq:o.sq=false:=by simpa using hp.2
     simp[hsq]at hpu;exact(hn hpu).elim
def mV(p:V)(m m':List O):Prop:=m.length<=m'.length/\∀id k off,p = .ptr id k off->id < m.length->∀t x,((∃fz,m'[id]? = aA (.box t x fz))↔∃fz,m[id]? = aA (.box t x fz))
def eZ.at{m m':List O}(h:eZ m m')(p:V):mV p m m':=⟨h.1,λid _ _ _ hi t x=>h.2 id hi t x⟩
def mV.refl(p:V)(m:List O):mV p m m:=(eZ.refl m).at p
def mV.trans{p:V}{a b c:List O}(h:mV p a b)(h':mV p b c):mV p a c :=
 ⟨qw h.1 h'.1,λid k off e hi t x=>(h'.2 id k off e (qx hi h.1) t x).trans (h.2 id k off e hi t x)⟩
def aih{P:bv}{t:aP}{p v:V}(hnp:nG p=aE)(h:nN P mem t p v=aA mem'):mem.length<=mem'.length/\∀id,id < mem.length->id∉lH p->mem'[id]? = mem[id]?:=by
 unfold nN at h;split at h;rotate_left
 ·cases h
 cases p<;>simp only at h<;>first|(cases h;done)|(simp[nG]at hnp;done)|skip
 rename_i i k off
 have key:∀q,mem'=mem.set i q->mem.length<=mem'.length/\∀id,id < mem.length->id∉lH (.ptr i k off)->mem'[id]? = mem[id]?:=by
  rintro q rfl;refine⟨by simp,λid _ hn=>?_⟩;rw[iM];intro e;exact hn (by simp[lH,p9,Bi,iw,e])
 cases hm:mem[i]? with
 |none=>grind
 |some o =>
  cases o<;>simp only[hm]at h<;>first|(cases h;done)|skip
  ·split at h
   ·simp only[obi,omi]at h;grind
   grind
  ·split at h
   ·simp only[omi]at h;grind
   grind
def aij{P:bv}{t:aP}{p v:V}(hnp:nG p=aE):un P mem t p v=nN P mem t p v:=by
 unfold un;grind
def abN{cfg:cB}{call:dw}{o:bz}{env:List V}{v:V}(hfr:kQ cfg o=aD)(h:eB cfg call (fc aD o) o env mem=aA (v,mem')) :
  mem.length<=mem'.length/\∀id,id < mem.length->id∉nC env o->mem'[id]? = mem[id]?:=by
 unfold kQ at hfr;rw[cT]at hfr;have hrx:o.rx=false:=by simpa using hfr.1
 rw[oE hrx]at h;have hfr:=hfr.2
 by_cases hst:(o.bx && xL o.op)=aD
 ·rw[cT]at hst;simp only[da]at h;cases hop:o.op<;>simp only[hop,xL]at h hst<;>first|(simp at hst;done)|skip
  rename_i t a x;simp only[obi]at h;obtain⟨p,hp,v',hv,h⟩:=h;rw[hst.1,fP]at h;split at h
  ·cases h
  rename_i hnp;simp only[omi]at h;obtain⟨m,hm,h⟩:=h;cases h;rw[aij (by simpa using hnp)]at hm;have:=aih (by simpa using hnp) hm;simpa only[nC,hop,nE,hp]using this
 rw[oT]at hfr;have hfr:=hfr.resolve_right hst;have hfr0:=hfr;unfold Ax at hfr;simp only[cT]at hfr;obtain⟨hbx,hfr⟩:=hfr;simp only[da]at h;cases hop:o.op<;>simp only[hop]at h hfr<;>first|(cases hfr;done)|skip
 rename_i c;cases hc:c.callee<;>simp only[hc]at h hfr<;>first|(cases hfr;done)|skip
 rename_i f;cases f<;>simp only at h hfr<;>first|(cases hfr;done)|skip
 rename_i f;simp only[obi]at h;obtain⟨fv,hfv,args,ha,h⟩:=h;simp only[bB]at hfv;cases hfb:jq f iU<;>rw[hfb]at hfv<;>cases hfv;simp only[bh (Nat.not_le.2 (oY ▸ hfb)),hbx,hfr,hfr0,fP,dv,fR]at h;split at h;rotate_left
 ·cases h
 have hS:nC env o=args.flatMap lH:=by
  unfold nC;simp only[hop]
  have:∀(l:List fD) (as0:List V),cD (bB env) l=aA as0->l.flatMap (nE env)=as0.flatMap lH:=by
   intro l
   induction l with
   |nil=>intro as0 h;cases h;rfl
   |cons x l ih =>
    intro as0 h;simp only[cD,obi,omi]at h;obtain⟨y,hy,ys,hys,rfl⟩:=h;simp only[lc,ih ys hys,nE,hy]
  exact this _ _ ha
 rw[hS];unfold pC at h;split at h
 ·cases h
 simp only[obi]at h;obtain⟨⟨v1,m1⟩,h1,h2⟩:=h;split at h2;rotate_left
 ·cases h2
 rename_i hle;cases h2;obtain⟨b1,b2⟩:=z8 (args.flatMap lH) mem m1 0 hle;refine⟨by unfold tR;rw[b1];exact hle,λid hi hn=>?_⟩;unfold tR;rw[b2 id,bc hi,eW,bh];simpa using hn
def Nw{m m':List O}{p:V}{t:aP}(hb:mV p m m')(bf:∀id k off,p = .ptr id k off->id < m.length):(mE m' p=mE m p)/\(mE m p=aD->gD P m' t p=gD P m t p):=by
 cases p
 case ptr id k off =>
  have hi:=bf id k off rfl;have key:=hb.2 id k off rfl hi;cases hm:m[id]? with
  |none=>grind
  |some o =>
   cases hm':m'[id]? with
   |none=>rw[List.getElem?_eq_none_iff]at hm';have:=hb.1;omega
   |some o' =>
    rw[hm,hm']at key;cases o with
    |box t0 x fz =>
     obtain⟨fz',this⟩:=(key t0 x).2 ⟨fz,rfl⟩;cases this;exact⟨by simp only[mE,hm,hm'],λ_=>by simp only[gD,f0,hm,hm']⟩
    |_ =>
     cases o' with
     |box t0 x fz=>simp_all
     |_=>exact⟨by simp only[mE,hm,hm'],λh=>by simp[mE,hm]at h⟩
 case ref x off=>exact⟨rfl,λ_=>by simp only[gD,f0]⟩
 all_goals exact⟨rfl,λh=>by simp[mE]at h⟩
def KP(ids:List Nat)(m m':List O):Prop:=∀id∈ids,∀o,gP o=aD->o≠.dead->m[id]? = aA o->m'[id]? = aA o
def KP.row{ids:List Nat}{m m':List O}(h:KP ids m m'){id:Nat}{t:aP}{els:List V}{fz:Nat}(hi:id∈ids)(hm:m[id]? = aA (.row t els fz)):m'[id]? = aA (.row t els fz):=h id hi _ rfl (by simp) hm
def Py{m m':List O}{x:V}{l:List V}(hk:KP (iw x) m m')(h:dA m x=aA l):dA m' x=aA l:=by
 cases x<;>simp only[dA]at h |-<;>first|exact h|skip
 case own id =>
  cases hm:m[id]? with
  |none=>grind
  |some o =>
   cases o<;>simp only[hm]at h<;>first|(cases h;done)|skip
   rw[hk.row (by simp[iw]) hm];exact h
 case win id a b =>
  cases hm:m[id]? with
  |none=>grind
  |some o =>
   cases o<;>simp only[hm]at h<;>first|(cases h;done)|skip
   rw[hk.row (by simp[iw]) hm];exact h
 case tail id a =>
  cases hm:m[id]? with
  |none=>grind
  |some o =>
   cases o<;>simp only[hm]at h<;>first|(cases h;done)|skip
   rw[hk.row (by simp[iw]) hm];exact h
def adE{m m':List O}{t:aP}{p v:V}(hn:nG p=aE)(hk:KP (iw p) m m')(h:gD P m t p=aA v):gD P m' t p=aA v:=by
 have key:∀r,f0 m p=aA r->f0 m' p=aA r:=by
  intro r hr;cases p<;>simp only[f0]at hr |-<;>first|exact hr|(cases hr;done)|(simp[nG]at hn;done)|skip
  rename_i id k off;cases hm:m[id]? with
  |none=>grind
  |some o =>
   cases o<;>simp only[hm]at hr<;>first|(cases hr;done)|skip
   ·rw[hk.row (by simp[iw]) hm];grind
   ·rw[hk id (by simp[iw]) _ rfl (by simp) hm];grind
 unfold gD at h |-
 cases hl:f0 m p with
 |none=>grind
 |some r=>grind
def agH{m:List O}{x:V}{l:List V}(h:dA m x=aA l):∀id∈iw x,∃t els fz,m[id]? = aA (.row t els fz):=by
 cases x<;>simp only[dA]at h<;>first|(cases h;done)|(intro id hi;simp[iw]at hi;done)|skip
 all_goals
  intro id hi;simp only[iw,iN]at hi;grind
def ahP{m m':List O}{t:aP}{x v:V}{lo hi mx:Option (Option V)}(hk:KP (iw x) m m')(h:lL P m t x lo hi mx=aA v):lL P m' t x lo hi mx=aA v:=by
 unfold lL at h |-
 split at h
 ·exact h
 ·simp only[obi]at h |-
  obtain⟨xs,hx,l,hl,hh,hhh,mm,hmm,h⟩:=h;refine⟨xs,Py hk hx,l,hl,hh,hhh,mm,hmm,?_⟩;split at h;rotate_left
  ·cases h
  rename_i hc;rw[bc hc];have hr:=agH hx;split at h
  ·exact h
  ·exact h
  all_goals
   first
   |(obtain⟨t',els,fz,hm⟩:=hr _ (iN.2 rfl)
     rw[hm]at h;simp only at h |-
     rw[hk.row (iN.2 rfl) hm];exact h)
   |grind
 grind
def acJ{m m':List O}{t:aP}{x i v:V}(hk:KP (iw x) m m')(h:j8 P m t x i=aA v):j8 P m' t x i=aA v:=by
 unfold j8 at h |-
 cases hu:(bO P) t with
 |none=>grind
 |some d =>
  rw[hu]at h;cases d<;>cases i<;>simp only at h |-<;>first|exact h|(cases h;done)|skip
  split at h;rotate_left
  ·cases h
  rename_i hc;rw[bc hc];cases x<;>simp only at h |-<;>first|exact h|(cases h;done)|skip
  case own id =>
   cases hm:m[id]? with
   |none=>grind
   |some o =>
    cases o<;>simp only[hm]at h<;>first|(cases h;done)|skip
    rw[hk.row (iN.2 rfl) hm];exact h
  case win id _ _ =>
   cases hm:m[id]? with
   |none=>grind
   |some o =>
    cases o<;>simp only[hm]at h<;>first|(cases h;done)|skip
    rw[hk.row (iN.2 rfl) hm];exact h
  case tail id _ =>
   cases hm:m[id]? with
   |none=>grind
   |some o =>
    cases o<;>simp only[hm]at h<;>first|(cases h;done)|skip
    rw[hk.row (iN.2 rfl) hm];exact h
def ad0{m m':List O}{x:V}{es:List (V × V)}(hn:∀t k,x≠.hm t k)(hk:KP (iw x) m m')(he:gO m x=aA es):gO m' x=aA es:=by
 cases x<;>simp only[gO]at he |-<;>first|(cases he;done)|(exact(hn _ _ rfl).elim)|skip
 rename_i id;cases hm:m[id]? with
 |none=>grind
 |some o =>
  cases o<;>simp only[hm]at he<;>first|(cases he;done)|skip
  rw[hk id (by simp[iw]) _ rfl (by simp) hm];grind
def adr{m m':List O}{t:aP}{x v:V}(hn:∀t k,x≠.hm t k)(hk:KP (iw x) m m')(h:nH P m t x=aA v):nH P m' t x=aA v:=by
 unfold nH at h |-
 split at h
 ·exact h
 ·exact h
 ·simp only[omi]at h |-
  obtain⟨l,hl,h⟩:=h;exact⟨l,Py hk hl,h⟩
 ·simp only[omi]at h |-
  obtain⟨es,he,h⟩:=h;exact⟨es,ad0 hn hk he,h⟩
 grind
def adL{cfg:cB}{call:dw}{dr:Bool}{o:bz}{env:List V}{v:V}{m m':List O}(hl:jO o=aD)(hk:KP (mc env o) m m')(h:da cfg call dr o env m=aA (v,m)):da cfg call dr o env m'=aA (v,m'):=by
 simp only[jO,cT]at hl;obtain⟨⟨⟨_,hb⟩,hsq⟩,hr⟩:=hl;simp only[da,hb,hsq,bn,cN,nO,uz,fP,d5,ej]at h |-
 cases hop:o.op<;>simp only[hop,rG,mc]at h hr hk |-<;>first|(cases hr;done)|skip
 case load t a =>
  simp only[obi]at h |-
  obtain⟨p,hp,h⟩:=h;refine⟨p,hp,?_⟩;split at h
  ·cases h
  rename_i hn;rw[bh hn];simp only[omi]at h |-
  obtain⟨x,hx,h⟩:=h;cases h;simp only[lE,hp]at hk;exact⟨_,adE (by grind) hk hx,rfl⟩
 case slice t x lo hi mx =>
  simp only[obi,omi]at h |-
  obtain⟨a,ha,r,hr,h⟩:=h;cases h;simp only[lE,ha]at hk;exact⟨a,ha,_,ahP hk hr,rfl⟩
 case indexAddr t x i =>
  simp only[obi,omi]at h |-
  obtain⟨a,ha,b,hb,r,hr,h⟩:=h;cases h;simp only[lE,ha]at hk;exact⟨a,ha,b,hb,_,acJ hk hr,rfl⟩
 case call c =>
  cases hc:c.callee<;>simp only[hc]at h hr |-<;>first|(cases hr;done)|skip
  rename_i b;cases b<;>simp only at hr<;>first|(cases hr;done)|skip
  simp only[obi]at h |-
  obtain⟨args,ha,h⟩:=h;refine⟨args,ha,?_⟩;split at h
  ·cases h
  rename_i hn;rw[bh hn];simp only[i9]at h |-
  unfold qX at h |-
  split at h;rotate_left
  ·cases h
  rename_i t _ x xs;simp only[omi]at h |-
  obtain⟨r,hr,h⟩:=h;cases h;refine⟨_,adr (λt k e=>?_) (λid hid=>hk id ?_) hr,rfl⟩
  ·subst e;simp[tz]at hn
  ·cases hl:c.args.toList with
   |nil=>rw[hl]at ha;simp[cD]at ha
   |cons y ys =>
    rw[hl]at ha;simp only[cD,obi,omi]at ha;obtain⟨z,hz,zs,_,e⟩:=ha;cases e;exact jp.2 ⟨y,by simp,by simp only[lE,hz];grind⟩
def Xp(rd:aP->Bool)(args:List V)(mem:List O)(v:V)(m1:List O):mem.length<=(nr rd args mem v m1).2.length /\
  ∀id o,mem[id]? = aA o->id∉jK args mem->(dX mem<=id->(nr rd args mem v m1).2[id]? = aA o)/\(id < dX mem->(nr rd args mem v m1).2[id]? = aA (xl m1 id)):=by
 unfold nr uR;simp only;obtain⟨h1,h2⟩:=EM (uS rd (dX mem) (jK args mem) (C7 rd (dX mem) mem.length (jK args mem) (xm rd (dX mem) (iS args mem).mem m1 v) (iS args mem).mem m1) (iS args mem).mem m1) mem 0;refine⟨by rw[gJ,h1];omega,λid o hm hn=>?_⟩;have bf:=(cE.1 hm).1;rw[eP (by rw[h1];exact bf),h2 id,hm,dy,eW];refine⟨λhf=>?_,λhf=>?_⟩
 ·unfold uS;rw[bh (by omega)];cases hi:lB id (jK args mem)with
  |none=>rfl
  |some q=>exact(hn (dH (Eg hi))).elim
 ·unfold uS;rw[bc hf]
def Xq(m1:List O)(k:Nat):gP (xl m1 k)=aE∨xl m1 k = .dead:=by
 unfold xl;grind
def XV{cfg:cB}{call:dw}{o:bz}{env:List V}{v:V}(hc:im o=aD)(hcan:Db cfg o=aD)(h:eB cfg call (fc aD o) o env mem=aA (v,mem')) :
  (mem.length<=mem'.length/\∀id,id < mem.length->id∉nu o env mem->∀q,gP q=aD->q≠.dead->(mem'[id]? = aA q↔mem[id]? = aA q))/\(nv cfg o=aD->mem'.take mem.length=mem):=by
 simp only[im,cT]at hc;obtain⟨⟨⟨hrx,hcv⟩,hb⟩,hsq⟩:=hc;rw[oE (by simpa using hrx)]at h;have hd:fc aD o=false:=by simp[fc,hcv,hb,hsq]
 rw[hd]at h;simp only[da,hb,hsq]at h;cases hop:o.op<;>simp only[hop,Db]at h hcan<;>first|(cases hcan;done)|skip
 rename_i c;cases hcc:c.callee<;>simp only[hcc]at h hcan<;>first|(cases hcan;done)|skip
 rename_i f;cases f<;>simp only at h hcan<;>first|(cases hcan;done)|skip
 rename_i f;simp only[cT]at hcan;simp only[obi]at h;obtain⟨fv,hfv,args,ha,h⟩:=h;simp only[bB]at hfv;cases hfb:jq f iU<;>rw[hfb]at hfv<;>cases hfv;simp only[bh (Nat.not_le.2 (oY ▸ hfb)),cN,nO,uz,d5,ej,fR]at h;have hfr:nu o env mem=jK args mem:=by simp only[nu,hop,ha]
 rw[hfr];unfold jw at h;split at h
 ·cases h
 rw[bh (by simpa using hcan.1)]at h;simp only[d5,ej]at h;cases hcf:cfg.can f with
 |none=>rw[hcf]at hcan;simp at hcan
 |some rd =>
  simp only[hcf]at h;obtain⟨h,hro⟩:=Fc h;refine⟨?_,λe=>hro (by simpa[nv,hop,hcc]using e)⟩;unfold sK at h;simp only[omi]at h;obtain⟨r,_,h⟩:=h;obtain⟨k1,k2⟩:=Xp rd.row args mem (jZ rd (iS args mem).mem r.1 r.2).1 (jZ rd (iS args mem).mem r.1 r.2).2;rw[h]at k1 k2;refine⟨k1,λid hi hn q hq hqd=>?_⟩;obtain⟨k3,k4⟩:=k2 id _ (cI hi) hn;obtain⟨f1,f2⟩:=Ay mem
  by_cases hf:dX mem<=id
  ·have:=k3 hf;simp only at this;rw[this,cI hi]
  ·have h4:=k4 (by omega);simp only at h4;obtain⟨o1,ho1,ho2⟩:=f2 id (by omega);rw[h4,ho1];constructor
   ·intro e;rcases Xq (jZ rd (iS args mem).mem r.1 r.2).2 id with h5|h5
    ·cases e;rw[hq]at h5;cases h5
    ·cases e;exact(hqd h5).elim
   ·intro e;cases e;rw[hq]at ho2;cases ho2
end
end Go.Lite
