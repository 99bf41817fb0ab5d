/-
  Texts that the last one stands on.
-/
import Derived.Test.YtknapnnpmfhogaaY5
import Derived.Shelf.Spec.SlicesInsert
import Derived.Lib.SliceRun
import Derived.RangeFuncNested
import Derived.RangeFuncBound
import Derived.RangeFuncCalls
import Derived.RangeFuncLeaves
import Derived.Shelf.Abstract
import Derived.Shelf.RegionOpen
import Derived.WalkKit
import Derived.OwnWalkIn
import Derived.TacticsInMore
import Derived.LoopNIn
import Derived.LoopIn
import Derived.Stop.RegionWithIn
import Derived.Test.YtknapnnpmfhogaaProg
import Derived.Shelf.SlIterI.Keys
import Derived.Shelf.SlIterI.Sorted
import Derived.Shelf.SortM.Plain
import Derived.Shelf.SortM.SortNone
import Derived.KernelRfl
import Derived.Maps.Own
namespace Go.Proofs.Ytknapnnpmfhogaa
open Go Go.Lite
set_option linter.unusedSimpArgs false
set_option linter.unusedVariables false
set_option linter.unnecessarySimpa false
set_option maxRecDepth 10000
section
variable {p:Int} {ar a1:List V} {pl sure n:Int} {ks:List Int} {ix:Int->Nat} {L:List Pg} {ws:Ws} {z:Nat}
def goesP (sure:Int) (x:Pg):Bool:=decide (x.pins=0) && (!x.dirty || decide (x.last<=sure))
theorem pgs_get {k:Nat} {x:Pg} (h:L[k]? = some x):(pgs L)[k]? = some x.page:=by simp [pgs,h]
theorem pgs_len:(pgs L).length=L.length:=by simp [pgs]
theorem ints_pgs_get {k:Nat} {x:Pg} {q:V->R} (h:L[k]? = some x):idxK (ints (pgs L)) k q=q (.int .i64 x.page):=idxK_ints (pgs_get h)
abbrev frm (ar a1:List V) (pl sure n:Int) (mp:List (V × V)) (ages:List V) (ws:List V) (z:Nat):List O :=
 [.arena 63 ar,.arena 7 a1,.row 3 ages 0,.box 27 (.ptr 4 0 0) false,.box 59 (.agg [.ptr 5 0 0,.int .i64 pl,.mp 6,.tail 2 0,.int .i64 sure]) false,.box 56 (.agg [.int .i64 n,.mp 7,.tail 8 0]) false,.map mp,.map [],.row 88 ws z]
theorem idxa_loop (h:Rep ar ks ix L) (hL:L.length<=100000):∀(r:List Pg) (k:Nat),L.drop k=r->k<=L.length ->
  Go qk true 9 fa42 (.head 0 (T42_0 (L.length:Int) (k:Int) ar a1 (ints (pgs L)) pl sure n (mpV ks ix) [] (wsV ws) z)) (.doneM (.int .i64 (idxF (goesP sure) k r)) (frm ar a1 pl sure n (mpV ks ix) (ints (pgs L)) (wsV ws) z))
 | [],k,e,hk=>by
  have:L.length<=k:=List.drop_eq_nil_iff.1 e
  refine s42_0_run _ _ _ _ _ _ _ _ _ _ _ _ ?_ (.refl _)
  unfold s42_0
  rw [decide_eq_false (by omega)];rfl
 | c::r,k,e,hk=>by
  obtain ⟨h1,h2,h3⟩:=drop_cons e
  have hc:c∈L:=List.mem_of_getElem? h2
  have hg:gd (decide (((k:Nat):Int).toNat < (ints (pgs L)).length))=fun q=>q:=by funext q;exact gd_of (by simp [ints_len,pgs_len];omega)
  have ih:=idxa_loop h hL r (k+1) h3 (by omega)
  by_cases hq:goesP sure c=true
  ·refine s42_0_run _ _ _ _ _ _ _ _ _ _ _ _ ?_ (.refl _)
   unfold s42_0 idxF
   rw [decide_eq_true (by omega),cond_true,gd_of (by simp),hg,toNat_cast,Nat.zero_add,ints_pgs_get h2,kI_mk,h.mf hc,kP_mk,h.ax hc,d63_pl,if_pos hq]
   simp only [goesP,Bool.and_eq_true,decide_eq_true_eq,Bool.or_eq_true,Bool.not_eq_true'] at hq
   rw [ibeq_t hq.1,cond_true,h.ax hc,d63_pl,h.ax hc,d63_pl,h.ax hc,d63_pl]
   rcases hq.2 with hd | hd
   ·rw [hd];rfl
   ·rw [decide_eq_true hd];cases c.dirty<;>rfl
  ·refine s42_0_run _ _ _ _ _ _ _ _ _ _ _ _ ?_ (by unfold idxF;rw [if_neg hq];exact ih)
   unfold s42_0
   rw [decide_eq_true (by omega),cond_true,gd_of (by simp),hg,toNat_cast,Nat.zero_add,ints_pgs_get h2,kI_mk,h.mf hc,kP_mk,h.ax hc,d63_pl,wi k (by omega),h.ax hc,d63_pl,h.ax hc,d63_pl,h.ax hc,d63_pl]
   simp only [goesP,Bool.and_eq_true,decide_eq_true_eq,Bool.or_eq_true,Bool.not_eq_true',not_and,not_or] at hq
   by_cases hp:c.pins=0
   ·have:=hq hp
    rw [ibeq_t hp,cond_true,decide_eq_false this.2]
    have hd:c.dirty=true:=by simpa using this.1
    rw [hd];rfl
   ·rw [ibeq_f hp,cond_false]
theorem idxa_ok (h:Rep ar ks ix L) (hL:L.length<=100000) :
  icC qcfg ⟨true,false⟩ 42 [.tail 2 0,.fn 41 [.ptr 3 0 0]] (frm ar a1 pl sure n (mpV ks ix) (ints (pgs L)) (wsV ws) z)=some (mk42 (idxF (goesP sure) 0 L,ar,a1,ints (pgs L),pl,sure,n,mpV ks ix,[],wsV ws,z)):=by
 refine e42_run _ _ _ _ _ _ _ _ _ _ ?_ ⟨_,_,idxa_loop (a1:=a1) (pl:=pl) (sure:=sure) (n:=n) (ws:=ws) (z:=z) h hL L 0 rfl (by omega),by kernel_rfl⟩
 unfold e42
 rw [ints_len,pgs_len];rfl
def freeS (pl sure:Int) (L:List Pg) (ws:Ws):Option (List Pg × Ws) :=
 if (L.length:Int) < pl then some (L,ws) else (L.find? (goesP sure)).map fun x=>(cutP L x.page,if x.dirty then ws++[(x.page,x.s)] else ws)
theorem find_split {α:Type} {q:α->Bool}:∀{L pre post:List α} {c:α},L=pre++c::post->(∀x∈pre,q x=false)->q c=true->L.find? q=some c
 | _,[],post,c,rfl,_,h=>by simp [h]
 | _,x::pre,post,c,rfl,h1,h=>by
  rw [List.cons_append,List.find?_cons,h1 x (by simp)]
  exact find_split rfl (fun y hy=>h1 y (by simp [hy])) h
theorem cut_split (hn:(pgs L).Nodup) {pre post:List Pg} {c:Pg} (e:L=pre++c::post):cutP L c.page=pre++post:=by
 subst e
 have hn':(pgs pre++c.page::pgs post).Nodup:=by simpa [pgs] using hn
 rw [List.nodup_append] at hn'
 have h2:=List.nodup_cons.1 hn'.2.1
 unfold cutP
 rw [List.filter_append,List.filter_cons_of_neg (by simp),List.filter_eq_self.2,List.filter_eq_self.2]
 ·intro y hy
  have:y.page≠c.page:=fun e=>h2.1 (e ▸ List.mem_map.2 ⟨y,hy,rfl⟩)
  simpa using this
 ·intro y hy
  have:y.page≠c.page:=hn'.2.2 _ (List.mem_map.2 ⟨y,hy,rfl⟩) _ (by simp)
  simpa using this
theorem Rep.off (h:Rep ar ks ix L) {i:Nat} (hi:∀y∈L,ix y.page≠i) (v:V):Rep (ar.set i v) ks ix L :=
 ⟨h.perm,h.nd,fun y hy=>by rw [List.getElem?_set_ne (fun e=>hi y hy e.symm)];exact h.at_ y hy,h.inj⟩
structure Good (pl n:Int) (L:List Pg) (ws:Ws):Prop where
 len:(L.length:Int)<=pl
 pl:pl<=64
 bs:∀x∈L,x.s.length=252
 pg:∀x∈L,0<=x.page/\x.page < n
 ok:wsOk ws
theorem Good.l100 (g:Good pl n L ws):L.length<=100000:=by have:=g.len;have:=g.pl;omega
theorem free_ok (h:Rep ar ks ix L) (g:Good pl n L ws) (hw:ws.length<=100000) :
  (freeS pl sure L ws=none/\icC qcfg ⟨false,false⟩ 25 [.ptr 2 0 0] (plm ar a1 pl sure n (mpV ks ix) (pgs L) ws z)=some (mk25 (6,ar,a1,pl,sure,n,mpV ks ix,[],ints (pgs L),wsV ws,z))) ∨
  ∃L' ws' ar' ks',freeS pl sure L ws=some (L',ws')/\Rep ar' ks' ix L' /\
   icC qcfg ⟨false,false⟩ 25 [.ptr 2 0 0] (plm ar a1 pl sure n (mpV ks ix) (pgs L) ws z)=some (mk25 (0,ar',a1,pl,sure,n,mpV ks' ix,[],ints (pgs L'),wsV ws',z)):=by
 have hL:=g.l100
 by_cases hlt:(L.length:Int) < pl
 ·right
  refine ⟨L,ws,ar,ks,by unfold freeS;rw [if_pos hlt],h,?_⟩
  refine e25_run _ _ _ _ _ _ _ _ _ _ (o:=.doneM ?v1 ?m1) ?h1 (.done ?n1)
  case h1 =>
   unfold e25
   rw [h.len,decide_eq_true hlt,cond_true]
  case n1=>kernel_rfl
 rcases idxF_spec (goesP sure) L 0 with ⟨h1,h2⟩ | ⟨pre,c,post,h1,h2,h3,h4⟩
 ·left
  refine ⟨by unfold freeS;rw [if_neg hlt,List.find?_eq_none.2 fun x hx=>by rw [h2 x hx];simp];rfl,?_⟩
  refine e25_run _ _ _ _ _ _ _ _ _ _ (o:=.doneM ?v2 ?m2) ?h2 (.done ?n2)
  case h2 =>
   unfold e25
   rw [h.len,decide_eq_false hlt,cond_false,icM_of mk42_inj (idxa_ok h hL),h1]
   rfl
  case n2=>kernel_rfl
 ·right
  rw [Nat.zero_add] at h4
  have hc:c∈L:=by rw [h1];simp
  have hk:L[pre.length]? = some c:=by rw [h1];simp
  have hlen:pre.length < L.length:=by rw [h1];simp
  have hcut:=cut_split h.nd h1
  have hrow:(ints (pgs L)).take pre.length++(ints (pgs L)).drop (pre.length+1)=ints (pgs (cutP L c.page)):=by
   rw [hcut,h1]
   simp [pgs,ints,List.take_append,List.drop_append]
  have hfs:freeS pl sure L ws=some (cutP L c.page,if c.dirty then ws++[(c.page,c.s)] else ws):=by
   unfold freeS;rw [if_neg hlt,find_split h1 h2 h3];rfl
  have hgd:∀q:R,gd (decide (0<=((pre.length:Nat):Int)/\((pre.length:Nat):Int)<=W .i64 (((pre.length:Nat):Int)+1)/\(W .i64 (((pre.length:Nat):Int)+1)).toNat<=(ints (pgs L)).length/\(ints (pgs L)).length<=16777216)) q=q:=fun q=>by
   rw [wi _ (by omega),toNat_cast,ints_len,pgs_len]
   exact gd_of (by simp;omega)
  have hg:gd (decide (((pre.length:Nat):Int).toNat < (ints (pgs L)).length))=fun q=>q:=by funext q;exact gd_of (by simp [ints_len,pgs_len];omega)
  cases hd:c.dirty
  ·refine ⟨_,_,ar,ks.erase c.page,hfs,h.cut c.page,?_⟩
   rw [hd,if_neg (by simp)]
   refine e25_run _ _ _ _ _ _ _ _ _ _ (o:=.doneM ?v3 ?m3) ?h3 (.done ?n3)
   case h3 =>
    unfold e25
    rw [h.len,decide_eq_false hlt,cond_false,icM_of mk42_inj (idxa_ok h hL),h4]
    dsimp only
    rw [decide_eq_false (show ¬((pre.length:Nat):Int) < 0 by omega),cond_false,gd_of (by simp),hg,toNat_cast,Nat.zero_add,ints_pgs_get hk,kI_mk,h.mf hc,kP_mk,h.ax hc,d63_pl,hd,cond_false,del_in,opt_mk,hgd,wi _ (by omega),toNat_cast,hrow]
    all_goals rfl
   case n3=>kernel_rfl
  ·have hoff:Rep (ar.set (ix c.page) (.agg [.str c.s,.int .i64 c.pins,.bool false,.int .i64 c.first,.int .i64 c.last])) (ks.erase c.page) ix (cutP L c.page) :=
    (h.cut c.page).off (fun y hy e=>by
     have:=List.mem_filter.1 hy
     exact (show y.page≠c.page by simpa using this.2) (h.inj y this.1 c hc e)) _
   refine ⟨_,_,_,ks.erase c.page,hfs,hoff,?_⟩
   rw [hd,if_pos rfl]
   have hpg:=g.pg c hc
   refine e25_run _ _ _ _ _ _ _ _ _ _ (o:=.doneM ?v4 ?m4) ?h4 (.done ?n4)
   case h4 =>
    unfold e25
    rw [h.len,decide_eq_false hlt,cond_false,icM_of mk42_inj (idxa_ok h hL),h4]
    dsimp only
    rw [decide_eq_false (show ¬((pre.length:Nat):Int) < 0 by omega),cond_false,gd_of (by simp),hg,toNat_cast,Nat.zero_add,ints_pgs_get hk,kI_mk,h.mf hc,kP_mk,h.ax hc,d63_pl,hd,cond_true,h.mf hc,kP_mk,h.ax hc,d63_pl,icM_of mk45_inj (write_ok ar a1 n ws z c.page c.s hpg.1 hpg.2 hw (g.bs c hc))]
    dsimp only
    rw [h.mf hc,kP_mk,h.ax hc,d63_pl,del_in,opt_mk,hgd,wi _ (by omega),toNat_cast,hrow]
    all_goals rfl
   case n4=>kernel_rfl
end
section
variable {p:Int} {ar a1:List V} {pl sure n:Int} {ks:List Int} {ix:Int->Nat} {L:List Pg} {ws:Ws} {z:Nat}
def pinX (x:Pg):Pg:={ x with pins:=W .i64 (x.pins+1) }
def newX (ws:Ws) (p:Int):Pg:=⟨p,cont ws p,1,false,0,0⟩
def pinS (pl sure n:Int) (L:List Pg) (ws:Ws) (p:Int):Bs × Int × List Pg × Ws :=
 if 0<=p/\p < n then
  match findP L p with
  | some x=>(x.s,0,cutP L p++[pinX x],ws)
  | none =>
   match freeS pl sure L ws with
   | none=>([],6,L,ws)
   | some r=>(cont ws p,0,r.1++[newX ws p],r.2)
 else ([],1,L,ws)
theorem pgs_app (A B:List Pg):pgs (A++B)=pgs A++pgs B:=by simp [pgs]
theorem filter_out {l:List Int} {p:Int} (h:p∉l):l.filter (· != p)=l:=List.filter_eq_self.2 fun y hy=>by
 have:y≠p:=by rintro rfl;exact h hy
 simpa using this
theorem cut_ren {x x':Pg} (h:Rep ar ks ix L) (hx:x∈L) (hp:x'.page=x.page):Rep (ar.set (ix x.page) (placeV x')) ks ix (cutP L x.page++[x']):=by
 refine h.set hx hp ?_ ?_
 ·have:=(cut_perm h.nd hx).map Pg.page
  rw [pgs_app]
  simpa [pgs,hp] using this
 ·intro y hy
  rcases List.mem_append.1 hy with hy | hy
  ·have:=List.mem_filter.1 hy
   exact .inr ⟨this.1,by simpa using this.2⟩
  ·exact .inl (by simpa using hy)
theorem freeS_pgs {L':List Pg} {ws':Ws} (h:freeS pl sure L ws=some (L',ws')):∀x∈L',x∈L:=by
 unfold freeS at h
 split at h
 ·cases h;exact fun x hx=>hx
 ·obtain ⟨c,hc,e⟩:=omi.1 h
  cases e
  intro x hx
  exact (List.mem_filter.1 hx).1
theorem freeS_len {L':List Pg} {ws':Ws} (hn:(pgs L).Nodup) (hl:(L.length:Int)<=pl) (h:freeS pl sure L ws=some (L',ws')):(L'.length:Int) < pl:=by
 unfold freeS at h
 split at h
 ·cases h;assumption
 ·obtain ⟨c,hc,e⟩:=omi.1 h
  cases e
  have hcm:c∈L:=List.mem_of_find?_eq_some hc
  have:=(cut_perm hn hcm).length_eq
  simp at this
  omega
theorem pin_ok (h:Rep ar ks ix L) (g:Good pl n L ws) (hw:ws.length<=100000) (p:Int) :
  ∃ar' ks' ix' z',Rep ar' ks' ix' (pinS pl sure n L ws p).2.2.1 /\
   icC qcfg ⟨false,false⟩ 9 [.ptr 2 0 0,.int .i64 p] (plm ar a1 pl sure n (mpV ks ix) (pgs L) ws z) =
    some (mk9 ((pinS pl sure n L ws p).1,(pinS pl sure n L ws p).2.1,ar',a1,pl,sure,n,mpV ks' ix',[],ints (pgs (pinS pl sure n L ws p).2.2.1),wsV (pinS pl sure n L ws p).2.2.2,z')):=by
 by_cases hr:0<=p/\p < n
 case neg =>
  rw [show pinS pl sure n L ws p=([],1,L,ws) from if_neg hr]
  refine ⟨ar,ks,ix,z,h,?_⟩
  by_cases h0:p < 0
  ·refine e9_run _ _ _ _ _ _ _ _ _ _ _ (o:=.doneM ?v1 ?m1) ?h1 (.done ?n1)
   case h1 =>
    unfold e9
    rw [decide_eq_true h0,cond_true]
   case n1=>kernel_rfl
  ·refine e9_run _ _ _ _ _ _ _ _ _ _ _ (o:=.doneM ?v2 ?m2) ?h2 (.done ?n2)
   case h2 =>
    unfold e9
    rw [decide_eq_false h0,cond_false,decide_eq_true (show p ≥ n by omega),cond_true]
   case n2=>kernel_rfl
 case pos =>
  have hd0:decide (p < 0)=false:=decide_eq_false (by omega)
  have hd1:decide (p ≥ n)=false:=decide_eq_false (by omega)
  have hy:=g.l100
  cases hf:findP L p with
  | some x =>
   have e:pinS pl sure n L ws p=(x.s,0,cutP L p++[pinX x],ws):=by unfold pinS;rw [if_pos hr,hf]
   rw [e]
   obtain ⟨hx,rfl⟩:=findP_some hf
   refine ⟨_,ks,ix,z,cut_ren h hx (x':=pinX x) rfl,?_⟩
   have hag:ints (pgs (cutP L x.page++[pinX x]))=ints ((pgs L).filter (· != x.page)++[x.page]):=by rw [pgs_app,pgs_cut];rfl
   rw [hag]
   refine e9_run _ _ _ _ _ _ _ _ _ _ _ (o:=.doneM ?v3 ?m3) ?h3 (.done ?n3)
   case h3 =>
    unfold e9
    rw [hd0,cond_false,hd1,cond_false,h.mf hx,kP_mk,icM_of mk26_inj (young_ok ar a1 pl sure n (mpV ks ix) (pgs L) ws z x.page (by rw [pgs_len];omega))]
    dsimp only
    rw [h.mf hx,kP_mk,h.ax hx,d63_pl,h.ax hx,d63_pl,h.mf hx,kP_mk,set_ax h hx,d63_v]
    all_goals rfl
   case n3=>kernel_rfl
  | none =>
   have hrd:=read_ok ar a1 n ws z p hr.1 hr.2 hw g.ok
   rcases free_ok (a1:=a1) (sure:=sure) (z:=ws.length) h g hw with ⟨f1,f2⟩ | ⟨L',ws',ar',ks',f1,f2,f3⟩
   ·have e:pinS pl sure n L ws p=([],6,L,ws):=by unfold pinS;rw [if_pos hr,hf];dsimp only;rw [f1]
    rw [e]
    refine ⟨ar,ks,ix,ws.length,h,?_⟩
    refine e9_run _ _ _ _ _ _ _ _ _ _ _ (o:=.doneM ?v4 ?m4) ?h4 (.done ?n4)
    case h4 =>
     unfold e9
     rw [hd0,cond_false,hd1,cond_false,h.mn hf,icM_of mk15_inj hrd]
     dsimp only
     rw [ibne_f rfl,cond_false,icM_of mk25_inj f2]
     dsimp only
     rw [ibne_t (by decide),cond_true]
    case n4=>kernel_rfl
   ·have e:pinS pl sure n L ws p=(cont ws p,0,L'++[newX ws p],ws'):=by unfold pinS;rw [if_pos hr,hf];dsimp only;rw [f1]
    rw [e]
    have hn:p∉pgs L':=fun hp=>by
     obtain ⟨x,hx,e⟩:=List.mem_map.1 hp
     exact findP_none hf (List.mem_map.2 ⟨x,freeS_pgs f1 x hx,e⟩)
    have hl':L'.length<=100000:=by have:=freeS_len h.nd g.len f1;have:=g.pl;omega
    have ha:=f2.add (x:=⟨p,cont ws p,0,false,0,0⟩) hn
    have hm:(⟨p,cont ws p,0,false,0,0⟩:Pg)∈L'++[⟨p,cont ws p,0,false,0,0⟩]:=by simp
    have hcl:cutP (L'++[⟨p,cont ws p,0,false,0,0⟩]) p=L':=by
     rw [cut_split ha.nd (c:=⟨p,cont ws p,0,false,0,0⟩) (post:=[]) rfl,List.append_nil]
    have hfin:=cut_ren ha hm (x':=newX ws p) rfl
    have hmp:=mpV_add f2 (x:=⟨p,cont ws p,0,false,0,0⟩) hn ar'.length
    rw [show (⟨p,cont ws p,0,false,0,0⟩:Pg).page=p from rfl] at hfin hmp
    rw [hcl] at hfin
    refine ⟨_,_,_,ws.length,hfin,?_⟩
    have hag:ints (pgs (L'++[newX ws p]))=ints ((pgs L').filter (· != p)++[p]):=by rw [pgs_app,filter_out hn];rfl
    rw [hag]
    refine e9_run _ _ _ _ _ _ _ _ _ _ _ (o:=.doneM ?v5 ?m5) ?h5 (.done ?n5)
    case h5 =>
     unfold e9
     rw [hd0,cond_false,hd1,cond_false,h.mn hf,icM_of mk15_inj hrd]
     dsimp only
     rw [ibne_f rfl,cond_false,icM_of mk25_inj f3]
     dsimp only
     rw [ibne_f rfl,cond_false,put_out (fun hk=>hn (f2.perm.mem_iff.1 hk)),opt_mk,hmp,
      icM_of mk26_inj (young_ok (ar'++[V.agg [V.str (cont ws p),V.int .i64 0,V.bool false,V.int .i64 0,V.int .i64 0]]) a1 pl sure n (mpV (ks'++[p]) (updI ix p ar'.length)) (pgs L') ws' ws.length p (by rw [pgs_len];omega))]
     dsimp only
     have q1:=ha.mf hm
     have q2:=ha.ax hm
     have q3:=fun v k=>set_ax ha hm v k
     dsimp only at q1 q2 q3
     rw [q1,kP_mk]
     change idxK (ar'++[placeV ⟨p,cont ws p,0,false,0,0⟩]) _ _=_
     rw [q2,d63_pl]
     dsimp only
     change idxK (ar'++[placeV ⟨p,cont ws p,0,false,0,0⟩]) _ _=_
     rw [q2,d63_pl,q1,kP_mk]
     change idxK ((ar'++[placeV ⟨p,cont ws p,0,false,0,0⟩]).set _ _) _ _=_
     rw [q3,d63_v]
     all_goals rfl
    case n5=>kernel_rfl
theorem keyInts_mp:∀ks:List Int,(∀k∈ks,-9223372036854775808<=k/\k<=9223372036854775807)->keyInts (mpV ks ix)=some ks
 | [],_=>rfl
 | k::ks,h=>by
  have ih:keyInts (mpV ks ix)=some ks:=keyInts_mp ks fun k hk=>h k (by simp [hk])
  unfold keyInts mpV at *
  rw [List.map_cons]
  unfold mapO
  rw [ih]
  have e:keyI (ent ix k).1=some k:=if_pos (h k (by simp))
  rw [e]
  rfl
def In64 (L:List Pg):Prop:=∀x∈L,-9223372036854775808<=x.page/\x.page<=9223372036854775807
theorem Gd64 (hpg:∀x∈L,0<=x.page/\x.page < n) (hn:n<=1000000):In64 L:=fun x hx=>by have:=hpg x hx;omega
theorem Good.in64 (g:Good pl n L ws) (hn:n<=1000000):In64 L:=Gd64 g.pg hn
theorem pages_ok (h:Rep ar ks ix L) (hL:L.length<=100000) (h64:In64 L) :
  icC qcfg ⟨true,false⟩ 19 [.ptr 2 0 0] (plm ar a1 pl sure n (mpV ks ix) (pgs L) ws z) =
   some (mk19 (ar,a1,pl,sure,n,mpV ks ix,ints (pgs L),[],wsV ws,z,ints (srt ks))):=by
 refine e19_run _ _ _ _ _ _ _ _ _ _ (o:=.doneM ?v1000 ?m1000) ?h1000 (.done ?n1000)
 case h1000 =>
  unfold e19
  rw [keyInts_mp _ (fun k hk=>by
   obtain ⟨x,hx,e⟩:=List.mem_map.1 (h.perm.mem_iff.1 hk)
   exact e ▸ h64 x hx),opt_mk,gd_of (by have:=h.perm.length_eq;rw [pgs_len] at this;simp;omega)]
 case n1000=>kernel_rfl
end
section
variable {p:Int} {ar a1:List V} {pl sure n:Int} {ks:List Int} {ix:Int->Nat} {L:List Pg} {ws:Ws} {z:Nat}
def washX (y:Pg):Pg:={ y with dirty:=false }
def mayP (sure:Int) (x:Pg):Bool:=x.dirty && decide (x.last<=sure)
def clean1 (sure:Int) (s:List Pg × Ws × Nat) (p:Int):List Pg × Ws × Nat :=
 match findP s.1 p with
 | some x=>if mayP sure x then (updP s.1 p washX,s.2.1++[(p,x.s)],s.2.2+1) else s
 | none=>s
def cleanF (sure:Int) (r:List Int) (s:List Pg × Ws × Nat):List Pg × Ws × Nat:=r.foldl (clean1 sure) s
structure Gd (n:Int) (L:List Pg) (ws:Ws):Prop where
 bs:∀x∈L,x.s.length=252
 pg:∀x∈L,0<=x.page/\x.page < n
 ok:wsOk ws
theorem mem_upd {f:Pg->Pg} {y:Pg} (h:y∈updP L p f):∃x∈L,y=x∨(y=f x/\x.page=p):=by
 obtain ⟨x,hx,e⟩:=List.mem_map.1 h
 by_cases hp:x.page=p
 ·rw [if_pos hp] at e;exact ⟨x,hx,.inr ⟨e.symm,hp⟩⟩
 ·rw [if_neg hp] at e;exact ⟨x,hx,.inl e.symm⟩
theorem Gd.wash (g:Gd n L ws) {x:Pg} (hx:x∈L):Gd n (updP L x.page washX) (ws++[(x.page,x.s)]):=by
 refine ⟨?_,?_,?_⟩
 ·intro y hy
  obtain ⟨w,hw,e | ⟨e,_⟩⟩:=mem_upd hy
  ·exact e ▸ g.bs w hw
  ·rw [e];exact g.bs w hw
 ·intro y hy
  obtain ⟨w,hw,e | ⟨e,_⟩⟩:=mem_upd hy
  ·exact e ▸ g.pg w hw
  ·rw [e];exact g.pg w hw
 ·intro w hw
  rcases List.mem_append.1 hw with hw | hw
  ·exact g.ok w hw
  ·simp only [List.mem_singleton] at hw
   rw [hw];exact g.bs x hx
theorem findP_in {c:Int} (h:c∈pgs L):∃x,findP L c=some x/\x∈L/\x.page=c:=by
 cases hf:findP L c with
 | none=>exact absurd h (findP_none hf)
 | some x=>exact ⟨x,rfl,findP_some hf⟩
theorem cleanB (pl:Int) (l:List Int) (hl:l.length<=100000) (ag:List V) (z:Nat):∀(r:List Int) (k:Nat) (L:List Pg) (ws:Ws) (cnt:Nat) (ar:List V),Rep ar ks ix L->Gd n L ws->ws.length+r.length<=100000->cnt+r.length<=100000 ->
  (∀c∈r,c∈pgs L)->l.drop k=r->k<=l.length ->
  ∃ar',Rep ar' ks ix (cleanF sure r (L,ws,cnt)).1/\Go qk true 8 fa14 (.head 0 (T14_0b (cnt:Int) (l.length:Int) (k:Int) ar a1 pl sure n (mpV ks ix) ag [] (ints l) (wsV ws) z))
   (.doneM (.int .i64 ((cleanF sure r (L,ws,cnt)).2.2:Int)) [.arena 63 ar',.arena 7 a1,.box 59 (.agg [.ptr 3 0 0,.int .i64 pl,.mp 4,.tail 5 0,.int .i64 sure]) false,.box 56 (.agg [.int .i64 n,.mp 6,.tail 9 0]) false,.map (mpV ks ix),.row 3 ag 0,.map [],.dead,.row 3 (ints l) 0,.row 88 (wsV (cleanF sure r (L,ws,cnt)).2.1) z])
 | [],k,L,ws,cnt,ar,h,g,hw,hc,hm,e,hk=>by
  have:l.length<=k:=List.drop_eq_nil_iff.1 e
  refine ⟨ar,h,?_⟩
  refine s14_0b_run _ _ _ _ _ _ _ _ _ _ _ _ _ _ ?_ (.refl _)
  unfold s14_0b
  rw [decide_eq_false (by omega)];rfl
 | c::r,k,L,ws,cnt,ar,h,g,hw,hc,hm,e,hk=>by
  obtain ⟨h1,h2,h3⟩:=drop_cons e
  obtain ⟨x,hf,hx,hxc⟩:=findP_in (hm c (by simp))
  subst hxc
  have hg:gd (decide (((k:Nat):Int).toNat < (ints l).length))=fun q=>q:=by funext q;exact gd_of (by simp [ints_len];omega)
  simp only [List.length_cons] at hw hc
  have hpg:=g.pg x hx
  cases hmay:mayP sure x
  ·have ef:cleanF sure (x.page::r) (L,ws,cnt)=cleanF sure r (L,ws,cnt):=by
    show cleanF sure r (clean1 sure (L,ws,cnt) x.page)=_
    unfold clean1;rw [hf];dsimp only;rw [hmay];rfl
   obtain ⟨ar',r1,r2⟩:=cleanB pl l hl ag z r (k+1) L ws cnt ar h g (by omega) (by omega) (fun c hc=>hm c (by simp [hc])) h3 (by omega)
   rw [ef]
   refine ⟨ar',r1,s14_0b_run _ _ _ _ _ _ _ _ _ _ _ _ _ _ ?_ r2⟩
   unfold s14_0b
   rw [decide_eq_true (by omega),cond_true,gd_of (by simp),hg,toNat_cast,idxK_ints h2,kI_mk,h.mf hx,kP_mk,h.ax hx,d63_pl,wi k (by omega),h.ax hx,d63_pl]
   unfold mayP at hmay
   cases hd:x.dirty
   ·rfl
   ·rw [hd,Bool.true_and] at hmay;rw [hmay];rfl
  ·have ef:cleanF sure (x.page::r) (L,ws,cnt)=cleanF sure r (updP L x.page washX,ws++[(x.page,x.s)],cnt+1):=by
    show cleanF sure r (clean1 sure (L,ws,cnt) x.page)=_
    unfold clean1;rw [hf];dsimp only;rw [hmay];rfl
   have hu:=h.upd hx (f:=washX) fun _=>rfl
   obtain ⟨ar',r1,r2⟩:=cleanB pl l hl ag z r (k+1) (updP L x.page washX) (ws++[(x.page,x.s)]) (cnt+1) _ hu (g.wash hx) (by simp;omega) (by omega) (fun c hc=>by rw [pgs_upd (f:=washX) fun _=>rfl];exact hm c (by simp [hc])) h3 (by omega)
   rw [ef]
   refine ⟨ar',r1,s14_0b_run _ _ _ _ _ _ _ _ _ _ _ _ _ _ ?_ r2⟩
   unfold s14_0b
   simp only [mayP,Bool.and_eq_true,decide_eq_true_eq] at hmay
   rw [decide_eq_true (by omega),cond_true,gd_of (by simp),hg,toNat_cast,idxK_ints h2,kI_mk,h.mf hx,kP_mk,h.ax hx,d63_pl,hmay.1,cond_true,wi k (by omega),h.ax hx,d63_pl,decide_eq_true hmay.2,cond_true,h.mf hx,kP_mk,h.ax hx,d63_pl,
    icM_of mk45_inj (write_ok ar a1 n ws z x.page x.s hpg.1 hpg.2 (by omega) (g.bs x hx))]
   dsimp only
   rw [h.mf hx,kP_mk,h.ax hx,d63_pl,wi cnt (by omega)]
   rfl
theorem cleanA (m0:List O) (pl:Int) (l:List Int) (hl:l.length<=100000) (ag:List V) (z:Nat) (L:List Pg) (ws:Ws) (ar:List V) (h:Rep ar ks ix L) (g:Gd n L ws) (hm0:∃a b c d e f ag0 wl k,m0=plm a b c d e f ag0 wl k):∀(r:List Int) (k:Nat),ws.length+r.length<=100000 ->
  (∀c∈r,c∈pgs L)->l.drop k=r->k<=l.length ->
  ∃ar',Rep ar' ks ix (cleanF sure r (L,ws,0)).1/\GoN qk 8 fa14 ⟨false,false⟩ m0 (.head 0 (T14_0 (l.length:Int) (k:Int) ar a1 pl sure n (mpV ks ix) ag [] (wsV ws) z (ints l)))
   (mk14 (((cleanF sure r (L,ws,0)).2.2:Int),ar',a1,pl,sure,n,mpV ks ix,[],ag,wsV (cleanF sure r (L,ws,0)).2.1,z))
 | [],k,hw,hm,e,hk=>by
  have:l.length<=k:=List.drop_eq_nil_iff.1 e
  refine ⟨ar,h,.step (fun o'' hg=>s14_0_run _ _ _ _ _ _ _ _ _ _ _ _ _ (o:=.doneM (.int .i64 0) [.arena 63 ar,.arena 7 a1,.box 59 (.agg [.ptr 3 0 0,.int .i64 pl,.mp 4,.tail 5 0,.int .i64 sure]) false,.box 56 (.agg [.int .i64 n,.mp 6,.tail 7 0]) false,.map (mpV ks ix),.row 3 ag 0,.map [],.row 88 (wsV ws) z,.row 3 (ints l) 0]) ?_ hg) (.done ?_)⟩
  ·unfold s14_0
   rw [decide_eq_false (by omega)];rfl
  ·obtain ⟨_,_,_,_,_,_,_,_,_,rfl⟩:=hm0
   show _=_
   kernel_rfl
 | c::r,k,hw,hm,e,hk=>by
  obtain ⟨h1,h2,h3⟩:=drop_cons e
  obtain ⟨x,hf,hx,hxc⟩:=findP_in (hm c (by simp))
  subst hxc
  have hg:gd (decide (((k:Nat):Int).toNat < (ints l).length))=fun q=>q:=by funext q;exact gd_of (by simp [ints_len];omega)
  simp only [List.length_cons] at hw
  have hpg:=g.pg x hx
  cases hmay:mayP sure x
  ·have ef:cleanF sure (x.page::r) (L,ws,0)=cleanF sure r (L,ws,0):=by
    show cleanF sure r (clean1 sure (L,ws,0) x.page)=_
    unfold clean1;rw [hf];dsimp only;rw [hmay];rfl
   obtain ⟨ar',r1,r2⟩:=cleanA m0 pl l hl ag z L ws ar h g hm0 r (k+1) (by omega) (fun c hc=>hm c (by simp [hc])) h3 (by omega)
   rw [ef]
   refine ⟨ar',r1,.step (fun o'' hg'=>s14_0_run _ _ _ _ _ _ _ _ _ _ _ _ _ ?_ hg') r2⟩
   unfold s14_0
   rw [decide_eq_true (by omega),cond_true,gd_of (by simp),hg,toNat_cast,idxK_ints h2,kI_mk,h.mf hx,kP_mk,h.ax hx,d63_pl,wi k (by omega),h.ax hx,d63_pl]
   unfold mayP at hmay
   cases hd:x.dirty
   ·rfl
   ·rw [hd,Bool.true_and] at hmay;rw [hmay];rfl
  ·have ef:cleanF sure (x.page::r) (L,ws,0)=cleanF sure r (updP L x.page washX,ws++[(x.page,x.s)],1):=by
    show cleanF sure r (clean1 sure (L,ws,0) x.page)=_
    unfold clean1;rw [hf];dsimp only;rw [hmay];rfl
   have hu:=h.upd hx (f:=washX) fun _=>rfl
   obtain ⟨ar',r1,r2⟩:=cleanB (sure:=sure) (a1:=a1) pl l hl ag z r (k+1) (updP L x.page washX) (ws++[(x.page,x.s)]) 1 _ hu (g.wash hx) (by simp;omega) (by have:=hw;omega) (fun c hc=>by rw [pgs_upd (f:=washX) fun _=>rfl];exact hm c (by simp [hc])) h3 (by omega)
   rw [ef]
   refine ⟨ar',r1,.step (fun o'' hg'=>s14_0_run _ _ _ _ _ _ _ _ _ _ _ _ _ ?_ hg') ⟨_,_,r2,?_⟩⟩
   ·unfold s14_0
    simp only [mayP,Bool.and_eq_true,decide_eq_true_eq] at hmay
    rw [decide_eq_true (by omega),cond_true,gd_of (by simp),hg,toNat_cast,idxK_ints h2,kI_mk,h.mf hx,kP_mk,h.ax hx,d63_pl,hmay.1,cond_true,wi k (by omega),h.ax hx,d63_pl,decide_eq_true hmay.2,cond_true,h.mf hx,kP_mk,h.ax hx,d63_pl,
     icM_of mk45_inj (write_ok ar a1 n ws z x.page x.s hpg.1 hpg.2 (by omega) (g.bs x hx))]
    dsimp only
    rw [h.mf hx,kP_mk,h.ax hx,d63_pl]
    rfl
   ·obtain ⟨_,_,_,_,_,_,_,_,_,rfl⟩:=hm0
    show _=_
    kernel_rfl
theorem srt_perm (l:List Int):(srt l).Perm l:=List.mergeSort_perm l _
theorem srt_in (h:Rep ar ks ix L):∀c∈srt ks,c∈pgs L:=fun c hc=>h.perm.mem_iff.1 ((srt_perm ks).mem_iff.1 hc)
theorem srt_len (h:Rep ar ks ix L):(srt ks).length=L.length:=by rw [(srt_perm ks).length_eq,h.perm.length_eq,pgs_len]
theorem clean_ok (h:Rep ar ks ix L) (g:Gd n L ws) (hL:L.length<=100) (h64:In64 L) (hw:ws.length<=90000) :
  ∃ar',Rep ar' ks ix (cleanF sure (srt ks) (L,ws,0)).1 /\
   icC qcfg ⟨false,false⟩ 14 [.ptr 2 0 0] (plm ar a1 pl sure n (mpV ks ix) (pgs L) ws z) =
    some (mk14 (((cleanF sure (srt ks) (L,ws,0)).2.2:Int),ar',a1,pl,sure,n,mpV ks ix,[],ints (pgs L),wsV (cleanF sure (srt ks) (L,ws,0)).2.1,z)):=by
 have hl:=srt_len h
 obtain ⟨ar',r1,r2⟩:=cleanA (sure:=sure) (a1:=a1) (plm ar a1 pl sure n (mpV ks ix) (pgs L) ws z) pl (srt ks) (by omega) (ints (pgs L)) z L ws ar h g ⟨_,_,_,_,_,_,_,_,_,rfl⟩ (srt ks) 0 (by omega) (srt_in h) rfl (by omega)
 refine ⟨ar',r1,e14_run _ _ _ _ _ _ _ _ _ _ ?_ r2⟩
 unfold e14
 rw [icM_of mk19_inj (pages_ok h (by omega) h64)]
 dsimp only
 rw [ints_len]
 rfl
end
section
variable {p:Int} {ar a1:List V} {pl sure n:Int} {ks:List Int} {ix:Int->Nat} {L:List Pg} {ws:Ws} {z:Nat}
def dirtyB (L:List Pg) (c:Int):Bool:=match findP L c with | some x=>x.dirty | none=>false
abbrev drm (ar a1:List V) (pl sure n:Int) (mp:List (V × V)) (row:List V) (ages:List Int) (ws:Ws) (z:Nat):List O :=
 [.arena 63 ar,.arena 7 a1,.row 3 row 0,.box 27 (.ptr 4 0 0) false,.box 59 (.agg [.ptr 5 0 0,.int .i64 pl,.mp 6,.tail 7 0,.int .i64 sure]) false,.box 56 (.agg [.int .i64 n,.mp 8,.tail 9 0]) false,.map mp,.row 3 (ints ages) 0,.map [],.row 88 (wsV ws) z]
theorem idxb_loop (h:Rep ar ks ix L) (a:List Int) (ha:a.length<=100000) (hm:∀c∈a,c∈pgs L):∀(r:List Int) (k:Nat),a.drop k=r->k<=a.length ->
  Go qk true 10 fa42 (.head 0 (T42b_0 (a.length:Int) (k:Int) ar a1 (ints a) pl sure n (mpV ks ix) (ints (pgs L)) [] (wsV ws) z)) (.doneM (.int .i64 (idxF (fun c=>!dirtyB L c) k r)) (drm ar a1 pl sure n (mpV ks ix) (ints a) (pgs L) ws z))
 | [],k,e,hk=>by
  have:a.length<=k:=List.drop_eq_nil_iff.1 e
  refine s42b_0_run _ _ _ _ _ _ _ _ _ _ _ _ _ ?_ (.refl _)
  unfold s42b_0
  rw [decide_eq_false (by omega)];rfl
 | c::r,k,e,hk=>by
  obtain ⟨h1,h2,h3⟩:=drop_cons e
  obtain ⟨x,hf,hx,hxc⟩:=findP_in (hm c (List.mem_of_getElem? h2))
  subst hxc
  have hg:gd (decide (((k:Nat):Int).toNat < (ints a).length))=fun q=>q:=by funext q;exact gd_of (by simp [ints_len];omega)
  have ih:=idxb_loop h a ha hm r (k+1) h3 (by omega)
  have hb:dirtyB L x.page=x.dirty:=by unfold dirtyB;rw [hf]
  cases hd:x.dirty
  ·refine s42b_0_run _ _ _ _ _ _ _ _ _ _ _ _ _ ?_ (.refl _)
   unfold s42b_0 idxF
   rw [decide_eq_true (by omega),cond_true,gd_of (by simp),hg,toNat_cast,idxK_ints h2,kI_mk,h.mf hx,kP_mk,h.ax hx,d63_pl,hd,hb,hd];rfl
  ·refine s42b_0_run _ _ _ _ _ _ _ _ _ _ _ _ _ ?_ (by unfold idxF;rw [hb,hd,if_neg (by simp)];exact ih)
   unfold s42b_0
   rw [decide_eq_true (by omega),cond_true,gd_of (by simp),hg,toNat_cast,idxK_ints h2,kI_mk,h.mf hx,kP_mk,h.ax hx,d63_pl,hd,wi k (by omega)];rfl
theorem idxb_ok (h:Rep ar ks ix L) (a:List Int) (ha:a.length<=100000) (hm:∀c∈a,c∈pgs L) :
  icC qcfg ⟨true,false⟩ 42 [.own 2,.fn 40 [.ptr 3 0 0]] (drm ar a1 pl sure n (mpV ks ix) (ints a) (pgs L) ws z)=some (mk42b (idxF (fun c=>!dirtyB L c) 0 a,ar,a1,ints a,pl,sure,n,mpV ks ix,ints (pgs L),[],wsV ws,z)):=by
 refine e42b_run _ _ _ _ _ _ _ _ _ _ _ ?_ ⟨_,_,idxb_loop (a1:=a1) (pl:=pl) (sure:=sure) (n:=n) (ws:=ws) (z:=z) h a ha hm a 0 rfl (by omega),by kernel_rfl⟩
 unfold e42b
 rw [ints_len];rfl
theorem dela_loop (h:Rep ar ks ix L) (m:Nat) (hn:m<=100000):∀(r row:List Int) (i j:Nat),row.drop j=r->row.length=m->j<=m->i<=j->(∀c∈r,c∈pgs L) ->
  ∃row':List Int,row'.length=m/\row'.take (i+(r.filter (dirtyB L)).length)=row.take i++r.filter (dirtyB L)/\i+(r.filter (dirtyB L)).length<=m /\
   Go qk true 10 fa39 (.head 0 (T39_0 (i:Int) (j:Int) ar a1 (ints row) pl sure n (mpV ks ix) (ints (pgs L)) [] (wsV ws) z))
    (.doneM (.win 2 0 (i+(r.filter (dirtyB L)).length)) (drm ar a1 pl sure n (mpV ks ix) (delRow row' (i+(r.filter (dirtyB L)).length)) (pgs L) ws z++[.row 3 [] 0]))
 | [],row,i,j,e,hr,hj,hi,hm=>by
  have hjl:row.length<=j:=List.drop_eq_nil_iff.1 e
  refine ⟨row,hr,by simp,by simp;omega,?_⟩
  refine s39_0_run _ _ _ _ _ _ _ _ _ _ _ _ _ ?_ (.refl _)
  unfold s39_0
  rw [decide_eq_false (by rw [ints_len];omega),cond_false,gd_of (wfl_ints row),gd_of (by simp),toNat_cast,gd_of (by simp [ints_len];omega),gd_of (by simp [ints_len];omega)]
  rw [gd_of (wfl_zero2 _ (wfl_ints row) _ _ _),gd_of (by simp),gd_of (by simp [ints_len];omega)]
  rfl
 | c::r,row,i,j,e,hr,hj,hi,hm=>by
  obtain ⟨h1,h2,h3⟩:=drop_cons e
  obtain ⟨x,hf,hx,hxc⟩:=findP_in (hm c (by simp))
  subst hxc
  have hgi:∀k:Nat,k < m->gd (decide (((k:Nat):Int).toNat < (ints row).length))=fun q=>q:=fun k hk=>by funext q;exact gd_of (by simp [ints_len];omega)
  obtain ⟨d,hd⟩:∃d,row[i]? = some d:=⟨_,List.getElem?_eq_getElem (by omega)⟩
  have hb:dirtyB L x.page=x.dirty:=by unfold dirtyB;rw [hf]
  cases hq:x.dirty
  ·obtain ⟨row',e1,e2,e3,e4⟩:=dela_loop h m hn r row i (j+1) h3 hr (by omega) (by omega) (fun c hc=>hm c (by simp [hc]))
   have hff:(x.page::r).filter (dirtyB L)=r.filter (dirtyB L):=List.filter_cons_of_neg (by rw [hb,hq];simp)
   rw [hff]
   refine ⟨row',e1,e2,e3,?_⟩
   refine s39_0_run _ _ _ _ _ _ _ _ _ _ _ _ _ ?_ e4
   unfold s39_0
   rw [decide_eq_true (by rw [ints_len];omega),cond_true,gd_of (by simp),hgi j (by omega),toNat_cast,idxK_ints h2,kI_mk,h.mf hx,kP_mk,h.ax hx,d63_pl,hq,wi j (by omega)];rfl
  ·have hs:(row.set i x.page).drop (j+1)=r:=by rw [List.drop_set_of_lt (by omega)];exact h3
   obtain ⟨row',e1,e2,e3,e4⟩:=dela_loop h m hn r (row.set i x.page) (i+1) (j+1) hs (by simpa using hr) (by omega) (by omega) (fun c hc=>hm c (by simp [hc]))
   have hff:(x.page::r).filter (dirtyB L)=x.page::r.filter (dirtyB L):=List.filter_cons_of_pos (by rw [hb,hq])
   have hl:i+1+(r.filter (dirtyB L)).length=i+(x.page::r.filter (dirtyB L)).length:=by simp;omega
   rw [hl] at e2 e3 e4
   rw [hff]
   refine ⟨row',e1,by rw [e2,set_take (by omega),List.append_assoc];rfl,e3,?_⟩
   refine s39_0_run _ _ _ _ _ _ _ _ _ _ _ _ _ ?_ e4
   unfold s39_0
   rw [decide_eq_true (by rw [ints_len];omega),cond_true,gd_of (by simp),hgi j (by omega),toNat_cast,idxK_ints h2,kI_mk,h.mf hx,kP_mk,h.ax hx,d63_pl,hq,Bool.not_true,Bool.not_false,cond_true,gd_of (by simp),hgi i (by omega),toNat_cast,idxK_ints hd,kI_mk,wi j (by omega),wi i (by omega),ints_set]
theorem filter_preD {pre post:List Int} {c:Int} (h1:∀y∈pre,(!dirtyB L y)=false) (h2:(!dirtyB L c)=true):(pre++c::post).filter (dirtyB L)=pre++post.filter (dirtyB L):=by
 rw [List.filter_append,List.filter_cons_of_neg (by simpa using h2),List.filter_eq_self.2 fun y hy=>by have:=h1 y hy;simpa using this]
theorem dfa_ok (h:Rep ar ks ix L) (a:List Int) (ha:a.length<=100000) (hm:∀c∈a,c∈pgs L) :
  ∃(k:Nat) (row:List V),row.take k=ints (a.filter (dirtyB L))/\k=(a.filter (dirtyB L)).length/\k<=row.length/\k<=a.length /\
   icC qcfg ⟨true,true⟩ 39 [.own 2,.fn 40 [.ptr 3 0 0]] (drm ar a1 pl sure n (mpV ks ix) (ints a) (pgs L) ws z)=some (mk39 (k,ar,a1,row,pl,sure,n,mpV ks ix,ints (pgs L),[],wsV ws,z)):=by
 rcases idxF_spec (fun c=>!dirtyB L c) a 0 with ⟨h1,h2⟩ | ⟨pre,c,post,h1,h2,h3,h4⟩
 ·have hfs:a.filter (dirtyB L)=a:=List.filter_eq_self.2 fun y hy=>by have:=h2 y hy;simpa using this
  refine ⟨a.length,ints a,?_,by rw [hfs],by rw [ints_len];omega,by omega,?_⟩
  ·rw [List.take_of_length_le (by rw [ints_len];omega),hfs]
  ·refine e39_run _ _ _ _ _ _ _ _ _ _ _ (o:=.doneM ?v1 ?m1) ?h1 (.done ?n1)
   case h1 =>
    unfold e39
    rw [icM_of mk42b_inj (idxb_ok h a ha hm),h1]
    rfl
   case n1 =>
    have:(mk39 ((ints a).length - 0,ar,a1,ints a,pl,sure,n,mpV ks ix,ints (pgs L),[],wsV ws,z))=mk39 (a.length,ar,a1,ints a,pl,sure,n,mpV ks ix,ints (pgs L),[],wsV ws,z):=by rw [ints_len];rfl
    rw [<-this]
    show _=_
    kernel_rfl
 ·have hl:pre.length < a.length:=by rw [h1];simp
  have hd:a.drop (pre.length+1)=post:=by rw [h1];simp
  obtain ⟨row',e1,e2,e3,e4⟩:=dela_loop (a1:=a1) (pl:=pl) (sure:=sure) (n:=n) (ws:=ws) (z:=z) h a.length ha post a pre.length (pre.length+1) hd rfl (by omega) (by omega) (fun c hc=>hm c (by rw [h1];simp [hc]))
  have hf:a.filter (dirtyB L)=pre++post.filter (dirtyB L):=by rw [h1];exact filter_preD h2 h3
  have ht:a.take pre.length=pre:=by rw [h1];simp
  refine ⟨_,delRow row' (pre.length+(post.filter (dirtyB L)).length),?_,?_,?_,e3,e39_run _ _ _ _ _ _ _ _ _ _ _ ?_ ⟨_,_,e4,by kernel_rfl⟩⟩
  ·rw [delRow_take (by omega),e2,hf,ht]
  ·rw [hf];simp
  ·rw [delRow_len (by omega)];omega
  ·unfold e39
   rw [icM_of mk42b_inj (idxb_ok h a ha hm),h4]
   dsimp only
   simp only [Nat.zero_add]
   rw [ibeq_f (by omega),cond_false,wi _ (by omega)]
def dirtL (ks:List Int) (L:List Pg):List Int:=(srt ks).filter (dirtyB L)
theorem dirty_ok (h:Rep ar ks ix L) (hL:L.length<=100000) (h64:In64 L) :
  ∃(k:Nat) (row:List V),row.take k=ints (dirtL ks L)/\k=(dirtL ks L).length/\k<=row.length /\
   icC qcfg ⟨true,true⟩ 21 [.ptr 2 0 0] (plm ar a1 pl sure n (mpV ks ix) (pgs L) ws z)=some (mk21 (k,ar,a1,pl,sure,n,mpV ks ix,ints (pgs L),[],wsV ws,z,row)):=by
 obtain ⟨k,row,h1,h2,h3,_,h4⟩:=dfa_ok (a1:=a1) (pl:=pl) (sure:=sure) (n:=n) (ws:=ws) (z:=z) h (srt ks) (by rw [srt_len h];omega) (srt_in h)
 refine ⟨k,row,h1,h2,h3,?_⟩
 refine e21_run _ _ _ _ _ _ _ _ _ _ (o:=.doneM ?v2 ?m2) ?h2 (.done ?n2)
 case h2 =>
  unfold e21
  rw [icM_of mk19_inj (pages_ok h hL h64)]
  dsimp only
  rw [icM_of mk39_inj h4]
 case n2=>kernel_rfl
def firstOf (L:List Pg) (c:Int):Int:=match findP L c with | some x=>x.first | none=>0
def minF (L:List Pg) (a:Int) (c:Int):Int:=if firstOf L c < a then firstOf L c else a
def leastS (ks:List Int) (L:List Pg):Int × Bool:=match dirtL ks L with | []=>(0,false) | c::r=>((c::r).foldl (minF L) (firstOf L c),true)
theorem least_loop (h:Rep ar ks ix L) (d:List Int) (row:List V) (hd:row.take d.length=ints d) (hr:d.length<=row.length) (hl:d.length<=100000) (hm:∀c∈d,c∈pgs L):∀(r:List Int) (k:Nat) (a:Int),d.drop k=r->k<=d.length ->
  Go qk true 8 fa22 (.head 0 (T22_0 a d.length (d.length:Int) (k:Int) ar a1 pl sure n (mpV ks ix) (ints (pgs L)) [] (wsV ws) z row))
   (.doneM (.tup [.int .i64 (r.foldl (minF L) a),.bool true]) (plm ar a1 pl sure n (mpV ks ix) (pgs L) ws z++[.row 3 row 0]))
 | [],k,a,e,hk=>by
  have:d.length<=k:=List.drop_eq_nil_iff.1 e
  refine s22_0_run _ _ _ _ _ _ _ _ _ _ _ _ _ _ _ ?_ (.refl _)
  unfold s22_0
  rw [decide_eq_false (by omega)];rfl
 | c::r,k,a,e,hk=>by
  obtain ⟨h1,h2,h3⟩:=drop_cons e
  obtain ⟨x,hf,hx,hxc⟩:=findP_in (hm c (List.mem_of_getElem? h2))
  subst hxc
  have ih:=least_loop h d row hd hr hl hm r (k+1) (minF L a x.page) h3 (by omega)
  have hb:firstOf L x.page=x.first:=by unfold firstOf;rw [hf]
  have hg:row[k]? = some (.int .i64 x.page):=by
   have:(row.take d.length)[k]? = some (.int .i64 x.page):=by rw [hd];simp [ints,h2]
   rwa [List.getElem?_take_of_lt h1] at this
  refine s22_0_run _ _ _ _ _ _ _ _ _ _ _ _ _ _ _ ?_ ih
  unfold s22_0
  rw [decide_eq_true (by omega),cond_true,gd_of (by simp),toNat_cast,gd_of (by simp;omega),gd_of (by simp;omega),Nat.zero_add,idxK_of hg,kI_mk,h.mf hx,kP_mk,h.ax hx,d63_pl,wi k (by omega)]
  unfold minF
  rw [hb]
theorem least_ok (h:Rep ar ks ix L) (hL:L.length<=100000) (h64:In64 L) :
   icC qcfg ⟨true,false⟩ 22 [.ptr 2 0 0] (plm ar a1 pl sure n (mpV ks ix) (pgs L) ws z)=some (mk22 ((leastS ks L).1,(leastS ks L).2,ar,a1,pl,sure,n,mpV ks ix,ints (pgs L),[],wsV ws,z)):=by
 obtain ⟨k,row,h1,h2,h3,h4⟩:=dirty_ok (a1:=a1) (pl:=pl) (sure:=sure) (n:=n) (ws:=ws) (z:=z) h hL h64
 have hm:∀c∈dirtL ks L,c∈pgs L:=fun c hc=>srt_in h c (List.mem_filter.1 hc).1
 have hlen:(dirtL ks L).length<=L.length:=by rw [<-srt_len h];exact List.length_filter_le _ _
 unfold leastS
 cases hd:dirtL ks L with
 | nil =>
  rw [hd] at h1 h2
  simp only [List.length_nil] at h2
  subst h2
  refine e22_run _ _ _ _ _ _ _ _ _ _ (o:=.doneM ?v3 ?m3) ?h3 (.done ?n3)
  case h3 =>
   unfold e22
   rw [icM_of mk21_inj h4]
   dsimp only
   rw [gd_of (by simp),List.drop_zero,h1]
   all_goals rfl
  case n3=>kernel_rfl
 | cons c r =>
  rw [hd] at h1 h2 hm hlen
  subst h2
  obtain ⟨x,hf,hx,hxc⟩:=findP_in (hm c (by simp))
  have hb:firstOf L c=x.first:=by unfold firstOf;rw [hf]
  have hg:row[0]? = some (.int .i64 c):=by
   have:(row.take (c::r).length)[0]? = some (.int .i64 c):=by rw [h1];rfl
   rwa [List.getElem?_take_of_lt (by simp)] at this
  refine e22_run _ _ _ _ _ _ _ _ _ _ ?_ ⟨_,_,least_loop (a1:=a1) (pl:=pl) (sure:=sure) (n:=n) (ws:=ws) (z:=z) h (c::r) row h1 h3 (by omega) hm (c::r) 0 (firstOf L c) rfl (by omega),by kernel_rfl⟩
  unfold e22
  rw [icM_of mk21_inj h4]
  dsimp only
  rw [gd_of (by simpa using h3),List.drop_zero,h1,ints_len,ibeq_f (by simp;omega),cond_false,gd_of (by simp),gd_of (by simpa using h3),Nat.zero_add,idxK_of hg,kI_mk]
  subst hxc
  rw [h.mf hx,kP_mk,h.ax hx,d63_pl,gd_of (by simpa using h3),hb]
  all_goals rfl
end
section
variable {p:Int} {ar a1:List V} {pl sure n:Int} {ks:List Int} {ix:Int->Nat} {L:List Pg} {ws:Ws} {z:Nat}
theorem Good.gd (g:Good pl n L ws):Gd n L ws:=⟨g.bs,g.pg,g.ok⟩
theorem freeS_ok {L':List Pg} {ws':Ws} (g:Good pl n L ws) (h:freeS pl sure L ws=some (L',ws')):wsOk ws'/\ws'.length<=ws.length+1:=by
 unfold freeS at h
 split at h
 ·cases h;exact ⟨g.ok,by omega⟩
 ·obtain ⟨c,hc,e⟩:=omi.1 h
  cases e
  split
  ·refine ⟨fun w hw=>?_,by simp⟩
   rcases List.mem_append.1 hw with hw | hw
   ·exact g.ok w hw
   ·simp only [List.mem_singleton] at hw
    rw [hw];exact g.bs c (List.mem_of_find?_eq_some hc)
  ·exact ⟨g.ok,by omega⟩
theorem Good.pin (g:Good pl n L ws) (hn:(pgs L).Nodup) (p:Int):Good pl n (pinS pl sure n L ws p).2.2.1 (pinS pl sure n L ws p).2.2.2/\(pinS pl sure n L ws p).2.2.2.length<=ws.length+1:=by
 unfold pinS
 split
 ·rename_i hr
  cases hf:findP L p with
  | some x =>
   obtain ⟨hx,rfl⟩:=findP_some hf
   have hl:=(cut_perm hn hx).length_eq
   simp only [List.length_append,List.length_singleton] at hl
   refine ⟨⟨?_,g.pl,?_,?_,g.ok⟩,by simp⟩
   ·have:=g.len;simp;omega
   ·intro y hy
    rcases List.mem_append.1 hy with hy | hy
    ·exact g.bs y (List.mem_filter.1 hy).1
    ·simp only [List.mem_singleton] at hy;rw [hy];exact g.bs x hx
   ·intro y hy
    rcases List.mem_append.1 hy with hy | hy
    ·exact g.pg y (List.mem_filter.1 hy).1
    ·simp only [List.mem_singleton] at hy;rw [hy];exact g.pg x hx
  | none =>
   cases hq:freeS pl sure L ws with
   | none=>exact ⟨g,by simp⟩
   | some r =>
    obtain ⟨L',ws'⟩:=r
    have h1:=freeS_pgs hq
    have h2:=freeS_len hn g.len hq
    have h3:=freeS_ok g hq
    refine ⟨⟨?_,g.pl,?_,?_,h3.1⟩,h3.2⟩
    ·simp;omega
    ·intro y hy
     rcases List.mem_append.1 hy with hy | hy
     ·exact g.bs y (h1 y hy)
     ·simp only [List.mem_singleton] at hy;rw [hy];exact cont_len g.ok p
    ·intro y hy
     rcases List.mem_append.1 hy with hy | hy
     ·exact g.pg y (h1 y hy)
     ·simp only [List.mem_singleton] at hy;rw [hy];exact hr
 ·exact ⟨g,by simp⟩
theorem Good.upd (g:Good pl n L ws) {f:Pg->Pg} (h1:∀x,(f x).page=x.page) (h2:∀x∈L,(f x).s.length=252) (p:Int):Good pl n (updP L p f) ws:=by
 refine ⟨by have:=g.len;simpa [updP] using this,g.pl,?_,?_,g.ok⟩
 ·intro y hy
  obtain ⟨w,hw,e | ⟨e,_⟩⟩:=mem_upd hy
  ·exact e ▸ g.bs w hw
  ·rw [e];exact h2 w hw
 ·intro y hy
  obtain ⟨w,hw,e | ⟨e,_⟩⟩:=mem_upd hy
  ·exact e ▸ g.pg w hw
  ·rw [e,h1];exact g.pg w hw
theorem Good.unpin (g:Good pl n L ws) (p:Int):Good pl n (if heldE L p=0 then updP L p fun y=>{ y with pins:=W .i64 (y.pins - 1) } else L) ws:=by
 split
 ·exact g.upd (f:=fun y=>{ y with pins:=W .i64 (y.pins - 1) }) (fun _=>rfl) (fun x hx=>g.bs x hx) p
 ·exact g
theorem Good.put (g:Good pl n L ws) (p:Int) (s:Bs) (lsn:Int):Good pl n (if putE L p s lsn=0 then updP L p (putX s lsn) else L) ws:=by
 split
 ·rename_i h
  have hs:s.length<=252:=by
   unfold putE at h
   split at h
   ·split at h
    ·cases h
    ·omega
   ·rename_i h2;exact absurd h h2
  exact g.upd (f:=putX s lsn) (fun _=>rfl) (fun x hx=>padW_len hs) p
 ·exact g
theorem Good.mt (hp:0<=pl/\pl<=64):Good pl n [] []:=⟨by simp;omega,hp.2,by simp,by simp,by intro w hw;cases hw⟩
theorem Rep.mt:Rep [] [] (fun _=>0) []:=⟨.refl _,by simp [pgs],by simp,by simp⟩
theorem pin_at (h:Rep ar ks ix L) (g:Good pl n L ws) (hw:ws.length<=100000) {s:Bs} {e:Int} {L':List Pg} {ws':Ws} (hp:pinS pl sure n L ws p=(s,e,L',ws')) :
  ∃ar' ks' ix' z',Rep ar' ks' ix' L'/\Good pl n L' ws' /\
   icC qcfg ⟨false,false⟩ 9 [.ptr 2 0 0,.int .i64 p] (plm ar a1 pl sure n (mpV ks ix) (pgs L) ws z)=some (mk9 (s,e,ar',a1,pl,sure,n,mpV ks' ix',[],ints (pgs L'),wsV ws',z')):=by
 obtain ⟨ar',ks',ix',z',h1,h2⟩:=pin_ok (a1:=a1) (sure:=sure) (z:=z) h g hw p
 have hg:=(g.pin (sure:=sure) h.nd p).1
 rw [hp] at h1 h2 hg
 exact ⟨ar',ks',ix',z',h1,hg,h2⟩
theorem unpin_at (h:Rep ar ks ix L) (g:Good pl n L ws) {e:Int} {L':List Pg} (he:heldE L p=e) (hl:(if heldE L p=0 then updP L p fun y=>{ y with pins:=W .i64 (y.pins - 1) } else L)=L') :
  ∃ar',Rep ar' ks ix L'/\Good pl n L' ws/\pgs L'=pgs L /\
   icC qcfg ⟨true,false⟩ 10 [.ptr 2 0 0,.int .i64 p] (plm ar a1 pl sure n (mpV ks ix) (pgs L) ws z)=some (mk10 (e,ar',a1,pl,sure,n,mpV ks ix,ints (pgs L'),[],wsV ws,z)):=by
 obtain ⟨ar',h1,h2⟩:=unpin_ok (a1:=a1) (pl:=pl) (sure:=sure) (n:=n) (ws:=ws) (z:=z) h p
 have hg:=g.unpin p
 have hpg:pgs L'=pgs L:=by
  rw [<-hl]
  split
  ·exact pgs_upd fun _=>rfl
  ·rfl
 rw [hl] at h1 hg
 rw [he] at h2
 exact ⟨ar',h1,hg,hpg,by rw [hpg];exact h2⟩
theorem put_at (h:Rep ar ks ix L) (g:Good pl n L ws) {s:Bs} {lsn:Int} {e:Int} {L':List Pg} (he:putE L p s lsn=e) (hl:(if putE L p s lsn=0 then updP L p (putX s lsn) else L)=L') :
  ∃ar',Rep ar' ks ix L'/\Good pl n L' ws/\pgs L'=pgs L /\
   icC qcfg ⟨true,false⟩ 11 [.ptr 2 0 0,.int .i64 p,.str s,.int .i64 lsn] (plm ar a1 pl sure n (mpV ks ix) (pgs L) ws z)=some (mk11 (e,ar',a1,pl,sure,n,mpV ks ix,ints (pgs L'),[],wsV ws,z)):=by
 obtain ⟨ar',h1,h2⟩:=put_ok' (a1:=a1) (pl:=pl) (sure:=sure) (n:=n) (ws:=ws) (z:=z) h p s lsn
 have hg:=g.put p s lsn
 have hpg:pgs L'=pgs L:=by
  rw [<-hl]
  split
  ·exact pgs_upd fun _=>rfl
  ·rfl
 rw [hl] at h1 hg
 rw [he] at h2
 exact ⟨ar',h1,hg,hpg,by rw [hpg];exact h2⟩
def fx0:Pg:=newX [] 0
def fx1:Pg:=putX [97] 5 fx0
def fx2:Pg:={ fx1 with pins:=W .i64 (fx1.pins - 1) }
def fx3:Pg:=newX [] 1
theorem perm_one {ks:List Int} {a:Int} (h:ks.Perm [a]):ks=[a]:=List.perm_singleton.1 h
theorem fixed_run {v:V} {m:List O} (h:e17=some (.doneM v m)) (hf:v.flat1=true):pcW qcfg 17 []=some v :=
 pcW_goA qik rfl fa17_eq rfl hf rfl rfl (e17_eq.trans h) (.refl _)
theorem srt_one (a:Int):srt [a]=[a]:=by simp [srt]
theorem fixed_ok:∃m,e17=some (.doneM (.bool true) m):=by
 have g0:Good 1 4 [] []:=.mt (by decide)
 obtain ⟨ar1,ks1,ix1,z1,r1,g1,c1⟩:=pin_at (a1:=[]) (sure:=0) (p:=4) (z:=0) Rep.mt g0 (by simp) (s:=[]) (e:=1) (L':=[]) (ws':=[]) rfl
 obtain ⟨ar2,ks2,ix2,z2,r2,g2,c2⟩:=pin_at (a1:=[]) (sure:=0) (p:=0) (z:=z1) r1 g1 (by simp) (s:=cont [] 0) (e:=0) (L':=[fx0]) (ws':=[]) rfl
 obtain ⟨ar3,r3,g3,-,c3⟩:=put_at (a1:=[]) (sure:=0) (p:=0) (z:=z2) r2 g2 (s:=[97]) (lsn:=5) (e:=0) (L':=[fx1]) rfl rfl
 obtain ⟨ar4,r4,g4,-,c4⟩:=put_at (a1:=[]) (sure:=0) (p:=0) (z:=z2) r3 g3 (s:=[98]) (lsn:=4) (e:=1) (L':=[fx1]) rfl rfl
 obtain ⟨ar5,r5,g5,-,c5⟩:=put_at (a1:=[]) (sure:=0) (p:=1) (z:=z2) r4 g4 (s:=[99]) (lsn:=5) (e:=7) (L':=[fx1]) rfl rfl
 obtain ⟨ar6,ks6,ix6,z6,r6,g6,c6⟩:=pin_at (a1:=[]) (sure:=0) (p:=1) (z:=z2) r5 g5 (by simp) (s:=[]) (e:=6) (L':=[fx1]) (ws':=[]) rfl
 obtain ⟨ar7,r7,g7,-,c7⟩:=unpin_at (a1:=[]) (sure:=0) (p:=0) (z:=z6) r6 g6 (e:=0) (L':=[fx2]) rfl rfl
 obtain ⟨ar8,r8,g8,-,c8⟩:=unpin_at (a1:=[]) (sure:=0) (p:=0) (z:=z6) r7 g7 (e:=9) (L':=[fx2]) rfl rfl
 obtain ⟨ar9,ks9,ix9,z9,r9,g9,c9⟩:=pin_at (a1:=[]) (sure:=0) (p:=1) (z:=z6) r8 g8 (by simp) (s:=[]) (e:=6) (L':=[fx2]) (ws':=[]) rfl
 have k9:ks9=[0]:=perm_one r9.perm
 have c10:=least_ok (a1:=[]) (pl:=1) (sure:=0) (n:=4) (ws:=[]) (z:=z9) r9 (by simp) (g9.in64 (by decide))
 have l10:leastS ks9 [fx2]=(5,true):=by rw [k9];unfold leastS dirtL;rw [srt_one];rfl
 rw [l10] at c10
 obtain ⟨ar11,ks11,ix11,z11,r11,g11,c11⟩:=pin_at (a1:=[]) (sure:=5) (p:=1) (z:=z9) r9 g9 (by simp) (s:=cont [] 1) (e:=0) (L':=[fx3]) (ws':=[(0,padW [97])]) rfl
 have k11:ks11=[1]:=perm_one r11.perm
 have c12:=read_ok ar11 [] 4 [(0,padW [97])] z11 0 (by decide) (by decide) (by simp) g11.ok
 have c13:=pages_ok (a1:=[]) (pl:=1) (sure:=5) (n:=4) (ws:=[(0,padW [97])]) (z:=1) r11 (by simp) (g11.in64 (by decide))
 obtain ⟨k14,row14,q1,q2,q3,c14⟩:=dirty_ok (a1:=[]) (pl:=1) (sure:=5) (n:=4) (ws:=[(0,padW [97])]) (z:=1) r11 (by simp) (g11.in64 (by decide))
 have d14:dirtL ks11 [fx3]=[]:=by rw [k11];unfold dirtL;rw [srt_one];rfl
 have c15:=pins_ok (a1:=[]) (pl:=1) (sure:=5) (n:=4) (ws:=[(0,padW [97])]) (z:=1) r11 1
 have c16:=pins_ok (a1:=[]) (pl:=1) (sure:=5) (n:=4) (ws:=[(0,padW [97])]) (z:=1) r11 0
 obtain ⟨ar17,r17,c17⟩:=clean_ok (a1:=[]) (pl:=1) (sure:=5) (n:=4) (ws:=[(0,padW [97])]) (z:=1) r11 g11.gd (by simp) (g11.in64 (by decide)) (by simp)
 have s11:srt ks11=[1]:=by rw [k11,srt_one]
 rw [s11] at c13 c17
 have f17:cleanF 5 [1] ([fx3],[(0,padW [97])],0)=([fx3],[(0,padW [97])],0):=rfl
 rw [f17] at c17
 rw [d14] at q1 q2
 simp only [List.length_nil] at q2
 subst q2
 have p18:=padR_ok [97] 252 (by decide)
 rw [padB_252 (by decide)] at p18
 have i35:pcW qcfg 35 [.sl (ints [1]),.sl [.int .i64 1]]=some (.bool true):=intsR_ok [1] [1] (by decide)
 have c1':icC qcfg ⟨false,false⟩ 9 [.ptr 2 0 0,.int .i64 4] [O.arena 63 [],O.arena 7 [],O.box 59 (V.agg [V.ptr 3 0 0,V.int .i64 1,V.mp 4,V.tail 5 0,V.int .i64 0]) false,O.box 56 (V.agg [V.int .i64 4,V.mp 6,V.tail 7 0]) false,O.map [],O.row 3 [] 0,O.map [],O.row 88 [] 0]=_:=c1
 apply Exists.intro
 unfold e17
 rw [icM_of mk9_inj c1'];dsimp only
 rw [icM_of mk9_inj c2];dsimp only
 rw [icM_of mk11_inj c3];dsimp only
 rw [icM_of mk11_inj c4];dsimp only
 rw [icM_of mk11_inj c5];dsimp only
 rw [icM_of mk9_inj c6];dsimp only
 rw [icM_of mk10_inj c7];dsimp only
 rw [icM_of mk10_inj c8];dsimp only
 rw [icM_of mk9_inj c9];dsimp only
 rw [icM_of mk22_inj c10];dsimp only
 rw [show (if (0:Int) < 5 then (5:Int) else 0)=5 from rfl]
 rw [icM_of mk9_inj c11];dsimp only
 rw [icM_of mk15_inj c12];dsimp only
 rw [pcK_of p18,d32_mk]
 have e12:cont [(0,padW [97])] 0=padW [97]:=rfl
 rw [e12,show ([(0,padW [97])]:Ws).length=1 from rfl]
 simp only [beq_self_eq_true,cond_true]
 rw [icM_of mk19_inj c13];dsimp only
 rw [pcK_of i35,kB_mk,cond_true]
 rw [icM_of mk21_inj c14];dsimp only
 rw [gd_of (by simp),List.drop_zero,q1,show (((ints []).length:Nat):Int)=0 from rfl]
 simp only [beq_self_eq_true,cond_true]
 have hp0:((findP [fx3] 1).map Pg.pins).getD 0=1:=rfl
 have hp1:((findP [fx3] 0).map Pg.pins).getD 0=0:=rfl
 rw [hp0] at c15
 rw [hp1] at c16
 rw [icM_of mk20_inj c15];dsimp only
 simp only [beq_self_eq_true,cond_true]
 rw [icM_of mk20_inj c16];dsimp only
 simp only [beq_self_eq_true,cond_true]
 rw [icM_of mk14_inj c17];dsimp only
 rfl
theorem fixedL_ok:pcW qcfg 17 []=some (.bool true):=by
 obtain ⟨m,h⟩:=fixed_ok
 exact fixed_run h rfl
end
theorem and7 (x:Int):∃q:Nat,q < 8/\W .i64 (((BitVec.ofInt (IntKind.bits .i64) x &&& BitVec.ofInt (IntKind.bits .i64) 7).toNat:Int))=(q:Int):=by
 refine ⟨(BitVec.ofInt 64 x &&& BitVec.ofInt 64 7).toNat,?_,?_⟩
 ·rw [BitVec.toNat_and]
  exact Nat.lt_of_le_of_lt Nat.and_le_right (by decide)
 ·change W .i64 (((BitVec.ofInt 64 x &&& BitVec.ofInt 64 7).toNat:Int))=_
  have:(BitVec.ofInt 64 x &&& BitVec.ofInt 64 7).toNat < 8:=by
   rw [BitVec.toNat_and]
   exact Nat.lt_of_le_of_lt Nat.and_le_right (by decide)
  exact W_i64 (by omega)
theorem law_run {f:FuncId} {fa:FA} {args:List V} {mem0 mem:List O} {o:Out} {v:V} (hp:qk.cfg.pprim f=none) (hf:fnA qk.cfg.P (qk.cfg.rxf f) f=some fa) (hm:arsM qk.cfg f=mem0) (hfl:v.flat1=true) (ho:arsOk qk.cfg f args=true) (hne:(qk.cfg.ars f).isEmpty=false)
  (h:enterK qk true fa args mem0=some o) (hg:Go qk true mem0.length fa o (.doneM v mem)):pcW qcfg f args=some v:=pcW_goA qik hp hf hm hfl ho hne h hg
theorem find_upd {L:List Pg} {p:Int} {f:Pg->Pg} {x:Pg} (hf:∀y,(f y).page=y.page) (h:findP L p=some x):findP (updP L p f) p=some (f x):=by
 induction L with
 | nil=>cases h
 | cons y L ih =>
  unfold findP updP at *
  rw [List.map_cons,List.find?_cons]
  rw [List.find?_cons] at h
  by_cases hp:y.page=p
  ·rw [if_pos hp,show ((f y).page==p)=true by simp [hf,hp]]
   rw [show (y.page==p)=true by simp [hp]] at h
   dsimp only at h |-
   cases h;rfl
  ·rw [if_neg hp,show (y.page==p)=false by simp [hp]]
   rw [show (y.page==p)=false by simp [hp]] at h
   exact ih h
section
variable {p:Int} {pl sure n:Int} {L:List Pg} {ws:Ws}
theorem cleanF_ind {sure:Int} {P:List Pg × Ws × Nat->Prop} (h:∀s c,P s->P (clean1 sure s c)):∀(r:List Int) {s:List Pg × Ws × Nat},P s->P (cleanF sure r s)
 | [],_,hs=>hs
 | c::r,s,hs=>cleanF_ind h r (h s c hs)
theorem clean1_cases (sure:Int) (s:List Pg × Ws × Nat) (c:Int):clean1 sure s c=s∨∃x∈s.1,x.page=c/\x.dirty=true/\x.last<=sure/\findP s.1 c=some x/\clean1 sure s c=(updP s.1 c washX,s.2.1++[(c,x.s)],s.2.2+1):=by
 unfold clean1
 cases hf:findP s.1 c with
 | none=>exact .inl rfl
 | some x =>
  dsimp only
  by_cases hm:mayP sure x=true
  ·rw [if_pos hm]
   simp only [mayP,Bool.and_eq_true,decide_eq_true_eq] at hm
   exact .inr ⟨x,(findP_some hf).1,(findP_some hf).2,hm.1,hm.2,rfl,rfl⟩
  ·rw [if_neg hm];exact .inl rfl
theorem pgs_clean1 (sure:Int) (s:List Pg × Ws × Nat) (c:Int):pgs (clean1 sure s c).1=pgs s.1:=by
 rcases clean1_cases sure s c with e | ⟨x,_,_,_,_,_,e⟩
 ·rw [e]
 ·rw [e];exact pgs_upd (f:=washX) fun _=>rfl
theorem Gd.clean1 {s:List Pg × Ws × Nat} (h:Gd n s.1 s.2.1) (c:Int):Gd n (clean1 sure s c).1 (clean1 sure s c).2.1:=by
 rcases clean1_cases sure s c with e | ⟨x,hx,hc,_,_,_,e⟩
 ·rw [e];exact h
 ·rw [e,<-hc];exact h.wash hx
theorem len_clean1 (sure:Int) (s:List Pg × Ws × Nat) (c:Int):(clean1 sure s c).2.1.length<=s.2.1.length+1:=by
 rcases clean1_cases sure s c with e | ⟨x,_,_,_,_,_,e⟩
 ·rw [e];omega
 ·rw [e];simp
theorem len_cleanF (sure:Int):∀(r:List Int) (s:List Pg × Ws × Nat),(cleanF sure r s).2.1.length<=s.2.1.length+r.length
 | [],s=>by simp [cleanF]
 | c::r,s=>by
  have h1:=len_cleanF sure r (Go.Proofs.Ytknapnnpmfhogaa.clean1 sure s c)
  have h2:=len_clean1 sure s c
  show (cleanF sure r (Go.Proofs.Ytknapnnpmfhogaa.clean1 sure s c)).2.1.length<=_
  simp only [List.length_cons]
  omega
theorem Good.clean (g:Good pl n L ws) (r:List Int) (k:Nat):Good pl n (cleanF sure r (L,ws,k)).1 (cleanF sure r (L,ws,k)).2.1/\pgs (cleanF sure r (L,ws,k)).1=pgs L:=by
 have h:Gd n (cleanF sure r (L,ws,k)).1 (cleanF sure r (L,ws,k)).2.1/\pgs (cleanF sure r (L,ws,k)).1=pgs L :=
  cleanF_ind (P:=fun s=>Gd n s.1 s.2.1/\pgs s.1=pgs L) (fun s c h=>⟨h.1.clean1 c,by rw [pgs_clean1];exact h.2⟩) r ⟨g.gd,rfl⟩
 have hl:=congrArg List.length h.2
 simp only [pgs_len] at hl
 exact ⟨⟨by rw [hl];exact g.len,g.pl,h.1.bs,h.1.pg,h.1.ok⟩,h.2⟩
end
structure Op where
 kind:Int
 page:Int
 s:Bs
 n:Int
def opV (o:Op):V:=.agg [.int .i64 o.kind,.int .i64 o.page,.str o.s,.int .i64 o.n]
theorem d31_op (o:Op) (k:Int->Int->Bs->Int->R):d31 (opV o) k=k o.kind o.page o.s o.n:=rfl
theorem clean_at {ar:List V} {ks:List Int} {ix:Int->Nat} {L:List Pg} {ws:Ws} {z:Nat} {pl sure n:Int} (h:Rep ar ks ix L) (g:Good pl n L ws) (hn:n<=1000000) (hw:ws.length<=90000) :
  ∃ar' cnt L' ws',Rep ar' ks ix L'/\(L',ws',cnt)=cleanF sure (srt ks) (L,ws,0)/\Good pl n L' ws'/\ws'.length<=ws.length+L.length/\pgs L'=pgs L /\
   icC qcfg ⟨false,false⟩ 14 [.ptr 2 0 0] (plm ar [] pl sure n (mpV ks ix) (pgs L) ws z) =
    some (mk14 ((cnt:Int),ar',[],pl,sure,n,mpV ks ix,[],ints (pgs L'),wsV ws',z)):=by
 obtain ⟨ar',h1,h2⟩:=clean_ok (a1:=[]) (pl:=pl) (sure:=sure) (z:=z) h g.gd (by have:=g.len;have:=g.pl;omega) (g.in64 hn) hw
 have hc:=g.clean (sure:=sure) (srt ks) 0
 have hl:=len_cleanF sure (srt ks) (L,ws,0)
 rw [srt_len h] at hl
 refine ⟨ar',(cleanF sure (srt ks) (L,ws,0)).2.2,_,_,h1,rfl,hc.1,hl,hc.2,?_⟩
 rw [hc.2];exact h2
set_option maxRecDepth 100000
noncomputable def fa4:FA:=⟨2,197,[.tmp 4],[4],
 (.seq
 (.ops false [o1 4 (.assign (.const (.bool false))) 4])
 (.seq
 (.ops false [o1 24 (.call ⟨(.value (.func 7)),#[(.const (.int .i64 (8)))],#[3]⟩) 25,mv 23 24 25,o1 25 (.extract (t' 23) 0) 23,o1 26 (.extract (t' 23) 1) 24,asg 5 25 23,asg 6 26 24])
 (.seq
 (.seq
 (.ops false [mv 27 5 23,o1 28 (.binOp .eql 23 (t' 27) (.const (.pointer none)) 23) 4,mv 29 28 4,o2 30 (.move (t' 6)) 24 29 false,o2 31 (.binOp .neq 24 (t' 30) (.const (.int .i64 (0))) 24) 4 29 false,o1 32 (.pick (t' 29) (.const (.bool true)) (t' 31)) 4])
 (.cond (t' 32)
 (.seq
 (.ops false [o1 4 (.assign (.const (.bool false))) 4])
 (.ret))
 (.skip)))
 (.seq
 (.ops false [mv 33 0 3,o1 34 (.binOp .and 3 (t' 33) (.const (.int .i64 (7))) 3) 3,o1 35 (.binOp .add 3 (.const (.int .i64 (1))) (t' 34) 3) 3,asg 7 35 3])
 (.seq
 (.ops false [mv 37 5 23,mv 38 7 3,o1 39 (.call ⟨(.value (.func 8)),#[(t' 37),(t' 38)],#[23,3]⟩) 28,mv 36 39 28,o1 40 (.extract (t' 36) 0) 27,o1 41 (.extract (t' 36) 1) 24,asg 8 40 27,asg 9 41 24])
 (.seq
 (.seq
 (.ops false [mv 42 8 27,o1 43 (.binOp .eql 27 (t' 42) (.const (.pointer none)) 27) 4,mv 44 43 4,o2 45 (.move (t' 9)) 24 44 false,o2 46 (.binOp .neq 24 (t' 45) (.const (.int .i64 (0))) 24) 4 44 false,o1 47 (.pick (t' 44) (.const (.bool true)) (t' 46)) 4])
 (.cond (t' 47)
 (.seq
 (.ops false [o1 4 (.assign (.const (.bool false))) 4])
 (.ret))
 (.skip)))
 (.seq
 (.ops true [o1 48 (.makeSlice 44 (.const (.int .i64 (8))) (.const (.int .i64 (8)))) 44,o1 49 (.makeSlice 45 (.const (.int .i64 (8))) (.const (.int .i64 (8)))) 45,asg 10 48 44,asg 11 49 45])
 (.seq
 (.seq
 (.ops false [o1 12 (.assign (.const (.int .i64 (0)))) 3])
 (.block 0
 (.loop ([0,2,3,5,6,9]++List.range' 13 184)
 (.seq
 (.seq
 (.ops false [mv 50 12 3,o1 51 (.binOp .lss 3 (t' 50) (.const (.int .i64 (8))) 3) 4])
 (.cond (t' 51)
 (.skip)
 (.exit 0)))
 (.seq
 (.block 1
 (.seq
 (.ops false [o1 55 (.call ⟨(.value (.func 18)),#[(.const (.string ⟨⟨[]⟩⟩)),(.const (.int .i64 (252)))],#[9,3]⟩) 32,mv 54 55 32,o1 56 (.extract (t' 54) 0) 9,o1 57 (.extract (t' 54) 1) 24,asg 13 56 9,asg 14 57 24])
 (.ops false [mv 58 10 44,mv 59 12 3,mv 60 13 9,o1 61 (.indexAddr 44 (t' 58) (t' 59)) 0,o0 (.store 9 (t' 61) (t' 60)) 0])))
 (.ops false [mv 52 12 3,o1 53 (.binOp .add 3 (t' 52) (.const (.int .i64 (1))) 3) 3,asg 12 53 3]))))))
 (.seq
 (.seq
 (.ops false [o1 15 (.assign (.const (.int .i64 (0)))) 3])
 (.block 2
 (.loop ([0,2,3,5,6,9,12,13,14]++List.range' 16 181)
 (.seq
 (.seq
 (.ops false [mv 62 15 3,mv 63 1 22,o1 64 (.call ⟨(.builtin .len),#[(t' 63)],#[22]⟩) 3,o1 65 (.binOp .lss 3 (t' 62) (t' 64) 3) 4,mv 66 65 4,o2 67 (.move (t' 15)) 3 66 true,o2 68 (.binOp .lss 3 (t' 67) (.const (.int .i64 (80))) 3) 4 66 true,o1 69 (.pick (t' 66) (t' 68) (.const (.bool false))) 4])
 (.cond (t' 69)
 (.skip)
 (.exit 2)))
 (.seq
 (.block 3
 (.seq
 (.ops false [mv 72 1 22,mv 73 15 3,o1 74 (.indexAddr 22 (t' 72) (t' 73)) 0,o1 75 (.load 31 (t' 74)) 31,o1 16 (.alloc 31) 0,o0 (.store 31 (t' 16) (t' 75)) 0])
 (.seq
 (.ops false [o1 76 (.fieldAddr 31 (t' 16) 1) 0,o1 77 (.load 3 (t' 76)) 3,o1 78 (.binOp .and 3 (t' 77) (.const (.int .i64 (7))) 3) 3,asg 17 78 3])
 (.cseq ([0,2,3,5,6,9,12,13,14]++List.range' 16 181)
 (.seq
 (.ops false [o1 79 (.fieldAddr 31 (t' 16) 0) 0,o1 80 (.load 3 (t' 79)) 3])
 (.block 4
 (.seq
 (.ops false [o1 84 (.binOp .eql 3 (t' 80) (.const (.int .i64 (0))) 3) 4,asg 83 84 4])
 (.cond (t' 83)
 (.seq
 (.ops false [mv 86 8 27,mv 87 17 3,o1 88 (.call ⟨(.value (.func 9)),#[(t' 86),(t' 87)],#[27,3]⟩) 32,mv 85 88 32,o1 89 (.extract (t' 85) 0) 9,o1 90 (.extract (t' 85) 1) 24,asg 18 89 9,asg 19 90 24])
 (.cseq ([0,2,3,5,6,9,12,13,14,16,18]++List.range' 20 177)
 (.seq
 (.ops false [mv 91 19 24,o1 92 (.binOp .eql 24 (t' 91) (.const (.int .i64 (0))) 24) 4,mv 93 92 4,o2 94 (.move (t' 18)) 9 93 true,o2 95 (.move (t' 10)) 44 93 true,o2 96 (.move (t' 17)) 3 93 true,o2 97 (.indexAddr 44 (t' 95) (t' 96)) 0 93 true,o2 98 (.load 9 (t' 97)) 9 93 true,o2 99 (.binOp .neq 9 (t' 94) (t' 98) 9) 4 93 true,o1 100 (.pick (t' 93) (t' 99) (.const (.bool false))) 4,mv 101 100 4,o2 102 (.move (t' 19)) 24 101 false,o2 103 (.binOp .neq 24 (t' 102) (.const (.int .i64 (0))) 24) 4 101 false,o2 104 (.move (t' 103)) 4 101 false,o2 105 (.move (t' 19)) 24 104 true,o2 106 (.binOp .neq 24 (t' 105) (.const (.int .i64 (6))) 24) 4 104 true,o2 107 (.pick (t' 104) (t' 106) (.const (.bool false))) 4 101 false,o1 108 (.pick (t' 101) (.const (.bool true)) (t' 107)) 4,mv 109 108 4,o2 110 (.move (t' 19)) 24 109 false,o2 111 (.binOp .neq 24 (t' 110) (.const (.int .i64 (0))) 24) 4 109 false,o2 112 (.move (t' 111)) 4 109 false,o2 113 (.move (t' 11)) 45 112 true,o2 114 (.move (t' 17)) 3 112 true,o2 115 (.indexAddr 45 (t' 113) (t' 114)) 0 112 true,o2 116 (.load 3 (t' 115)) 3 112 true,o2 117 (.binOp .gtr 3 (t' 116) (.const (.int .i64 (0))) 3) 4 112 true,o2 118 (.pick (t' 112) (t' 117) (.const (.bool false))) 4 109 false,o1 119 (.pick (t' 109) (.const (.bool true)) (t' 118)) 4])
 (.cond (t' 119)
 (.seq
 (.ops false [o1 4 (.assign (.const (.bool false))) 4])
 (.ret))
 (.skip)))
 (.seq
 (.ops false [mv 120 19 24,o1 121 (.binOp .eql 24 (t' 120) (.const (.int .i64 (0))) 24) 4])
 (.cond (t' 121)
 (.ops false [mv 122 11 45,mv 123 17 3,o1 124 (.indexAddr 45 (t' 122) (t' 123)) 0,o1 125 (.load 3 (t' 124)) 3,o1 126 (.binOp .add 3 (t' 125) (.const (.int .i64 (1))) 3) 3,o1 127 (.indexAddr 45 (t' 122) (t' 123)) 0,o0 (.store 3 (t' 127) (t' 126)) 0])
 (.skip)))))
 (.seq
 (.ops false [o1 129 (.binOp .eql 3 (t' 80) (.const (.int .i64 (1))) 3) 4,asg 128 129 4])
 (.cond (t' 128)
 (.seq
 (.seq
 (.ops true [mv 130 8 27,mv 131 17 3,⟨(some 132),.call ⟨(.value (.func 10)),#[(t' 130),(t' 131)],#[27,3]⟩,24,none,true,true,false⟩,o1 133 (.binOp .eql 24 (t' 132) (.const (.int .i64 (0))) 24) 4,mv 134 11 45,mv 135 17 3,⟨(some 136),.indexAddr 45 (t' 134) (t' 135),0,none,true,true,false⟩,⟨(some 137),.load 3 (t' 136),3,none,true,true,false⟩,o1 138 (.binOp .gtr 3 (t' 137) (.const (.int .i64 (0))) 3) 4,o1 139 (.binOp .neq 4 (t' 133) (t' 138) 4) 4])
 (.cond (t' 139)
 (.seq
 (.ops false [o1 4 (.assign (.const (.bool false))) 4])
 (.ret))
 (.skip)))
 (.ops false [mv 140 11 45,mv 141 17 3,mv 142 11 45,mv 143 17 3,o1 144 (.indexAddr 45 (t' 142) (t' 143)) 0,o1 145 (.load 3 (t' 144)) 3,o1 146 (.binOp .sub 3 (t' 145) (.const (.int .i64 (1))) 3) 3,o1 147 (.call ⟨(.builtin .max),#[(.const (.int .i64 (0))),(t' 146)],#[3,3]⟩) 3,o1 148 (.indexAddr 45 (t' 140) (t' 141)) 0,o0 (.store 3 (t' 148) (t' 147)) 0]))
 (.seq
 (.ops false [o1 150 (.binOp .eql 3 (t' 80) (.const (.int .i64 (2))) 3) 4,asg 149 150 4])
 (.cond (t' 149)
 (.seq
 (.ops false [o1 152 (.fieldAddr 31 (t' 16) 2) 0,o1 153 (.load 9 (t' 152)) 9,o1 154 (.fieldAddr 31 (t' 16) 2) 0,o1 155 (.load 9 (t' 154)) 9,o1 156 (.call ⟨(.builtin .len),#[(t' 155)],#[9]⟩) 3,o1 157 (.call ⟨(.builtin .min),#[(t' 156),(.const (.int .i64 (252)))],#[3,3]⟩) 3,o1 158 (.slice 9 (t' 153) none (some (t' 157)) none) 9,o1 159 (.call ⟨(.value (.func 18)),#[(t' 158),(.const (.int .i64 (252)))],#[9,3]⟩) 32,mv 151 159 32,o1 160 (.extract (t' 151) 0) 9,o1 161 (.extract (t' 151) 1) 24,asg 20 160 9,asg 21 161 24])
 (.seq
 (.ops false [mv 162 8 27,mv 163 17 3,mv 164 20 9,o1 165 (.fieldAddr 31 (t' 16) 3) 0,o1 166 (.load 3 (t' 165)) 3,o1 167 (.call ⟨(.value (.func 11)),#[(t' 162),(t' 163),(t' 164),(t' 166)],#[27,3,9,3]⟩) 24,o1 168 (.binOp .eql 24 (t' 167) (.const (.int .i64 (0))) 24) 4])
 (.cond (t' 168)
 (.ops false [mv 169 10 44,mv 170 17 3,mv 171 20 9,o1 172 (.indexAddr 44 (t' 169) (t' 170)) 0,o0 (.store 9 (t' 172) (t' 171)) 0])
 (.skip))))
 (.seq
 (.ops false [o1 174 (.binOp .eql 3 (t' 80) (.const (.int .i64 (3))) 3) 4,asg 173 174 4])
 (.cond (t' 173)
 (.ops false [mv 175 8 27,o1 176 (.fieldAddr 31 (t' 16) 3) 0,o1 177 (.load 3 (t' 176)) 3,o1 178 (.call ⟨(.value (.func 13)),#[(t' 175),(t' 177)],#[27,3]⟩) 0])
 (.ops false [mv 81 8 27,o1 82 (.call ⟨(.value (.func 14)),#[(t' 81)],#[27]⟩) 3])))))))))))
 (.seq
 (.seq
 (.ops false [mv 179 8 27,o1 180 (.call ⟨(.value (.func 19)),#[(t' 179)],#[27]⟩) 45,o1 181 (.call ⟨(.builtin .len),#[(t' 180)],#[45]⟩) 3,mv 182 7 3,o1 183 (.binOp .gtr 3 (t' 181) (t' 182) 3) 4])
 (.cond (t' 183)
 (.seq
 (.ops false [o1 4 (.assign (.const (.bool false))) 4])
 (.ret))
 (.skip)))
 (.seq
 (.ops false [o1 22 (.assign (.const (.int .i64 (0)))) 3])
 (.block 5
 (.loop ([0,2,3,5,6,9,12,13,14]++List.range' 16 6++List.range' 23 174)
 (.seq
 (.seq
 (.ops false [mv 184 22 3,o1 185 (.binOp .lss 3 (t' 184) (.const (.int .i64 (8))) 3) 4])
 (.cond (t' 185)
 (.skip)
 (.exit 5)))
 (.seq
 (.block 6
 (.seq
 (.ops true [mv 188 8 27,mv 189 22 3,⟨(some 190),.call ⟨(.value (.func 20)),#[(t' 188),(t' 189)],#[27,3]⟩,3,none,true,true,false⟩,mv 191 11 45,mv 192 22 3,⟨(some 193),.indexAddr 45 (t' 191) (t' 192),0,none,true,true,false⟩,⟨(some 194),.load 3 (t' 193),3,none,true,true,false⟩,o1 195 (.binOp .neq 3 (t' 190) (t' 194) 3) 4])
 (.cond (t' 195)
 (.seq
 (.ops false [o1 4 (.assign (.const (.bool false))) 4])
 (.ret))
 (.skip))))
 (.ops false [mv 186 22 3,o1 187 (.binOp .add 3 (t' 186) (.const (.int .i64 (1))) 3) 3,asg 22 187 3])))))))))))
 (.ops false [mv 70 15 3,o1 71 (.binOp .add 3 (t' 70) (.const (.int .i64 (1))) 3) 3,asg 15 71 3]))))))
 (.seq
 (.ops false [o1 196 (.call ⟨(.value (.func 17)),#[],#[]⟩) 4,asg 4 196 4])
 (.ret)))))))))))⟩
theorem fa4_eq:fnA qcfg.P (qcfg.rxf 4) 4=some fa4:=by kernel_rfl
def T4_0 (x1:List V) (x7 x12 m2_1:Int) (m3 m4:List V):S:=⟨[V.junk,V.sl x1,V.junk,V.junk,V.bool false,V.junk,V.junk,V.int .i64 x7,V.ptr 2 0 0,V.junk,V.own 3,V.own 4,V.int .i64 x12]++(JU 184),[O.arena 63 [],O.arena 7 [],O.box 59 (V.agg [V.ptr 5 0 0,V.int .i64 m2_1,V.mp 6,V.tail 7 0,V.int .i64 0]) false,O.row 9 m3 0,O.row 3 m4 0,O.box 56 (V.agg [V.int .i64 8,V.mp 8,V.tail 9 0]) false,O.map [],O.row 3 [] 0,O.map [],O.row 88 [] 0]⟩
def T4_1 (x1:List V) (x7 x15:Int) (m0 m1:List V) (m2_1 m2_4:Int) (m3 m4:List V) (m5_0:Int) (m6:List (V × V)) (m7:List V) (m8:List (V × V)) (m9:List V) (z9:Nat):S:=⟨[V.junk,V.sl x1,V.junk,V.junk,V.bool false,V.junk,V.junk,V.int .i64 x7,V.ptr 2 0 0,V.junk,V.own 3,V.own 4,V.junk,V.junk,V.junk,V.int .i64 x15]++(JU 181),[O.arena 63 m0,O.arena 7 m1,O.box 59 (V.agg [V.ptr 5 0 0,V.int .i64 m2_1,V.mp 6,V.tail 7 0,V.int .i64 m2_4]) false,O.row 9 m3 0,O.row 3 m4 0,O.box 56 (V.agg [V.int .i64 m5_0,V.mp 8,V.tail 9 0]) false,O.map m6,O.row 3 m7 0,O.map m8,O.row 88 m9 z9]⟩
def T4_2 (x1:List V) (x7 x15:Int) (x17 x19:Int) (m0 m1:List V) (m2_1 m2_4:Int) (m3 m4:List V) (m5_0:Int) (m6:List (V × V)) (m7:List V) (m8:List (V × V)) (m9:List V) (z9:Nat):S:=⟨[V.junk,V.sl x1,V.junk,V.junk,V.bool false,V.junk,V.junk,V.int .i64 x7,V.ptr 2 0 0,V.junk,V.own 3,V.own 4,V.junk,V.junk,V.junk,V.int .i64 x15,V.junk,V.int .i64 x17,V.junk,V.int .i64 x19]++(JU 177),[O.arena 63 m0,O.arena 7 m1,O.box 59 (V.agg [V.ptr 5 0 0,V.int .i64 m2_1,V.mp 6,V.tail 7 0,V.int .i64 m2_4]) false,O.row 9 m3 0,O.row 3 m4 0,O.box 56 (V.agg [V.int .i64 m5_0,V.mp 8,V.tail 9 0]) false,O.map m6,O.row 3 m7 0,O.map m8,O.row 88 m9 z9]⟩
def T4_3 (x1:List V) (x7 x15:Int) (m0 m1:List V) (m2_1 m2_4:Int) (m3 m4:List V) (m5_0:Int) (m6:List (V × V)) (m7:List V) (m8:List (V × V)) (m9:List V) (z9:Nat):S:=⟨[V.junk,V.sl x1,V.junk,V.junk,V.bool false,V.junk,V.junk,V.int .i64 x7,V.ptr 2 0 0,V.junk,V.own 3,V.own 4,V.junk,V.junk,V.junk,V.int .i64 x15]++(JU 181),[O.arena 63 m0,O.arena 7 m1,O.box 59 (V.agg [V.ptr 5 0 0,V.int .i64 m2_1,V.mp 6,V.tail 7 0,V.int .i64 m2_4]) false,O.row 9 m3 0,O.row 3 m4 0,O.box 56 (V.agg [V.int .i64 m5_0,V.mp 8,V.tail 9 0]) false,O.map m6,O.row 3 m7 0,O.map m8,O.row 88 m9 z9]⟩
def T4_4 (x1:List V) (x7 x15 x22:Int) (m0 m1:List V) (m2_1 m2_4:Int) (m3 m4:List V) (m5_0:Int) (m6:List (V × V)) (m7:List V) (m8:List (V × V)) (m9:List V) (z9:Nat):S:=⟨[V.junk,V.sl x1,V.junk,V.junk,V.bool false,V.junk,V.junk,V.int .i64 x7,V.ptr 2 0 0,V.junk,V.own 3,V.own 4,V.junk,V.junk,V.junk,V.int .i64 x15]++(JU 6)++[V.int .i64 x22]++(JU 174),[O.arena 63 m0,O.arena 7 m1,O.box 59 (V.agg [V.ptr 5 0 0,V.int .i64 m2_1,V.mp 6,V.tail 7 0,V.int .i64 m2_4]) false,O.row 9 m3 0,O.row 3 m4 0,O.box 56 (V.agg [V.int .i64 m5_0,V.mp 8,V.tail 9 0]) false,O.map m6,O.row 3 m7 0,O.map m8,O.row 88 m9 z9]⟩
noncomputable def e4 (pl:Int) (sc:List V):R :=
 cond (decide (W .i64 (1+(W .i64 (((BitVec.ofInt (IntKind.bits .i64) pl &&& BitVec.ofInt (IntKind.bits .i64) 7).toNat:Int)))) < 1))
 (some (.doneM (V.bool false) [O.arena 63 [],O.arena 7 [],O.map [],O.row 88 [] 0,O.box 56 (V.agg [V.int .i64 8,V.mp 2,V.tail 3 0]) false]))
 (cond (decide (W .i64 (1+(W .i64 (((BitVec.ofInt (IntKind.bits .i64) pl &&& BitVec.ofInt (IntKind.bits .i64) 7).toNat:Int)))) > 64))
 (some (.doneM (V.bool false) [O.arena 63 [],O.arena 7 [],O.map [],O.row 88 [] 0,O.box 56 (V.agg [V.int .i64 8,V.mp 2,V.tail 3 0]) false]))
 (some (.head 0 (T4_0 sc (W .i64 (1+(W .i64 (((BitVec.ofInt (IntKind.bits .i64) pl &&& BitVec.ofInt (IntKind.bits .i64) 7).toNat:Int))))) 0 (W .i64 (1+(W .i64 (((BitVec.ofInt (IntKind.bits .i64) pl &&& BitVec.ofInt (IntKind.bits .i64) 7).toNat:Int))))) (List.replicate 8 (V.str [])) (List.replicate 8 (V.int .i64 0))))))
theorem e4_eq (pl:Int) (sc:List V):enterK qk true fa4 [V.int .i64 pl,V.sl sc] [O.arena 63 [],O.arena 7 []]=e4 pl sc:=by kernel_rfl
noncomputable def s4_0 (x1:List V) (x7 x12 m2_1:Int) (m3 m4:List V):R :=
 cond (decide (x12 < 8))
 (pcK qcfg 18 [V.str [],V.int .i64 252] fun r =>
  d32 r fun r18_0 r18_1 =>
  gd (decide (0<=x12)) <|
  gd (decide (x12.toNat < m3.length)) <|
  idxK m3 x12.toNat fun v =>
  kS v fun s =>
  some (.head 0 (T4_0 x1 x7 (W .i64 (x12+1)) m2_1 ((m3).set x12.toNat (V.str r18_0)) m4)))
 (some (.head 1 (T4_1 x1 x7 0 [] [] m2_1 0 m3 m4 8 [] [] [] [] 0)))
theorem s4_0_eq (x1:List V) (x7 x12 m2_1:Int) (m3 m4:List V):goK qk true 2 fa4 0 (T4_0 x1 x7 x12 m2_1 m3 m4)=s4_0 x1 x7 x12 m2_1 m3 m4:=by kernel_rfl
theorem s4_0_run (x1:List V) (x7 x12 m2_1:Int) (m3 m4:List V) {o o':Out} (h:s4_0 x1 x7 x12 m2_1 m3 m4=some o) (hg:Go qk true 2 fa4 o o'):Go qk true 2 fa4 (.head 0 (T4_0 x1 x7 x12 m2_1 m3 m4)) o':=.step ((s4_0_eq ..).trans h) hg
noncomputable def s4_1 (x1:List V) (x7 x15:Int) (m0 m1:List V) (m2_1 m2_4:Int) (m3 m4:List V) (m5_0:Int) (m6:List (V × V)) (m7:List V) (m8:List (V × V)) (m9:List V) (z9:Nat):R :=
 cond (decide (x15 < (x1.length:Int)))
 (cond (decide (x15 < 80))
 (gd (decide (0<=x15)) <|
  idxK x1 x15.toNat fun v =>
  d31 v fun kind0 page s n =>
  cond (kind0==(0:Int))
 (icM qcfg ⟨false,false⟩ mk9 9 [V.ptr 2 0 0,V.int .i64 (W .i64 (((BitVec.ofInt (IntKind.bits .i64) page &&& BitVec.ofInt (IntKind.bits .i64) 7).toNat:Int)))] [O.arena 63 m0,O.arena 7 m1,O.box 59 (V.agg [V.ptr 3 0 0,V.int .i64 m2_1,V.mp 4,V.tail 5 0,V.int .i64 m2_4]) false,O.box 56 (V.agg [V.int .i64 m5_0,V.mp 6,V.tail 7 0]) false,O.map m6,O.row 3 m7 0,O.map m8,O.row 88 m9 z9] fun L =>
  cond (L.2.1==(0:Int))
 (gd (decide (0<=W .i64 (((BitVec.ofInt (IntKind.bits .i64) page &&& BitVec.ofInt (IntKind.bits .i64) 7).toNat:Int)))) <|
  gd (decide ((W .i64 (((BitVec.ofInt (IntKind.bits .i64) page &&& BitVec.ofInt (IntKind.bits .i64) 7).toNat:Int))).toNat < m3.length)) <|
  idxK m3 ((W .i64 (((BitVec.ofInt (IntKind.bits .i64) page &&& BitVec.ofInt (IntKind.bits .i64) 7).toNat:Int))).toNat) fun v_1 =>
  kS v_1 fun s_1 =>
  cond (!(L.1==s_1))
 (some (.doneM (V.bool false) [O.arena 63 L.2.2.1,O.arena 7 L.2.2.2.1,O.box 59 (V.agg [V.ptr 5 0 0,V.int .i64 L.2.2.2.2.1,V.mp 6,V.tail 7 0,V.int .i64 L.2.2.2.2.2.1]) false,O.row 9 m3 0,O.row 3 m4 0,O.box 56 (V.agg [V.int .i64 L.2.2.2.2.2.2.1,V.mp 8,V.tail 9 0]) false,O.map L.2.2.2.2.2.2.2.1,O.row 3 L.2.2.2.2.2.2.2.2.2.1 0,O.map L.2.2.2.2.2.2.2.2.1,O.row 88 L.2.2.2.2.2.2.2.2.2.2.1 L.2.2.2.2.2.2.2.2.2.2.2]))
 (cond (L.2.1 != (0:Int))
 (cond (L.2.1 != (6:Int))
 (some (.doneM (V.bool false) [O.arena 63 L.2.2.1,O.arena 7 L.2.2.2.1,O.box 59 (V.agg [V.ptr 5 0 0,V.int .i64 L.2.2.2.2.1,V.mp 6,V.tail 7 0,V.int .i64 L.2.2.2.2.2.1]) false,O.row 9 m3 0,O.row 3 m4 0,O.box 56 (V.agg [V.int .i64 L.2.2.2.2.2.2.1,V.mp 8,V.tail 9 0]) false,O.map L.2.2.2.2.2.2.2.1,O.row 3 L.2.2.2.2.2.2.2.2.2.1 0,O.map L.2.2.2.2.2.2.2.2.1,O.row 88 L.2.2.2.2.2.2.2.2.2.2.1 L.2.2.2.2.2.2.2.2.2.2.2]))
 (cond (L.2.1 != (0:Int))
 (gd (decide (0<=W .i64 (((BitVec.ofInt (IntKind.bits .i64) page &&& BitVec.ofInt (IntKind.bits .i64) 7).toNat:Int)))) <|
  gd (decide ((W .i64 (((BitVec.ofInt (IntKind.bits .i64) page &&& BitVec.ofInt (IntKind.bits .i64) 7).toNat:Int))).toNat < m4.length)) <|
  idxK m4 ((W .i64 (((BitVec.ofInt (IntKind.bits .i64) page &&& BitVec.ofInt (IntKind.bits .i64) 7).toNat:Int))).toNat) fun v_2 =>
  kI .i64 v_2 fun n_1 =>
  cond (decide (n_1 > 0))
 (some (.doneM (V.bool false) [O.arena 63 L.2.2.1,O.arena 7 L.2.2.2.1,O.box 59 (V.agg [V.ptr 5 0 0,V.int .i64 L.2.2.2.2.1,V.mp 6,V.tail 7 0,V.int .i64 L.2.2.2.2.2.1]) false,O.row 9 m3 0,O.row 3 m4 0,O.box 56 (V.agg [V.int .i64 L.2.2.2.2.2.2.1,V.mp 8,V.tail 9 0]) false,O.map L.2.2.2.2.2.2.2.1,O.row 3 L.2.2.2.2.2.2.2.2.2.1 0,O.map L.2.2.2.2.2.2.2.2.1,O.row 88 L.2.2.2.2.2.2.2.2.2.2.1 L.2.2.2.2.2.2.2.2.2.2.2]))
 (some (.head 2 (T4_2 x1 x7 x15 (W .i64 (((BitVec.ofInt (IntKind.bits .i64) page &&& BitVec.ofInt (IntKind.bits .i64) 7).toNat:Int))) L.2.1 L.2.2.1 L.2.2.2.1 L.2.2.2.2.1 L.2.2.2.2.2.1 m3 m4 L.2.2.2.2.2.2.1 L.2.2.2.2.2.2.2.1 L.2.2.2.2.2.2.2.2.2.1 L.2.2.2.2.2.2.2.2.1 L.2.2.2.2.2.2.2.2.2.2.1 L.2.2.2.2.2.2.2.2.2.2.2))))
 (some (.head 2 (T4_2 x1 x7 x15 (W .i64 (((BitVec.ofInt (IntKind.bits .i64) page &&& BitVec.ofInt (IntKind.bits .i64) 7).toNat:Int))) L.2.1 L.2.2.1 L.2.2.2.1 L.2.2.2.2.1 L.2.2.2.2.2.1 m3 m4 L.2.2.2.2.2.2.1 L.2.2.2.2.2.2.2.1 L.2.2.2.2.2.2.2.2.2.1 L.2.2.2.2.2.2.2.2.1 L.2.2.2.2.2.2.2.2.2.2.1 L.2.2.2.2.2.2.2.2.2.2.2)))))
 (cond (L.2.1 != (0:Int))
 (gd (decide (0<=W .i64 (((BitVec.ofInt (IntKind.bits .i64) page &&& BitVec.ofInt (IntKind.bits .i64) 7).toNat:Int)))) <|
  gd (decide ((W .i64 (((BitVec.ofInt (IntKind.bits .i64) page &&& BitVec.ofInt (IntKind.bits .i64) 7).toNat:Int))).toNat < m4.length)) <|
  idxK m4 ((W .i64 (((BitVec.ofInt (IntKind.bits .i64) page &&& BitVec.ofInt (IntKind.bits .i64) 7).toNat:Int))).toNat) fun v_3 =>
  kI .i64 v_3 fun n_2 =>
  cond (decide (n_2 > 0))
 (some (.doneM (V.bool false) [O.arena 63 L.2.2.1,O.arena 7 L.2.2.2.1,O.box 59 (V.agg [V.ptr 5 0 0,V.int .i64 L.2.2.2.2.1,V.mp 6,V.tail 7 0,V.int .i64 L.2.2.2.2.2.1]) false,O.row 9 m3 0,O.row 3 m4 0,O.box 56 (V.agg [V.int .i64 L.2.2.2.2.2.2.1,V.mp 8,V.tail 9 0]) false,O.map L.2.2.2.2.2.2.2.1,O.row 3 L.2.2.2.2.2.2.2.2.2.1 0,O.map L.2.2.2.2.2.2.2.2.1,O.row 88 L.2.2.2.2.2.2.2.2.2.2.1 L.2.2.2.2.2.2.2.2.2.2.2]))
 (some (.head 2 (T4_2 x1 x7 x15 (W .i64 (((BitVec.ofInt (IntKind.bits .i64) page &&& BitVec.ofInt (IntKind.bits .i64) 7).toNat:Int))) L.2.1 L.2.2.1 L.2.2.2.1 L.2.2.2.2.1 L.2.2.2.2.2.1 m3 m4 L.2.2.2.2.2.2.1 L.2.2.2.2.2.2.2.1 L.2.2.2.2.2.2.2.2.2.1 L.2.2.2.2.2.2.2.2.1 L.2.2.2.2.2.2.2.2.2.2.1 L.2.2.2.2.2.2.2.2.2.2.2))))
 (some (.head 2 (T4_2 x1 x7 x15 (W .i64 (((BitVec.ofInt (IntKind.bits .i64) page &&& BitVec.ofInt (IntKind.bits .i64) 7).toNat:Int))) L.2.1 L.2.2.1 L.2.2.2.1 L.2.2.2.2.1 L.2.2.2.2.2.1 m3 m4 L.2.2.2.2.2.2.1 L.2.2.2.2.2.2.2.1 L.2.2.2.2.2.2.2.2.2.1 L.2.2.2.2.2.2.2.2.1 L.2.2.2.2.2.2.2.2.2.2.1 L.2.2.2.2.2.2.2.2.2.2.2))))))
 (cond (L.2.1 != (0:Int))
 (cond (L.2.1 != (6:Int))
 (some (.doneM (V.bool false) [O.arena 63 L.2.2.1,O.arena 7 L.2.2.2.1,O.box 59 (V.agg [V.ptr 5 0 0,V.int .i64 L.2.2.2.2.1,V.mp 6,V.tail 7 0,V.int .i64 L.2.2.2.2.2.1]) false,O.row 9 m3 0,O.row 3 m4 0,O.box 56 (V.agg [V.int .i64 L.2.2.2.2.2.2.1,V.mp 8,V.tail 9 0]) false,O.map L.2.2.2.2.2.2.2.1,O.row 3 L.2.2.2.2.2.2.2.2.2.1 0,O.map L.2.2.2.2.2.2.2.2.1,O.row 88 L.2.2.2.2.2.2.2.2.2.2.1 L.2.2.2.2.2.2.2.2.2.2.2]))
 (cond (L.2.1 != (0:Int))
 (gd (decide (0<=W .i64 (((BitVec.ofInt (IntKind.bits .i64) page &&& BitVec.ofInt (IntKind.bits .i64) 7).toNat:Int)))) <|
  gd (decide ((W .i64 (((BitVec.ofInt (IntKind.bits .i64) page &&& BitVec.ofInt (IntKind.bits .i64) 7).toNat:Int))).toNat < m4.length)) <|
  idxK m4 ((W .i64 (((BitVec.ofInt (IntKind.bits .i64) page &&& BitVec.ofInt (IntKind.bits .i64) 7).toNat:Int))).toNat) fun v_4 =>
  kI .i64 v_4 fun n_3 =>
  cond (decide (n_3 > 0))
 (some (.doneM (V.bool false) [O.arena 63 L.2.2.1,O.arena 7 L.2.2.2.1,O.box 59 (V.agg [V.ptr 5 0 0,V.int .i64 L.2.2.2.2.1,V.mp 6,V.tail 7 0,V.int .i64 L.2.2.2.2.2.1]) false,O.row 9 m3 0,O.row 3 m4 0,O.box 56 (V.agg [V.int .i64 L.2.2.2.2.2.2.1,V.mp 8,V.tail 9 0]) false,O.map L.2.2.2.2.2.2.2.1,O.row 3 L.2.2.2.2.2.2.2.2.2.1 0,O.map L.2.2.2.2.2.2.2.2.1,O.row 88 L.2.2.2.2.2.2.2.2.2.2.1 L.2.2.2.2.2.2.2.2.2.2.2]))
 (some (.head 2 (T4_2 x1 x7 x15 (W .i64 (((BitVec.ofInt (IntKind.bits .i64) page &&& BitVec.ofInt (IntKind.bits .i64) 7).toNat:Int))) L.2.1 L.2.2.1 L.2.2.2.1 L.2.2.2.2.1 L.2.2.2.2.2.1 m3 m4 L.2.2.2.2.2.2.1 L.2.2.2.2.2.2.2.1 L.2.2.2.2.2.2.2.2.2.1 L.2.2.2.2.2.2.2.2.1 L.2.2.2.2.2.2.2.2.2.2.1 L.2.2.2.2.2.2.2.2.2.2.2))))
 (some (.head 2 (T4_2 x1 x7 x15 (W .i64 (((BitVec.ofInt (IntKind.bits .i64) page &&& BitVec.ofInt (IntKind.bits .i64) 7).toNat:Int))) L.2.1 L.2.2.1 L.2.2.2.1 L.2.2.2.2.1 L.2.2.2.2.2.1 m3 m4 L.2.2.2.2.2.2.1 L.2.2.2.2.2.2.2.1 L.2.2.2.2.2.2.2.2.2.1 L.2.2.2.2.2.2.2.2.1 L.2.2.2.2.2.2.2.2.2.2.1 L.2.2.2.2.2.2.2.2.2.2.2)))))
 (cond (L.2.1 != (0:Int))
 (gd (decide (0<=W .i64 (((BitVec.ofInt (IntKind.bits .i64) page &&& BitVec.ofInt (IntKind.bits .i64) 7).toNat:Int)))) <|
  gd (decide ((W .i64 (((BitVec.ofInt (IntKind.bits .i64) page &&& BitVec.ofInt (IntKind.bits .i64) 7).toNat:Int))).toNat < m4.length)) <|
  idxK m4 ((W .i64 (((BitVec.ofInt (IntKind.bits .i64) page &&& BitVec.ofInt (IntKind.bits .i64) 7).toNat:Int))).toNat) fun v_5 =>
  kI .i64 v_5 fun n_4 =>
  cond (decide (n_4 > 0))
 (some (.doneM (V.bool false) [O.arena 63 L.2.2.1,O.arena 7 L.2.2.2.1,O.box 59 (V.agg [V.ptr 5 0 0,V.int .i64 L.2.2.2.2.1,V.mp 6,V.tail 7 0,V.int .i64 L.2.2.2.2.2.1]) false,O.row 9 m3 0,O.row 3 m4 0,O.box 56 (V.agg [V.int .i64 L.2.2.2.2.2.2.1,V.mp 8,V.tail 9 0]) false,O.map L.2.2.2.2.2.2.2.1,O.row 3 L.2.2.2.2.2.2.2.2.2.1 0,O.map L.2.2.2.2.2.2.2.2.1,O.row 88 L.2.2.2.2.2.2.2.2.2.2.1 L.2.2.2.2.2.2.2.2.2.2.2]))
 (some (.head 2 (T4_2 x1 x7 x15 (W .i64 (((BitVec.ofInt (IntKind.bits .i64) page &&& BitVec.ofInt (IntKind.bits .i64) 7).toNat:Int))) L.2.1 L.2.2.1 L.2.2.2.1 L.2.2.2.2.1 L.2.2.2.2.2.1 m3 m4 L.2.2.2.2.2.2.1 L.2.2.2.2.2.2.2.1 L.2.2.2.2.2.2.2.2.2.1 L.2.2.2.2.2.2.2.2.1 L.2.2.2.2.2.2.2.2.2.2.1 L.2.2.2.2.2.2.2.2.2.2.2))))
 (some (.head 2 (T4_2 x1 x7 x15 (W .i64 (((BitVec.ofInt (IntKind.bits .i64) page &&& BitVec.ofInt (IntKind.bits .i64) 7).toNat:Int))) L.2.1 L.2.2.1 L.2.2.2.1 L.2.2.2.2.1 L.2.2.2.2.2.1 m3 m4 L.2.2.2.2.2.2.1 L.2.2.2.2.2.2.2.1 L.2.2.2.2.2.2.2.2.2.1 L.2.2.2.2.2.2.2.2.1 L.2.2.2.2.2.2.2.2.2.2.1 L.2.2.2.2.2.2.2.2.2.2.2))))))
 (cond (kind0==(1:Int))
 (icM qcfg ⟨true,false⟩ mk10 10 [V.ptr 2 0 0,V.int .i64 (W .i64 (((BitVec.ofInt (IntKind.bits .i64) page &&& BitVec.ofInt (IntKind.bits .i64) 7).toNat:Int)))] [O.arena 63 m0,O.arena 7 m1,O.box 59 (V.agg [V.ptr 3 0 0,V.int .i64 m2_1,V.mp 4,V.tail 5 0,V.int .i64 m2_4]) false,O.box 56 (V.agg [V.int .i64 m5_0,V.mp 6,V.tail 7 0]) false,O.map m6,O.row 3 m7 0,O.map m8,O.row 88 m9 z9] fun L_1 =>
  gd (decide (0<=W .i64 (((BitVec.ofInt (IntKind.bits .i64) page &&& BitVec.ofInt (IntKind.bits .i64) 7).toNat:Int)))) <|
  gd (decide ((W .i64 (((BitVec.ofInt (IntKind.bits .i64) page &&& BitVec.ofInt (IntKind.bits .i64) 7).toNat:Int))).toNat < m4.length)) <|
  idxK m4 ((W .i64 (((BitVec.ofInt (IntKind.bits .i64) page &&& BitVec.ofInt (IntKind.bits .i64) 7).toNat:Int))).toNat) fun v_6 =>
  kI .i64 v_6 fun n_5 =>
  cond (!((L_1.1==(0:Int))==(decide (n_5 > 0))))
 (some (.doneM (V.bool false) [O.arena 63 L_1.2.1,O.arena 7 L_1.2.2.1,O.box 59 (V.agg [V.ptr 5 0 0,V.int .i64 L_1.2.2.2.1,V.mp 6,V.tail 7 0,V.int .i64 L_1.2.2.2.2.1]) false,O.row 9 m3 0,O.row 3 m4 0,O.box 56 (V.agg [V.int .i64 L_1.2.2.2.2.2.1,V.mp 8,V.tail 9 0]) false,O.map L_1.2.2.2.2.2.2.1,O.row 3 L_1.2.2.2.2.2.2.2.1 0,O.map L_1.2.2.2.2.2.2.2.2.1,O.row 88 L_1.2.2.2.2.2.2.2.2.2.1 L_1.2.2.2.2.2.2.2.2.2.2]))
 (gd (decide (0<=W .i64 (((BitVec.ofInt (IntKind.bits .i64) page &&& BitVec.ofInt (IntKind.bits .i64) 7).toNat:Int)))) <|
  gd (decide ((W .i64 (((BitVec.ofInt (IntKind.bits .i64) page &&& BitVec.ofInt (IntKind.bits .i64) 7).toNat:Int))).toNat < m4.length)) <|
  idxK m4 ((W .i64 (((BitVec.ofInt (IntKind.bits .i64) page &&& BitVec.ofInt (IntKind.bits .i64) 7).toNat:Int))).toNat) fun v_7 =>
  kI .i64 v_7 fun n_6 =>
  gd (decide (0<=W .i64 (((BitVec.ofInt (IntKind.bits .i64) page &&& BitVec.ofInt (IntKind.bits .i64) 7).toNat:Int)))) <|
  gd (decide ((W .i64 (((BitVec.ofInt (IntKind.bits .i64) page &&& BitVec.ofInt (IntKind.bits .i64) 7).toNat:Int))).toNat < m4.length)) <|
  idxK m4 ((W .i64 (((BitVec.ofInt (IntKind.bits .i64) page &&& BitVec.ofInt (IntKind.bits .i64) 7).toNat:Int))).toNat) fun v_8 =>
  kI .i64 v_8 fun n_7 =>
  some (.head 3 (T4_3 x1 x7 x15 L_1.2.1 L_1.2.2.1 L_1.2.2.2.1 L_1.2.2.2.2.1 m3 ((m4).set ((W .i64 (((BitVec.ofInt (IntKind.bits .i64) page &&& BitVec.ofInt (IntKind.bits .i64) 7).toNat:Int))).toNat) (V.int .i64 (if 0 < W .i64 (n_6 - 1) then W .i64 (n_6 - 1) else 0))) L_1.2.2.2.2.2.1 L_1.2.2.2.2.2.2.1 L_1.2.2.2.2.2.2.2.1 L_1.2.2.2.2.2.2.2.2.1 L_1.2.2.2.2.2.2.2.2.2.1 L_1.2.2.2.2.2.2.2.2.2.2))))
 (cond (kind0==(2:Int))
 (gd (decide (0<=(if 252 < (s.length:Int) then 252 else (s.length:Int)))) <|
  gd (decide ((if 252 < (s.length:Int) then 252 else (s.length:Int)).toNat<=s.length)) <|
  pcK qcfg 18 [V.str (s.take ((if 252 < (s.length:Int) then 252 else (s.length:Int)).toNat)),V.int .i64 252] fun r =>
  d32 r fun r18_0 r18_1 =>
  icM qcfg ⟨true,false⟩ mk11 11 [V.ptr 2 0 0,V.int .i64 (W .i64 (((BitVec.ofInt (IntKind.bits .i64) page &&& BitVec.ofInt (IntKind.bits .i64) 7).toNat:Int))),V.str r18_0,V.int .i64 n] [O.arena 63 m0,O.arena 7 m1,O.box 59 (V.agg [V.ptr 3 0 0,V.int .i64 m2_1,V.mp 4,V.tail 5 0,V.int .i64 m2_4]) false,O.box 56 (V.agg [V.int .i64 m5_0,V.mp 6,V.tail 7 0]) false,O.map m6,O.row 3 m7 0,O.map m8,O.row 88 m9 z9] fun L_2 =>
  cond (L_2.1==(0:Int))
 (gd (decide (0<=W .i64 (((BitVec.ofInt (IntKind.bits .i64) page &&& BitVec.ofInt (IntKind.bits .i64) 7).toNat:Int)))) <|
  gd (decide ((W .i64 (((BitVec.ofInt (IntKind.bits .i64) page &&& BitVec.ofInt (IntKind.bits .i64) 7).toNat:Int))).toNat < m3.length)) <|
  idxK m3 ((W .i64 (((BitVec.ofInt (IntKind.bits .i64) page &&& BitVec.ofInt (IntKind.bits .i64) 7).toNat:Int))).toNat) fun v_9 =>
  kS v_9 fun s_2 =>
  some (.head 3 (T4_3 x1 x7 x15 L_2.2.1 L_2.2.2.1 L_2.2.2.2.1 L_2.2.2.2.2.1 ((m3).set ((W .i64 (((BitVec.ofInt (IntKind.bits .i64) page &&& BitVec.ofInt (IntKind.bits .i64) 7).toNat:Int))).toNat) (V.str r18_0)) m4 L_2.2.2.2.2.2.1 L_2.2.2.2.2.2.2.1 L_2.2.2.2.2.2.2.2.1 L_2.2.2.2.2.2.2.2.2.1 L_2.2.2.2.2.2.2.2.2.2.1 L_2.2.2.2.2.2.2.2.2.2.2)))
 (some (.head 3 (T4_3 x1 x7 x15 L_2.2.1 L_2.2.2.1 L_2.2.2.2.1 L_2.2.2.2.2.1 m3 m4 L_2.2.2.2.2.2.1 L_2.2.2.2.2.2.2.1 L_2.2.2.2.2.2.2.2.1 L_2.2.2.2.2.2.2.2.2.1 L_2.2.2.2.2.2.2.2.2.2.1 L_2.2.2.2.2.2.2.2.2.2.2))))
 (cond (kind0==(3:Int))
 (some (.head 3 (T4_3 x1 x7 x15 m0 m1 m2_1 (if m2_4 < n then n else m2_4) m3 m4 m5_0 m6 m7 m8 m9 z9)))
 (icM qcfg ⟨false,false⟩ mk14 14 [V.ptr 2 0 0] [O.arena 63 m0,O.arena 7 m1,O.box 59 (V.agg [V.ptr 3 0 0,V.int .i64 m2_1,V.mp 4,V.tail 5 0,V.int .i64 m2_4]) false,O.box 56 (V.agg [V.int .i64 m5_0,V.mp 6,V.tail 7 0]) false,O.map m6,O.row 3 m7 0,O.map m8,O.row 88 m9 z9] fun L_3 =>
  some (.head 3 (T4_3 x1 x7 x15 L_3.2.1 L_3.2.2.1 L_3.2.2.2.1 L_3.2.2.2.2.1 m3 m4 L_3.2.2.2.2.2.1 L_3.2.2.2.2.2.2.1 L_3.2.2.2.2.2.2.2.2.1 L_3.2.2.2.2.2.2.2.1 L_3.2.2.2.2.2.2.2.2.2.1 L_3.2.2.2.2.2.2.2.2.2.2)))))))
 (pcK qcfg 17 [] fun r_1 =>
  kB r_1 fun r17 =>
  some (.doneM (V.bool r17) [O.arena 63 m0,O.arena 7 m1,O.box 59 (V.agg [V.ptr 5 0 0,V.int .i64 m2_1,V.mp 6,V.tail 7 0,V.int .i64 m2_4]) false,O.row 9 m3 0,O.row 3 m4 0,O.box 56 (V.agg [V.int .i64 m5_0,V.mp 8,V.tail 9 0]) false,O.map m6,O.row 3 m7 0,O.map m8,O.row 88 m9 z9])))
 (pcK qcfg 17 [] fun r_2 =>
  kB r_2 fun r17_1 =>
  some (.doneM (V.bool r17_1) [O.arena 63 m0,O.arena 7 m1,O.box 59 (V.agg [V.ptr 5 0 0,V.int .i64 m2_1,V.mp 6,V.tail 7 0,V.int .i64 m2_4]) false,O.row 9 m3 0,O.row 3 m4 0,O.box 56 (V.agg [V.int .i64 m5_0,V.mp 8,V.tail 9 0]) false,O.map m6,O.row 3 m7 0,O.map m8,O.row 88 m9 z9]))
theorem s4_1_eq (x1:List V) (x7 x15:Int) (m0 m1:List V) (m2_1 m2_4:Int) (m3 m4:List V) (m5_0:Int) (m6:List (V × V)) (m7:List V) (m8:List (V × V)) (m9:List V) (z9:Nat):goK qk true 2 fa4 1 (T4_1 x1 x7 x15 m0 m1 m2_1 m2_4 m3 m4 m5_0 m6 m7 m8 m9 z9)=s4_1 x1 x7 x15 m0 m1 m2_1 m2_4 m3 m4 m5_0 m6 m7 m8 m9 z9:=by kernel_rfl
theorem s4_1_run (x1:List V) (x7 x15:Int) (m0 m1:List V) (m2_1 m2_4:Int) (m3 m4:List V) (m5_0:Int) (m6:List (V × V)) (m7:List V) (m8:List (V × V)) (m9:List V) (z9:Nat) {o o':Out} (h:s4_1 x1 x7 x15 m0 m1 m2_1 m2_4 m3 m4 m5_0 m6 m7 m8 m9 z9=some o) (hg:Go qk true 2 fa4 o o'):Go qk true 2 fa4 (.head 1 (T4_1 x1 x7 x15 m0 m1 m2_1 m2_4 m3 m4 m5_0 m6 m7 m8 m9 z9)) o':=.step ((s4_1_eq ..).trans h) hg
noncomputable def s4_2 (x1:List V) (x7 x15:Int) (x17 x19:Int) (m0 m1:List V) (m2_1 m2_4:Int) (m3 m4:List V) (m5_0:Int) (m6:List (V × V)) (m7:List V) (m8:List (V × V)) (m9:List V) (z9:Nat):R :=
 cond (x19==(0:Int))
 (gd (decide (0<=x17)) <|
  gd (decide (x17.toNat < m4.length)) <|
  idxK m4 x17.toNat fun v =>
  kI .i64 v fun n =>
  gd (decide (0<=x17)) <|
  gd (decide (x17.toNat < m4.length)) <|
  idxK m4 x17.toNat fun v_1 =>
  kI .i64 v_1 fun n_1 =>
  some (.head 3 (T4_3 x1 x7 x15 m0 m1 m2_1 m2_4 m3 ((m4).set x17.toNat (V.int .i64 (W .i64 (n+1)))) m5_0 m6 m7 m8 m9 z9)))
 (some (.head 3 (T4_3 x1 x7 x15 m0 m1 m2_1 m2_4 m3 m4 m5_0 m6 m7 m8 m9 z9)))
theorem s4_2_eq (x1:List V) (x7 x15:Int) (x17 x19:Int) (m0 m1:List V) (m2_1 m2_4:Int) (m3 m4:List V) (m5_0:Int) (m6:List (V × V)) (m7:List V) (m8:List (V × V)) (m9:List V) (z9:Nat):goK qk true 2 fa4 2 (T4_2 x1 x7 x15 x17 x19 m0 m1 m2_1 m2_4 m3 m4 m5_0 m6 m7 m8 m9 z9)=s4_2 x1 x7 x15 x17 x19 m0 m1 m2_1 m2_4 m3 m4 m5_0 m6 m7 m8 m9 z9:=by kernel_rfl
theorem s4_2_run (x1:List V) (x7 x15:Int) (x17 x19:Int) (m0 m1:List V) (m2_1 m2_4:Int) (m3 m4:List V) (m5_0:Int) (m6:List (V × V)) (m7:List V) (m8:List (V × V)) (m9:List V) (z9:Nat) {o o':Out} (h:s4_2 x1 x7 x15 x17 x19 m0 m1 m2_1 m2_4 m3 m4 m5_0 m6 m7 m8 m9 z9=some o) (hg:Go qk true 2 fa4 o o'):Go qk true 2 fa4 (.head 2 (T4_2 x1 x7 x15 x17 x19 m0 m1 m2_1 m2_4 m3 m4 m5_0 m6 m7 m8 m9 z9)) o':=.step ((s4_2_eq ..).trans h) hg
noncomputable def s4_3 (x1:List V) (x7 x15:Int) (m0 m1:List V) (m2_1 m2_4:Int) (m3 m4:List V) (m5_0:Int) (m6:List (V × V)) (m7:List V) (m8:List (V × V)) (m9:List V) (z9:Nat):R :=
 icM qcfg ⟨true,false⟩ mk19 19 [V.ptr 2 0 0] [O.arena 63 m0,O.arena 7 m1,O.box 59 (V.agg [V.ptr 3 0 0,V.int .i64 m2_1,V.mp 4,V.tail 5 0,V.int .i64 m2_4]) false,O.box 56 (V.agg [V.int .i64 m5_0,V.mp 6,V.tail 7 0]) false,O.map m6,O.row 3 m7 0,O.map m8,O.row 88 m9 z9] fun L =>
 cond (decide ((L.2.2.2.2.2.2.2.2.2.2.length:Int) > x7))
 (some (.doneM (V.bool false) [O.arena 63 L.1,O.arena 7 L.2.1,O.box 59 (V.agg [V.ptr 5 0 0,V.int .i64 L.2.2.1,V.mp 6,V.tail 7 0,V.int .i64 L.2.2.2.1]) false,O.row 9 m3 0,O.row 3 m4 0,O.box 56 (V.agg [V.int .i64 L.2.2.2.2.1,V.mp 8,V.tail 9 0]) false,O.map L.2.2.2.2.2.1,O.row 3 L.2.2.2.2.2.2.1 0,O.map L.2.2.2.2.2.2.2.1,O.row 88 L.2.2.2.2.2.2.2.2.1 L.2.2.2.2.2.2.2.2.2.1]))
 (some (.head 4 (T4_4 x1 x7 x15 0 L.1 L.2.1 L.2.2.1 L.2.2.2.1 m3 m4 L.2.2.2.2.1 L.2.2.2.2.2.1 L.2.2.2.2.2.2.1 L.2.2.2.2.2.2.2.1 L.2.2.2.2.2.2.2.2.1 L.2.2.2.2.2.2.2.2.2.1)))
theorem s4_3_eq (x1:List V) (x7 x15:Int) (m0 m1:List V) (m2_1 m2_4:Int) (m3 m4:List V) (m5_0:Int) (m6:List (V × V)) (m7:List V) (m8:List (V × V)) (m9:List V) (z9:Nat):goK qk true 2 fa4 3 (T4_3 x1 x7 x15 m0 m1 m2_1 m2_4 m3 m4 m5_0 m6 m7 m8 m9 z9)=s4_3 x1 x7 x15 m0 m1 m2_1 m2_4 m3 m4 m5_0 m6 m7 m8 m9 z9:=by kernel_rfl
theorem s4_3_run (x1:List V) (x7 x15:Int) (m0 m1:List V) (m2_1 m2_4:Int) (m3 m4:List V) (m5_0:Int) (m6:List (V × V)) (m7:List V) (m8:List (V × V)) (m9:List V) (z9:Nat) {o o':Out} (h:s4_3 x1 x7 x15 m0 m1 m2_1 m2_4 m3 m4 m5_0 m6 m7 m8 m9 z9=some o) (hg:Go qk true 2 fa4 o o'):Go qk true 2 fa4 (.head 3 (T4_3 x1 x7 x15 m0 m1 m2_1 m2_4 m3 m4 m5_0 m6 m7 m8 m9 z9)) o':=.step ((s4_3_eq ..).trans h) hg
noncomputable def s4_4 (x1:List V) (x7 x15 x22:Int) (m0 m1:List V) (m2_1 m2_4:Int) (m3 m4:List V) (m5_0:Int) (m6:List (V × V)) (m7:List V) (m8:List (V × V)) (m9:List V) (z9:Nat):R :=
 cond (decide (x22 < 8))
 (icM qcfg ⟨true,false⟩ mk20 20 [V.ptr 2 0 0,V.int .i64 x22] [O.arena 63 m0,O.arena 7 m1,O.box 59 (V.agg [V.ptr 3 0 0,V.int .i64 m2_1,V.mp 4,V.tail 5 0,V.int .i64 m2_4]) false,O.box 56 (V.agg [V.int .i64 m5_0,V.mp 6,V.tail 7 0]) false,O.map m6,O.row 3 m7 0,O.map m8,O.row 88 m9 z9] fun L =>
  gd (decide (0<=x22)) <|
  gd (decide (x22.toNat < m4.length)) <|
  idxK m4 x22.toNat fun v =>
  kI .i64 v fun n =>
  cond (L.1 != n)
 (some (.doneM (V.bool false) [O.arena 63 L.2.1,O.arena 7 L.2.2.1,O.box 59 (V.agg [V.ptr 5 0 0,V.int .i64 L.2.2.2.1,V.mp 6,V.tail 7 0,V.int .i64 L.2.2.2.2.1]) false,O.row 9 m3 0,O.row 3 m4 0,O.box 56 (V.agg [V.int .i64 L.2.2.2.2.2.1,V.mp 8,V.tail 9 0]) false,O.map L.2.2.2.2.2.2.1,O.row 3 L.2.2.2.2.2.2.2.1 0,O.map L.2.2.2.2.2.2.2.2.1,O.row 88 L.2.2.2.2.2.2.2.2.2.1 L.2.2.2.2.2.2.2.2.2.2]))
 (some (.head 4 (T4_4 x1 x7 x15 (W .i64 (x22+1)) L.2.1 L.2.2.1 L.2.2.2.1 L.2.2.2.2.1 m3 m4 L.2.2.2.2.2.1 L.2.2.2.2.2.2.1 L.2.2.2.2.2.2.2.1 L.2.2.2.2.2.2.2.2.1 L.2.2.2.2.2.2.2.2.2.1 L.2.2.2.2.2.2.2.2.2.2))))
 (some (.head 1 (T4_1 x1 x7 (W .i64 (x15+1)) m0 m1 m2_1 m2_4 m3 m4 m5_0 m6 m7 m8 m9 z9)))
theorem s4_4_eq (x1:List V) (x7 x15 x22:Int) (m0 m1:List V) (m2_1 m2_4:Int) (m3 m4:List V) (m5_0:Int) (m6:List (V × V)) (m7:List V) (m8:List (V × V)) (m9:List V) (z9:Nat):goK qk true 2 fa4 4 (T4_4 x1 x7 x15 x22 m0 m1 m2_1 m2_4 m3 m4 m5_0 m6 m7 m8 m9 z9)=s4_4 x1 x7 x15 x22 m0 m1 m2_1 m2_4 m3 m4 m5_0 m6 m7 m8 m9 z9:=by kernel_rfl
theorem s4_4_run (x1:List V) (x7 x15 x22:Int) (m0 m1:List V) (m2_1 m2_4:Int) (m3 m4:List V) (m5_0:Int) (m6:List (V × V)) (m7:List V) (m8:List (V × V)) (m9:List V) (z9:Nat) {o o':Out} (h:s4_4 x1 x7 x15 x22 m0 m1 m2_1 m2_4 m3 m4 m5_0 m6 m7 m8 m9 z9=some o) (hg:Go qk true 2 fa4 o o'):Go qk true 2 fa4 (.head 4 (T4_4 x1 x7 x15 x22 m0 m1 m2_1 m2_4 m3 m4 m5_0 m6 m7 m8 m9 z9)) o':=.step ((s4_4_eq ..).trans h) hg
set_option maxRecDepth 10000
section
variable {p q:Int} {pl sure n:Int} {L:List Pg} {ws:Ws} {ks:List Int}
theorem mem_upd2 {f:Pg->Pg} {y:Pg} (h:y∈updP L p f):∃x∈L,(x.page≠p/\y=x)∨(x.page=p/\y=f x):=by
 obtain ⟨x,hx,e⟩:=List.mem_map.1 h
 by_cases hp:x.page=p
 ·rw [if_pos hp] at e;exact ⟨x,hx,.inr ⟨hp,e.symm⟩⟩
 ·rw [if_neg hp] at e;exact ⟨x,hx,.inl ⟨hp,e.symm⟩⟩
theorem find_upd_ne {f:Pg->Pg} (hf:∀y,(f y).page=y.page) (h:q≠p):findP (updP L p f) q=findP L q:=by
 induction L with
 | nil=>rfl
 | cons y L ih =>
  unfold findP updP at *
  rw [List.map_cons,List.find?_cons,List.find?_cons]
  by_cases hp:y.page=p
  ·rw [if_pos hp,show ((f y).page==q)=false by simp [hf,hp];exact fun e=>h e.symm,show (y.page==q)=false by simp [hp];exact fun e=>h e.symm]
   exact ih
  ·rw [if_neg hp]
   cases y.page==q
   ·exact ih
   ·rfl
theorem find_upd_no {f:Pg->Pg} (hf:∀y,(f y).page=y.page) (h:findP L p=none):findP (updP L p f) p=none:=by
 cases hq:findP (updP L p f) p with
 | none=>rfl
 | some y =>
  have h1:=findP_some hq
  have:p∈pgs (updP L p f):=List.mem_map.2 ⟨y,h1.1,h1.2⟩
  rw [pgs_upd hf] at this
  exact absurd this (findP_none h)
theorem find_cut (c:Int):findP (cutP L c) q=if q=c then none else findP L q:=by
 unfold findP cutP
 rw [List.find?_filter]
 by_cases h:q=c
 ·rw [if_pos h,List.find?_eq_none]
  intro x _
  simp;intro hx e;exact hx (by rw [e,h])
 ·rw [if_neg h]
  congr 1
  funext x
  by_cases hx:x.page=q
  ·simp [hx,h]
  ·simp [hx]
theorem find_app (A B:List Pg):findP (A++B) q=(findP A q).or (findP B q):=by unfold findP;rw [List.find?_append]
theorem find_one (x:Pg):findP [x] q=if q=x.page then some x else none:=by
 unfold findP
 by_cases h:q=x.page
 ·rw [if_pos h];simp [h]
 ·rw [if_neg h];simp;exact fun e=>h e.symm
def cur (L:List Pg) (ws:Ws) (q:Int):Bs:=match findP L q with | some x=>x.s | none=>cont ws q
theorem cur_s {x:Pg} (h:findP L q=some x):cur L ws q=x.s:=by unfold cur;rw [h]
theorem cur_n (h:findP L q=none):cur L ws q=cont ws q:=by unfold cur;rw [h]
theorem findP_no {x:Pg} (hx:x∈L) (h:findP L p=none):x.page≠p:=fun e=>findP_none h (List.mem_map.2 ⟨x,hx,e⟩)
def pinsP (L:List Pg) (q:Int):Int:=((findP L q).map Pg.pins).getD 0
theorem pins_s {x:Pg} (h:findP L q=some x):pinsP L q=x.pins:=by unfold pinsP;rw [h];rfl
theorem pins_n (h:findP L q=none):pinsP L q=0:=by unfold pinsP;rw [h];rfl
theorem upd_same_f {f:Pg->Pg} (hf:∀y,(f y).page=y.page):findP (updP L p f) q=if q=p then (findP L p).map f else findP L q:=by
 by_cases h:q=p
 ·subst h
  rw [if_pos rfl]
  cases hx:findP L q with
  | none=>exact find_upd_no hf hx
  | some x=>exact find_upd hf hx
 ·rw [if_neg h];exact find_upd_ne hf h
theorem free_key {L':List Pg} {ws':Ws} (hn:(pgs L).Nodup) (cl:∀x∈L,x.dirty=false->x.s=cont ws x.page) (h:freeS pl sure L ws=some (L',ws')) :
  (∀q,cur L' ws' q=cur L ws q)/\(∀x∈L',x.dirty=false->x.s=cont ws' x.page)/\∀q,pinsP L' q=pinsP L q:=by
 unfold freeS at h
 split at h
 ·cases h;exact ⟨fun _=>rfl,cl,fun _=>rfl⟩
 ·obtain ⟨c,hc,e⟩:=omi.1 h
  cases e
  have hcm:=List.mem_of_find?_eq_some hc
  have hg:=List.find?_some hc
  have hfc:=findP_of hn hcm
  simp only [goesP,Bool.and_eq_true,Bool.or_eq_true,Bool.not_eq_true',decide_eq_true_eq] at hg
  have hw:∀q,cont (if c.dirty then ws++[(c.page,c.s)] else ws) q=if q=c.page then c.s else cont ws q:=by
   intro q
   cases hd:c.dirty
   ·simp only [Bool.false_eq_true,if_false]
    by_cases hq:q=c.page
    ·rw [if_pos hq,hq,cl c hcm hd]
    ·rw [if_neg hq]
   ·rw [if_pos rfl,cont_snoc]
    by_cases hq:q=c.page
    ·rw [if_pos hq,if_pos hq.symm]
    ·rw [if_neg hq,if_neg (fun e=>hq e.symm)]
  refine ⟨fun q=>?_,fun x hx hd=>?_,fun q=>?_⟩
  ·by_cases hq:q=c.page
   ·rw [cur_n (by rw [find_cut,if_pos hq]),hw,if_pos hq,hq,cur_s hfc]
   ·cases hf:findP L q with
    | none=>rw [cur_n (by rw [find_cut,if_neg hq,hf]),hw,if_neg hq,cur_n hf]
    | some x=>rw [cur_s (by rw [find_cut,if_neg hq,hf]),cur_s hf]
  ·have hxm:=List.mem_filter.1 hx
   have hne:¬x.page=c.page:=by simpa using hxm.2
   rw [hw,if_neg hne]
   exact cl x hxm.1 hd
  ·unfold pinsP
   rw [find_cut]
   by_cases hq:q=c.page
   ·rw [if_pos hq,hq,hfc]
    exact hg.1.symm
   ·rw [if_neg hq]
structure HI (i:Nat) (has:List Bs) (held:List Int) (L:List Pg) (ws:Ws):Prop where
 len:has.length=8
 hl:held.length=8
 cur:∀(k:Nat) s,has[k]? = some s->Go.Proofs.Ytknapnnpmfhogaa.cur L ws (k:Int)=s
 cl:∀x∈L,x.dirty=false->x.s=cont ws x.page
 pin:∀(k:Nat) c,held[k]? = some c->pinsP L (k:Int)=c
 bnd:∀c∈held,0<=c/\c<=(i:Int)
theorem HI.up {i:Nat} {has:List Bs} {held:List Int} (h:HI i has held L ws):HI (i+1) has held L ws :=
 ⟨h.len,h.hl,h.cur,h.cl,h.pin,fun c hc=>by have:=h.bnd c hc;omega⟩
theorem HI.held {i:Nat} {has:List Bs} {held:List Int} {L':List Pg} {ws':Ws} (h:HI i has held L ws) {k:Nat} {c:Int} (hk:k < 8) (hc:0<=c/\c<=(i+1:Int))
  (h1:∀q,Go.Proofs.Ytknapnnpmfhogaa.cur L' ws' q=Go.Proofs.Ytknapnnpmfhogaa.cur L ws q) (h2:∀x∈L',x.dirty=false->x.s=cont ws' x.page) (h3:∀q,pinsP L' q=if q=(k:Int) then c else pinsP L q):HI (i+1) has (held.set k c) L' ws':=by
 refine ⟨h.len,by simp [h.hl],fun j s hj=>(h1 _).trans (h.cur j s hj),h2,fun j d hj=>?_,fun d hd=>?_⟩
 ·rw [h3]
  by_cases e:k=j
  ·subst e
   rw [List.getElem?_set_self (by rw [h.hl];exact hk)] at hj
   cases hj
   rw [if_pos rfl]
  ·rw [List.getElem?_set_ne e] at hj
   rw [if_neg (by omega)]
   exact h.pin j d hj
 ·rcases List.mem_or_eq_of_mem_set hd with hd | rfl
  ·have:=h.bnd d hd;omega
  ·omega
theorem HI.pinned {i:Nat} {has:List Bs} {held:List Int} (hi:i < 1000) (h:HI i has held L ws) (hn:(pgs L).Nodup) {k:Nat} (hk:k < 8) {c:Int} (hc:held[k]? = some c) {s:Bs} {e:Int} {L':List Pg} {ws':Ws}
  (hp:pinS pl sure 8 L ws (k:Int)=(s,e,L',ws')) :
  (e=0/\has[k]? = some s/\HI (i+1) has (held.set k (W .i64 (c+1))) L' ws')∨(e=6/\c=0/\L'=L/\ws'=ws):=by
 have hcm:=h.bnd c (List.mem_of_getElem? hc)
 have hcp:=h.pin k c hc
 have hw:W .i64 (c+1)=c+1:=W_i64 (by omega)
 have hkl:k < has.length:=by rw [h.len];exact hk
 have hk8:has[k]? = some has[k]:=List.getElem?_eq_getElem hkl
 have hcur:=h.cur k _ hk8
 unfold pinS at hp
 rw [if_pos (by omega)] at hp
 cases hf:findP L (k:Int) with
 | some x =>
  rw [hf] at hp
  cases hp
  obtain ⟨hx,hxp⟩:=findP_some hf
  have hfk:∀q,findP (cutP L (k:Int)++[pinX x]) q=if q=(k:Int) then some (pinX x) else findP L q:=by
   intro q
   rw [find_app,find_cut,find_one]
   have hpp:(pinX x).page=(k:Int):=hxp
   by_cases e:q=(k:Int)
   ·rw [if_pos e,if_pos e,if_pos (e.trans hpp.symm)];rfl
   ·rw [if_neg e,if_neg e,if_neg (fun h=>e (h.trans hpp))];cases findP L q<;>rfl
  rw [cur_s hf] at hcur
  rw [pins_s hf] at hcp
  refine .inl ⟨rfl,by rw [hcur];exact hk8,h.held hk (by omega) (fun q=>?_) (fun y hy hd=>?_) (fun q=>?_)⟩
  ·by_cases e:q=(k:Int)
   ·rw [cur_s (x:=pinX x) (by rw [hfk,if_pos e]),e,cur_s hf];rfl
   ·unfold Go.Proofs.Ytknapnnpmfhogaa.cur;rw [hfk,if_neg e]
  ·rcases List.mem_append.1 hy with hy | hy
   ·exact h.cl y (List.mem_filter.1 hy).1 hd
   ·simp only [List.mem_singleton] at hy;subst hy;exact h.cl x hx hd
  ·by_cases e:q=(k:Int)
   ·rw [if_pos e,pins_s (x:=pinX x) (by rw [hfk,if_pos e])]
    show W .i64 (x.pins+1)=_
    rw [hcp]
   ·rw [if_neg e];unfold pinsP;rw [hfk,if_neg e]
 | none =>
  rw [hf] at hp
  rw [pins_n hf] at hcp
  dsimp only at hp
  cases hq:freeS pl sure L ws with
  | none =>
   rw [hq] at hp
   cases hp
   exact .inr ⟨rfl,hcp.symm,rfl,rfl⟩
  | some r =>
   obtain ⟨L1,ws1⟩:=r
   rw [hq] at hp
   dsimp only at hp
   cases hp
   obtain ⟨k1,k2,k3⟩:=free_key hn h.cl hq
   have hsub:=freeS_pgs hq
   have hnp:findP L1 (k:Int)=none:=by
    cases hx:findP L1 (k:Int) with
    | none=>rfl
    | some y =>
     obtain ⟨hy,e⟩:=findP_some hx
     exact absurd e (findP_no (hsub y hy) hf)
   have hct:cont ws' (k:Int)=cont ws (k:Int):=by
    have:=k1 (k:Int)
    rwa [cur_n hnp,cur_n hf] at this
   have hfk:∀q,findP (L1++[newX ws (k:Int)]) q=if q=(k:Int) then some (newX ws (k:Int)) else findP L1 q:=by
    intro q
    rw [find_app,find_one]
    by_cases e:q=(k:Int)
    ·rw [if_pos e,if_pos (show q=(newX ws (k:Int)).page from e),e,hnp];rfl
    ·rw [if_neg e,if_neg (show ¬q=(newX ws (k:Int)).page from e)];cases findP L1 q<;>rfl
   rw [cur_n hf] at hcur
   refine .inl ⟨rfl,by rw [hcur];exact hk8,h.held hk (by omega) (fun q=>?_) (fun y hy hd=>?_) (fun q=>?_)⟩
   ·by_cases e:q=(k:Int)
    ·rw [cur_s (x:=newX ws (k:Int)) (by rw [hfk,if_pos e]),e,cur_n hf];rfl
    ·rw [<-k1];unfold Go.Proofs.Ytknapnnpmfhogaa.cur;rw [hfk,if_neg e]
   ·rcases List.mem_append.1 hy with hy | hy
    ·exact k2 y hy hd
    ·simp only [List.mem_singleton] at hy;subst hy;exact hct.symm
   ·by_cases e:q=(k:Int)
    ·rw [if_pos e,pins_s (x:=newX ws (k:Int)) (by rw [hfk,if_pos e]),hw,<-hcp];rfl
    ·rw [if_neg e,<-k3];unfold pinsP;rw [hfk,if_neg e]
theorem HI.unpinned {i:Nat} {has:List Bs} {held:List Int} (hi:i < 1000) (h:HI i has held L ws) {k:Nat} (hk:k < 8) {c:Int} (hc:held[k]? = some c) :
  (heldE L (k:Int)=0↔0 < c)/\HI (i+1) has (held.set k (if 0 < W .i64 (c - 1) then W .i64 (c - 1) else 0)) (if heldE L (k:Int)=0 then updP L (k:Int) fun y=>{ y with pins:=W .i64 (y.pins - 1) } else L) ws:=by
 have hcm:=h.bnd c (List.mem_of_getElem? hc)
 have hcp:=h.pin k c hc
 have hw:W .i64 (c - 1)=c - 1:=W_i64 (by omega)
 have hu:∀q,findP (updP L (k:Int) fun y=>{ y with pins:=W .i64 (y.pins - 1) }) q=_:=fun q=>upd_same_f (fun _=>rfl)
 cases hf:findP L (k:Int) with
 | none =>
  rw [pins_n hf] at hcp
  subst hcp
  rw [held_n hf]
  refine ⟨by simp,?_⟩
  rw [if_neg (show ¬(7:Int)=0 by decide),if_neg (show ¬0 < W .i64 (0 - 1) by rw [hw];omega)]
  exact h.held hk (by omega) (fun _=>rfl) h.cl (fun q=>by by_cases e:q=(k:Int)<;>simp [e,pins_n hf])
 | some x =>
  rw [pins_s hf] at hcp
  by_cases hz:x.pins=0
  ·rw [held_s hf hz]
   refine ⟨by omega,?_⟩
   rw [if_neg (show ¬(9:Int)=0 by decide),if_neg (show ¬0 < W .i64 (c - 1) by rw [hw];omega)]
   exact h.held hk (by omega) (fun _=>rfl) h.cl (fun q=>by by_cases e:q=(k:Int)<;>simp [e,pins_s hf,hz])
  ·rw [held_y hf hz]
   refine ⟨by omega,?_⟩
   rw [if_pos rfl]
   refine h.held hk (by split<;>omega) (fun q=>?_) (fun y hy hd=>?_) (fun q=>?_)
   ·unfold Go.Proofs.Ytknapnnpmfhogaa.cur
    rw [hu]
    by_cases e:q=(k:Int)
    ·rw [if_pos e,e,hf];rfl
    ·rw [if_neg e]
   ·obtain ⟨w,hw,⟨_,e⟩ | ⟨_,e⟩⟩:=mem_upd2 hy
    ·subst e;exact h.cl _ hw hd
    ·subst e;exact h.cl w hw hd
   ·unfold pinsP
    rw [hu]
    by_cases e:q=(k:Int)
    ·rw [if_pos e,if_pos e,hf]
     show W .i64 (x.pins - 1)=_
     rw [hcp,hw]
     split<;>omega
    ·rw [if_neg e,if_neg e]
theorem put_zero {s:Bs} {lsn:Int} (he:putE L p s lsn=0):s.length<=252/\1<=lsn/\∃x,findP L p=some x:=by
 unfold putE at he
 split at he
 ·rename_i hh
  split at he
  ·cases he
  ·split at he
   ·cases he
   ·refine ⟨by omega,by omega,?_⟩
    cases hf:findP L p with
    | some x=>exact ⟨x,rfl⟩
    | none=>rw [held_n hf] at hh;cases hh
 ·rename_i h2;exact absurd he h2
theorem padW_id {s:Bs} (h:s.length=252):padW s=s:=by unfold padW;rw [h];exact List.append_nil _
theorem HI.put {i:Nat} {has:List Bs} {held:List Int} (h:HI i has held L ws) (k:Nat) (hk:k < 8) (s:Bs) (hs:s.length=252) (lsn:Int) :
  HI (i+1) (if putE L (k:Int) s lsn=0 then has.set k s else has) held (if putE L (k:Int) s lsn=0 then updP L (k:Int) (putX s lsn) else L) ws:=by
 split
 ·rename_i he
  obtain ⟨h1,h2,x,hf⟩:=put_zero he
  have hu:∀q,findP (updP L (k:Int) (putX s lsn)) q=_:=fun q=>upd_same_f (fun _=>rfl)
  refine ⟨by simp [h.len],h.hl,?_,?_,?_,h.up.bnd⟩
  ·intro j t hj
   by_cases e:k=j
   ·subst e
    rw [List.getElem?_set_self (by rw [h.len];exact hk)] at hj
    cases hj
    rw [cur_s (x:=putX s lsn x) (by rw [hu,if_pos rfl,hf];rfl)]
    exact padW_id hs
   ·rw [List.getElem?_set_ne e] at hj
    rw [<-h.cur j t hj]
    unfold Go.Proofs.Ytknapnnpmfhogaa.cur
    rw [hu,if_neg (by omega)]
  ·intro y hy hd
   obtain ⟨w,hw,⟨_,e⟩ | ⟨_,e⟩⟩:=mem_upd2 hy
   ·subst e;exact h.cl _ hw hd
   ·subst e;cases hd
  ·intro j c hj
   rw [<-h.pin j c hj]
   unfold pinsP
   rw [hu]
   by_cases e:(j:Int)=(k:Int)
   ·rw [if_pos e,e,hf];rfl
   ·rw [if_neg e]
 ·exact h.up
theorem clean1_cur {s:List Pg × Ws × Nat} (c q:Int):cur (clean1 sure s c).1 (clean1 sure s c).2.1 q=cur s.1 s.2.1 q:=by
 rcases clean1_cases sure s c with e | ⟨x,hx,hc,hd,hl,hf,e⟩
 ·rw [e]
 ·rw [e]
  dsimp only
  by_cases hq:q=c
  ·subst hq
   rw [cur_s hf,cur_s (find_upd (f:=washX) (fun _=>rfl) hf)];rfl
  ·have:=find_upd_ne (L:=s.1) (f:=washX) (p:=c) (q:=q) (fun _=>rfl) hq
   unfold cur
   rw [this,cont_snoc,if_neg (fun e=>hq e.symm)]
theorem clean1_cl {s:List Pg × Ws × Nat} (hn:(pgs s.1).Nodup) (h:∀x∈s.1,x.dirty=false->x.s=cont s.2.1 x.page) (c:Int):∀x∈(clean1 sure s c).1,x.dirty=false->x.s=cont (clean1 sure s c).2.1 x.page:=by
 rcases clean1_cases sure s c with e | ⟨x,hx,hc,hd,hl,hf,e⟩
 ·rw [e];exact h
 ·rw [e]
  intro y hy hyd
  dsimp only
  rw [cont_snoc]
  obtain ⟨w,hw,⟨e1,e2⟩ | ⟨e1,e2⟩⟩:=mem_upd2 hy
  ·subst e2
   rw [if_neg (fun e=>e1 e.symm)]
   exact h _ hw hyd
  ·have:=findP_of hn hw
   rw [e1,hf] at this
   cases this
   subst e2
   rw [if_pos (show (c,x.s).1=(washX x).page from hc.symm)];rfl
theorem clean1_pins {s:List Pg × Ws × Nat} (c q:Int):pinsP (clean1 sure s c).1 q=pinsP s.1 q:=by
 rcases clean1_cases sure s c with e | ⟨x,hx,hc,hd,hl,hf,e⟩
 ·rw [e]
 ·rw [e]
  dsimp only
  unfold pinsP
  rw [upd_same_f (f:=washX) (fun _=>rfl)]
  by_cases hq:q=c
  ·rw [if_pos hq,hq];cases findP s.1 c<;>rfl
  ·rw [if_neg hq]
theorem HI.clean {i:Nat} {has:List Bs} {held:List Int} (h:HI i has held L ws) (hn:(pgs L).Nodup) (r:List Int) {L':List Pg} {ws':Ws} {cnt:Nat} (e:(L',ws',cnt)=cleanF sure r (L,ws,0)):HI (i+1) has held L' ws':=by
 have hI:=cleanF_ind (sure:=sure) (P:=fun s=>(∀q,Go.Proofs.Ytknapnnpmfhogaa.cur s.1 s.2.1 q=Go.Proofs.Ytknapnnpmfhogaa.cur L ws q)/\(pgs s.1).Nodup/\(∀x∈s.1,x.dirty=false->x.s=cont s.2.1 x.page)/\∀q,pinsP s.1 q=pinsP L q)
  (fun s c h=>⟨fun q=>(clean1_cur c q).trans (h.1 q),by rw [pgs_clean1];exact h.2.1,clean1_cl h.2.1 h.2.2.1 c,fun q=>(clean1_pins c q).trans (h.2.2.2 q)⟩) r (s:=(L,ws,0)) ⟨fun _=>rfl,hn,h.cl,fun _=>rfl⟩
 rw [<-e] at hI
 exact ⟨h.len,h.hl,fun k s hk=>(hI.1 _).trans (h.cur k s hk),hI.2.2.1,fun k c hk=>(hI.2.2.2 _).trans (h.pin k c hk),h.up.bnd⟩
end
theorem min_if (l:Nat):(if (252:Int) < (l:Int) then (252:Int) else (l:Int))=((min l 252:Nat):Int):=by split<;>omega
abbrev TH (ops:List Op) (i N:Nat) (has:List Bs) (held:List Int) (sure:Int) (ar:List V) (ks:List Int) (ix:Int->Nat) (L:List Pg) (ws:Ws) (z:Nat):Out :=
 .head 1 (T4_1 (ops.map opV) (N:Int) (i:Int) ar [] (N:Int) sure (has.map V.str) (ints held) 8 (mpV ks ix) (ints (pgs L)) [] (wsV ws) z)
abbrev TE (ops:List Op) (i N k:Nat) (e:Int) (has:List Bs) (held:List Int) (sure:Int) (ar:List V) (ks:List Int) (ix:Int->Nat) (L:List Pg) (ws:Ws) (z:Nat):Out :=
 .head 2 (T4_2 (ops.map opV) (N:Int) (i:Int) (k:Int) e ar [] (N:Int) sure (has.map V.str) (ints held) 8 (mpV ks ix) (ints (pgs L)) [] (wsV ws) z)
abbrev TG (ops:List Op) (i N:Nat) (has:List Bs) (held:List Int) (sure:Int) (ar:List V) (ks:List Int) (ix:Int->Nat) (L:List Pg) (ws:Ws) (z:Nat):Out :=
 .head 3 (T4_3 (ops.map opV) (N:Int) (i:Int) ar [] (N:Int) sure (has.map V.str) (ints held) 8 (mpV ks ix) (ints (pgs L)) [] (wsV ws) z)
abbrev TP (ops:List Op) (i N k:Nat) (has:List Bs) (held:List Int) (sure:Int) (ar:List V) (ks:List Int) (ix:Int->Nat) (L:List Pg) (ws:Ws) (z:Nat):Out :=
 .head 4 (T4_4 (ops.map opV) (N:Int) (i:Int) (k:Int) ar [] (N:Int) sure (has.map V.str) (ints held) 8 (mpV ks ix) (ints (pgs L)) [] (wsV ws) z)
section
variable (ops:List Op) (i N:Nat) (hi:i < 80) (has:List Bs) (held:List Int) (sure:Int) {ar:List V} {ks:List Int} {ix:Int->Nat} {L:List Pg} {ws:Ws} {z:Nat}
 include hi
theorem holds_read (r:Rep ar ks ix L) (hl:held.length=8) (hp:∀(k:Nat) c,held[k]? = some c->pinsP L (k:Int)=c):∀(d k:Nat),k+d=8 ->
  ∀q,Go qk true 2 fa4 (TH ops (i+1) N has held sure ar ks ix L ws z) q->Go qk true 2 fa4 (TP ops i N k has held sure ar ks ix L ws z) q:=by
 intro d
 induction d with
 | zero =>
  intro k hk q hq
  have:k=8:=by omega
  subst this
  refine s4_4_run _ _ _ _ _ _ _ _ _ _ _ _ _ _ _ _ ?_ hq
  unfold s4_4
  rw [decide_eq_false (by decide),cond_false,wi i (by omega)]
 | succ d ih =>
  intro k hk q hq
  have hg:held[k]? = some held[k]:=List.getElem?_eq_getElem (by omega)
  refine s4_4_run _ _ _ _ _ _ _ _ _ _ _ _ _ _ _ _ ?_ (ih (k+1) (by omega) q hq)
  unfold s4_4
  rw [decide_eq_true (by omega),cond_true,icM_of mk20_inj (pins_ok r (k:Int))]
  dsimp only
  rw [gd_of (by simp),toNat_cast,gd_of (by simp [ints];omega),idxK_ints hg,kI_mk,ibne_f (show ((findP L (k:Int)).map Pg.pins).getD 0=held[k] from hp k _ hg),cond_false,wi k (by omega)]
theorem holds_tail (r:Rep ar ks ix L) (g:Good (N:Int) 8 L ws) (h:HI (i+1) has held L ws) :
  ∀q,Go qk true 2 fa4 (TH ops (i+1) N has held sure ar ks ix L ws z) q->Go qk true 2 fa4 (TG ops i N has held sure ar ks ix L ws z) q:=by
 intro q hq
 have hl:=srt_len r
 have hgl:=g.len
 refine s4_3_run _ _ _ _ _ _ _ _ _ _ _ _ _ _ _ ?_ (holds_read ops i N hi has held sure r h.hl h.pin 8 0 rfl q hq)
 unfold s4_3
 rw [icM_of mk19_inj (pages_ok r (by have:=g.pl;omega) (g.in64 (by decide)))]
 dsimp only
 rw [ints_len,decide_eq_false (by omega),cond_false]
 rfl
theorem holds_step (hN:1<=N/\N<=8) (o:Op) (ho:ops[i]? = some o) (hw:ws.length<=8 * i) (r:Rep ar ks ix L) (g:Good (N:Int) 8 L ws) (h:HI i has held L ws) :
  ∃has' held' sure' ar' ks' ix' L' ws' z',ws'.length<=8 * (i+1)/\Rep ar' ks' ix' L'/\Good (N:Int) 8 L' ws'/\HI (i+1) has' held' L' ws' /\
   ∀q,Go qk true 2 fa4 (TH ops (i+1) N has' held' sure' ar' ks' ix' L' ws' z') q->Go qk true 2 fa4 (TH ops i N has held sure ar ks ix L ws z) q:=by
 obtain ⟨k,hk,ek⟩:=and7 o.page
 have hlt:i < ops.length:=(List.getElem?_eq_some_iff.1 ho).1
 have hdec:decide ((i:Int) < ((ops.map opV).length:Int))=true:=decide_eq_true (by simp;omega)
 have hget:∀q:V->R,idxK (ops.map opV) ((i:Int)).toNat q=q (opV o):=fun q=>idxK_c ho
 have htl:(o.s.take (min o.s.length 252)).length<=252:=by simp;omega
 have hp18:=padR_ok (o.s.take (min o.s.length 252)) 252 (by unfold small;omega)
 rw [padB_252 htl] at hp18
 have hsl:=padW_len htl
 generalize padW (o.s.take (min o.s.length 252))=s0 at *
 have hmi:=min_if o.s.length
 have hkl:k < has.length:=by rw [h.len];exact hk
 have hkl2:k < held.length:=by rw [h.hl];exact hk
 have hk8:has[k]? = some has[k]:=List.getElem?_eq_getElem hkl
 have hc8:held[k]? = some held[k]:=List.getElem?_eq_getElem hkl2
 have g0:gd (decide (0<=(k:Int)))=fun q=>q:=by funext q;exact gd_of (by simp)
 have g1:gd (decide (((k:Int)).toNat < (has.map V.str).length))=fun q=>q:=by funext q;exact gd_of (by simp;rw [h.len];exact hk)
 have g2:gd (decide (((k:Int)).toNat < (ints held).length))=fun q=>q:=by funext q;exact gd_of (by simp [ints];rw [h.hl];exact hk)
 have i1:∀q:V->R,idxK (has.map V.str) ((k:Int)).toNat q=q (.str has[k]):=fun q=>idxK_c hk8
 have i2:∀q:V->R,idxK (ints held) ((k:Int)).toNat q=q (.int .i64 held[k]):=fun q=>idxK_ints hc8
 have si:∀x:Int,(ints held).set ((k:Int)).toNat (.int .i64 x)=ints (held.set k x):=fun x=>by simp [ints,List.map_set]
 have ss:∀x:Bs,(has.map V.str).set ((k:Int)).toNat (.str x)=(has.set k x).map V.str:=fun x=>by simp [List.map_set]
 by_cases h0:o.kind=0
 ·cases hp:pinS (N:Int) sure 8 L ws (k:Int) with
  | mk s rest =>
  obtain ⟨e,L',ws'⟩:=rest
  obtain ⟨ar',ks',ix',z',r',g',c⟩:=pin_at (a1:=[]) (z:=z) r g (by omega) hp
  have hl:=(g.pin (sure:=sure) r.nd (k:Int)).2
  rw [hp] at hl
  dsimp only at hl
  rcases h.pinned (by omega) r.nd hk hc8 hp with ⟨he,hs,h'⟩ | ⟨he,hc,hL,hw'⟩
  ·rw [hk8] at hs
   cases hs
   refine ⟨has,_,sure,ar',ks',ix',L',ws',z',by omega,r',g',h',fun q hq=>s4_1_run _ _ _ _ _ _ _ _ _ _ _ _ _ _ _ (o:=TE ops i N k 0 has held sure ar' ks' ix' L' ws' z') ?_
    (s4_2_run _ _ _ _ _ _ _ _ _ _ _ _ _ _ _ _ _ ?_ (holds_tail ops i N hi has _ sure r' g' h' q hq))⟩
   ·unfold s4_1
    rw [hdec,cond_true,decide_eq_true (by omega),cond_true,gd_of (by simp),hget,d31_op,ibeq_t h0,cond_true,ek,icM_of mk9_inj c]
    dsimp only
    subst he
    simp only [g0,g1,i1,kS_mk,beq_self_eq_true,Bool.not_true,cond_true,cond_false,bne_self_eq_false]
   ·unfold s4_2
    simp only [beq_self_eq_true,cond_true,g0,g2,i2,kI_mk,si]
  ·have h':=h.up
   subst hL
   subst hw'
   refine ⟨has,held,sure,ar',ks',ix',L',ws',z',by omega,r',g',h',fun q hq=>s4_1_run _ _ _ _ _ _ _ _ _ _ _ _ _ _ _ (o:=TE ops i N k 6 has held sure ar' ks' ix' L' ws' z') ?_
    (s4_2_run _ _ _ _ _ _ _ _ _ _ _ _ _ _ _ _ _ ?_ (holds_tail ops i N hi has held sure r' g' h' q hq))⟩
   ·unfold s4_1
    rw [hdec,cond_true,decide_eq_true (by omega),cond_true,gd_of (by simp),hget,d31_op,ibeq_t h0,cond_true,ek,icM_of mk9_inj c]
    dsimp only
    subst he
    simp only [show ((6:Int)==0)=false from rfl,show ((6:Int) != 0)=true from rfl,bne_self_eq_false,g0,g2,i2,kI_mk,hc,cond_true,cond_false,show decide ((0:Int) > 0)=false from rfl]
   ·unfold s4_2
    simp only [show ((6:Int)==0)=false from rfl,cond_false]
 by_cases h1:o.kind=1
 ·obtain ⟨ar',r',g',-,c⟩:=unpin_at (a1:=[]) (sure:=sure) (p:=(k:Int)) (z:=z) r g rfl rfl
  obtain ⟨hiff,h'⟩:=h.unpinned (by omega) hk hc8
  have hb:((heldE L (k:Int)==0)==decide (held[k] > 0))=true:=by
   by_cases e:heldE L (k:Int)=0
   ·rw [ibeq_t e,decide_eq_true (hiff.1 e)];rfl
   ·rw [ibeq_f e,decide_eq_false (fun h=>e (hiff.2 h))];rfl
  refine ⟨has,_,sure,ar',ks,ix,_,ws,z,by omega,r',g',h',fun q hq=>s4_1_run _ _ _ _ _ _ _ _ _ _ _ _ _ _ _ ?_ (holds_tail ops i N hi has _ sure r' g' h' q hq)⟩
  unfold s4_1
  rw [hdec,cond_true,decide_eq_true (by omega),cond_true,gd_of (by simp),hget,d31_op,ibeq_f h0,cond_false,ibeq_t h1,cond_true,ek,icM_of mk10_inj c]
  dsimp only
  simp only [g0,g2,i2,kI_mk,hb,Bool.not_true,cond_false,si]
 by_cases h2:o.kind=2
 ·obtain ⟨ar',r',g',-,c⟩:=put_at (a1:=[]) (sure:=sure) (p:=(k:Int)) (z:=z) r g (s:=s0) (lsn:=o.n) rfl rfl
  have h':=h.put k hk s0 hsl o.n
  refine ⟨_,held,sure,ar',ks,ix,_,ws,z,by omega,r',g',h',fun q hq=>s4_1_run _ _ _ _ _ _ _ _ _ _ _ _ _ _ _ ?_ (holds_tail ops i N hi _ held sure r' g' h' q hq)⟩
  unfold s4_1
  rw [hdec,cond_true,decide_eq_true (by omega),cond_true,gd_of (by simp),hget,d31_op,ibeq_f h0,cond_false,ibeq_f h1,cond_false,ibeq_t h2,cond_true,hmi,toNat_cast,gd_of (decide_eq_true (Int.natCast_nonneg _)),gd_of (decide_eq_true (Nat.min_le_left _ _)),pcK_of hp18,d32_mk,ek,icM_of mk11_inj c]
  dsimp only
  by_cases he:putE L (k:Int) s0 o.n=0
  ·rw [ibeq_t he,cond_true]
   simp only [g0,g1,i1,kS_mk,ss,if_pos he]
  ·rw [ibeq_f he,cond_false]
   simp only [if_neg he]
 by_cases h3:o.kind=3
 ·refine ⟨has,held,(if sure < o.n then o.n else sure),ar,ks,ix,L,ws,z,by omega,r,g,h.up,fun q hq=>s4_1_run _ _ _ _ _ _ _ _ _ _ _ _ _ _ _ ?_ (holds_tail ops i N hi has held _ r g h.up q hq)⟩
  unfold s4_1
  rw [hdec,cond_true,decide_eq_true (by omega),cond_true,gd_of (by simp),hget,d31_op,ibeq_f h0,cond_false,ibeq_f h1,cond_false,ibeq_f h2,cond_false,ibeq_t h3,cond_true]
 ·obtain ⟨ar',cnt,L',ws',r',e',g',hl',hpg',c⟩:=clean_at (sure:=sure) (z:=z) r g (by decide) (by omega)
  have h':=h.clean r.nd _ e'
  refine ⟨has,held,sure,ar',ks,ix,L',ws',z,by have:=g.len;omega,r',g',h',fun q hq=>s4_1_run _ _ _ _ _ _ _ _ _ _ _ _ _ _ _ ?_ (holds_tail ops i N hi has held sure r' g' h' q hq)⟩
  unfold s4_1
  rw [hdec,cond_true,decide_eq_true (by omega),cond_true,gd_of (by simp),hget,d31_op,ibeq_f h0,cond_false,ibeq_f h1,cond_false,ibeq_f h2,cond_false,ibeq_f h3,cond_false,icM_of mk14_inj c]
end
theorem holds_end (ops:List Op) (i N:Nat) (hi:i=80∨ops.length<=i) (hi2:i<=80) (has:List Bs) (held:List Int) (sure:Int) (ar:List V) (ks:List Int) (ix:Int->Nat) (L:List Pg) (ws:Ws) (z:Nat) :
  ∃m,Go qk true 2 fa4 (TH ops i N has held sure ar ks ix L ws z) (.doneM (.bool true) m):=by
 apply Exists.intro
 refine s4_1_run _ _ _ _ _ _ _ _ _ _ _ _ _ _ _ ?_ (.refl _)
 unfold s4_1
 by_cases hlt:i < ops.length
 ·rw [decide_eq_true (by simp;omega),cond_true,decide_eq_false (by omega),cond_false,pcK_of fixedL_ok,kB_mk]
 ·rw [decide_eq_false (by simp;omega),cond_false,pcK_of fixedL_ok,kB_mk]
theorem holds_loop (ops:List Op) (N:Nat) (hN:1<=N/\N<=8):∀(d i:Nat) (has:List Bs) (held:List Int) (sure:Int) (ar:List V) (ks:List Int) (ix:Int->Nat) (L:List Pg) (ws:Ws) (z:Nat),i+d=80->ws.length<=8 * i->Rep ar ks ix L->Good (N:Int) 8 L ws->HI i has held L ws ->
  ∃m,Go qk true 2 fa4 (TH ops i N has held sure ar ks ix L ws z) (.doneM (.bool true) m):=by
 intro d
 induction d with
 | zero =>
  intro i has held sure ar ks ix L ws z hi hw r g h
  exact holds_end ops i N (by omega) (by omega) has held sure ar ks ix L ws z
 | succ d ih =>
  intro i has held sure ar ks ix L ws z hi hw r g h
  by_cases hl:i < ops.length
  ·obtain ⟨o,ho⟩:∃o,ops[i]? = some o:=⟨_,List.getElem?_eq_getElem hl⟩
   obtain ⟨has',held',sure',ar',ks',ix',L',ws',z',a1,a2,a3,a4,a5⟩:=holds_step ops i N (by omega) has held sure hN o ho hw r g h
   obtain ⟨m,c⟩:=ih (i+1) has' held' sure' ar' ks' ix' L' ws' z' (by omega) a1 a2 a3 a4
   exact ⟨m,a5 _ c⟩
  ·exact holds_end ops i N (by omega) (by omega) has held sure ar ks ix L ws z
theorem holds_fill (ops:List Op) (N:Nat):∀(d k:Nat) (hs:List Bs),k+d=8->hs.length=8->(∀j,j < k->hs[j]? = some (zeros 252)) ->
  ∃hs':List Bs,hs'.length=8/\(∀j,j < 8->hs'[j]? = some (zeros 252))/\∀q,Go qk true 2 fa4 (TH ops 0 N hs' (List.replicate 8 0) 0 [] [] (fun _=>0) [] [] 0) q ->
   Go qk true 2 fa4 (.head 0 (T4_0 (ops.map opV) (N:Int) (k:Int) (N:Int) (hs.map V.str) (ints (List.replicate 8 0)))) q:=by
 intro d
 induction d with
 | zero =>
  intro k hs hk hl h
  have:k=8:=by omega
  subst this
  refine ⟨hs,hl,h,fun q hq=>s4_0_run _ _ _ _ _ _ ?_ hq⟩
  unfold s4_0
  rw [decide_eq_false (by decide),cond_false]
  rfl
 | succ d ih =>
  intro k hs hk hl h
  have hg:hs[k]? = some hs[k]:=List.getElem?_eq_getElem (by omega)
  obtain ⟨hs',a1,a2,a3⟩:=ih (k+1) (hs.set k (zeros 252)) (by omega) (by simp [hl]) (fun j hj=>by
   by_cases e:k=j
   ·subst e;rw [List.getElem?_set_self (by omega)]
   ·rw [List.getElem?_set_ne e];exact h j (by omega))
  refine ⟨hs',a1,a2,fun q hq=>s4_0_run _ _ _ _ _ _ ?_ (a3 q hq)⟩
  have hp:=padR_ok [] 252 (by unfold small;decide)
  rw [padB_252 (by decide),show padW []=zeros 252 from rfl] at hp
  unfold s4_0
  rw [decide_eq_true (by omega),cond_true,pcK_of hp,d32_mk,gd_of (by simp),toNat_cast,gd_of (by simp;omega),idxK_map hg,kS_mk,wi k (by omega),List.map_set]
theorem poolHolds_ok (pl:Int) (ops:List Op) (hpl:plainL [.int .i64 pl,.sl (ops.map opV)]=true):pcW qcfg 4 [.int .i64 pl,.sl (ops.map opV)]=some (.bool true):=by
 obtain ⟨q,hq,e⟩:=and7 pl
 have hN:1<=q+1/\q+1<=8:=by omega
 have w1:W .i64 (1+(q:Int))=((q+1:Nat):Int):=by rw [W_i64 (by omega)];omega
 obtain ⟨hs,a1,a2,a3⟩:=holds_fill ops (q+1) 8 0 (List.replicate 8 []) rfl (by simp) (fun j hj=>by omega)
 have hhi:HI 0 hs (List.replicate 8 0) [] []:=⟨a1,by simp,fun k s hk=>by
  have hlt:k < 8:=by rw [<-a1];exact (List.getElem?_eq_some_iff.1 hk).1
  rw [a2 k hlt] at hk
  cases hk;rfl,by simp,fun k c hk=>by
  have:=List.eq_of_mem_replicate (List.mem_of_getElem? hk)
  subst this;rfl,fun c hc=>by rw [List.eq_of_mem_replicate hc];omega⟩
 obtain ⟨m,c⟩:=holds_loop ops (q+1) hN 80 0 hs (List.replicate 8 0) 0 [] [] (fun _=>0) [] [] 0 rfl (by simp) Rep.mt (.mt (by omega)) hhi
 refine law_run rfl fa4_eq rfl rfl ?_ rfl ((e4_eq pl _).trans ?_) (a3 _ c)
 ·unfold arsOk
  rw [hpl];rfl
 ·unfold e4
  rw [e,w1,decide_eq_false (by omega),cond_false,decide_eq_false (by omega),cond_false]
  rfl
set_option maxHeartbeats 4000000 in
set_option maxRecDepth 100000 in
theorem delWI:DelW Try.prog 43 45 3:=by
 have hce:Try.prog.cellsOf 3=1:=by kernel_rfl
 have mixed:Try.prog.follows .mixedOrders=true:=by kernel_rfl
 have t22:Try.prog.underlying 45=some (.slice 3):=by kernel_rfl
 refine ⟨t22,by kernel_rfl,?_,?_,?_⟩
 ·intro i z hi hz
  have h1:(Try.prog.info? 3).bind (·.zero)=some (.int .i64 0):=by kernel_rfl
  rw [hi] at h1
  simp only [Option.bind_some,hz,Option.some.injEq] at h1
  subst h1
  intro v hv
  simp [Value.cells] at hv
  subst hv;rfl
 ·intro A n c i w hin hnc hc63 hA0 hA1
  cases A with
  | none =>
   obtain ⟨rfl,rfl⟩:=hA0 rfl
   have:i=0:=by omega
   subst this
   go_enter Try.func43,Try.ntmps43
   go_wp2
   all_goals (go_ret;exact ⟨rfl,rfl⟩)
  | some a =>
   obtain ⟨g,q,rfl⟩:=hA1 a rfl
   go_enter Try.func43,Try.ntmps43
   go_wp2
   all_goals (go_ret;exact ⟨rfl,rfl⟩)
 ·intro g q n c i jj w w2 w3 k hij hjn hnc hc63 hap hcl
  rw [hce] at hap hcl
  simp only [Nat.mul_one] at hap hcl
  have hz1:¬((i:Int)=(jj:Int)):=by omega
  have hin:i<=n:=by omega
  have hij':i<=jj:=by omega
  have hb1:¬(c=i):=by omega
  have hb2:i+(n - jj)<=n:=by omega
  have hb3:¬(c=i+(n - jj)):=by omega
  have hic:i<=c:=by omega
  have hjc':jj<=c:=by omega
  have hbc:i+(n - jj)<=c:=by omega
  have hnij:(i:Int)+((n - jj:Nat):Int)<=(n:Int):=by omega
  by_cases hjc:c=jj
  ·have hn:n=jj:=by omega
   subst hn
   subst hjc
   have hap':=fun ty=>hap ty (some ⟨g,q,none⟩) 0 (fun h=>absurd h (by omega))
   simp only [Nat.sub_self,Nat.add_zero] at hap' hcl |-
   go_enter Try.func43,Try.ntmps43
   go_wp2
   go_region_law_o (refine step_append_run rfl _ _ 45 45 rfl (.slice (some ⟨g,q,none⟩) i c) (.slice (some ⟨g,q,none⟩) 0 0) (by simp [Act.eval,Act.put]) (by simp [Act.eval,Act.put]) (hap' 45) ?_)
   go_wp2
   go_ret
   exact ⟨rfl,rfl⟩
  ·go_enter Try.func43,Try.ntmps43
   go_wp2
   go_region_law_o (refine step_append_run rfl _ _ 45 45 rfl (.slice (some ⟨g,q,none⟩) i c) (.slice (some ⟨g,q+jj,none⟩) (n - jj) (c - jj)) (by simp [Act.eval,Act.put]) (by simp [Act.eval,Act.put]) (hap 45 (some ⟨g,q+jj,none⟩) (c - jj) (fun _=>rfl)) ?_)
   go_wp2
   go_ret
   exact ⟨rfl,rfl⟩
set_option maxHeartbeats 4000000 in
set_option maxRecDepth 100000 in
theorem overW:OverW Try.prog 76 9 66 5:=by
 have mixed:Try.prog.follows .mixedOrders=true:=by kernel_rfl
 have ts:Try.prog.underlying 9=some .string:=by kernel_rfl
 have tr:Try.prog.underlying 66=some (.slice 5):=by kernel_rfl
 have tb:Try.prog.underlying 5=some (.int .u8):=by kernel_rfl
 refine ⟨ts,tr,tb,by kernel_rfl,?_⟩
 intro b n L c A w w2 r hn hcap hcopy hconv
 have hcopy1:=fun ty=>hcopy ty n (.inl rfl)
 have hcopy2:grownCap w b.size 0 5=n->∀ty,_:=fun h ty=>hcopy ty 0 (.inr h)
 have hrun:=Lib.run_convert_string_bytes w 9 66 5 b ts tr tb
 go_enter Try.func76,Try.ntmps76
 by_cases hcn:grownCap w b.size 0 5=n
 ·have hcopy3:=hcopy2 hcn
  clear hcopy2
  rw [hcn] at hrun hcopy3 hcopy1 hconv hcap
  rw [Nat.sub_self,show b.size - n=0 by omega] at hcopy3 hcopy1
  clear hcopy hcn
  go_wp2
  go_ret
  exact ⟨rfl,rfl⟩
 ·clear hcopy hcopy2
  go_wp2
  go_ret
  exact ⟨rfl,rfl⟩
open Go Go.RowKit Go.Shelf
 attribute [local go_sem] Oper.semAt_some
set_option maxRecDepth 100000 in
set_option maxHeartbeats 4000000 in
theorem back1_in (l B1 o1 n1 c1:Nat) (A1:Option Addr) (fa fb:Nat->Value) (I:Nat->World->Prop) (Ix:World->Prop) (hn:n1<=16777216)
  (h1:∀k W,I k W->W.cell? ⟨B1,o1,none⟩=some (.slice A1 n1 c1))
  (hx:∀k,k < n1->∃b1 p1,A1=some ⟨b1,p1,none⟩/\∀W m,I m W->W.cell? ⟨b1,p1+k * 2,none⟩=some (fa k)/\W.cell? ⟨b1,p1+k * 2+1,none⟩=some (fb k))
  (hY:∀k W,k < n1->I k W->YieldAt Fence.wide 0 Try.prog l #[.int .i64 ((n1:Int) - 1 - (k:Int)),(.agg #[fa (n1 - 1 - k),fb (n1 - 1 - k)])] W fun e W2=>(e = .returned (.bool true)/\I (k+1) W2)∨(e = .returned (.bool false)/\Ix W2))
  (W:World) (h0:I 0 W) :
  CallsIn Fence.wide 1 Try.prog 56 #[.func (.yield l) #[] #[],.pointer (some ⟨B1,o1,none⟩)] W fun e W'=>(∃v,e = .returned v)/\(I n1 W'∨Ix W'):=by
 have g1:=h1 0 W h0
 refine callsIn_of_wp Try.func56 rfl trivial ?_ rfl
 simp only [Try.ntmps56,List.size_toArray,List.length_cons,List.length_nil,Nat.reduceAdd,Nat.reduceSub,Array.replicate_succ,Array.replicate_zero,List.push_toArray,List.append_toArray,List.nil_append,List.cons_append]
 gi_wp2
 gi_loopw [3] (fun i wr=>∃k:Nat,k<=n1/\i = .int .i64 ((n1:Int) - 1 - (k:Int))/\I k wr)
  (fun i _=>(intOf i+1).toNat)
 case atStart=>exact ⟨0,Nat.zero_le _,by simp,h0⟩
 case round =>
  obtain ⟨k,hk,rfl,hI⟩:=hrel
  by_cases hlt:k < n1
  ·obtain ⟨b1,p1,rfl,hcell⟩:=hx (n1 - 1 - k) (by omega)
   have hY2:=hY k wr hlt hI
   obtain ⟨fn,tmps,assign,body,hy,hR⟩:=hY2
   obtain ⟨q3,q4⟩:=hcell wr k hI
   have q1:=h1 k wr hI
   have e1:((n1 - 1 - k:Nat):Int)=(n1:Int) - 1 - (k:Int):=by omega
   have e2:((n1:Int) - 1 - (k:Int)).toNat=n1 - 1 - k:=by omega
   have e3:((n1:Int) - 1 - (k:Int)) ≥ 0:=by omega
   clear h1 hx hY hcell g1 h0
   gi_wp2
   refine hR.mono ?_
   rintro e W3 (⟨rfl,hJ3⟩ | ⟨rfl,hJx3⟩)
   ·gi_wp2
    go_roundw
    case rel=>exact ⟨k+1,by omega,by simp;omega,hJ3⟩
    case measure=>simp [intOf];omega
   ·gi_wp2
    refine bodyPost_ret (results_none rfl _ _ _) rfl ?_
    exact ⟨⟨_,rfl⟩,.inr hJx3⟩
  ·obtain rfl:k=n1:=by omega
   clear h1 hx hY g1 h0
   gi_wp2
   go_end0
   exact ⟨⟨_,rfl⟩,.inl hI⟩
open Go Go.Lite
theorem row_read2 {P:Program} {Z:Zs} {w:World} {a:List V} {u:Value} (h:VR Z w j0 (.sl a) u) (h1:a.all pairV=true) :
  ∃(A:Option Addr) (c:Nat) (fa fb:Nat->Value),u = .slice A a.length c/\∀k x,a[k]? = some x->VR Z w j0 x (.agg #[fa k,fb k])/\∃g b,A=some ⟨g,b,none⟩/\Z g (b+k * 2)/\Z g (b+k * 2+1)/\w.cell? ⟨g,b+k * 2,none⟩=some (fa k)/\w.cell? ⟨g,b+k * 2+1,none⟩=some (fb k):=by
 rcases h.slInv with ⟨A,c,rfl,rfl⟩ | ⟨g,b,c,sz,rfl,_,hsz,hh⟩
 ·exact ⟨A,c,fun _=>default,fun _=>default,rfl,fun k x hk=>by simp at hk⟩
 ·refine ⟨some ⟨g,b,none⟩,c,fun k=>(w.cell? ⟨g,b+k * 2,none⟩).getD default,fun k=>(w.cell? ⟨g,b+k * 2+1,none⟩).getD default,rfl,fun k x hk=>?_⟩
  have hone:pairV x=true:=List.all_eq_true.1 h1 x (List.mem_of_getElem? hk)
  obtain ⟨l1,l2,l3⟩:=hh k x hk
  unfold pairV at hone
  split at hone
  rotate_left
  ·cases hone
  rename_i x1 x2
  have e:V.cells (.agg [x1,x2])=[x1,x2]:=rfl
  rw [e] at l1 l3
  have:sz=2:=l1.symm
  subst this
  obtain ⟨_,u1,hu1,hv1⟩:=l3 0 x1 rfl
  obtain ⟨_,u2,hu2,hv2⟩:=l3 1 x2 rfl
  rw [Nat.add_zero] at hu1
  have hz1:=l2 0 (by decide)
  have hz2:=l2 1 (by decide)
  rw [Nat.add_zero] at hz1
  dsimp only
  rw [hu1,hu2]
  refine ⟨?_,g,b,rfl,hz1,hz2,?_,?_⟩
  ·exact .agg (us:=[u1,u2]) rfl fun i c u hc hu=>by
    match i,hc,hu with
    | 0,hc,hu=>simp at hc hu;subst hc;subst hu;exact hv1
    | 1,hc,hu=>simp at hc hu;subst hc;subst hu;exact hv2
    | i+2,hc,hu=>simp at hc
  ·rw [hu1];rfl
  ·rw [hu2];rfl
theorem seq_ok:SeqOK Try.prog qseq:=by
 intro f ts h xs rounds hf hr Z w us hzin ha
 unfold qseq at hf
 split at hf
 rotate_left
 ·cases hf
 rename_i e
 subst e
 cases hf
 unfold backP at hr
 split at hr
 rotate_left
 ·cases hr
 rename_i a
 split at hr
 rotate_left
 ·cases hr
 rename_i hc
 obtain ⟨hlen,hpair⟩:=hc
 cases hr
 obtain ⟨hl,hv⟩:=ha
 match us,hl,hv with
 | [u1],hl,hv =>
 have v1:=hv 0 _ u1 rfl rfl
 refine ⟨Go.Proofs.enters_of Try.func56 (by kernel_rfl) rfl,?_⟩
 cases v1 with
 | ref f1 c1 d1 =>
 rename_i B1 o1
 obtain ⟨_,z1,e1⟩:=c1 0 (.sl a) rfl
 obtain ⟨A1,p1,fa,fb,w1,r1⟩:=row_read2 (P:=Try.prog) (d1 0 (.sl a) rfl) hpair
 rw [w1] at e1
 have hbl:(backsR a).length=a.length:=by simp [backsR]
 have hbg:∀k x,(backsR a)[k]? = some x->∃y,a[a.length - 1 - k]? = some y/\k < a.length/\x=[.int .i64 ((a.length - 1 - k:Nat):Int),y]:=by
  intro k x hx
  have hk:k < a.length:=by rw [<-hbl];exact (List.getElem?_eq_some_iff.1 hx).1
  unfold backsR at hx
  rw [List.getElem?_reverse (by simpa using hk)] at hx
  simp only [List.length_map,List.length_zipIdx,List.getElem?_map,List.getElem?_zipIdx] at hx
  have hy:a[a.length - 1 - k]? = some a[a.length - 1 - k]:=List.getElem?_eq_getElem (by omega)
  rw [hy] at hx
  simp at hx
  refine ⟨_,hy,hk,?_⟩
  rw [<-hx]
 refine ⟨(List.range a.length).map fun k:Nat=>[.int .i64 ((a.length:Int) - 1 - (k:Int)),.agg #[fa (a.length - 1 - k),fb (a.length - 1 - k)]],by simp [hbl],?_,?_⟩
 ·intro k x u hx hu
  obtain ⟨y,hy,hk,rfl⟩:=hbg k x hx
  rw [List.getElem?_map,List.getElem?_range hk] at hu
  simp at hu
  subst hu
  refine ⟨rfl,fun i y' v hy' hv'=>?_⟩
  match i,hy',hv' with
  | 0,hy',hv' =>
   simp at hy' hv';subst hy';subst hv'
   have:((a.length - 1 - k:Nat):Int)=(a.length:Int) - 1 - (k:Int):=by omega
   rw [this];exact .int
  | 1,hy',hv'=>simp at hy' hv';subst hy';subst hv';exact (r1 _ y hy).1
  | i+2,hy',hv'=>simp at hy'
 ·intro l I Ix W hI hIx hK hY h0
  have hY':∀k W,k < a.length->I k W->YieldAt Fence.wide 0 Try.prog l #[.int .i64 ((a.length:Int) - 1 - (k:Int)),.agg #[fa (a.length - 1 - k),fb (a.length - 1 - k)]] W fun e W2=>(e = .returned (.bool true)/\I (k+1) W2)∨(e = .returned (.bool false)/\Ix W2):=by
   intro k W hk1 hi
   exact hY k [.int .i64 ((a.length:Int) - 1 - (k:Int)),.agg #[fa (a.length - 1 - k),fb (a.length - 1 - k)]] W (by rw [List.getElem?_map,List.getElem?_range hk1];rfl) hi
  have hx:∀k,k < a.length->∃b1 p1,A1=some ⟨b1,p1,none⟩/\∀W m,I m W->W.cell? ⟨b1,p1+k * 2,none⟩=some (fa k)/\W.cell? ⟨b1,p1+k * 2+1,none⟩=some (fb k):=by
   intro k hk1
   obtain ⟨_,g1,q1,m1,m2,m3,m4,m5⟩:=r1 k a[k] (by simp [hk1])
   exact ⟨g1,q1,m1,fun W m hi=>⟨((hK m W hi).2 _ _ m2).trans m4,((hK m W hi).2 _ _ m3).trans m5⟩⟩
  have:=back1_in l B1 (o1+0) a.length p1 A1 fa fb I Ix hlen (fun k W hi=>((hK k W hi).2 _ _ z1).trans e1) hx hY' W h0
  have:=(callsIn_wide (n:=1)).1 this
  simp only [List.length_map,List.length_range]
  exact this
open Go Go.Proofs
set_option maxRecDepth 100000
def keysL_ren:Go.Shelf.Ren:=⟨fun | 7=>38 | 10=>52 | n=>n,fun | 23=>57 | 26=>3 | 3=>60 | 28=>76 | 0=>0 | 27=>75 | 33=>69 | 4=>4 | n=>n,fun | n=>n⟩
theorem keysL:Go.Proofs.SlLaysZI.n7 Try.prog keysL_ren where
 mixed:=by kernel_rfl
 f7:=⟨"maps.Keys[map[int]*budwood/pool.place,int,*budwood/pool.place]",by decide,Try.func38.trans (congrArg some (by kernel_rfl))⟩
 f10:=⟨"maps.Keys[map[int]*budwood/pool.place,int,*budwood/pool.place]$1",by decide,Try.func52.trans (congrArg some (by kernel_rfl))⟩
 t0:=Try.underlying0
 a0:=Try.isAgg0
 z0:=Try.sizeOf0
 v0:=Try.zeroValue0
 t4:=Try.underlying4
 a4:=Try.isAgg4
 z4:=Try.sizeOf4
 v4:=Try.zeroValue4
 t23:=Try.underlying57
 a23:=Try.isAgg57
 z23:=Try.sizeOf57
 v23:=Try.zeroValue57
 t26:=Try.underlying3
 a26:=Try.isAgg3
 z26:=Try.sizeOf3
 v26:=Try.zeroValue3
 t27:=Try.underlying75
 a27:=Try.isAgg75
 z27:=Try.sizeOf75
 v27:=Try.zeroValue75
 t28:=Try.underlying76
 a28:=Try.isAgg76
 z28:=Try.sizeOf76
 v28:=Try.zeroValue76
 t33:=Try.underlying69
 a33:=Try.isAgg69
 z33:=Try.sizeOf69
 v33:=Try.zeroValue69
def sortedL_ren:Go.Shelf.Ren:=⟨fun | 6=>37 | 8=>50 | 9=>51 | 11=>58 | 13=>60 | 12=>59 | 23=>74 | 24=>75 | 14=>65 | 15=>66 | 16=>67 | 17=>68 | 18=>69 | 19=>70 | 20=>71 | 21=>72 | 22=>73 | 25=>77 | 26=>78 | 27=>79 | 28=>80 | 29=>81 | 30=>82 | 31=>83 | n=>n,fun | 26=>3 | 28=>76 | 24=>45 | 0=>0 | 3=>3 | 37=>92 | 48=>82 | 50=>39 | 4=>4 | 40=>103 | 39=>102 | 45=>49 | 5=>5 | 9=>9 | 51=>112 | 55=>116 | 57=>118 | 58=>119 | 33=>69 | n=>n,fun | n=>n⟩
theorem sortedL:Go.Proofs.SlLaysZI.n6 Try.prog sortedL_ren where
 mixed:=by kernel_rfl
 f6:=⟨"slices.Sorted[int]",by decide,Try.func37.trans (congrArg some (by kernel_rfl))⟩
 f8:=⟨"slices.Collect[int]",by decide,Try.func50.trans (congrArg some (by kernel_rfl))⟩
 f11:=⟨"slices.AppendSeq[[]int,int]",by decide,Try.func58.trans (congrArg some (by kernel_rfl))⟩
 t0:=Try.underlying0
 a0:=Try.isAgg0
 z0:=Try.sizeOf0
 v0:=Try.zeroValue0
 t24:=Try.underlying45
 a24:=Try.isAgg45
 z24:=Try.sizeOf45
 v24:=Try.zeroValue45
 t26:=Try.underlying3
 a26:=Try.isAgg3
 z26:=Try.sizeOf3
 v26:=Try.zeroValue3
 t28:=Try.underlying76
 a28:=Try.isAgg76
 z28:=Try.sizeOf76
 v28:=Try.zeroValue76
 i26:=by kernel_rfl
def sortL_ren:Go.Shelf.Ren:=⟨fun | 5=>51 | 8=>60 | 7=>59 | 19=>74 | 20=>75 | 10=>65 | 11=>66 | 12=>67 | 13=>68 | 14=>69 | 15=>70 | 16=>71 | 17=>72 | 18=>73 | 30=>77 | 31=>78 | 32=>79 | 33=>80 | 34=>81 | 35=>82 | 40=>83 | n=>n,fun | 23=>45 | 25=>3 | 3=>3 | 32=>92 | 22=>45 | 0=>0 | 44=>82 | 46=>39 | 4=>4 | 36=>103 | 35=>102 | 41=>49 | 5=>5 | 9=>9 | 53=>112 | 57=>116 | 63=>118 | 64=>119 | n=>n,fun | n=>n⟩
theorem sortL:Go.Proofs.SlLaysM.n5 Try.prog sortL_ren where
 mixed:=by kernel_rfl
 f5:=⟨"slices.Sort[[]int,int]",by decide,Try.func51.trans (congrArg some (by kernel_rfl))⟩
 f7:=⟨"slices.pdqsortOrdered[int]",by decide,Try.func59.trans (congrArg some (by kernel_rfl))⟩
 f8:=Try.func60.trans (congrArg some (by kernel_rfl))
 f10:=⟨"slices.insertionSortOrdered[int]",by decide,Try.func65.trans (congrArg some (by kernel_rfl))⟩
 f11:=⟨"slices.heapSortOrdered[int]",by decide,Try.func66.trans (congrArg some (by kernel_rfl))⟩
 f12:=⟨"slices.breakPatternsOrdered[int]",by decide,Try.func67.trans (congrArg some (by kernel_rfl))⟩
 f13:=⟨"slices.choosePivotOrdered[int]",by decide,Try.func68.trans (congrArg some (by kernel_rfl))⟩
 f14:=⟨"slices.reverseRangeOrdered[int]",by decide,Try.func69.trans (congrArg some (by kernel_rfl))⟩
 f15:=⟨"slices.partialInsertionSortOrdered[int]",by decide,Try.func70.trans (congrArg some (by kernel_rfl))⟩
 f16:=⟨"cmp.Less[int]",by decide,Try.func71.trans (congrArg some (by kernel_rfl))⟩
 f17:=⟨"slices.partitionEqualOrdered[int]",by decide,Try.func72.trans (congrArg some (by kernel_rfl))⟩
 f18:=⟨"slices.partitionOrdered[int]",by decide,Try.func73.trans (congrArg some (by kernel_rfl))⟩
 f19:=Try.func74.trans (congrArg some (by kernel_rfl))
 f20:=Try.func75.trans (congrArg some (by kernel_rfl))
 f30:=⟨"slices.siftDownOrdered[int]",by decide,Try.func77.trans (congrArg some (by kernel_rfl))⟩
 f31:=Try.func78.trans (congrArg some (by kernel_rfl))
 f32:=Try.func79.trans (congrArg some (by kernel_rfl))
 f33:=⟨"slices.medianAdjacentOrdered[int]",by decide,Try.func80.trans (congrArg some (by kernel_rfl))⟩
 f34:=⟨"slices.medianOrdered[int]",by decide,Try.func81.trans (congrArg some (by kernel_rfl))⟩
 f35:=⟨"cmp.isNaN[int]",by decide,Try.func82.trans (congrArg some (by kernel_rfl))⟩
 f40:=⟨"slices.order2Ordered[int]",by decide,Try.func83.trans (congrArg some (by kernel_rfl))⟩
 t0:=Try.underlying0
 a0:=Try.isAgg0
 z0:=Try.sizeOf0
 v0:=Try.zeroValue0
 t3:=Try.underlying3
 a3:=Try.isAgg3
 z3:=Try.sizeOf3
 v3:=Try.zeroValue3
 t4:=Try.underlying4
 a4:=Try.isAgg4
 z4:=Try.sizeOf4
 v4:=Try.zeroValue4
 t5:=Try.underlying5
 a5:=Try.isAgg5
 z5:=Try.sizeOf5
 v5:=Try.zeroValue5
 t9:=Try.underlying9
 a9:=Try.isAgg9
 z9:=Try.sizeOf9
 v9:=Try.zeroValue9
 t22:=Try.underlying45
 a22:=Try.isAgg45
 z22:=Try.sizeOf45
 v22:=Try.zeroValue45
 t23:=Try.underlying45
 a23:=Try.isAgg45
 z23:=Try.sizeOf45
 v23:=Try.zeroValue45
 t25:=Try.underlying3
 a25:=Try.isAgg3
 z25:=Try.sizeOf3
 v25:=Try.zeroValue3
 t32:=Try.underlying92
 a32:=Try.isAgg92
 z32:=Try.sizeOf92
 v32:=Try.zeroValue92
 t35:=Try.underlying102
 a35:=Try.isAgg102
 z35:=Try.sizeOf102
 v35:=Try.zeroValue102
 t36:=Try.underlying103
 a36:=Try.isAgg103
 z36:=Try.sizeOf103
 v36:=Try.zeroValue103
 t41:=Try.underlying49
 a41:=Try.isAgg49
 z41:=Try.sizeOf49
 v41:=Try.zeroValue49
 t44:=Try.underlying82
 a44:=Try.isAgg82
 z44:=Try.sizeOf82
 v44:=Try.zeroValue82
 t46:=Try.underlying39
 a46:=Try.isAgg39
 z46:=Try.sizeOf39
 v46:=Try.zeroValue39
 t53:=Try.underlying112
 a53:=Try.isAgg112
 z53:=Try.sizeOf112
 v53:=Try.zeroValue112
 t57:=Try.underlying116
 a57:=Try.isAgg116
 z57:=Try.sizeOf116
 v57:=Try.zeroValue116
 t63:=Try.underlying118
 a63:=Try.isAgg118
 z63:=Try.sizeOf118
 v63:=Try.zeroValue118
 t64:=Try.underlying119
 a64:=Try.isAgg119
 z64:=Try.sizeOf119
 v64:=Try.zeroValue119
theorem sortsL (m:Nat):AnyZI.SortsIn Try.prog sortedL_ren Fence.wide m :=
 ⟨fun blk off cap ss W hH hblk hsz=>callsIn_wide.2 (AnyM.slices_Sort_int sortL blk off cap ss W hH hblk hsz),
  fun p cap W=>callsIn_wide.2 (AnyM.slices_Sort_int_none sortL p cap W)⟩
open Go Go.Lite Go.WideElems Go.Maps
theorem mapO_get {α β:Type} {f:α->Option β}:∀{l:List α} {r:List β},mapO f l=some r->r.length=l.length/\∀(i:Nat) (x:α),l[i]? = some x->∃y,r[i]? = some y/\f x=some y
 | [],r,h=>by cases h;exact ⟨rfl,fun i x hx=>by simp at hx⟩
 | a::l,r,h=>by
  simp only [mapO,obi,omi] at h
  obtain ⟨y,hy,ys,hys,rfl⟩:=h
  obtain ⟨h1,h2⟩:=mapO_get hys
  refine ⟨by simp [h1],fun i x hx=>?_⟩
  cases i with
  | zero=>simp at hx;subst hx;exact ⟨y,rfl,hy⟩
  | succ i=>simpa using h2 i x (by simpa using hx)
theorem keyI_some {v:V} {n:Int} (h:keyI v=some n):v = .int .i64 n/\-9223372036854775808<=n/\n<=9223372036854775807:=by
 unfold keyI at h
 split at h
 ·split at h
  ·rename_i hr;cases h;exact ⟨rfl,hr⟩
  ·cases h
 ·cases h
abbrev RU:Value->Option (DataW Unit × List MemPlace):=fun _=>some (.nil,[])
theorem u3:Try.prog.underlying 3=some (.int .i64):=by kernel_rfl
theorem ce3:Try.prog.cellsOf 3=1:=by kernel_rfl
theorem rd_key {x:MapEntry} {n:Int} (hk:x.key = .int .i64 n) (h1:-9223372036854775808<=n) (h2:n<=9223372036854775807):rd Try.prog 3 RU x=some (.int .i64 n,.nil):=by
 have hwf:(Lit.int .i64 n).wf=true:=by
  simp only [Lit.wf,Bool.and_eq_true,decide_eq_true_eq]
  exact ⟨by simpa [IntKind.min,IntKind.signed,IntKind.bits] using h1,by simpa [IntKind.max,IntKind.signed,IntKind.bits] using h2⟩
 have:keyOf Try.prog 3 (.int .i64 n)=some (.int .i64 n):=by
  unfold keyOf
  rw [u3]
  dsimp only
  unfold mapKey
  rw [u3]
  dsimp only
  rw [if_pos ⟨rfl,hwf⟩]
 unfold rd
 rw [hk,this]
 rfl
set_option maxHeartbeats 4000000 in
set_option maxRecDepth 100000 in
theorem sortedK_ok:ImpOK Try.prog fun f' av mem=>if f'=37 then sortedKP 52 av mem else none:=by
 intro f av mem r mem' h hok Z w j us sr ha
 dsimp only at h
 split at h
 rotate_left
 ·cases h
 rename_i e
 subst e
 unfold sortedKP at h
 split at h
 rotate_left
 ·cases h
 rename_i ff b
 split at h
 rotate_left
 ·cases h
 rename_i t m fz hb
 split at h
 rotate_left
 ·cases h
 rename_i e
 subst e
 simp only [obi] at h
 obtain ⟨es,hes,ks,hks,h⟩:=h
 split at h
 rotate_left
 ·cases h
 rename_i hlen
 cases h
 obtain ⟨hl,hv⟩:=ha
 match us,hl,hv with
 | [u1],hl,hv =>
 have v1:=hv 0 _ u1 rfl rfl
 cases v1 with
 | fn hcl hcv =>
 rename_i uc
 match uc,hcl,hcv with
 | [c1],hcl,hcv =>
 have vc:=hcv 0 _ c1 rfl rfl
 obtain ⟨g,us0,q1,q2,q3,q4,q5,_⟩:=sr.obj b _ hb
 cases vc with
 | ptr hj hs =>
 rw [q1] at hj
 cases hj
 simp only [Han.start,Option.some.injEq,Prod.mk.injEq] at hs
 obtain ⟨rfl,rfl⟩:=hs
 have hmc:m.cells=[m]:=by
  cases m<;>first | rfl | (simp [mapAt] at hes;done)
 rw [hmc] at q5
 obtain ⟨_,um,hum,hvm⟩:=q5 0 m rfl
 obtain ⟨rr,rfl,es',clock,h2,h3,h4,hz,hst⟩:=mapAt_sound sr hes hvm
 obtain ⟨k1,k2⟩:=mapO_get hks
 have hkey:∀(i:Nat) (x:MapEntry),es'[i]? = some x->∃n,ks[i]? = some n/\x.key = .int .i64 n/\-9223372036854775808<=n/\n<=9223372036854775807:=by
  intro i x hx
  have hi:i < es.length:=by have:=(Array.getElem?_eq_some_iff.1 hx).1;omega
  obtain ⟨n,e1,e2⟩:=k2 i _ (List.getElem?_eq_getElem hi)
  obtain ⟨e3,e4,e5⟩:=keyI_some e2
  obtain ⟨x',p1,_,_,p4,_⟩:=h4 i es[i].1 es[i].2 (List.getElem?_eq_getElem hi)
  rw [hx] at p1;cases p1
  rw [e3] at p4
  generalize x.key=kk at p4
  cases p4
  exact ⟨n,e1,rfl,e4,e5⟩
 have hrd:∀(i:Nat) (x:MapEntry),es'.toList[i]? = some x->∃n,ks[i]? = some n/\rg Try.prog 3 RU x=(.int .i64 n,.nil):=by
  intro i x hx
  obtain ⟨n,e1,e2,e3,e4⟩:=hkey i x (by simpa using hx)
  refine ⟨n,e1,?_⟩
  unfold rg
  rw [rd_key e2 e3 e4];rfl
 have hsz:es'.size=ks.length:=by omega
 have hown:w.ownsMap Try.prog 3 RU rr es'.size (.map ((es'.toList.map (rg Try.prog 3 RU)).foldr DataW.insert [])):=by
  refine ⟨es',clock,h2,⟨by simp only [maxLen];omega,hst,fun x hx=>?_⟩,Nat.le_refl _,rfl⟩
  obtain ⟨i,hi⟩:=List.getElem?_of_mem hx
  obtain ⟨n,_,e2,e3,e4⟩:=hkey i x (by simpa using hi)
  exact ⟨_,rd_key e2 e3 e4⟩
 have hints:(intKeys (DataW.map ((es'.toList.map (rg Try.prog 3 RU)).foldr DataW.insert []))).Perm ks:=by
  unfold intKeys
  dsimp only
  refine ((WideShapes.sorted_perm _).map _).trans (List.Perm.of_eq ?_)
  apply List.ext_getElem?
  intro i
  rw [List.map_map,List.getElem?_map]
  cases hx:es'.toList[i]? with
  | none =>
   rw [List.getElem?_eq_none_iff] at hx
   simp only [Array.length_toList] at hx
   rw [Option.map_none,List.getElem?_eq_none (by omega)]
  | some x =>
   obtain ⟨n,e1,e2⟩:=hrd i x hx
   rw [Option.map_some,e1]
   simp only [Function.comp,e2]
   rfl
 have hlt:g < w.heap.size:=(Array.getElem?_eq_some_iff.1 q2).1
 have hmsz:Maps.size (DataW.map ((es'.toList.map (rg Try.prog 3 RU)).foldr DataW.insert []))=ks.length:=by
  rw [Maps.size_eq,(WideShapes.sorted_perm _).length_eq,List.length_map,Array.length_toList,hsz]
 have hseq:SeqGives Fence.wide 2 Try.prog 52 #[.pointer (some ⟨g,0,none⟩)] encZ (fun ss=>ss.Perm (intKeys (DataW.map ((es'.toList.map (rg Try.prog 3 RU)).foldr DataW.insert [])))) (Maps.size (DataW.map ((es'.toList.map (rg Try.prog 3 RU)).foldr DataW.insert []))) w :=
  AnyZI.keys_gives (ρ:=keysL_ren) { keysL with } Fence.wide _ trivial rfl (by omega) g rr es'.size _ w hlt (by simpa using hum) hown
 have cS:=AnyZI.sorted_in sortedL Fence.wide 5 trivial trivial trivial trivial rfl (by omega) (sortsL _) (enters_of Try.func51 (by kernel_rfl) rfl) 52 #[.pointer (some ⟨g,0,none⟩)] trivial (enters_of Try.func52 (by kernel_rfl) rfl) _ _ (by rw [hmsz];simp only [maxLen];omega) (by rw [hmsz];omega) w hseq
 have cS2:=(callsIn_wide (n:=5)).1 cS
 have ev:(⟨g,0+(0 * (Try.prog.cellsOf t)+0),none⟩:Addr)=⟨g,0,none⟩:=by simp
 have eu:#[Value.func (.func 52) #[] [Value.pointer (some ⟨g,0+(0 * (Try.prog.cellsOf t)+0),none⟩)].toArray]=#[Value.func (.func 52) #[] #[.pointer (some ⟨g,0,none⟩)]]:=by rw [ev]
 show Calls Try.prog 37 #[Value.func (.func 52) #[] [Value.pointer (some ⟨g,0+(0 * (Try.prog.cellsOf t)+0),none⟩)].toArray] w _
 rw [eu]
 refine Calls.mono cS2 ?_
 rintro e w' ⟨v,ss,rfl,hS,hrow,hnil,hbel⟩
 refine ⟨v,rfl,?_⟩
 have hss:ss.Perm ks:=hS.trans hints
 have hsort:(ss.mergeSort fun x y=>decide (x<=y))=srt ks:=mergeSort_of_perm_i hss
 have hsl:ss.length=(srt ks).length:=by rw [hss.length_eq];exact (List.mergeSort_perm ks _).length_eq.symm
 rw [hsort] at hrow
 have hks0:ks.length=(srt ks).length:=(List.mergeSort_perm ks _).length_eq.symm
 have hz':ZExt Z w Z w':=.of fun g o ho=>⟨ho,same_block (hbel.block g (sr.zin g o ho)) o⟩
 have s1:SR Try.prog Z w' j mem:=sr.world hz' (fun g hg=>⟨hbel.block g (Owned.lt sr hg),fun _=>Iff.rfl⟩) (fun g o ho=>Nat.lt_of_lt_of_le (sr.zin g o ho) hbel.size)
 have stp0:∀(h:Han),(∀g,h.blk=some g->w.heap.size<=g)->SR Try.prog Z w' (upd j mem.length h) (mem++[.row 3 ((srt ks).map iV) 0]) ->
   Stp Z w j mem Z w' (upd j mem.length h) (mem++[.row 3 ((srt ks).map iV) 0]):=fun h hh s2 =>
  ⟨hbel.os,hbel.tape,hbel.output,hbel.size,fun g hg _=>⟨hbel.block g hg,fun _=>Iff.rfl⟩,fun g hg ho=>by
   rcases Owned.add ho rfl with ho | ho
   ·exact ho
   ·have:=hh g ho;omega,hz',fun t hn=>⟨hn.add rfl,rfl⟩⟩
 rcases hrow.2 with ⟨rfl,hn0⟩ | ⟨gb,cap,cur,rfl,hgb,hcur,hncap,hcap,hcs,htake⟩
 ·have hnk:srt ks=[]:=List.length_eq_zero_iff.1 (by omega)
  have s2:=s1.add (h:=⟨.slice none 0 0,1⟩) (o:=.row 3 ((srt ks).map iV) 0) (by simp [Han.blk]) ⟨_,upd_same _ _ _,by
   refine ⟨ce3.symm,Nat.one_pos,Nat.zero_le _,?_,.inl ⟨rfl,by rw [hnk];rfl⟩⟩
   rw [hnk];simp⟩
  exact ⟨Z,_,.own (upd_same _ _ _) (by simp),s2,stp0 _ (by simp [Han.blk]) s2,sr.ext _⟩
 ·have hcell:∀k x,(srt ks)[k]? = some x->w'.cell? ⟨gb,0+k * 1+0,none⟩=some (.int .i64 x):=by
   intro k x hx
   have hkl:k < (srt ks).length:=(List.getElem?_eq_some_iff.1 hx).1
   have:cur.toList[k]? = some (.int .i64 x):=by
    have h1:(cur.toList.take (ss.length * 1))[k]? = some (.int .i64 x):=by rw [htake];simp [hx,encZ]
    rwa [List.getElem?_take_of_lt (by omega)] at h1
   simp only [World.cell?,hcur]
   simpa using this
  have s2:=s1.add (h:=⟨.slice (some ⟨gb,0,none⟩) ss.length cap,1⟩) (o:=.row 3 ((srt ks).map iV) 0) (fun g hg ho=>by
    have:gb=g:=by simpa [Han.blk] using hg
    have:=Owned.lt sr ho
    omega) ⟨_,upd_same _ _ _,by
   refine ⟨ce3.symm,Nat.one_pos,Nat.zero_le _,?_,.inr ⟨gb,0,cap,cur,?_,?_,hcap,hcur,by simp;omega,?_,?_,?_⟩⟩
   ·intro x hx
    obtain ⟨y,_,rfl⟩:=List.mem_map.1 hx;rfl
   ·rw [List.length_map,hsl]
   ·rw [List.length_map];omega
   ·intro k x hx i y hy
    rw [List.getElem?_map,omi] at hx
    obtain ⟨n,hn,rfl⟩:=hx
    match i,hy with
    | 0,hy =>
     cases hy
     exact ⟨rfl,_,hcell k n hn,.int⟩
    | i+1,hy=>simp [iV,V.cells] at hy
   ·intro o ho
    have:=sr.zin gb o ho
    omega
   ·intro o ho;simp at ho⟩
  exact ⟨Z,_,.own (upd_same _ _ _) (by simp),s2,stp0 _ (by simp [Han.blk];exact hgb) s2,sr.ext _⟩
open Go Go.Lite
theorem hok:CfgOK qcfg:=by
 refine ⟨by kernel_rfl,?_,?_,seq_ok⟩
 ·intro f g h
  have h:qppr f=some g:=h
  unfold qppr at h
  split at h
  ·rename_i e
   subst e
   cases h
   exact over_sound overW
  ·cases h
 ·intro f g h
  have h:qipr f=some g:=h
  unfold qipr at h
  split at h
  ·rename_i e
   subst e
   cases h
   exact del_ok delWI
  ·split at h
   ·rename_i e
    subst e
    cases h
    exact sortedK_ok
   ·cases h
end Go.Proofs.Ytknapnnpmfhogaa
