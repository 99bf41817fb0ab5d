/-
  Texts that the last one stands on.
-/
import Derived.Test.YtlphgcjepphhcaaGreatY6
import Derived.Shelf.Spec.SlicesInsert
import Derived.Lib.SliceRun
import Derived.RangeFuncNested
import Derived.RangeFuncBound
import Derived.RangeFuncCalls
import Derived.RangeFuncLeaves
import Derived.Shelf.Abstract
import Derived.Shelf.RegionOpen
import Derived.WalkKit
import Derived.OwnWalkIn
import Derived.TacticsInMore
import Derived.LoopNIn
import Derived.LoopIn
import Derived.Stop.RegionWithIn
import Derived.Test.YtlphgcjepphhcaaGreatProg
namespace Go.Proofs.YtlphgcjepphhcaaGreat
open Go Go.Lite
set_option linter.unusedSimpArgs false
set_option linter.unusedVariables false
set_option maxRecDepth 100000
theorem stp_at {Q D:List Stp} {x:Stp} {sts:List Stp} {i:Int} (h:Q=(x::sts).reverse++D) (hi:i=(sts.length:Int)):(stpsV Q)[i.toNat]? = some (stpV x):=by
 subst hi
 rw [toNat_cast]
 exact stps_get h
section
variable {n:Nat} {r:Int} {es:Es} {o:Out}
theorem gone_loop (Q:List Stp) (hQ:Q.length<=10000):∀(ss sts:List Stp) (D:List Stp) (G:List Int),Q=(ss++sts).reverse++D->(∀s∈ss,s.2.1.length=1)->G.length+ss.length<=20000 ->
  Go qk true 5 (fF 81) (.head 0 (T81_0 (stpsV Q) ((sts.length:Int) - 1) r n (esV es) (bitsV n (tkn es)) (ints (G++ss.map (·.1))))) o ->
  Go qk true 5 (fF 81) (.head 0 (T81_0 (stpsV Q) (((ss++sts).length:Int) - 1) r n (esV es) (bitsV n (tkn es)) (ints G))) o
 | [],sts,D,G,_,_,_,hg=>by simpa using hg
 |(q,e,nx,i)::ss,sts,D,G,hd,h1,hG,hg=>by
  have hl:ss.length+sts.length+1+D.length=Q.length:=by rw [hd];simp;omega
  have ih:=gone_loop Q hQ ss sts ((q,e,nx,i)::D) (G++[q]) (by rw [hd];simp) (fun s hs=>h1 s (by simp [hs])) (by simp at hG |-;omega) (by simpa using hg)
  have e1:=h1 (q,e,nx,i) (by simp)
  have hst:stpV (q,e,nx,i) = .agg [.int .i64 q,.sl (strs (innE e nx).seps),.sl (ints (innE e nx).kids),.str (hiE e),.int .i64 nx,.int .i64 ((i:Nat):Int)]:=rfl
  have hx:=stp_at (i:=((((q,e,nx,i)::ss++sts:List Stp)).length:Int) - 1) hd (by simp)
  have w:W .i64 (((((q,e,nx,i)::ss++sts:List Stp)).length:Int) - 1 - 1)=(((ss++sts:List Stp)).length:Int) - 1:=by rw [W_i64 (by simp;omega)];simp
  refine s81_0_run _ _ _ _ _ _ _ ?_ ih
  unfold s81_0
  have hkl:((ints (innE e nx).kids).length:Int)=1:=by
   have:(innE e nx).kids.length=1:=by simpa using e1
   rw [ints_len,this];rfl
  rw [gd_of (decide_eq_true (by simp;omega)),idx_stp hx,hst,d176_mk,ibeq_t hkl,cond_true,gd_of (decide_eq_true (by simp;omega)),idx_stp hx,hst,d176_mk,gd_of (decide_eq_true (by rw [ints_len];simp at hG |-;omega)),w]
  simp [ints]
theorem give_loop:∀(ps:Es) (i:Nat) (G:List Int) (es R:Es),G.length<=20000->G.drop i=keysE ps->i<=G.length->Shf n es->es.Perm (ps++R) ->
  Go qk true 5 (fF 81) (.head 2 (T81_2 (G.length:Int) (G.length:Int) r n (esV (gvs es (keysE ps))) (bitsV n (tkn (gvs es (keysE ps)))) (ints G))) o ->
  Go qk true 5 (fF 81) (.head 2 (T81_2 (G.length:Int) (i:Int) r n (esV es) (bitsV n (tkn es)) (ints G))) o
 | [],i,G,es,R,_,hd,hi,_,_,hg=>by
  have h1:=drop_nil hd
  have e:i=G.length:=by omega
  subst e
  exact hg
 |(p,b)::ps,i,G,es,R,hG,hd,hi,hS,hp,hg=>by
  obtain ⟨h1,h2,h3⟩:=drop_cons hd
  have ih:=give_loop ps (i+1) G (delE es p) R hG h2 (by omega) (shf_del hS p) (del_perm hS.nd hp) hg
  have w:W .i64 ((i:Int)+1)=((i+1:Nat):Int):=by rw [W_i64 (by omega)];omega
  refine s81_2_run _ _ _ _ _ _ _ ?_ ih
  unfold s81_2
  rw [decide_eq_true (by omega),cond_true,gd_of (by simp),toNat_cast,gd_of (decide_eq_true (by rw [ints_len];omega)),idxK_ints h1,kI_mk,icM_of mk127_inj (giveS_ok hS (mem_keys hp)),w]
end
theorem eI_hS (w:Bool) (h:Bs) (ez:Su) (hne:ez≠[]) (nz nq:Int):V.agg [V.sl (strs (innE ez nz).seps),V.sl (ints (innE ez nz).kids),V.str (cond w h (innE ez nz).high),V.int .i64 nq]=eI (innE (hS w h ez) nq):=by
 have h1:(innE ez nz).seps=(innE (hS w h ez) nq).seps:=(seps_hS w h ez).symm
 have h2:(innE ez nz).kids=(innE (hS w h ez) nq).kids:=by
  obtain ⟨e',⟨z,hz⟩,rfl⟩:=snoc_of hne
  show (e'++[(z,hz)]).map (·.1)=(hS w h (e'++[(z,hz)])).map (·.1)
  rw [hS_snoc];simp
 have h3:cond w h (innE ez nz).high=(innE (hS w h ez) nq).high:=(hiE_hS w h hne).symm
 rw [h1,h2,h3]
section
variable {n:Nat} {r:Int} {o:Out}
theorem heir_loop (A G:List Int) (hA:A.length<=20000) (hGA:A.length<=G.length) {x0:Int} {x1 x2:List V} {x3:List UInt8} {x4 x5:Int} {w:Bool} (hw:w=decide (x5 > 0)) (h:Bs):∀(zo gs:List Nd) (i:Nat) (es R:Es),zo.length=gs.length->Shf n es->es.Perm (ezs zo++R)->(∀g∈gs,(g.1,encI g.2.1 g.2.2)∈R) ->
  (∀z∈zo,z.2.1≠[]/\rightB (innE z.2.1 z.2.2)=true)->(∀g∈gs,rightB (innE g.2.1 g.2.2)=true/\hiE g.2.1=h)->(∀z∈newN w h zo gs,rightB (innE z.2.1 z.2.2)=true)->A.drop i=zo.map (·.1)->(∃T,G.drop i=gs.map (·.1)++T)->i<=A.length ->
  Go qk true 5 (fF 81) (.head 1 (T81_1 (ints A) (A.length:Int) (A.length:Int) r n (esV (wrs es (ezs (newN w h zo gs)))) (bitsV n (tkn (wrs es (ezs (newN w h zo gs))))) (ints G) x0 x1 x2 x3 x4 x5)) o ->
  Go qk true 5 (fF 81) (.head 1 (T81_1 (ints A) (A.length:Int) (i:Int) r n (esV es) (bitsV n (tkn es)) (ints G) x0 x1 x2 x3 x4 x5)) o
 | [],[],i,es,R,_,_,_,_,_,_,_,hd,_,hi,hg=>by
  have h1:=drop_nil hd
  have e:i=A.length:=by omega
  subst e
  exact hg
 | [],_::_,_,_,_,hl,_,_,_,_,_,_,_,_,_,_=>by simp at hl
 | _::_,[],_,_,_,hl,_,_,_,_,_,_,_,_,_,_=>by simp at hl
 |(z,ez,nz)::zo,(q,eq,nq)::gs,i,es,R,hl,hs,hp,hR,hz,hgs,hnew,hd,⟨T,hdG⟩,hi,hg=>by
  obtain ⟨h1,h2,h3⟩:=drop_cons hd
  obtain ⟨g1,g2,g3⟩:=drop_cons (l:=G) (r:=gs.map (·.1)++T) (by rw [hdG];rfl)
  obtain ⟨hne,hrz⟩:=hz (z,ez,nz) (by simp)
  obtain ⟨hrq,hhq⟩:=hgs (q,eq,nq) (by simp)
  have hrn:rightB (innE (hS w h ez) nq)=true:=hnew (z,hS w h ez,nq) (by simp [newN])
  have hgz:getE es z=some (encB (innE ez nz)):=get_perm hs.nd hp
  have hgq:getE es q=some (encB (innE eq nq)):=get_mem hs.nd (hp.mem_iff.2 (List.mem_append_right _ (hR (q,eq,nq) (by simp))))
  have hp2:=put_perm (b':=encB (innE (hS w h ez) nq)) hs.nd hp
  have hs2:=shf_put hs (b:=encB (innE (hS w h ez) nq)) (mem_keys hp)
  have ih:=heir_loop A G hA hGA (x0:=x0) (x1:=x1) (x2:=x2) (x3:=x3) (x4:=x4) hw h zo gs (i+1) _ ((z,encB (innE (hS w h ez) nq))::R) (by simpa using hl) hs2 (hp2.trans List.perm_middle.symm) (fun g hg=>List.mem_cons_of_mem _ (hR g (by simp [hg]))) (fun y hy=>hz y (by simp [hy])) (fun y hy=>hgs y (by simp [hy])) (fun y hy=>hnew y (by
   show y∈(z,hS w h ez,nq)::newN w h zo gs
   simp [hy])) h2 ⟨T,g2⟩ (by omega) hg
  have w1:W .i64 ((i:Int)+1)=((i+1:Nat):Int):=by rw [W_i64 (by omega)];omega
  refine s81_1_run _ _ _ _ _ _ _ _ _ _ _ _ _ _ ?_ ih
  unfold s81_1
  rw [decide_eq_true (by omega),cond_true,gd_of (by simp),toNat_cast,idxK_ints h1,kI_mk,rd_inn hs hgz hrz,gdS_eq,gd_of (by simp),gd_of (decide_eq_true (by rw [ints_len];omega)),idxK_ints g1,kI_mk,rd_inn hs hgq hrq,gdS_eq]
  show (icM qcfg _ _ _ [_,_,.ifc 150 (.agg [.sl (strs (innE ez nz).seps),.sl (ints (innE ez nz).kids),.str (cond (decide (x5 > 0)) (hiE eq) (innE ez nz).high),.int .i64 nq])] (tM r n es) _)=_
  rw [hhq,<-hw,eI_hS w h ez hne nz nq,icM_of mk78_inj (wrI_ok hs hgz hrn),w1]
end
theorem xstep (xo:Nd) (xi:Nat):stpV (xo.1,xo.2.1,xo.2.2,xi) = .agg [.int .i64 xo.1,.sl (strs (innE xo.2.1 xo.2.2).seps),.sl (ints (innE xo.2.1 xo.2.2).kids),.str (hiE xo.2.1),.int .i64 xo.2.2,.int .i64 ((xi:Nat):Int)]:=rfl
section
variable {n:Nat} {r:Int} {es:Es} {ws:List Stp} {pl:Int} {lf:Lf} {w:Bool} {zl:List Nl} {gs zo:List Nd} {xo X:Nd} {ss:List Stp} {xi:Nat} {rest:List Stp} {out:List Int} {R:Es} {r':Int} {es':Es}
theorem drop_end (d:DropF n es ws pl lf w zl gs zo xo X ss xi rest out R) (hsk:SinkR n r (dropE es pl lf w zl gs zo X) r' es') (A:List Int) :
  ∃m,Go qk true 5 (fF 81) (.head 1 (T81_1 (ints A) (A.length:Int) (A.length:Int) r n (esV (wrs es (ezl (newL w lf zl)++ezs (newN w lf.high zo gs)))) (bitsV n (tkn (wrs es (ezl (newL w lf zl)++ezs (newN w lf.high zo gs))))) (ints (pl::gs.map (·.1))) xo.1 (strs (innE xo.2.1 xo.2.2).seps) (ints (innE xo.2.1 xo.2.2).kids) (hiE xo.2.1) xo.2.2 (xi:Int))) (.doneM (.tup []) m) /\
   ∀r0 n0 e0 b0,canNorm cmT (tm r0 n0 e0 b0) (.tup []) m=mk81 (r',n,esV es',bitsV n (tkn es')):=by
 have hp:=d.perm
 rw [<-List.append_assoc] at hp
 have h1:=wrs_perm d.shf.nd hp d.keys
 have hs1:=shf_wrs d.shf hp d.keys
 have hp2:(wrs es (ezl (newL w lf zl)++ezs (newN w lf.high zo gs))).Perm ((X.1,encI xo.2.1 xo.2.2)::((((pl,encL lf)::ezs gs))++(ezl (newL w lf zl)++(ezs (newN w lf.high zo gs)++R)))):=by
  refine h1.1.trans (perm_cn.2 fun x=>?_)
  rw [d.x.pg]
  simp only [cn_app,cn_cons,ezs_cons]
  simp only [ezs,List.map_nil,cn_nil]
  omega
 have hgx:=get_perm hs1.nd hp2
 have hp3:=put_perm (b':=encI X.2.1 X.2.2) hs1.nd hp2
 have hs3:=shf_put hs1 (b:=encI X.2.1 X.2.2) (mem_keys hp2)
 have hp4:(putE (wrs es (ezl (newL w lf zl)++ezs (newN w lf.high zo gs))) X.1 (encI X.2.1 X.2.2)).Perm (((pl,encL lf)::ezs gs)++((X.1,encI X.2.1 X.2.2)::(ezl (newL w lf zl)++(ezs (newN w lf.high zo gs)++R)))):=by
  refine hp3.trans (perm_cn.2 fun x=>?_)
  simp only [cn_app,cn_cons]
  omega
 have hk:keysE ((pl,encL lf)::ezs gs)=pl::gs.map (·.1):=by
  show pl::keysE (ezs gs)=_
  rw [keys_ezs]
 have hgl:gs.length<=1024:=by
  have:=congrArg List.length d.x.fst
  rw [d.x.fgs,List.length_map]
  simp at this
  have:=d.len
  omega
 have hdel:delI (innE xo.2.1 xo.2.2) (xi:Int)=(innE X.2.1 X.2.2,0):=by
  unfold delI
  have:=d.x.lti
  have:=d.x.two
  rw [if_pos ⟨d.rxo,by omega,by simp;omega,by simp;omega⟩,toNat_cast,d.x.del]
 have hdp:=delI_ok (innE xo.2.1 xo.2.2) (xi:Int) (right_sm d.rxo)
 rw [hdel] at hdp
 obtain ⟨E2,hE2⟩:∃E2,E2=putE (wrs es (ezl (newL w lf zl)++ezs (newN w lf.high zo gs))) X.1 (encI X.2.1 X.2.2):=⟨_,rfl⟩
 obtain ⟨G,hG⟩:∃G,G=pl::gs.map (·.1):=⟨_,rfl⟩
 rw [<-hE2] at hs3 hp4
 rw [<-hG] at hk |-
 have hGl:G.length<=20000:=by rw [hG];simp;omega
 have hdr:dropE es pl lf w zl gs zo X=gvs E2 G:=by rw [hE2,hG];rfl
 rw [hdr] at hsk
 refine ⟨tM r' n es'++[O.row 3 (ints G) 0],?_,fun r0 n0 e0 b0=>by kernel_rfl⟩
 have h3:Go qk true 5 (fF 81) (.head 2 (T81_2 (G.length:Int) (G.length:Int) r n (esV (gvs E2 G)) (bitsV n (tkn (gvs E2 G))) (ints G))) (.doneM (.tup []) (tM r' n es'++[O.row 3 (ints G) 0])):=by
  refine s81_2_run _ _ _ _ _ _ _ ?_ (.refl _)
  unfold s81_2
  rw [decide_eq_false (by omega),cond_false,icM_of mk128_inj (sinkT_ok hsk)]
 rw [<-hk] at h3
 have h2:=give_loop ((pl,encL lf)::ezs gs) 0 G E2 _ hGl (by rw [hk];rfl) (by omega) hs3 hp4 (by rw [hk] at h3 |-;exact h3)
 refine s81_1_run _ _ _ _ _ _ _ _ _ _ _ _ _ _ ?_ h2
 unfold s81_1
 rw [decide_eq_false (by omega),cond_false]
 show (pcK qcfg _ [eI (innE xo.2.1 xo.2.2),_] _)=_
 rw [pcK_of hdp,d187_mk]
 show (icM qcfg _ _ _ [_,.int .i64 xo.1,.ifc 150 (eI (innE X.2.1 X.2.2))] (tM r n (wrs es (ezl (newL w lf zl)++ezs (newN w lf.high zo gs)))) _)=_
 rw [<-d.x.pg,icM_of mk78_inj (wrI_ok hs1 hgx d.rX),ints_len,hE2]
 rfl
theorem drop_run (d:DropF n es ws pl lf w zl gs zo xo X ss xi rest out R) (hsk:SinkR n r (dropE es pl lf w zl gs zo X) r' es') :
  icC qcfg cmT 81 [.ptr 0 0 0,.sl (stpsV ws),.int .i64 pl] (tM r n es)=some (mk81 (r',n,esV es',bitsV n (tkn es'))):=by
 have hlen:=d.len
 have hsl:ss.length+rest.length+1=ws.length:=by
  have:=congrArg List.length d.x.fst
  simp at this
  omega
 have hgs:gs.length=ss.length:=by rw [d.x.fgs,List.length_map]
 have hgk:gs.map (·.1)=ss.map (·.1):=by rw [d.x.fgs,List.map_map];rfl
 obtain ⟨A,hA⟩:∃A,A=zl.map (·.1)++zo.map (·.1):=⟨_,rfl⟩
 obtain ⟨m,hE,hc⟩:=drop_end d hsk A
 have hQ:ws=(ss++(xo.1,xo.2.1,xo.2.2,xi)::rest).reverse++[]:=by rw [<-d.x.fst];simp
 have hQ2:ws=((xo.1,xo.2.1,xo.2.2,xi)::rest).reverse++ss.reverse:=by rw [hQ];simp
 have w0:W .i64 (((stpsV ws).length:Int) - 1)=((ss++(xo.1,xo.2.1,xo.2.2,xi)::rest).length:Int) - 1:=by rw [stps_len,W_i64 (by omega)];simp;omega
 have hnd:2<=(innE xo.2.1 xo.2.2).kids.length:=by simpa using d.x.two
 have hloop:Go qk true 5 (fF 81) (.head 1 (T81_1 (ints A) (A.length:Int) ((0:Nat):Int) r n (esV es) (bitsV n (tkn es)) (ints (pl::gs.map (·.1))) xo.1 (strs (innE xo.2.1 xo.2.2).seps) (ints (innE xo.2.1 xo.2.2).kids) (hiE xo.2.1) xo.2.2 (xi:Int))) (.doneM (.tup []) m):=by
  have hzl1:=d.zl1
  match hzl:zl,hzl1 with
  | [],_ =>
   have hzo:=d.zl0 rfl
   subst hzo
   have:A=[]:=by rw [hA];rfl
   subst this
   exact hE
  | [(z,l)],_ =>
   have hzo:=d.zo1 (by simp)
   have hp:=d.perm
   have hp:es.Perm ((z,encL l)::(ezs zo++((pl,encL lf)::(ezs gs++(ezs [xo]++R))))):=hp
   have hgz:=get_perm d.shf.nd hp
   have hrl:rightL l=true:=d.rzl (z,l) (by simp)
   have hrn:rightL ⟨l.prs,bif w then lf.high else l.high,lf.next⟩=true:=d.rzl' (z,⟨l.prs,bif w then lf.high else l.high,lf.next⟩) (by simp [newL])
   have hgp:getE es pl=some (encL lf):=get_mem d.shf.nd (hp.mem_iff.2 (by simp))
   have hp2:=put_perm (b':=encL ⟨l.prs,bif w then lf.high else l.high,lf.next⟩) d.shf.nd hp
   have hs2:=shf_put d.shf (b:=encL ⟨l.prs,bif w then lf.high else l.high,lf.next⟩) (mem_keys hp)
   have hA2:A=z::zo.map (·.1):=by rw [hA];rfl
   have hAl:A.length<=gs.length+1:=by rw [hA2];simp;omega
   have hE2:=heir_loop A (pl::gs.map (·.1)) (by omega) (by simp;omega) (x0:=xo.1) (x1:=strs (innE xo.2.1 xo.2.2).seps) (x2:=ints (innE xo.2.1 xo.2.2).kids) (x3:=hiE xo.2.1) (x4:=xo.2.2) d.x.fw lf.high zo gs 1 _ ((z,encL ⟨l.prs,bif w then lf.high else l.high,lf.next⟩)::((pl,encL lf)::(ezs gs++(ezs [xo]++R)))) hzo hs2
    (hp2.trans List.perm_middle.symm) (fun g hg=>by
     refine List.mem_cons_of_mem _ (List.mem_cons_of_mem _ (List.mem_append_left _ (List.mem_map.2 ⟨g,hg,rfl⟩)))) d.rzo (fun g hg=>⟨d.rgs g hg,d.x.hi g hg⟩) d.rzo' (by rw [hA2];rfl) ⟨[],by simp⟩ (by rw [hA2];simp) hE
   have h1:A[0]? = some z:=by rw [hA2];rfl
   have g1:(pl::gs.map (·.1))[0]? = some pl:=rfl
   have fw:=d.x.fw
   refine s81_1_run _ _ _ _ _ _ _ _ _ _ _ _ _ _ ?_ hE2
   unfold s81_1
   rw [decide_eq_true (by rw [hA2];simp),cond_true,gd_of (by simp),toNat_cast,idxK_ints h1,kI_mk,rd_leaf d.shf hgz hrl,gdS_eq,gd_of (by simp),gd_of (decide_eq_true (by rw [ints_len];simp)),idxK_ints g1,kI_mk,rd_leaf d.shf hgp d.rlf,gdS_eq]
   show (icM qcfg _ _ _ [_,_,.ifc 120 (eL ⟨l.prs,cond (decide ((xi:Int) > 0)) lf.high l.high,lf.next⟩)] (tM r n es) _)=_
   rw [<-fw,icM_of mk78_inj (wrL_ok d.shf hgz hrn)]
   rfl
 have hgone:=gone_loop (r:=r) (es:=es) (n:=n) (o:=.doneM (.tup []) m) ws (by omega) ss ((xo.1,xo.2.1,xo.2.2,xi)::rest) [] [pl] hQ d.x.one (by simp;omega) (by
  have hx:=stp_at (i:=((((xo.1,xo.2.1,xo.2.2,xi)::rest:List Stp)).length:Int) - 1) hQ2 (by simp)
  have hah:=aheadT_ok (r:=r) d.shf ws (by omega) d.ah (gs.length+1) (by omega)
  rw [d.fout,<-hA] at hah
  have hG:[pl]++ss.map (·.1)=pl::gs.map (·.1):=by rw [hgk];rfl
  have hGl:((ints (pl::gs.map (·.1))).length:Int)=((gs.length+1:Nat):Int):=by rw [ints_len];simp
  rw [hG]
  refine s81_0_run _ _ _ _ _ _ _ ?_ hloop
  unfold s81_0
  rw [gd_of (decide_eq_true (by simp)),idx_stp hx,xstep,d176_mk,ibeq_f (by rw [ints_len];omega),cond_false,gd_of (decide_eq_true (by simp)),idx_stp hx,xstep,d176_mk,hGl,icR_of mk124_inj hah,gdS_eq,ints_len]
  rfl)
 refine e81_run _ _ _ _ _ _ ?_ ⟨_,_,hgone,hc _ _ _ _⟩
 unfold e81
 rw [w0]
 rfl
end
theorem pth_root {r:Int} {up:List IL} {p:Int} {h:Bs} {a c:Su} {sts:List Stp} (hp:Pth r up p h a c sts) (h2:Rt2 up) (hu:up≠[]):∃s∈sts,2<=s.2.1.length:=by
 induction hp with
 | top=>exact absurd rfl hu
 | @st up q e1 p h e2 pre post sts hup ih =>
  cases up with
  | nil=>exact ⟨_,List.mem_cons_self ..,h2 _ rfl (q,e1++(p,h)::e2) (by simp)⟩
  | cons l up =>
   obtain ⟨s,hs,h3⟩:=ih (fun l' hl=>h2 l' (by rw [List.getLast?_cons_cons];exact hl)) (by simp)
   exact ⟨s,List.mem_cons_of_mem _ hs,h3⟩
section
variable {r:Int} {up:List IL} {p:Int} {h:Bs} {a c:Su} {sts:List Stp} {w:Bool} {up':List IL} {gs zo:List Nd} {xo X:Nd}
theorem rm_old (hr:Rm r up p h a c sts w up' gs zo xo X):(∀l∈up,okT okI l 0)->(∀g∈gs,rightB (innE g.2.1 g.2.2)=true)/\(∀z∈zo,z.2.1≠[]/\rightB (innE z.2.1 z.2.2)=true)/\rightB (innE xo.2.1 xo.2.2)=true:=by
 induction hr with
 | @one up q p h pre post sts w up' gs zo xo X _ ih =>
  intro hI
  have hl:=hI _ (List.mem_cons_self ..)
  obtain ⟨h1,h2,h3⟩:=ih fun l hl=>hI l (by simp [hl])
  obtain ⟨_,hr⟩:okI [(p,h)] (nxt post 0):=okI_enc hl
  refine ⟨?_,?_,h3⟩
  ·intro g hg
   rcases List.mem_cons.1 hg with rfl | hg
   ·exact hr
   ·exact h1 g hg
  ·intro z hz
   rcases List.mem_append.1 hz with hz | hz
   ·rcases List.eq_nil_or_concat pre with rfl | ⟨l,⟨y,ey⟩,rfl⟩
    ·cases hz
    ·rw [List.concat_eq_append] at hl hz
     rw [lastN_snoc] at hz
     have:z=(y,ey,q+1):=by simpa using hz
     subst this
     rw [List.append_assoc] at hl
     exact okI_enc hl
   ·exact h2 z hz
 | @left up q p y h hy e1 e2 pre post sts hup=>intro hI;exact ⟨by simp,by simp,(okI_enc (hI _ (List.mem_cons_self ..))).2⟩
 | @first up q p h x e2 pre post sts hup=>intro hI;exact ⟨by simp,by simp,(okI_enc (hI _ (List.mem_cons_self ..))).2⟩
theorem rm_new (hr:Rm r up p h a c sts w up' gs zo xo X):(∀l∈up,∀x∈l,x.2≠[])->(∀l∈up',okT okI l 0)->(∀z∈newN w h zo gs,rightB (innE z.2.1 z.2.2)=true)/\rightB (innE X.2.1 X.2.2)=true:=by
 induction hr with
 | @one up q p h pre post sts w up' gs zo xo X hrm ih =>
  intro hn hI
  have hl:=hI _ (List.mem_cons_self ..)
  obtain ⟨h1,h2⟩:=ih (fun l hl=>hn l (by simp [hl])) fun l hl=>hI l (by simp [hl])
  refine ⟨?_,h2⟩
  intro z hz
  rcases List.eq_nil_or_concat pre with rfl | ⟨l,⟨y,ey⟩,rfl⟩
  ·have:=(rm_zo hrm fun l hl=>hn l (by simp [hl])).1 rfl
   subst this
   cases hz
  ·rw [List.concat_eq_append] at hl hz
   rw [hI_snoc,List.append_assoc] at hl
   rw [lastN_snoc] at hz
   have hz:z∈(y,hS w h ey,nxt post 0)::newN w h zo gs:=hz
   rcases List.mem_cons.1 hz with rfl | hz
   ·exact (okI_enc hl).2
   ·exact h1 z hz
 | @left up q p y h hy e1 e2 pre post sts hup=>intro _ hI;exact ⟨by simp [newN],(okI_enc (hI _ (List.mem_cons_self ..))).2⟩
 | @first up q p h x e2 pre post sts hup=>intro _ hI;exact ⟨by simp [newN],(okI_enc (hI _ (List.mem_cons_self ..))).2⟩
end
theorem ord_gone {pre post:LL} {p:Int} {prs:List Pr} {h:Bs} {w:Bool} (ho:OrdB (pre++(p,prs,h)::post)):OrdB (hF w h pre++post):=by
 obtain ⟨h1,h2,h3,h4,h5⟩:=ord_parts ho
 rcases List.eq_nil_or_concat pre with rfl | ⟨l,⟨z,prz,hz⟩,rfl⟩
 ·exact h2
 ·rw [List.concat_eq_append] at h1 h3 h5 |-
  rw [hF_snoc]
  obtain ⟨q1,_,q3⟩:=List.pairwise_append.1 h1
  cases w with
  | false=>exact List.pairwise_append.2 ⟨h1,h2,fun y hy z hz=>h5 y hy z hz⟩
  | true =>
   refine List.pairwise_append.2 ⟨List.pairwise_append.2 ⟨q1,by simp,?_⟩,h2,?_⟩
   ·intro y hy x hx
    have:x=(z,prz,h):=by simpa using hx
    subst this
    have h6:=q3 y hy (z,prz,hz) (by simp)
    exact ⟨hlt_trans h6.1 (h3 (z,prz,hz) (by simp)).1,h6.2⟩
   ·intro y hy x hx
    rcases List.mem_append.1 hy with hy | hy
    ·exact h5 y (by simp [hy]) x hx
    ·have:y=(z,prz,h):=by simpa using hy
     subst this
     exact h4 x hx
theorem lf_new {prz prs:List Pr} {hz h:Bs} {w:Bool} (o:LfOk prz hz) (o2:LfOk prs h) (hl:hlt hz h):LfOk prz (bif w then h else hz):=by
 cases w with
 | false=>exact o
 | true =>
  refine ⟨o.ri,o.mem,?_,o.wt⟩
  show h=[]∨_
  rcases o2.hi with h1 | ⟨h1,_⟩
  ·exact .inl h1
  ·refine .inr ⟨h1,fun x hx=>?_⟩
   exact lt_trans ((o.hi.resolve_left hl.1).2 x hx) (hl.2.resolve_left (key_ne h1))
theorem drop_ex {n:Nat} {r:Int} {es:Es} {ups:List IL} {b:LL} (h:WF n r es ups b) {p:Int} {h':Bs} {ws:List Stp} {pre post:LL} {prs:List Pr} (hp:Pth r ups.reverse p h' (sumL pre) (sumL post) ws.reverse) (hb:b=pre++(p,prs,h')::post) (hws:ws.length=ups.length) (hu:ups≠[]) :
  ∃w zl gs zo xo X ss xi rest out R up',DropF n es ws p ⟨prs,h',nxt post 0⟩ w zl gs zo xo X ss xi rest out R/\WT n r (dropE es p ⟨prs,h',nxt post 0⟩ w zl gs zo X) up' (hF w h' pre++post):=by
 have hul:=ups_len h.toWT
 obtain ⟨w,up',gs,zo,xo,X,hr⟩:=rm_ex hp (pth_root hp h.rt (by simpa using hu))
 have hI:∀l∈ups.reverse,okT okI l 0:=fun l hl=>h.okI l (by simpa using hl)
 have hn:∀l∈ups.reverse,∀x∈l,x.2≠[]:=fun l hl=>okI_ne (hI l hl)
 obtain ⟨hIn,hIf⟩:=inE_up h.toWT
 obtain ⟨ss,xi,rest,hx⟩:=rm_x hr
 obtain ⟨out,ha1,ha2⟩:=rm_ah h.shf hr hI fun l hl=>hIn l (by simpa using hl)
 obtain ⟨o1,o2,o3⟩:=rm_old hr hI
 obtain ⟨z0,z1⟩:=rm_zo hr hn
 obtain ⟨R0,hp1,hp2⟩:=rm_perm hr hn
 have hF:=h.okF
 rw [hb] at hF
 obtain ⟨ok1,ok3,ok2⟩:=(okT_app _ _ _).1 hF
 have hrl:rightL ⟨prs,h',nxt post 0⟩=true:=ok3
 obtain ⟨lo,hx0,hx1⟩:=lfOk_of hrl
 have hkh:h'=[]∨keyB h'=true:=lo.hi.imp id fun q=>q.1
 have hord:=h.ord
 rw [hb] at hord
 have hP:=ord_hp hord
 have eS0:sumL (pre++(p,prs,h')::post)=sumL pre++(p,h')::sumL post:=by simp [sumL]
 rw [eS0] at hP
 have hI':=rm_okI hr hI hP hkh
 obtain ⟨n1,n2⟩:=rm_new hr hn hI'
 have hes:es.Perm (encU ups.reverse++encT encF (pre++(p,prs,h')::post) 0):=by
  have:=h.rep
  rw [hb] at this
  exact this.trans (List.Perm.append_right _ encU_rev.symm)
 have hes:=hes.trans (List.Perm.append_right _ hp1)
 have hdn:Dn [(r,[])] up'.reverse (Proofs.YtlphgcjepphhcaaGreat.hF w h' pre++post):=by
  have e:sumL (Proofs.YtlphgcjepphhcaaGreat.hF w h' pre++post)=hS w h' (sumL pre)++sumL post:=by rw [<-sum_hF];simp [sumL]
  have:=rm_dn hr hn (d:=[]) (b:=Proofs.YtlphgcjepphhcaaGreat.hF w h' pre++post) (by rw [<-e];exact .leaf _)
  rwa [List.append_nil] at this
 have hod:=ord_gone (w:=w) hord
 rcases List.eq_nil_or_concat pre with rfl | ⟨l,⟨z,prz,hz⟩,rfl⟩
 ·have hzo:=z0 rfl
  subst hzo
  have d:DropF n es ws p ⟨prs,h',nxt post 0⟩ w [] gs [] xo X ss xi rest out (R0++encT encF post 0):=by
   refine ⟨h.shf,by omega,hx,ha1,ha2,by simp,fun _=>rfl,fun q=>absurd rfl q,?_,hrl,by simp,by simp [newL],o1,o2,n1,o3,n2⟩
   refine hes.trans (perm_cn.2 fun x=>?_)
   rw [List.nil_append,encT]
   simp only [cn_app,cn_cons,ezs_cons,ezl,ezs,List.map_nil,cn_nil,List.nil_append]
   have:c1 x (p,encF (prs,h') (nxt post 0))=c1 x (p,encL ⟨prs,h',nxt post 0⟩):=rfl
   omega
  refine ⟨w,[],gs,[],xo,X,ss,xi,rest,out,_,up'.reverse,d,d.left.2,?_,hdn,fun l hl=>hI' l (by simpa using hl),ok2,hod⟩
  refine d.left.1.trans ?_
  refine List.Perm.trans ?_ (List.Perm.append_right _ (hp2.symm.trans encU_rev.symm))
  show (ezl []++(ezs (newN w h' [] gs)++(ezs [X]++(R0++encT encF post 0)))).Perm (_++encT encF (Proofs.YtlphgcjepphhcaaGreat.hF w h' []++post) 0)
  have:Proofs.YtlphgcjepphhcaaGreat.hF w h' []++post=post:=rfl
  rw [this]
  refine perm_cn.2 fun x=>?_
  simp only [cn_app,ezl,List.map_nil,cn_nil,List.nil_append]
  omega
 ·rw [List.concat_eq_append] at *
  have e1:sumL (l++[(z,prz,hz)])=sumL l++[(z,hz)]:=by simp [sumL]
  rw [e1] at z1 ha2
  rw [pgA_snoc] at ha2
  have hzl:=z1 (by simp)
  obtain ⟨k1,k2,_⟩:=(okT_app _ _ _).1 ok1
  have hrz:rightL ⟨prz,hz,p+1⟩=true:=k2
  obtain ⟨zo',_,_⟩:=lfOk_of hrz
  have hlt':=((ord_parts hord).2.2.1 (z,prz,hz) (by simp)).1
  have hnew:=rightL_of (lf_new (w:=w) zo' lo hlt') hx0 hx1
  have d:DropF n es ws p ⟨prs,h',nxt post 0⟩ w [(z,⟨prz,hz,p+1⟩)] gs zo xo X ss xi rest out (R0++(encT encF l (z+1)++encT encF post 0)):=by
   refine ⟨h.shf,by omega,hx,ha1,ha2,by simp,fun q=>by simp at q,fun _=>hzl,?_,hrl,by simpa using hrz,by simpa [newL] using hnew,o1,o2,n1,o3,n2⟩
   refine hes.trans (perm_cn.2 fun x=>?_)
   have E:encT encF (l++[(z,prz,hz)]++(p,prs,h')::post) 0=encT encF l (z+1)++(z,encL ⟨prz,hz,p+1⟩)::(p,encL ⟨prs,h',nxt post 0⟩)::encT encF post 0:=by
    rw [List.append_assoc,encT_app];rfl
   rw [E]
   simp only [cn_app,cn_cons,ezs_cons,ezl,List.map_cons,List.map_nil,cn_nil,List.nil_append]
   omega
  refine ⟨w,[(z,⟨prz,hz,p+1⟩)],gs,zo,xo,X,ss,xi,rest,out,_,up'.reverse,d,d.left.2,?_,hdn,fun l hl=>hI' l (by simpa using hl),?_,hod⟩
  ·refine d.left.1.trans ?_
   refine List.Perm.trans ?_ (List.Perm.append_right _ (hp2.symm.trans encU_rev.symm))
   have E:encT encF (l++[(z,prz,bif w then h' else hz)]++post) 0=encT encF l (z+1)++(z,encL ⟨prz,bif w then h' else hz,nxt post 0⟩)::encT encF post 0:=by
    rw [List.append_assoc,encT_app];rfl
   rw [hF_snoc,E]
   refine perm_cn.2 fun x=>?_
   simp only [cn_app,cn_cons,ezl,newL,List.map_cons,List.map_nil,cn_nil,List.nil_append]
   omega
  ·rw [hF_snoc,List.append_assoc]
   exact (okT_app _ _ _).2 ⟨k1,hnew,ok2⟩
inductive DelR (n:Nat) (r:Int) (es:Es) (k:Bs):Int->Int->Es->Prop
 | arg (h:keyB k=false):DelR n r es k 1 r es
 | no {ws:List Stp} {pl:Int} {l:Lf} (hs:Shf n es) (hk:keyB k=true) (hw:WayR es k r ws pl l) (hl:ws.length<=1024) (hr0:rightL l=true) (hh:hasS (keysL l.prs) k=false):DelR n r es k 7 r es
 | put {ws:List Stp} {pl:Int} {l:Lf} (hs:Shf n es) (hk:keyB k=true) (hw:WayR es k r ws pl l) (hl:ws.length<=1024) (hg:getE es pl=some (encL l)) (hr0:rightL l=true) (hh:hasS (keysL l.prs) k=true) (hd:delL l.prs k≠[]∨ws=[]) (hr:rightL ⟨delL l.prs k,l.high,l.next⟩=true) :
  DelR n r es k 0 r (putE es pl (encL ⟨delL l.prs k,l.high,l.next⟩))
 | drop {ws:List Stp} {pl:Int} {l:Lf} {w:Bool} {zl:List Nl} {gs zo:List Nd} {xo X:Nd} {ss:List Stp} {xi:Nat} {rest:List Stp} {out:List Int} {R:Es} {r':Int} {es':Es} (hk:keyB k=true) (hw:WayR es k r ws pl l) (hr0:rightL l=true) (hh:hasS (keysL l.prs) k=true) (hd:delL l.prs k=[]) (hw0:ws≠[])
  (d:DropF n es ws pl l w zl gs zo xo X ss xi rest out R) (hsk:SinkR n r (dropE es pl l w zl gs zo X) r' es'):DelR n r es k 0 r' es'
theorem del_of {k:Bs} {r n:Int} {es:List (V × V)} {bs:List V} {m:List O} {v0:V} {L:Int × Int × Int × List (V × V) × List V} (h:e33 k r n es bs=some (.doneM v0 m)) (hc:canNorm cmT (tm r n es bs) v0 m=mk33 L) :
  icC qcfg cmT 33 [.ptr 0 0 0,.str k] (tm r n es bs)=some (mk33 L):=e33_run _ _ _ _ _ h (.done hc)
theorem del_run {n:Nat} {r:Int} {es:Es} {k:Bs} {e r':Int} {es':Es} (h:DelR n r es k e r' es'):icC qcfg cmT 33 [.ptr 0 0 0,.str k] (tM r n es)=some (mk33 (e,r',n,esV es',bitsV n (tkn es'))):=by
 cases h with
 | arg h =>
  refine del_of (v0:=.int .i64 1) (m:=tM r n es) ?_ (by kernel_rfl)
  unfold e33
  rw [pcK_of (key_ok k),kB_mk,h];rfl
 | @no ws pl l hs hk hw hl hr0 hh =>
  have hdl:=delL_ok l hr0 k
  rw [hh] at hdl
  apply del_of
  case h =>
   unfold e33
   rw [pcK_of (key_ok k),kB_mk,hk,Bool.not_true,cond_false,icR_of mk75_inj (wayT_ok hs hw (by omega)),gdS_eq]
   show (pcK qcfg _ [eL l,_] _)=_
   rw [pcK_of hdl]
   show (d124 (V.tup [eL l00,V.int .i64 7]) _)=_
   rw [d124_mk,ibne_t (by decide),cond_true]
  case hc=>kernel_rfl
 | @put ws pl l hs hk hw hl hg hr0 hh hd hr =>
  have hdl:=delL_ok l hr0 k
  rw [hh,if_pos rfl] at hdl
  by_cases h0:delL l.prs k=[]
  ·have hw0:=hd.resolve_left fun q=>q h0
   subst hw0
   apply del_of
   case h =>
    unfold e33
    rw [pcK_of (key_ok k),kB_mk,hk,Bool.not_true,cond_false,icR_of mk75_inj (wayT_ok hs hw (by omega)),gdS_eq]
    show (pcK qcfg _ [eL l,_] _)=_
    rw [pcK_of hdl,d124_mk,ibne_f rfl,cond_false,decide_eq_false (by rw [psV_len,h0];simp),cond_false,ibeq_t (by rfl),cond_true]
    show (icM qcfg _ _ _ [_,_,.ifc 120 (eL ⟨delL l.prs k,l.high,l.next⟩)] (tM r n es) _)=_
    rw [icM_of mk78_inj (wrL_ok hs hg hr)]
   case hc=>kernel_rfl
  ·apply del_of
   case h =>
    unfold e33
    rw [pcK_of (key_ok k),kB_mk,hk,Bool.not_true,cond_false,icR_of mk75_inj (wayT_ok hs hw (by omega)),gdS_eq]
    show (pcK qcfg _ [eL l,_] _)=_
    rw [pcK_of hdl,d124_mk,ibne_f rfl,cond_false,decide_eq_true (show ((psV (delL l.prs k)).length:Int) > 0 by rw [psV_len];have:=List.length_pos_iff.2 h0;omega),cond_true]
    show (icM qcfg _ _ _ [_,_,.ifc 120 (eL ⟨delL l.prs k,l.high,l.next⟩)] (tM r n es) _)=_
    rw [icM_of mk78_inj (wrL_ok hs hg hr)]
   case hc=>kernel_rfl
 | @drop ws pl l w zl gs zo xo X ss xi rest out R r' es' hk hw hr0 hh hd hw0 d hsk =>
  have hdl:=delL_ok l hr0 k
  rw [hh,if_pos rfl] at hdl
  have hlen:=d.len
  apply del_of
  case h =>
   unfold e33
   rw [pcK_of (key_ok k),kB_mk,hk,Bool.not_true,cond_false,icR_of mk75_inj (wayT_ok d.shf hw (by omega)),gdS_eq]
   show (pcK qcfg _ [eL l,_] _)=_
   rw [pcK_of hdl,d124_mk,ibne_f rfl,cond_false,decide_eq_false (by rw [psV_len,hd];simp),cond_false,ibeq_f (by rw [stps_len];have:=List.length_pos_iff.2 hw0;omega),cond_false,icM_of mk81_inj (drop_run d hsk)]
  case hc=>kernel_rfl
theorem delL_lf {prs:List Pr} {h k:Bs} (o:LfOk prs h) (hh:hasS (keysL prs) k=true):LfOk (delL prs k) h:=by
 have hs:(delL prs k).Sublist prs:=by rw [delL_filter o.ri hh];exact List.filter_sublist
 refine ⟨o.ri.sublist hs,fun x hx=>o.mem x (hs.subset hx),o.hi.imp id fun q=>⟨q.1,fun x hx=>q.2 x (hs.subset hx)⟩,?_⟩
 have h1:=wts_split prs (lbS (keysL prs) k)
 have h2:=wts_split (prs.drop (lbS (keysL prs) k)) 1
 rw [List.drop_drop] at h2
 have:=o.wt
 unfold delL
 rw [wts_app]
 omega
def notK (k:Bs) (l:List Pr):List Pr:=l.filter fun x=>!(x.1==k)
theorem notK_same {k:Bs} {l:List Pr} (h:∀x∈l,lt x.1 k=true∨lt k x.1=true):notK k l=l:=filter_all (p:=fun x:Pr=>!(x.1==k)) fun x hx=>by
 by_cases he:x.1=k
 ·have:=h x hx
  rw [he,lt_irr] at this;simp at this
 ·simpa using he
def DelTo (n:Nat) (r:Int) (es:Es) (ups:List IL) (b:LL) (k:Bs) (e r':Int) (es':Es) (ups':List IL) (b':LL):Prop :=
 (e=0/\keyB k=true/\hasS (keysL (flatB b)) k=true/\flatB b'=notK k (flatB b)) ∨
 (r'=r/\es'=es/\ups'=ups/\b'=b/\((e=1/\keyB k=false)∨(e=7/\keyB k=true/\hasS (keysL (flatB b)) k=false)))
theorem del_ex {n:Nat} {r:Int} {es:Es} {ups:List IL} {b:LL} (h:WF n r es ups b) (k:Bs) :
  ∃e r' es' ups' b',WF n r' es' ups' b'/\DelR n r es k e r' es'/\DelTo n r es ups b k e r' es' ups' b':=by
 cases hk:keyB k with
 | false=>exact ⟨1,r,es,ups,b,h,.arg hk,.inr ⟨rfl,rfl,rfl,rfl,.inl ⟨rfl,hk⟩⟩⟩
 | true =>
  obtain ⟨p,h',ws,pre,prs,post,q1,q2,q3,q4,q5,q6⟩:=way_ok h.toWT hk
  have hF:=h.okF
  rw [q2] at hF
  have hr:rightL ⟨prs,h',nxt post 0⟩=true:=okF_enc hF
  obtain ⟨o,hx0,hx1⟩:=lfOk_of hr
  have hul:=ups_len h.toWT
  obtain ⟨hgp,_⟩:=way_leaf q6
  have hord:=h.ord
  rw [q2] at hord
  have hpre:=(ord_parts hord).2.2.1
  obtain ⟨hca,hcc⟩:=way_cut hord hF q3 q4
  have hris:=flat_ris hord hF
  have efl:flatB (pre++(p,prs,h')::post)=flatB pre++(prs++flatB post):=by rw [flat_app,flat_cons]
  rw [efl] at hris
  have hhas:=has_app hca hcc hris
  have hfb:flatB b=flatB pre++(prs++flatB post):=by rw [q2,efl]
  cases hh:hasS (keysL prs) k with
  | false=>exact ⟨7,r,es,ups,b,h,.no h.shf hk q6 (by omega) hr hh,.inr ⟨rfl,rfl,rfl,rfl,.inr ⟨rfl,hk,by rw [hfb,hhas,hh]⟩⟩⟩
  | true =>
   have o2:=delL_lf o hh
   have hr2:=rightL_of o2 hx0 hx1
   have hfl:notK k (flatB b)=flatB pre++(delL prs k++flatB post):=by
    rw [hfb]
    show (flatB pre++(prs++flatB post)).filter _=_
    rw [List.filter_append,List.filter_append,delL_filter o.ri hh]
    have e1:=notK_same (k:=k) (l:=flatB pre) fun x hx=>.inl (hca x hx)
    have e2:=notK_same (k:=k) (l:=flatB post) fun x hx=>.inr (hcc x hx)
    unfold notK at e1 e2
    rw [e1,e2]
   have hin:hasS (keysL (flatB b)) k=true:=by rw [hfb,hhas,hh]
   by_cases hd:delL prs k≠[]∨ws=[]
   ·have hat:=h.rep
    rw [q2] at hat
    have hat:=leaf_perm hat
    have hpm:=put_perm (b':=encL ⟨delL prs k,h',nxt post 0⟩) h.shf.nd hat
    obtain ⟨ok1,ok3,ok2⟩:=(okT_app _ _ _).1 hF
    have hne:=ne_two h q2
    refine ⟨0,r,putE es p (encL ⟨delL prs k,h',nxt post 0⟩),ups,pre++(p,delL prs k,h')::post,⟨⟨shf_put h.shf (mem_keys hat),hpm.trans (leaf_perm2 (U:=encU ups) (pre:=pre) (post:=post) (p:=p) (x:=(delL prs k,h'))),?_,h.okI,(okT_app _ _ _).2 ⟨ok1,hr2,ok2⟩,ord_put hord ?_⟩,?_,h.rt⟩,.put h.shf hk q6 (by omega) hgp hr hh hd hr2,.inl ⟨rfl,hk,hin,?_⟩⟩
    ·have e:sumL (pre++(p,delL prs k,h')::post)=sumL b:=by rw [q2];simp [sumL]
     exact dn_leaf e h.dn
    ·intro y hy x hx
     refine (hpre y hy).2 x ?_
     rw [delL_filter o.ri hh] at hx
     exact (List.mem_filter.1 hx).1
    ·intro hu x hx
     rcases List.mem_append.1 hx with hx | hx
     ·exact hne x (.inl hx)
     ·rcases List.mem_cons.1 hx with rfl | hx
      ·rcases hd with hd | hd
       ·exact hd
       ·rw [hd] at q5
        exact absurd (List.eq_nil_of_length_eq_zero q5.symm) hu
      ·exact hne x (.inr hx)
    ·rw [hfl,flat_app,flat_cons]
   ·have hd0:delL prs k=[]:=Classical.byContradiction fun q=>hd (.inl q)
    have hw0:ws≠[]:=fun q=>hd (.inr q)
    have hu:ups≠[]:=by
     intro e
     rw [e] at q5
     exact hw0 (List.eq_nil_of_length_eq_zero q5)
    obtain ⟨w,zl,gs,zo,xo,X,ss,xi,rest,out,R,up',d,hwt⟩:=drop_ex h q1 q2 q5 hu
    have hne:=ne_two h q2
    obtain ⟨r',es',ups',h1,h2⟩:=sink_ex hwt (by
     intro x hx
     rcases List.mem_append.1 hx with hx | hx
     ·rcases List.eq_nil_or_concat pre with rfl | ⟨l,⟨z,prz,hz⟩,rfl⟩
      ·cases hx
      ·rw [List.concat_eq_append] at hx hne
       rw [hF_snoc] at hx
       rcases List.mem_append.1 hx with hx | hx
       ·exact hne x (.inl (by simp [hx]))
       ·have:x=(z,prz,bif w then h' else hz):=by simpa using hx
        rw [this]
        exact hne (z,prz,hz) (.inl (by simp))
     ·exact hne x (.inr hx))
    refine ⟨0,r',es',ups',_,h2,.drop hk q6 hr hh hd0 hw0 d h1,.inl ⟨rfl,hk,hin,?_⟩⟩
    rw [hfl,flat_app,flat_hF,hd0]
    simp
set_option maxRecDepth 1000000
theorem noF:∀x∈([]:List Fact),FactOK qcfg x:=fun _ h=>nomatch h
theorem noP:∀x∈([]:List (FuncId × List V × V)),PFactOK qcfg x:=fun _ h=>nomatch h
def fk0:Fact:=⟨15,[.int .i64 (10)],[],(.ptr 4 0 0,[.row 5 [.int .u8 (1),.int .u8 (0)] 0,.box 192 (.agg [.tail 0 0,.int .i64 (10)]) true,.map [(.int .i64 (0),.str [76,0,0,0,0])],.box 140 (.agg [.ptr 1 0 0,.mp 2]) false,.box 128 (.agg [.ptr 3 0 0,.int .i64 (0)]) false])⟩
theorem fk0_ok:FactOK qcfg fk0:=icW_tab noF noP 100 (by kernel_rfl)
def fk1:Fact:=⟨32,[.ptr 0 0 0,.str [97],.str []],[.box 128 (.agg [.ptr 1 0 0,.int .i64 (0)]) false,.box 140 (.agg [.ptr 2 0 0,.mp 3]) false,.box 192 (.agg [.tail 4 0,.int .i64 (10)]) true,.map [(.int .i64 (0),.str [76,0,0,0,0])],.row 5 [.int .u8 (1),.int .u8 (0)] 0],(.tup [.bool true,.int .i64 (0)],[.box 128 (.agg [.ptr 1 0 0,.int .i64 (0)]) false,.box 140 (.agg [.ptr 2 0 0,.mp 3]) false,.box 192 (.agg [.tail 4 0,.int .i64 (10)]) true,.map [(.int .i64 (0),.str [76,1,0,0,0,1,97,0])],.row 5 [.int .u8 (1),.int .u8 (0)] 0,.row 41 [] 0,.box 120 (.agg [.sl [],.str [],.int .i64 (0)]) false,.row 41 [] 0,.box 120 (.agg [.sl [.agg [.str [97],.str []]],.str [],.int .i64 (0)]) false])⟩
theorem fk1_ok:FactOK qcfg fk1:=icW_tab noF noP 100 (by kernel_rfl)
def fk2:Fact:=⟨32,[.ptr 0 0 0,.str [98],.str []],[.box 128 (.agg [.ptr 1 0 0,.int .i64 (0)]) false,.box 140 (.agg [.ptr 2 0 0,.mp 3]) false,.box 192 (.agg [.tail 4 0,.int .i64 (10)]) true,.map [(.int .i64 (0),.str [76,1,0,0,0,1,97,0])],.row 5 [.int .u8 (1),.int .u8 (0)] 0],(.tup [.bool true,.int .i64 (0)],[.box 128 (.agg [.ptr 1 0 0,.int .i64 (0)]) false,.box 140 (.agg [.ptr 2 0 0,.mp 3]) false,.box 192 (.agg [.tail 4 0,.int .i64 (10)]) true,.map [(.int .i64 (0),.str [76,2,0,0,0,1,97,0,1,98,0])],.row 5 [.int .u8 (1),.int .u8 (0)] 0,.row 41 [] 0,.box 120 (.agg [.sl [.agg [.str [97],.str []]],.str [],.int .i64 (0)]) false,.row 41 [] 0,.box 120 (.agg [.sl [.agg [.str [97],.str []],.agg [.str [98],.str []]],.str [],.int .i64 (0)]) false])⟩
theorem fk2_ok:FactOK qcfg fk2:=icW_tab noF noP 100 (by kernel_rfl)
def fk3:Fact:=⟨32,[.ptr 0 0 0,.str [99],.str []],[.box 128 (.agg [.ptr 1 0 0,.int .i64 (0)]) false,.box 140 (.agg [.ptr 2 0 0,.mp 3]) false,.box 192 (.agg [.tail 4 0,.int .i64 (10)]) true,.map [(.int .i64 (0),.str [76,2,0,0,0,1,97,0,1,98,0])],.row 5 [.int .u8 (1),.int .u8 (0)] 0],(.tup [.bool true,.int .i64 (0)],[.box 128 (.agg [.ptr 1 0 0,.int .i64 (0)]) false,.box 140 (.agg [.ptr 2 0 0,.mp 3]) false,.box 192 (.agg [.tail 4 0,.int .i64 (10)]) true,.map [(.int .i64 (0),.str [76,3,0,0,0,1,97,0,1,98,0,1,99,0])],.row 5 [.int .u8 (1),.int .u8 (0)] 0,.row 41 [] 0,.box 120 (.agg [.sl [.agg [.str [97],.str []],.agg [.str [98],.str []]],.str [],.int .i64 (0)]) false,.row 41 [] 0,.box 120 (.agg [.sl [.agg [.str [97],.str []],.agg [.str [98],.str []],.agg [.str [99],.str []]],.str [],.int .i64 (0)]) false])⟩
theorem fk3_ok:FactOK qcfg fk3:=icW_tab noF noP 100 (by kernel_rfl)
def fk4:Fact:=⟨32,[.ptr 0 0 0,.str [100],.str []],[.box 128 (.agg [.ptr 1 0 0,.int .i64 (0)]) false,.box 140 (.agg [.ptr 2 0 0,.mp 3]) false,.box 192 (.agg [.tail 4 0,.int .i64 (10)]) true,.map [(.int .i64 (0),.str [76,3,0,0,0,1,97,0,1,98,0,1,99,0])],.row 5 [.int .u8 (1),.int .u8 (0)] 0],(.tup [.bool true,.int .i64 (0)],[.box 128 (.agg [.ptr 1 0 0,.int .i64 (0)]) false,.box 140 (.agg [.ptr 2 0 0,.mp 3]) false,.box 192 (.agg [.tail 4 0,.int .i64 (10)]) true,.map [(.int .i64 (0),.str [76,4,0,0,0,1,97,0,1,98,0,1,99,0,1,100,0])],.row 5 [.int .u8 (1),.int .u8 (0)] 0,.row 41 [] 0,.box 120 (.agg [.sl [.agg [.str [97],.str []],.agg [.str [98],.str []],.agg [.str [99],.str []]],.str [],.int .i64 (0)]) false,.row 41 [] 0,.box 120 (.agg [.sl [.agg [.str [97],.str []],.agg [.str [98],.str []],.agg [.str [99],.str []],.agg [.str [100],.str []]],.str [],.int .i64 (0)]) false])⟩
theorem fk4_ok:FactOK qcfg fk4:=icW_tab noF noP 100 (by kernel_rfl)
def fk5:Fact:=⟨34,[.ptr 0 0 0,.str [98],.int .i64 (2)],[.box 128 (.agg [.ptr 1 0 0,.int .i64 (0)]) false,.box 140 (.agg [.ptr 2 0 0,.mp 3]) false,.box 192 (.agg [.tail 4 0,.int .i64 (10)]) true,.map [(.int .i64 (0),.str [76,4,0,0,0,1,97,0,1,98,0,1,99,0,1,100,0])],.row 5 [.int .u8 (1),.int .u8 (0)] 0],(.own 6,[.box 128 (.agg [.ptr 1 0 0,.int .i64 (0)]) false,.box 140 (.agg [.ptr 2 0 0,.mp 3]) false,.box 192 (.agg [.tail 4 0,.int .i64 (10)]) true,.map [(.int .i64 (0),.str [76,4,0,0,0,1,97,0,1,98,0,1,99,0,1,100,0])],.row 5 [.int .u8 (1),.int .u8 (0)] 0,.row 41 [] 0,.row 41 [.agg [.str [98],.str []],.agg [.str [99],.str []]] 0])⟩
theorem fk5_ok:FactOK qcfg fk5:=icW_tab noF noP 100 (by kernel_rfl)
def fk6:Fact:=⟨33,[.ptr 0 0 0,.str [99]],[.box 128 (.agg [.ptr 1 0 0,.int .i64 (0)]) false,.box 140 (.agg [.ptr 2 0 0,.mp 3]) false,.box 192 (.agg [.tail 4 0,.int .i64 (10)]) true,.map [(.int .i64 (0),.str [76,4,0,0,0,1,97,0,1,98,0,1,99,0,1,100,0])],.row 5 [.int .u8 (1),.int .u8 (0)] 0],(.int .i64 (0),[.box 128 (.agg [.ptr 1 0 0,.int .i64 (0)]) false,.box 140 (.agg [.ptr 2 0 0,.mp 3]) false,.box 192 (.agg [.tail 4 0,.int .i64 (10)]) true,.map [(.int .i64 (0),.str [76,3,0,0,0,1,97,0,1,98,0,1,100,0])],.row 5 [.int .u8 (1),.int .u8 (0)] 0,.row 41 [] 0,.box 120 (.agg [.sl [.agg [.str [97],.str []],.agg [.str [98],.str []],.agg [.str [99],.str []],.agg [.str [100],.str []]],.str [],.int .i64 (0)]) false,.row 41 [] 0,.box 120 (.agg [.sl [.agg [.str [97],.str []],.agg [.str [98],.str []],.agg [.str [100],.str []]],.str [],.int .i64 (0)]) false])⟩
theorem fk6_ok:FactOK qcfg fk6:=icW_tab noF noP 100 (by kernel_rfl)
def fk7:Fact:=⟨32,[.ptr 0 0 0,.str [98,98],.str [120]],[.box 128 (.agg [.ptr 1 0 0,.int .i64 (0)]) false,.box 140 (.agg [.ptr 2 0 0,.mp 3]) false,.box 192 (.agg [.tail 4 0,.int .i64 (10)]) true,.map [(.int .i64 (0),.str [76,3,0,0,0,1,97,0,1,98,0,1,100,0])],.row 5 [.int .u8 (1),.int .u8 (0)] 0],(.tup [.bool true,.int .i64 (0)],[.box 128 (.agg [.ptr 1 0 0,.int .i64 (0)]) false,.box 140 (.agg [.ptr 2 0 0,.mp 3]) false,.box 192 (.agg [.tail 4 0,.int .i64 (10)]) true,.map [(.int .i64 (0),.str [76,4,0,0,0,1,97,0,1,98,0,2,98,98,1,120,1,100,0])],.row 5 [.int .u8 (1),.int .u8 (0)] 0,.row 41 [] 0,.box 120 (.agg [.sl [.agg [.str [97],.str []],.agg [.str [98],.str []],.agg [.str [100],.str []]],.str [],.int .i64 (0)]) false,.row 41 [] 0,.box 120 (.agg [.sl [.agg [.str [97],.str []],.agg [.str [98],.str []],.agg [.str [98,98],.str [120]],.agg [.str [100],.str []]],.str [],.int .i64 (0)]) false])⟩
theorem fk7_ok:FactOK qcfg fk7:=icW_tab noF noP 100 (by kernel_rfl)
def fk8:Fact:=⟨34,[.ptr 0 0 0,.str [98],.int .i64 (2)],[.box 128 (.agg [.ptr 1 0 0,.int .i64 (0)]) false,.box 140 (.agg [.ptr 2 0 0,.mp 3]) false,.box 192 (.agg [.tail 4 0,.int .i64 (10)]) true,.map [(.int .i64 (0),.str [76,4,0,0,0,1,97,0,1,98,0,2,98,98,1,120,1,100,0])],.row 5 [.int .u8 (1),.int .u8 (0)] 0],(.own 6,[.box 128 (.agg [.ptr 1 0 0,.int .i64 (0)]) false,.box 140 (.agg [.ptr 2 0 0,.mp 3]) false,.box 192 (.agg [.tail 4 0,.int .i64 (10)]) true,.map [(.int .i64 (0),.str [76,4,0,0,0,1,97,0,1,98,0,2,98,98,1,120,1,100,0])],.row 5 [.int .u8 (1),.int .u8 (0)] 0,.row 41 [] 0,.row 41 [.agg [.str [98],.str []],.agg [.str [98,98],.str [120]]] 0])⟩
theorem fk8_ok:FactOK qcfg fk8:=icW_tab noF noP 100 (by kernel_rfl)
def fk9:Fact:=⟨34,[.ptr 0 0 0,.str [98,98],.int .i64 (2)],[.box 128 (.agg [.ptr 1 0 0,.int .i64 (0)]) false,.box 140 (.agg [.ptr 2 0 0,.mp 3]) false,.box 192 (.agg [.tail 4 0,.int .i64 (10)]) true,.map [(.int .i64 (0),.str [76,4,0,0,0,1,97,0,1,98,0,2,98,98,1,120,1,100,0])],.row 5 [.int .u8 (1),.int .u8 (0)] 0],(.own 6,[.box 128 (.agg [.ptr 1 0 0,.int .i64 (0)]) false,.box 140 (.agg [.ptr 2 0 0,.mp 3]) false,.box 192 (.agg [.tail 4 0,.int .i64 (10)]) true,.map [(.int .i64 (0),.str [76,4,0,0,0,1,97,0,1,98,0,2,98,98,1,120,1,100,0])],.row 5 [.int .u8 (1),.int .u8 (0)] 0,.row 41 [] 0,.row 41 [.agg [.str [98,98],.str [120]],.agg [.str [100],.str []]] 0])⟩
theorem fk9_ok:FactOK qcfg fk9:=icW_tab noF noP 100 (by kernel_rfl)
theorem fk_all:∀x∈[fk0,fk1,fk2,fk3,fk4,fk5,fk6,fk7,fk8,fk9],FactOK qcfg x:=by
 intro x hx
 simp only [List.mem_cons,List.not_mem_nil,or_false] at hx
 rcases hx with rfl | rfl | rfl | rfl | rfl | rfl | rfl | rfl | rfl | rfl
 ·exact fk0_ok
 ·exact fk1_ok
 ·exact fk2_ok
 ·exact fk3_ok
 ·exact fk4_ok
 ·exact fk5_ok
 ·exact fk6_ok
 ·exact fk7_ok
 ·exact fk8_ok
 ·exact fk9_ok
theorem fk_run:pcW qcfg 30 []=some (.bool true):=pcW_tab fk_all noP 100 (by kernel_rfl)
theorem argC0 {P:Program} {w:World} {tx e:TypeId} {A:Option Addr} {c sz:Nat} (ht:P.underlying tx=some (.slice e)):ArgC P w tx (.slice A 0 c) sz 0 []:=by
 refine ⟨.inr ⟨e,ht⟩,fun w2=>rfl,by simp,fun n w2 hn _=>?_,by simp⟩
 have:n=0:=by omega
 subst this
 cases A<;>simp [Builtin.firstCells,loadCells,loadCellsFrom]
set_option maxHeartbeats 4000000 in
set_option maxRecDepth 100000 in
theorem insWS:InsW Tryz.prog 212 225 100 9 3 .i64:=by
 have hce:Tryz.prog.cellsOf 9=1:=by kernel_rfl
 have mixed:Tryz.prog.follows .mixedOrders=true:=by kernel_rfl
 have t22:Tryz.prog.underlying 100=some (.slice 9):=by kernel_rfl
 refine ⟨t22,by kernel_rfl,by kernel_rfl,?_,?_,?_,?_⟩
 ·intro w g g2 o m c2 lb cb us us2 hne hg hg2 hus
  rw [run_callFunc_extern (P:=Tryz.prog) (f:=225) (fn:=Tryz.f225) (by kernel_rfl) (by kernel_rfl) (by kernel_rfl) (by kernel_rfl) (e:=Extern.SlicesOverlaps.overlaps #[100,100] #[4]) (by kernel_rfl),
   Lib.run_overlaps_apart w 100 4 9 t22 1 (fun w=>by kernel_rfl) ⟨g2,0,none⟩ ⟨g,o,none⟩ m c2 lb cb hne 9 9 us2.size us.size (by simp [World.shape?,hg2]) (by simp [World.shape?,hg]) (by omega) (by simp [World.frozen?,hg2]) (by simp [World.frozen?,hg2])]
  rfl
 ·intro g n c i g2 m c2 w w2 w3 k1 k2 hi hm hroom hc63 hov hcp1 hcp2
  rw [hce] at hcp1 hcp2
  simp only [Nat.mul_one] at hcp1 hcp2
  have hz1:¬((m:Int)=0):=by omega
  have hz2:¬((i:Int)=(n:Int)):=by omega
  have hw1:IntKind.i64.wrap ((i:Int)+(m:Int))=(i:Int)+(m:Int):=by rw [IntKind.wrap_i64];omega
  have hw2:IntKind.i64.wrap ((n:Int)+(m:Int))=(n:Int)+(m:Int):=by rw [IntKind.wrap_i64];omega
  have hb1:(0:Int)<=(i:Int)+(m:Int):=by omega
  have hin:i<=n:=by omega
  have htn:((i:Int)+(m:Int)).toNat=i+m:=by omega
  have hb2:¬(c=i+m):=by omega
  have hb3:(i:Int)<=(n:Int)+(m:Int):=by omega
  have hb4:¬(c=i):=by omega
  go_enter Tryz.func212,Tryz.ntmps212
  go_wp2_with (simp only [hov])
  go_region_law_o (refine step_copy_runI rfl _ _ 100 100 rfl _ _ (by simp [Act.eval,Act.put]) (by simp [Act.eval,Act.put]) (hcp1 _ _ _) ?_)
  go_wp2_with (at_builtin;refine wpList_copy_runI _ rfl _ _ 100 100 rfl _ _ rfl rfl (hcp2 _ _) ?_)
  go_ret
  exact ⟨rfl,rfl⟩
 ·intro A A2 n c m c2 w w1 r hm hnc hc63 hA0 hA1 hr
  have hz1:¬((m:Int)=0):=by omega
  cases A with
  | none =>
   obtain ⟨rfl,rfl⟩:=hA0 rfl
   go_enter Tryz.func212,Tryz.ntmps212
   go_wp2_with (at_builtin;refine Lib.wpList_append_run _ rfl _ _ _ _ rfl _ _ rfl rfl _ _ (hr _) ?_)
   all_goals (go_ret;exact ⟨rfl,rfl⟩)
  | some a =>
   obtain ⟨g,rfl⟩:=hA1 a rfl
   go_enter Tryz.func212,Tryz.ntmps212
   go_wp2_with (at_builtin;refine Lib.wpList_append_run _ rfl _ _ _ _ rfl _ _ rfl rfl _ _ (hr _) ?_)
   all_goals (go_ret;exact ⟨rfl,rfl⟩)
 ·intro g n c i g2 m c2 N G w w1 w2 w3 k1 k2 hi hm hnc hgr hlen hGn hG63 hap hcp1 hcp2
  rw [hce] at hcp1 hcp2
  simp only [Nat.mul_one] at hcp1 hcp2
  have hz1:¬((m:Int)=0):=by omega
  have hz2:¬((i:Int)=(n:Int)):=by omega
  have hz3:(c:Int) < (n:Int)+(m:Int):=by omega
  have hw1:IntKind.i64.wrap ((i:Int)+(m:Int))=(i:Int)+(m:Int):=by rw [IntKind.wrap_i64];omega
  have hw2:IntKind.i64.wrap ((n:Int)+(m:Int))=(n:Int)+(m:Int):=by rw [IntKind.wrap_i64];omega
  have hw3:IntKind.i64.wrap ((n:Int)+(m:Int) - (i:Int))=(n:Int)+(m:Int) - (i:Int):=by rw [IntKind.wrap_i64];omega
  have hb1:(0:Int)<=(i:Int)+(m:Int):=by omega
  have hin:i<=n:=by omega
  have htn:((i:Int)+(m:Int)).toNat=i+m:=by omega
  have hGi:¬(G=i):=by omega
  have hGim:¬(G=i+m):=by omega
  have hci:¬(c=i):=by omega
  have hb3:(i:Int)<=(n:Int):=by omega
  go_enter Tryz.func212,Tryz.ntmps212
  go_wp2_with (first
   |(at_builtin;refine Lib.wpList_append_run _ rfl _ _ _ _ rfl _ _ rfl rfl _ _ (hap _) ?_)
   |(at_builtin;refine wpList_copy_runI _ rfl _ _ 100 100 rfl _ _ rfl rfl (hcp1 _ _) ?_))
  go_region_law_o (refine step_copy_runI rfl _ _ 100 100 rfl (.slice (some ⟨N,(i+m),none⟩) (n+m - (i+m)) (G - (i+m))) (.slice (some ⟨g,i,none⟩) (n - i) (c - i)) (by simp [Act.eval,Act.put]) (by simp [Act.eval,Act.put]) (hcp2 3 (G - (i+m)) (c - i)) ?_)
  go_wp2
  go_ret
  exact ⟨rfl,rfl⟩
set_option maxHeartbeats 4000000 in
set_option maxRecDepth 100000 in
theorem delWS:DelW Tryz.prog 170 100 9:=by
 have hce:Tryz.prog.cellsOf 9=1:=by kernel_rfl
 have mixed:Tryz.prog.follows .mixedOrders=true:=by kernel_rfl
 have t22:Tryz.prog.underlying 100=some (.slice 9):=by kernel_rfl
 refine ⟨t22,by kernel_rfl,?_,?_,?_⟩
 ·intro i z hi hz
  have h1:(Tryz.prog.info? 9).bind (·.zero)=some (.string "".toUTF8):=by kernel_rfl
  rw [hi] at h1
  simp only [Option.bind_some,hz,Option.some.injEq] at h1
  subst h1
  intro v hv
  simp [Value.cells] at hv
  subst hv;rfl
 ·intro A n c i w hin hnc hc63 hA0 hA1
  cases A with
  | none =>
   obtain ⟨rfl,rfl⟩:=hA0 rfl
   have:i=0:=by omega
   subst this
   go_enter Tryz.func170,Tryz.ntmps170
   go_wp2
   all_goals (go_ret;exact ⟨rfl,rfl⟩)
  | some a =>
   obtain ⟨g,q,rfl⟩:=hA1 a rfl
   go_enter Tryz.func170,Tryz.ntmps170
   go_wp2
   all_goals (go_ret;exact ⟨rfl,rfl⟩)
 ·intro g q n c i jj w w2 w3 k hij hjn hnc hc63 hap hcl
  rw [hce] at hap hcl
  simp only [Nat.mul_one] at hap hcl
  have hz1:¬((i:Int)=(jj:Int)):=by omega
  have hin:i<=n:=by omega
  have hij':i<=jj:=by omega
  have hb1:¬(c=i):=by omega
  have hb2:i+(n - jj)<=n:=by omega
  have hb3:¬(c=i+(n - jj)):=by omega
  have hic:i<=c:=by omega
  have hjc':jj<=c:=by omega
  have hbc:i+(n - jj)<=c:=by omega
  have hnij:(i:Int)+((n - jj:Nat):Int)<=(n:Int):=by omega
  by_cases hjc:c=jj
  ·have hn:n=jj:=by omega
   subst hn
   subst hjc
   have hap':=fun ty=>hap ty (some ⟨g,q,none⟩) 0 (fun h=>absurd h (by omega))
   simp only [Nat.sub_self,Nat.add_zero] at hap' hcl |-
   go_enter Tryz.func170,Tryz.ntmps170
   go_wp2
   go_region_law_o (refine step_append_run rfl _ _ 100 100 rfl (.slice (some ⟨g,q,none⟩) i c) (.slice (some ⟨g,q,none⟩) 0 0) (by simp [Act.eval,Act.put]) (by simp [Act.eval,Act.put]) (hap' 100) ?_)
   go_wp2
   go_ret
   exact ⟨rfl,rfl⟩
  ·go_enter Tryz.func170,Tryz.ntmps170
   go_wp2
   go_region_law_o (refine step_append_run rfl _ _ 100 100 rfl (.slice (some ⟨g,q,none⟩) i c) (.slice (some ⟨g,q+jj,none⟩) (n - jj) (c - jj)) (by simp [Act.eval,Act.put]) (by simp [Act.eval,Act.put]) (hap 100 (some ⟨g,q+jj,none⟩) (c - jj) (fun _=>rfl)) ?_)
   go_wp2
   go_ret
   exact ⟨rfl,rfl⟩
set_option maxHeartbeats 4000000 in
set_option maxRecDepth 100000 in
theorem cloneWS:CloneW Tryz.prog 171 100 9:=by
 have hce:Tryz.prog.cellsOf 9=1:=by kernel_rfl
 have mixed:Tryz.prog.follows .mixedOrders=true:=by kernel_rfl
 have t22:Tryz.prog.underlying 100=some (.slice 9):=by kernel_rfl
 have q22:∀(w:World) (a:Option Addr) (n c n' c':Nat),(binOp .eql 100 (.slice a n c) (.slice none n' c')).run Tryz.prog w = .ok (.bool a.isNone) w:=fun w a n c n' c'=>Lib.run_eql_slice_nil w _ _ a n c n' c' t22
 refine ⟨t22,by kernel_rfl,?_,?_,?_⟩
 ·intro n c w
  go_enter Tryz.func171,Tryz.ntmps171
  go_wp2
  go_ret
  exact ⟨rfl,rfl⟩
 ·intro g b n c w w2 r hr
  go_enter Tryz.func171,Tryz.ntmps171
  go_wp2_with (at_builtin;refine Lib.wpList_append_run _ rfl _ _ _ _ rfl _ _ rfl rfl _ _ (hr _) ?_)
  go_ret
  exact ⟨rfl,rfl⟩
 ·intro a c w
  obtain ⟨ab,ao,asp⟩:=a
  have hr:∀(ty:TypeId) (w:World),(Builtin.append_ #[100,100] ty #[.slice (some ⟨w.heap.size,0,none⟩) 0 0,.slice (some ⟨ab,ao,asp⟩) 0 c]).run Tryz.prog (w.alloc (.cells #[] 9)) = .ok (.slice (some ⟨w.heap.size,0,none⟩) 0 0) (w.alloc (.cells #[] 9)):=fun ty w=>run_append_no t22 (by rw [hce];decide) (argC0 t22) (Nat.le_refl _)
  go_enter Tryz.func171,Tryz.ntmps171
  go_wp2_with (at_builtin;refine Lib.wpList_append_run _ rfl _ _ _ _ rfl _ _ rfl rfl _ _ (hr _ _) ?_)
  go_ret
  exact ⟨rfl,rfl⟩
set_option maxHeartbeats 4000000 in
set_option maxRecDepth 100000 in
theorem insWI:InsW Tryz.prog 213 227 80 3 3 .i64:=by
 have hce:Tryz.prog.cellsOf 3=1:=by kernel_rfl
 have mixed:Tryz.prog.follows .mixedOrders=true:=by kernel_rfl
 have t22:Tryz.prog.underlying 80=some (.slice 3):=by kernel_rfl
 refine ⟨t22,by kernel_rfl,by kernel_rfl,?_,?_,?_,?_⟩
 ·intro w g g2 o m c2 lb cb us us2 hne hg hg2 hus
  rw [run_callFunc_extern (P:=Tryz.prog) (f:=227) (fn:=Tryz.f227) (by kernel_rfl) (by kernel_rfl) (by kernel_rfl) (by kernel_rfl) (e:=Extern.SlicesOverlaps.overlaps #[80,80] #[4]) (by kernel_rfl),
   Lib.run_overlaps_apart w 80 4 3 t22 1 (fun w=>by kernel_rfl) ⟨g2,0,none⟩ ⟨g,o,none⟩ m c2 lb cb hne 3 3 us2.size us.size (by simp [World.shape?,hg2]) (by simp [World.shape?,hg]) (by omega) (by simp [World.frozen?,hg2]) (by simp [World.frozen?,hg2])]
  rfl
 ·intro g n c i g2 m c2 w w2 w3 k1 k2 hi hm hroom hc63 hov hcp1 hcp2
  rw [hce] at hcp1 hcp2
  simp only [Nat.mul_one] at hcp1 hcp2
  have hz1:¬((m:Int)=0):=by omega
  have hz2:¬((i:Int)=(n:Int)):=by omega
  have hw1:IntKind.i64.wrap ((i:Int)+(m:Int))=(i:Int)+(m:Int):=by rw [IntKind.wrap_i64];omega
  have hw2:IntKind.i64.wrap ((n:Int)+(m:Int))=(n:Int)+(m:Int):=by rw [IntKind.wrap_i64];omega
  have hb1:(0:Int)<=(i:Int)+(m:Int):=by omega
  have hin:i<=n:=by omega
  have htn:((i:Int)+(m:Int)).toNat=i+m:=by omega
  have hb2:¬(c=i+m):=by omega
  have hb3:(i:Int)<=(n:Int)+(m:Int):=by omega
  have hb4:¬(c=i):=by omega
  go_enter Tryz.func213,Tryz.ntmps213
  go_wp2_with (simp only [hov])
  go_region_law_o (refine step_copy_runI rfl _ _ 80 80 rfl _ _ (by simp [Act.eval,Act.put]) (by simp [Act.eval,Act.put]) (hcp1 _ _ _) ?_)
  go_wp2_with (at_builtin;refine wpList_copy_runI _ rfl _ _ 80 80 rfl _ _ rfl rfl (hcp2 _ _) ?_)
  go_ret
  exact ⟨rfl,rfl⟩
 ·intro A A2 n c m c2 w w1 r hm hnc hc63 hA0 hA1 hr
  have hz1:¬((m:Int)=0):=by omega
  cases A with
  | none =>
   obtain ⟨rfl,rfl⟩:=hA0 rfl
   go_enter Tryz.func213,Tryz.ntmps213
   go_wp2_with (at_builtin;refine Lib.wpList_append_run _ rfl _ _ _ _ rfl _ _ rfl rfl _ _ (hr _) ?_)
   all_goals (go_ret;exact ⟨rfl,rfl⟩)
  | some a =>
   obtain ⟨g,rfl⟩:=hA1 a rfl
   go_enter Tryz.func213,Tryz.ntmps213
   go_wp2_with (at_builtin;refine Lib.wpList_append_run _ rfl _ _ _ _ rfl _ _ rfl rfl _ _ (hr _) ?_)
   all_goals (go_ret;exact ⟨rfl,rfl⟩)
 ·intro g n c i g2 m c2 N G w w1 w2 w3 k1 k2 hi hm hnc hgr hlen hGn hG63 hap hcp1 hcp2
  rw [hce] at hcp1 hcp2
  simp only [Nat.mul_one] at hcp1 hcp2
  have hz1:¬((m:Int)=0):=by omega
  have hz2:¬((i:Int)=(n:Int)):=by omega
  have hz3:(c:Int) < (n:Int)+(m:Int):=by omega
  have hw1:IntKind.i64.wrap ((i:Int)+(m:Int))=(i:Int)+(m:Int):=by rw [IntKind.wrap_i64];omega
  have hw2:IntKind.i64.wrap ((n:Int)+(m:Int))=(n:Int)+(m:Int):=by rw [IntKind.wrap_i64];omega
  have hw3:IntKind.i64.wrap ((n:Int)+(m:Int) - (i:Int))=(n:Int)+(m:Int) - (i:Int):=by rw [IntKind.wrap_i64];omega
  have hb1:(0:Int)<=(i:Int)+(m:Int):=by omega
  have hin:i<=n:=by omega
  have htn:((i:Int)+(m:Int)).toNat=i+m:=by omega
  have hGi:¬(G=i):=by omega
  have hGim:¬(G=i+m):=by omega
  have hci:¬(c=i):=by omega
  have hb3:(i:Int)<=(n:Int):=by omega
  go_enter Tryz.func213,Tryz.ntmps213
  go_wp2_with (first
   |(at_builtin;refine Lib.wpList_append_run _ rfl _ _ _ _ rfl _ _ rfl rfl _ _ (hap _) ?_)
   |(at_builtin;refine wpList_copy_runI _ rfl _ _ 80 80 rfl _ _ rfl rfl (hcp1 _ _) ?_))
  go_region_law_o (refine step_copy_runI rfl _ _ 80 80 rfl (.slice (some ⟨N,(i+m),none⟩) (n+m - (i+m)) (G - (i+m))) (.slice (some ⟨g,i,none⟩) (n - i) (c - i)) (by simp [Act.eval,Act.put]) (by simp [Act.eval,Act.put]) (hcp2 3 (G - (i+m)) (c - i)) ?_)
  go_wp2
  go_ret
  exact ⟨rfl,rfl⟩
set_option maxHeartbeats 4000000 in
set_option maxRecDepth 100000 in
theorem delWI:DelW Tryz.prog 172 80 3:=by
 have hce:Tryz.prog.cellsOf 3=1:=by kernel_rfl
 have mixed:Tryz.prog.follows .mixedOrders=true:=by kernel_rfl
 have t22:Tryz.prog.underlying 80=some (.slice 3):=by kernel_rfl
 refine ⟨t22,by kernel_rfl,?_,?_,?_⟩
 ·intro i z hi hz
  have h1:(Tryz.prog.info? 3).bind (·.zero)=some (.int .i64 0):=by kernel_rfl
  rw [hi] at h1
  simp only [Option.bind_some,hz,Option.some.injEq] at h1
  subst h1
  intro v hv
  simp [Value.cells] at hv
  subst hv;rfl
 ·intro A n c i w hin hnc hc63 hA0 hA1
  cases A with
  | none =>
   obtain ⟨rfl,rfl⟩:=hA0 rfl
   have:i=0:=by omega
   subst this
   go_enter Tryz.func172,Tryz.ntmps172
   go_wp2
   all_goals (go_ret;exact ⟨rfl,rfl⟩)
  | some a =>
   obtain ⟨g,q,rfl⟩:=hA1 a rfl
   go_enter Tryz.func172,Tryz.ntmps172
   go_wp2
   all_goals (go_ret;exact ⟨rfl,rfl⟩)
 ·intro g q n c i jj w w2 w3 k hij hjn hnc hc63 hap hcl
  rw [hce] at hap hcl
  simp only [Nat.mul_one] at hap hcl
  have hz1:¬((i:Int)=(jj:Int)):=by omega
  have hin:i<=n:=by omega
  have hij':i<=jj:=by omega
  have hb1:¬(c=i):=by omega
  have hb2:i+(n - jj)<=n:=by omega
  have hb3:¬(c=i+(n - jj)):=by omega
  have hic:i<=c:=by omega
  have hjc':jj<=c:=by omega
  have hbc:i+(n - jj)<=c:=by omega
  have hnij:(i:Int)+((n - jj:Nat):Int)<=(n:Int):=by omega
  by_cases hjc:c=jj
  ·have hn:n=jj:=by omega
   subst hn
   subst hjc
   have hap':=fun ty=>hap ty (some ⟨g,q,none⟩) 0 (fun h=>absurd h (by omega))
   simp only [Nat.sub_self,Nat.add_zero] at hap' hcl |-
   go_enter Tryz.func172,Tryz.ntmps172
   go_wp2
   go_region_law_o (refine step_append_run rfl _ _ 80 80 rfl (.slice (some ⟨g,q,none⟩) i c) (.slice (some ⟨g,q,none⟩) 0 0) (by simp [Act.eval,Act.put]) (by simp [Act.eval,Act.put]) (hap' 80) ?_)
   go_wp2
   go_ret
   exact ⟨rfl,rfl⟩
  ·go_enter Tryz.func172,Tryz.ntmps172
   go_wp2
   go_region_law_o (refine step_append_run rfl _ _ 80 80 rfl (.slice (some ⟨g,q,none⟩) i c) (.slice (some ⟨g,q+jj,none⟩) (n - jj) (c - jj)) (by simp [Act.eval,Act.put]) (by simp [Act.eval,Act.put]) (hap 80 (some ⟨g,q+jj,none⟩) (c - jj) (fun _=>rfl)) ?_)
   go_wp2
   go_ret
   exact ⟨rfl,rfl⟩
set_option maxHeartbeats 4000000 in
set_option maxRecDepth 100000 in
theorem cloneWI:CloneW Tryz.prog 173 80 3:=by
 have hce:Tryz.prog.cellsOf 3=1:=by kernel_rfl
 have mixed:Tryz.prog.follows .mixedOrders=true:=by kernel_rfl
 have t22:Tryz.prog.underlying 80=some (.slice 3):=by kernel_rfl
 have q22:∀(w:World) (a:Option Addr) (n c n' c':Nat),(binOp .eql 80 (.slice a n c) (.slice none n' c')).run Tryz.prog w = .ok (.bool a.isNone) w:=fun w a n c n' c'=>Lib.run_eql_slice_nil w _ _ a n c n' c' t22
 refine ⟨t22,by kernel_rfl,?_,?_,?_⟩
 ·intro n c w
  go_enter Tryz.func173,Tryz.ntmps173
  go_wp2
  go_ret
  exact ⟨rfl,rfl⟩
 ·intro g b n c w w2 r hr
  go_enter Tryz.func173,Tryz.ntmps173
  go_wp2_with (at_builtin;refine Lib.wpList_append_run _ rfl _ _ _ _ rfl _ _ rfl rfl _ _ (hr _) ?_)
  go_ret
  exact ⟨rfl,rfl⟩
 ·intro a c w
  obtain ⟨ab,ao,asp⟩:=a
  have hr:∀(ty:TypeId) (w:World),(Builtin.append_ #[80,80] ty #[.slice (some ⟨w.heap.size,0,none⟩) 0 0,.slice (some ⟨ab,ao,asp⟩) 0 c]).run Tryz.prog (w.alloc (.cells #[] 3)) = .ok (.slice (some ⟨w.heap.size,0,none⟩) 0 0) (w.alloc (.cells #[] 3)):=fun ty w=>run_append_no t22 (by rw [hce];decide) (argC0 t22) (Nat.le_refl _)
  go_enter Tryz.func173,Tryz.ntmps173
  go_wp2_with (at_builtin;refine Lib.wpList_append_run _ rfl _ _ _ _ rfl _ _ rfl rfl _ _ (hr _ _) ?_)
  go_ret
  exact ⟨rfl,rfl⟩
set_option maxHeartbeats 4000000 in
set_option maxRecDepth 100000 in
theorem overW:OverW Tryz.prog 209 9 66 5:=by
 have mixed:Tryz.prog.follows .mixedOrders=true:=by kernel_rfl
 have ts:Tryz.prog.underlying 9=some .string:=by kernel_rfl
 have tr:Tryz.prog.underlying 66=some (.slice 5):=by kernel_rfl
 have tb:Tryz.prog.underlying 5=some (.int .u8):=by kernel_rfl
 refine ⟨ts,tr,tb,by kernel_rfl,?_⟩
 intro b n L c A w w2 r hn hcap hcopy hconv
 have hcopy1:=fun ty=>hcopy ty n (.inl rfl)
 have hcopy2:grownCap w b.size 0 5=n->∀ty,_:=fun h ty=>hcopy ty 0 (.inr h)
 have hrun:=Lib.run_convert_string_bytes w 9 66 5 b ts tr tb
 go_enter Tryz.func209,Tryz.ntmps209
 by_cases hcn:grownCap w b.size 0 5=n
 ·have hcopy3:=hcopy2 hcn
  clear hcopy2
  rw [hcn] at hrun hcopy3 hcopy1 hconv hcap
  rw [Nat.sub_self,show b.size - n=0 by omega] at hcopy3 hcopy1
  clear hcopy hcn
  go_wp2
  go_ret
  exact ⟨rfl,rfl⟩
 ·clear hcopy hcopy2
  go_wp2
  go_ret
  exact ⟨rfl,rfl⟩
set_option maxRecDepth 100000 in
theorem cmpW0 (a b:ByteArray) (w:World):Calls Tryz.prog 207 #[.string a,.string b] w fun e w'=>e = .returned (.int .i64 (Lib.compareBytes a.data.toList b.data.toList))/\w'=w:=by
 go_enter Tryz.func207,Tryz.ntmps207
 go_wp2
 rw [run_callFunc_extern Tryz.func224 (by kernel_rfl) (by kernel_rfl) (by kernel_rfl) (e:=Extern.BytealgCompare.compare) (by kernel_rfl),Lib.run_compareString]
 simp only [Result.andThen]
 rw [Oper.upon_value]
 go_wp2
 go_ret
 exact ⟨rfl,rfl⟩
set_option maxRecDepth 100000 in
theorem cmpW (a b:ByteArray) (w:World):Calls Tryz.prog 158 #[.string a,.string b] w fun e w'=>e = .returned (.int .i64 (Lib.compareBytes a.data.toList b.data.toList))/\w'=w:=by
 go_enter Tryz.func158,Tryz.ntmps158
 go_wp2_with (go_at_call 207;refine (cmpW0 _ _ _).mono ?_;rintro e w' ⟨rfl,rfl⟩)
 go_ret
 exact ⟨rfl,rfl⟩
end Go.Proofs.YtlphgcjepphhcaaGreat
namespace Go.Proofs.YtlphgcjepphhcaaGreat
open Go Go.RowKit Go.Shelf
 attribute [local go_sem] Oper.semAt_some
set_option maxRecDepth 100000 in
set_option maxHeartbeats 4000000 in
theorem both1_in (l B1 o1 B2 o2 n1 c1 n2 c2 N:Nat) (hN:N=min n1 n2) (A1 A2:Option Addr) (fx fy:Nat->Value) (I:Nat->World->Prop) (Ix:World->Prop) (hn:n1<=16777216) (hS:∀k W,I k W->I k W.drew)
  (h1:∀k W,I k W->W.cell? ⟨B1,o1,none⟩=some (.slice A1 n1 c1)) (h2:∀k W,I k W->W.cell? ⟨B2,o2,none⟩=some (.slice A2 n2 c2))
  (hx:∀k,k < n1->k < n2->∃b1 p1 b2 p2,A1=some ⟨b1,p1,none⟩/\A2=some ⟨b2,p2,none⟩/\∀W,I k W->W.cell? ⟨b1,p1+k,none⟩=some (fx k)/\W.cell? ⟨b2,p2+k,none⟩=some (fy k))
  (hY:∀k W,k < n1->k < n2->I k W->YieldAt Fence.wide 0 Tryz.prog l #[fx k,fy k] W fun e W2=>(e = .returned (.bool true)/\I (k+1) W2)∨(e = .returned (.bool false)/\Ix W2))
  (W:World) (h0:I 0 W) :
  CallsIn Fence.wide 1 Tryz.prog 210 #[.func (.yield l) #[] #[],.pointer (some ⟨B1,o1,none⟩),.pointer (some ⟨B2,o2,none⟩)] W fun e W'=>(∃v,e = .returned v)/\(I N W'∨Ix W'):=by
 have g1:=h1 0 W h0
 have g2:=h2 0 W h0
 refine callsIn_of_wp Tryz.func210 rfl trivial ?_ rfl
 simp only [Tryz.ntmps210,List.size_toArray,List.length_cons,List.length_nil,Nat.reduceAdd,Nat.reduceSub,Array.replicate_succ,Array.replicate_zero,List.push_toArray,List.append_toArray,List.nil_append,List.cons_append]
 gi_wp2
 rw [show min ((n1:Nat):Int) ((n2:Nat):Int)=((N:Nat):Int) by omega]
 gi_loopw [10] (fun i wr=>∃k:Nat,k<=N/\i = .int .i64 k/\I k wr)
  (fun i _=>N - (intOf i).toNat)
 case atStart=>exact ⟨0,Nat.zero_le _,rfl,h0⟩
 case round =>
  obtain ⟨k,hk,rfl,hI⟩:=hrel
  by_cases hlt:k < N
  ·obtain ⟨b1,p1,b2,p2,rfl,rfl,hcell⟩:=hx k (by omega) (by omega)
   obtain ⟨fn,tmps,assign,body,hy,hR⟩:=hY k wr.drew (by omega) (by omega) (hS k wr hI)
   have q1:=h1 k wr hI
   have q2:=h2 k wr hI
   have hk1:k < n1:=by omega
   have hk2:k < n2:=by omega
   obtain ⟨q3,q4⟩:=hcell wr hI
   clear h1 h2 hx hY hS hcell g1 g2 h0
   gi_wp2
   have hR:=hR.mono (R':=fun e W2=>∃bb,e = .returned (.bool bb)/\(bb=true->I (k+1) W2)/\(bb=false->Ix W2)) (by
    rintro e W2 (⟨rfl,h⟩ | ⟨rfl,h⟩)
    ·exact ⟨true,rfl,fun _=>h,fun e=>by cases e⟩
    ·exact ⟨false,rfl,fun e=>by (cases e),fun _=>h⟩)
   gi_region_with (refine hR.mono ?_;rintro e W3 ⟨bb,rfl,hb1,hb2⟩)
   all_goals
    cases bb
    rotate_left
    ·gi_wp2
     go_roundw
     case rel=>exact ⟨k+1,by omega,by simp,hb1 (by trivial)⟩
     case measure=>simp [intOf];omega
    ·gi_wp2
     refine bodyPost_ret (results_none rfl _ _ _) rfl ?_
     exact ⟨⟨_,rfl⟩,.inr (hb2 (by trivial))⟩
  ·obtain rfl:k=N:=by omega
   clear h1 h2 hx hY hS g1 g2 h0
   gi_wp2
   go_end0
   exact ⟨⟨_,rfl⟩,.inl hI⟩
set_option maxRecDepth 100000 in
set_option maxHeartbeats 4000000 in
theorem back1_in (l B1 o1 n1 c1:Nat) (A1:Option Addr) (f:Nat->Nat->Value) (I:Nat->World->Prop) (Ix:World->Prop) (hn:n1<=16777216)
  (h1:∀k W,I k W->W.cell? ⟨B1,o1,none⟩=some (.slice A1 n1 c1))
  (hx:∀k,k < n1->∃b1 p1,A1=some ⟨b1,p1,none⟩/\∀W m,I m W->∀i,i < 6->W.cell? ⟨b1,p1+k * 6+i,none⟩=some (f k i))
  (hY:∀k W,k < n1->I k W->YieldAt Fence.wide 0 Tryz.prog l #[.int .i64 ((n1:Int) - 1 - (k:Int)),(.agg #[f (n1 - 1 - k) 0,f (n1 - 1 - k) 1,f (n1 - 1 - k) 2,f (n1 - 1 - k) 3,f (n1 - 1 - k) 4,f (n1 - 1 - k) 5])] W fun e W2=>(e = .returned (.bool true)/\I (k+1) W2)∨(e = .returned (.bool false)/\Ix W2))
  (W:World) (h0:I 0 W) :
  CallsIn Fence.wide 1 Tryz.prog 211 #[.func (.yield l) #[] #[],.pointer (some ⟨B1,o1,none⟩)] W fun e W'=>(∃v,e = .returned v)/\(I n1 W'∨Ix W'):=by
 have g1:=h1 0 W h0
 refine callsIn_of_wp Tryz.func211 rfl trivial ?_ rfl
 simp only [Tryz.ntmps211,List.size_toArray,List.length_cons,List.length_nil,Nat.reduceAdd,Nat.reduceSub,Array.replicate_succ,Array.replicate_zero,List.push_toArray,List.append_toArray,List.nil_append,List.cons_append]
 gi_wp2
 gi_loopw [3] (fun i wr=>∃k:Nat,k<=n1/\i = .int .i64 ((n1:Int) - 1 - (k:Int))/\I k wr)
  (fun i _=>(intOf i+1).toNat)
 case atStart=>exact ⟨0,Nat.zero_le _,by simp,h0⟩
 case round =>
  obtain ⟨k,hk,rfl,hI⟩:=hrel
  by_cases hlt:k < n1
  ·obtain ⟨b1,p1,rfl,hcell⟩:=hx (n1 - 1 - k) (by omega)
   have hY2:=hY k wr hlt hI
   obtain ⟨fn,tmps,assign,body,hy,hR⟩:=hY2
   have q2:=hcell wr k hI 0 (by omega)
   have q3:=hcell wr k hI 1 (by omega)
   have q4:=hcell wr k hI 2 (by omega)
   have q5:=hcell wr k hI 3 (by omega)
   have q6:=hcell wr k hI 4 (by omega)
   have q7:=hcell wr k hI 5 (by omega)
   rw [Nat.add_zero] at q2
   have q1:=h1 k wr hI
   have e1:((n1 - 1 - k:Nat):Int)=(n1:Int) - 1 - (k:Int):=by omega
   have e2:((n1:Int) - 1 - (k:Int)).toNat=n1 - 1 - k:=by omega
   have e3:((n1:Int) - 1 - (k:Int)) ≥ 0:=by omega
   clear h1 hx hY hcell g1 h0
   gi_wp2
   refine hR.mono ?_
   rintro e W3 (⟨rfl,hJ3⟩ | ⟨rfl,hJx3⟩)
   ·gi_wp2
    go_roundw
    case rel=>exact ⟨k+1,by omega,by simp;omega,hJ3⟩
    case measure=>simp [intOf];omega
   ·gi_wp2
    refine bodyPost_ret (results_none rfl _ _ _) rfl ?_
    exact ⟨⟨_,rfl⟩,.inr hJx3⟩
  ·obtain rfl:k=n1:=by omega
   clear h1 hx hY g1 h0
   gi_wp2
   go_end0
   exact ⟨⟨_,rfl⟩,.inl hI⟩
set_option maxRecDepth 100000 in
set_option maxHeartbeats 4000000 in
theorem round1_in (l B1 o1 B2 o2 BB ob n s:Nat) (I:Nat->World->Prop) (Ix:World->Prop) (hn:n<=16777216) (hs:s<=16777216) (hS:∀k W,I k W->I k W.drew)
  (h1:∀k W,I k W->W.cell? ⟨B1,o1,none⟩=some (.pointer (some ⟨BB,ob,none⟩))) (h2:∀k W,I k W->W.cell? ⟨B2,o2,none⟩=some (.int .i64 (s:Int)))
  (h3:∀k W,I k W->W.cell? ⟨BB,ob+1,none⟩=some (.int .i64 (n:Int)))
  (hY:∀k W,k < n->I k W->YieldAt Fence.wide 0 Tryz.prog l #[.int .i64 (((s:Int)+(k:Int)) % (n:Int))] W fun e W2=>(e = .returned (.bool true)/\I (k+1) W2)∨(e = .returned (.bool false)/\Ix W2))
  (W:World) (h0:I 0 W) :
  CallsIn Fence.wide 1 Tryz.prog 192 #[.func (.yield l) #[] #[],.pointer (some ⟨B1,o1,none⟩),.pointer (some ⟨B2,o2,none⟩)] W fun e W'=>(∃v,e = .returned v)/\(I n W'∨Ix W'):=by
 have g1:=h1 0 W h0
 have g2:=h2 0 W h0
 have g3:=h3 0 W h0
 refine callsIn_of_wp Tryz.func192 rfl trivial ?_ rfl
 simp only [Tryz.ntmps192,List.size_toArray,List.length_cons,List.length_nil,Nat.reduceAdd,Nat.reduceSub,Array.replicate_succ,Array.replicate_zero,List.push_toArray,List.append_toArray,List.nil_append,List.cons_append]
 gi_wp2
 gi_loopw [9] (fun i wr=>∃k:Nat,k<=n/\i = .int .i64 k/\I k wr)
  (fun i _=>n - (intOf i).toNat)
 case atStart=>exact ⟨0,Nat.zero_le _,rfl,h0⟩
 case round =>
  obtain ⟨k,hk,rfl,hI⟩:=hrel
  by_cases hlt:k < n
  ·obtain ⟨fn,tmps,assign,body,hy,hR⟩:=hY k wr.drew hlt (hS k wr hI)
   have q1:=h1 k wr hI
   have q2:=h2 k wr hI
   have q3:=h3 k wr hI
   have w1:IntKind.i64.wrap ((s:Int)+(k:Int))=((s+k:Nat):Int):=by rw [IntKind.wrap_i64];omega
   have w2:((s+k:Nat):Int).tmod (n:Int)=(((s+k) % n:Nat):Int):=rfl
   have w3:¬((n:Int)=0):=by omega
   clear h1 h2 h3 hY hS g1 g2 g3 h0
   gi_wp2
   have hR:=hR.mono (R':=fun e W2=>∃bb,e = .returned (.bool bb)/\(bb=true->I (k+1) W2)/\(bb=false->Ix W2)) (by
    rintro e W2 (⟨rfl,h⟩ | ⟨rfl,h⟩)
    ·exact ⟨true,rfl,fun _=>h,fun e=>by cases e⟩
    ·exact ⟨false,rfl,fun e=>by (cases e),fun _=>h⟩)
   gi_region_with (refine hR.mono ?_;rintro e W3 ⟨bb,rfl,hb1,hb2⟩)
   all_goals
    cases bb
    rotate_left
    ·gi_wp2
     go_roundw
     case rel=>exact ⟨k+1,by omega,by simp,hb1 (by trivial)⟩
     case measure=>simp [intOf];omega
    ·gi_wp2
     refine bodyPost_ret (results_none rfl _ _ _) rfl ?_
     exact ⟨⟨_,rfl⟩,.inr (hb2 (by trivial))⟩
  ·obtain rfl:k=n:=by omega
   clear h1 h2 h3 hY hS g1 g2 g3 h0
   gi_wp2
   go_end0
   exact ⟨⟨_,rfl⟩,.inl hI⟩
end Go.Proofs.YtlphgcjepphhcaaGreat
namespace Go.Proofs.YtlphgcjepphhcaaGreat
open Go Go.Lite
theorem row_read {_P:Program} {Z:Zs} {w:World} {a:List V} {u:Value} (h:VR Z w j0 (.sl a) u) (h1:a.all V.one=true) :
  ∃(A:Option Addr) (c:Nat) (fx:Nat->Value),u = .slice A a.length c/\∀k x,a[k]? = some x->VR Z w j0 x (fx k)/\∃g b,A=some ⟨g,b,none⟩/\Z g (b+k)/\w.cell? ⟨g,b+k,none⟩=some (fx k):=by
 rcases h.slInv with ⟨A,c,rfl,rfl⟩ | ⟨g,b,c,sz,rfl,_,hsz,hh⟩
 ·exact ⟨A,c,fun _=>default,rfl,fun k x hk=>by simp at hk⟩
 ·refine ⟨some ⟨g,b,none⟩,c,fun k=>(w.cell? ⟨g,b+k,none⟩).getD default,rfl,fun k x hk=>?_⟩
  have hone:x.one=true:=List.all_eq_true.1 h1 x (List.mem_of_getElem? hk)
  obtain ⟨l1,l2,l3⟩:=hh k x hk
  rw [cells_one hone] at l1 l3
  have:sz=1:=l1.symm
  subst this
  obtain ⟨_,u,hu,hv⟩:=l3 0 x rfl
  rw [Nat.mul_one,Nat.add_zero] at hu
  have hz:=l2 0 (by decide)
  rw [Nat.mul_one,Nat.add_zero] at hz
  show VR Z w j0 x ((w.cell? ⟨g,b+k,none⟩).getD default)/\_
  rw [hu]
  refine ⟨hv,g,b,rfl,hz,?_⟩
  show w.cell? ⟨g,b+k,none⟩=some ((w.cell? ⟨g,b+k,none⟩).getD default)
  rw [hu]
  rfl
theorem row_read6 {_P:Program} {Z:Zs} {w:World} {a:List V} {u:Value} (h:VR Z w j0 (.sl a) u) (h1:a.all pairV=true) :
  ∃(A:Option Addr) (c:Nat) (f:Nat->Nat->Value),u = .slice A a.length c/\∀k x,a[k]? = some x->VR Z w j0 x (.agg #[f k 0,f k 1,f k 2,f k 3,f k 4,f k 5])/\∃g b,A=some ⟨g,b,none⟩/\∀i,i < 6->Z g (b+k * 6+i)/\w.cell? ⟨g,b+k * 6+i,none⟩=some (f k i):=by
 rcases h.slInv with ⟨A,c,rfl,rfl⟩ | ⟨g,b,c,sz,rfl,_,hsz,hh⟩
 ·exact ⟨A,c,fun _ _=>default,rfl,fun k x hk=>by simp at hk⟩
 ·refine ⟨some ⟨g,b,none⟩,c,fun k i=>(w.cell? ⟨g,b+k * 6+i,none⟩).getD default,rfl,fun k x hk=>?_⟩
  have hone:pairV x=true:=List.all_eq_true.1 h1 x (List.mem_of_getElem? hk)
  obtain ⟨l1,l2,l3⟩:=hh k x hk
  unfold pairV at hone
  split at hone
  rotate_left
  ·cases hone
  rename_i cs
  have hl:cs.length=6:=by simpa using hone
  have e:V.cells (.agg cs)=cs:=rfl
  rw [e] at l1 l3
  have:sz=6:=by omega
  subst this
  have key:∀i,i < 6->∃u,w.cell? ⟨g,b+k * 6+i,none⟩=some u/\∀y,cs[i]? = some y->VR Z w j0 y u:=fun i hi=>by
   have hy:cs[i]? = some cs[i]:=List.getElem?_eq_getElem (by omega)
   obtain ⟨_,u,hu,hv⟩:=l3 i _ hy
   refine ⟨u,hu,fun y hy2=>?_⟩
   rw [hy] at hy2;cases hy2;exact hv
  have hz:∀i,i < 6->Z g (b+k * 6+i):=fun i hi=>by rw [Nat.add_assoc];exact l2 i hi
  refine ⟨?_,g,b,rfl,fun i hi=>⟨hz i hi,?_⟩⟩
  ·refine .agg (us:=[_,_,_,_,_,_]) (by simpa using hl) fun i c u hc hu=>?_
   have hi:i < 6:=by rw [<-hl];exact (List.getElem?_eq_some_iff.1 hc).1
   obtain ⟨u',h1',h2'⟩:=key i hi
   have h3:=h2' c hc
   match i,hi,hu,h1' with
   | 0,_,hu,h1'=>simp at hu;rw [Nat.add_zero] at h1';rw [<-hu,h1'] ;exact h3
   | 1,_,hu,h1'=>simp at hu;rw [<-hu,h1'] ;exact h3
   | 2,_,hu,h1'=>simp at hu;rw [<-hu,h1'] ;exact h3
   | 3,_,hu,h1'=>simp at hu;rw [<-hu,h1'] ;exact h3
   | 4,_,hu,h1'=>simp at hu;rw [<-hu,h1'] ;exact h3
   | 5,_,hu,h1'=>simp at hu;rw [<-hu,h1'] ;exact h3
   | i+6,hi,_,_=>omega
  ·obtain ⟨u',h1',_⟩:=key i hi
   show w.cell? ⟨g,b+k * 6+i,none⟩=some ((w.cell? ⟨g,b+k * 6+i,none⟩).getD default)
   rw [h1'];rfl
theorem seq_ok:SeqOK Tryz.prog qseq:=by
 intro f ts h xs rounds hf hr Z w us hzin ha
 unfold qseq at hf
 split at hf
 ·rename_i e
  subst e
  cases hf
  unfold roundP at hr
  split at hr
  rotate_left
  ·cases hr
  rename_i q n from0
  split at hr
  rotate_left
  ·cases hr
  rename_i hc
  obtain ⟨hn0,hn,hf0,hf⟩:=hc
  cases hr
  obtain ⟨n,rfl⟩:∃m:Nat,n=(m:Int):=⟨n.toNat,by omega⟩
  obtain ⟨s,rfl⟩:∃m:Nat,from0=(m:Int):=⟨from0.toNat,by omega⟩
  obtain ⟨hl,hv⟩:=ha
  match us,hl,hv with
  | [u1,u2],hl,hv =>
  have v1:=hv 0 _ u1 rfl rfl
  have v2:=hv 1 _ u2 rfl rfl
  refine ⟨Go.Proofs.enters_of Tryz.func192 (by kernel_rfl) rfl,?_⟩
  cases v1 with
  | ref f1 c1 d1 =>
  rename_i B1 o1
  cases v2 with
  | ref f2 c2 d2 =>
  rename_i B2 o2
  obtain ⟨_,z1,e1⟩:=c1 0 _ rfl
  obtain ⟨_,z2,e2⟩:=c2 0 _ rfl
  have r1:=d1 0 _ rfl
  have r2:=d2 0 _ rfl
  generalize f1 0=g1 at e1 r1
  generalize f2 0=g2 at e2 r2
  cases r2
  cases r1 with
  | ref f3 c3 d3 =>
  rename_i BB ob
  obtain ⟨_,z3,e3⟩:=c3 1 _ rfl
  have r3:=d3 1 _ rfl
  generalize f3 1=g3 at e3 r3
  cases r3
  have hbl:(roundL (n:Int) (s:Int)).length=n:=by simp [roundL]
  refine ⟨(List.range n).map fun k:Nat=>[.int .i64 (((s:Int)+(k:Int)) % (n:Int))],by simp [hbl],?_,?_⟩
  ·intro k x u hx hu
   have hk:k < n:=by rw [<-hbl];exact (List.getElem?_eq_some_iff.1 hx).1
   unfold roundL at hx
   rw [List.getElem?_map,List.getElem?_range (by omega)] at hx
   rw [List.getElem?_map,List.getElem?_range hk] at hu
   simp at hu hx
   subst hu;subst hx
   refine ⟨rfl,fun i y' v hy' hv'=>?_⟩
   match i,hy',hv' with
   | 0,hy',hv'=>simp at hy' hv';subst hy';subst hv';exact .int
   | i+1,hy',hv'=>simp at hy'
  ·intro l I Ix W hI hIx hK hY h0
   have hY':∀k W,k < n->I k W->YieldAt Fence.wide 0 Tryz.prog l #[.int .i64 (((s:Int)+(k:Int)) % (n:Int))] W fun e W2=>(e = .returned (.bool true)/\I (k+1) W2)∨(e = .returned (.bool false)/\Ix W2):=by
    intro k W hk1 hi
    exact hY k [.int .i64 (((s:Int)+(k:Int)) % (n:Int))] W (by rw [List.getElem?_map,List.getElem?_range hk1];rfl) hi
   have:=round1_in l B1 (o1+0) B2 (o2+0) BB (ob+0) n s I Ix (by omega) (by omega) (fun k W hi=>hI k W W.drew hi ⟨rfl,rfl,rfl,rfl⟩) (fun k W hi=>((hK k W hi).2 _ _ z1).trans e1) (fun k W hi=>((hK k W hi).2 _ _ z2).trans e2) (fun k W hi=>((hK k W hi).2 _ _ z3).trans e3) hY' W h0
   have:=(callsIn_wide (n:=1)).1 this
   simp only [List.length_map,List.length_range]
   exact this
 split at hf
 ·rename_i e
  subst e
  cases hf
  unfold backP at hr
  split at hr
  rotate_left
  ·cases hr
  rename_i a
  split at hr
  rotate_left
  ·cases hr
  rename_i hc
  obtain ⟨hlen,hpair⟩:=hc
  cases hr
  obtain ⟨hl,hv⟩:=ha
  match us,hl,hv with
  | [u1],hl,hv =>
  have v1:=hv 0 _ u1 rfl rfl
  refine ⟨Go.Proofs.enters_of Tryz.func211 (by kernel_rfl) rfl,?_⟩
  cases v1 with
  | ref f1 c1 d1 =>
  rename_i B1 o1
  obtain ⟨_,z1,e1⟩:=c1 0 (.sl a) rfl
  obtain ⟨A1,p1,fa,w1,r1⟩:=row_read6 (_P:=Tryz.prog) (d1 0 (.sl a) rfl) hpair
  rw [w1] at e1
  have hbl:(backsR a).length=a.length:=by simp [backsR]
  have hbg:∀k x,(backsR a)[k]? = some x->∃y,a[a.length - 1 - k]? = some y/\k < a.length/\x=[.int .i64 ((a.length - 1 - k:Nat):Int),y]:=by
   intro k x hx
   have hk:k < a.length:=by rw [<-hbl];exact (List.getElem?_eq_some_iff.1 hx).1
   unfold backsR at hx
   rw [List.getElem?_reverse (by simpa using hk)] at hx
   simp only [List.length_map,List.length_zipIdx,List.getElem?_map,List.getElem?_zipIdx] at hx
   have hy:a[a.length - 1 - k]? = some a[a.length - 1 - k]:=List.getElem?_eq_getElem (by omega)
   rw [hy] at hx
   simp at hx
   refine ⟨_,hy,hk,?_⟩
   rw [<-hx]
  refine ⟨(List.range a.length).map fun k:Nat=>[.int .i64 ((a.length:Int) - 1 - (k:Int)),.agg #[fa (a.length - 1 - k) 0,fa (a.length - 1 - k) 1,fa (a.length - 1 - k) 2,fa (a.length - 1 - k) 3,fa (a.length - 1 - k) 4,fa (a.length - 1 - k) 5]],by simp [hbl],?_,?_⟩
  ·intro k x u hx hu
   obtain ⟨y,hy,hk,rfl⟩:=hbg k x hx
   rw [List.getElem?_map,List.getElem?_range hk] at hu
   simp at hu
   subst hu
   refine ⟨rfl,fun i y' v hy' hv'=>?_⟩
   match i,hy',hv' with
   | 0,hy',hv' =>
    simp at hy' hv';subst hy';subst hv'
    have:((a.length - 1 - k:Nat):Int)=(a.length:Int) - 1 - (k:Int):=by omega
    rw [this];exact .int
   | 1,hy',hv'=>simp at hy' hv';subst hy';subst hv';exact (r1 _ y hy).1
   | i+2,hy',hv'=>simp at hy'
  ·intro l I Ix W hI hIx hK hY h0
   have hY':∀k W,k < a.length->I k W->YieldAt Fence.wide 0 Tryz.prog l #[.int .i64 ((a.length:Int) - 1 - (k:Int)),.agg #[fa (a.length - 1 - k) 0,fa (a.length - 1 - k) 1,fa (a.length - 1 - k) 2,fa (a.length - 1 - k) 3,fa (a.length - 1 - k) 4,fa (a.length - 1 - k) 5]] W fun e W2=>(e = .returned (.bool true)/\I (k+1) W2)∨(e = .returned (.bool false)/\Ix W2):=by
    intro k W hk1 hi
    exact hY k [.int .i64 ((a.length:Int) - 1 - (k:Int)),.agg #[fa (a.length - 1 - k) 0,fa (a.length - 1 - k) 1,fa (a.length - 1 - k) 2,fa (a.length - 1 - k) 3,fa (a.length - 1 - k) 4,fa (a.length - 1 - k) 5]] W (by rw [List.getElem?_map,List.getElem?_range hk1];rfl) hi
   have hx:∀k,k < a.length->∃b1 p1,A1=some ⟨b1,p1,none⟩/\∀W m,I m W->∀i,i < 6->W.cell? ⟨b1,p1+k * 6+i,none⟩=some (fa k i):=by
    intro k hk1
    obtain ⟨_,g1,q1,m1,m2⟩:=r1 k a[k] (by simp [hk1])
    exact ⟨g1,q1,m1,fun W m hi i h6=>((hK m W hi).2 _ _ (m2 i h6).1).trans (m2 i h6).2⟩
   have:=back1_in l B1 (o1+0) a.length p1 A1 fa I Ix hlen (fun k W hi=>((hK k W hi).2 _ _ z1).trans e1) hx hY' W h0
   have:=(callsIn_wide (n:=1)).1 this
   simp only [List.length_map,List.length_range]
   exact this
 split at hf
 ·rename_i e
  subst e
  cases hf
  unfold bothP at hr
  split at hr
  rotate_left
  ·cases hr
  rename_i a b
  split at hr
  rotate_left
  ·cases hr
  rename_i hc
  obtain ⟨hal,ha1,hb1⟩:=hc
  cases hr
  obtain ⟨hl,hv⟩:=ha
  match us,hl,hv with
  | [u1,u2],hl,hv =>
  have v1:=hv 0 _ u1 rfl rfl
  have v2:=hv 1 _ u2 rfl rfl
  refine ⟨Go.Proofs.enters_of Tryz.func210 (by kernel_rfl) rfl,?_⟩
  cases v1 with
  | ref f1 c1 d1 =>
  rename_i B1 o1
  cases v2 with
  | ref f2 c2 d2 =>
  rename_i B2 o2
  obtain ⟨_,z1,e1⟩:=c1 0 (.sl a) rfl
  obtain ⟨_,z2,e2⟩:=c2 0 (.sl b) rfl
  obtain ⟨A1,p1,fx,w1,r1⟩:=row_read (_P:=Tryz.prog) (d1 0 (.sl a) rfl) ha1
  obtain ⟨A2,p2,fy,w2,r2⟩:=row_read (_P:=Tryz.prog) (d2 0 (.sl b) rfl) hb1
  rw [w1] at e1
  rw [w2] at e2
  refine ⟨(List.range (min a.length b.length)).map fun k=>[fx k,fy k],by simp,?_,?_⟩
  ·intro k x u hx hu
   rw [List.getElem?_zipWith] at hx
   rw [List.getElem?_map] at hu
   cases hxa:a[k]? with
   | none=>simp [hxa] at hx
   | some xa =>
    cases hxb:b[k]? with
    | none=>simp [hxa,hxb] at hx
    | some xb =>
     simp [hxa,hxb] at hx
     subst hx
     have hka:=(List.getElem?_eq_some_iff.1 hxa).1
     have hkb:=(List.getElem?_eq_some_iff.1 hxb).1
     rw [List.getElem?_range (by omega)] at hu
     simp at hu
     subst hu
     refine ⟨rfl,fun i y v hy hv=>?_⟩
     match i,hy,hv with
     | 0,hy,hv=>simp at hy hv;subst hy;subst hv;exact (r1 k _ hxa).1
     | 1,hy,hv=>simp at hy hv;subst hy;subst hv;exact (r2 k _ hxb).1
     | i+2,hy,hv=>simp at hy
  ·intro l I Ix W hI hIx hK hY h0
   have hY':∀k W,k < a.length->k < b.length->I k W->YieldAt Fence.wide 0 Tryz.prog l #[fx k,fy k] W fun e W2=>(e = .returned (.bool true)/\I (k+1) W2)∨(e = .returned (.bool false)/\Ix W2):=by
    intro k W hk1 hk2 hi
    have:=hY k [fx k,fy k] W (by rw [List.getElem?_map,List.getElem?_range (by omega)];rfl) hi
    exact this
   have hx:∀k,k < a.length->k < b.length->∃b1 p1 b2 p2,A1=some ⟨b1,p1,none⟩/\A2=some ⟨b2,p2,none⟩/\∀W,I k W->W.cell? ⟨b1,p1+k,none⟩=some (fx k)/\W.cell? ⟨b2,p2+k,none⟩=some (fy k):=by
    intro k hk1 hk2
    obtain ⟨_,g1,q1,m1,m2,m3⟩:=r1 k _ (List.getElem?_eq_getElem hk1)
    obtain ⟨_,g2,q2,n1,n2,n3⟩:=r2 k _ (List.getElem?_eq_getElem hk2)
    exact ⟨g1,q1,g2,q2,m1,n1,fun W hi=>⟨((hK k W hi).2 _ _ m2).trans m3,((hK k W hi).2 _ _ n2).trans n3⟩⟩
   have:=both1_in l B1 (o1+0) B2 (o2+0) a.length p1 b.length p2 (min a.length b.length) rfl A1 A2 fx fy I Ix hal (fun k W hi=>hI k W W.drew hi ⟨rfl,rfl,rfl,rfl⟩) (fun k W hi=>((hK k W hi).2 _ _ z1).trans e1) (fun k W hi=>((hK k W hi).2 _ _ z2).trans e2) hx hY' W h0
   have:=(callsIn_wide (n:=1)).1 this
   simp only [List.length_map,List.length_range]
   exact this
 ·cases hf
theorem hok:CfgOK qcfg:=by
 have hceS:Tryz.prog.cellsOf 9=1:=by kernel_rfl
 have hceI:Tryz.prog.cellsOf 3=1:=by kernel_rfl
 refine ⟨by kernel_rfl,?_,?_,seq_ok⟩
 ·intro f g h
  have h:qppr f=some g:=h
  unfold qppr at h
  split at h
  ·rename_i e
   subst e
   cases h
   have:=clone_ok cloneWS
   rw [hceS] at this
   exact this
  split at h
  ·rename_i e
   subst e
   cases h
   have:=clone_ok cloneWI
   rw [hceI] at this
   exact this
  split at h
  ·rename_i e
   subst e
   cases h
   exact over_sound overW
  split at h
  ·rename_i e
   subst e
   cases h
   exact cmp_ok cmpW
  ·cases h
 ·intro f g h
  have h:qipr f=some g:=h
  unfold qipr at h
  split at h
  ·rename_i e
   subst e
   cases h
   have:=ins_ok insWS
   rw [hceS] at this
   exact this
  split at h
  ·rename_i e
   subst e
   cases h
   have:=ins_ok insWI
   rw [hceI] at this
   exact this
  split at h
  ·rename_i e
   subst e
   cases h
   exact del_ok delWS
  split at h
  ·rename_i e
   subst e
   cases h
   exact del_ok delWI
  ·cases h
set_option linter.unusedSimpArgs false
set_option linter.unusedVariables false
set_option maxRecDepth 100000
theorem putL_length {n:Nat} {r:Int} {es:Es} {ups:List IL} {b:LL} {k v:Bs} {ok:Bool} {e r':Int} {es':Es} {ups':List IL} {b':LL} (h:PutTo n r es ups b k v ok e r' es' ups' b'):(flatB b').length<=(flatB b).length+1:=by
 rcases h with ⟨_,_,_,h,_⟩ | ⟨_,_,_,_,h,_⟩
 ·rw [h];exact putL_len _ _ _
 ·rw [h];omega
theorem delL_length {n:Nat} {r:Int} {es:Es} {ups:List IL} {b:LL} {k:Bs} {e r':Int} {es':Es} {ups':List IL} {b':LL} (h:DelTo n r es ups b k e r' es' ups' b'):(flatB b').length<=(flatB b).length:=by
 rcases h with ⟨_,_,_,h⟩ | ⟨_,_,_,h,_⟩
 ·rw [h];exact List.length_filter_le _ _
 ·rw [h];omega
theorem lt_nil (x:Bs):lt x []=false:=by cases x<;>rfl
theorem scan_all0 (L:List Pr) (h:L.length<=1000):scanL [] 1000 [] L=L:=by
 have:=scanL_eq [] 1000 L [] (by simp)
 rw [show ((1000:Nat):Int)=1000 from rfl] at this
 rw [this,filter_all (p:=fun x:Pr=>!(lt x.1 [])) fun x _=>by rw [lt_nil];rfl]
 rw [List.nil_append,List.length_nil,Nat.sub_zero,List.take_of_length_le h]
theorem cut80_ok (S:List Op4) (hS:S.length<=maxLen):pcW qcfg 14 [.sl (opsV S),.int .i64 80]=some (.fr 38 (opsV (cutO 80 S))):=e14_run _ _ rfl (cut_loop 80 (by omega) S hS (min 80 S.length) 0 (by omega))
def isL (f t l:Bs) (x:Pr):Bool:=inR f t x && (l==[] || lt l x.1)
theorem left_isL (f t l:Bs) (L:List Pr):leftL f t l L=L.filter (isL f t l):=rfl
section
variable {f t l:Bs} {r:Int} {n:Nat} {es:Es} {X:List V} {i:Int} {o:Out}
theorem ri_loop (hf:f.length<=16) (ht:t.length<=16) (L:List Pr) (hL:L.length<=1000) (hk:∀x∈L,x.1.length<=16) (is:Bool) (p:Pr) (l':Bs) (hp:is=(leftL f t l L).head?.isSome) (hp2:∀x,(leftL f t l L).head? = some x->p=x) :
  ∀(q:List Pr) (k:Nat) (D:List Pr),L.drop k=q->k<=L.length->leftL f t l L=D++leftL f t l q->D.length<=k ->
  Go qk false 0 (fF 5) (.head 0 (T5_0b f t X (bif is then p.1 else l) (W .i64 (i+1)) r f t l' n (esV es) (bitsV n (tkn es)))) o ->
  Go qk false 0 (fF 5) (.head 1 (T5_1 f t X l i is (psV L) (D.length:Int) (k:Int) r f t l' p.1 p.2 n (esV es) (bitsV n (tkn es)))) o
 | [],k,D,hd,hi,hD,hDk,hg=>by
  have h1:=drop_nil hd
  have hD:leftL f t l L=D:=by rw [hD];simp [left_isL]
  refine s5_1_run _ _ _ _ _ _ _ _ _ _ _ _ _ _ _ _ _ _ ?_ hg
  unfold s5_1
  have hc:(is==decide ((D.length:Int) > 0))=true:=by
   rw [hp,hD]
   cases D with
   | nil=>rfl
   | cons x D=>simp
  rw [psV_len,decide_eq_false (by omega),cond_false,hc,Bool.not_true,cond_false]
  cases is<;>rfl
 | x::q,k,D,hd,hi,hD,hDk,hg=>by
  obtain ⟨h1,h2,h3⟩:=drop_cons hd
  have hx:=hk x (List.mem_of_getElem? h1)
  have w:W .i64 ((k:Int)+1)=((k+1:Nat):Int):=by rw [W_i64 (by omega)];omega
  have w2:W .i64 ((D.length:Int)+1)=((D.length+1:Nat):Int):=by rw [W_i64 (by omega)];omega
  have hone:isL f t l x=true->((D.length:Int)==(0:Int))=true->is=true/\p=x:=by
   intro hm h0
   have h0:D=[]:=List.eq_nil_of_length_eq_zero (by simpa using h0)
   subst h0
   have e:(leftL f t l L).head? = some x:=by rw [hD,left_isL,List.filter_cons_of_pos hm];rfl
   exact ⟨by rw [hp,e];rfl,hp2 x e⟩
  have hM:isL f t l x=true->∀NX:R,NX=some (.head 1 (T5_1 f t X l i is (psV L) (W .i64 ((D.length:Int)+1)) (W .i64 ((k:Int)+1)) r f t l' p.1 p.2 n (esV es) (bitsV n (tkn es)))) ->
    cond ((D.length:Int)==(0:Int)) (cond (!is) (some (.done (V.bool false))) (gd (decide (0<=(k:Int))) (idxK (psV L) ((k:Int)).toNat fun v_1=>d41 v_1 fun key_1 value_1=>cond (!((p.1==key_1) && ((p.2==value_1) && true))) (some (.done (V.bool false))) NX))) NX =
    some (.head 1 (T5_1 f t X l i is (psV L) ((D.length+1:Nat):Int) ((k+1:Nat):Int) r f t l' p.1 p.2 n (esV es) (bitsV n (tkn es)))):=by
   intro hm NX hNX
   rw [w,w2] at hNX
   rw [hNX]
   cases h0:((D.length:Int)==(0:Int)) with
   | false=>rfl
   | true =>
    obtain ⟨e1,e2⟩:=hone hm h0
    rw [cond_true,e1,Bool.not_true,cond_false,gd_of (by simp),toNat_cast,idxK_ps h1,d41_mk,e2]
    simp
  have hst:s5_1 f t X l i is (psV L) (D.length:Int) (k:Int) r f t l' p.1 p.2 n (esV es) (bitsV n (tkn es))=(if isL f t l x=true then some (.head 1 (T5_1 f t X l i is (psV L) ((D.length+1:Nat):Int) ((k+1:Nat):Int) r f t l' p.1 p.2 n (esV es) (bitsV n (tkn es)))) else some (.head 1 (T5_1 f t X l i is (psV L) (D.length:Int) ((k+1:Nat):Int) r f t l' p.1 p.2 n (esV es) (bitsV n (tkn es))))):=by
   unfold s5_1
   rw [psV_len,decide_eq_true (by omega),cond_true,gd_of (by simp),toNat_cast,idxK_ps h1,d41_mk,pcK_of (less_ok x.1 f (by omega)),kB_mk]
   have e0:isL f t l x=((!(lt x.1 f) && (t==[] || lt x.1 t)) && (l==[] || lt l x.1)):=rfl
   rw [e0] at hM |-
   cases h1':lt x.1 f with
   | true=>rw [w];rfl
   | false =>
    rw [h1'] at hM
    rw [Bool.not_false,cond_true,pcK_of (less_ok x.1 t (by omega)),kB_mk]
    cases h2':(t==[]) with
    | true =>
     rw [h2'] at hM
     rw [cond_true]
     cases h3':(l==[]) with
     | true =>
      rw [h3'] at hM
      rw [cond_true]
      exact hM rfl _ rfl
     | false =>
      rw [h3'] at hM
      rw [cond_false,pcK_of (less_ok l x.1 (by omega)),kB_mk]
      cases h4':lt l x.1 with
      | true =>
       rw [h4'] at hM
       rw [cond_true]
       exact hM rfl _ rfl
      | false=>rw [cond_false,w];rfl
    | false =>
     rw [h2'] at hM
     rw [cond_false]
     cases h5':lt x.1 t with
     | false=>rw [cond_false,w];rfl
     | true =>
      rw [h5'] at hM
      rw [cond_true]
      cases h3':(l==[]) with
      | true =>
       rw [h3'] at hM
       rw [cond_true]
       exact hM rfl _ rfl
      | false =>
       rw [h3'] at hM
       rw [cond_false,pcK_of (less_ok l x.1 (by omega)),kB_mk]
       cases h4':lt l x.1 with
       | true =>
        rw [h4'] at hM
        rw [cond_true]
        exact hM rfl _ rfl
       | false=>rw [cond_false,w];rfl
  by_cases hm:isL f t l x=true
  ·rw [if_pos hm] at hst
   have:=ri_loop hf ht L hL hk is p l' hp hp2 q (k+1) (D++[x]) h2 (by omega) (by rw [hD,left_isL,List.filter_cons_of_pos hm];simp [left_isL]) (by simp;omega) hg
   rw [List.length_append,List.length_singleton] at this
   exact s5_1_run _ _ _ _ _ _ _ _ _ _ _ _ _ _ _ _ _ _ hst this
  ·rw [if_neg hm] at hst
   have:=ri_loop hf ht L hL hk is p l' hp hp2 q (k+1) D h2 (by omega) (by rw [hD,left_isL,List.filter_cons_of_neg hm];rfl) (by omega) hg
   exact s5_1_run _ _ _ _ _ _ _ _ _ _ _ _ _ _ _ _ _ _ hst this
end
theorem key16 {x:Bs} (h:keyB x=true):x.length<=16:=(key_len h).2
theorem ris_loop {f t:Bs} (hf:f.length<=16) (ht:t.length<=16) (S:List Op4) (hS:S.length<=80):∀(q:List Op4) (i:Nat),S.drop i=q->i<=S.length->∀(l:Bs) (r:Int) (es:Es) (ups:List IL) (b:LL),WF 30 r es ups b->(flatB b).length<=i ->
  Go qk false 0 (fF 5) (.head 0 (T5_0b f t (opsV S) l (i:Int) r f t l ((30:Nat):Int) (esV es) (bitsV 30 (tkn es)))) (.done (.bool true))
 | [],i,hd,hi,l,r,es,ups,b,h,hb=>by
  have h1:=drop_nil hd
  refine s5_0b_run _ _ _ _ _ _ _ _ _ _ _ _ ?_ (.refl _)
  unfold s5_0b
  rw [ops_len,decide_eq_false (by omega),cond_false,pcK_of fk_run,kB_mk]
 | o::q,i,hd,hi,l,r,es,ups,b,h,hb=>by
  obtain ⟨h1,h2,h3⟩:=drop_cons hd
  have hi1:(opsV S)[i]? = some (opV o):=by simp [opsV,h1]
  have w:W .i64 ((i:Int)+1)=((i+1:Nat):Int):=by rw [W_i64 (by omega)];omega
  by_cases k0:o.1=0
  ·obtain ⟨ok,e,r',es',ups',b',hW,hR,hT⟩:=put_ex h o.2.1 o.2.2.1
   have:=putL_length hT
   refine s5_0b_run _ _ _ _ _ _ _ _ _ _ _ _ ?_ (ris_loop hf ht S hS q (i+1) h2 (by omega) l r' es' ups' b' hW (by omega))
   unfold s5_0b
   rw [ops_len,decide_eq_true (by omega),cond_true,gd_of (by simp),toNat_cast,idxK_of hi1,opV,d38_mk,ibeq_t k0,cond_true,icM_of mk32_inj (put_run hR),w]
  ·by_cases k1:o.1=1
   ·obtain ⟨e,r',es',ups',b',hW,hR,hT⟩:=del_ex h o.2.1
    have:=delL_length hT
    refine s5_0b_run _ _ _ _ _ _ _ _ _ _ _ _ ?_ (ris_loop hf ht S hS q (i+1) h2 (by omega) l r' es' ups' b' hW (by omega))
    unfold s5_0b
    rw [ops_len,decide_eq_true (by omega),cond_true,gd_of (by simp),toNat_cast,idxK_of hi1,opV,d38_mk,ibeq_f k0,cond_false,ibeq_t k1,cond_true,icM_of mk33_inj (del_run hR),w]
   ·have hfl:(flatB b).length<=1000:=by omega
    have hkl:∀x∈flatB b,x.1.length<=16:=fun x hx=>key16 ((flat_rises h.ord h.okF).2 x hx)
    have hnx:=next_ok h.toWT f t l
    have hsc:=scan_ok h.toWT [] 1000
    rw [scan_all0 _ hfl] at hsc
    cases hh:(leftL f t l (flatB b)).head? with
    | none =>
     rw [hh] at hnx
     have ih:=ris_loop hf ht S hS q (i+1) h2 (by omega) l r es ups b h (by omega)
     rw [<-w] at ih
     have:=ri_loop (f:=f) (t:=t) (l:=l) (r:=r) (n:=30) (es:=es) (X:=opsV S) (i:=(i:Int)) hf ht (flatB b) hfl hkl false ([],[]) l (by rw [hh];rfl) (fun x hx=>by rw [hh] at hx;cases hx) (flatB b) 0 [] rfl (by omega) rfl (by simp) ih
     refine s5_0b_run _ _ _ _ _ _ _ _ _ _ _ _ ?_ this
     unfold s5_0b
     rw [ops_len,decide_eq_true (by omega),cond_true,gd_of (by simp),toNat_cast,idxK_of hi1,opV,d38_mk,ibeq_f k0,cond_false,ibeq_f k1,cond_false,icM_of mk21_inj hnx]
     show (icR qcfg _ _ _ [_,_,_] (tM r 30 es) _)=_
     rw [icR_of mk34_inj hsc,gdS_eq]
     rfl
    | some x =>
     rw [hh] at hnx
     have ih:=ris_loop hf ht S hS q (i+1) h2 (by omega) x.1 r es ups b h (by omega)
     rw [<-w] at ih
     have:=ri_loop (f:=f) (t:=t) (l:=l) (r:=r) (n:=30) (es:=es) (X:=opsV S) (i:=(i:Int)) hf ht (flatB b) hfl hkl true x x.1 (by rw [hh];rfl) (fun y hy=>by rw [hh] at hy;exact Option.some.inj hy) (flatB b) 0 [] rfl (by omega) rfl (by simp) ih
     refine s5_0b_run _ _ _ _ _ _ _ _ _ _ _ _ ?_ this
     unfold s5_0b
     rw [ops_len,decide_eq_true (by omega),cond_true,gd_of (by simp),toNat_cast,idxK_of hi1,opV,d38_mk,ibeq_f k0,cond_false,ibeq_f k1,cond_false,icM_of mk21_inj hnx]
     show (icR qcfg _ _ _ [_,_,_] (tM r 30 es) _)=_
     rw [icR_of mk34_inj hsc,gdS_eq]
     rfl
theorem ris_ok (S:List Op4) (hS:S.length<=maxLen) (f t:Bs):pcW qcfg 5 [.str f,.str t,.sl (opsV S)]=some (.bool true):=by
 have hcl:(cutO 80 S).length<=80:=by simp [cutO];omega
 have hf:(f.take 16).length<=16:=by rw [List.length_take];omega
 have ht:(t.take 16).length<=16:=by rw [List.length_take];omega
 have t1:(f.take 16).take 16=f.take 16:=List.take_of_length_le hf
 have t2:(t.take 16).take 16=t.take 16:=List.take_of_length_le ht
 have c1:=cutC_ok (f.take 16)
 have c2:=cutC_ok (t.take 16)
 rw [t1] at c1
 rw [t2] at c2
 refine e5_run _ _ _ ?_ (ris_loop hf ht (cutO 80 S) hcl (cutO 80 S) 0 rfl (by omega) [] 0 es0 [] [(0,[],[])] wf0 (by simp [flatB]))
 unfold e5
 rw [pcK_of (cut80_ok S hS),kF_mk,icM2_of2 mk15y_inj mk15y_ne begin30,cap16,cap16,gd_of (by simp),toNat_cast,toNat_cast,gd_of (decide_eq_true (by omega)),gd_of (by simp),gd_of (decide_eq_true (by omega)),take_min,take_min,pcK_of c1,kS_mk,pcK_of c2,kS_mk]
 rfl
end Go.Proofs.YtlphgcjepphhcaaGreat
