/-
  Texts that the last one stands on.
-/
import Derived.Test.YtlphgcjepphhcaaGreatY5
namespace Go.Proofs.YtlphgcjepphhcaaGreat
open Go Go.Lite
set_option linter.unusedSimpArgs false
set_option linter.unusedVariables false
set_option maxRecDepth 10000
abbrev Pr:=Bs × Bs
structure Lf where
 prs:List Pr
 high:Bs
 next:Int
abbrev pV (p:Pr):V:=.agg [.str p.1,.str p.2]
def psV (l:List Pr):List V:=l.map pV
abbrev eL (l:Lf):V:=.agg [.sl (psV l.prs),.str l.high,.int .i64 l.next]
theorem psV_len (l:List Pr):(psV l).length=l.length:=by simp [psV]
theorem idxK_ps {l:List Pr} {n:Nat} {x:Pr} {k:V->R} (h:l[n]? = some x):idxK (psV l) n k=k (pV x):=idxK_map h
structure SmL (l:Lf):Prop where
 prs:l.prs.length<=1000
 pr:∀p∈l.prs,p.1.length<=1000/\p.2.length<=1000
 high:l.high.length<=1000
def wts:List Pr->Nat
 | []=>0
 | p::r=>2+p.1.length+p.2.length+wts r
theorem wts_le:∀{l:List Pr},(∀p∈l,p.1.length<=1000/\p.2.length<=1000)->wts l<=2002 * l.length
 | [],_=>Nat.le_refl _
 | p::r,h=>by
  have h1:=h p (by simp)
  have h2:=wts_le (l:=r) fun x hx=>h x (by simp [hx])
  simp only [wts,List.length_cons]
  omega
def sizeL (l:Lf):Nat:=5+l.high.length+wts l.prs
theorem sizeL_le {l:Lf} (h:SmL l):sizeL l<=2100000:=by
 have h1:=wts_le h.pr
 have h2:=h.prs
 have h3:=h.high
 unfold sizeL
 omega
theorem weight_ok (p:Pr) (h1:p.1.length<=1000) (h2:p.2.length<=1000):pcW qcfg 165 [pV p]=some (.int .i64 ((2+p.1.length+p.2.length:Nat):Int)):=by
 refine e165_done _ _ ?_
 unfold e165
 rw [W_i64 (n:=2+(p.1.length:Int)) (by omega),W_i64 (by omega)]
 simp
theorem sizeL_loop (l:List Pr) (hl:l.length<=1000) (hs:∀p∈l,p.1.length<=1000/\p.2.length<=1000):∀(r:List Pr) (k a:Nat),l.drop k=r->a<=2000+2002 * k ->
  Go qk false 0 (fF 159) (.head 0 (T159_0 (a:Int) (psV l) (l.length:Int) (k:Int))) (.done (.int .i64 ((a+wts r:Nat):Int))):=by
 intro r
 induction r with
 | nil =>
  intro k a hr ha
  have h1:=drop_nil hr
  refine s159_0_run _ _ _ _ ?_ (.refl _)
  unfold s159_0
  rw [decide_eq_false (by omega)];rfl
 | cons x r ih =>
  intro k a hr ha
  obtain ⟨h1,h2,h3⟩:=drop_cons hr
  have hx:=hs x (List.mem_of_getElem? h1)
  refine s159_0_run _ _ _ _ (o:=.head 0 (T159_0 ((a+(2+x.1.length+x.2.length):Nat):Int) (psV l) (l.length:Int) ((k+1:Nat):Int))) ?_ ?_
  ·unfold s159_0
   rw [decide_eq_true (by omega),cond_true,gd_of (by simp),toNat_cast,idxK_ps h1]
   show (pcK qcfg _ [pV x] _)=_
   rw [pcK_of (weight_ok x hx.1 hx.2),kI_mk,W_i64 (by omega),W_i64 (by omega)]
   simp
  ·have:=ih (k+1) (a+(2+x.1.length+x.2.length)) h2 (by omega)
   rw [wts,show a+(2+x.1.length+x.2.length+wts r)=a+(2+x.1.length+x.2.length)+wts r from by omega]
   exact this
theorem sizeL_ok (l:Lf) (h:SmL l):pcW qcfg 159 [eL l]=some (.int .i64 (sizeL l:Int)):=by
 have hh:=h.high
 refine e159_run _ _ _ (o:=.head 0 (T159_0 ((5+l.high.length:Nat):Int) (psV l.prs) (l.prs.length:Int) ((0:Nat):Int))) ?_ (sizeL_loop l.prs h.prs h.pr l.prs 0 _ rfl (by omega))
 unfold e159
 rw [psV_len,W_i64 (by omega)]
 simp
def fitL (l:Lf):Bool:=decide (21+wts l.prs<=252)
theorem fitsL_ok (l:Lf) (h:SmL l):pcW qcfg 118 [eL l]=some (.bool (fitL l)):=by
 refine e118_done _ _ _ ?_
 have h1:=sizeL_le h
 have h2:=h.high
 unfold e118
 rw [pcK_of (sizeL_ok l h),kI_mk,W_i64 (n:=(sizeL l:Int) - (l.high.length:Int)) (by omega),W_i64 (by omega)]
 unfold fitL
 rw [decide_eq_decide.2 (show (sizeL l:Int) - (l.high.length:Int)+16<=252↔21+wts l.prs<=252 by unfold sizeL;omega)]
def valB (s:Bs):Bool:=decide (s.length<=32)
theorem val_ok (s:Bs):pcW qcfg 74 [.str s]=some (.bool (valB s)):=by
 refine e74_done _ ?_
 unfold e74 valB
 rw [decide_eq_decide.2 (show (s.length:Int)<=32↔s.length<=32 by omega)]
def riseP (p:Bs):List Pr->Bool
 | []=>true
 | x::r=>keyB x.1 && valB x.2 && lt p x.1 && riseP x.1 r
def lastK (p:Bs) (l:List Pr):Bs:=(l.map (·.1)).getLastD p
def endL (l:Lf):Bool:=decide (0<=l.next) && decide (l.next<=1024) && fitL l
def rightL (l:Lf):Bool:=riseP [] l.prs && highB (lastK [] l.prs) l.high && endL l
theorem rightL_loop (l:Lf) (h:SmL l):∀(r:List Pr) (k:Nat) (p:Bs),l.prs.drop k=r ->
  Go qk false 0 (fF 115) (.head 0 (T115_0 p (psV l.prs) (l.prs.length:Int) (k:Int) (psV l.prs) l.high l.next)) (.done (.bool (riseP p r && highB (lastK p r) l.high && endL l))):=by
 have hl:=h.prs
 intro r
 induction r with
 | nil =>
  intro k p hr
  have h1:=drop_nil hr
  refine s115_0_run _ _ _ _ _ _ _ ?_ (.refl _)
  unfold s115_0
  rw [decide_eq_false (by omega),cond_false]
  simp only [pcK_of (fitsL_ok l h),kB_mk,pcK_of (key_ok l.high),riseP,Bool.true_and,lastK,List.map_nil,List.getLastD_nil,highB,endL]
  cases l.high==[] with
  | true =>
   by_cases h1:0<=l.next
   ·rw [decide_eq_true h1]
    cases decide (l.next<=1024)<;>rfl
   ·rw [decide_eq_false h1]
    rfl
  | false =>
   cases keyB l.high with
   | false=>rfl
   | true =>
    show (cond (lt p l.high) _ _)=_
    cases lt p l.high with
    | false=>rfl
    | true =>
     by_cases h1:0<=l.next
     ·rw [decide_eq_true h1]
      cases decide (l.next<=1024)<;>rfl
     ·rw [decide_eq_false h1]
      rfl
 | cons x r ih =>
  intro k p hr
  obtain ⟨h1,h2,h3⟩:=drop_cons hr
  have w:W .i64 ((k:Int)+1)=((k+1:Nat):Int):=by rw [W_i64 (by omega)];omega
  have e0:s115_0 p (psV l.prs) (l.prs.length:Int) (k:Int) (psV l.prs) l.high l.next=cond (!keyB x.1) (some (.done (V.bool false))) (cond (!valB x.2) (some (.done (V.bool false))) (cond (!lt p x.1) (some (.done (V.bool false))) (some (.head 0 (T115_0 x.1 (psV l.prs) (l.prs.length:Int) ((k+1:Nat):Int) (psV l.prs) l.high l.next))))):=by
   unfold s115_0
   rw [decide_eq_true (by omega),cond_true,gd_of (by simp),toNat_cast,idxK_ps h1,d41_mk,pcK_of (key_ok x.1),kB_mk,pcK_of (val_ok x.2),kB_mk,le_not x.1 p,w]
  have e1:(riseP p (x::r) && highB (lastK p (x::r)) l.high && endL l)=(keyB x.1 && (valB x.2 && (lt p x.1 && (riseP x.1 r && highB (lastK x.1 r) l.high && endL l)))):=by
   unfold lastK
   rw [riseP,List.map_cons,List.getLastD_cons]
   simp only [Bool.and_assoc]
  rw [e1]
  cases q1:keyB x.1 with
  | false=>exact s115_0_run _ _ _ _ _ _ _ (e0.trans (by rw [q1];rfl)) (.refl _)
  | true =>
   cases q2:valB x.2 with
   | false=>exact s115_0_run _ _ _ _ _ _ _ (e0.trans (by rw [q1,q2];rfl)) (.refl _)
   | true =>
    cases q3:lt p x.1 with
    | false=>exact s115_0_run _ _ _ _ _ _ _ (e0.trans (by rw [q1,q2,q3];rfl)) (.refl _)
    | true =>
     refine s115_0_run _ _ _ _ _ _ _ (e0.trans (by rw [q1,q2,q3];rfl)) ?_
     simp only [Bool.true_and]
     exact ih (k+1) x.1 h2
theorem rightL_ok (l:Lf) (h:SmL l):pcW qcfg 115 [eL l]=some (.bool (rightL l)):=by
 refine e115_run _ _ _ ?_ (rightL_loop l h l.prs 0 [] rfl)
 unfold e115
 rw [psV_len]
 rfl
theorem riseP_mem:∀{l:List Pr} {p:Bs},riseP p l=true->∀x∈l,keyB x.1=true/\valB x.2=true
 | [],_,_,x,hx=>by cases hx
 | y::l,p,h,x,hx=>by
  simp only [riseP,Bool.and_eq_true] at h
  rcases List.mem_cons.1 hx with rfl | hx
  ·exact h.1.1
  ·exact riseP_mem h.2 x hx
theorem wts_ge:∀{l:List Pr},(∀x∈l,keyB x.1=true)->3 * l.length<=wts l
 | [],_=>Nat.le_refl _
 | x::l,h=>by
  have h1:=(key_len (h x (by simp))).1
  have h2:=wts_ge (l:=l) fun y hy=>h y (by simp [hy])
  simp only [wts,List.length_cons]
  omega
theorem endL_iff {l:Lf}:endL l=true↔0<=l.next/\l.next<=1024/\wts l.prs<=231:=by
 unfold endL fitL
 simp only [Bool.and_eq_true,decide_eq_true_eq]
 constructor
 ·rintro ⟨⟨a,b⟩,c⟩;exact ⟨a,b,by omega⟩
 ·rintro ⟨a,b,c⟩;exact ⟨⟨a,b⟩,by omega⟩
theorem rightL_iff {l:Lf}:rightL l=true↔riseP [] l.prs=true/\highB (lastK [] l.prs) l.high=true/\0<=l.next/\l.next<=1024/\wts l.prs<=231:=by
 unfold rightL
 rw [Bool.and_eq_true,Bool.and_eq_true,endL_iff,and_assoc]
theorem high_len {p h:Bs} (e:highB p h=true):h.length<=16:=by
 unfold highB at e
 simp only [Bool.or_eq_true,Bool.and_eq_true,beq_iff_eq] at e
 rcases e with rfl | ⟨e,_⟩
 ·simp
 ·exact (key_len e).2
theorem rightL_sm {l:Lf} (h:rightL l=true):SmL l:=by
 obtain ⟨h1,h2,_,_,h3⟩:=rightL_iff.1 h
 have hm:=riseP_mem h1
 have hg:=wts_ge fun x hx=>(hm x hx).1
 have hh:=high_len h2
 refine ⟨by omega,fun p hp=>?_,by omega⟩
 have q1:=(key_len (hm p hp).1).2
 have q2:=(hm p hp).2
 simp only [valB,decide_eq_true_eq] at q2
 omega
def rowsP:List Pr->Bs
 | []=>[]
 | p::r=>txB p.1++txB p.2++rowsP r
theorem rowsP_len:∀l:List Pr,(rowsP l).length=wts l
 | []=>rfl
 | p::l=>by rw [rowsP,wts];simp [rowsP_len l];omega
def bodyP (l:Lf):Bs:=UInt8.ofNat l.prs.length::(leN 2 l.next.toNat++(txB l.high++rowsP l.prs))
def encL (l:Lf):Bs:=76::bodyP l
theorem encL_len (l:Lf):(encL l).length=sizeL l:=by
 unfold encL bodyP sizeL
 simp [leN_len,rowsP_len]
 omega
theorem encL_loop (l:List Pr) (hll:l.length<=1000):∀(r:List Pr) (k:Nat) (d:Bs),l.drop k=r->(∀x∈r,x.1.length<=255/\x.2.length<=255)->d.length+wts r<=100000 ->
  Go qk false 0 (fF 120) (.head 0 (T120_0 (d++zer (wts r)) (d.length:Int) (psV l) (l.length:Int) (k:Int))) (.done (.str (d++rowsP r))):=by
 intro r
 induction r with
 | nil =>
  intro k d hr _ _
  have h1:=drop_nil hr
  refine s120_0_run _ _ _ _ _ ?_ (.refl _)
  unfold s120_0
  rw [decide_eq_false (by omega)]
  simp [wts,rowsP]
 | cons x r ih =>
  intro k d hr h hd
  obtain ⟨h1,h2,h3⟩:=drop_cons hr
  obtain ⟨hx1,hx2⟩:=h x (by simp)
  have w:W .i64 ((k:Int)+1)=((k+1:Nat):Int):=by rw [W_i64 (by omega)];omega
  have hw:wts (x::r)=x.1.length+1+(x.2.length+1+wts r):=by rw [wts];omega
  rw [hw] at hd |-
  have e1:=putText_at d x.1 (x.1.length+1+(x.2.length+1+wts r)) (d.length:Int) rfl hx1 (by omega)
  rw [show x.1.length+1+(x.2.length+1+wts r) - (x.1.length+1)=x.2.length+1+wts r by omega] at e1
  have e2:=putText_at (d++txB x.1) x.2 (x.2.length+1+wts r) ((d.length:Int)+x.1.length+1) (by simp;omega) hx2 (by omega)
  rw [show x.2.length+1+wts r - (x.2.length+1)=wts r by omega] at e2
  refine s120_0_run _ _ _ _ _ (o:=.head 0 (T120_0 (d++txB x.1++txB x.2++zer (wts r)) ((d++txB x.1++txB x.2).length:Int) (psV l) (l.length:Int) ((k+1:Nat):Int))) ?_ ?_
  ·unfold s120_0
   rw [decide_eq_true (by omega),cond_true,gd_of (by simp),toNat_cast,idxK_ps h1,d41_mk,pcK_of (putText_eq e1 (by simp [small];omega) (by simp only [small];omega)),d117_mk,
    pcK_of (putText_eq e2 (by simp [small];omega) (by simp only [small];omega)),d117_mk,w]
   have:(d.length:Int)+x.1.length+1+x.2.length+1=((d++txB x.1++txB x.2).length:Int):=by simp;omega
   rw [this]
  ·have:=ih (k+1) (d++txB x.1++txB x.2) h2 (fun y hy=>h y (by simp [hy])) (by simp;omega)
   rw [rowsP]
   simpa [List.append_assoc] using this
theorem encL_ok (l:Lf) (h:rightL l=true):pcW qcfg 120 [eL l]=some (.str (encL l)):=by
 have hsm:=rightL_sm h
 obtain ⟨h1,h2,h3,h4,h5⟩:=rightL_iff.1 h
 have hm:=riseP_mem h1
 have hg:=wts_ge fun x hx=>(hm x hx).1
 have hh:=high_len h2
 obtain ⟨nn,hnn⟩:∃nn:Nat,l.next=(nn:Int):=⟨l.next.toNat,by omega⟩
 obtain ⟨c,hc⟩:∃c:UInt8,c=UInt8.ofNat l.prs.length:=⟨_,rfl⟩
 have e0:padB [76] ((sizeL l:Nat):Int)=([76]++zer (1+(2+(l.high.length+1+wts l.prs))),0):=by
  have hz:sizeL l=1+(1+(2+(l.high.length+1+wts l.prs))):=by unfold sizeL;omega
  unfold padB
  rw [if_neg (by omega),if_neg (by simp;omega),toNat_cast,hz]
  congr 3
  simp
 have e1:=put_at [76] (1+(2+(l.high.length+1+wts l.prs))) 1 l.prs.length 1 1 rfl rfl (by omega) (by omega) (by omega) (by omega)
 have f1:leN 1 l.prs.length=[c]:=by
  rw [hc]
  show [UInt8.ofNat (l.prs.length % 256)]=_
  rw [Nat.mod_eq_of_lt (by omega)]
 rw [f1,show 1+(2+(l.high.length+1+wts l.prs)) - 1=2+(l.high.length+1+wts l.prs) by omega] at e1
 have e2:=put_at ([76]++[c]) (2+(l.high.length+1+wts l.prs)) 2 nn 2 2 rfl rfl (by omega) (by omega) (by omega) (by omega)
 rw [show 2+(l.high.length+1+wts l.prs) - 2=l.high.length+1+wts l.prs by omega] at e2
 have e3:=putText_at ([76]++[c]++leN 2 nn) l.high (l.high.length+1+wts l.prs) 4 (by simp [leN_len]) (by omega) (by omega)
 rw [show l.high.length+1+wts l.prs - (l.high.length+1)=wts l.prs by omega] at e3
 have hd:([76]++[c]++leN 2 nn++txB l.high).length=4+l.high.length+1:=by simp [leN_len];omega
 have hl:=encL_loop l.prs hsm.prs l.prs 0 ([76]++[c]++leN 2 nn++txB l.high) rfl (fun x hx=>by
  have q1:=(key_len (hm x hx).1).2
  have q2:=(hm x hx).2
  simp only [valB,decide_eq_true_eq] at q2
  omega) (by rw [hd];omega)
 have hfin:[76]++[c]++leN 2 nn++txB l.high++rowsP l.prs=encL l:=by
  unfold encL bodyP
  rw [hnn,hc]
  simp
 rw [hfin] at hl
 have w0:W .u64 (l.prs.length:Int)=(l.prs.length:Int):=W_u64 (by omega)
 have w1:W .u64 (nn:Int)=(nn:Int):=W_u64 (by omega)
 have hat:(4:Int)+(l.high.length:Int)+1=(([76]++[c]++leN 2 nn++txB l.high).length:Nat):=by rw [hd];omega
 refine e120_run _ _ _ ?_ hl
 unfold e120
 have s76:[UInt8.ofNat ((76:Int)).toNat]=([76]:Bs):=rfl
 rw [pcK_of (rightL_ok l hsm),kB_mk,h,Bool.not_true,cond_false,pcK_of (sizeL_ok l hsm),kI_mk,s76,pcK_of (pad_eq e0 (by decide)),d76_mk,psV_len,w0,
  pcK_of (put_eq e1 (by omega) (by simp [small];omega)),d76_mk,hnn,w1,pcK_of (put_eq e2 (by omega) (by simp [small];omega)),d76_mk,
  pcK_of (putText_eq e3 (by simp [small,leN_len];omega) (by simp only [small];omega)),d117_mk,hat]
 rfl
theorem text_at (A t B:Bs) (h:t.length<=255):textB (A++(txB t++B)) ((A.length:Nat):Int)=(t,((A.length+1+t.length:Nat):Int),0):=by
 unfold textB
 rw [if_pos (by simp;omega),toNat_cast,List.drop_left]
 have hc:(UInt8.ofNat t.length).toNat=t.length:=by simp;omega
 simp only [txB,List.cons_append]
 rw [if_neg (by rw [hc];simp),hc]
 simp
abbrev readV (ps:List Pr) (high:Bs) (next:Int) (at_:Nat):V:=.tup [.agg [.sl (psV ps),.str high,.int .i64 next],.int .i64 (at_:Int),.bool true]
theorem readb_loop (s:Bs) (hs:small s) (n:Nat) (hn:n<=1000) (high:Bs) (next:Int):∀(r dn:List Pr) (A:Bs),s=A++rowsP r->n=dn.length+r.length->(∀x∈r,x.1.length<=255/\x.2.length<=255) ->
  Go qk false 0 (fF 175) (.head 1 (T175_1b s (n:Int) (A.length:Int) (n:Int) (dn.length:Int) high next (psV dn))) (.done (readV (dn++r) high next s.length))
 | [],dn,A,hA,hl,_=>by
  refine s175_1b_run _ _ _ _ _ _ _ _ ?_ (.refl _)
  unfold s175_1b
  simp only [List.length_nil,Nat.add_zero] at hl
  rw [decide_eq_false (by omega),cond_false,hA]
  simp [rowsP]
 | x::r,dn,A,hA,hl,hx=>by
  obtain ⟨hx1,hx2⟩:=hx x (by simp)
  simp only [List.length_cons] at hl
  have e1:textB s (A.length:Nat)=(x.1,(((A++txB x.1).length:Nat):Int),0):=by
   rw [hA,rowsP,List.append_assoc,text_at A x.1 _ hx1]
   simp;omega
  have e2:textB s (((A++txB x.1).length:Nat):Int)=(x.2,(((A++txB x.1++txB x.2).length:Nat):Int),0):=by
   rw [hA,rowsP,List.append_assoc,<-List.append_assoc A,text_at (A++txB x.1) x.2 _ hx2]
   simp;omega
  have w:W .u64 ((dn.length:Int)+1)=(((dn++[x]).length:Nat):Int):=by rw [W_u64 (by omega)];simp
  have ih:=readb_loop s hs n hn high next r (dn++[x]) (A++txB x.1++txB x.2) (by rw [hA,rowsP];simp) (by simp;omega) (fun y hy=>hx y (by simp [hy]))
  rw [show dn++[x]++r=dn++x::r by simp] at ih
  refine s175_1b_run _ _ _ _ _ _ _ _ (o:=.head 2 (T175_2b s (n:Int) (A.length:Int) (n:Int) (dn.length:Int) 0 high next [] [] (psV dn))) ?_
   (s175_2b_0_run _ _ _ _ _ _ _ _ _ _ (o:=.head 2 (T175_2b s (n:Int) ((A++txB x.1).length:Nat) (n:Int) (dn.length:Int) 1 high next x.1 [] (psV dn))) ?_
   (s175_2b_1_run _ _ _ _ _ _ _ _ _ _ (o:=.head 2 (T175_2b s (n:Int) ((A++txB x.1++txB x.2).length:Nat) (n:Int) (dn.length:Int) 2 high next x.1 x.2 (psV dn))) ?_
   (s175_2b_2_run _ _ _ _ _ _ _ _ _ _ ?_ ih)))
  ·unfold s175_1b
   rw [decide_eq_true (by omega),cond_true]
  ·unfold s175_2b_0
   rw [pcK_of (text_eq e1 hs),d117_mk,ibne_f rfl,cond_false]
  ·unfold s175_2b_1
   rw [pcK_of (text_eq e2 hs),d117_mk,ibne_f rfl,cond_false]
  ·unfold s175_2b_2
   rw [gd_of (decide_eq_true (by simp only [psV_len,List.length_append,List.length_take,List.length_drop,List.length_cons,List.length_nil];omega)),w]
   simp [psV]
theorem read_ok (l:Lf) (h:rightL l=true):pcW qcfg 175 [.str (encL l)]=some (readV l.prs l.high l.next (encL l).length):=by
 have hsm:=rightL_sm h
 obtain ⟨h1,h2,h3,h4,h5⟩:=rightL_iff.1 h
 have hm:=riseP_mem h1
 have hg:=wts_ge fun x hx=>(hm x hx).1
 have hh:=high_len h2
 have hlen:=encL_len l
 have hs:small (encL l):=by rw [small,hlen];unfold sizeL;omega
 obtain ⟨nn,hnn⟩:∃nn:Nat,l.next=(nn:Int):=⟨l.next.toNat,by omega⟩
 have hpr:∀x∈l.prs,x.1.length<=255/\x.2.length<=255:=fun x hx=>by
  have q1:=(key_len (hm x hx).1).2
  have q2:=(hm x hx).2
  simp only [valB,decide_eq_true_eq] at q2
  omega
 have g1:getB (encL l) 1 1=(((l.prs.length:Nat):Int),0):=by
  unfold getB
  rw [if_pos (roomE_ok (by omega) (by omega) (by omega) (by rw [hlen];unfold sizeL;omega))]
  have:(encL l).drop 1=UInt8.ofNat l.prs.length::(leN 2 l.next.toNat++(txB l.high++rowsP l.prs)):=rfl
  show (((unle (((encL l).drop 1).take 1):Nat):Int),(0:Int))=_
  rw [this]
  simp [unle]
  omega
 have q16:(256:Nat) ^ 2=65536:=by decide
 have g2:getB (encL l) 2 2=(l.next,0):=by
  unfold getB
  rw [if_pos (roomE_ok (by omega) (by omega) (by omega) (by rw [hlen];unfold sizeL;omega))]
  have:(encL l).drop 2=leN 2 l.next.toNat++(txB l.high++rowsP l.prs):=rfl
  show (((unle (((encL l).drop 2).take 2):Nat):Int),(0:Int))=_
  rw [this,List.take_append_of_le_length (by rw [leN_len];omega),List.take_of_length_le (by rw [leN_len];omega),unle_leN 2 l.next.toNat (by omega)]
  rw [hnn];simp
 have hA:(76::UInt8.ofNat l.prs.length::leN 2 l.next.toNat:Bs).length=4:=by simp [leN_len]
 have g3:textB (encL l) 4=(l.high,(((76::UInt8.ofNat l.prs.length::(leN 2 l.next.toNat++txB l.high):Bs).length:Nat):Int),0):=by
  have e:encL l=(76::UInt8.ofNat l.prs.length::leN 2 l.next.toNat)++(txB l.high++rowsP l.prs):=rfl
  have:=text_at (76::UInt8.ofNat l.prs.length::leN 2 l.next.toNat) l.high (rowsP l.prs) (by omega)
  rw [hA] at this
  rw [e]
  refine this.trans ?_
  simp [leN_len];omega
 have hAA:encL l=(76::UInt8.ofNat l.prs.length::(leN 2 l.next.toNat++txB l.high))++rowsP l.prs:=by simp [encL,bodyP]
 generalize hAd:(76::UInt8.ofNat l.prs.length::(leN 2 l.next.toNat++txB l.high):Bs)=A at g3 hAA
 have w:W .i64 l.next=l.next:=W_i64 (by omega)
 refine e175_run _ (o:=.head 0 (T175_0 (encL l) (l.prs.length:Int) (A.length:Int) l.high l.next)) ?_ (s175_0_run _ _ _ _ _ rfl ?_)
 ·unfold e175
  rw [pcK_of (get_eq g1 hs),d269_mk,pcK_of (get_eq g2 hs),d269_mk,pcK_of (text_eq g3 hs),d117_mk,ibne_f rfl,cond_false,cond_false,cond_false,w]
  rfl
 ·cases hp:l.prs with
  | nil =>
   refine s175_1_run _ _ _ _ _ _ ?_ (.refl _)
   unfold s175_1
   rw [decide_eq_false (by simp),cond_false]
   rw [hp] at hAA
   rw [hAA]
   simp [rowsP,psV]
  | cons x r =>
   rw [hp] at hAA hpr
   have hN:l.prs.length<=1000:=by omega
   rw [hp,List.length_cons] at hN
   obtain ⟨hx1,hx2⟩:=hpr x (by simp)
   have e1:textB (encL l) (A.length:Nat)=(x.1,(((A++txB x.1).length:Nat):Int),0):=by
    rw [hAA,rowsP,List.append_assoc,text_at A x.1 _ hx1]
    simp;omega
   have e2:textB (encL l) (((A++txB x.1).length:Nat):Int)=(x.2,(((A++txB x.1++txB x.2).length:Nat):Int),0):=by
    rw [hAA,rowsP,List.append_assoc,<-List.append_assoc A,text_at (A++txB x.1) x.2 _ hx2]
    simp;omega
   have fin:=readb_loop (encL l) hs (r.length+1) hN l.high l.next r [x] (A++txB x.1++txB x.2) (by rw [hAA,rowsP];simp) (by simp;omega) (fun y hy=>hpr y (by simp [hy]))
   rw [List.length_cons]
   refine s175_1_run _ _ _ _ _ _ (o:=.head 2 (T175_2 (encL l) ((r.length+1:Nat):Int) (A.length:Int) ((r.length+1:Nat):Int) 0 l.high l.next [] [])) ?_
    (s175_2_0_run _ _ _ _ _ _ _ _ (o:=.head 2 (T175_2 (encL l) ((r.length+1:Nat):Int) ((A++txB x.1).length:Nat) ((r.length+1:Nat):Int) 1 l.high l.next x.1 [])) ?_
    (s175_2_1_run _ _ _ _ _ _ _ _ (o:=.head 2 (T175_2 (encL l) ((r.length+1:Nat):Int) ((A++txB x.1++txB x.2).length:Nat) ((r.length+1:Nat):Int) 2 l.high l.next x.1 x.2)) ?_
    (s175_2_2_run _ _ _ _ _ _ _ _ ?_ fin)))
   ·unfold s175_1
    rw [decide_eq_true (by omega),cond_true]
   ·unfold s175_2_0
    rw [pcK_of (text_eq e1 hs),d117_mk,ibne_f rfl,cond_false]
   ·unfold s175_2_1
    rw [pcK_of (text_eq e2 hs),d117_mk,ibne_f rfl,cond_false]
   ·unfold s175_2_2
    rw [gd_of (decide_eq_true (by simp))]
    rfl
theorem decL_ok (l:Lf) (h:rightL l=true):pcW qcfg 129 [.str (encL l)]=some (.tup [eL l,.int .i64 0]):=by
 have hsm:=rightL_sm h
 obtain ⟨h1,h2,h3,h4,h5⟩:=rightL_iff.1 h
 have hh:=high_len h2
 have hlen:=encL_len l
 have hs:small (encL l):=by rw [small,hlen];unfold sizeL;omega
 refine e129_done _ ?_
 unfold e129
 rw [decide_eq_false (by rw [hlen];unfold sizeL;omega),cond_false,pcK_of (read_ok l h),d241_mk,Bool.not_true,cond_false]
 show (pcK qcfg _ [eL l] _)=_
 rw [pcK_of (rightL_ok l hsm),kB_mk,h,Bool.not_true,cond_false,gd_of (by simp),toNat_cast,gd_of (by simp),List.take_length,List.drop_length,pcK_of (bareF_ok [] (by simp [small])),kS_mk]
 rfl
def keysL (l:List Pr):List Bs:=l.map (·.1)
theorem keys_get {l:List Pr} {i:Nat} {x:Pr} (h:l[i]? = some x):(keysL l)[i]? = some x.1:=by simp [keysL,h]
theorem keys_len (l:List Pr):(keysL l).length=l.length:=by simp [keysL]
theorem riseP_rises:∀{l:List Pr} {p:Bs},riseP p l=true->(∀x∈l,lt p x.1=true)/\Rises (keysL l)
 | [],_,_=>⟨fun _ h=>(by cases h),.nil⟩
 | y::l,p,h=>by
  simp only [riseP,Bool.and_eq_true] at h
  obtain ⟨h1,h2⟩:=riseP_rises h.2
  refine ⟨fun x hx=>?_,List.pairwise_cons.2 ⟨fun k hk=>?_,h2⟩⟩
  ·rcases List.mem_cons.1 hx with rfl | hx
   ·exact h.1.2
   ·exact lt_trans h.1.2 (h1 x hx)
  ·obtain ⟨x,hx,rfl⟩:=List.mem_map.1 hk
   exact h1 x hx
theorem rightL_rises {l:Lf} (h:rightL l=true):Rises (keysL l.prs):=(riseP_rises (rightL_iff.1 h).1).2
theorem cmp_pr (a b:Bs):pcW qcfg 158 [.str a,.str b]=some (.int .i64 (if a==b then 0 else if lt a b then -1 else 1)):=pcW_prim (g:=cmpPr) rfl rfl
theorem find1_ok (p:Pr) (k:Bs):pcW qcfg 157 [pV p,.str k]=some (.int .i64 (if p.1==k then 0 else if lt p.1 k then -1 else 1)):=by
 refine e157_done _ _ _ ?_
 unfold e157
 rw [pcK_of (cmp_pr p.1 k),kI_mk]
theorem cmp_lt (a k:Bs):decide ((if a==k then (0:Int) else if lt a k then -1 else 1) < 0)=lt a k:=by
 by_cases h:a=k
 ·subst h;rw [lt_irr];simp
 ·rw [if_neg (by simpa using h)];cases lt a k<;>rfl
theorem cmp_eq (a k:Bs):((if a==k then (0:Int) else if lt a k then -1 else 1)==0)=(a==k):=by
 by_cases h:a=k
 ·subst h;simp
 ·rw [if_neg (by simpa using h),beq_eq_false_iff_ne.2 h];cases lt a k<;>rfl
theorem bsf_loop (m:List Pr) (hs:Rises (keysL m)) (k:Bs) (hl:m.length<=1000000):∀(d i j:Nat),j - i<=d->i<=lbS (keysL m) k->lbS (keysL m) k<=j->j<=m.length ->
  Go qk false 0 (fF 156) (.head 0 (T156_0 (psV m) k m.length i j)) (.done (.tup [.int .i64 (lbS (keysL m) k),.bool (hasS (keysL m) k)])):=by
 intro d
 induction d with
 | zero =>
  intro i j hd hi hj hn
  have e:i=lbS (keysL m) k:=by omega
  refine s156_0_run _ _ _ _ _ ?_ (.refl _)
  unfold s156_0
  rw [decide_eq_false (by omega),cond_false]
  by_cases hlt:i < m.length
  ·have h1:m[i]? = some m[i]:=List.getElem?_eq_getElem hlt
   have e2:hasS (keysL m) k=(m[i].1==k):=by unfold hasS;rw [<-e,keys_get h1]
   rw [<-e,decide_eq_true (by omega),cond_true,gd_of (by simp),toNat_cast,idxK_ps h1,d41_mk]
   show (pcK qcfg _ [pV m[i],_] _)=_
   rw [pcK_of (find1_ok _ _),kI_mk,e2,cmp_eq]
  ·have e2:hasS (keysL m) k=false:=by unfold hasS;rw [<-e,List.getElem?_eq_none (by rw [keys_len];omega)]
   rw [<-e,e2,decide_eq_false (by omega)]
   rfl
 | succ d ih =>
  intro i j hd hi hj hn
  by_cases hij:i < j
  ·have hh:=halfS (i:=i) (j:=j) (by omega)
   generalize hg:(i+j) / 2=h at hh
   have hb:i<=h/\h < j:=by omega
   have h1:m[h]? = some m[h]:=List.getElem?_eq_getElem (by omega)
   have hlb:=lbS_iff hs k (keys_get h1)
   have w:W .i64 ((h:Int)+1)=((h+1:Nat):Int):=by rw [W_i64 (by omega)];omega
   cases hx:lt m[h].1 k with
   | true =>
    refine s156_0_run _ _ _ _ _ (o:=.head 0 (T156_0 (psV m) k m.length ((h+1:Nat):Int) j)) ?_ (ih (h+1) j (by omega) (by have:=hlb.1 hx;omega) hj hn)
    unfold s156_0
    rw [decide_eq_true (by omega),cond_true,hh,gd_of (by simp),toNat_cast,idxK_ps h1,d41_mk]
    show (pcK qcfg _ [pV m[h],_] _)=_
    rw [pcK_of (find1_ok _ _),kI_mk,cmp_lt,hx,cond_true,w]
   | false =>
    have hge:lbS (keysL m) k<=h:=by
     rcases Nat.lt_or_ge h (lbS (keysL m) k) with q | q
     ·rw [hlb.2 q] at hx;cases hx
     ·exact q
    refine s156_0_run _ _ _ _ _ (o:=.head 0 (T156_0 (psV m) k m.length i h)) ?_ (ih i h (by omega) hi hge (by omega))
    unfold s156_0
    rw [decide_eq_true (by omega),cond_true,hh,gd_of (by simp),toNat_cast,idxK_ps h1,d41_mk]
    show (pcK qcfg _ [pV m[h],_] _)=_
    rw [pcK_of (find1_ok _ _),kI_mk,cmp_lt,hx,cond_false]
  ·exact ih i j (by omega) hi hj hn
theorem findL_ok (l:Lf) (hs:Rises (keysL l.prs)) (hl:l.prs.length<=1000) (k:Bs):pcW qcfg 116 [eL l,.str k]=some (.tup [.int .i64 (lbS (keysL l.prs) k),.bool (hasS (keysL l.prs) k)]):=by
 refine e116_done _ _ _ _ ?_
 unfold e116
 have:pcW qcfg 156 [.sl (psV l.prs),.str k,.fn 157 []]=some (.tup [.int .i64 (lbS (keysL l.prs) k),.bool (hasS (keysL l.prs) k)]):=by
  refine e156_run _ _ (o:=.head 0 (T156_0 (psV l.prs) k l.prs.length ((0:Nat):Int) l.prs.length)) ?_ (bsf_loop l.prs hs k (by omega) _ 0 l.prs.length (Nat.le_refl _) (Nat.zero_le _) (by rw [<-keys_len];exact lbS_le _ k) (Nat.le_refl _))
  unfold e156
  rw [psV_len]
  rfl
 rw [pcK_of this,d145_mk]
theorem wfl_ps (l:List Pr):wfl 2 (psV l)=true:=wfl_map fun _=>rfl
theorem flat_ps (l:List Pr):((psV l).all fun x=>x.cells.all V.flat1)=true:=by simp [psV,V.cells,V.flat1]
theorem ps_take (l:List Pr) (k:Nat):(psV l).take k=psV (l.take k):=by simp [psV,List.map_take]
theorem ps_drop (l:List Pr) (k:Nat):(psV l).drop k=psV (l.drop k):=by simp [psV,List.map_drop]
theorem ps_app (a b:List Pr):psV a++psV b=psV (a++b):=by simp [psV]
theorem overL_ok (l w:List Pr) (i j:Nat) (hi:i<=l.length) (hj:j<=l.length) (hl:l.length<=1000) (hw:w.length<=1000) :
  pcW qcfg 117 [.sl (psV l),.int .i64 (i:Int),.int .i64 (j:Int),.sl (psV w)]=some (.fr 41 (psV (l.take i++w++l.drop j))):=by
 refine e117_done _ _ _ _ ?_
 unfold e117
 have hwl:W .i64 (((psV l).length:Int)+((psV w).length:Int))=((l.length+w.length:Nat):Int):=by rw [psV_len,psV_len,W_i64 (by omega)];omega
 have hmid:(List.replicate ((i:Int)).toNat (V.agg [V.str [],V.str []])).take 0++((psV l).take ((i:Int)).toNat).take (min ((psV l).take ((i:Int)).toNat).length ((List.replicate ((i:Int)).toNat (V.agg [V.str [],V.str []])).length))++(List.replicate ((i:Int)).toNat (V.agg [V.str [],V.str []])).drop (0+min ((psV l).take ((i:Int)).toNat).length ((List.replicate ((i:Int)).toNat (V.agg [V.str [],V.str []])).length))=psV (l.take i):=by
  rw [toNat_cast,ps_take]
  have h1:(psV (l.take i)).length=i:=by rw [psV_len,List.length_take];omega
  rw [h1,List.length_replicate,Nat.min_self,Nat.zero_add,List.take_zero,List.nil_append,List.take_of_length_le (by omega),List.drop_eq_nil_of_le (by simp),List.append_nil]
 have hend:((psV l).take (psV l).length).drop ((j:Int)).toNat=psV (l.drop j):=by rw [List.take_length,toNat_cast,ps_drop]
 simp only [hmid,hend,hwl]
 rw [gd_of (by simp),gd_of (decide_eq_true (by omega)),gd_of (decide_eq_true (by rw [toNat_cast];omega)),gd_of (wfl_ps _),gd_of (by simp),gd_of (decide_eq_true (by rw [toNat_cast,psV_len];omega)),gd_of (by rw [toNat_cast,ps_take];exact wfl_ps _),
  gd_of (by simp),gd_of (wfl_ps _),gd_of (decide_eq_true (by simp only [psV_len,List.length_append,List.length_take,List.length_drop,List.length_cons,List.length_nil];omega)),gd_of (wfl_ps _),gd_of (by simp),gd_of (decide_eq_true (by rw [toNat_cast,psV_len];omega)),gd_of (wfl_ps _),ps_app,gd_of (decide_eq_true (by simp only [psV_len,List.length_append,List.length_take,List.length_drop,List.length_cons,List.length_nil];omega)),ps_app,gd_of (flat_ps _)]
set_option maxRecDepth 100000
theorem wts_app:∀a b:List Pr,wts (a++b)=wts a+wts b
 | [],b=>by simp [wts]
 | x::a,b=>by rw [List.cons_append,wts,wts,wts_app a b];omega
theorem wts_split (l:List Pr) (n:Nat):wts l=wts (l.take n)+wts (l.drop n):=by rw [<-wts_app,List.take_append_drop]
theorem weigh {x:Pr} (h1:keyB x.1=true) (h2:valB x.2=true):3<=wts [x]/\wts [x]<=50:=by
 have:=key_len h1
 simp only [valB,decide_eq_true_eq] at h2
 simp only [wts]
 omega
theorem wts_le50:∀{l:List Pr},(∀x∈l,keyB x.1=true/\valB x.2=true)->wts l<=50 * l.length
 | [],_=>Nat.le_refl _
 | x::r,h=>by
  have h1:=weigh (h x (by simp)).1 (h x (by simp)).2
  have h2:=wts_le50 (l:=r) fun y hy=>h y (by simp [hy])
  simp only [wts,List.length_cons] at *
  omega
theorem over0_ok (l:List Pr) (i j:Nat) (hi:i<=l.length) (hj:j<=l.length) (hl:l.length<=1000):pcW qcfg 117 [.sl (psV l),.int .i64 (i:Int),.int .i64 (j:Int),.sl []]=some (.fr 41 (psV (l.take i++l.drop j))):=by
 have:=overL_ok l [] i j hi hj hl (by simp)
 rwa [List.append_nil] at this
structure GoodL (l:Lf):Prop where
 right:rightL l=true
 sm:SmL l
 mem:∀x∈l.prs,keyB x.1=true/\valB x.2=true
 ri:Rises (keysL l.prs)
 len:3 * l.prs.length<=wts l.prs
 wt:wts l.prs<=231
 high:l.high.length<=16
theorem goodL {l:Lf} (h:rightL l=true):GoodL l:=by
 have h1:=rightL_iff.1 h
 have hm:=riseP_mem h1.1
 exact ⟨h,rightL_sm h,hm,rightL_rises h,wts_ge fun x hx=>(hm x hx).1,h1.2.2.2.2,high_len h1.2.1⟩
theorem bound_get {m:List Bs} {k:Bs} (h:hasS m k=true):∃h2:lbS m k < m.length,m[lbS m k]=k:=by
 unfold hasS at h
 cases hx:m[lbS m k]? with
 | none=>rw [hx] at h;cases h
 | some p =>
  rw [hx] at h
  obtain ⟨h2,h3⟩:=List.getElem?_eq_some_iff.1 hx
  exact ⟨h2,by rw [h3];simpa using h⟩
def getL (l:List Pr) (k:Bs):Bs:=(l[lbS (keysL l) k]?.getD ([],[])).2
theorem getL_ok (l:Lf) (h:rightL l=true) (k:Bs):pcW qcfg 76 [eL l,.str k]=some (if hasS (keysL l.prs) k then .tup [.str (getL l.prs k),.int .i64 0] else .tup [.str [],.int .i64 7]):=by
 have g:=goodL h
 have g1:=g.len;have g2:=g.wt
 refine e76_done _ _ _ _ ?_
 unfold e76
 rw [pcK_of (rightL_ok l g.sm),kB_mk,h,Bool.not_true,cond_false,pcK_of (findL_ok l g.ri (by omega) k),d145_mk]
 cases hh:hasS (keysL l.prs) k with
 | false=>rfl
 | true =>
  obtain ⟨h2,_⟩:=bound_get hh
  rw [keys_len] at h2
  have h3:l.prs[lbS (keysL l.prs) k]? = some l.prs[lbS (keysL l.prs) k]:=List.getElem?_eq_getElem h2
  rw [Bool.not_true,cond_false,gd_of (by simp),toNat_cast,idxK_ps h3,d41_mk,if_pos rfl,getL,h3]
  rfl
def putL (l:List Pr) (k v:Bs):List Pr:=l.take (lbS (keysL l) k)++[(k,v)]++l.drop (if hasS (keysL l) k then lbS (keysL l) k+1 else lbS (keysL l) k)
abbrev l00:Lf:=⟨[],[],0⟩
def putV (l:Lf) (k v:Bs):V:=if wts (putL l.prs k v)<=231 then .tup [eL ⟨putL l.prs k v,l.high,l.next⟩,.int .i64 0] else .tup [eL l00,.int .i64 6]
theorem putL_len (l:List Pr) (k v:Bs):(putL l k v).length<=l.length+1:=by
 have:=lbS_le (keysL l) k
 rw [keys_len] at this
 unfold putL
 simp only [List.length_append,List.length_take,List.length_drop,List.length_cons,List.length_nil]
 split<;>omega
theorem putL_mem {l:List Pr} {k v:Bs} {x:Pr} (h:x∈putL l k v):x=(k,v)∨x∈l:=by
 unfold putL at h
 rcases List.mem_append.1 h with h | h
 ·rcases List.mem_append.1 h with h | h
  ·exact .inr (List.mem_of_mem_take h)
  ·exact .inl (by simpa using h)
 ·exact .inr (List.mem_of_mem_drop h)
theorem putL_wts (l:List Pr) (k v:Bs):wts (putL l k v)<=wts l+wts [(k,v)]:=by
 have h1:=wts_split l (lbS (keysL l) k)
 have h2:=wts_split (l.drop (lbS (keysL l) k)) 1
 rw [List.drop_drop] at h2
 unfold putL
 rw [wts_app,wts_app]
 split
 ·omega
 ·omega
theorem fit_iff (l:Lf):fitL l=decide (wts l.prs<=231):=by
 unfold fitL
 by_cases h:wts l.prs<=231
 ·rw [decide_eq_true (show 21+wts l.prs<=252 by omega),decide_eq_true h]
 ·rw [decide_eq_false (show ¬21+wts l.prs<=252 by omega),decide_eq_false h]
theorem put_rest (l:Lf) (h:rightL l=true) (k v:Bs) (hk:keyB k=true) (hv:valB v=true) {q:R} :
  q=(pcK qcfg 116 [eL l,.str k] fun r_3=>d145 r_3 fun i is=>cond is
   (pcK qcfg 117 [.sl (psV l.prs),.int .i64 i,.int .i64 (W .i64 (i+1)),.sl [.agg [.str k,.str v]]] fun r_4=>kF 41 r_4 fun o=>pcK qcfg 118 [.agg [.sl o,.str l.high,.int .i64 l.next]] fun r_5=>kB r_5 fun b=>cond (!b) (some (.done (.tup [.agg [.sl [],.str [],.int .i64 0],.int .i64 6]))) (some (.done (.tup [.agg [.sl o,.str l.high,.int .i64 l.next],.int .i64 0]))))
   (pcK qcfg 117 [.sl (psV l.prs),.int .i64 i,.int .i64 i,.sl [.agg [.str k,.str v]]] fun r_4=>kF 41 r_4 fun o=>pcK qcfg 118 [.agg [.sl o,.str l.high,.int .i64 l.next]] fun r_5=>kB r_5 fun b=>cond (!b) (some (.done (.tup [.agg [.sl [],.str [],.int .i64 0],.int .i64 6]))) (some (.done (.tup [.agg [.sl o,.str l.high,.int .i64 l.next],.int .i64 0]))))) ->
  q=some (.done (putV l k v)):=by
 rintro rfl
 have g:=goodL h
 have g1:=g.len;have g2:=g.wt
 have hle:=lbS_le (keysL l.prs) k
 rw [keys_len] at hle
 have hsm:SmL ⟨putL l.prs k v,l.high,l.next⟩:=by
  refine ⟨by have:=putL_len l.prs k v;simp only;omega,fun x hx=>?_,by have:=g.high;simp only;omega⟩
  rcases putL_mem hx with rfl | hx
  ·have:=(key_len hk).2
   simp only [valB,decide_eq_true_eq] at hv
   simp only;omega
  ·exact g.sm.pr x hx
 have e1:([.agg [.str k,.str v]]:List V)=psV [(k,v)]:=rfl
 rw [pcK_of (findL_ok l g.ri (by omega) k),d145_mk,e1]
 cases hh:hasS (keysL l.prs) k with
 | true =>
  obtain ⟨h2,_⟩:=bound_get hh
  rw [keys_len] at h2
  have w:W .i64 (((lbS (keysL l.prs) k:Nat):Int)+1)=((lbS (keysL l.prs) k+1:Nat):Int):=by rw [W_i64 (by omega)];omega
  have ep:l.prs.take (lbS (keysL l.prs) k)++[(k,v)]++l.prs.drop (lbS (keysL l.prs) k+1)=putL l.prs k v:=by unfold putL;rw [hh,if_pos rfl]
  rw [cond_true,w,pcK_of (overL_ok l.prs [(k,v)] _ _ hle (by omega) (by omega) (by simp)),kF_mk,ep]
  have:=fitsL_ok ⟨putL l.prs k v,l.high,l.next⟩ hsm
  rw [fit_iff] at this
  simp only at this
  rw [pcK_of this,kB_mk]
  unfold putV
  by_cases hf:wts (putL l.prs k v)<=231
  ·rw [decide_eq_true hf,if_pos hf];rfl
  ·rw [decide_eq_false hf,if_neg hf];rfl
 | false =>
  have ep:l.prs.take (lbS (keysL l.prs) k)++[(k,v)]++l.prs.drop (lbS (keysL l.prs) k)=putL l.prs k v:=by unfold putL;rw [hh];rfl
  rw [cond_false,pcK_of (overL_ok l.prs [(k,v)] _ _ hle (by omega) (by omega) (by simp)),kF_mk,ep]
  have:=fitsL_ok ⟨putL l.prs k v,l.high,l.next⟩ hsm
  rw [fit_iff] at this
  simp only at this
  rw [pcK_of this,kB_mk]
  unfold putV
  by_cases hf:wts (putL l.prs k v)<=231
  ·rw [decide_eq_true hf,if_pos hf];rfl
  ·rw [decide_eq_false hf,if_neg hf];rfl
theorem putL_ok (l:Lf) (h:rightL l=true) (k v:Bs) (hk:keyB k=true) (hv:valB v=true) (hh:l.high=[]∨lt k l.high=true):pcW qcfg 77 [eL l,.str k,.str v]=some (putV l k v):=by
 have g:=goodL h
 refine e77_done _ _ _ _ _ ?_
 unfold e77
 rw [pcK_of (rightL_ok l g.sm),kB_mk,h,Bool.not_true,cond_false,pcK_of (key_ok k),kB_mk,hk,Bool.not_true,cond_false,pcK_of (val_ok v),kB_mk,hv,Bool.not_true,cond_false]
 by_cases e:l.high=[]
 ·rw [show (!(l.high==[]))=false by rw [e];rfl,cond_false]
  exact put_rest l h k v hk hv rfl
 ·have hl:Op.bytesLess k l.high=true:=hh.resolve_left e
  rw [show (!(l.high==[]))=true by simpa using e,cond_true,hl,Bool.not_true,cond_false]
  exact put_rest l h k v hk hv rfl
def delL (l:List Pr) (k:Bs):List Pr:=l.take (lbS (keysL l) k)++l.drop (lbS (keysL l) k+1)
theorem delL_ok (l:Lf) (h:rightL l=true) (k:Bs):pcW qcfg 80 [eL l,.str k]=some (if hasS (keysL l.prs) k then .tup [eL ⟨delL l.prs k,l.high,l.next⟩,.int .i64 0] else .tup [eL l00,.int .i64 7]):=by
 have g:=goodL h
 have g1:=g.len;have g2:=g.wt
 refine e80_done _ _ _ _ ?_
 unfold e80
 rw [pcK_of (rightL_ok l g.sm),kB_mk,h,Bool.not_true,cond_false,pcK_of (findL_ok l g.ri (by omega) k),d145_mk]
 cases hh:hasS (keysL l.prs) k with
 | false=>rfl
 | true =>
  obtain ⟨h2,_⟩:=bound_get hh
  rw [keys_len] at h2
  have w:W .i64 (((lbS (keysL l.prs) k:Nat):Int)+1)=((lbS (keysL l.prs) k+1:Nat):Int):=by rw [W_i64 (by omega)];omega
  rw [Bool.not_true,cond_false,w,pcK_of (over0_ok l.prs _ _ (by omega) (by omega) (by omega)),kF_mk]
  rfl
def cutN (A:Nat):Nat->List Pr->Nat
 | _,[]=>0
 | _,[_]=>0
 | had,x::y::r=>if 2 * had < A then 1+cutN A (had+wts [x]) (y::r) else 0
def halfL (l:List Pr):Nat:=match l with | []=>0 | [_]=>0 | x::y::r=>1+cutN (wts l) (wts [x]) (y::r)
def splV (l:Lf) (pg:Int) (n:Nat):V:=.tup [eL ⟨l.prs.take n,(l.prs[n]?.getD ([],[])).1,pg+1⟩,eL ⟨l.prs.drop n,l.high,l.next⟩,.int .i64 0]
theorem split_end (l:Lf) (hl:l.prs.length<=1000) (pg:Int) (hp:0<=pg/\pg < 1024) (n:Nat) (hn:n < l.prs.length) {q:R} :
  q=(pcK qcfg 117 [.sl (psV l.prs),.int .i64 (n:Int),.int .i64 ((psV l.prs).length:Int),.sl []] fun r_2=>kF 41 r_2 fun a=>gd (decide (0<=(n:Int)))<|idxK (psV l.prs) ((n:Int)).toNat fun v=>d41 v fun key _=>pcK qcfg 117 [.sl (psV l.prs),.int .i64 0,.int .i64 (n:Int),.sl []] fun r_3=>kF 41 r_3 fun b =>
   some (.done (.tup [.agg [.sl a,.str key,.int .i64 (W .i64 (pg+1))],.agg [.sl b,.str l.high,.int .i64 l.next],.int .i64 0]))) ->
  q=some (.done (splV l pg n)):=by
 rintro rfl
 have h1:l.prs[n]? = some l.prs[n]:=List.getElem?_eq_getElem hn
 have o1:=over0_ok l.prs n l.prs.length (by omega) (by omega) hl
 have o2:pcW qcfg 117 [.sl (psV l.prs),.int .i64 0,.int .i64 (n:Int),.sl []]=some (.fr 41 (psV (l.prs.take 0++l.prs.drop n))):=over0_ok l.prs 0 n (by omega) (by omega) hl
 rw [List.drop_length,List.append_nil] at o1
 rw [List.take_zero,List.nil_append] at o2
 rw [psV_len,pcK_of o1,kF_mk,gd_of (by simp),toNat_cast,idxK_ps h1,d41_mk,pcK_of o2,kF_mk,W_i64 (by omega)]
 unfold splV
 rw [h1]
 rfl
theorem split_loop (l:Lf) (hl:l.prs.length<=1000) (hs:∀p∈l.prs,p.1.length<=1000/\p.2.length<=1000) (pg:Int) (hp:0<=pg/\pg < 1024) (A:Nat):∀(r:List Pr) (n had:Nat),l.prs.drop n=r->r≠[]->0 < n->had<=2002 * n ->
  Go qk false 0 (fF 122) (.head 0 (T122_0 pg (A:Int) (n:Int) (had:Int) (psV l.prs) l.high l.next)) (.done (splV l pg (n+cutN A had r))):=by
 intro r
 induction r with
 | nil=>intro n had _ h;exact absurd rfl h
 | cons x r ih =>
  intro n had hr _ hn hhad
  obtain ⟨h1,h2,h3⟩:=drop_cons hr
  have hx:=hs x (List.mem_of_getElem? h1)
  have w1:W .i64 (((psV l.prs).length:Int) - 1)=((l.prs.length - 1:Nat):Int):=by rw [psV_len,W_i64 (by omega)];omega
  have hrl:r.length+n+1=l.prs.length:=by
   have:=congrArg List.length hr
   simp at this
   omega
  have w2:W .i64 (2 * (had:Int))=((2 * had:Nat):Int):=by rw [W_i64 (by omega)];omega
  cases hrr:r with
  | nil =>
   subst hrr
   simp only [List.length_nil] at hrl
   refine s122_0_run _ _ _ _ _ _ _ ?_ (.refl _)
   unfold s122_0
   rw [w1,decide_eq_false (by omega),cond_false]
   exact split_end l hl pg hp n (by omega) rfl
  | cons y t =>
   have hrt:r.length=t.length+1:=by rw [hrr];rfl
   unfold cutN
   by_cases hA:2 * had < A
   ·rw [if_pos hA]
    have:=ih (n+1) (had+wts [x]) h2 (by rw [hrr];simp) (by omega) (by simp only [wts];omega)
    rw [hrr,Nat.add_assoc] at this
    refine s122_0_run _ _ _ _ _ _ _ (o:=.head 0 (T122_0 pg (A:Int) ((n+1:Nat):Int) ((had+wts [x]:Nat):Int) (psV l.prs) l.high l.next)) ?_ this
    unfold s122_0
    have w3:W .i64 ((n:Int)+1)=((n+1:Nat):Int):=by rw [W_i64 (by omega)];omega
    have w4:W .i64 ((had:Int)+((2+x.1.length+x.2.length:Nat):Int))=((had+wts [x]:Nat):Int):=by simp only [wts];rw [W_i64 (by omega)];omega
    rw [w1,decide_eq_true (by omega),cond_true,ibeq_f (by omega),cond_false,w2,decide_eq_true (by omega),cond_true,gd_of (by simp),toNat_cast,idxK_ps h1,d41_mk]
    show (pcK qcfg _ [pV x] _)=_
    rw [pcK_of (weight_ok x hx.1 hx.2),kI_mk,w3,w4]
   ·rw [if_neg hA]
    refine s122_0_run _ _ _ _ _ _ _ ?_ (.refl _)
    unfold s122_0
    rw [w1,decide_eq_true (by omega),cond_true,ibeq_f (by omega),cond_false,w2,decide_eq_false (by omega),cond_false]
    exact split_end l hl pg hp n (by omega) rfl
theorem splitL_ok (l:Lf) (h:rightL l=true) (h2:2<=l.prs.length) (pg:Int) (hp:0<=pg/\pg < 1024):pcW qcfg 122 [eL l,.int .i64 pg]=some (splV l pg (halfL l.prs)):=by
 have g:=goodL h
 have g1:=g.len;have g2:=g.wt;have g3:=g.high
 obtain ⟨x,y,r,hx⟩:∃x y r,l.prs=x::y::r:=by
  match hl:l.prs,h2 with
  | x::y::r,_=>exact ⟨x,y,r,rfl⟩
 have hpx:=g.sm.pr x (by rw [hx];simp)
 have h0:l.prs[0]? = some x:=by rw [hx];rfl
 have hd:l.prs.drop 1=y::r:=by rw [hx];rfl
 have:=split_loop l (by omega) g.sm.pr pg hp (wts l.prs) (y::r) 1 (wts [x]) hd (by simp) (by omega) (by simp only [wts];omega)
 have eh:halfL l.prs=1+cutN (wts l.prs) (wts [x]) (y::r):=by rw [hx];rfl
 rw [<-eh] at this
 refine e122_run _ _ _ _ (o:=.head 0 (T122_0 pg ((wts l.prs:Nat):Int) 0 0 (psV l.prs) l.high l.next)) ?_ (s122_0_run _ _ _ _ _ _ _ (o:=.head 0 (T122_0 pg ((wts l.prs:Nat):Int) ((1:Nat):Int) ((wts [x]:Nat):Int) (psV l.prs) l.high l.next)) ?_ this)
 ·unfold e122
  have hsz:W .i64 (W .i64 (W .i64 ((sizeL l:Nat) - (4:Int)) - 1) - (l.high.length:Int))=((wts l.prs:Nat):Int):=by
   unfold sizeL
   rw [W_i64 (n:=(((5+l.high.length+wts l.prs:Nat):Int) - 4)) (by omega),W_i64 (n:=(((5+l.high.length+wts l.prs:Nat):Int) - 4 - 1)) (by omega),W_i64 (by omega)]
   omega
  rw [pcK_of (rightL_ok l g.sm),kB_mk,h,Bool.not_true,cond_false,psV_len,decide_eq_false (by omega),cond_false,decide_eq_false (by omega),cond_false,decide_eq_false (by omega),cond_false,pcK_of (sizeL_ok l g.sm),kI_mk,hsz]
 ·unfold s122_0
  have w1:W .i64 (((psV l.prs).length:Int) - 1)=((l.prs.length - 1:Nat):Int):=by rw [psV_len,W_i64 (by omega)];omega
  have w4:W .i64 (0+((2+x.1.length+x.2.length:Nat):Int))=((wts [x]:Nat):Int):=by simp only [wts];rw [W_i64 (by omega)];omega
  have h00:l.prs[((0:Int)).toNat]? = some x:=h0
  rw [w1,decide_eq_true (by omega),cond_true,show ((0:Int)==0)=true from rfl,cond_true,gd_of (by simp),idxK_ps h00,d41_mk]
  show (pcK qcfg _ [pV x] _)=_
  rw [pcK_of (weight_ok x hpx.1 hpx.2),kI_mk,w4]
  rfl
theorem cutN_ok (A:Nat):∀(r:List Pr) (had:Nat),(∀x∈r,wts [x]<=50)->r≠[]->had<=165->had+wts r=A->2 * had < A+100->A<=231 ->
  cutN A had r < r.length/\had+wts (r.take (cutN A had r))<=165/\wts (r.drop (cutN A had r))<=116
 | [],_,_,h,_,_,_,_=>absurd rfl h
 | [x],had,hw,_,h1,h2,_,_=>by
  have:=hw x (by simp)
  simp only [cutN,List.take_zero,List.drop_zero,List.length_cons,List.length_nil]
  simp only [wts] at *
  omega
 | x::y::r,had,hw,_,h1,h2,h3,hA=>by
  have hx:=hw x (by simp)
  unfold cutN
  by_cases h:2 * had < A
  ·rw [if_pos h]
   have ih:=cutN_ok A (y::r) (had+wts [x]) (fun z hz=>hw z (by simp [hz])) (by simp) (by omega) (by simp only [wts] at *;omega) (by omega) hA
   rw [Nat.add_comm 1]
   simp only [List.take_succ_cons,List.drop_succ_cons,List.length_cons] at *
   refine ⟨by omega,?_,ih.2.2⟩
   have:=ih.2.1
   simp only [wts] at *
   omega
  ·rw [if_neg h]
   simp only [List.take_zero,List.drop_zero,List.length_cons,wts] at *
   omega
theorem half_ok {l:List Pr} (h2:2<=l.length) (hw:∀x∈l,wts [x]<=50) (hA:wts l<=231):0 < halfL l/\halfL l < l.length/\wts (l.take (halfL l))<=165/\wts (l.drop (halfL l))<=116:=by
 match l,h2 with
 | x::y::r,_ =>
  have hx:=hw x (by simp)
  have:=cutN_ok (wts (x::y::r)) (y::r) (wts [x]) (fun z hz=>hw z (by simp [hz])) (by simp) (by omega) (by simp only [wts];omega) (by simp only [wts] at *;omega) hA
  have e:halfL (x::y::r)=cutN (wts (x::y::r)) (wts [x]) (y::r)+1:=Nat.add_comm 1 _
  rw [e]
  simp only [List.take_succ_cons,List.drop_succ_cons,List.length_cons] at *
  refine ⟨by omega,by omega,?_,this.2.2⟩
  have:=this.2.1
  simp only [wts] at *
  omega
theorem parse_of {n:Inn} (h:rightB n=true) (k:Nat) (hk:sizeN n+k<=252):parseB (encB n++zer k)=some n:=by
 obtain ⟨h1,h2,h3,h4,h5,h6,h7⟩:=right_facts h
 have hg:=szR_ge h3
 have hlen:(encB n++zer k).length=sizeN n+k:=by simp [enc_len h]
 obtain ⟨nn,hnn⟩:∃nn:Nat,n.next=(nn:Int):=⟨n.next.toNat,by omega⟩
 obtain ⟨k0,ks,hks⟩:∃k ks,n.kids=k::ks:=by
  cases hk:n.kids with
  | nil=>rw [hk] at h1;simp at h1
  | cons k ks=>exact ⟨k,ks,rfl⟩
 have hk0:=pg_lt (h2 k0 (by rw [hks];simp))
 obtain ⟨kn,rfl⟩:∃kn:Nat,k0=(kn:Int):=⟨k0.toNat,by omega⟩
 have hkl:ks.length=n.seps.length:=by rw [hks] at h1;simpa using h1
 have hz:=zip_mem h
 rw [hks,List.tail_cons] at hz
 have e0:encB n++zer k=78::UInt8.ofNat n.seps.length::(leN 2 nn++(txB n.high++leN 2 kn++(rowsB (n.seps.zip ks)++zer k))):=by
  unfold encB bodyB headB
  rw [if_pos h,hks,hnn]
  simp
 have hl2:=leN_len 2 nn
 obtain ⟨b2,b3,hb⟩:∃b2 b3,leN 2 nn=[b2,b3]:=⟨_,_,rfl⟩
 have hun:unle (leN 2 nn)=nn:=unle_leN 2 nn (by have:(256:Nat) ^ 2=65536:=by decide
                                                omega)
 have e1:(encB n++zer k).drop 4=txB n.high++leN 2 kn++(rowsB (n.seps.zip ks)++zer k):=by rw [e0,hb];rfl
 have e2:((encB n++zer k).drop 2).take 2=leN 2 nn:=by rw [e0,hb];rfl
 have e3:(encB n++zer k).getD 1 0=UInt8.ofNat n.seps.length:=by rw [e0];rfl
 have e4:(UInt8.ofNat n.seps.length).toNat=(n.seps.zip ks).length:=by simp;omega
 have e5:(encB n++zer k).head? = some 78:=by rw [e0];rfl
 have hmin:sizeN n=7+n.high.length+szR n.seps:=rfl
 unfold parseB
 rw [if_neg (by rw [hlen,e5];simp;omega),e1,pRow_of (by omega) (by omega),Option.bind_some]
 simp only
 rw [e3,e4,pRows_of _ _ hz,Option.bind_some,e2,hun]
 have e6:(n.seps.zip ks).map (·.1)=n.seps:=List.map_fst_zip (by omega)
 have e7:(n.seps.zip ks).map (·.2)=ks:=List.map_snd_zip (by omega)
 simp only [e6,e7]
 have e8:(⟨n.seps,(kn:Int)::ks,n.high,(nn:Int)⟩:Inn)=n:=by
  rw [<-hks,<-hnn]
 rw [e8]
 unfold finB
 rw [h,bare_nil_iff.2 (by simp)]
 rfl
theorem at_spec1:∀{l:List Bs} {k:Bs} {j:Nat} {s:Bs},j < atB l k->l[j]? = some s->lt k s=false
 | [],k,j,s,h,_=>by simp [atB] at h
 | x::l,k,j,s,h,hs=>by
  rw [at_cons] at h
  cases hx:lt k x with
  | true=>rw [hx] at h;simp at h
  | false =>
   rw [hx] at h
   cases j with
   | zero=>simp at hs;rw [<-hs];exact hx
   | succ j=>exact at_spec1 (l:=l) (by simpa using h) (by simpa using hs)
theorem at_spec2:∀{l:List Bs} {k:Bs} {s:Bs},l[atB l k]? = some s->lt k s=true
 | [],k,s,h=>by simp at h
 | x::l,k,s,h=>by
  rw [at_cons] at h
  cases hx:lt k x with
  | true=>rw [hx] at h;simp at h;rw [<-h];exact hx
  | false =>
   rw [hx] at h
   exact at_spec2 (l:=l) (by simpa using h)
theorem last_cons (s:Bs) (a:List Bs) (p:Bs):(s::a).getLastD p=a.getLastD s:=by
 cases a with
 | nil=>rfl
 | cons y a=>simp [List.getLastD]
theorem last_app:∀(a b:List Bs) (p:Bs),(a++b).getLastD p=b.getLastD (a.getLastD p)
 | [],b,p=>rfl
 | s::a,b,p=>by rw [List.cons_append,last_cons,last_cons,last_app a b s]
theorem rise_app:∀(a b:List Bs) (p:Bs),riseB p (a++b)=(riseB p a && riseB (a.getLastD p) b)
 | [],b,p=>rfl
 | s::a,b,p=>by rw [List.cons_append,riseB,riseB,rise_app a b s,last_cons];cases keyB s<;>cases lt p s<;>rfl
theorem last_ne {a:List Bs} (h:a≠[]) (p:Bs):a[a.length - 1]? = some (a.getLastD p):=by
 cases a with
 | nil=>exact (h rfl).elim
 | cons s a =>
  rw [List.getLastD_cons]
  simp [List.getLastD,List.getLast?_eq_getElem?]
  cases a with
  | nil=>rfl
  | cons y a=>simp [List.getLast_eq_getElem]
theorem szR_app:∀a b:List Bs,szR (a++b)=szR a+szR b
 | [],b=>by simp [szR]
 | s::a,b=>by simp only [List.cons_append,szR,szR_app a b];omega
theorem right_iff {n:Inn}:rightB n=true↔n.kids.length=n.seps.length+1/\(∀k∈n.kids,pgB k=true)/\riseB [] n.seps=true/\highB (n.seps.getLastD []) n.high=true/\endB n=true:=by
 unfold rightB
 simp only [Bool.and_eq_true,decide_eq_true_eq,List.all_eq_true]
 constructor
 ·rintro ⟨⟨⟨⟨a,b⟩,c⟩,d⟩,e⟩;exact ⟨a,b,c,d,e⟩
 ·rintro ⟨a,b,c,d,e⟩;exact ⟨⟨⟨⟨a,b⟩,c⟩,d⟩,e⟩
theorem end_iff {n:Inn}:endB n=true↔0<=n.next/\n.next<=1024/\23+szR n.seps<=252:=by
 unfold endB fitB
 simp only [Bool.and_eq_true,decide_eq_true_eq]
 constructor
 ·rintro ⟨⟨a,b⟩,c⟩;exact ⟨a,b,by omega⟩
 ·rintro ⟨a,b,c⟩;exact ⟨⟨a,b⟩,by omega⟩
structure PutF (n:Inn) (key:Bs) (kid:Int):Prop where
 right:rightB n=true
 isKey:keyB key=true
 high:(n.high==[] || lt key n.high)=true
 page:pgB kid=true
 new:¬(0 < atB n.seps key/\n.seps[atB n.seps key - 1]? = some key)
 fit:fitB (putN n key kid (atB n.seps key))=true
theorem put_right {n:Inn} {key:Bs} {kid:Int} (h:PutF n key kid):rightB (putN n key kid (atB n.seps key))=true:=by
 obtain ⟨hr,hk,hh,hp,hn,hf⟩:=h
 obtain ⟨r1,r2,r3,r4,r5⟩:=right_iff.1 hr
 obtain ⟨e1,e2,e3⟩:=end_iff.1 r5
 have hle:=at_le n.seps key
 generalize hi:atB n.seps key=i at hn hf hle |-
 obtain ⟨A,hA⟩:∃A,A=n.seps.take i:=⟨_,rfl⟩
 obtain ⟨B,hB⟩:∃B,B=n.seps.drop i:=⟨_,rfl⟩
 have hAB:n.seps=A++B:=by rw [hA,hB,List.take_append_drop]
 have hAl:A.length=i:=by rw [hA,List.length_take];omega
 rw [hAB,rise_app] at r3
 simp only [Bool.and_eq_true] at r3
 have hlast:lt (A.getLastD []) key=true:=by
  by_cases h0:A=[]
  ·rw [h0];exact key_lt_nil hk
  ·have hi0:0 < i:=by
    rcases Nat.eq_zero_or_pos i with h | h
    ·rw [h] at hAl;exact (h0 (List.length_eq_zero_iff.1 hAl)).elim
    ·exact h
   have hg:=last_ne h0 []
   rw [hAl] at hg
   have hg2:n.seps[i - 1]? = some (A.getLastD []):=by
    rw [hAB,List.getElem?_append_left (by omega)];exact hg
   have h1:lt key (A.getLastD [])=false:=at_spec1 (l:=n.seps) (by omega) hg2
   refine lt_tri h1 fun e=>hn ⟨hi0,?_⟩
   rw [hg2,<-e]
 have hBr:riseB key B=true:=by
  cases hB2:B with
  | nil=>rfl
  | cons s r =>
   rw [hB2] at r3
   have r32:=r3.2
   simp only [riseB,Bool.and_eq_true] at r32 |-
   have hs:n.seps[i]? = some s:=by
    rw [hAB,List.getElem?_append_right (by omega),hAl,Nat.sub_self,hB2];rfl
   have:lt key s=true:=at_spec2 (l:=n.seps) (by rw [hi];exact hs)
   exact ⟨⟨r32.1.1,this⟩,r32.2⟩
 have hseps:(putN n key kid i).seps=A++(key::B):=by
  show n.seps.take i++[key]++n.seps.drop i=_
  rw [<-hA,<-hB,List.append_assoc];rfl
 refine right_iff.2 ⟨?_,?_,?_,?_,?_⟩
 ·show (n.kids.take (i+1)++[kid]++n.kids.drop (i+1)).length=(n.seps.take i++[key]++n.seps.drop i).length+1
  simp
  omega
 ·intro k hk'
  rcases List.mem_append.1 hk' with hk' | hk'
  ·rcases List.mem_append.1 hk' with hk' | hk'
   ·exact r2 k (List.mem_of_mem_take hk')
   ·simp at hk';rw [hk'];exact hp
  ·exact r2 k (List.mem_of_mem_drop hk')
 ·rw [hseps,rise_app,riseB,r3.1,hk,hlast,hBr];rfl
 ·rw [hseps,last_app,last_cons]
  show highB (B.getLastD key) n.high=true
  rw [hAB,last_app] at r4
  cases hB2:B with
  | nil =>
   show highB key n.high=true
   rw [hB2] at r4
   unfold highB at r4 |-
   cases hz:n.high==[] with
   | true=>rfl
   | false =>
    rw [hz] at r4 hh
    simp only [Bool.false_or,Bool.and_eq_true] at r4 hh |-
    exact ⟨r4.1,hh⟩
  | cons s r=>rw [hB2,last_cons] at r4;rw [last_cons];exact r4
 ·refine end_iff.2 ⟨e1,e2,?_⟩
  unfold fitB at hf
  simp only [decide_eq_true_eq] at hf
  omega
theorem rise_weak {p:Bs} {l:List Bs} (h:riseB p l=true):riseB [] l=true:=by
 cases l with
 | nil=>rfl
 | cons s r =>
  simp only [riseB,Bool.and_eq_true] at h |-
  exact ⟨⟨h.1.1,key_lt_nil h.1.1⟩,h.2⟩
theorem split_parts {n:Inn} (hr:rightB n=true) (h3:3<=n.kids.length):∃A mid B,n.seps=A++mid::B/\A.length=n.seps.length / 2/\n.seps.getD (n.seps.length / 2) []=mid/\n.seps.take (n.seps.length / 2)=A/\n.seps.drop (n.seps.length / 2+1)=B:=by
 obtain ⟨r1,_⟩:=right_iff.1 hr
 have hm:n.seps.length / 2 < n.seps.length:=by omega
 generalize n.seps.length / 2=m at hm
 refine ⟨n.seps.take m,n.seps[m],n.seps.drop (m+1),?_,by simp;omega,?_,rfl,rfl⟩
 ·rw [<-List.drop_eq_getElem_cons hm,List.take_append_drop]
 ·simp [List.getD,List.getElem?_eq_getElem hm]
theorem split_right {n:Inn} {to:Int} (hr:rightB n=true) (h3:3<=n.kids.length) (ht:pgB to=true):rightB (splA n to)=true/\rightB (splB n)=true:=by
 obtain ⟨A,mid,B,e1,e2,e3,e4,e5⟩:=split_parts hr h3
 obtain ⟨r1,r2,r3,r4,r5⟩:=right_iff.1 hr
 obtain ⟨g1,g2,g3⟩:=end_iff.1 r5
 have ht2:=pg_lt ht
 have hlen:n.seps.length=A.length+(B.length+1):=by rw [e1];simp
 have r3':=r3
 rw [e1,rise_app,riseB] at r3'
 simp only [Bool.and_eq_true] at r3'
 obtain ⟨rA,⟨⟨kM,lM⟩,rB⟩⟩:=r3'
 have hz:szR n.seps=szR A+(3+mid.length+szR B):=by rw [e1,szR_app,szR]
 constructor
 ·refine right_iff.2 ⟨?_,?_,?_,?_,?_⟩
  ·show (n.kids.take _).length=(n.seps.take _).length+1
   simp;omega
  ·exact fun k hk=>r2 k (List.mem_of_mem_take hk)
  ·show riseB [] (n.seps.take _)=true
   rw [e4];exact rA
  ·show highB ((n.seps.take _).getLastD []) (n.seps.getD _ [])=true
   rw [e4,e3]
   unfold highB
   rw [kM,lM]
   simp
  ·refine end_iff.2 ⟨by show 0<=to+1;omega,by show to+1<=1024;omega,?_⟩
   show 23+szR (n.seps.take _)<=252
   rw [e4];omega
 ·refine right_iff.2 ⟨?_,?_,?_,?_,?_⟩
  ·show (n.kids.drop _).length=(n.seps.drop _).length+1
   simp;omega
  ·exact fun k hk=>r2 k (List.mem_of_mem_drop hk)
  ·show riseB [] (n.seps.drop _)=true
   rw [e5];exact rise_weak rB
  ·show highB ((n.seps.drop _).getLastD []) n.high=true
   rw [e5]
   rw [e1,last_app,last_cons] at r4
   cases B with
   | nil =>
    unfold highB at r4 |-
    cases hq:n.high==[] with
    | true=>rfl
    | false =>
     rw [hq] at r4
     simp only [Bool.false_or,Bool.and_eq_true] at r4 |-
     exact ⟨r4.1,key_lt_nil r4.1⟩
   | cons s r=>rw [last_cons] at r4 |-;exact r4
  ·refine end_iff.2 ⟨g1,g2,?_⟩
   show 23+szR (n.seps.drop _)<=252
   rw [e5];omega
abbrev Es:=List (Int × Bs)
def esV (es:Es):List (V × V):=es.map fun x=>(V.int .i64 x.1,V.str x.2)
def getE:Es->Int->Option Bs
 | [],_=>none
 |(a,x)::es,p=>if p=a then some x else getE es p
def putE:Es->Int->Bs->Es
 | [],p,x=>[(p,x)]
 |(a,y)::es,p,x=>if p=a then (a,x)::es else (a,y)::putE es p x
def delE:Es->Int->Es
 | [],_=>[]
 |(a,y)::es,p=>if p=a then es else (a,y)::delE es p
theorem eq1_int (p a:Int):eq1 (.int .i64 p) (.int .i64 a)=some (decide (p=a)):=by
 by_cases h:p=a
 ·subst h;simp [eq1]
 ·rw [decide_eq_false h];simp [eq1,h]
theorem mf_es (p:Int):∀es:Es,mapFind (esV es) (.int .i64 p)=some ((getE es p).map V.str)
 | []=>rfl
 |(a,x)::es=>by
  show ((eq1 (.int .i64 p) (.int .i64 a)).bind fun b=>if b then some (some (V.str x)) else mapFind (esV es) (.int .i64 p))=_
  rw [eq1_int,Option.bind_some,mf_es p es,getE]
  by_cases h:p=a
  ·rw [decide_eq_true h,if_pos h];rfl
  ·rw [decide_eq_false h,if_neg h];rfl
theorem mp_es (p:Int) (b:Bs):∀es:Es,mapPut (esV es) (.int .i64 p) (.str b)=some (esV (putE es p b))
 | []=>rfl
 |(a,x)::es=>by
  show ((eq1 (.int .i64 p) (.int .i64 a)).bind fun q=>if q then some ((V.int .i64 a,V.str b)::esV es) else (mapPut (esV es) (.int .i64 p) (.str b)).map ((V.int .i64 a,V.str x)::·))=_
  rw [eq1_int,Option.bind_some,mp_es p b es,putE]
  by_cases h:p=a
  ·rw [decide_eq_true h,if_pos h];rfl
  ·rw [decide_eq_false h,if_neg h];rfl
theorem md_es (p:Int):∀es:Es,mapDel (esV es) (.int .i64 p)=some (esV (delE es p))
 | []=>rfl
 |(a,x)::es=>by
  show ((eq1 (.int .i64 p) (.int .i64 a)).bind fun q=>if q then some (esV es) else (mapDel (esV es) (.int .i64 p)).map ((V.int .i64 a,V.str x)::·))=_
  rw [eq1_int,Option.bind_some,md_es p es,delE]
  by_cases h:p=a
  ·rw [decide_eq_true h,if_pos h];rfl
  ·rw [decide_eq_false h,if_neg h];rfl
def keysE (es:Es):List Int:=es.map (·.1)
theorem get_none {p:Int}:∀{es:Es},getE es p=none↔p∉keysE es
 | []=>by simp [getE,keysE]
 |(a,x)::es=>by
  rw [getE]
  by_cases h:p=a
  ·rw [if_pos h];simp [keysE,h]
  ·rw [if_neg h,get_none];simp [keysE,h]
theorem get_mem {p:Int} {b:Bs}:∀{es:Es},(keysE es).Nodup->(p,b)∈es->getE es p=some b
 |(a,x)::es,hn,h=>by
  have hn:=List.nodup_cons.1 hn
  rw [getE]
  rcases List.mem_cons.1 h with h1 | h1
  ·cases h1;rw [if_pos rfl]
  ·have hp:p∈keysE es:=List.mem_map_of_mem (f:=(·.1)) h1
   rw [if_neg (fun e:p=a=>hn.1 (e ▸ hp))]
   exact get_mem hn.2 h1
theorem put_at1 {p:Int} {b b':Bs} {B:Es}:∀{A:Es},p∉keysE A->putE (A++(p,b)::B) p b'=A++(p,b')::B
 | [],_=>if_pos rfl
 |(a,x)::A,h=>by
  have h1:p≠a:=fun e=>h (by simp [keysE,e])
  rw [List.cons_append,putE,if_neg h1,put_at1 fun q=>h (by simp only [keysE,List.map_cons,List.mem_cons];exact .inr q)]
  rfl
theorem put_new {p:Int} {b:Bs}:∀{es:Es},p∉keysE es->putE es p b=es++[(p,b)]
 | [],_=>rfl
 |(a,x)::es,h=>by
  have h1:p≠a:=fun e=>h (by simp [keysE,e])
  rw [putE,if_neg h1,put_new fun q=>h (by simp only [keysE,List.map_cons,List.mem_cons];exact .inr q)]
  rfl
theorem del_at1 {p:Int} {b:Bs} {B:Es}:∀{A:Es},p∉keysE A->delE (A++(p,b)::B) p=A++B
 | [],_=>if_pos rfl
 |(a,x)::A,h=>by
  have h1:p≠a:=fun e=>h (by simp [keysE,e])
  rw [List.cons_append,delE,if_neg h1,del_at1 fun q=>h (by simp only [keysE,List.map_cons,List.mem_cons];exact .inr q)]
  rfl
theorem perm_cut {es r:Es} {p:Int} {b:Bs} (hn:(keysE es).Nodup) (h:es.Perm ((p,b)::r)):∃A B,es=A++(p,b)::B/\r.Perm (A++B)/\p∉keysE A:=by
 obtain ⟨A,B,rfl⟩:=List.append_of_mem (h.mem_iff.2 (List.mem_cons_self ..))
 refine ⟨A,B,rfl,((h.symm.trans List.perm_middle).cons_inv),?_⟩
 unfold keysE at hn
 rw [List.map_append] at hn
 have:=(List.nodup_append.1 hn).2.2
 intro hp
 exact this p hp p (by simp) rfl
theorem get_perm {es r:Es} {p:Int} {b:Bs} (hn:(keysE es).Nodup) (h:es.Perm ((p,b)::r)):getE es p=some b:=get_mem hn (h.mem_iff.2 (List.mem_cons_self ..))
theorem put_perm {es r:Es} {p:Int} {b b':Bs} (hn:(keysE es).Nodup) (h:es.Perm ((p,b)::r)):(putE es p b').Perm ((p,b')::r):=by
 obtain ⟨A,B,rfl,h2,h3⟩:=perm_cut hn h
 rw [put_at1 h3]
 exact List.perm_middle.trans (h2.symm.cons _)
theorem del_perm {es r:Es} {p:Int} {b:Bs} (hn:(keysE es).Nodup) (h:es.Perm ((p,b)::r)):(delE es p).Perm r:=by
 obtain ⟨A,B,rfl,h2,h3⟩:=perm_cut hn h
 rw [del_at1 h3]
 exact h2.symm
theorem put_keys {es:Es} {p:Int} {b:Bs} (h:p∈keysE es):keysE (putE es p b)=keysE es:=by
 induction es with
 | nil=>simp [keysE] at h
 | cons x es ih =>
  obtain ⟨a,x⟩:=x
  rw [putE]
  by_cases e:p=a
  ·rw [if_pos e];rfl
  ·rw [if_neg e]
   have h:p∈keysE es:=by
    rcases List.mem_cons.1 h with h | h
    ·exact absurd h e
    ·exact h
   show a::keysE (putE es p b)=a::keysE es
   rw [ih h]
def tkn (es:Es) (k:Nat):Bool:=decide ((k:Int)∈keysE es)
theorem tkn_keys {es es':Es} (h:∀p,p∈keysE es↔p∈keysE es'):tkn es=tkn es':=by
 funext k
 unfold tkn
 by_cases hk:(k:Int)∈keysE es
 ·rw [decide_eq_true hk,decide_eq_true ((h _).1 hk)]
 ·rw [decide_eq_false hk,decide_eq_false fun q=>hk ((h _).2 q)]
structure Shf (n:Nat) (es:Es):Prop where
 le:n<=1024
 nd:(keysE es).Nodup
 rng:∀p∈keysE es,0<=p/\p < (n:Int)
theorem nat_nd:∀{l:List Int},l.Nodup->(∀p∈l,0<=p)->(l.map Int.toNat).Nodup
 | [],_,_=>List.nodup_nil
 | a::l,h,h0=>by
  have h:=List.nodup_cons.1 h
  rw [List.map_cons]
  refine List.nodup_cons.2 ⟨fun q=>?_,nat_nd h.2 fun p hp=>h0 p (by simp [hp])⟩
  obtain ⟨b,hb,e⟩:=List.mem_map.1 q
  have h1:=h0 a (by simp)
  have h2:=h0 b (by simp [hb])
  have:a=b:=by omega
  exact h.1 (this ▸ hb)
theorem filter_nd {p:Nat->Bool} {l:List Nat} (h:l.Nodup):(l.filter p).Nodup:=List.Pairwise.filter p h
theorem taken_len {n:Nat} {es:Es} (h:Shf n es):(takenL n (tkn es)).length=es.length:=by
 unfold takenL
 rw [List.length_map]
 have hn:=nat_nd h.nd fun p hp=>(h.rng p hp).1
 have:((List.range n).filter (tkn es)).Perm ((keysE es).map Int.toNat):=by
  rw [List.perm_ext_iff_of_nodup (filter_nd List.nodup_range) hn]
  intro k
  rw [List.mem_filter,List.mem_map,List.mem_range]
  unfold tkn
  rw [decide_eq_true_eq]
  constructor
  ·rintro ⟨_,hk⟩
   exact ⟨_,hk,by simp⟩
  ·rintro ⟨q,hq,rfl⟩
   have:=h.rng q hq
   have e:((q.toNat:Nat):Int)=q:=by omega
   rw [e]
   exact ⟨by omega,hq⟩
 rw [this.length_eq,List.length_map,keysE,List.length_map]
theorem len_le {n:Nat} {es:Es} (h:Shf n es):es.length<=n:=by rw [<-taken_len h];exact taken_le _ _
theorem free_page {n:Nat} {es:Es} (h:Shf n es) (hl:es.length < n):∃k,k < n/\firstF n (tkn es)=some k/\(k:Int)∉keysE es:=by
 cases hf:firstF n (tkn es) with
 | none =>
  unfold firstF at hf
  rw [List.find?_eq_none] at hf
  have hall:(List.range n).filter (tkn es)=List.range n:=List.filter_eq_self.2 fun k hk=>by
   have:=hf k hk
   simpa using this
  have:=taken_len h
  unfold takenL at this
  rw [hall,List.length_map,List.length_range] at this
  omega
 | some k =>
  have h1:=List.mem_of_find?_eq_some hf
  have h2:=List.find?_some hf
  refine ⟨k,by simpa using h1,rfl,?_⟩
  simp only [tkn,Bool.not_eq_true',decide_eq_false_iff_not] at h2
  exact h2
theorem shf_put {n:Nat} {es:Es} (h:Shf n es) {p:Int} {b:Bs} (hp:p∈keysE es):Shf n (putE es p b):=by
 refine ⟨h.le,?_,?_⟩
 ·rw [put_keys hp];exact h.nd
 ·rw [put_keys hp];exact h.rng
theorem keys_new {es:Es} {p:Int} {b:Bs} (h:p∉keysE es):keysE (putE es p b)=keysE es++[p]:=by
 rw [put_new h];simp [keysE]
theorem shf_new {n:Nat} {es:Es} (h:Shf n es) {k:Nat} (hk:k < n) (hp:(k:Int)∉keysE es) {b:Bs}:Shf n (putE es k b):=by
 refine ⟨h.le,?_,?_⟩
 ·rw [keys_new hp]
  refine List.nodup_append.2 ⟨h.nd,by simp,?_⟩
  intro a ha b hb e
  have:b=(k:Int):=by simpa using hb
  exact hp (this ▸ e ▸ ha)
 ·rw [keys_new hp]
  intro p hq
  rcases List.mem_append.1 hq with hq | hq
  ·exact h.rng p hq
  ·have:p=(k:Int):=by simpa using hq
   omega
abbrev cmT:CM:=⟨true,false,true⟩
abbrev sM (n:Nat) (es:Es):List O:=sm (n:Int) (esV es) (bitsV n (tkn es))
theorem readS_ok {n:Nat} {es:Es} (h:Shf n es) {p:Int} {b:Bs} (hg:getE es p=some b):icC qcfg cmT 58 [.ptr 0 0 0,.int .i64 p] (sM n es)=some (mk58 (sM n es) (b,0)):=by
 have hp:p∈keysE es:=Classical.byContradiction fun q=>by rw [get_none.2 q] at hg;cases hg
 have hr:=h.rng p hp
 refine e58_run _ _ _ _ (o:=.doneM (.tup [.str b,.int .i64 0]) (sM n es)) ?_ (.done (by kernel_rfl))
 unfold e58
 have hm:mapFind (esV es) (.int .i64 p)=some (some (.str b)):=by rw [mf_es,hg];rfl
 rw [decide_eq_false (by omega),cond_false,decide_eq_false (by omega),cond_false,mfK_of hm,kS_mk]
theorem writeS_ok {n:Nat} {es:Es} (h:Shf n es) {p:Int} {b b':Bs} (hg:getE es p=some b) (hb:b'.length<=252):icC qcfg cmT 119 [.ptr 0 0 0,.int .i64 p,.str b'] (sM n es)=some (mk119 (0,n,esV (putE es p b'),bitsV n (tkn (putE es p b')))):=by
 have hp:p∈keysE es:=Classical.byContradiction fun q=>by rw [get_none.2 q] at hg;cases hg
 have ht:tkn (putE es p b')=tkn es:=tkn_keys fun q=>by rw [put_keys hp]
 rw [ht]
 refine e119_run _ _ _ _ _ (o:=.doneM (.int .i64 0) (sm n (esV (putE es p b')) (bitsV n (tkn es)))) ?_ (.done (by kernel_rfl))
 unfold e119
 rw [icR_of mk58_inj (readS_ok h hg),gdS_eq,ibne_f rfl,cond_false,decide_eq_false (by omega),cond_false,mp_es,opt_mk]
theorem takeS_ok {n:Nat} {es:Es} (h:Shf n es) {k:Nat} (hk:firstF n (tkn es)=some k) (hq:(k:Int)∉keysE es):icC qcfg cmT 84 [.ptr 0 0 0] (sM n es)=some (mk84 (k,0,n,esV (putE es k []),bitsV n (tkn (putE es k [])))):=by
 have ht:tkn (putE es k [])=updB (tkn es) k true:=by
  funext j
  unfold updB tkn
  rw [keys_new hq]
  by_cases e:j=k
  ·rw [if_pos e,decide_eq_true];simp [e]
  ·rw [if_neg e]
   by_cases hj:(j:Int)∈keysE es
   ·rw [decide_eq_true hj,decide_eq_true];simp [hj]
   ·rw [decide_eq_false hj,decide_eq_false]
    intro hc
    rcases List.mem_append.1 hc with hc | hc
    ·exact hj hc
    ·have:(j:Int)=(k:Int):=by simpa using hc
     omega
 rw [ht]
 refine e84_run _ _ _ (o:=.doneM (.tup [.int .i64 (k:Int),.int .i64 0]) (sm n (esV (putE es k [])) (bitsV n (updB (tkn es) k true)))) ?_ (.done (by kernel_rfl))
 unfold e84
 rw [icM_of mk131_inj (take_ok n h.le (tkn es) k hk),ibeq_t rfl,cond_true,mp_es,opt_mk]
theorem freeS_ok {n:Nat} {es:Es} (h:Shf n es):icC qcfg cmT 44 [.ptr 0 0 0] (sM n es)=some (mk44 (sM n es) ((n - es.length:Nat):Int)):=by
 refine e44_run _ _ _ (o:=.doneM (.int .i64 ((n - es.length:Nat):Int)) (sM n es)) ?_ (.done (by kernel_rfl))
 unfold e44
 rw [icR_of mk89_inj (free_ok n h.le (tkn es)),gdS_eq,freeN,taken_len h]
abbrev Su:=List (Int × Bs)
def hiE (e:Su):Bs:=(e.getLastD (0,[])).2
abbrev innE (e:Su) (nx:Int):Inn:=⟨e.dropLast.map (·.2),e.map (·.1),hiE e,nx⟩
theorem hiE_app (a:Su) {b:Su} (h:b≠[]):hiE (a++b)=hiE b:=by
 unfold hiE
 rw [List.getLastD_eq_getLast?,List.getLastD_eq_getLast?,List.getLast?_append]
 cases hb:b.getLast? with
 | none=>exact absurd (List.getLast?_eq_none_iff.1 hb) h
 | some x=>rfl
theorem hiE_cons (x:Int × Bs) {b:Su} (h:b≠[]):hiE (x::b)=hiE b:=hiE_app [x] h
theorem drop_last (a:Su) (x:Int × Bs) (b:Su):(a++x::b).dropLast=a++(x::b).dropLast:=List.dropLast_append_of_ne_nil (by simp)
theorem seps_len {e:Su}:(e.dropLast.map (·.2)).length=e.length - 1:=by simp
theorem cut_at (k:Bs):∀(e:Su),e≠[]->∃e1 p h e2,e=e1++(p,h)::e2/\atB (e.dropLast.map (·.2)) k=e1.length/\(∀y∈e1,lt k y.2=false)/\(e2≠[]->lt k h=true)
 | [],h=>absurd rfl h
 | [(p,h)],_=>⟨[],p,h,[],rfl,rfl,by simp,by simp⟩
 |(p,h)::y::r,_=>by
  rw [List.dropLast_cons_cons,List.map_cons,at_cons]
  cases hk:lt k h with
  | true=>exact ⟨[],p,h,y::r,rfl,by simp,by simp,fun _=>hk⟩
  | false =>
   obtain ⟨e1,p',h',e2,e,h1,h2,h3⟩:=cut_at k (y::r) (by simp)
   refine ⟨(p,h)::e1,p',h',e2,by rw [e];rfl,by rw [h1];simp,?_,h3⟩
   intro z hz
   rcases List.mem_cons.1 hz with rfl | hz
   ·exact hk
   ·exact h2 z hz
theorem at_of (k:Bs):∀(e1:Su) (p:Int) (h:Bs) (e2:Su),(∀y∈e1,lt k y.2=false)->(e2≠[]->lt k h=true)->atB ((e1++(p,h)::e2).dropLast.map (·.2)) k=e1.length
 | [],p,h,[],_,_=>rfl
 | [],p,h,y::r,_,h2=>by
  rw [List.nil_append,List.dropLast_cons_cons,List.map_cons,at_cons,h2 (by simp)];rfl
 | x::e1,p,h,e2,h1,h2=>by
  have ih:=at_of k e1 p h e2 (fun y hy=>h1 y (by simp [hy])) h2
  have:((x::e1)++(p,h)::e2).dropLast=x::(e1++(p,h)::e2).dropLast:=by
   cases e1 with
   | nil=>rfl
   | cons z t=>rfl
  rw [this,List.map_cons,at_cons,h1 x (by simp),ih]
  rfl
theorem take_at {α:Type} (a b:List α) {n:Nat} (h:a.length=n):(a++b).take n=a:=by subst h;exact List.take_left ..
theorem drop_at {α:Type} (a b:List α) {n:Nat} (h:a.length=n):(a++b).drop n=b:=by subst h;exact List.drop_left ..
theorem ins_eq (e1:Su) (p:Int) (h:Bs) (e2:Su) (k:Bs) (to nx:Int):putN (innE (e1++(p,h)::e2) nx) k to e1.length=innE (e1++(p,k)::(to,h)::e2) nx:=by
 have hl1:(e1.map (·.2)).length=e1.length:=by simp
 have hm:List.map (·.1) (e1++(p,h)::e2)=(e1.map (·.1)++[p])++e2.map (·.1):=by simp
 have hl2:(e1.map (·.1)++[p]).length=e1.length+1:=by simp
 unfold putN innE
 simp only
 rw [hm,take_at _ _ hl2,drop_at _ _ hl2,drop_last,drop_last]
 cases e2 with
 | nil =>
  have e5:[(p,h)].dropLast=[]:=rfl
  have e6:[(p,k),(to,h)].dropLast=[(p,k)]:=rfl
  have a1:hiE (e1++[(p,h)])=h:=(hiE_app e1 (by simp)).trans rfl
  have a2:hiE (e1++[(p,k),(to,h)])=h:=(hiE_app e1 (by simp)).trans rfl
  rw [e5,e6,a1,a2,List.append_nil,List.take_of_length_le (by simp),List.drop_eq_nil_of_le (by simp)]
  simp
 | cons y r =>
  have e3:((p,h)::y::r).dropLast=(p,h)::(y::r).dropLast:=rfl
  have e4:((p,k)::(to,h)::y::r).dropLast=(p,k)::(to,h)::(y::r).dropLast:=rfl
  have a1:hiE (e1++(p,h)::y::r)=hiE (y::r):=(hiE_app e1 (by simp)).trans (hiE_cons _ (by simp))
  have a2:hiE (e1++(p,k)::(to,h)::y::r)=hiE (y::r):=(hiE_app e1 (by simp)).trans ((hiE_cons _ (by simp)).trans (hiE_cons _ (by simp)))
  rw [e3,e4,a1,a2,List.map_append,take_at _ _ hl1,drop_at _ _ hl1]
  simp
theorem spl_eq (ea eb:Su) (hb:eb≠[]) (to nx:Int) (hm:(innE (ea++eb) nx).seps.length / 2+1=ea.length):splA (innE (ea++eb) nx) to=innE ea (to+1)/\splB (innE (ea++eb) nx)=innE eb nx:=by
 have hsl:(innE (ea++eb) nx).seps.length=(ea++eb).length - 1:=seps_len
 obtain ⟨a',x,rfl⟩:∃a' x,ea=a'++[x]:=by
  rcases List.eq_nil_or_concat ea with h | ⟨l,x,h⟩
  ·subst h;simp at hm
  ·exact ⟨l,x,by simpa using h⟩
 have hm':(innE (a'++[x]++eb) nx).seps.length / 2=a'.length:=by simp at hm |-;omega
 have hd:(a'++[x]++eb).dropLast=a'++x::eb.dropLast:=by
  rw [List.dropLast_append_of_ne_nil hb];simp
 have hda:(a'++[x]).dropLast=a':=by simp
 have hs:(innE (a'++[x]++eb) nx).seps=a'.map (·.2)++x.2::eb.dropLast.map (·.2):=by
  show (a'++[x]++eb).dropLast.map (·.2)=_
  rw [hd];simp
 have hk:(innE (a'++[x]++eb) nx).kids=(a'.map (·.1)++[x.1])++eb.map (·.1):=by
  show (a'++[x]++eb).map (·.1)=_
  simp
 constructor
 ·unfold splA
  rw [hm',hs,hk]
  refine congr (congr (congr (congrArg Inn.mk ?_) ?_) ?_) rfl
  ·rw [hda];simp
  ·rw [List.take_append_of_le_length (by simp),List.take_of_length_le (by simp)];simp
  ·rw [hiE_app _ (by simp)]
   simp [hiE]
 ·unfold splB
  rw [hm',hs,hk]
  refine congr (congr (congr (congrArg Inn.mk ?_) ?_) ?_) rfl
  ·rw [List.drop_append];simp
  ·rw [List.drop_append];simp
  ·show hiE (a'++[x]++eb)=hiE eb
   rw [hiE_app _ hb]
def nxt {α:Type}:List (Int × α)->Int->Int
 | [],n=>n
 |(q,_)::_,_=>q+1
def encT {α:Type} (f:α->Int->Bs):List (Int × α)->Int->Es
 | [],_=>[]
 |(p,x)::r,n=>(p,f x (nxt r n))::encT f r n
def okT {α:Type} (g:α->Int->Prop):List (Int × α)->Int->Prop
 | [],_=>True
 |(p,x)::r,n=>g x (nxt r n)/\okT g r n
section
variable {α:Type} {f:α->Int->Bs} {g:α->Int->Prop}
theorem nxt_app:∀(a b:List (Int × α)) (n:Int),nxt (a++b) n=nxt a (nxt b n)
 | [],_,_=>rfl
 | _::_,_,_=>rfl
theorem encT_app:∀(a b:List (Int × α)) (n:Int),encT f (a++b) n=encT f a (nxt b n)++encT f b n
 | [],_,_=>rfl
 |(p,x)::a,b,n=>by rw [List.cons_append,encT,encT,encT_app a b n,nxt_app];rfl
theorem okT_app:∀(a b:List (Int × α)) (n:Int),okT g (a++b) n↔okT g a (nxt b n)/\okT g b n
 | [],b,n=>by simp [okT]
 |(p,x)::a,b,n=>by rw [List.cons_append,okT,okT,okT_app a b n,nxt_app,and_assoc]
end
abbrev LfX:=List Pr × Bs
abbrev LL:=List (Int × LfX)
abbrev IL:=List (Int × Su)
def encF (x:LfX) (nx:Int):Bs:=encL ⟨x.1,x.2,nx⟩
def encI (e:Su) (nx:Int):Bs:=encB (innE e nx)
def okF (x:LfX) (nx:Int):Prop:=rightL ⟨x.1,x.2,nx⟩=true
def okI (e:Su) (nx:Int):Prop:=e≠[]/\rightB (innE e nx)=true
def sumL (b:LL):Su:=b.map fun x=>(x.1,x.2.2)
def sumI (l:IL):Su:=l.map fun x=>(x.1,hiE x.2)
def kidsI (l:IL):Su:=l.flatMap (·.2)
inductive Dn:Su->List IL->LL->Prop
 | leaf (b:LL):Dn (sumL b) [] b
 | inn (l:IL) (d:List IL) (b:LL):Dn (kidsI l) d b->Dn (sumI l) (l::d) b
inductive Pth (r:Int):List IL->Int->Bs->Su->Su->List (Int × Su × Int × Nat)->Prop
 | top:Pth r [] r [] [] [] []
 | st {up:List IL} {q:Int} {e1:Su} {p:Int} {h:Bs} {e2:Su} {pre post:IL} {sts:List (Int × Su × Int × Nat)} :
  Pth r up q (hiE (e1++(p,h)::e2)) (sumI pre) (sumI post) sts ->
  Pth r ((pre++(q,e1++(p,h)::e2)::post)::up) p h (kidsI pre++e1) (e2++kidsI post) ((q,e1++(p,h)::e2,nxt post 0,e1.length)::sts)
theorem pth_dn {r:Int} {up:List IL} {p:Int} {h:Bs} {a c:Su} {sts:List (Int × Su × Int × Nat)} (hp:Pth r up p h a c sts):∀{d:List IL} {b:LL},Dn (a++(p,h)::c) d b->Dn [(r,[])] (up.reverse++d) b:=by
 induction hp with
 | top=>intro d b h;exact h
 | @st up q e1 p h e2 pre post sts _ ih =>
  intro d b hd
  have e:kidsI pre++e1++(p,h)::(e2++kidsI post)=kidsI (pre++(q,e1++(p,h)::e2)::post):=by simp [kidsI]
  rw [e] at hd
  have:=Dn.inn _ _ _ hd
  have e':sumI (pre++(q,e1++(p,h)::e2)::post)=sumI pre++(q,hiE (e1++(p,h)::e2))::sumI post:=by simp [sumI]
  rw [e'] at this
  have:=ih this
  rwa [List.reverse_cons,List.append_assoc]
def hlt (a b:Bs):Prop:=a≠[]/\(b=[]∨lt a b=true)
def OrdB (b:LL):Prop:=b.Pairwise fun y z=>hlt y.2.2 z.2.2/\∀x∈z.2.1,lt x.1 y.2.2=false
theorem hlt_trans {a b c:Bs} (h1:hlt a b) (h2:hlt b c):hlt a c:=by
 refine ⟨h1.1,?_⟩
 rcases h2.2 with h | h
 ·exact .inl h
 ·rcases h1.2 with h' | h'
  ·exact absurd h' h2.1
  ·exact .inr (lt_trans h' h)
theorem lt_of_hlt {k a b:Bs} (h:lt k a=true) (h2:hlt a b):b=[]∨lt k b=true:=by
 rcases h2.2 with h' | h'
 ·exact .inl h'
 ·exact .inr (lt_trans h h')
theorem le_trans1 {k a b:Bs} (h:lt k b=false) (h2:lt a b=true):lt k a=false:=by
 cases h':lt k a with
 | false=>rfl
 | true=>rw [lt_trans h' h2] at h;cases h
theorem sums_sub:∀(l:IL),(∀x∈l,x.2≠[])->((sumI l).map (·.2)).Sublist ((kidsI l).map (·.2))
 | [],_=>.slnil
 |(p,e)::l,h=>by
  have ih:=sums_sub l fun x hx=>h x (by simp [hx])
  have he:e≠[]:=h (p,e) (by simp)
  obtain ⟨a',x,rfl⟩:∃a' x,e=a'++[x]:=by
   rcases List.eq_nil_or_concat e with h | ⟨l,x,h⟩
   ·exact absurd h he
   ·exact ⟨l,x,by simpa using h⟩
  have e1:kidsI ((p,a'++[x])::l)=a'++x::kidsI l:=by simp [kidsI]
  have e2:sumI ((p,a'++[x])::l)=(p,x.2)::sumI l:=by
   simp [sumI,hiE]
  rw [e1,e2,List.map_append,List.map_cons,List.map_cons]
  exact (ih.cons_cons _).trans (List.sublist_append_right ..)
theorem encB_len {m:Inn} (h:rightB m=true):(encB m).length<=252:=by
 have h1:=enc_len h
 obtain ⟨_,_,_,h4,_,_,h7⟩:=right_facts h
 unfold sizeN at h1
 omega
theorem encL_le {l:Lf} (h:rightL l=true):(encL l).length<=252:=by
 have g:=goodL h
 have h1:=encL_len l
 have h2:=g.wt;have h3:=g.high
 unfold sizeL at h1
 omega
theorem decI_ok {m:Inn} (h:rightB m=true):pcW qcfg 130 [.str (encB m)]=some (.tup [eI m,.int .i64 0]):=by
 have h1:=enc_len h
 have h2:=encB_len h
 have:=parse_of h 0 (by omega)
 rw [show zer 0=[] from rfl,List.append_nil] at this
 rw [dec_ok _ (by rw [small];omega),this]
 rfl
theorem encB_head {m:Inn} (h:rightB m=true):(encB m)[0]? = some 78:=by
 unfold encB
 rw [if_pos h]
 rfl
theorem decL_no {s:Bs} (hs:s.length<=252) (h:s[0]? = some 78):pcW qcfg 129 [.str s]=some (.tup [eL l00,.int .i64 4]):=by
 have hsm:small s:=by rw [small];omega
 have hr:pcW qcfg 175 [.str s]=some (.tup [.agg [.sl [],.str [],.int .i64 0],.int .i64 0,.bool false]):=by
  refine e175_run _ ?_ (.refl _)
  unfold e175
  obtain ⟨x1,e1,h1⟩:∃x e,getB s 1 1=(x,e):=⟨_,_,rfl⟩
  obtain ⟨x2,e2,h2⟩:∃x e,getB s 2 2=(x,e):=⟨_,_,rfl⟩
  obtain ⟨t,m,e3,h3⟩:∃t m e,textB s 4=(t,m,e):=⟨_,_,_,rfl⟩
  rw [pcK_of (get_eq h1 hsm),d269_mk,pcK_of (get_eq h2 hsm),d269_mk,pcK_of (text_eq h3 hsm),d117_mk]
  cases e1 != (0:Int) with
  | true=>rfl
  | false =>
   cases e2 != (0:Int) with
   | true=>rfl
   | false =>
    cases e3 != (0:Int) with
    | true=>rfl
    | false =>
     rw [cond_false,cond_false,cond_false,idxK_of h]
     rfl
 refine e129_done _ ?_
 unfold e129
 rw [decide_eq_false (by omega),cond_false,pcK_of hr,d241_mk]
 rfl
theorem okF_enc {p:Int} {x:LfX}:∀{pre post:LL} {n:Int},okT okF (pre++(p,x)::post) n->okF x (nxt post n):=fun h=>((okT_app _ _ _).1 h).2.1
theorem okI_enc {p:Int} {x:Su}:∀{pre post:IL} {n:Int},okT okI (pre++(p,x)::post) n->okI x (nxt post n):=fun h=>((okT_app _ _ _).1 h).2.1
theorem mem_enc {α:Type} {f:α->Int->Bs} (pre:List (Int × α)) (p:Int) (x:α) (post:List (Int × α)) (n:Int):(p,f x (nxt post n))∈encT f (pre++(p,x)::post) n:=by
 rw [encT_app,encT];simp
theorem dn_nil {s:Su} {b:LL} (h:Dn s [] b):s=sumL b:=by cases h;rfl
theorem dn_cons {s:Su} {l:IL} {d:List IL} {b:LL} (h:Dn s (l::d) b):s=sumI l/\Dn (kidsI l) d b:=by cases h;exact ⟨rfl,‹_›⟩
theorem cut_sumL {b:LL} {a c:Su} {p:Int} {h:Bs} (e:a++(p,h)::c=sumL b):∃pre prs post,b=pre++(p,prs,h)::post/\a=sumL pre/\c=sumL post:=by
 unfold sumL at e
 obtain ⟨pre,b2,rfl,h1,h2⟩:=List.map_eq_append_iff.1 e.symm
 obtain ⟨x,post,rfl,h3,h4⟩:=List.map_eq_cons_iff.1 h2
 obtain ⟨q,prs,hh⟩:=x
 simp only [Prod.mk.injEq] at h3
 obtain ⟨rfl,rfl⟩:=h3
 exact ⟨pre,prs,post,rfl,h1.symm,h4.symm⟩
theorem cut_sumI {l:IL} {a c:Su} {p:Int} {h:Bs} (e:a++(p,h)::c=sumI l):∃pre x post,l=pre++(p,x)::post/\hiE x=h/\a=sumI pre/\c=sumI post:=by
 unfold sumI at e
 obtain ⟨pre,b2,rfl,h1,h2⟩:=List.map_eq_append_iff.1 e.symm
 obtain ⟨x,post,rfl,h3,h4⟩:=List.map_eq_cons_iff.1 h2
 obtain ⟨q,x⟩:=x
 simp only [Prod.mk.injEq] at h3
 obtain ⟨rfl,rfl⟩:=h3
 exact ⟨pre,x,post,rfl,rfl,h1.symm,h4.symm⟩
def HP (s:Su):Prop:=s.Pairwise fun a b=>hlt a.2 b.2
theorem hp_map {s:Su}:HP s↔(s.map (·.2)).Pairwise hlt:=List.pairwise_map.symm
theorem okT_mem {α:Type} {g:α->Int->Prop}:∀{l:List (Int × α)} {n:Int},okT g l n->∀x∈l,∃m,g x.2 m
 |(p,y)::l,n,h,x,hx=>by
  rcases List.mem_cons.1 hx with rfl | hx
  ·exact ⟨_,h.1⟩
  ·exact okT_mem h.2 x hx
theorem okI_ne {l:IL} {n:Int} (h:okT okI l n):∀x∈l,x.2≠[]:=fun x hx=>let ⟨_,h⟩:=okT_mem h x hx;h.1
theorem hp_sum {l:IL} (hn:∀x∈l,x.2≠[]) (h:HP (kidsI l)):HP (sumI l):=hp_map.2 (List.Pairwise.sublist (sums_sub l hn) (hp_map.1 h))
theorem dn_hp:∀{d:List IL} {s:Su} {b:LL},Dn s d b->(∀l∈d,∀x∈l,x.2≠[])->HP (sumL b)->HP s
 | [],s,b,hd,_,h=>by rw [dn_nil hd];exact h
 | l::d,s,b,hd,hn,h=>by
  obtain ⟨e,hd⟩:=dn_cons hd
  rw [e]
  exact hp_sum (hn l (by simp)) (dn_hp hd (fun l' hl=>hn l' (by simp [hl])) h)
theorem ord_hp {b:LL} (h:OrdB b):HP (sumL b):=by
 unfold HP sumL
 rw [List.pairwise_map]
 exact h.imp fun h=>h.1
theorem kids_le {k:Bs} {pre:IL} (hn:∀x∈pre,x.2≠[]) (hP:HP (kidsI pre)) (h0:∀y∈sumI pre,y.2≠[]) (hk:∀y∈sumI pre,lt k y.2=false):∀y∈kidsI pre,lt k y.2=false:=by
 intro y hy
 obtain ⟨z,hz,hy⟩:=List.mem_flatMap.1 hy
 have hzs:(z.1,hiE z.2)∈sumI pre:=List.mem_map.2 ⟨z,hz,rfl⟩
 have h1:=h0 _ hzs
 have h2:=hk _ hzs
 have hP:HP z.2:=(List.pairwise_flatMap.1 hP).1 z hz
 obtain ⟨a',x,e⟩:∃a' x,z.2=a'++[x]:=by
  rcases List.eq_nil_or_concat z.2 with h | ⟨l,x,h⟩
  ·exact absurd h (hn z hz)
  ·exact ⟨l,x,by simpa using h⟩
 rw [e] at hy hP h1 h2
 have ex:hiE (a'++[x])=x.2:=hiE_app a' (by simp)
 simp only [ex] at h1 h2
 rcases List.mem_append.1 hy with hy | hy
 ·have:=(List.pairwise_append.1 hP).2.2 y hy x (by simp)
  exact le_trans1 h2 (this.2.resolve_left h1)
 ·have:y=x:=by simpa using hy
  rw [this];exact h2
theorem hp_ne {a c:Su} {x:Int × Bs} (h:HP (a++x::c)):∀y∈a,y.2≠[]:=fun y hy=>((List.pairwise_append.1 h).2.2 y hy x (by simp)).1
abbrev tM (r:Int) (n:Nat) (es:Es):List O:=tm r (n:Int) (esV es) (bitsV n (tkn es))
theorem readT_leaf {r:Int} {n:Nat} {es:Es} (h:Shf n es) {p:Int} {l:Lf} (hg:getE es p=some (encL l)) (hr:rightL l=true):icC qcfg cmT 82 [.ptr 0 0 0,.int .i64 p] (tM r n es)=some (mk82 (tM r n es) (psV l.prs,l.high,l.next)):=by
 refine e82_run _ _ _ _ _ (o:=.doneM (.ifc 120 (eL l)) (tM r n es++[O.row 41 [] 0,O.box 120 (eL l) false])) ?_ (.done (by kernel_rfl))
 unfold e82
 rw [icR_of mk58_inj (readS_ok h hg),gdS_eq,ibne_f rfl,cond_false,pcK_of (decL_ok _ hr),d124_mk,ibeq_t rfl,cond_true]
theorem readT_inn {r:Int} {n:Nat} {es:Es} (h:Shf n es) {p:Int} {m:Inn} (hg:getE es p=some (encB m)) (hr:rightB m=true):icC qcfg cmT 82 [.ptr 0 0 0,.int .i64 p] (tM r n es)=some (mk82y (tM r n es) (strs m.seps,ints m.kids,m.high,m.next)):=by
 refine e82_run _ _ _ _ _ (o:=.doneM (.ifc 150 (eI m)) (tM r n es++[O.row 41 [] 0,O.box 120 (eL l00) false,O.row 9 [] 0,O.row 3 [] 0,O.box 150 (eI m) false])) ?_ (.done (by kernel_rfl))
 unfold e82
 rw [icR_of mk58_inj (readS_ok h hg),gdS_eq,ibne_f rfl,cond_false,pcK_of (decL_no (encB_len hr) (encB_head hr)),d124_mk,ibeq_f (by decide),cond_false,pcK_of (decI_ok hr),d187_mk,ibeq_t rfl,cond_true]
section
variable {r:Int} {n:Nat} {es:Es} {p:Int}
theorem rd_leaf (h:Shf n es) {l:Lf} (hg:getE es p=some (encL l)) (hr:rightL l=true) {k:List V × List UInt8 × Int->R} {k2:List V × List V × List UInt8 × Int->R} {k3:Unit->R} :
  icM3 qcfg cmT (mk82 (tM r n es)) (mk82y (tM r n es)) (mk82z (tM r n es)) 82 [.ptr 0 0 0,.int .i64 p] (tM r n es) k k2 k3=k (psV l.prs,l.high,l.next):=icM3_of1 (mk82_inj _) (readT_leaf h hg hr)
theorem rd_inn (h:Shf n es) {m:Inn} (hg:getE es p=some (encB m)) (hr:rightB m=true) {k:List V × List UInt8 × Int->R} {k2:List V × List V × List UInt8 × Int->R} {k3:Unit->R} :
  icM3 qcfg cmT (mk82 (tM r n es)) (mk82y (tM r n es)) (mk82z (tM r n es)) 82 [.ptr 0 0 0,.int .i64 p] (tM r n es) k k2 k3=k2 (strs m.seps,ints m.kids,m.high,m.next):=icM3_of2 (mk82y_inj _) (mk82y_ne _) (readT_inn h hg hr)
theorem wrL_ok (h:Shf n es) {b:Bs} {l:Lf} (hg:getE es p=some b) (hr:rightL l=true):icC qcfg cmT 78 [.ptr 0 0 0,.int .i64 p,.ifc 120 (eL l)] (tM r n es)=some (mk78 (r,n,esV (putE es p (encL l)),bitsV n (tkn (putE es p (encL l))))):=by
 refine e78_run _ _ _ _ _ _ _ _ (o:=.doneM (.tup []) (tM r n (putE es p (encL l))++[O.row 41 [] 0,O.box 120 (eL l) false])) ?_ (.done (by kernel_rfl))
 unfold e78
 rw [pcK_of (encL_ok _ hr),kS_mk,icM_of mk119_inj (writeS_ok h hg (encL_le hr))]
theorem wrI_ok (h:Shf n es) {b:Bs} {m:Inn} (hg:getE es p=some b) (hr:rightB m=true):icC qcfg cmT 78 [.ptr 0 0 0,.int .i64 p,.ifc 150 (eI m)] (tM r n es)=some (mk78 (r,n,esV (putE es p (encB m)),bitsV n (tkn (putE es p (encB m))))):=by
 refine e78b_run _ _ _ _ _ _ _ _ _ (o:=.doneM (.tup []) (tM r n (putE es p (encB m))++[O.row 9 [] 0,O.row 3 [] 0,O.box 150 (eI m) false])) ?_ (.done (by kernel_rfl))
 unfold e78b
 rw [pcK_of (enc_ok _ (right_sm hr)),kS_mk,icM_of mk119_inj (writeS_ok h hg (encB_len hr))]
end
abbrev Stp:=Int × Su × Int × Nat
def stpV (x:Stp):V:=.agg [.int .i64 x.1,.sl (strs (innE x.2.1 x.2.2.1).seps),.sl (ints (innE x.2.1 x.2.2.1).kids),.str (hiE x.2.1),.int .i64 x.2.2.1,.int .i64 (x.2.2.2:Int)]
def stpsV (l:List Stp):List V:=l.map stpV
theorem stps_len (l:List Stp):(stpsV l).length=l.length:=by simp [stpsV]
theorem find_right {m:Inn} {k:Bs} (h:rightB m=true) (hk:keyB k=true) (hh:m.high=[]∨lt k m.high=true):findB m k=(((atB m.seps k:Nat):Int),0):=by
 unfold findB
 rw [if_pos]
 rw [h,hk]
 rcases hh with hh | hh
 ·rw [hh];rfl
 ·rw [hh];simp
inductive WayR (es:Es) (k:Bs):Int->List Stp->Int->Lf->Prop
 | leaf {p:Int} {l:Lf} (hg:getE es p=some (encL l)) (hr:rightL l=true):WayR es k p [] p l
 | inn {p:Int} {e:Su} {nx:Int} {i:Nat} {p':Int} {sts:List Stp} {pl:Int} {l:Lf} (hg:getE es p=some (encB (innE e nx))) (hr:rightB (innE e nx)=true) (hf:findB (innE e nx) k=((i:Int),0)) (hi:(innE e nx).kids[i]? = some p') :
  WayR es k p' sts pl l->WayR es k p ((p,e,nx,i)::sts) pl l
theorem way_ex {r:Int} {n:Nat} {es:Es} (hS:Shf n es) {k:Bs} (hk:keyB k=true) :
  ∀(d:List IL) (b:LL) (up:List IL) (p:Int) (h:Bs) (a c:Su) (sts:List Stp),Pth r up p h a c sts->Dn (a++(p,h)::c) d b->(∀y∈a,lt k y.2=false)->(h=[]∨lt k h=true) ->
  (∀l∈d,okT okI l 0)->okT okF b 0->(∀l∈d,∀x∈encT encI l 0,x∈es)->(∀x∈encT encF b 0,x∈es)->HP (sumL b) ->
  ∃p' h' ws pre prs post,Pth r (d.reverse++up) p' h' (sumL pre) (sumL post) (ws.reverse++sts)/\b=pre++(p',prs,h')::post/\(∀y∈sumL pre,lt k y.2=false)/\(h'=[]∨lt k h'=true)/\ws.length=d.length /\
   WayR es k p ws p' ⟨prs,h',nxt post 0⟩
 | [],b,up,p,h,a,c,sts,hp,hd,ha,hh,_,hF,_,hE,_=>by
  obtain ⟨pre,prs,post,rfl,rfl,rfl⟩:=cut_sumL (dn_nil hd)
  have hr:rightL ⟨prs,h,nxt post 0⟩=true:=okF_enc hF
  have hg:getE es p=some (encL ⟨prs,h,nxt post 0⟩):=get_mem hS.nd (hE _ (mem_enc (f:=encF) pre p (prs,h) post 0))
  exact ⟨p,h,[],pre,prs,post,hp,rfl,ha,hh,rfl,.leaf hg hr⟩
 | l::d,b,up,p,h,a,c,sts,hp,hd,ha,hh,hI,hF,hEI,hE,hP=>by
  have hPs:=dn_hp hd (fun l hl=>okI_ne (hI l hl)) hP
  obtain ⟨e,hdk⟩:=dn_cons hd
  clear hd
  obtain ⟨pre,x,post,rfl,rfl,rfl,rfl⟩:=cut_sumI e
  obtain ⟨hne,hr⟩:okI x (nxt post 0):=okI_enc (hI _ (List.mem_cons_self ..))
  have hg:getE es p=some (encB (innE x (nxt post 0))):=get_mem hS.nd (hEI _ (List.mem_cons_self ..) _ (mem_enc (f:=encI) pre p x post 0))
  obtain ⟨e1,p',h',e2,rfl,h1,h2,h3⟩:=cut_at k x hne
  have hfind:=find_right hr hk hh
  have hfi:findB (innE (e1++(p',h')::e2) (nxt post 0)) k=(((e1.length:Nat):Int),0):=hfind.trans (by rw [h1])
  have hkid:((e1++(p',h')::e2).map (·.1))[e1.length]? = some p':=by simp
  have hk2:kidsI (pre++(p,e1++(p',h')::e2)::post)=kidsI pre++e1++(p',h')::(e2++kidsI post):=by simp [kidsI]
  rw [hk2] at hdk
  have hpre:∀y∈kidsI pre++e1,lt k y.2=false:=by
   intro y hy
   rcases List.mem_append.1 hy with hy | hy
   ·have hPk:=dn_hp hdk (fun l hl=>okI_ne (hI l (by simp [hl]))) hP
    rw [List.append_assoc] at hPk
    exact kids_le (fun x hx=>okI_ne (hI _ (List.mem_cons_self ..)) x (by simp [hx])) (List.pairwise_append.1 hPk).1 (hp_ne hPs) ha y hy
   ·exact h2 y hy
  have hh':h'=[]∨lt k h'=true:=by
   by_cases h2e:e2=[]
   ·subst h2e
    have:hiE (e1++[(p',h')])=h':=(hiE_app e1 (by simp)).trans rfl
    rw [this] at hh
    exact hh
   ·exact .inr (h3 h2e)
  obtain ⟨p2,h2',ws,pre',prs,post',q1,q2,q3,q4,q5,q6⟩:=way_ex hS hk d b _ p' h' _ _ _ (.st hp) hdk hpre hh' (fun l hl=>hI l (by simp [hl])) hF (fun l hl=>hEI l (by simp [hl])) hE hP
  refine ⟨p2,h2',(p,e1++(p',h')::e2,nxt post 0,e1.length)::ws,pre',prs,post',?_,q2,q3,q4,by simp [q5],.inn hg hr hfi hkid q6⟩
  rw [List.reverse_cons,List.append_assoc,List.reverse_cons,List.append_assoc]
  exact q1
theorem way_run {r:Int} {n:Nat} {es:Es} (hS:Shf n es) {k:Bs} {p:Int} {ws:List Stp} {pl:Int} {l:Lf} (h:WayR es k p ws pl l):∀acc:List Stp,acc.length+ws.length<=10000 ->
  Go qk true 5 (fF 75) (.head 0 (T75_0 k p r n (esV es) (bitsV n (tkn es)) (stpsV acc))) (.doneM (.tup [.own 5,.agg [.sl (psV l.prs),.str l.high,.int .i64 l.next],.int .i64 pl]) (tM r n es++[O.row 176 (stpsV (acc++ws)) 0,O.box 120 (.agg [.sl (psV l.prs),.str l.high,.int .i64 l.next]) false])):=by
 induction h with
 | @leaf p l hg hr =>
  intro acc _
  rw [List.append_nil]
  refine s75_0_run _ _ _ _ _ _ _ ?_ (.refl _)
  unfold s75_0
  rw [rd_leaf hS hg hr,gdS_eq]
 | @inn p e nx i p' sts pl l hg hr hf hi _ ih =>
  intro acc ha
  have ih:=ih (acc++[(p,e,nx,i)]) (by simp at ha |-;omega)
  rw [List.append_assoc] at ih
  refine s75_0_run _ _ _ _ _ _ _ ?_ ih
  unfold s75_0
  rw [rd_inn hS hg hr,gdS_eq]
  show (pcK qcfg _ [eI (innE e nx),_] _)=_
  rw [pcK_of (find_ok _ k (right_sm hr)),d103_mk,hf,ibne_f rfl,cond_false,gd_of (decide_eq_true (by rw [stps_len];simp at ha |-;omega)),gd_of (by simp),toNat_cast]
  have hi2:idxK (ints (innE e nx).kids) i=fun k=>k (V.int .i64 p'):=by
   funext kk
   exact idxK_ints hi
  rw [hi2]
  simp only [kI_mk]
  simp [stpsV,stpV]
theorem wayT_ok {r:Int} {n:Nat} {es:Es} (hS:Shf n es) {k:Bs} {ws:List Stp} {pl:Int} {l:Lf} (h:WayR es k r ws pl l) (hw:ws.length<=10000) :
  icC qcfg cmT 75 [.ptr 0 0 0,.str k] (tM r n es)=some (mk75 (tM r n es) (stpsV ws,psV l.prs,l.high,l.next,pl)) :=
 e75_run _ _ _ _ _ rfl ⟨_,_,way_run hS h [] (by simpa using hw),by kernel_rfl⟩
def encU (ups:List IL):Es:=ups.flatMap fun l=>encT encI l 0
structure WT (n:Nat) (r:Int) (es:Es) (ups:List IL) (b:LL):Prop where
 shf:Shf n es
 rep:es.Perm (encU ups++encT encF b 0)
 dn:Dn [(r,[])] ups b
 okI:∀l∈ups,okT okI l 0
 okF:okT okF b 0
 ord:OrdB b
theorem dn_ne:∀{d:List IL} {s:Su} {b:LL},Dn s d b->(∀l∈d,okT okI l 0)->s≠[]->∀l∈d,l≠[]
 | [],_,_,_,_,_=>by simp
 | l::d,s,b,hd,hI,hs=>by
  obtain ⟨e,hdk⟩:=dn_cons hd
  have hl:l≠[]:=by rintro rfl;exact hs e
  intro l' hl'
  rcases List.mem_cons.1 hl' with rfl | hl'
  ·exact hl
  ·refine dn_ne hdk (fun x hx=>hI x (by simp [hx])) ?_ l' hl'
   obtain ⟨x,t,rfl⟩:=List.exists_cons_of_ne_nil hl
   have:=okI_ne (hI _ (List.mem_cons_self ..)) x (by simp)
   intro h0
   rw [kidsI,List.flatMap_cons,List.append_eq_nil_iff] at h0
   exact this h0.1
theorem encT_len {α:Type} {f:α->Int->Bs}:∀(l:List (Int × α)) (n:Int),(encT f l n).length=l.length
 | [],_=>rfl
 |(p,x)::l,n=>by rw [encT,List.length_cons,encT_len l n];rfl
theorem encU_len:∀{ups:List IL},(∀l∈ups,l≠[])->ups.length<=(encU ups).length
 | [],_=>Nat.le_refl _
 | l::ups,h=>by
  have:=encU_len (ups:=ups) fun x hx=>h x (by simp [hx])
  have h1:0 < l.length:=List.length_pos_iff.2 (h l (by simp))
  rw [encU,List.flatMap_cons,List.length_append,encT_len,List.length_cons]
  have e:(encU ups).length=(List.flatMap (fun l=>encT encI l 0) ups).length:=rfl
  omega
theorem ups_len {n:Nat} {r:Int} {es:Es} {ups:List IL} {b:LL} (h:WT n r es ups b):ups.length<=1024:=by
 have h1:=encU_len (dn_ne h.dn h.okI (by simp))
 have h2:=h.rep.length_eq
 have h3:=len_le h.shf
 have h4:=h.shf.le
 rw [List.length_append] at h2
 omega
theorem way_ok {n:Nat} {r:Int} {es:Es} {ups:List IL} {b:LL} (h:WT n r es ups b) {k:Bs} (hk:keyB k=true) :
  ∃p h' ws pre prs post,Pth r ups.reverse p h' (sumL pre) (sumL post) ws.reverse/\b=pre++(p,prs,h')::post/\(∀y∈sumL pre,lt k y.2=false)/\(h'=[]∨lt k h'=true)/\ws.length=ups.length/\WayR es k r ws p ⟨prs,h',nxt post 0⟩:=by
 obtain ⟨p,h',ws,pre,prs,post,q1,q2,q3,q4,q5,q6⟩:=way_ex (r:=r) h.shf hk ups b [] r [] [] [] [] .top h.dn (by simp) (.inl rfl) h.okI h.okF
  (fun l hl x hx=>h.rep.mem_iff.2 (List.mem_append_left _ (List.mem_flatMap.2 ⟨l,hl,hx⟩))) (fun x hx=>h.rep.mem_iff.2 (List.mem_append_right _ hx)) (ord_hp h.ord)
 rw [List.append_nil,List.append_nil] at q1
 exact ⟨p,h',ws,pre,prs,post,q1,q2,q3,q4,q5,q6⟩
theorem szR_le19:∀{l:List Bs},(∀s∈l,keyB s=true)->szR l<=19 * l.length
 | [],_=>Nat.le_refl _
 | s::l,h=>by
  have h1:=key_len (h s (by simp))
  have h2:=szR_le19 (l:=l) fun x hx=>h x (by simp [hx])
  simp only [szR,List.length_cons]
  omega
structure InF (e1:Su) (p:Int) (h:Bs) (e2:Su) (nx:Int) (k:Bs) (to:Int):Prop where
 right:rightB (innE (e1++(p,h)::e2) nx)=true
 key:keyB k=true
 pg:pgB to=true
 lo:∀y∈e1,hlt y.2 k
 hi:h=[]∨lt k h=true
 hp:HP (e1++(p,h)::e2)
theorem hlt_not {a k:Bs} (hk:keyB k=true) (h:hlt a k):lt k a=false:=by
 rcases h.2 with h' | h'
 ·subst h';cases hk
 ·exact lt_asymm h'
theorem in_at {e1:Su} {p:Int} {h:Bs} {e2:Su} {nx:Int} {k:Bs} {to:Int} (f:InF e1 p h e2 nx k to):atB (innE (e1++(p,h)::e2) nx).seps k=e1.length:=by
 refine at_of k e1 p h e2 (fun y hy=>hlt_not f.key (f.lo y hy)) fun hne=>?_
 obtain ⟨y,r,rfl⟩:=List.exists_cons_of_ne_nil hne
 have:HP ((p,h)::y::r):=(List.pairwise_append.1 f.hp).2.1
 have:=(List.pairwise_cons.1 this).1 y (by simp)
 exact f.hi.resolve_left this.1
theorem in_high {e1:Su} {p:Int} {h:Bs} {e2:Su} {nx:Int} {k:Bs} {to:Int} (f:InF e1 p h e2 nx k to):hiE (e1++(p,h)::e2)=[]∨lt k (hiE (e1++(p,h)::e2))=true:=by
 rw [hiE_app _ (by simp)]
 cases e2 with
 | nil=>exact f.hi
 | cons y r =>
  rw [hiE_cons _ (by simp)]
  have h1:HP ((p,h)::y::r):=(List.pairwise_append.1 f.hp).2.1
  obtain ⟨x,hx⟩:∃x,(y::r).getLast? = some x:=⟨_,List.getLast?_eq_some_getLast (by simp)⟩
  have hm:=List.mem_of_getLast? hx
  have e:hiE (y::r)=x.2:=by unfold hiE;rw [List.getLastD_eq_getLast?,hx];rfl
  have:=(List.pairwise_cons.1 h1).1 x hm
  rw [e]
  exact lt_of_hlt (f.hi.resolve_left this.1) this
theorem in_put {e1:Su} {p:Int} {h:Bs} {e2:Su} {nx:Int} {k:Bs} {to:Int} (f:InF e1 p h e2 nx k to) :
  putI (innE (e1++(p,h)::e2) nx) k to=if 23+szR (innE (e1++(p,k)::(to,h)::e2) nx).seps<=252 then (innE (e1++(p,k)::(to,h)::e2) nx,0) else (n00,6):=by
 have ha:=in_at f
 have hf:=find_right f.right f.key (in_high f)
 unfold putI
 rw [hf,ha,if_pos ⟨rfl,f.pg⟩,ins_eq,if_neg]
 ·unfold fitB
  by_cases hz:23+szR (innE (e1++(p,k)::(to,h)::e2) nx).seps<=252
  ·rw [if_pos hz,if_pos (by simpa using hz)]
  ·rw [if_neg hz,if_neg (by simpa using hz)]
 ·rintro ⟨h0,h1⟩
  have hlt1:e1.length - 1 < e1.length:=by omega
  have:(innE (e1++(p,h)::e2) nx).seps[e1.length - 1]? = some e1[e1.length - 1].2:=by
   show ((e1++(p,h)::e2).dropLast.map (·.2))[e1.length - 1]? = _
   rw [drop_last,List.map_append,List.getElem?_append_left (by simpa using hlt1),List.getElem?_map,List.getElem?_eq_getElem hlt1]
   rfl
  rw [this] at h1
  have hm:e1[e1.length - 1]∈e1:=List.getElem_mem hlt1
  have:=f.lo _ hm
  rw [Option.some.inj h1] at this
  rcases this.2 with h' | h'
  ·exact this.1 h'
  ·rw [lt_irr] at h';cases h'
theorem in_right {e1:Su} {p:Int} {h:Bs} {e2:Su} {nx:Int} {k:Bs} {to:Int} (f:InF e1 p h e2 nx k to) (hz:23+szR (innE (e1++(p,k)::(to,h)::e2) nx).seps<=252):rightB (innE (e1++(p,k)::(to,h)::e2) nx)=true:=by
 have ha:=in_at f
 have hf:PutF (innE (e1++(p,h)::e2) nx) k to:=by
  refine ⟨f.right,f.key,?_,f.pg,?_,?_⟩
  ·rcases in_high f with h | h
   ·show (hiE (e1++(p,_)::e2)==[] || _)=true
    rw [h];rfl
   ·show (_ || lt k (hiE (e1++(p,_)::e2)))=true
    rw [h,Bool.or_true]
  ·have:=in_put f
   rw [if_pos hz] at this
   intro hc
   unfold putI at this
   rw [find_right f.right f.key (in_high f),if_pos ⟨rfl,f.pg⟩,if_pos hc] at this
   simp only [Prod.mk.injEq] at this
   exact absurd this.2 (by decide)
  ·rw [ha,ins_eq];unfold fitB;simpa using hz
 have:=put_right hf
 rwa [ha,ins_eq] at this
theorem key_ne {s:Bs} (h:keyB s=true):s≠[]:=by rintro rfl;cases h
theorem in_size (e1:Su) (p:Int) (h:Bs) (e2:Su) (k:Bs) (to nx:Int):szR (innE (e1++(p,k)::(to,h)::e2) nx).seps=szR (innE (e1++(p,h)::e2) nx).seps+(3+k.length):=by
 have:=ins_eq e1 p h e2 k to nx
 rw [<-this]
 show szR ((innE (e1++(p,h)::e2) nx).seps.take e1.length++[k]++(innE (e1++(p,h)::e2) nx).seps.drop e1.length)=_
 have h2:szR (innE (e1++(p,h)::e2) nx).seps=szR ((innE (e1++(p,h)::e2) nx).seps.take e1.length)+szR ((innE (e1++(p,h)::e2) nx).seps.drop e1.length):=by
  rw [<-szR_app,List.take_append_drop]
 rw [szR_app,szR_app,h2]
 simp only [szR]
 omega
theorem hiE_mem {e:Su} (h:e≠[]):∃x∈e,hiE e=x.2:=by
 obtain ⟨a',x,rfl⟩:∃a' x,e=a'++[x]:=by
  rcases List.eq_nil_or_concat e with h' | ⟨l,x,h'⟩
  ·exact absurd h' h
  ·exact ⟨l,x,by simpa using h'⟩
 exact ⟨x,by simp,hiE_app a' (by simp)⟩
theorem hiE_ins (e1:Su) (p:Int) (h:Bs) (c:Su) (k:Bs) (to:Int):hiE (e1++(p,k)::(to,h)::c)=hiE (e1++(p,h)::c):=by
 cases c with
 | nil =>
  have a1:hiE (e1++[(p,h)])=h:=(hiE_app e1 (by simp)).trans rfl
  have a2:hiE (e1++[(p,k),(to,h)])=h:=(hiE_app e1 (by simp)).trans rfl
  exact a2.trans a1.symm
 | cons z c =>
  have a1:hiE (e1++(p,h)::z::c)=hiE (z::c):=(hiE_app e1 (by simp)).trans (hiE_cons _ (by simp))
  have a2:hiE (e1++(p,k)::(to,h)::z::c)=hiE (z::c):=(hiE_app e1 (by simp)).trans ((hiE_cons _ (by simp)).trans (hiE_cons _ (by simp)))
  exact a2.trans a1.symm
structure Two (e:Su) (nx:Int) (k:Bs) (to q:Int) (e' fa fb:Su):Prop where
 cut:e'=fa++fb
 na:fa≠[]
 nb:fb≠[]
 ra:rightB (innE fa (q+1))=true
 rb:rightB (innE fb nx)=true
 mid:keyB (hiE fa)=true
 run:∃ea eb,rightB (innE ea (q+1))=true/\rightB (innE eb nx)=true/\splO (innE e nx) q=(innE ea (q+1),innE eb nx,hiE fa,0) /\
  ((lt k (hiE fa)=true/\putI (innE ea (q+1)) k to=(innE fa (q+1),0)/\eb=fb)∨(lt k (hiE fa)=false/\ea=fa/\putI (innE eb nx) k to=(innE fb nx,0)))
theorem in_two {e1:Su} {p:Int} {h:Bs} {e2:Su} {nx:Int} {k:Bs} {to q:Int} (f:InF e1 p h e2 nx k to) (hz:¬23+szR (innE (e1++(p,k)::(to,h)::e2) nx).seps<=252) (hq:pgB q=true) :
  ∃fa fb,Two (e1++(p,h)::e2) nx k to q (e1++(p,k)::(to,h)::e2) fa fb:=by
 rw [in_size] at hz
 have hkl:=(key_len f.key).2
 obtain ⟨r1,r2,r3,r4,r5,r6,r7⟩:=right_facts f.right
 have h19:=szR_le19 r3
 have hsl:(innE (e1++(p,h)::e2) nx).seps.length=(e1++(p,h)::e2).length - 1:=seps_len
 have h3:3<=(innE (e1++(p,h)::e2) nx).kids.length:=by omega
 obtain ⟨A,mid,B,s1,s2,s3,s4,s5⟩:=split_parts f.right h3
 have hss:=split_right (to:=q) f.right h3 hq
 have hspl:splO (innE (e1++(p,h)::e2) nx) q=(splA (innE (e1++(p,h)::e2) nx) q,splB (innE (e1++(p,h)::e2) nx),mid,0):=by
  unfold splO
  rw [if_pos ⟨f.right,h3,hq⟩,s3]
 have hsz:szR (innE (e1++(p,h)::e2) nx).seps=szR A+(3+mid.length)+szR B:=by
  rw [s1,szR_app];simp only [szR];omega
 have hAl:A.length+B.length+1=(innE (e1++(p,h)::e2) nx).seps.length:=by rw [s1];simp;omega
 have hA4:=szR_ge (l:=A) fun x hx=>r3 x (by rw [s1];simp [hx])
 have hB4:=szR_ge (l:=B) fun x hx=>r3 x (by rw [s1];simp [hx])
 have hmk:keyB mid=true:=r3 mid (by rw [s1];simp)
 have hml:=(key_len hmk).1
 generalize hm:(innE (e1++(p,h)::e2) nx).seps.length / 2+1=m at *
 obtain ⟨ea,hea⟩:∃ea,ea=(e1++(p,h)::e2).take m:=⟨_,rfl⟩
 obtain ⟨eb,heb⟩:∃eb,eb=(e1++(p,h)::e2).drop m:=⟨_,rfl⟩
 have hab:e1++(p,h)::e2=ea++eb:=by rw [hea,heb,List.take_append_drop]
 have hel:ea.length=m:=by rw [hea,List.length_take];omega
 have hbl:eb.length+m=(e1++(p,h)::e2).length:=by rw [heb,List.length_drop];omega
 have hna:ea≠[]:=by rintro rfl;simp at hel;omega
 have hnb:eb≠[]:=by rintro rfl;simp only [List.length_nil,Nat.zero_add] at hbl;omega
 have hsp:=spl_eq ea eb hnb q nx (by rw [<-hab,hm,hel])
 rw [<-hab] at hsp
 have hmid:hiE ea=mid:=by
  have:=congrArg Inn.high hsp.1
  exact this.symm.trans s3
 have hsa:(innE ea (q+1)).seps=A:=by
  have:=congrArg Inn.seps hsp.1
  exact this.symm.trans s4
 have hsb:(innE eb nx).seps=B:=by
  have:=congrArg Inn.seps hsp.2
  rw [<-s5,<-hm]
  exact this.symm
 have hra:rightB (innE ea (q+1))=true:=by rw [<-hsp.1];exact hss.1
 have hrb:rightB (innE eb nx)=true:=by rw [<-hsp.2];exact hss.2
 rw [hsp.1,hsp.2,<-hmid] at hspl
 rw [<-hmid] at hmk hml
 have hHP:=f.hp
 rw [hab] at hHP
 have hHa:HP ea:=(List.pairwise_append.1 hHP).1
 have hHb:HP eb:=(List.pairwise_append.1 hHP).2.1
 rcases List.append_eq_append_iff.1 hab with ⟨c,hc1,hc2⟩ | ⟨c,hc1,hc2⟩
 ·-- ea=e1++c
  cases c with
  | nil =>
   rw [List.append_nil] at hc1
   subst hc1
   rw [List.nil_append] at hc2
   subst hc2
   have f2:InF [] p h e2 nx k to:=⟨hrb,f.key,f.pg,by simp,f.hi,hHb⟩
   have hp2:=in_put f2
   have hz2:23+szR (innE ([]++(p,k)::(to,h)::e2) nx).seps<=252:=by rw [in_size,List.nil_append,hsb];omega
   rw [if_pos hz2] at hp2
   obtain ⟨x,hx,e⟩:=hiE_mem hna
   refine ⟨ea,(p,k)::(to,h)::e2,rfl,hna,by simp,hra,in_right f2 hz2,hmk,ea,(p,h)::e2,hra,hrb,hspl,.inr ⟨?_,rfl,hp2⟩⟩
   rw [e]
   exact hlt_not f.key (f.lo x hx)
  | cons y c =>
   rw [List.cons_append] at hc2
   obtain ⟨rfl,hc3⟩:=List.cons.inj hc2
   clear hc2
   subst hc1
   subst hc3
   have f2:InF e1 p h c (q+1) k to:=⟨hra,f.key,f.pg,f.lo,f.hi,hHa⟩
   have hp2:=in_put f2
   have hz2:23+szR (innE (e1++(p,k)::(to,h)::c) (q+1)).seps<=252:=by rw [in_size,hsa];omega
   rw [if_pos hz2] at hp2
   have hhi:=hiE_ins e1 p h c k to
   refine ⟨e1++(p,k)::(to,h)::c,eb,by simp,by simp,hnb,in_right f2 hz2,hrb,by rw [hhi];exact hmk,e1++(p,h)::c,eb,hra,hrb,by rw [hhi];exact hspl,.inl ⟨?_,hp2,rfl⟩⟩
   rw [hhi]
   exact (in_high f2).resolve_left (key_ne hmk)
 ·-- e1=ea++c
  subst hc1
  subst hc2
  have f2:InF c p h e2 nx k to:=⟨hrb,f.key,f.pg,fun y hy=>f.lo y (by simp [hy]),f.hi,hHb⟩
  have hp2:=in_put f2
  have hz2:23+szR (innE (c++(p,k)::(to,h)::e2) nx).seps<=252:=by rw [in_size,hsb];omega
  rw [if_pos hz2] at hp2
  obtain ⟨x,hx,e⟩:=hiE_mem hna
  refine ⟨ea,c++(p,k)::(to,h)::e2,by simp,hna,by simp,hra,in_right f2 hz2,hmk,ea,c++(p,h)::e2,hra,hrb,hspl,.inr ⟨?_,rfl,hp2⟩⟩
  rw [e]
  exact hlt_not f.key (f.lo x (by simp [hx]))
theorem hp_ins {a c:Su} {p to:Int} {k h:Bs} (hP:HP (a++(p,h)::c)) (hlo:∀y∈a,hlt y.2 k) (hkh:hlt k h):HP (a++(p,k)::(to,h)::c):=by
 obtain ⟨h1,h2,h3⟩:=List.pairwise_append.1 hP
 obtain ⟨h4,h5⟩:=List.pairwise_cons.1 h2
 refine List.pairwise_append.2 ⟨h1,List.pairwise_cons.2 ⟨?_,List.pairwise_cons.2 ⟨h4,h5⟩⟩,?_⟩
 ·intro y hy
  rcases List.mem_cons.1 hy with rfl | hy
  ·exact hkh
  ·exact hlt_trans hkh (h4 y hy)
 ·intro y hy z hz
  rcases List.mem_cons.1 hz with rfl | hz
  ·exact hlo y hy
  ·rcases List.mem_cons.1 hz with rfl | hz
   ·exact h3 y hy (p,h) (by simp)
   ·exact h3 y hy z (by simp [hz])
def bkV:List Stp->List V
 | []=>[]
 | s::r=>.tup [.int .i64 (r.length:Int),stpV s]::bkV r
theorem back_bk:∀sts:List Stp,(backsR (stpsV sts.reverse)).map V.tup=bkV sts
 | []=>rfl
 | s::r=>by
  have ih:=back_bk r
  unfold backsR at ih |-
  rw [List.reverse_cons,stpsV,List.map_append,List.zipIdx_append,List.map_append,List.reverse_append,List.map_append]
  rw [stpsV] at ih
  rw [ih]
  simp [bkV]
theorem back_ok (sts:List Stp) (h:sts.length<=16777216):backP [.ref (.sl (stpsV sts.reverse)) 0]=some (backsR (stpsV sts.reverse)):=by
 refine if_pos ⟨by rw [stps_len,List.length_reverse];exact h,?_⟩
 rw [List.all_eq_true]
 intro x hx
 obtain ⟨s,_,rfl⟩:=List.mem_map.1 hx
 rfl
theorem encU_cons (l:IL) (up:List IL):encU (l::up)=encT encI l 0++encU up:=rfl
theorem at_perm {es R:Es} {pre post:IL} {q:Int} {x:Su} {up:List IL} {X:Es} (h:es.Perm (encU ((pre++(q,x)::post)::up)++X)):es.Perm ((q,encI x (nxt post 0))::(encT encI pre (q+1)++encT encI post 0++(encU up++X))):=by
 rw [encU_cons,encT_app,encT] at h
 refine h.trans ?_
 simp only [List.append_assoc,List.cons_append]
 exact List.perm_middle
structure UpF (n:Nat) (r:Int) (es:Es) (up:List IL) (d:List IL) (b:LL) (X:Es) (p to:Int) (k h:Bs) (a c:Su):Prop where
 shf:Shf n es
 dn:Dn (a++(p,k)::(to,h)::c) d b
 hp:HP (a++(p,h)::c)
 lo:∀y∈a,hlt y.2 k
 hi:h=[]∨lt k h=true
 key:keyB k=true
 pg:pgB p=true
 pgt:pgB to=true
 okI:∀l∈up,okT okI l 0
 rep:es.Perm (encU up++X)
 room:es.length+up.length+1<=n
theorem get_put {p q:Int} {x:Bs}:∀{es:Es},getE (putE es p x) q=if q=p then some x else getE es q
 | []=>by
  show (if q=p then some x else none)=_
  rfl
 |(a,y)::es=>by
  rw [putE]
  by_cases h:p=a
  ·subst h
   rw [if_pos rfl,getE,getE]
   by_cases e:q=p
   ·rw [if_pos e,if_pos e]
   ·rw [if_neg e,if_neg e,if_neg e]
  ·rw [if_neg h,getE,getE,get_put]
   by_cases e:q=a
   ·rw [if_pos e,if_pos e,if_neg fun e2=>h (e2.symm.trans e)]
   ·rw [if_neg e,if_neg e]
theorem get_put_eq {p:Int} {x:Bs} {es:Es}:getE (putE es p x) p=some x:=by rw [get_put,if_pos rfl]
theorem get_put_ne {p q:Int} {x:Bs} {es:Es} (h:q≠p):getE (putE es p x) q=getE es q:=by rw [get_put,if_neg h]
theorem get_key {es:Es} {p:Int} {b:Bs} (h:getE es p=some b):p∈keysE es:=Classical.byContradiction fun q=>by rw [get_none.2 q] at h;cases h
inductive UpR (n:Nat) (r:Int):Es->List Stp->Bs->Int->Int->Int->Es->Prop
 | top {es:Es} {k:Bs} {p to:Int} {j:Nat} (hs:Shf n es) (hf:firstF n (tkn es)=some j) (hj:j < n) (hq:(j:Int)∉keysE es) (hr:rightB (innE [(p,k),(to,[])] 0)=true) :
  UpR n r es [] k p to j (putE (putE es j []) j (encB (innE [(p,k),(to,[])] 0)))
 | room {es:Es} {sts:List Stp} {k:Bs} {p to q:Int} {e:Su} {nx:Int} {i:Nat} {e':Su} (hs:Shf n es) (hg:getE es q=some (encB (innE e nx))) (hr:rightB (innE e nx)=true) (hk:keyB k=true) (hp:putI (innE e nx) k to=(innE e' nx,0)) (hr':rightB (innE e' nx)=true) :
  UpR n r es ((q,e,nx,i)::sts) k p to r (putE es q (encB (innE e' nx)))
 | two {es:Es} {sts:List Stp} {k:Bs} {p to q:Int} {e:Su} {nx:Int} {i j:Nat} {ea eb fa fb:Su} {r':Int} {es':Es} (hs:Shf n es) (hg:getE es q=some (encB (innE e nx))) (hr:rightB (innE e nx)=true) (hk:keyB k=true) (hp:putI (innE e nx) k to=(n00,6))
  (hf:firstF n (tkn es)=some j) (hj:j < n) (hq:(j:Int)∉keysE es) (hra:rightB (innE ea ((j:Int)+1))=true) (hrb:rightB (innE eb nx)=true) (rfa:rightB (innE fa ((j:Int)+1))=true) (rfb:rightB (innE fb nx)=true)
  (hspl:splO (innE e nx) j=(innE ea ((j:Int)+1),innE eb nx,hiE fa,0)) (hcase:(lt k (hiE fa)=true/\putI (innE ea ((j:Int)+1)) k to=(innE fa ((j:Int)+1),0)/\eb=fb)∨(lt k (hiE fa)=false/\ea=fa/\putI (innE eb nx) k to=(innE fb nx,0))) :
  UpR n r (putE (putE (putE es j []) q (encB (innE fa ((j:Int)+1)))) j (encB (innE fb nx))) sts (hiE fa) q j r' es'->UpR n r es ((q,e,nx,i)::sts) k p to r' es'
def UpRun (n:Nat) (r:Int) (es:Es) (k:Bs) (p to:Int) (sts:List Stp) (r':Int) (es':Es):Prop :=
 ∃m,Go qk true 5 (fF 123) (.head 0 (T123_0 (bkV sts) r n (esV es) (bitsV n (tkn es)) k p to)) (.doneM (.tup []) m)/\∀r0 n0 e0 b0,canNorm cmT (tm r0 n0 e0 b0) (.tup []) m=mk123 (r',n,esV es',bitsV n (tkn es'))
def Rt2 (up:List IL):Prop:=∀l,up.getLast? = some l->∀x∈l,2<=x.2.length
def UpTo (n:Nat) (r:Int) (es:Es) (up:List IL) (k:Bs) (p to:Int) (sts:List Stp) (d:List IL) (b:LL) (X:Es):Prop :=
 ∃r' up' es',Shf n es'/\Dn [(r',[])] (up'.reverse++d) b/\(∀l∈up',okT okI l 0)/\es'.Perm (encU up'++X)/\up'≠[]/\(Rt2 up->Rt2 up')/\UpR n r es sts k p to r' es'
theorem upRun_of {n:Nat} {r:Int} {es:Es} {k:Bs} {p to:Int} {sts:List Stp} {r':Int} {es':Es} {m:List O} (h:s123_0 (bkV sts) r n (esV es) (bitsV n (tkn es)) k p to=some (.doneM (.tup []) m))
  (hc:∀r0 n0 e0 b0,canNorm cmT (tm r0 n0 e0 b0) (.tup []) m=mk123 (r',n,esV es',bitsV n (tkn es'))):UpRun n r es k p to sts r' es' :=
 ⟨m,s123_0_run _ _ _ _ _ _ _ _ h (.refl _),hc⟩
theorem perm4 (A B U X:Es):(A++B++(U++X)).Perm (U++(A++(B++X))):=by
 rw [<-List.append_assoc (A++B),<-List.append_assoc A,<-List.append_assoc U]
 exact List.Perm.append_right X List.perm_append_comm
theorem put_len {es:Es} {p:Int} {b:Bs} (h:p∉keysE es):(putE es p b).length=es.length+1:=by rw [put_new h];simp
theorem put_len2 {es:Es} {p:Int} {b:Bs} (h:p∈keysE es):(putE es p b).length=es.length:=by
 have:=congrArg List.length (put_keys (b:=b) h)
 simpa [keysE] using this
theorem mem_keys {es R:Es} {p:Int} {b:Bs} (h:es.Perm ((p,b)::R)):p∈keysE es:=List.mem_map.2 ⟨(p,b),h.mem_iff.2 (List.mem_cons_self ..),rfl⟩
theorem key_hlt {k h:Bs} (hk:keyB k=true) (h1:h=[]∨lt k h=true):hlt k h:=⟨key_ne hk,h1⟩
theorem shf_pg {n:Nat} {es:Es} (h:Shf n es) {p:Int} (hp:p∈keysE es):pgB p=true:=by
 have:=h.rng p hp
 have:=h.le
 unfold pgB
 rw [decide_eq_true (by omega),decide_eq_true (by omega)];rfl
theorem root_right {p to:Int} {k:Bs} (hk:keyB k=true) (hp:pgB p=true) (ht:pgB to=true):rightB (innE [(p,k),(to,[])] 0)=true:=by
 have hkl:=key_len hk
 refine right_iff.2 ⟨rfl,?_,?_,rfl,?_⟩
 ·intro x hx
  have:x=p∨x=to:=by simpa using hx
  rcases this with rfl | rfl<;>assumption
 ·show riseB [] [k]=true
  unfold riseB
  rw [hk,key_lt_nil hk];rfl
 ·refine end_iff.2 ⟨Int.le_refl 0,(by decide:(0:Int)<=1024),?_⟩
  show 23+szR [k]<=252
  simp only [szR];omega
theorem up_ex {n:Nat} {r:Int} {up:List IL} {p:Int} {h:Bs} {a c:Su} {sts:List Stp} (hp:Pth r up p h a c sts):∀{k:Bs} {to:Int} {es:Es} {d:List IL} {b:LL} {X:Es},UpF n r es up d b X p to k h a c->UpTo n r es up k p to sts d b X:=by
 induction hp with
 | top =>
  intro k to es d b X f
  obtain ⟨q,hq,hf,hq2⟩:=free_page f.shf (by have:=f.room;simp at this;omega)
  have hqn:((q:Int))∉keysE es:=hq2
  have hs1:=shf_new f.shf (b:=[]) hq hq2
  have hr:=root_right f.key f.pg f.pgt
  have hg:getE (putE es q []) q=some []:=get_perm hs1.nd ((put_new hq2 ▸ (List.perm_append_comm:(es++[((q:Int),[])]).Perm _):(putE es q []).Perm (((q:Int),[])::es)))
  have hpm:(putE es q []).Perm (((q:Int),[])::es):=by rw [put_new hq2];exact List.perm_append_comm
  have hpm2:=put_perm (b':=encB (innE [(r,k),(to,[])] 0)) hs1.nd hpm
  refine ⟨q,[[((q:Int),[(r,k),(to,[])])]],putE (putE es q []) q (encB (innE [(r,k),(to,[])] 0)),shf_put hs1 (mem_keys hpm),?_,?_,?_,?_,?_,?_⟩
  ·have e:Dn (kidsI [((q:Int),[(r,k),(to,[])])]) d b:=f.dn
   exact Dn.inn _ _ _ e
  ·intro l hl
   have:l=[((q:Int),[(r,k),(to,[])])]:=by simpa using hl
   rw [this]
   exact ⟨⟨by simp,hr⟩,trivial⟩
  ·refine hpm2.trans ?_
   refine List.Perm.cons _ ?_
   exact f.rep
  ·simp
  ·intro _ l hl x hx
   have:l=[((q:Int),[(r,k),(to,[])])]:=by simpa using hl.symm
   subst this
   have:x=((q:Int),[(r,k),(to,[])]):=by simpa using hx
   subst this;simp
  ·exact .top f.shf hf hq hq2 hr
 | @st up q e1 p h e2 pre post sts hup ih =>
  intro k to es d b X f
  obtain ⟨hne,hr⟩:okI (e1++(p,h)::e2) (nxt post 0):=okI_enc (f.okI _ (List.mem_cons_self ..))
  have hat:=at_perm (R:=[]) f.rep
  have hqk:=mem_keys hat
  have hgq:=get_perm f.shf.nd hat
  obtain ⟨ok1,_,ok2⟩:=(okT_app _ _ _).1 (f.okI _ (List.mem_cons_self ..))
  have hkh:=key_hlt f.key f.hi
  have hPn:HP (kidsI pre++e1++(p,k)::(to,h)::(e2++kidsI post)):=hp_ins f.hp f.lo hkh
  have hPe:HP (e1++(p,h)::e2):=by
   have:=f.hp
   rw [List.append_assoc] at this
   have:=(List.pairwise_append.1 this).2.1
   have e:e1++(p,h)::(e2++kidsI post)=(e1++(p,h)::e2)++kidsI post:=by simp
   rw [e] at this
   exact (List.pairwise_append.1 this).1
  have hin:InF e1 p h e2 (nxt post 0) k to:=⟨hr,f.key,f.pgt,fun y hy=>f.lo y (by simp [hy]),f.hi,hPe⟩
  have hput:=in_put hin
  by_cases hz:23+szR (innE (e1++(p,k)::(to,h)::e2) (nxt post 0)).seps<=252
  ·-- it has room
   rw [if_pos hz] at hput
   have hr2:=in_right hin hz
   have hsh:=shf_put f.shf (b:=encB (innE (e1++(p,k)::(to,h)::e2) (nxt post 0))) hqk
   have hpm:=put_perm (b':=encB (innE (e1++(p,k)::(to,h)::e2) (nxt post 0))) f.shf.nd hat
   refine ⟨r,(pre++(q,e1++(p,k)::(to,h)::e2)::post)::up,_,hsh,?_,?_,?_,?_,?_,?_⟩
   ·have e:kidsI pre++e1++(p,k)::(to,h)::(e2++kidsI post)=kidsI (pre++(q,e1++(p,k)::(to,h)::e2)::post):=by simp [kidsI]
    have hd:=f.dn
    rw [e] at hd
    have:=Dn.inn _ _ _ hd
    have e':sumI (pre++(q,e1++(p,k)::(to,h)::e2)::post)=sumI pre++(q,hiE (e1++(p,h)::e2))::sumI post:=by simp [sumI,hiE_ins]
    rw [e'] at this
    have:=pth_dn hup this
    rwa [List.reverse_cons,List.append_assoc]
   ·intro l hl
    rcases List.mem_cons.1 hl with rfl | hl
    ·exact (okT_app _ _ _).2 ⟨ok1,⟨by simp,hr2⟩,ok2⟩
    ·exact f.okI l (by simp [hl])
   ·refine hpm.trans ?_
    rw [encU_cons,encT_app,encT]
    simp only [List.append_assoc,List.cons_append]
    exact List.perm_middle.symm
   ·simp
   ·intro h2 l hl x hx
    cases up with
    | nil =>
     have:l=pre++(q,e1++(p,k)::(to,h)::e2)::post:=by simpa using hl.symm
     subst this
     have h2:=h2 _ rfl
     rcases List.mem_append.1 hx with hx | hx
     ·exact h2 x (by simp [hx])
     ·rcases List.mem_cons.1 hx with rfl | hx
      ·simp;omega
      ·exact h2 x (by simp [hx])
    | cons y up=>exact h2 l (by simpa using hl) x hx
   ·exact .room f.shf hgq hr f.key hput hr2
  ·-- it is two
   rw [if_neg hz] at hput
   obtain ⟨j,hj,hjf,hj2⟩:=free_page f.shf (by have:=f.room;simp at this;omega)
   have hs1:=shf_new f.shf (b:=[]) hj hj2
   have hjr:=shf_pg hs1 (p:=(j:Int)) (by rw [keys_new hj2];simp)
   obtain ⟨fa,fb,t⟩:=in_two hin hz hjr
   obtain ⟨ea,eb,hra,hrb,hspl,hcase⟩:=t.run
   have hqj:(q:Int)≠(j:Int):=fun e=>hj2 (e ▸ hqk)
   have hp1:(putE es j []).Perm ((q,encI (e1++(p,h)::e2) (nxt post 0))::(((j:Int),[])::(encT encI pre (q+1)++encT encI post 0++(encU up++X)))):=by
    rw [put_new hj2]
    exact List.perm_append_comm.trans ((List.Perm.cons _ hat).trans (List.Perm.swap ..))
   have hg1:=get_perm hs1.nd hp1
   have hp2:=put_perm (b':=encB (innE fa ((j:Int)+1))) hs1.nd hp1
   have hs2:=shf_put hs1 (b:=encB (innE fa ((j:Int)+1))) (mem_keys hp1)
   have hp2':=hp2.trans (List.Perm.swap ..)
   have hg2:=get_perm hs2.nd hp2'
   have hp3:=put_perm (b':=encB (innE fb (nxt post 0))) hs2.nd hp2'
   have hs3:=shf_put hs2 (b:=encB (innE fb (nxt post 0))) (mem_keys hp2')
   have hlen3:(putE (putE (putE es j []) q (encB (innE fa ((j:Int)+1)))) j (encB (innE fb (nxt post 0)))).length=es.length+1:=by
    rw [put_len2 (mem_keys hp2'),put_len2 (mem_keys hp1),put_len hj2]
   have hfe:hiE fb=hiE (e1++(p,h)::e2):=by
    rw [<-hiE_ins e1 p h e2 k to,t.cut,hiE_app _ t.nb]
   have ek:kidsI pre++e1++(p,k)::(to,h)::(e2++kidsI post)=kidsI (pre++(q,fa)::(j,fb)::post):=by
    have e0:kidsI (pre++(q,fa)::(j,fb)::post)=kidsI pre++((fa++fb)++kidsI post):=by simp [kidsI]
    rw [e0,<-t.cut];simp
   have es1:sumI (pre++(q,fa)::((j:Int),fb)::post)=sumI pre++(q,hiE fa)::((j:Int),hiE (e1++(p,h)::e2))::sumI post:=by simp [sumI,hfe]
   have hd:=f.dn
   rw [ek] at hd hPn
   have hd:=Dn.inn _ _ _ hd
   rw [es1] at hd
   have hokl:okT okI (pre++(q,fa)::((j:Int),fb)::post) 0:=(okT_app _ _ _).2 ⟨ok1,⟨t.na,t.ra⟩,⟨t.nb,t.rb⟩,ok2⟩
   have hPs:=hp_sum (okI_ne hokl) hPn
   rw [es1] at hPs
   have hPo:HP (sumI pre++(q,hiE (e1++(p,h)::e2))::sumI post):=by
    have e0:kidsI pre++e1++(p,h)::(e2++kidsI post)=kidsI (pre++(q,e1++(p,h)::e2)::post):=by simp [kidsI]
    have h0:=f.hp
    rw [e0] at h0
    have:=hp_sum (okI_ne (f.okI _ (List.mem_cons_self ..))) h0
    have e':sumI (pre++(q,e1++(p,h)::e2)::post)=sumI pre++(q,hiE (e1++(p,h)::e2))::sumI post:=by simp [sumI]
    rwa [e'] at this
   have hlo:∀y∈sumI pre,hlt y.2 (hiE fa):=fun y hy=>(List.pairwise_append.1 hPs).2.2 y hy (q,hiE fa) (by simp)
   have hhi:hlt (hiE fa) (hiE (e1++(p,h)::e2)):=(List.pairwise_cons.1 (List.pairwise_append.1 hPs).2.1).1 ((j:Int),hiE (e1++(p,h)::e2)) (by simp)
   have hf2:UpF n r (putE (putE (putE es j []) q (encB (innE fa ((j:Int)+1)))) j (encB (innE fb (nxt post 0)))) up ((pre++(q,fa)::((j:Int),fb)::post)::d) b (encT encI (pre++(q,fa)::((j:Int),fb)::post) 0++X) q j (hiE fa) (hiE (e1++(p,h)::e2)) (sumI pre) (sumI post):=by
    refine ⟨hs3,hd,hPo,hlo,hhi.2,t.mid,shf_pg f.shf hqk,hjr,fun l hl=>f.okI l (by simp [hl]),?_,by have:=f.room;rw [hlen3];simp at this |-;omega⟩
    refine hp3.trans ?_
    rw [encT_app,encT,encT]
    refine ((List.Perm.swap ..).trans ?_)
    have h1:(encU up++(encT encI pre (q+1)++(q,encI fa ((j:Int)+1))::((j:Int),encI fb (nxt post 0))::encT encI post 0++X)).Perm ((q,encI fa ((j:Int)+1))::((j:Int),encI fb (nxt post 0))::(encU up++(encT encI pre (q+1)++(encT encI post 0++X)))):=by
     have e0:encU up++(encT encI pre (q+1)++(q,encI fa ((j:Int)+1))::((j:Int),encI fb (nxt post 0))::encT encI post 0++X)=(encU up++encT encI pre (q+1))++(q,encI fa ((j:Int)+1))::((j:Int),encI fb (nxt post 0))::(encT encI post 0++X):=by simp
     rw [e0]
     refine List.perm_middle.trans (List.Perm.cons _ (List.perm_middle.trans (List.Perm.cons _ ?_)))
     rw [List.append_assoc]
    refine List.Perm.trans ?_ h1.symm
    refine List.Perm.cons _ (List.Perm.cons _ ?_)
    exact perm4 _ _ _ _
   obtain ⟨r',up',es',g1,g2,g3,g4,g5,g6,g7⟩:=ih hf2
   refine ⟨r',(pre++(q,fa)::((j:Int),fb)::post)::up',es',g1,?_,?_,?_,?_,?_,?_⟩
   ·rw [List.reverse_cons,List.append_assoc];exact g2
   ·intro l hl
    rcases List.mem_cons.1 hl with rfl | hl
    ·exact hokl
    ·exact g3 l hl
   ·refine g4.trans ?_
    rw [encU_cons,<-List.append_assoc]
    exact List.Perm.append_right X List.perm_append_comm
   ·simp
   ·intro h2 l hl x hx
    obtain ⟨z,up2,rfl⟩:=List.exists_cons_of_ne_nil g5
    refine g6 ?_ l (by simpa using hl) x hx
    cases up with
    | nil=>intro l hl;cases hl
    | cons y up=>intro l hl;exact h2 l (by simpa using hl)
   ·exact .two f.shf hgq hr f.key hput hjf hj hj2 hra hrb t.ra t.rb hspl hcase g7
theorem up_run {n:Nat} {r:Int} {es:Es} {k:Bs} {p to:Int} {sts:List Stp} {r':Int} {es':Es} (h:UpR n r es sts k p to r' es'):UpRun n r es k p to sts r' es':=by
 induction h with
 | @top es k p to j hs hf hj hq hr =>
  have hs1:=shf_new hs (b:=[]) hj hq
  apply upRun_of
  case h =>
   unfold s123_0
   rw [show bkV []=[] from rfl,restK_nil,icM_of mk84_inj (takeS_ok hs hf hq)]
   show (icM qcfg _ _ _ [_,_,.ifc 150 (eI (innE [(p,k),(to,[])] 0))] (tM j n (putE es j [])) _)=_
   rw [icM_of mk78_inj (wrI_ok hs1 get_put_eq hr)]
   try exact rfl
  case hc=>intro r0 n0 e0 b0;kernel_rfl
 | @room es sts k p to q e nx i e' hs hg hr hk hp hr' =>
  have hpc:=putI_ok (innE e nx) k to (right_sm hr) (by have:=(key_len hk).2;omega)
  have hst:stpV (q,e,nx,i) = .agg [.int .i64 q,.sl (strs (innE e nx).seps),.sl (ints (innE e nx).kids),.str (hiE e),.int .i64 nx,.int .i64 (i:Int)]:=rfl
  apply upRun_of
  case h =>
   unfold s123_0
   simp only [bkV,restK_cons,kT_mk,unc_mk,kI_mk,unn_mk,hst,d176_mk]
   show (pcK qcfg _ [eI (innE e nx),_,_] _)=_
   rw [pcK_of hpc,hp,d187_mk,ibeq_t rfl,cond_true]
   show (icM qcfg _ _ _ [_,_,.ifc 150 (eI (innE e' nx))] (tM r n es) _)=_
   rw [icM_of mk78_inj (wrI_ok hs hg hr')]
   try exact rfl
  case hc=>intro r0 n0 e0 b0;kernel_rfl
 | @two es sts k p to q e nx i j ea eb fa fb r' es' hs hg hr hk hp hf hj hq hra hrb rfa rfb hspl hcase _ ih =>
  obtain ⟨m,g5,g6⟩:=ih
  have hpc:=putI_ok (innE e nx) k to (right_sm hr) (by have:=(key_len hk).2;omega)
  have hst:stpV (q,e,nx,i) = .agg [.int .i64 q,.sl (strs (innE e nx).seps),.sl (ints (innE e nx).kids),.str (hiE e),.int .i64 nx,.int .i64 (i:Int)]:=rfl
  have hsc:=splI_ok (innE e nx) j (right_sm hr)
  rw [hspl] at hsc
  have hs1:=shf_new hs (b:=[]) hj hq
  have hqj:q≠(j:Int):=fun e=>hq (e ▸ get_key hg)
  have hg1:getE (putE es j []) q=some _:=(get_put_ne hqj).trans hg
  have hs2:=shf_put hs1 (b:=encB (innE fa ((j:Int)+1))) (get_key hg1)
  have hg2:getE (putE (putE es j []) q (encB (innE fa ((j:Int)+1)))) j=some []:=(get_put_ne hqj.symm).trans get_put_eq
  refine ⟨m,s123_0_run _ _ _ _ _ _ _ _ ?_ g5,g6⟩
  unfold s123_0
  simp only [bkV,restK_cons,kT_mk,unc_mk,kI_mk,unn_mk,hst,d176_mk]
  show (pcK qcfg _ [eI (innE e nx),_,_] _)=_
  rw [pcK_of hpc,hp,d187_mk,ibeq_f (by decide),cond_false,icM_of mk84_inj (takeS_ok hs hf hq)]
  show (pcK qcfg _ [eI (innE e nx),_] _)=_
  rw [pcK_of hsc,d235_mk]
  rcases hcase with ⟨hl,hpa,rfl⟩ | ⟨hl,rfl,hpb⟩
  ·have hpc2:=putI_ok (innE ea ((j:Int)+1)) k to (right_sm hra) (by have:=(key_len hk).2;omega)
   rw [hpa] at hpc2
   have hl':Op.bytesLess k (hiE fa)=true:=hl
   rw [hl',cond_true]
   show (pcK qcfg _ [eI (innE ea ((j:Int)+1)),_,_] _)=_
   rw [pcK_of hpc2,d187_mk]
   show (icM qcfg _ _ _ [_,_,.ifc 150 (eI (innE fa ((j:Int)+1)))] (tM r n (putE es j [])) _)=_
   rw [icM_of mk78_inj (wrI_ok hs1 hg1 rfa)]
   show (icM qcfg _ _ _ [_,_,.ifc 150 (eI (innE eb nx))] (tM r n (putE (putE es j []) q (encB (innE fa ((j:Int)+1))))) _)=_
   rw [icM_of mk78_inj (wrI_ok hs2 hg2 rfb)]
  ·have hpc2:=putI_ok (innE eb nx) k to (right_sm hrb) (by have:=(key_len hk).2;omega)
   rw [hpb] at hpc2
   have hl':Op.bytesLess k (hiE ea)=false:=hl
   rw [hl',cond_false]
   show (pcK qcfg _ [eI (innE eb nx),_,_] _)=_
   rw [pcK_of hpc2,d187_mk]
   show (icM qcfg _ _ _ [_,_,.ifc 150 (eI (innE ea ((j:Int)+1)))] (tM r n (putE es j [])) _)=_
   rw [icM_of mk78_inj (wrI_ok hs1 hg1 rfa)]
   show (icM qcfg _ _ _ [_,_,.ifc 150 (eI (innE fb nx))] (tM r n (putE (putE es j []) q (encB (innE ea ((j:Int)+1))))) _)=_
   rw [icM_of mk78_inj (wrI_ok hs2 hg2 rfb)]
structure LfOk (prs:List Pr) (h:Bs):Prop where
 ri:prs.Pairwise fun x y=>lt x.1 y.1=true
 mem:∀x∈prs,keyB x.1=true/\valB x.2=true
 hi:h=[]∨(keyB h=true/\∀x∈prs,lt x.1 h=true)
 wt:wts prs<=231
theorem rises_iff {l:List Pr}:Rises (keysL l)↔l.Pairwise fun x y=>lt x.1 y.1=true:=List.pairwise_map
theorem riseP_of:∀{l:List Pr} {p:Bs},(l.Pairwise fun x y=>lt x.1 y.1=true)->(∀x∈l,keyB x.1=true/\valB x.2=true)->(∀x∈l,lt p x.1=true)->riseP p l=true
 | [],_,_,_,_=>rfl
 | x::l,p,h1,h2,h3=>by
  obtain ⟨h4,h5⟩:=List.pairwise_cons.1 h1
  have ih:=riseP_of (p:=x.1) h5 (fun y hy=>h2 y (by simp [hy])) h4
  obtain ⟨q1,q2⟩:=h2 x (by simp)
  unfold riseP
  rw [q1,q2,h3 x (by simp),ih];rfl
theorem lastK_of {l:List Pr} {h:Bs} (hk:keyB h=true) (ha:∀x∈l,lt x.1 h=true):lt (lastK [] l) h=true:=by
 rcases List.eq_nil_or_concat l with rfl | ⟨a,x,rfl⟩
 ·exact key_lt_nil hk
 ·have:lastK [] (a.concat x)=x.1:=by simp [lastK]
  rw [this];exact ha x (by simp)
theorem rightL_of {prs:List Pr} {h:Bs} {nx:Int} (o:LfOk prs h) (h0:0<=nx) (h1:nx<=1024):rightL ⟨prs,h,nx⟩=true:=by
 refine rightL_iff.2 ⟨riseP_of o.ri o.mem fun x hx=>key_lt_nil (o.mem x hx).1,?_,h0,h1,o.wt⟩
 unfold highB
 rcases o.hi with h | ⟨hk,ha⟩
 ·simp only [h];rfl
 ·simp only [hk,lastK_of hk ha];simp
theorem lfOk_of {prs:List Pr} {h:Bs} {nx:Int} (o:rightL ⟨prs,h,nx⟩=true):LfOk prs h/\0<=nx/\nx<=1024:=by
 have g:=goodL o
 obtain ⟨h1,h2,h3,h4,h5⟩:=rightL_iff.1 o
 have hr:=rises_iff.1 g.ri
 refine ⟨⟨hr,g.mem,?_,h5⟩,h3,h4⟩
 simp only [highB,Bool.or_eq_true,Bool.and_eq_true] at h2
 rcases h2 with h2 | ⟨h2,h6⟩
 ·exact .inl (by simpa using h2)
 ·refine .inr ⟨h2,fun x hx=>?_⟩
  rcases List.eq_nil_or_concat prs with rfl | ⟨a,y,rfl⟩
  ·cases hx
  ·have e:lastK [] (a.concat y)=y.1:=by simp [lastK]
   rw [e] at h6
   rw [List.concat_eq_append] at hx hr
   rcases List.mem_append.1 hx with hx | hx
   ·exact lt_trans ((List.pairwise_append.1 hr).2.2 x hx y (by simp)) h6
   ·have:x=y:=by simpa using hx
    rw [this];exact h6
theorem take_lt {l:List Pr} (hr:Rises (keysL l)) (k:Bs):∀x∈l.take (lbS (keysL l) k),lt x.1 k=true:=by
 intro x hx
 obtain ⟨i,hi⟩:=List.getElem?_of_mem hx
 rw [List.getElem?_take] at hi
 split at hi
 ·exact (lbS_iff hr k (keys_get hi)).2 ‹_›
 ·cases hi
theorem drop_gt {l:List Pr} (hr:Rises (keysL l)) (k:Bs):∀x∈l.drop (if hasS (keysL l) k then lbS (keysL l) k+1 else lbS (keysL l) k),lt k x.1=true:=by
 intro x hx
 obtain ⟨i,hi⟩:=List.getElem?_of_mem hx
 rw [List.getElem?_drop] at hi
 have hp:=rises_iff.1 hr
 have hat:∀{a b:Nat} {y z:Pr},l[a]? = some y->l[b]? = some z->a < b->lt y.1 z.1=true:=by
  intro a b y z ha hb hab
  obtain ⟨h1,rfl⟩:=List.getElem?_eq_some_iff.1 ha
  obtain ⟨h2,rfl⟩:=List.getElem?_eq_some_iff.1 hb
  exact List.pairwise_iff_getElem.1 hp a b h1 h2 hab
 cases hh:hasS (keysL l) k with
 | true =>
  rw [hh,if_pos rfl] at hi
  obtain ⟨h2,h3⟩:=bound_get hh
  have h2':lbS (keysL l) k < l.length:=by rwa [keys_len] at h2
  have h4:l[lbS (keysL l) k]? = some l[lbS (keysL l) k]:=List.getElem?_eq_getElem h2'
  have h5:=hat h4 hi (by omega)
  have h6:l[lbS (keysL l) k].1=k:=by
   have:=keys_get h4
   rw [List.getElem?_eq_getElem h2] at this
   rw [h3] at this
   exact (Option.some.inj this).symm
  rwa [h6] at h5
 | false =>
  rw [hh] at hi
  have hi:l[lbS (keysL l) k+i]? = some x:=hi
  have hlt:lbS (keysL l) k < l.length:=by
   have:=(List.getElem?_eq_some_iff.1 hi).1
   omega
  have h4:l[lbS (keysL l) k]? = some l[lbS (keysL l) k]:=List.getElem?_eq_getElem hlt
  have h5:lt l[lbS (keysL l) k].1 k=false:=by
   cases hq:lt l[lbS (keysL l) k].1 k with
   | false=>rfl
   | true=>have:=(lbS_iff hr k (keys_get h4)).1 hq;omega
  have h6:l[lbS (keysL l) k].1≠k:=by
   intro e
   unfold hasS at hh
   rw [keys_get h4] at hh
   simp [e] at hh
  have h7:=lt_tri h5 h6
  rcases Nat.eq_zero_or_pos i with rfl | hpos
  ·rw [Nat.add_zero,h4] at hi
   rw [<-Option.some.inj hi];exact h7
  ·exact lt_trans h7 (hat h4 hi (by omega))
theorem putL_lf {prs:List Pr} {h k v:Bs} (o:LfOk prs h) (hk:keyB k=true) (hv:valB v=true) (hh:h=[]∨lt k h=true) (hw:wts (putL prs k v)<=231):LfOk (putL prs k v) h:=by
 have hr:=rises_iff.2 o.ri
 refine ⟨?_,fun x hx=>?_,?_,hw⟩
 ·unfold putL
  have h1:=take_lt hr k
  have h2:=drop_gt hr k
  refine List.pairwise_append.2 ⟨List.pairwise_append.2 ⟨o.ri.sublist (List.take_sublist ..),by simp,?_⟩,o.ri.sublist (List.drop_sublist ..),?_⟩
  ·intro x hx y hy
   have:y=(k,v):=by simpa using hy
   rw [this];exact h1 x hx
  ·intro x hx y hy
   rcases List.mem_append.1 hx with hx | hx
   ·exact lt_trans (h1 x hx) (h2 y hy)
   ·have:x=(k,v):=by simpa using hx
    rw [this];exact h2 y hy
 ·rcases putL_mem hx with rfl | hx
  ·exact ⟨hk,hv⟩
  ·exact o.mem x hx
 ·rcases o.hi with h' | ⟨h1,h2⟩
  ·exact .inl h'
  ·refine .inr ⟨h1,fun x hx=>?_⟩
   rcases putL_mem hx with rfl | hx
   ·exact hh.resolve_left (key_ne h1)
   ·exact h2 x hx
theorem half_lf {prs:List Pr} {h:Bs} (o:LfOk prs h) (m:Nat) {x:Pr} (hx:prs[m]? = some x) (h0:0 < m):LfOk (prs.take m) x.1/\LfOk (prs.drop m) h/\hlt x.1 h/\keyB x.1=true/\(∀y∈prs.drop m,lt y.1 x.1=false)/\∃y∈prs,lt y.1 x.1=true:=by
 obtain ⟨hm,e⟩:=List.getElem?_eq_some_iff.1 hx
 have hd:prs.drop m=x::prs.drop (m+1):=by rw [<-e];exact List.drop_eq_getElem_cons hm
 have hri:=o.ri
 rw [<-List.take_append_drop m prs] at hri
 obtain ⟨r1,r2,r3⟩:=List.pairwise_append.1 hri
 have hxm:x∈prs:=List.mem_of_getElem? hx
 have hw:=wts_split prs m
 have ow:=o.wt
 have hkx:=(o.mem x hxm).1
 refine ⟨⟨r1,fun y hy=>o.mem y (List.mem_of_mem_take hy),.inr ⟨hkx,fun y hy=>r3 y hy x (by rw [hd];simp)⟩,by omega⟩,⟨r2,fun y hy=>o.mem y (List.mem_of_mem_drop hy),?_,by omega⟩,⟨key_ne hkx,?_⟩,hkx,?_,?_⟩
 ·rcases o.hi with h' | ⟨h1,h2⟩
  ·exact .inl h'
  ·exact .inr ⟨h1,fun y hy=>h2 y (List.mem_of_mem_drop hy)⟩
 ·rcases o.hi with h' | ⟨h1,h2⟩
  ·exact .inl h'
  ·exact .inr (h2 x hxm)
 ·intro y hy
  rw [hd] at hy r2
  rcases List.mem_cons.1 hy with rfl | hy
  ·exact lt_irr _
  ·exact lt_asymm ((List.pairwise_cons.1 r2).1 y hy)
 ·have h00:0 < prs.length:=by omega
  refine ⟨prs[0],List.getElem_mem h00,?_⟩
  rw [<-e]
  exact List.pairwise_iff_getElem.1 o.ri 0 m h00 hm h0
theorem ord_parts {pre post:LL} {p:Int} {prs:List Pr} {h:Bs} (ho:OrdB (pre++(p,prs,h)::post)) :
  OrdB pre/\OrdB post/\(∀y∈pre,hlt y.2.2 h/\∀x∈prs,lt x.1 y.2.2=false)/\(∀z∈post,hlt h z.2.2/\∀x∈z.2.1,lt x.1 h=false)/\(∀y∈pre,∀z∈post,hlt y.2.2 z.2.2/\∀x∈z.2.1,lt x.1 y.2.2=false):=by
 obtain ⟨h1,h2,h3⟩:=List.pairwise_append.1 ho
 obtain ⟨h4,h5⟩:=List.pairwise_cons.1 h2
 exact ⟨h1,h5,fun y hy=>h3 y hy (p,prs,h) (by simp),fun z hz=>h4 z hz,fun y hy z hz=>h3 y hy z (by simp [hz])⟩
theorem ord_put {pre post:LL} {p:Int} {prs prs':List Pr} {h:Bs} (ho:OrdB (pre++(p,prs,h)::post)) (hn:∀y∈pre,∀x∈prs',lt x.1 y.2.2=false):OrdB (pre++(p,prs',h)::post):=by
 obtain ⟨h1,h2,h3,h4,h5⟩:=ord_parts ho
 refine List.pairwise_append.2 ⟨h1,List.pairwise_cons.2 ⟨h4,h2⟩,?_⟩
 intro y hy z hz
 rcases List.mem_cons.1 hz with rfl | hz
 ·exact ⟨(h3 y hy).1,hn y hy⟩
 ·exact h5 y hy z hz
theorem ord_two {pre post:LL} {p j:Int} {prs A B:List Pr} {h s:Bs} (ho:OrdB (pre++(p,prs,h)::post)) (hA:∀y∈pre,∀x∈A,lt x.1 y.2.2=false) (hB:∀y∈pre,∀x∈B,lt x.1 y.2.2=false)
  (hs:∀y∈pre,hlt y.2.2 s) (hsh:hlt s h) (hsB:∀x∈B,lt x.1 s=false):OrdB (pre++(p,A,s)::(j,B,h)::post):=by
 obtain ⟨h1,h2,h3,h4,h5⟩:=ord_parts ho
 refine List.pairwise_append.2 ⟨h1,List.pairwise_cons.2 ⟨?_,List.pairwise_cons.2 ⟨h4,h2⟩⟩,?_⟩
 ·intro z hz
  rcases List.mem_cons.1 hz with rfl | hz
  ·exact ⟨hsh,hsB⟩
  ·obtain ⟨q1,q2⟩:=h4 z hz
   refine ⟨hlt_trans hsh q1,fun x hx=>le_trans1 (q2 x hx) (hsh.2.resolve_left q1.1)⟩
 ·intro y hy z hz
  rcases List.mem_cons.1 hz with rfl | hz
  ·exact ⟨hs y hy,hA y hy⟩
  ·rcases List.mem_cons.1 hz with rfl | hz
   ·exact ⟨(h3 y hy).1,hB y hy⟩
   ·exact h5 y hy z hz
def flatB (b:LL):List Pr:=b.flatMap fun x=>x.2.1
theorem upT_ok {n:Nat} {r:Int} {es:Es} {p to:Int} {k:Bs} {sts:List Stp} {r':Int} {es':Es} (hl:sts.length<=10000) (h:UpR n r es sts k p to r' es') :
  icC qcfg cmT 123 [.ptr 0 0 0,.sl (stpsV sts.reverse),.str k,.int .i64 p,.int .i64 to] (tM r n es)=some (mk123 (r',n,esV es',bitsV n (tkn es'))):=by
 obtain ⟨m,g5,g6⟩:=up_run h
 refine e123_run _ _ _ _ _ _ _ _ ?_ ⟨_,_,g5,g6 _ _ _ _⟩
 unfold e123
 rw [back_ok sts (by omega),opt_mk,back_bk]
theorem encU_rev {up:List IL}:(encU up.reverse).Perm (encU up):=by
 induction up with
 | nil=>exact .refl _
 | cons l up ih =>
  rw [List.reverse_cons,encU,List.flatMap_append]
  refine List.perm_append_comm.trans ?_
  have e:List.flatMap (fun l=>encT encI l 0) [l]=encT encI l 0:=by simp
  rw [e]
  exact List.Perm.append_left _ ih
theorem leaf_perm {es U:Es} {pre post:LL} {p:Int} {x:LfX} (h:es.Perm (U++encT encF (pre++(p,x)::post) 0)):es.Perm ((p,encF x (nxt post 0))::(encT encF pre (p+1)++encT encF post 0++U)):=by
 rw [encT_app,encT] at h
 refine h.trans (List.perm_append_comm.trans ?_)
 simp only [List.append_assoc,List.cons_append]
 exact List.perm_middle
theorem leaf_perm2 {U:Es} {pre post:LL} {p:Int} {x:LfX}:((p,encF x (nxt post 0))::(encT encF pre (p+1)++encT encF post 0++U)).Perm (U++encT encF (pre++(p,x)::post) 0):=(leaf_perm (.refl _)).symm
theorem dn_leaf:∀{d:List IL} {s:Su} {b b':LL},sumL b'=sumL b->Dn s d b->Dn s d b'
 | [],s,b,b',e,h=>by rw [dn_nil h,<-e];exact .leaf _
 | l::d,s,b,b',e,h=>by
  obtain ⟨e1,h⟩:=dn_cons h
  rw [e1]
  exact .inn _ _ _ (dn_leaf e h)
theorem flat_app (a b:LL):flatB (a++b)=flatB a++flatB b:=by simp [flatB]
theorem flat_cons (p:Int) (prs:List Pr) (h:Bs) (b:LL):flatB ((p,prs,h)::b)=prs++flatB b:=by simp [flatB]
theorem le_lt {z a s:Bs} (h1:lt z a=false) (h2:lt z s=true):lt a s=true:=by
 by_cases e:z=a
 ·rw [<-e];exact h2
 ·exact lt_trans (lt_tri h1 e) h2
structure WF (n:Nat) (r:Int) (es:Es) (ups:List IL) (b:LL):Prop extends WT n r es ups b where
 ne:ups≠[]->∀x∈b,x.2.1≠[]
 rt:Rt2 ups.reverse
theorem leaf_one {r:Int} {b:LL} {pre post:LL} {x:Int × LfX} (h:Dn [(r,[])] [] b) (hb:b=pre++x::post):pre=[]/\post=[]:=by
 have:=congrArg List.length (dn_nil h)
 rw [hb] at this
 simp [sumL] at this
 exact ⟨List.eq_nil_of_length_eq_zero (by omega),List.eq_nil_of_length_eq_zero (by omega)⟩
theorem ne_two {n:Nat} {r:Int} {es:Es} {ups:List IL} {b:LL} (h:WF n r es ups b) {pre post:LL} {x:Int × LfX} (hb:b=pre++x::post):∀y,y∈pre∨y∈post->y.2.1≠[]:=by
 intro y hy
 by_cases hu:ups=[]
 ·have hd:=h.dn
  rw [hu] at hd
  obtain ⟨rfl,rfl⟩:=leaf_one hd hb
  rcases hy with hy | hy<;>cases hy
 ·exact h.ne hu y (by rw [hb];rcases hy with hy | hy<;>simp [hy])
theorem two_ok {n:Nat} {r:Int} {es:Es} {ups:List IL} {b:LL} (h:WF n r es ups b) {p:Int} {h':Bs} {sts:List Stp} {pre post:LL} {prs:List Pr} (hp:Pth r ups.reverse p h' (sumL pre) (sumL post) sts) (hb:b=pre++(p,prs,h')::post)
  {A B:List Pr} {s:Bs} {j:Nat} (hj:j < n) (hj2:(j:Int)∉keysE es) (oA:LfOk A s) (oB:LfOk B h') (hA0:A≠[]) (hB0:B≠[]) (hsh:hlt s h') (hks:keyB s=true) (hlo:∀y∈pre,hlt y.2.2 s) (hA:∀y∈pre,∀x∈A,lt x.1 y.2.2=false) (hB:∀y∈pre,∀x∈B,lt x.1 y.2.2=false) (hsB:∀x∈B,lt x.1 s=false)
  (hroom:es.length+ups.length+2<=n) :
  ∃r' es' ups',WF n r' es' ups' (pre++(p,A,s)::((j:Int),B,h')::post)/\UpR n r (putE (putE (putE es j []) p (encL ⟨A,s,(j:Int)+1⟩)) j (encL ⟨B,h',nxt post 0⟩)) sts s p j r' es':=by
 have hne:=ne_two h hb
 subst hb
 have hn:=h.shf.le
 have hul:=ups_len h.toWT
 have hat:=leaf_perm h.rep
 have hpk:=mem_keys hat
 obtain ⟨ok1,ok3,ok2⟩:=(okT_app _ _ _).1 h.okF
 obtain ⟨o,hx0,hx1⟩:=lfOk_of (show rightL ⟨prs,h',nxt post 0⟩=true from ok3)
 have hrA:=rightL_of oA (nx:=(j:Int)+1) (by omega) (by omega)
 have hrB:=rightL_of oB hx0 hx1
 have hs1:=shf_new h.shf (b:=[]) hj hj2
 have hp1:(putE es j []).Perm ((p,encF (prs,h') (nxt post 0))::(((j:Int),[])::(encT encF pre (p+1)++encT encF post 0++encU ups))):=by
  rw [put_new hj2]
  exact List.perm_append_comm.trans ((List.Perm.cons _ hat).trans (List.Perm.swap ..))
 have hg1:=get_perm hs1.nd hp1
 have hp2:=put_perm (b':=encL ⟨A,s,(j:Int)+1⟩) hs1.nd hp1
 have hs2:=shf_put hs1 (b:=encL ⟨A,s,(j:Int)+1⟩) (mem_keys hp1)
 have hp2':=hp2.trans (List.Perm.swap ..)
 have hg2:=get_perm hs2.nd hp2'
 have hp3:=put_perm (b':=encL ⟨B,h',nxt post 0⟩) hs2.nd hp2'
 have hs3:=shf_put hs2 (b:=encL ⟨B,h',nxt post 0⟩) (mem_keys hp2')
 have hlen3:(putE (putE (putE es j []) p (encL ⟨A,s,(j:Int)+1⟩)) j (encL ⟨B,h',nxt post 0⟩)).length=es.length+1:=by
  rw [put_len2 (mem_keys hp2'),put_len2 (mem_keys hp1),put_len hj2]
 have eS:sumL (pre++(p,A,s)::((j:Int),B,h')::post)=sumL pre++(p,s)::((j:Int),h')::sumL post:=by simp [sumL]
 have eS0:sumL (pre++(p,prs,h')::post)=sumL pre++(p,h')::sumL post:=by simp [sumL]
 have hd:Dn (sumL pre++(p,s)::((j:Int),h')::sumL post) [] (pre++(p,A,s)::((j:Int),B,h')::post):=by
  rw [<-eS];exact .leaf _
 have hP:=ord_hp h.ord
 rw [eS0] at hP
 have hf:UpF n r (putE (putE (putE es j []) p (encL ⟨A,s,(j:Int)+1⟩)) j (encL ⟨B,h',nxt post 0⟩)) ups.reverse [] (pre++(p,A,s)::((j:Int),B,h')::post) (encT encF (pre++(p,A,s)::((j:Int),B,h')::post) 0) p j s h' (sumL pre) (sumL post):=by
  refine ⟨hs3,hd,hP,fun y hy=>?_,hsh.2,hks,shf_pg h.shf hpk,shf_pg hs1 (by rw [keys_new hj2];simp),fun l hl=>h.okI l (by simpa using hl),?_,by rw [hlen3,List.length_reverse];omega⟩
  ·obtain ⟨z,hz,rfl⟩:=List.mem_map.1 hy
   exact hlo z hz
  ·refine hp3.trans ?_
   rw [encT_app,encT,encT]
   refine ((List.Perm.swap ..).trans ?_)
   have h1:(encU ups.reverse++(encT encF pre (p+1)++(p,encF (A,s) ((j:Int)+1))::((j:Int),encF (B,h') (nxt post 0))::encT encF post 0)).Perm ((p,encF (A,s) ((j:Int)+1))::((j:Int),encF (B,h') (nxt post 0))::(encU ups.reverse++(encT encF pre (p+1)++encT encF post 0))):=by
    rw [<-List.append_assoc]
    refine List.perm_middle.trans (List.Perm.cons _ (List.perm_middle.trans (List.Perm.cons _ ?_)))
    rw [List.append_assoc]
   refine List.Perm.trans ?_ h1.symm
   refine List.Perm.cons _ (List.Perm.cons _ ?_)
   exact List.perm_append_comm.trans (List.Perm.append_right _ encU_rev.symm)
 obtain ⟨r',up',es',g1,g2,g3,g4,g5,g6,g7⟩:=up_ex hp hf
 refine ⟨r',es',up'.reverse,⟨⟨g1,?_,?_,fun l hl=>g3 l (by simpa using hl),?_,ord_two h.ord hA hB hlo hsh hsB⟩,?_,?_⟩,g7⟩
 ·exact g4.trans (List.Perm.append_right _ encU_rev.symm)
 ·rw [List.append_nil] at g2;exact g2
 ·exact (okT_app _ _ _).2 ⟨ok1,hrA,hrB,ok2⟩
 ·intro _ x hx
  rcases List.mem_append.1 hx with hx | hx
  ·exact hne x (.inl hx)
  ·rcases List.mem_cons.1 hx with rfl | hx
   ·exact hA0
   ·rcases List.mem_cons.1 hx with rfl | hx
    ·exact hB0
    ·exact hne x (.inr hx)
 ·rw [List.reverse_reverse];exact g6 h.rt
abbrev Ris' (l:List Pr):Prop:=l.Pairwise fun x y=>lt x.1 y.1=true
theorem cut3 {α:Type} (l:List α) (i j:Nat) (h:i<=j):l=l.take i++((l.drop i).take (j - i)++l.drop j):=by
 have:l.drop j=(l.drop i).drop (j - i):=by rw [List.drop_drop];congr 1;omega
 rw [this,List.take_append_drop,List.take_append_drop]
theorem mid_key {l:List Pr} {k:Bs} (hr:Rises (keysL l)):∀x∈(l.drop (lbS (keysL l) k)).take ((if hasS (keysL l) k then lbS (keysL l) k+1 else lbS (keysL l) k) - lbS (keysL l) k),x.1=k:=by
 intro x hx
 cases hh:hasS (keysL l) k with
 | false=>rw [hh] at hx;simp at hx
 | true =>
  rw [hh,if_pos rfl,show lbS (keysL l) k+1 - lbS (keysL l) k=1 by omega] at hx
  obtain ⟨h2,h3⟩:=bound_get hh
  have h2':lbS (keysL l) k < l.length:=by rwa [keys_len] at h2
  rw [List.drop_eq_getElem_cons h2',List.take_succ_cons,List.take_zero] at hx
  have e:x=l[lbS (keysL l) k]:=List.mem_singleton.1 hx
  have h4:l[lbS (keysL l) k]? = some l[lbS (keysL l) k]:=List.getElem?_eq_getElem h2'
  have:=keys_get h4
  rw [List.getElem?_eq_getElem h2,h3] at this
  rw [e]
  exact (Option.some.inj this).symm
theorem filter_all {α:Type} {p:α->Bool} {l:List α} (h:∀x∈l,p x=true):l.filter p=l:=List.filter_eq_self.2 h
theorem filter_none {α:Type} {p:α->Bool} {l:List α} (h:∀x∈l,p x=false):l.filter p=[]:=List.filter_eq_nil_iff.2 fun x hx=>by rw [h x hx];simp
theorem putL_filter {l:List Pr} (hr:Ris' l) (k v:Bs):putL l k v=l.filter (fun x=>lt x.1 k)++(k,v)::l.filter (fun x=>lt k x.1):=by
 have hr':=rises_iff.2 hr
 have h1:=take_lt hr' k
 have h2:=drop_gt hr' k
 have h3:=mid_key (k:=k) hr'
 unfold putL
 generalize hj:(if hasS (keysL l) k then lbS (keysL l) k+1 else lbS (keysL l) k)=j at *
 have hij:lbS (keysL l) k<=j:=by rw [<-hj];split<;>omega
 generalize lbS (keysL l) k=i at *
 have e:=cut3 l i j hij
 have f1:l.filter (fun x=>lt x.1 k)=l.take i:=by
  conv=>lhs;rw [e]
  rw [List.filter_append,List.filter_append,filter_all h1,filter_none (p:=fun x:Pr=>lt x.1 k) fun x hx=>by rw [h3 x hx];exact lt_irr _,filter_none (p:=fun x:Pr=>lt x.1 k) fun x hx=>lt_asymm (h2 x hx)]
  simp
 have f2:l.filter (fun x=>lt k x.1)=l.drop j:=by
  conv=>lhs;rw [e]
  rw [List.filter_append,List.filter_append,filter_none (p:=fun x:Pr=>lt k x.1) fun x hx=>lt_asymm (h1 x hx),filter_none (p:=fun x:Pr=>lt k x.1) fun x hx=>by rw [h3 x hx];exact lt_irr _,filter_all h2]
  simp
 rw [f1,f2]
 simp
theorem has_any {l:List Pr} (hr:Ris' l) (k:Bs):hasS (keysL l) k=l.any fun x=>x.1==k:=by
 have hr':=rises_iff.2 hr
 cases hh:hasS (keysL l) k with
 | true =>
  obtain ⟨h2,h3⟩:=bound_get hh
  have hm:k∈keysL l:=h3 ▸ List.getElem_mem h2
  obtain ⟨x,hx,e⟩:=List.mem_map.1 hm
  exact (List.any_eq_true.2 ⟨x,hx,by rw [e];simp⟩).symm
 | false =>
  symm
  rw [List.any_eq_false]
  intro x hx hc
  have e:x.1=k:=by simpa using hc
  have h1:=take_lt hr' k
  have h2:=drop_gt hr' k
  rw [hh] at h2
  have h2:∀x∈l.drop (lbS (keysL l) k),lt k x.1=true:=h2
  rw [<-List.take_append_drop (lbS (keysL l) k) l] at hx
  rcases List.mem_append.1 hx with hx | hx
  ·have:=h1 x hx
   rw [e,lt_irr] at this;cases this
  ·have:=h2 x hx
   rw [e,lt_irr] at this;cases this
theorem delL_filter {l:List Pr} (hr:Ris' l) {k:Bs} (hh:hasS (keysL l) k=true):delL l k=l.filter fun x=>!(x.1==k):=by
 have hr':=rises_iff.2 hr
 have h1:=take_lt hr' k
 have h2:=drop_gt hr' k
 have h3:=mid_key (k:=k) hr'
 unfold delL
 rw [hh,if_pos rfl] at h2 h3
 have e:=cut3 l (lbS (keysL l) k) (lbS (keysL l) k+1) (by omega)
 have ne:∀x:Pr,lt x.1 k=true∨lt k x.1=true->(!(x.1==k))=true:=by
  intro x hx
  by_cases he:x.1=k
  ·rw [he,lt_irr] at hx;simp at hx
  ·simpa using he
 conv=>rhs;rw [e]
 rw [List.filter_append,List.filter_append,filter_all (p:=fun x:Pr=>!(x.1==k)) fun x hx=>ne x (.inl (h1 x hx)),filter_none (p:=fun x:Pr=>!(x.1==k)) fun x hx=>by rw [h3 x hx];simp,filter_all (p:=fun x:Pr=>!(x.1==k)) fun x hx=>ne x (.inr (h2 x hx))]
 simp
theorem flat_ris:∀{b:LL} {n:Int},OrdB b->okT okF b n->Ris' (flatB b)
 | [],_,_,_=>List.Pairwise.nil
 |(p,prs,h)::b,n,ho,hF=>by
  obtain ⟨h1,h2⟩:=List.pairwise_cons.1 ho
  obtain ⟨o,_,_⟩:=lfOk_of (show rightL ⟨prs,h,nxt b n⟩=true from hF.1)
  rw [flat_cons]
  refine List.pairwise_append.2 ⟨o.ri,flat_ris h2 hF.2,?_⟩
  intro x hx y hy
  obtain ⟨z,hz,hy⟩:=List.mem_flatMap.1 hy
  obtain ⟨q1,q2⟩:=h1 z hz
  have hxh:=(o.hi.resolve_left q1.1).2 x hx
  have:=q2 y hy
  by_cases e:y.1=h
  ·rw [e];exact hxh
  ·exact lt_trans hxh (lt_tri this e)
theorem way_cut {n:Int} {pre post:LL} {p:Int} {prs:List Pr} {h k:Bs} (ho:OrdB (pre++(p,prs,h)::post)) (hF:okT okF (pre++(p,prs,h)::post) n) (hlo:∀y∈sumL pre,lt k y.2=false) (hhi:h=[]∨lt k h=true) :
  (∀x∈flatB pre,lt x.1 k=true)/\∀x∈flatB post,lt k x.1=true:=by
 obtain ⟨h1,h2,h3,h4,h5⟩:=ord_parts ho
 obtain ⟨ok1,ok3,ok2⟩:=(okT_app _ _ _).1 hF
 constructor
 ·intro x hx
  obtain ⟨y,hy,hx⟩:=List.mem_flatMap.1 hx
  obtain ⟨m,hm⟩:=okT_mem ok1 y hy
  obtain ⟨o,_,_⟩:=lfOk_of (show rightL ⟨y.2.1,y.2.2,m⟩=true from hm)
  have hxy:=(o.hi.resolve_left (h3 y hy).1.1).2 x hx
  have hky:lt k y.2.2=false:=hlo (y.1,y.2.2) (List.mem_map.2 ⟨y,hy,rfl⟩)
  by_cases e:k=y.2.2
  ·rw [e];exact hxy
  ·exact lt_trans hxy (lt_tri hky e)
 ·intro x hx
  obtain ⟨z,hz,hx⟩:=List.mem_flatMap.1 hx
  obtain ⟨q1,q2⟩:=h4 z hz
  have hkh:=hhi.resolve_left q1.1
  have:=q2 x hx
  by_cases e:x.1=h
  ·rw [e];exact hkh
  ·exact lt_trans hkh (lt_tri this e)
inductive PutR (n:Nat) (r:Int) (es:Es) (k v:Bs):Bool->Int->Int->Es->Prop
 | arg (h:(keyB k && valB v)=false):PutR n r es k v false 1 r es
 | put {ws:List Stp} {pl:Int} {l:Lf} (hs:Shf n es) (hk:keyB k=true) (hv:valB v=true) (hw:WayR es k r ws pl l) (hl:ws.length<=1024) (hg:getE es pl=some (encL l)) (hr0:rightL l=true) (hh:l.high=[]∨lt k l.high=true) (hz:wts (putL l.prs k v)<=231) (hr:rightL ⟨putL l.prs k v,l.high,l.next⟩=true) :
  PutR n r es k v (!hasS (keysL l.prs) k) 0 r (putE es pl (encL ⟨putL l.prs k v,l.high,l.next⟩))
 | full {ws:List Stp} {pl:Int} {l:Lf} (hs:Shf n es) (hk:keyB k=true) (hv:valB v=true) (hw:WayR es k r ws pl l) (hl:ws.length<=1024) (hg:getE es pl=some (encL l)) (hr0:rightL l=true) (hh:l.high=[]∨lt k l.high=true) (hz:¬wts (putL l.prs k v)<=231) (hf:n - es.length < ws.length+2) :
  PutR n r es k v false 6 r es
 | split {ws:List Stp} {pl:Int} {l:Lf} {j:Nat} {x:Pr} {A B:List Pr} {r':Int} {es':Es} (hs:Shf n es) (hk:keyB k=true) (hv:valB v=true) (hw:WayR es k r ws pl l) (hl:ws.length<=1024) (hg:getE es pl=some (encL l)) (hr0:rightL l=true) (hh:l.high=[]∨lt k l.high=true) (hz:¬wts (putL l.prs k v)<=231) (hf:¬n - es.length < ws.length+2)
  (hfj:firstF n (tkn es)=some j) (hj:j < n) (hq:(j:Int)∉keysE es) (h2:2<=l.prs.length) (hx:l.prs[halfL l.prs]? = some x)
  (rA0:rightL ⟨l.prs.take (halfL l.prs),x.1,(j:Int)+1⟩=true) (rB0:rightL ⟨l.prs.drop (halfL l.prs),l.high,l.next⟩=true) (rA:rightL ⟨A,x.1,(j:Int)+1⟩=true) (rB:rightL ⟨B,l.high,l.next⟩=true)
  (hc:(lt k x.1=true/\A=putL (l.prs.take (halfL l.prs)) k v/\wts A<=231/\B=l.prs.drop (halfL l.prs))∨(lt k x.1=false/\A=l.prs.take (halfL l.prs)/\B=putL (l.prs.drop (halfL l.prs)) k v/\wts B<=231))
  (hu:UpR n r (putE (putE (putE es j []) pl (encL ⟨A,x.1,(j:Int)+1⟩)) j (encL ⟨B,l.high,l.next⟩)) ws.reverse x.1 pl j r' es') :
  PutR n r es k v (!hasS (keysL l.prs) k) 0 r' es'
theorem way_leaf {es:Es} {k:Bs} {p:Int} {ws:List Stp} {pl:Int} {l:Lf} (h:WayR es k p ws pl l):getE es pl=some (encL l)/\rightL l=true:=by
 induction h with
 | leaf hg hr=>exact ⟨hg,hr⟩
 | inn _ _ _ _ _ ih=>exact ih
theorem put_of {k v:Bs} {r n:Int} {es:List (V × V)} {bs:List V} {m:List O} {v0:V} {L:Bool × Int × Int × Int × List (V × V) × List V} (h:e32 k v r n es bs=some (.doneM v0 m)) (hc:canNorm cmT (tm r n es bs) v0 m=mk32 L) :
  icC qcfg cmT 32 [.ptr 0 0 0,.str k,.str v] (tm r n es bs)=some (mk32 L):=e32_run _ _ _ _ _ _ h (.done hc)
theorem split_of {x1:List V} {q:Lf} {p:Int} {k v:Bs} {r n:Int} {es:List (V × V)} {bs:List V} {m:List O} {L:Int × Int × List (V × V) × List V} (h:e79 x1 (psV q.prs) q.high q.next p k v r n es bs=some (.doneM (.tup []) m)) (hc:canNorm cmT (tm r n es bs) (.tup []) m=mk79 L) :
  icC qcfg cmT 79 [.ptr 0 0 0,.sl x1,eL q,.int .i64 p,.agg [.str k,.str v]] (tm r n es bs)=some (mk79 L):=e79_run _ _ _ _ _ _ _ _ _ _ _ h (.done hc)
theorem getL_at (l:Lf) (h:rightL l=true) (k:Bs):∃g,pcW qcfg 76 [eL l,.str k]=some (.tup [.str g,.int .i64 (bif hasS (keysL l.prs) k then 0 else 7)]):=by
 rw [getL_ok l h k]
 cases hasS (keysL l.prs) k with
 | true=>exact ⟨_,rfl⟩
 | false=>exact ⟨_,rfl⟩
theorem had_eq (b:Bool):((bif b then 0 else 7:Int) != (0:Int)) = !b:=by cases b<;>rfl
theorem put_run {n:Nat} {r:Int} {es:Es} {k v:Bs} {ok:Bool} {e r':Int} {es':Es} (h:PutR n r es k v ok e r' es') :
  icC qcfg cmT 32 [.ptr 0 0 0,.str k,.str v] (tM r n es)=some (mk32 (ok,e,r',n,esV es',bitsV n (tkn es'))):=by
 cases h with
 | arg h =>
  refine put_of (v0:=.tup [.bool false,.int .i64 1]) (m:=tM r n es) ?_ (by kernel_rfl)
  unfold e32
  rw [pcK_of (key_ok k),kB_mk]
  cases hk:keyB k with
  | false=>rfl
  | true =>
   rw [hk,Bool.true_and] at h
   rw [Bool.not_true,cond_false,pcK_of (val_ok v),kB_mk,h];rfl
 | @put ws pl l hs hk hv hw hl hg hr0 hh hz hr =>
  obtain ⟨g,hget⟩:=getL_at l hr0 k
  have hput:=putL_ok l hr0 k v hk hv hh
  unfold putV at hput
  rw [if_pos hz] at hput
  apply put_of
  case h =>
   unfold e32
   rw [pcK_of (key_ok k),kB_mk,hk,Bool.not_true,cond_false,pcK_of (val_ok v),kB_mk,hv,Bool.not_true,cond_false,icR_of mk75_inj (wayT_ok hs hw (by omega)),gdS_eq]
   show (pcK qcfg _ [eL l,_] _)=_
   rw [pcK_of hget,d76_mk]
   show (pcK qcfg _ [eL l,_,_] _)=_
   rw [pcK_of hput,d124_mk,ibeq_t rfl,cond_true]
   show (icM qcfg _ _ _ [_,_,.ifc 120 (eL ⟨putL l.prs k v,l.high,l.next⟩)] (tM r n es) _)=_
   rw [icM_of mk78_inj (wrL_ok hs hg hr),had_eq]
  case hc=>kernel_rfl
 | @full ws pl l hs hk hv hw hl hg hr0 hh hz hf =>
  obtain ⟨g,hget⟩:=getL_at l hr0 k
  have hput:=putL_ok l hr0 k v hk hv hh
  unfold putV at hput
  rw [if_neg hz] at hput
  have hll:=len_le hs
  have hn:=hs.le
  have w1:W .i64 (((stpsV ws).length:Int)+1)=((ws.length+1:Nat):Int):=by rw [stps_len,W_i64 (by omega)];omega
  have w2:W .i64 (((ws.length+1:Nat):Int)+1)=((ws.length+2:Nat):Int):=by rw [W_i64 (by omega)];omega
  apply put_of
  case h =>
   unfold e32
   rw [pcK_of (key_ok k),kB_mk,hk,Bool.not_true,cond_false,pcK_of (val_ok v),kB_mk,hv,Bool.not_true,cond_false,icR_of mk75_inj (wayT_ok hs hw (by omega)),gdS_eq]
   show (pcK qcfg _ [eL l,_] _)=_
   rw [pcK_of hget,d76_mk]
   show (pcK qcfg _ [eL l,_,_] _)=_
   rw [pcK_of hput,d124_mk,ibeq_f (by decide),cond_false,icR_of mk44_inj (freeS_ok hs),gdS_eq,w1,w2,decide_eq_true (by omega),cond_true]
  case hc=>kernel_rfl
 | @split ws pl l j x A B r' es' hs hk hv hw hl hg hr0 hh hz hf hfj hj hq h2 hx rA0 rB0 rA rB hc hu =>
  obtain ⟨g,hget⟩:=getL_at l hr0 k
  have hput:=putL_ok l hr0 k v hk hv hh
  unfold putV at hput
  rw [if_neg hz] at hput
  have hll:=len_le hs
  have hn:=hs.le
  have w1:W .i64 (((stpsV ws).length:Int)+1)=((ws.length+1:Nat):Int):=by rw [stps_len,W_i64 (by omega)];omega
  have w2:W .i64 (((ws.length+1:Nat):Int)+1)=((ws.length+2:Nat):Int):=by rw [W_i64 (by omega)];omega
  have hspl:=splitL_ok l hr0 h2 j (by omega)
  simp only [splV] at hspl
  rw [hx] at hspl
  simp only [Option.getD_some] at hspl
  have hs1:=shf_new hs (b:=[]) hj hq
  have hpj:pl≠(j:Int):=fun e=>hq (e ▸ get_key hg)
  have hg1:getE (putE es j []) pl=some _:=(get_put_ne hpj).trans hg
  have hs2:=shf_put hs1 (b:=encL ⟨A,x.1,(j:Int)+1⟩) (get_key hg1)
  have hg2:getE (putE (putE es j []) pl (encL ⟨A,x.1,(j:Int)+1⟩)) j=some []:=(get_put_ne hpj.symm).trans get_put_eq
  have hup:=upT_ok (by rw [List.length_reverse];omega) hu
  rw [List.reverse_reverse] at hup
  have hsp:icC qcfg cmT 79 [.ptr 0 0 0,.sl (stpsV ws),eL l,.int .i64 pl,.agg [.str k,.str v]] (tM r n es)=some (mk79 (r',n,esV es',bitsV n (tkn es'))):=by
   rcases hc with ⟨hkx,rfl,hwA,rfl⟩ | ⟨hkx,rfl,rfl,hwB⟩
   ·have hput:=putL_ok _ rA0 k v hk hv (.inr hkx)
    unfold putV at hput
    rw [if_pos hwA] at hput
    apply split_of
    case h =>
     unfold e79
     rw [icM_of mk84_inj (takeS_ok hs hfj hq)]
     show (pcK qcfg _ [eL l,_] _)=_
     rw [pcK_of hspl,d182_mk,show Op.bytesLess k x.1=true from hkx,cond_true]
     show (pcK qcfg _ [eL ⟨l.prs.take (halfL l.prs),x.1,(j:Int)+1⟩,_,_] _)=_
     rw [pcK_of hput,d124_mk]
     show (icM qcfg _ _ _ [_,_,.ifc 120 (eL ⟨putL (l.prs.take (halfL l.prs)) k v,x.1,(j:Int)+1⟩)] (tM r n (putE es j [])) _)=_
     rw [icM_of mk78_inj (wrL_ok hs1 hg1 rA)]
     show (icM qcfg _ _ _ [_,_,.ifc 120 (eL ⟨l.prs.drop (halfL l.prs),l.high,l.next⟩)] (tM r n (putE (putE es j []) pl (encL ⟨putL (l.prs.take (halfL l.prs)) k v,x.1,(j:Int)+1⟩))) _)=_
     rw [icM_of mk78_inj (wrL_ok hs2 hg2 rB),icM_of mk123_inj hup]
    case hc=>kernel_rfl
   ·have hput:=putL_ok _ rB0 k v hk hv hh
    unfold putV at hput
    rw [if_pos hwB] at hput
    apply split_of
    case h =>
     unfold e79
     rw [icM_of mk84_inj (takeS_ok hs hfj hq)]
     show (pcK qcfg _ [eL l,_] _)=_
     rw [pcK_of hspl,d182_mk,show Op.bytesLess k x.1=false from hkx,cond_false]
     show (pcK qcfg _ [eL ⟨l.prs.drop (halfL l.prs),l.high,l.next⟩,_,_] _)=_
     rw [pcK_of hput,d124_mk]
     show (icM qcfg _ _ _ [_,_,.ifc 120 (eL ⟨l.prs.take (halfL l.prs),x.1,(j:Int)+1⟩)] (tM r n (putE es j [])) _)=_
     rw [icM_of mk78_inj (wrL_ok hs1 hg1 rA)]
     show (icM qcfg _ _ _ [_,_,.ifc 120 (eL ⟨putL (l.prs.drop (halfL l.prs)) k v,l.high,l.next⟩)] (tM r n (putE (putE es j []) pl (encL ⟨l.prs.take (halfL l.prs),x.1,(j:Int)+1⟩))) _)=_
     rw [icM_of mk78_inj (wrL_ok hs2 hg2 rB),icM_of mk123_inj hup]
    case hc=>kernel_rfl
  apply put_of
  case h =>
   unfold e32
   rw [pcK_of (key_ok k),kB_mk,hk,Bool.not_true,cond_false,pcK_of (val_ok v),kB_mk,hv,Bool.not_true,cond_false,icR_of mk75_inj (wayT_ok hs hw (by omega)),gdS_eq]
   show (pcK qcfg _ [eL l,_] _)=_
   rw [pcK_of hget,d76_mk]
   show (pcK qcfg _ [eL l,_,_] _)=_
   rw [pcK_of hput,d124_mk,ibeq_f (by decide),cond_false,icR_of mk44_inj (freeS_ok hs),gdS_eq,w1,w2,decide_eq_false (by omega),cond_false]
   show (icM qcfg _ _ _ [_,_,eL l,_,_] _ _)=_
   rw [icM_of mk79_inj hsp,had_eq]
  case hc=>kernel_rfl
theorem putL_ne (l:List Pr) (k v:Bs):putL l k v≠[]:=by simp [putL]
theorem put_app {a m c:List Pr} {k v:Bs} (ha:∀x∈a,lt x.1 k=true) (hc:∀x∈c,lt k x.1=true) (hr:Ris' (a++(m++c))):putL (a++(m++c)) k v=a++(putL m k v++c):=by
 obtain ⟨r1,r2,_⟩:=List.pairwise_append.1 hr
 obtain ⟨r3,_,_⟩:=List.pairwise_append.1 r2
 rw [putL_filter hr,putL_filter r3]
 simp only [List.filter_append]
 rw [filter_all (p:=fun x:Pr=>lt x.1 k) ha,filter_none (p:=fun x:Pr=>lt k x.1) (l:=a) fun x hx=>lt_asymm (ha x hx),filter_none (p:=fun x:Pr=>lt x.1 k) (l:=c) fun x hx=>lt_asymm (hc x hx),filter_all (p:=fun x:Pr=>lt k x.1) hc]
 simp
theorem has_app {a m c:List Pr} {k:Bs} (ha:∀x∈a,lt x.1 k=true) (hc:∀x∈c,lt k x.1=true) (hr:Ris' (a++(m++c))):hasS (keysL (a++(m++c))) k=hasS (keysL m) k:=by
 obtain ⟨r1,r2,_⟩:=List.pairwise_append.1 hr
 obtain ⟨r3,_,_⟩:=List.pairwise_append.1 r2
 rw [has_any hr,has_any r3,List.any_append,List.any_append]
 have h1:(a.any fun x=>x.1==k)=false:=List.any_eq_false.2 fun x hx hc=>by
  have e:x.1=k:=by simpa using hc
  have:=ha x hx
  rw [e,lt_irr] at this;cases this
 have h2:(c.any fun x=>x.1==k)=false:=List.any_eq_false.2 fun x hx hc2=>by
  have e:x.1=k:=by simpa using hc2
  have:=hc x hx
  rw [e,lt_irr] at this;cases this
 rw [h1,h2];simp
def PutTo (n:Nat) (r:Int) (es:Es) (ups:List IL) (b:LL) (k v:Bs) (ok:Bool) (e r':Int) (es':Es) (ups':List IL) (b':LL):Prop :=
 (e=0/\keyB k=true/\valB v=true/\flatB b'=putL (flatB b) k v/\ok = !hasS (keysL (flatB b)) k) ∨
 (ok=false/\r'=r/\es'=es/\ups'=ups/\b'=b/\((e=1/\(keyB k && valB v)=false)∨(e=6/\keyB k=true/\valB v=true/\n - es.length < ups.length+2)))
theorem put_ex {n:Nat} {r:Int} {es:Es} {ups:List IL} {b:LL} (h:WF n r es ups b) (k v:Bs) :
  ∃ok e r' es' ups' b',WF n r' es' ups' b'/\PutR n r es k v ok e r' es'/\PutTo n r es ups b k v ok e r' es' ups' b':=by
 cases hkv:(keyB k && valB v) with
 | false=>exact ⟨false,1,r,es,ups,b,h,.arg hkv,.inr ⟨rfl,rfl,rfl,rfl,rfl,.inl ⟨rfl,hkv⟩⟩⟩
 | true =>
  obtain ⟨hk,hv⟩:=Bool.and_eq_true_iff.1 hkv
  obtain ⟨p,h',ws,pre,prs,post,q1,q2,q3,q4,q5,q6⟩:=way_ok h.toWT hk
  have hF:=h.okF
  rw [q2] at hF
  have hr:rightL ⟨prs,h',nxt post 0⟩=true:=okF_enc hF
  obtain ⟨o,hx0,hx1⟩:=lfOk_of hr
  have hn:=h.shf.le
  have hul:=ups_len h.toWT
  have hll:=len_le h.shf
  obtain ⟨hgp,_⟩:=way_leaf q6
  have hord:=h.ord
  rw [q2] at hord
  have hpre:=(ord_parts hord).2.2.1
  obtain ⟨hca,hcc⟩:=way_cut hord hF q3 q4
  have hris:=flat_ris hord hF
  have efl:flatB (pre++(p,prs,h')::post)=flatB pre++(prs++flatB post):=by rw [flat_app,flat_cons]
  rw [efl] at hris
  have hput:=put_app (v:=v) hca hcc hris
  have hhas:=has_app hca hcc hris
  have hfb:flatB b=flatB pre++(prs++flatB post):=by rw [q2,efl]
  by_cases hz:wts (putL prs k v)<=231
  ·have o2:=putL_lf o hk hv q4 hz
   have hr2:=rightL_of o2 hx0 hx1
   have hat:=h.rep
   rw [q2] at hat
   have hat:=leaf_perm hat
   have hpm:=put_perm (b':=encL ⟨putL prs k v,h',nxt post 0⟩) h.shf.nd hat
   obtain ⟨ok1,ok3,ok2⟩:=(okT_app _ _ _).1 hF
   have hne:=ne_two h q2
   refine ⟨!hasS (keysL prs) k,0,r,putE es p (encL ⟨putL prs k v,h',nxt post 0⟩),ups,pre++(p,putL prs k v,h')::post,⟨⟨shf_put h.shf (mem_keys hat),hpm.trans (leaf_perm2 (U:=encU ups) (pre:=pre) (post:=post) (p:=p) (x:=(putL prs k v,h'))),?_,h.okI,(okT_app _ _ _).2 ⟨ok1,hr2,ok2⟩,ord_put hord ?_⟩,?_,h.rt⟩,.put h.shf hk hv q6 (by omega) hgp hr q4 hz hr2,.inl ⟨rfl,hk,hv,?_,?_⟩⟩
   ·have e:sumL (pre++(p,putL prs k v,h')::post)=sumL b:=by rw [q2];simp [sumL]
    exact dn_leaf e h.dn
   ·intro y hy x hx
    rcases putL_mem hx with rfl | hx
    ·exact q3 (y.1,y.2.2) (List.mem_map.2 ⟨y,hy,rfl⟩)
    ·exact (hpre y hy).2 x hx
   ·intro _ x hx
    rcases List.mem_append.1 hx with hx | hx
    ·exact hne x (.inl hx)
    ·rcases List.mem_cons.1 hx with rfl | hx
     ·exact putL_ne _ _ _
     ·exact hne x (.inr hx)
   ·rw [hfb,hput,flat_app,flat_cons]
   ·rw [hfb,hhas]
  ·by_cases hfree:n - es.length < ws.length+2
   ·exact ⟨false,6,r,es,ups,b,h,.full h.shf hk hv q6 (by omega) hgp hr q4 hz hfree,.inr ⟨rfl,rfl,rfl,rfl,rfl,.inr ⟨rfl,hk,hv,by omega⟩⟩⟩
   ·have hpw:=putL_wts prs k v
    have hkv:=weigh (x:=(k,v)) hk hv
    have h50:=wts_le50 o.mem
    have ow:=o.wt
    have hlen:2<=prs.length:=by omega
    obtain ⟨j,hj,hjf,hj2⟩:=free_page h.shf (by omega)
    obtain ⟨m0,m1,m2,m3⟩:=half_ok hlen (fun x hx=>(weigh (o.mem x hx).1 (o.mem x hx).2).2) o.wt
    have hx:prs[halfL prs]? = some prs[halfL prs]:=List.getElem?_eq_getElem m1
    obtain ⟨oA,oB,hsh,hks,hgB,z,hzp,hzs⟩:=half_lf o (halfL prs) hx m0
    generalize hxx:prs[halfL prs]=x at *
    have hlo':∀y∈pre,hlt y.2.2 x.1:=fun y hy=>⟨(hpre y hy).1.1,.inr (le_lt ((hpre y hy).2 z hzp) hzs)⟩
    have klo:∀y∈pre,lt k y.2.2=false:=fun y hy=>q3 (y.1,y.2.2) (List.mem_map.2 ⟨y,hy,rfl⟩)
    have hrA:=rightL_of oA (nx:=(j:Int)+1) (by omega) (by omega)
    have hrB:=rightL_of oB hx0 hx1
    have hroom:es.length+ups.length+2<=n:=by omega
    have htd:prs=prs.take (halfL prs)++(prs.drop (halfL prs)++[]):=by simp
    have htd2:prs=[]++(prs.take (halfL prs)++prs.drop (halfL prs)):=by simp
    have hA0:prs.take (halfL prs)≠[]:=by
     intro e
     rcases List.take_eq_nil_iff.1 e with h1 | h1
     ·omega
     ·rw [h1] at hlen;simp at hlen
    have hB0:prs.drop (halfL prs)≠[]:=by
     intro e
     have h1:=List.drop_eq_nil_iff.1 e
     omega
    have hrt:Ris' (prs.take (halfL prs)++prs.drop (halfL prs)):=by rw [List.take_append_drop];exact o.ri
    cases hks2:lt k x.1 with
    | true =>
     have hw:wts (putL (prs.take (halfL prs)) k v)<=231:=by have:=putL_wts (prs.take (halfL prs)) k v;omega
     have oA2:=putL_lf oA hk hv (.inr hks2) hw
     obtain ⟨r',es',ups',hW,hup⟩:=two_ok h q1 q2 hj hj2 oA2 oB (putL_ne _ _ _) hB0 hsh hks hlo'
      (fun y hy q hq=>by
       rcases putL_mem hq with rfl | hq
       ·exact klo y hy
       ·exact (hpre y hy).2 q (List.mem_of_mem_take hq))
      (fun y hy q hq=>(hpre y hy).2 q (List.mem_of_mem_drop hq)) hgB hroom
     refine ⟨!hasS (keysL prs) k,0,r',es',ups',_,hW,.split h.shf hk hv q6 (by omega) hgp hr q4 hz hfree hjf hj hj2 hlen hx hrA hrB (rightL_of oA2 (by omega) (by omega)) hrB (.inl ⟨hks2,rfl,hw,rfl⟩) hup,.inl ⟨rfl,hk,hv,?_,by rw [hfb,hhas]⟩⟩
     have hgk:∀y∈prs.drop (halfL prs),lt k y.1=true:=fun y hy=>by
      have h0:=hgB y hy
      by_cases e:y.1=x.1
      ·rw [e];exact hks2
      ·exact lt_trans hks2 (lt_tri h0 e)
     have:=put_app (a:=[]) (m:=prs.take (halfL prs)) (c:=prs.drop (halfL prs)) (k:=k) (v:=v) (by simp) hgk (by simpa using hrt)
     rw [<-htd2] at this
     rw [hfb,hput,this,flat_app,flat_cons,flat_cons]
     simp
    | false =>
     have hw:wts (putL (prs.drop (halfL prs)) k v)<=231:=by have:=putL_wts (prs.drop (halfL prs)) k v;omega
     have oB2:=putL_lf oB hk hv q4 hw
     obtain ⟨r',es',ups',hW,hup⟩:=two_ok h q1 q2 hj hj2 oA oB2 hA0 (putL_ne _ _ _) hsh hks hlo'
      (fun y hy q hq=>(hpre y hy).2 q (List.mem_of_mem_take hq))
      (fun y hy q hq=>by
       rcases putL_mem hq with rfl | hq
       ·exact klo y hy
       ·exact (hpre y hy).2 q (List.mem_of_mem_drop hq))
      (fun q hq=>by
       rcases putL_mem hq with rfl | hq
       ·exact hks2
       ·exact hgB q hq) hroom
     refine ⟨!hasS (keysL prs) k,0,r',es',ups',_,hW,.split h.shf hk hv q6 (by omega) hgp hr q4 hz hfree hjf hj hj2 hlen hx hrA hrB hrA (rightL_of oB2 hx0 hx1) (.inr ⟨hks2,rfl,rfl,hw⟩) hup,.inl ⟨rfl,hk,hv,?_,by rw [hfb,hhas]⟩⟩
     have hlk:∀y∈prs.take (halfL prs),lt y.1 k=true:=fun y hy=>by
      have h1:=(oA.hi.resolve_left (key_ne hks)).2 y hy
      by_cases e:k=x.1
      ·rw [e];exact h1
      ·exact lt_trans h1 (lt_tri hks2 e)
     have:=put_app (a:=prs.take (halfL prs)) (m:=prs.drop (halfL prs)) (c:=[]) (k:=k) (v:=v) hlk (by simp) (by simpa using hrt)
     rw [<-htd] at this
     rw [hfb,hput,this,flat_app,flat_cons,flat_cons]
     simp
def pgsI {α:Type} (l:List (Int × α)):List Int:=l.map (·.1)
def lvV (ups:List IL) (b:LL):List V:=(ups.map fun l=>V.sl (ints (pgsI l)))++[V.sl (ints (pgsI b))]
def InE {α:Type} (f:α->Int->Bs) (es:Es) (l:List (Int × α)):Prop:=∀x∈encT f l 0,x∈es
theorem mem_okT {α:Type} {f:α->Int->Bs} {g:α->Int->Prop}:∀{l:List (Int × α)} {n:Int},okT g l n->∀x∈l,∃m,g x.2 m/\(x.1,f x.2 m)∈encT f l n
 |(p,y)::l,n,h,x,hx=>by
  rcases List.mem_cons.1 hx with rfl | hx
  ·exact ⟨_,h.1,by rw [encT];simp⟩
  ·obtain ⟨m,h1,h2⟩:=mem_okT (f:=f) h.2 x hx
   exact ⟨m,h1,by rw [encT];simp [h2]⟩
theorem ints_get {l:List Int} {i:Nat} {x:Int} {k:V->R} (h:l[i]? = some x):idxK (ints l) i k=k (.int .i64 x):=idxK_ints h
theorem lev_inn {n:Nat} {r:Int} {es:Es} (hS:Shf n es) (P:List Int) (hP:P.length<=2000) (m6:List V) {o:Out} :
  ∀(l:IL) (i:Nat) (acc:List Int),P.drop i=pgsI l->(∀x∈l,∃m,okI x.2 m/\(x.1,encI x.2 m)∈es)->acc.length+(kidsI l).length<=2000->i<=P.length ->
  Go qk true 5 (fF 87) (.head 1 (T87_1 (ints P) (P.length:Int) (P.length:Int) r n (esV es) (bitsV n (tkn es)) m6 (ints (acc++pgsI (kidsI l))))) o ->
  Go qk true 5 (fF 87) (.head 1 (T87_1 (ints P) (P.length:Int) (i:Int) r n (esV es) (bitsV n (tkn es)) m6 (ints acc))) o
 | [],i,acc,hd,_,_,hi0,hg=>by
  have hi:=drop_nil hd
  have e:i=P.length:=by omega
  subst e
  simpa [kidsI,pgsI] using hg
 |(q,x)::l,i,acc,hd,hok,hlen,hi0,hg=>by
  obtain ⟨h1,h2,h3⟩:=drop_cons hd
  obtain ⟨m,⟨hne,hr⟩,hm⟩:=hok (q,x) (by simp)
  have hge:=get_mem hS.nd hm
  have e1:kidsI ((q,x)::l)=x++kidsI l:=by simp [kidsI]
  rw [e1] at hlen hg
  rw [List.length_append] at hlen
  have w:W .i64 ((i:Int)+1)=((i+1:Nat):Int):=by rw [W_i64 (by omega)];omega
  refine s87_1_run _ _ _ _ _ _ _ _ _ (o:=.head 1 (T87_1 (ints P) (P.length:Int) ((i+1:Nat):Int) r n (esV es) (bitsV n (tkn es)) m6 (ints (acc++pgsI x)))) ?_
   (lev_inn hS P hP m6 l (i+1) (acc++pgsI x) h2 (fun y hy=>hok y (by simp [hy])) (by simp [pgsI];omega) (by omega) (by rw [List.append_assoc];simpa [pgsI] using hg))
  unfold s87_1
  rw [decide_eq_true (by omega),cond_true,gd_of (by simp),toNat_cast,ints_get h1,kI_mk,rd_inn hS hge hr,gdS_eq,gd_of (wfl_ints _),gd_of (decide_eq_true (by simp only [ints_len,List.length_map];omega)),w,ints_app]
  rfl
theorem lev_leaf {n:Nat} {r:Int} {es:Es} (hS:Shf n es) (P:List Int) (hP:P.length<=2000) (m6:List V) {o:Out} :
  ∀(l:LL) (i:Nat),P.drop i=pgsI l->(∀x∈l,∃m,okF x.2 m/\(x.1,encF x.2 m)∈es)->i<=P.length ->
  Go qk true 5 (fF 87) (.head 1 (T87_1 (ints P) (P.length:Int) (P.length:Int) r n (esV es) (bitsV n (tkn es)) m6 [])) o ->
  Go qk true 5 (fF 87) (.head 1 (T87_1 (ints P) (P.length:Int) (i:Int) r n (esV es) (bitsV n (tkn es)) m6 [])) o
 | [],i,hd,_,hi,hg=>by
  have h1:=drop_nil hd
  have e:i=P.length:=by omega
  subst e
  exact hg
 |(q,x)::l,i,hd,hok,hi,hg=>by
  obtain ⟨h1,h2,h3⟩:=drop_cons hd
  obtain ⟨m,hr,hm⟩:=hok (q,x) (by simp)
  have hge:=get_mem hS.nd hm
  have w:W .i64 ((i:Int)+1)=((i+1:Nat):Int):=by rw [W_i64 (by omega)];omega
  refine s87_1_run _ _ _ _ _ _ _ _ _ (o:=.head 1 (T87_1 (ints P) (P.length:Int) ((i+1:Nat):Int) r n (esV es) (bitsV n (tkn es)) m6 [])) ?_
   (lev_leaf hS P hP m6 l (i+1) h2 (fun y hy=>hok y (by simp [hy])) (by omega) hg)
  unfold s87_1
  rw [decide_eq_true (by omega),cond_true,gd_of (by simp),toNat_cast,ints_get h1,kI_mk,rd_leaf (l:=⟨x.1,x.2,m⟩) hS hge hr,gdS_eq,w]
theorem pgs_sumL (b:LL):pgsI (sumL b)=pgsI b:=by simp [sumL,pgsI]
theorem pgs_sumI (l:IL):pgsI (sumI l)=pgsI l:=by simp [sumI,pgsI]
theorem dn_len {s:Su} {d:List IL} {b:LL} (h:Dn s d b) (hd:∀l∈d,l.length<=1024) (hb:b.length<=1024):s.length<=1024:=by
 cases d with
 | nil=>rw [dn_nil h,sumL,List.length_map];exact hb
 | cons l d=>rw [(dn_cons h).1,sumI,List.length_map];exact hd l (by simp)
theorem kids_ne {l:IL} (h:l≠[]) (hn:∀x∈l,x.2≠[]):kidsI l≠[]:=by
 obtain ⟨x,t,rfl⟩:=List.exists_cons_of_ne_nil h
 intro h0
 rw [kidsI,List.flatMap_cons,List.append_eq_nil_iff] at h0
 exact hn x (by simp) h0.1
theorem lev_start {n:Nat} {r:Int} {es:List (V × V)} {bs:List V} {acc:List V} {P:List Int} {o:Out} (hl:acc.length<=3000)
  (h:Go qk true 5 (fF 87) (.head 1 (T87_1 (ints P) (P.length:Int) ((0:Nat):Int) r n es bs (acc++[V.sl (ints P)]) [])) o) :
  Go qk true 5 (fF 87) (.head 0 (T87_0 r n es bs (acc++[V.sl (ints P)]))) o:=by
 have w:W .i64 (((acc++[V.sl (ints P)]).length:Int) - 1)=((acc.length:Nat):Int):=by
  rw [List.length_append,W_i64 (by simp;omega)];simp
 have hg:(acc++[V.sl (ints P)])[acc.length]? = some (V.sl (ints P)):=by simp
 refine s87_0_run _ _ _ _ _ ?_ h
 unfold s87_0
 rw [w,gd_of (by simp),gd_of (decide_eq_true (by simp)),toNat_cast,idxK_of hg,kL_mk,ints_len]
 rfl
theorem lev_loop {n:Nat} {r:Int} {es:Es} (hS:Shf n es):∀(d:List IL) (b:LL) (s:Su) (acc:List V),Dn s d b->(∀l∈d,okT okI l 0)->okT okF b 0->(∀l∈d,InE encI es l)->InE encF es b->(∀l∈d,l.length<=1024)->b.length<=1024->acc.length+d.length<=2000->s≠[] ->
  Go qk true 5 (fF 87) (.head 0 (T87_0 r n (esV es) (bitsV n (tkn es)) (acc++[V.sl (ints (pgsI s))]))) (.doneM (.own 5) (tM r n es++[O.row 80 (acc++lvV d b) 0]))
 | [],b,s,acc,hd,_,hF,_,hE,_,hb,hl,_=>by
  have e:=dn_nil hd
  have ep:pgsI s=pgsI b:=by rw [e,pgs_sumL]
  rw [ep]
  have hbl:(pgsI b).length=b.length:=by simp [pgsI]
  refine lev_start (by simp at hl;omega) (lev_leaf hS (pgsI b) (by omega) _ b 0 rfl (fun x hx=>?_) (by omega) (s87_1_run _ _ _ _ _ _ _ _ _ ?_ (.refl _)))
  ·obtain ⟨m,h1,h2⟩:=mem_okT (f:=encF) hF x hx
   exact ⟨m,h1,hE _ h2⟩
  ·unfold s87_1
   rw [decide_eq_false (by omega),cond_false]
   rfl
 | l::d,b,s,acc,hd,hI,hF,hEI,hE,hdl,hb,hl,hne=>by
  obtain ⟨e,hdk⟩:=dn_cons hd
  have ep:pgsI s=pgsI l:=by rw [e,pgs_sumI]
  have hll:=hdl l (List.mem_cons_self ..)
  have hpl:(pgsI l).length=l.length:=by simp [pgsI]
  have hkl:=dn_len hdk (fun x hx=>hdl x (by simp [hx])) hb
  have hlne:l≠[]:=by rintro rfl;exact hne e
  have hkne:=kids_ne hlne (okI_ne (hI _ (List.mem_cons_self ..)))
  have ih:=lev_loop (r:=r) hS d b (kidsI l) (acc++[V.sl (ints (pgsI l))]) hdk (fun x hx=>hI x (by simp [hx])) hF (fun x hx=>hEI x (by simp [hx])) hE (fun x hx=>hdl x (by simp [hx])) hb (by simp at hl |-;omega) hkne
  have e2:acc++[V.sl (ints (pgsI l))]++lvV d b=acc++lvV (l::d) b:=by simp [lvV]
  rw [e2] at ih
  rw [ep]
  refine lev_start (by simp at hl;omega) (lev_inn hS (pgsI l) (by omega) _ l 0 [] rfl (fun x hx=>?_) (by simp;omega) (by omega) (s87_1_run _ _ _ _ _ _ _ _ _ ?_ ih))
  ·obtain ⟨m,h1,h2⟩:=mem_okT (f:=encI) (hI _ (List.mem_cons_self ..)) x hx
   exact ⟨m,h1,hEI _ (List.mem_cons_self ..) _ h2⟩
  ·unfold s87_1
   rw [List.nil_append,decide_eq_false (by omega),cond_false,ibeq_f,cond_false,gd_of (decide_eq_true (by simp at hl |-;omega))]
   rw [ints_len,pgsI,List.length_map]
   have:0 < (kidsI l).length:=List.length_pos_iff.2 hkne
   omega
theorem levels_len {n:Nat} {r:Int} {es:Es} {ups:List IL} {b:LL} (h:WT n r es ups b):(∀l∈ups,l.length<=1024)/\b.length<=1024:=by
 have h2:=h.rep.length_eq
 have h3:=len_le h.shf
 have h4:=h.shf.le
 rw [List.length_append,encT_len] at h2
 refine ⟨fun l hl=>?_,by omega⟩
 have:∀{u:List IL},l∈u->l.length<=(encU u).length:=by
  intro u hu
  induction u with
  | nil=>cases hu
  | cons x u ih =>
   rw [encU_cons,List.length_append,encT_len]
   rcases List.mem_cons.1 hu with rfl | hu
   ·omega
   ·have:=ih hu;omega
 have:=this hl
 omega
theorem inE_up {n:Nat} {r:Int} {es:Es} {ups:List IL} {b:LL} (h:WT n r es ups b):(∀l∈ups,InE encI es l)/\InE encF es b :=
 ⟨fun l hl x hx=>h.rep.mem_iff.2 (List.mem_append_left _ (List.mem_flatMap.2 ⟨l,hl,hx⟩)),fun x hx=>h.rep.mem_iff.2 (List.mem_append_right _ hx)⟩
theorem levels_ok {n:Nat} {r:Int} {es:Es} {ups:List IL} {b:LL} (h:WT n r es ups b):icC qcfg cmT 87 [.ptr 0 0 0] (tM r n es)=some (mk87 (tM r n es) (lvV ups b)):=by
 have hl:=ups_len h
 obtain ⟨h1,h2⟩:=levels_len h
 obtain ⟨h3,h4⟩:=inE_up h
 have:=lev_loop (r:=r) h.shf ups b [(r,[])] [] h.dn h.okI h.okF h3 h4 h1 h2 (by simp;omega) (by simp)
 exact e87_run _ _ _ _ rfl ⟨_,_,this,by kernel_rfl⟩
theorem leaves_ok {n:Nat} {r:Int} {es:Es} {ups:List IL} {b:LL} (h:WT n r es ups b):icC qcfg cmT 46 [.ptr 0 0 0] (tM r n es)=some (mk46 (tM r n es) (ints (pgsI b))):=by
 have hl:=ups_len h
 have hlen:(lvV ups b).length=ups.length+1:=by simp [lvV]
 have w:W .i64 (((lvV ups b).length:Int) - 1)=((ups.length:Nat):Int):=by rw [hlen,W_i64 (by omega)];omega
 have hg:(lvV ups b)[ups.length]? = some (V.sl (ints (pgsI b))):=by simp [lvV]
 refine e46_run _ _ _ _ (o:=.doneM (.sl (ints (pgsI b))) (tM r n es++[O.row 3 [] 0])) ?_ (.done (by kernel_rfl))
 unfold e46
 rw [icR_of mk87_inj (levels_ok h),gdS_eq,w,gd_of (by simp),toNat_cast,idxK_of hg,kL_mk]
def scanL (from0:Bs) (n:Int):List Pr->List Pr->List Pr
 | acc,[]=>acc
 | acc,x::r=>scanL from0 n (if !(lt x.1 from0) && decide ((acc.length:Int) < n) then acc++[x] else acc) r
theorem scanL_app (f:Bs) (n:Int):∀(a b acc:List Pr),scanL f n acc (a++b)=scanL f n (scanL f n acc a) b
 | [],_,_=>rfl
 | x::a,b,acc=>by rw [List.cons_append,scanL,scanL,scanL_app f n a b]
theorem scanL_len (f:Bs) (n:Int):∀(l acc:List Pr),(scanL f n acc l).length<=acc.length+l.length
 | [],_=>Nat.le_refl _
 | x::l,acc=>by
  have h:=scanL_len f n l (if !(lt x.1 f) && decide ((acc.length:Int) < n) then acc++[x] else acc)
  rw [scanL,List.length_cons]
  refine Nat.le_trans h ?_
  split
  ·rw [List.length_append,List.length_cons,List.length_nil];omega
  ·omega
theorem scanL_full (f:Bs) (n:Int):∀(l acc:List Pr),n<=acc.length->scanL f n acc l=acc
 | [],_,_=>rfl
 | x::l,acc,h=>by rw [scanL,decide_eq_false (by omega),Bool.and_false];exact scanL_full f n l acc h
theorem scanL_eq (f:Bs) (n:Nat):∀(l acc:List Pr),acc.length<=n->scanL f n acc l=acc++(l.filter fun x=>!(lt x.1 f)).take (n - acc.length)
 | [],acc,_=>by simp [scanL]
 | x::l,acc,h=>by
  rw [scanL]
  cases hx:lt x.1 f with
  | true =>
   rw [List.filter_cons_of_neg (by simp [hx])]
   exact scanL_eq f n l acc h
  | false =>
   rw [List.filter_cons_of_pos (by simp [hx])]
   by_cases hn:acc.length < n
   ·rw [decide_eq_true (by omega)]
    have:=scanL_eq f n l (acc++[x]) (by simp;omega)
    refine this.trans ?_
    obtain ⟨k,hk⟩:∃k,n - acc.length=k+1:=⟨n - acc.length - 1,by omega⟩
    rw [hk,List.take_succ_cons]
    have e:n - (acc++[x]).length=k:=by simp;omega
    rw [e];simp
   ·rw [decide_eq_false (by omega)]
    have e:n - acc.length=0:=by omega
    rw [e,List.take_zero,List.append_nil]
    exact scanL_full f n l acc (by omega)
theorem scan_pr {n:Nat} {r:Int} {es:Es} {f:Bs} {cnt:Int} {P:List V} {np i:Int} {prs:List Pr} (hp:prs.length<=1000) {o:Out}:∀(l:List Pr) (j:Nat) (acc:List Pr),prs.drop j=l->j<=prs.length->acc.length+l.length<=10000000 ->
  Go qk true 5 (fF 34) (.head 0 (T34_0 f cnt P np (W .i64 (i+1)) r n (esV es) (bitsV n (tkn es)) (psV (scanL f cnt acc l)))) o ->
  Go qk true 5 (fF 34) (.head 1 (T34_1 f cnt P np i (psV prs) (prs.length:Int) (j:Int) r n (esV es) (bitsV n (tkn es)) (psV acc))) o
 | [],j,acc,hd,hj,_,hg=>by
  have h1:=drop_nil hd
  refine s34_1_run _ _ _ _ _ _ _ _ _ _ _ _ _ ?_ hg
  unfold s34_1
  rw [decide_eq_false (by omega),cond_false]
  rfl
 | x::l,j,acc,hd,hj,hl,hg=>by
  obtain ⟨h1,h2,h3⟩:=drop_cons hd
  have w:W .i64 ((j:Int)+1)=((j+1:Nat):Int):=by rw [W_i64 (by omega)];omega
  simp only [List.length_cons] at hl
  rw [scanL] at hg
  have hs:s34_1 f cnt P np i (psV prs) (prs.length:Int) (j:Int) r n (esV es) (bitsV n (tkn es)) (psV acc)=some (.head 1 (T34_1 f cnt P np i (psV prs) (prs.length:Int) ((j+1:Nat):Int) r n (esV es) (bitsV n (tkn es)) (psV (if !(lt x.1 f) && decide ((acc.length:Int) < cnt) then acc++[x] else acc)))):=by
   unfold s34_1
   rw [decide_eq_true (by omega),cond_true,gd_of (by simp),toNat_cast,idxK_ps h1,d41_mk,w,psV_len]
   show (cond (!(lt x.1 f)) _ _)=_
   cases lt x.1 f with
   | true=>rfl
   | false =>
    rw [Bool.not_false,cond_true,Bool.true_and]
    cases decide ((acc.length:Int) < cnt) with
    | true =>
     rw [cond_true,gd_of (decide_eq_true (by simp;omega))]
     simp [psV]
    | false=>rfl
  refine s34_1_run _ _ _ _ _ _ _ _ _ _ _ _ _ hs (scan_pr hp l (j+1) _ h2 (by omega) ?_ hg)
  split
  ·simp;omega
  ·omega
theorem scan_loop {n:Nat} {r:Int} {es:Es} (hS:Shf n es) {f:Bs} {cnt:Int} (P:List Int) (hP:P.length<=2000):∀(l:LL) (i:Nat) (acc:List Pr),P.drop i=pgsI l->(∀x∈l,∃m,okF x.2 m/\(x.1,encF x.2 m)∈es)->i<=P.length->acc.length+1000 * l.length<=5000000 ->
  Go qk true 5 (fF 34) (.head 0 (T34_0 f cnt (ints P) (P.length:Int) (i:Int) r n (esV es) (bitsV n (tkn es)) (psV acc))) (.doneM (.own 6) (tM r n es++[O.row 41 [] 0,O.row 41 (psV (scanL f cnt acc (flatB l))) 0]))
 | [],i,acc,hd,_,hi,_=>by
  have h1:=drop_nil hd
  refine s34_0_run _ _ _ _ _ _ _ _ _ _ ?_ (.refl _)
  unfold s34_0
  rw [decide_eq_false (by omega),cond_false]
  rfl
 |(q,prs,h)::l,i,acc,hd,hok,hi,hl=>by
  obtain ⟨h1,h2,h3⟩:=drop_cons hd
  obtain ⟨m,hr,hm⟩:=hok (q,prs,h) (by simp)
  have hge:=get_mem hS.nd hm
  have hr:rightL ⟨prs,h,m⟩=true:=hr
  have g:=goodL hr
  have g1:=g.len;have g2:=g.wt
  simp only at g1 g2
  have w:W .i64 ((i:Int)+1)=((i+1:Nat):Int):=by rw [W_i64 (by omega)];omega
  simp only [List.length_cons] at hl
  have hsl:=scanL_len f cnt prs acc
  have ih:=scan_loop (r:=r) (f:=f) (cnt:=cnt) hS P hP l (i+1) (scanL f cnt acc prs) h2 (fun y hy=>hok y (by simp [hy])) (by omega) (by omega)
  rw [<-scanL_app,<-flat_cons q prs h,<-w] at ih
  refine s34_0_run _ _ _ _ _ _ _ _ _ _ ?_ (scan_pr (prs:=prs) (by omega) prs 0 acc rfl (by omega) (by omega) ih)
  unfold s34_0
  rw [decide_eq_true (by omega),cond_true,gd_of (by simp),toNat_cast,ints_get h1,kI_mk,rd_leaf (l:=⟨prs,h,m⟩) hS hge hr,gdS_eq]
  show some _=some _
  rw [psV_len]
  rfl
theorem scan_ok {n:Nat} {r:Int} {es:Es} {ups:List IL} {b:LL} (h:WT n r es ups b) (f:Bs) (cnt:Int):icC qcfg cmT 34 [.ptr 0 0 0,.str f,.int .i64 cnt] (tM r n es)=some (mk34 (tM r n es) (psV (scanL f cnt [] (flatB b)))):=by
 obtain ⟨h1,h2⟩:=levels_len h
 obtain ⟨h3,h4⟩:=inE_up h
 have hbl:(pgsI b).length=b.length:=by simp [pgsI]
 have:=scan_loop (r:=r) (f:=f) (cnt:=cnt) h.shf (pgsI b) (by omega) b 0 [] rfl (fun x hx=>by
  obtain ⟨m,h1,h2⟩:=mem_okT (f:=encF) h.okF x hx
  exact ⟨m,h1,h4 _ h2⟩) (by omega) (by simp;omega)
 refine e34_run _ _ _ _ _ _ ?_ ⟨_,_,this,by kernel_rfl⟩
 unfold e34
 rw [icR_of mk46_inj (leaves_ok h),gdS_eq,ints_len]
 rfl
abbrev Ris (l:List Pr):Prop:=l.Pairwise fun x y=>lt x.1 y.1=true
theorem lt_le {x h z:Bs} (h1:lt x h=true) (h2:lt z h=false):lt x z=true:=by
 by_cases e:z=h
 ·rw [e];exact h1
 ·exact lt_trans h1 (lt_tri h2 e)
theorem flat_rises:∀{b:LL} {n:Int},OrdB b->okT okF b n->Ris (flatB b)/\∀x∈flatB b,keyB x.1=true
 | [],_,_,_=>⟨.nil,fun _ h=>nomatch h⟩
 |(p,prs,h)::b,n,ho,hk=>by
  obtain ⟨h1,h2⟩:=List.pairwise_cons.1 ho
  obtain ⟨o,_,_⟩:=lfOk_of (show rightL ⟨prs,h,nxt b n⟩=true from hk.1)
  obtain ⟨i1,i2⟩:=flat_rises h2 hk.2
  rw [flat_cons]
  refine ⟨List.pairwise_append.2 ⟨o.ri,i1,?_⟩,?_⟩
  ·intro x hx y hy
   obtain ⟨z,hz,hy⟩:=List.mem_flatMap.1 hy
   obtain ⟨q1,q2⟩:=h1 z hz
   rcases o.hi with h0 | ⟨_,h0⟩
   ·exact absurd h0 q1.1
   ·exact lt_le (h0 x hx) (q2 y hy)
  ·intro x hx
   rcases List.mem_append.1 hx with hx | hx
   ·exact (o.mem x hx).1
   ·exact i2 x hx
def inR (f t:Bs) (x:Pr):Bool:=!(lt x.1 f) && (t==[] || lt x.1 t)
def leftL (f t l:Bs) (L:List Pr):List Pr:=L.filter fun x=>inR f t x && (l==[] || lt l x.1)
def nx (t l:Bs):List Pr->Option Pr
 | []=>none
 | x::r=>if !(t==[]) && !(lt x.1 t) then none else if l==[] || lt l x.1 then some x else nx t l r
abbrev mx (f l:Bs):Bs:=if Op.bytesLess f l then l else f
theorem left_scan {f t l:Bs} {L:List Pr}:leftL f t l L=(L.filter fun x=>!(lt x.1 (mx f l))).filter fun x=>(t==[] || lt x.1 t) && (l==[] || lt l x.1):=by
 unfold leftL
 rw [List.filter_filter]
 refine List.filter_congr fun x _=>?_
 unfold inR mx
 cases hfl:Op.bytesLess f l with
 | false =>
  rw [if_neg (by simp)]
  cases !(lt x.1 f)<;>cases (t==[] || lt x.1 t)<;>cases (l==[] || lt l x.1)<;>rfl
 | true =>
  have hfl:lt f l=true:=hfl
  rw [if_pos rfl]
  have hne:(l==[])=false:=by
   cases l with
   | nil=>cases f<;>cases hfl
   | cons _ _=>rfl
  rw [hne,Bool.false_or]
  cases hlx:lt l x.1 with
  | false=>cases !(lt x.1 f)<;>cases (t==[] || lt x.1 t)<;>cases !(lt x.1 l)<;>rfl
  | true =>
   have h1:=lt_asymm hlx
   have h2:=lt_asymm (lt_trans hfl hlx)
   rw [h1,h2]
   cases (t==[] || lt x.1 t)<;>rfl
theorem far_none {t l:Bs} {x:Pr} {r:List Pr} (hr:Ris (x::r)) (ht:(t==[] || lt x.1 t)=false):(x::r).filter (fun x=>(t==[] || lt x.1 t) && (l==[] || lt l x.1))=[]:=by
 rw [List.filter_eq_nil_iff]
 intro y hy
 have:(t==[] || lt y.1 t)=false:=by
  rcases List.mem_cons.1 hy with rfl | hy
  ·exact ht
  ·have hxy:=(List.pairwise_cons.1 hr).1 y hy
   simp only [Bool.or_eq_false_iff] at ht |-
   refine ⟨ht.1,?_⟩
   cases hyt:lt y.1 t with
   | false=>rfl
   | true=>rw [lt_trans hxy hyt] at ht;cases ht.2
 rw [this];simp
theorem cut_not {t:Bs} {k:Bs}:(!(t==[]) && !(lt k t)) = !(t==[] || lt k t):=by cases t==[]<;>cases lt k t<;>rfl
theorem nx_eq {f t l:Bs} {L:List Pr} (hr:Ris L):nx t l ((L.filter fun x=>!(lt x.1 (mx f l))).take 2)=(leftL f t l L).head?:=by
 rw [left_scan]
 have hF:Ris (L.filter fun x=>!(lt x.1 (mx f l))):=hr.filter _
 have hge:∀x∈L.filter (fun x=>!(lt x.1 (mx f l))),lt x.1 l=false:=by
  intro x hx
  have:=(List.mem_filter.1 hx).2
  have this:lt x.1 (mx f l)=false:=by simpa using this
  unfold mx at this
  split at this
  ·exact this
  ·rename_i hfl
   have hfl:lt f l=false:=by simpa [lt] using hfl
   cases h2:lt x.1 l with
   | false=>rfl
   | true=>rw [lt_le h2 hfl] at this;cases this
 generalize L.filter (fun x=>!(lt x.1 (mx f l)))=F at hF hge
 match F,hF,hge with
 | [],_,_=>rfl
 | x::r,hF,hge =>
  rw [List.take_succ_cons,nx,cut_not]
  cases ht:(t==[] || lt x.1 t) with
  | false=>rw [far_none hF ht];rfl
  | true =>
   rw [Bool.not_true,if_neg (by simp)]
   cases hl:(l==[] || lt l x.1) with
   | true=>rw [if_pos rfl,List.filter_cons_of_pos (by rw [ht,hl];rfl)];rfl
   | false =>
    rw [if_neg (by simp),List.filter_cons_of_neg (by rw [hl];simp)]
    have hx:x.1=l:=by
     have h1:=hge x (by simp)
     have h2:lt l x.1=false:=(Bool.or_eq_false_iff.1 hl).2
     exact Classical.byContradiction fun e=>by rw [lt_tri h1 e] at h2;cases h2
    match r,hF with
    | [],_=>rfl
    | y::r,hF =>
     obtain ⟨h1,h2⟩:=List.pairwise_cons.1 hF
     have hxy:=h1 y (by simp)
     rw [hx] at hxy
     rw [List.take_succ_cons,nx,cut_not]
     cases ht2:(t==[] || lt y.1 t) with
     | false=>rw [far_none h2 ht2];rfl
     | true =>
      rw [Bool.not_true,if_neg (by simp),hxy,Bool.or_true,if_pos rfl,List.filter_cons_of_pos (by rw [ht2,hxy];simp)]
      rfl
abbrev cM (f t l:Bs) (r:Int) (n:Nat) (es:Es):List O:=cm f t l r (n:Int) (esV es) (bitsV n (tkn es))
def nxV (f t l:Bs) (r:Int) (n:Nat) (es:Es):Option Pr->Bs × Bs × Bool × Bs × Bs × Bs × Int × Int × List (V × V) × List V
 | none=>([],[],false,f,t,l,r,n,esV es,bitsV n (tkn es))
 | some x=>(x.1,x.2,true,f,t,x.1,r,n,esV es,bitsV n (tkn es))
theorem next_loop {f t l:Bs} {r:Int} {n:Nat} {es:Es} (S:List Pr) (hS:S.length<=1000):∀(q:List Pr) (i:Nat),S.drop i=q->i<=S.length ->
  ∃v m,Go qk true 6 (fF 21) (.head 0 (T21_0 (psV S) (S.length:Int) (i:Int) f t l r n (esV es) (bitsV n (tkn es)))) (.doneM v m)/\canNorm cmT (cM f t l r n es) v m=mk21 (nxV f t l r n es (nx t l q))
 | [],i,hd,hi=>by
  have h1:=drop_nil hd
  refine ⟨.tup [.agg [.str [],.str []],.bool false],cM f t l r n es++[O.box 41 (.agg [.str [],.str []]) false],s21_0_run _ _ _ _ _ _ _ _ _ _ ?_ (.refl _),by kernel_rfl⟩
  unfold s21_0
  rw [decide_eq_false (by omega),cond_false]
 | x::q,i,hd,hi=>by
  obtain ⟨h1,h2,h3⟩:=drop_cons hd
  have w:W .i64 ((i:Int)+1)=((i+1:Nat):Int):=by rw [W_i64 (by omega)];omega
  have hs:s21_0 (psV S) (S.length:Int) (i:Int) f t l r n (esV es) (bitsV n (tkn es))=cond (!(t==[]) && !(lt x.1 t)) (some (.doneM (.tup [.agg [.str [],.str []],.bool false]) (cM f t l r n es++[O.box 41 (.agg [.str [],.str []]) false])))
    (cond (l==[] || lt l x.1) (some (.doneM (.tup [.agg [.str x.1,.str x.2],.bool true]) (cM f t x.1 r n es++[O.box 41 (.agg [.str x.1,.str x.2]) false]))) (some (.head 0 (T21_0 (psV S) (S.length:Int) ((i+1:Nat):Int) f t l r n (esV es) (bitsV n (tkn es)))))):=by
   unfold s21_0
   rw [decide_eq_true (by omega),cond_true,gd_of (by simp),toNat_cast,idxK_ps h1,d41_mk,w,le_not x.1 l,Bool.not_not]
   show (cond (!(t==[])) (cond (!(lt x.1 t)) _ _) _)=_
   cases t==[]<;>cases lt x.1 t<;>cases l==[]<;>cases lt l x.1<;>rfl
  rw [nx]
  cases hc:(!(t==[]) && !(lt x.1 t)) with
  | true =>
   rw [hc,cond_true] at hs
   exact ⟨_,_,s21_0_run _ _ _ _ _ _ _ _ _ _ hs (.refl _),by rw [if_pos rfl];kernel_rfl⟩
  | false =>
   rw [hc,cond_false] at hs
   cases hl:(l==[] || lt l x.1) with
   | true =>
    rw [hl,cond_true] at hs
    exact ⟨_,_,s21_0_run _ _ _ _ _ _ _ _ _ _ hs (.refl _),by rw [if_neg (by simp),if_pos rfl];kernel_rfl⟩
   | false =>
    rw [hl,cond_false] at hs
    obtain ⟨v,m,g1,g2⟩:=next_loop S hS q (i+1) h2 (by omega)
    exact ⟨v,m,s21_0_run _ _ _ _ _ _ _ _ _ _ hs g1,by rw [if_neg (by simp),if_neg (by simp)];exact g2⟩
theorem next_ok {n:Nat} {r:Int} {es:Es} {ups:List IL} {b:LL} (h:WT n r es ups b) (f t l:Bs):icC qcfg cmT 21 [.ptr 0 0 0,.ptr 1 0 0] (cM f t l r n es)=some (mk21 (nxV f t l r n es (leftL f t l (flatB b)).head?)):=by
 obtain ⟨h1,h2⟩:=flat_rises h.ord h.okF
 have hs:scanL (mx f l) 2 [] (flatB b)=((flatB b).filter fun x=>!(lt x.1 (mx f l))).take 2:=by
  have:=scanL_eq (mx f l) 2 (flatB b) [] (by simp)
  simpa using this
 have hlen:(scanL (mx f l) 2 [] (flatB b)).length<=1000:=by rw [hs,List.length_take];omega
 obtain ⟨v,m,g1,g2⟩:=next_loop (f:=f) (t:=t) (l:=l) (r:=r) (n:=n) (es:=es) (scanL (mx f l) 2 [] (flatB b)) hlen (scanL (mx f l) 2 [] (flatB b)) 0 rfl (by omega)
 rw [hs,nx_eq h1] at g2
 refine e21_run _ _ _ _ _ _ _ ?_ ⟨v,m,g1,g2⟩
 unfold e21
 rw [icR_of mk34_inj (scan_ok h (mx f l) 2),gdS_eq,psV_len]
 rfl
abbrev Op4:=Int × Bs × Bs × Int
def opV (o:Op4):V:=.agg [.int .i64 o.1,.str o.2.1,.str o.2.2.1,.int .i64 o.2.2.2]
def opsV (l:List Op4):List V:=l.map opV
theorem ops_len (l:List Op4):(opsV l).length=l.length:=by simp [opsV]
theorem cap16 (n:Nat):(if 16 < (n:Int) then (16:Int) else (n:Int))=((min 16 n:Nat):Int):=by split<;>omega
theorem cap20 (n:Nat):(if 20 < (n:Int) then (20:Int) else (n:Int))=((min 20 n:Nat):Int):=by split<;>omega
theorem cap40 (n:Nat):(if 40 < (n:Int) then (40:Int) else (n:Int))=((min 40 n:Nat):Int):=by split<;>omega
theorem take_min {α:Type} (l:List α) (c:Nat):l.take (min c l.length)=l.take c:=by
 rcases Nat.le_total c l.length with h | h
 ·rw [Nat.min_eq_left h]
 ·rw [Nat.min_eq_right h,List.take_length,List.take_of_length_le h]
theorem cutC_ok (s:Bs):pcW qcfg 63 [.str s]=some (.str (s.take 16)):=by
 refine e63_done _ ?_
 unfold e63
 rw [cap16,gd_of (by simp),toNat_cast,gd_of (decide_eq_true (by omega)),take_min]
def cut1 (o:Op4):Op4:=(o.1,o.2.1.take 20,o.2.2.1.take 40,o.2.2.2)
def cutO (N:Nat) (l:List Op4):List Op4:=(l.take N).map cut1
theorem ops_flat (l:List Op4):((opsV l).all fun x=>x.cells.all V.flat1)=true:=by simp [opsV,opV,V.cells,V.flat1]
theorem cut_loop (N:Nat) (hN:N<=1000) (S:List Op4) (hS:S.length<=maxLen):∀(d i:Nat),i+d=min N S.length ->
  Go qk false 0 (fF 14) (.head 0 (T14_0 (opsV S) (N:Int) (i:Int) (opsV (cutO i S)))) (.done (.fr 38 (opsV (cutO N S))))
 | 0,i,hi=>by
  have e:cutO i S=cutO N S:=by
   unfold cutO
   have:i=min N S.length:=by omega
   rw [this,take_min]
  refine s14_0_run _ _ _ _ ?_ (.refl _)
  unfold s14_0
  rw [ops_len,e]
  by_cases h:i < S.length
  ·rw [decide_eq_true (by omega),cond_true,decide_eq_false (by omega),cond_false,gd_of (ops_flat _)]
  ·rw [decide_eq_false (by omega),cond_false,gd_of (ops_flat _)]
 | d+1,i,hi=>by
  have hlt:i < S.length:=by omega
  have h1:(opsV S)[i]? = some (opV S[i]):=by simp [opsV,List.getElem?_eq_getElem hlt]
  have w:W .i64 ((i:Int)+1)=((i+1:Nat):Int):=by rw [W_i64 (by omega)];omega
  have e:cutO (i+1) S=cutO i S++[cut1 S[i]]:=by
   unfold cutO
   rw [List.take_add_one,List.getElem?_eq_getElem hlt,List.map_append]
   rfl
  have hl:(opsV (cutO i S)).length<=1000:=by rw [ops_len];simp [cutO];omega
  have:=cut_loop N hN S hS d (i+1) (by omega)
  rw [e] at this
  refine s14_0_run _ _ _ _ ?_ this
  unfold s14_0
  rw [ops_len,decide_eq_true (by omega),cond_true,decide_eq_true (by omega),cond_true,gd_of (by simp),toNat_cast,idxK_of h1,opV,d38_mk,cap20,cap40,gd_of (by simp),toNat_cast,gd_of (decide_eq_true (by omega)),gd_of (by simp),toNat_cast,gd_of (decide_eq_true (by omega)),take_min,take_min,
   gd_of (decide_eq_true (by simp only [List.length_cons,List.length_nil];omega)),w]
  simp [opsV,opV,cut1]
def es0:Es:=[(0,[76,0,0,0,0])]
theorem wf_of {n:Nat} (h:WT n 0 es0 [] [(0,[],[])]):WF n 0 es0 [] [(0,[],[])]:=⟨h,fun q=>absurd rfl q,fun l hl=>by cases hl⟩
theorem wt0:WT 30 0 es0 [] [(0,[],[])]:=by
 refine ⟨⟨by omega,by simp [es0,keysE],by simp [es0,keysE]⟩,?_,.leaf [(0,[],[])],by simp,⟨by unfold okF;decide,trivial⟩,by simp [OrdB]⟩
 have:encU []++encT encF [(0,([],[]))] 0=es0:=by decide +kernel
 rw [this]
theorem wf0:WF 30 0 es0 [] [(0,[],[])]:=wf_of wt0
def fb30:Fact:=⟨15,[.int .i64 (30)],[],(.ptr 4 0 0,[.row 5 [.int .u8 (1),.int .u8 (0),.int .u8 (0),.int .u8 (0)] 0,.box 192 (.agg [.tail 0 0,.int .i64 (30)]) true,.map [(.int .i64 (0),.str [76,0,0,0,0])],.box 140 (.agg [.ptr 1 0 0,.mp 2]) false,.box 128 (.agg [.ptr 3 0 0,.int .i64 (0)]) false])⟩
theorem fb30_ok:FactOK qcfg fb30:=icW_tab (fun _ h=>nomatch h:∀x∈([]:List Fact),FactOK qcfg x) (fun _ h=>nomatch h:∀x∈([]:List (FuncId × List V × V)),PFactOK qcfg x) 100 (by kernel_rfl)
theorem begin30:icC qcfg cmT 15 [.int .i64 30] []=some (mk15y (0,((30:Nat):Int),esV es0,bitsV 30 (tkn es0))):=by
 have h:icW qcfg 15 [.int .i64 30] []=some fb30.res:=fb30_ok
 unfold icC
 rw [h]
 have e:bitsV 30 (tkn es0)=[.int .u8 1,.int .u8 0,.int .u8 0,.int .u8 0]:=by kernel_rfl
 rw [e]
 show some (canNorm cmT [] fb30.res.1 fb30.res.2)=some (mk15y (0,((30:Nat):Int),esV es0,[.int .u8 1,.int .u8 0,.int .u8 0,.int .u8 0]))
 kernel_rfl
def hS (w:Bool) (h:Bs) (a:Su):Su:=a.dropLast++(a.getLast?.toList.map fun x=>(x.1,bif w then h else x.2))
theorem hS_snoc (w:Bool) (h:Bs) (a:Su) (z:Int) (hz:Bs):hS w h (a++[(z,hz)])=a++[(z,bif w then h else hz)]:=by simp [hS]
theorem snoc_of {α:Type} {a:List α} (h:a≠[]):∃a' x,a=a'++[x]:=by
 rcases List.eq_nil_or_concat a with h' | ⟨l,x,h'⟩
 ·exact absurd h' h
 ·exact ⟨l,x,by simpa using h'⟩
theorem hS_app (w:Bool) (h:Bs) (a:Su) {b:Su} (hb:b≠[]):hS w h (a++b)=a++hS w h b:=by
 obtain ⟨b',⟨z,hz⟩,rfl⟩:=snoc_of hb
 rw [<-List.append_assoc,hS_snoc,hS_snoc,List.append_assoc]
theorem hS_ne (w:Bool) (h:Bs) {a:Su} (ha:a≠[]):hS w h a≠[]:=by
 obtain ⟨a',⟨z,hz⟩,rfl⟩:=snoc_of ha
 rw [hS_snoc];simp
theorem hS_false (h:Bs) (a:Su):hS false h a=a:=by
 rcases List.eq_nil_or_concat a with rfl | ⟨a',⟨z,hz⟩,rfl⟩
 ·rfl
 ·rw [List.concat_eq_append,hS_snoc];rfl
theorem hiE_hS (w:Bool) (h:Bs) {a:Su} (ha:a≠[]):hiE (hS w h a)=bif w then h else hiE a:=by
 obtain ⟨a',⟨z,hz⟩,rfl⟩:=snoc_of ha
 rw [hS_snoc,hiE_app _ (by simp),hiE_app _ (by simp)];rfl
def hI (w:Bool) (h:Bs) (l:IL):IL:=l.dropLast++(l.getLast?.toList.map fun x=>(x.1,hS w h x.2))
theorem hI_snoc (w:Bool) (h:Bs) (l:IL) (z:Int) (ez:Su):hI w h (l++[(z,ez)])=l++[(z,hS w h ez)]:=by simp [hI]
theorem kids_hI (w:Bool) (h:Bs) {l:IL} (hn:∀x∈l,x.2≠[]):kidsI (hI w h l)=hS w h (kidsI l):=by
 rcases List.eq_nil_or_concat l with rfl | ⟨l',⟨z,ez⟩,rfl⟩
 ·rfl
 ·rw [List.concat_eq_append] at hn |-
  have hz:ez≠[]:=hn (z,ez) (by simp)
  have e:kidsI (l'++[(z,ez)])=kidsI l'++ez:=by simp [kidsI]
  rw [hI_snoc,e,hS_app _ _ _ hz];simp [kidsI]
theorem sum_hI (w:Bool) (h:Bs) {l:IL} (hn:∀x∈l,x.2≠[]):sumI (hI w h l)=hS w h (sumI l):=by
 rcases List.eq_nil_or_concat l with rfl | ⟨l',⟨z,ez⟩,rfl⟩
 ·rfl
 ·rw [List.concat_eq_append] at hn |-
  have hz:ez≠[]:=hn (z,ez) (by simp)
  have e:sumI (l'++[(z,ez)])=sumI l'++[(z,hiE ez)]:=by simp [sumI]
  rw [hI_snoc,e,hS_snoc];simp [sumI,hiE_hS w h hz]
def hF (w:Bool) (h:Bs) (b:LL):LL:=b.dropLast++(b.getLast?.toList.map fun x=>(x.1,x.2.1,bif w then h else x.2.2))
theorem hF_snoc (w:Bool) (h:Bs) (b:LL) (z:Int) (prs:List Pr) (hz:Bs):hF w h (b++[(z,prs,hz)])=b++[(z,prs,bif w then h else hz)]:=by simp [hF]
theorem sum_hF (w:Bool) (h:Bs) (b:LL):sumL (hF w h b)=hS w h (sumL b):=by
 rcases List.eq_nil_or_concat b with rfl | ⟨b',⟨z,prs,hz⟩,rfl⟩
 ·rfl
 ·have e:sumL (b'++[(z,prs,hz)])=sumL b'++[(z,hz)]:=by simp [sumL]
  rw [List.concat_eq_append,hF_snoc,e,hS_snoc];simp [sumL]
theorem flat_hF (w:Bool) (h:Bs) (b:LL):flatB (hF w h b)=flatB b:=by
 rcases List.eq_nil_or_concat b with rfl | ⟨b',⟨z,prs,hz⟩,rfl⟩
 ·rfl
 ·rw [List.concat_eq_append,hF_snoc,flat_app,flat_app];simp [flatB]
def pgA {α:Type} (a:List (Int × α)):List Int:=a.getLast?.toList.map (·.1)
theorem pgA_snoc {α:Type} (a:List (Int × α)) (x:Int × α):pgA (a++[x])=[x.1]:=by simp [pgA]
abbrev Nd:=Int × Su × Int
def lastN (l:IL) (nx:Int):List Nd:=l.getLast?.toList.map fun x=>(x.1,x.2,nx)
theorem lastN_snoc (l:IL) (z:Int) (ez:Su) (nx:Int):lastN (l++[(z,ez)]) nx=[(z,ez,nx)]:=by simp [lastN]
def newN (w:Bool) (h:Bs) (zo gs:List Nd):List Nd:=List.zipWith (fun o g=>(o.1,hS w h o.2.1,g.2.2)) zo gs
def ezs (l:List Nd):Es:=l.map fun z=>(z.1,encI z.2.1 z.2.2)
inductive Rm (r:Int):List IL->Int->Bs->Su->Su->List Stp->Bool->List IL->List Nd->List Nd->Nd->Nd->Prop
 | one {up:List IL} {q p:Int} {h:Bs} {pre post:IL} {sts:List Stp} {w:Bool} {up':List IL} {gs zo:List Nd} {xo X:Nd} :
  Rm r up q h (sumI pre) (sumI post) sts w up' gs zo xo X ->
  Rm r ((pre++(q,[(p,h)])::post)::up) p h (kidsI pre) (kidsI post) ((q,[(p,h)],nxt post 0,0)::sts) w ((hI w h pre++post)::up') ((q,[(p,h)],nxt post 0)::gs) (lastN pre (q+1)++zo) xo X
 | left {up:List IL} {q p y:Int} {h hy:Bs} {e1 e2:Su} {pre post:IL} {sts:List Stp} :
  Pth r up q (hiE (e1++(y,hy)::(p,h)::e2)) (sumI pre) (sumI post) sts ->
  Rm r ((pre++(q,e1++(y,hy)::(p,h)::e2)::post)::up) p h (kidsI pre++(e1++[(y,hy)])) (e2++kidsI post) ((q,e1++(y,hy)::(p,h)::e2,nxt post 0,e1.length+1)::sts) true
   ((pre++(q,e1++(y,h)::e2)::post)::up) [] [] (q,e1++(y,hy)::(p,h)::e2,nxt post 0) (q,e1++(y,h)::e2,nxt post 0)
 | first {up:List IL} {q p:Int} {h:Bs} {x:Int × Bs} {e2:Su} {pre post:IL} {sts:List Stp} :
  Pth r up q (hiE ((p,h)::x::e2)) (sumI pre) (sumI post) sts ->
  Rm r ((pre++(q,(p,h)::x::e2)::post)::up) p h (kidsI pre) (x::e2++kidsI post) ((q,(p,h)::x::e2,nxt post 0,0)::sts) false
   ((pre++(q,x::e2)::post)::up) [] [] (q,(p,h)::x::e2,nxt post 0) (q,x::e2,nxt post 0)
theorem rm_ex {r:Int} {up:List IL} {p:Int} {h:Bs} {a c:Su} {sts:List Stp} (hp:Pth r up p h a c sts) (hm:∃s∈sts,2<=s.2.1.length):∃w up' gs zo xo X,Rm r up p h a c sts w up' gs zo xo X:=by
 induction hp with
 | top=>obtain ⟨s,hs,_⟩:=hm;cases hs
 | @st up q e1 p h e2 pre post sts hup ih =>
  rcases List.eq_nil_or_concat e1 with rfl | ⟨e1',⟨y,hy⟩,rfl⟩
  ·cases e2 with
   | nil =>
    obtain ⟨w,up',gs,zo,xo,X,hr⟩:=ih (by
     obtain ⟨s,hs,h2⟩:=hm
     rcases List.mem_cons.1 hs with rfl | hs
     ·simp at h2
     ·exact ⟨s,hs,h2⟩)
    have e1:kidsI pre++[]=kidsI pre:=List.append_nil _
    rw [e1]
    exact ⟨w,_,_,_,xo,X,.one hr⟩
   | cons x e2 =>
    have e1:kidsI pre++[]=kidsI pre:=List.append_nil _
    rw [e1]
    exact ⟨_,_,_,_,_,_,.first hup⟩
  ·rw [List.concat_eq_append] at hup |-
   have e:e1'++[(y,hy)]++(p,h)::e2=e1'++(y,hy)::(p,h)::e2:=by simp
   have el:(e1'++[(y,hy)]).length=e1'.length+1:=by simp
   rw [e] at hup
   rw [e,el]
   exact ⟨_,_,_,_,_,_,.left hup⟩
theorem hiE_del (e1:Su) (y:Int) (hy:Bs) (p:Int) (h:Bs) (e2:Su):hiE (e1++(y,h)::e2)=hiE (e1++(y,hy)::(p,h)::e2):=by
 rw [hiE_app _ (by simp),hiE_app _ (by simp),hiE_cons (y,hy) (by simp)]
 cases e2 with
 | nil=>rfl
 | cons x e2=>rw [hiE_cons (y,h) (by simp),hiE_cons (p,h) (by simp)]
section
variable {r:Int} {up:List IL} {p:Int} {h:Bs} {a c:Su} {sts:List Stp} {w:Bool} {up':List IL} {gs zo:List Nd} {xo X:Nd}
theorem rm_dn (hr:Rm r up p h a c sts w up' gs zo xo X):(∀l∈up,∀x∈l,x.2≠[])->∀{d:List IL} {b:LL},Dn (hS w h a++c) d b->Dn [(r,[])] (up'.reverse++d) b:=by
 induction hr with
 | @one up q p h pre post sts w up' gs zo xo X _ ih =>
  intro hn d b hd
  have hnp:∀x∈pre,x.2≠[]:=fun x hx=>hn _ (List.mem_cons_self ..) x (by simp [hx])
  have ek:hS w h (kidsI pre)++kidsI post=kidsI (hI w h pre++post):=by rw [<-kids_hI w h hnp];simp [kidsI]
  have es:sumI (hI w h pre++post)=hS w h (sumI pre)++sumI post:=by rw [<-sum_hI w h hnp];simp [sumI]
  rw [ek] at hd
  have hd:=Dn.inn _ _ _ hd
  rw [es] at hd
  have:=ih (fun l hl=>hn l (by simp [hl])) hd
  rwa [List.reverse_cons,List.append_assoc]
 | @left up q p y h hy e1 e2 pre post sts hup =>
  intro hn d b hd
  have ek:hS true h (kidsI pre++(e1++[(y,hy)]))++(e2++kidsI post)=kidsI (pre++(q,e1++(y,h)::e2)::post):=by
   rw [<-List.append_assoc (kidsI pre),hS_snoc];simp [kidsI]
  rw [ek] at hd
  have hd:=Dn.inn _ _ _ hd
  have es:sumI (pre++(q,e1++(y,h)::e2)::post)=sumI pre++(q,hiE (e1++(y,hy)::(p,h)::e2))::sumI post:=by
   rw [<-hiE_del e1 y hy p h e2];simp [sumI]
  rw [es] at hd
  have:=pth_dn hup hd
  rwa [List.reverse_cons,List.append_assoc]
 | @first up q p h x e2 pre post sts hup =>
  intro hn d b hd
  have ek:hS false h (kidsI pre)++(x::e2++kidsI post)=kidsI (pre++(q,x::e2)::post):=by
   rw [hS_false];simp [kidsI]
  rw [ek] at hd
  have hd:=Dn.inn _ _ _ hd
  have es:sumI (pre++(q,x::e2)::post)=sumI pre++(q,hiE ((p,h)::x::e2))::sumI post:=by
   rw [hiE_cons _ (by simp)];simp [sumI]
  rw [es] at hd
  have:=pth_dn hup hd
  rwa [List.reverse_cons,List.append_assoc]
theorem kids_nil {l:IL} (hn:∀x∈l,x.2≠[]) (h:kidsI l=[]):l=[]:=by
 cases l with
 | nil=>rfl
 | cons x l =>
  rw [kidsI,List.flatMap_cons,List.append_eq_nil_iff] at h
  exact absurd h.1 (hn x (by simp))
theorem rm_zo (hr:Rm r up p h a c sts w up' gs zo xo X):(∀l∈up,∀x∈l,x.2≠[])->(a=[]->zo=[])/\(a≠[]->zo.length=gs.length):=by
 induction hr with
 | @one up q p h pre post sts w up' gs zo xo X _ ih =>
  intro hn
  have hnp:∀x∈pre,x.2≠[]:=fun x hx=>hn _ (List.mem_cons_self ..) x (by simp [hx])
  obtain ⟨h1,h2⟩:=ih fun l hl=>hn l (by simp [hl])
  constructor
  ·intro ha
   have:=kids_nil hnp ha
   subst this
   rw [h1 rfl];rfl
  ·intro ha
   rcases List.eq_nil_or_concat pre with rfl | ⟨l,⟨z,ez⟩,rfl⟩
   ·exact absurd rfl ha
   ·rw [List.concat_eq_append] at h2 |-
    rw [lastN_snoc]
    have:=h2 (by simp [sumI])
    simp [this]
 | left _=>intro _;exact ⟨fun _=>rfl,fun _=>rfl⟩
 | first _=>intro _;exact ⟨fun _=>rfl,fun _=>rfl⟩
end
def sepsE (e:Su):List Bs:=e.dropLast.map (·.2)
theorem rise_iff:∀{l:List Bs} {p:Bs},riseB p l=true↔(∀s∈l,keyB s=true/\lt p s=true)/\l.Pairwise fun a b=>lt a b=true
 | [],p=>by simp [riseB]
 | s::l,p=>by
  rw [riseB,Bool.and_eq_true,Bool.and_eq_true,rise_iff (l:=l) (p:=s),List.pairwise_cons]
  constructor
  ·rintro ⟨⟨h1,h2⟩,h3,h4⟩
   refine ⟨fun x hx=>?_,fun x hx=>(h3 x hx).2,h4⟩
   rcases List.mem_cons.1 hx with rfl | hx
   ·exact ⟨h1,h2⟩
   ·exact ⟨(h3 x hx).1,lt_trans h2 (h3 x hx).2⟩
  ·rintro ⟨h1,h2,h3⟩
   exact ⟨h1 s (by simp),fun x hx=>⟨(h1 x (by simp [hx])).1,h2 x hx⟩,h3⟩
structure InOk (e:Su) (h:Bs):Prop where
 ne:e≠[]
 pg:∀x∈e,pgB x.1=true
 key:∀s∈sepsE e,keyB s=true
 ri:(sepsE e).Pairwise fun a b=>lt a b=true
 hi:h=[]∨(keyB h=true/\∀s∈sepsE e,lt s h=true)
 sz:23+szR (sepsE e)<=252
theorem lastB_of {l:List Bs} {h:Bs} (hk:keyB h=true) (ha:∀x∈l,lt x h=true):lt (l.getLastD []) h=true:=by
 rcases List.eq_nil_or_concat l with rfl | ⟨a,x,rfl⟩
 ·exact key_lt_nil hk
 ·have:(a.concat x).getLastD []=x:=by simp
  rw [this];exact ha x (by simp)
theorem inOk_iff {e:Su} {nx:Int}:(e≠[]/\rightB (innE e nx)=true)↔InOk e (hiE e)/\0<=nx/\nx<=1024:=by
 rw [right_iff,end_iff]
 constructor
 ·rintro ⟨hne,h1,h2,h3,h4,h5,h6,h7⟩
  obtain ⟨q1,q2⟩:=rise_iff.1 h3
  refine ⟨⟨hne,fun x hx=>h2 x.1 (List.mem_map.2 ⟨x,hx,rfl⟩),fun s hs=>(q1 s hs).1,q2,?_,h7⟩,h5,h6⟩
  simp only [highB,Bool.or_eq_true,Bool.and_eq_true] at h4
  rcases h4 with h4 | ⟨h4,h8⟩
  ·exact .inl (by simpa using h4)
  ·refine .inr ⟨h4,fun s hs=>?_⟩
   have hs:s∈e.dropLast.map (·.2):=hs
   have q2:(e.dropLast.map (·.2)).Pairwise fun a b=>lt a b=true:=q2
   have h8:lt ((e.dropLast.map (·.2)).getLastD []) (hiE e)=true:=h8
   show lt s (hiE e)=true
   generalize e.dropLast.map (·.2)=l at hs h8 q2
   rcases List.eq_nil_or_concat l with rfl | ⟨a,y,rfl⟩
   ·cases hs
   ·have e:(a.concat y).getLastD []=y:=by simp
    rw [e] at h8
    rw [List.concat_eq_append] at hs q2
    rcases List.mem_append.1 hs with hs | hs
    ·exact lt_trans ((List.pairwise_append.1 q2).2.2 s hs y (by simp)) h8
    ·have:s=y:=by simpa using hs
     rw [this];exact h8
 ·rintro ⟨o,h5,h6⟩
  refine ⟨o.ne,?_,?_,?_,?_,h5,h6,o.sz⟩
  ·have:=List.length_pos_iff.2 o.ne
   simp;omega
  ·intro k hk
   obtain ⟨x,hx,rfl⟩:=List.mem_map.1 hk
   exact o.pg x hx
  ·exact rise_iff.2 ⟨fun s hs=>⟨o.key s hs,key_lt_nil (o.key s hs)⟩,o.ri⟩
  ·show highB ((sepsE e).getLastD []) (hiE e)=true
   unfold highB
   rcases o.hi with h | ⟨hk,ha⟩
   ·rw [h];rfl
   ·rw [hk,lastB_of hk ha];simp
theorem okI_iff {e:Su} {nx:Int}:okI e nx↔InOk e (hiE e)/\0<=nx/\nx<=1024:=inOk_iff
theorem szR_sub {a b:List Bs} (h:a.Sublist b):szR a<=szR b:=by
 induction h with
 | slnil=>exact Nat.le_refl _
 | cons x _ ih=>rw [szR];omega
 | cons_cons x _ ih=>rw [szR,szR];omega
theorem inOk_sub {e e':Su} {h:Bs} (o:InOk e h) (hne:e'≠[]) (hp:∀x∈e',∃y∈e,y.1=x.1) (hs:(sepsE e').Sublist (sepsE e)):InOk e' h:=by
 refine ⟨hne,fun x hx=>?_,fun s h=>o.key s (hs.subset h),o.ri.sublist hs,?_,?_⟩
 ·obtain ⟨y,hy,e⟩:=hp x hx
  rw [<-e];exact o.pg y hy
 ·rcases o.hi with h | ⟨h1,h2⟩
  ·exact .inl h
  ·exact .inr ⟨h1,fun s h=>h2 s (hs.subset h)⟩
 ·have:=szR_sub hs
  have:=o.sz
  omega
theorem seps_app (a:Su) (x:Int × Bs) (b:Su):sepsE (a++x::b)=a.map (·.2)++sepsE (x::b):=by
 unfold sepsE
 rw [drop_last,List.map_append]
theorem seps_cons (x y:Int × Bs) (b:Su):sepsE (x::y::b)=x.2::sepsE (y::b):=rfl
theorem seps_hS (w:Bool) (h:Bs) (e:Su):sepsE (hS w h e)=sepsE e:=by
 rcases List.eq_nil_or_concat e with rfl | ⟨e',⟨z,hz⟩,rfl⟩
 ·rfl
 ·rw [List.concat_eq_append,hS_snoc,seps_app,seps_app];rfl
theorem seps_sub (e:Su):(sepsE e).Sublist (e.map (·.2)):=List.Sublist.map _ (List.dropLast_sublist _)
theorem inOk_hS {e:Su} (o:InOk e (hiE e)) {w:Bool} {h:Bs} (hk:h=[]∨keyB h=true) (hl:∀x∈e,hlt x.2 h):InOk (hS w h e) (hiE (hS w h e)):=by
 have hs:=seps_hS w h e
 refine ⟨hS_ne w h o.ne,?_,by rw [hs];exact o.key,by rw [hs];exact o.ri,?_,by rw [hs];exact o.sz⟩
 ·intro x hx
  obtain ⟨e',⟨z,hz⟩,rfl⟩:=snoc_of o.ne
  rw [hS_snoc] at hx
  rcases List.mem_append.1 hx with hx | hx
  ·exact o.pg x (by simp [hx])
  ·have:x=(z,bif w then h else hz):=by simpa using hx
   rw [this];exact o.pg (z,hz) (by simp)
 ·rw [hs,hiE_hS w h o.ne]
  cases w with
  | false=>exact o.hi
  | true =>
   show h=[]∨(keyB h=true/\∀s∈sepsE e,lt s h=true)
   rcases hk with hk | hk
   ·exact .inl hk
   ·refine .inr ⟨hk,fun s hs=>?_⟩
    obtain ⟨x,hx,rfl⟩:=List.mem_map.1 ((seps_sub e).subset hs)
    exact (hl x hx).2.resolve_left (key_ne hk)
theorem inOk_left {e1:Su} {y:Int} {hy:Bs} {p:Int} {h:Bs} {e2:Su} {g:Bs} (o:InOk (e1++(y,hy)::(p,h)::e2) g):InOk (e1++(y,h)::e2) g:=by
 refine inOk_sub o (by simp) ?_ ?_
 ·intro x hx
  rcases List.mem_append.1 hx with hx | hx
  ·exact ⟨x,by simp [hx],rfl⟩
  ·rcases List.mem_cons.1 hx with rfl | hx
   ·exact ⟨(y,hy),by simp,rfl⟩
   ·exact ⟨x,by simp [hx],rfl⟩
 ·rw [seps_app,seps_app,seps_cons]
  refine List.Sublist.append_left ?_ _
  cases e2 with
  | nil=>exact List.nil_sublist _
  | cons x e2=>rw [seps_cons,seps_cons];exact (List.Sublist.refl _).cons _
theorem inOk_first {p:Int} {h:Bs} {x:Int × Bs} {e2:Su} {g:Bs} (o:InOk ((p,h)::x::e2) g):InOk (x::e2) g :=
 inOk_sub o (by simp) (fun z hz=>⟨z,by simp [hz],rfl⟩) (by rw [seps_cons];exact (List.Sublist.refl _).cons _)
theorem rm_okI {r:Int} {up:List IL} {p:Int} {h:Bs} {a c:Su} {sts:List Stp} {w:Bool} {up':List IL} {gs zo:List Nd} {xo X:Nd} (hr:Rm r up p h a c sts w up' gs zo xo X) :
  (∀l∈up,okT okI l 0)->HP (a++(p,h)::c)->(h=[]∨keyB h=true)->∀l∈up',okT okI l 0:=by
 induction hr with
 | @one up q p h pre post sts w up' gs zo xo X _ ih =>
  intro hI hP hk l hl
  have h0:=hI _ (List.mem_cons_self ..)
  obtain ⟨ok1,⟨ok3,ok2⟩⟩:=(okT_app _ _ _).1 h0
  have ok2:okT okI post 0:=ok2
  rcases List.mem_cons.1 hl with rfl | hl
  ·refine (okT_app _ _ _).2 ⟨?_,ok2⟩
   rcases List.eq_nil_or_concat pre with rfl | ⟨l',⟨z,ez⟩,rfl⟩
   ·trivial
   ·rw [List.concat_eq_append] at ok1 hP |-
    rw [hI_snoc]
    obtain ⟨k1,k2,_⟩:=(okT_app _ _ _).1 ok1
    refine (okT_app _ _ _).2 ⟨k1,?_,trivial⟩
    have o:=(okI_iff.1 k2).1
    have hx:=(okI_iff.1 ok3).2
    refine okI_iff.2 ⟨inOk_hS o hk fun x hx=>?_,hx⟩
    have e:kidsI (l'++[(z,ez)])=kidsI l'++ez:=by simp [kidsI]
    rw [e] at hP
    exact (List.pairwise_append.1 hP).2.2 x (by simp [hx]) (p,h) (by simp)
  ·have e0:kidsI pre++(p,h)::kidsI post=kidsI (pre++(q,[(p,h)])::post):=by simp [kidsI]
   rw [e0] at hP
   have:=hp_sum (okI_ne h0) hP
   have e':sumI (pre++(q,[(p,h)])::post)=sumI pre++(q,h)::sumI post:=by simp [sumI,hiE]
   rw [e'] at this
   exact ih (fun l hl=>hI l (by simp [hl])) this hk l hl
 | @left up q p y h hy e1 e2 pre post sts hup =>
  intro hI hP hk l hl
  have h0:=hI _ (List.mem_cons_self ..)
  obtain ⟨ok1,⟨ok3,ok2⟩⟩:=(okT_app _ _ _).1 h0
  rcases List.mem_cons.1 hl with rfl | hl
  ·refine (okT_app _ _ _).2 ⟨ok1,?_,ok2⟩
   have o:=okI_iff.1 ok3
   refine okI_iff.2 ⟨?_,o.2⟩
   rw [hiE_del e1 y hy p h e2]
   exact inOk_left o.1
  ·exact hI l (by simp [hl])
 | @first up q p h x e2 pre post sts hup =>
  intro hI hP hk l hl
  have h0:=hI _ (List.mem_cons_self ..)
  obtain ⟨ok1,⟨ok3,ok2⟩⟩:=(okT_app _ _ _).1 h0
  rcases List.mem_cons.1 hl with rfl | hl
  ·refine (okT_app _ _ _).2 ⟨ok1,?_,ok2⟩
   have o:=okI_iff.1 ok3
   refine okI_iff.2 ⟨?_,o.2⟩
   have:=inOk_first o.1
   rwa [hiE_cons _ (by simp)] at this
  ·exact hI l (by simp [hl])
def c1 (x a:Int × Bs):Nat:=if a=x then 1 else 0
def cn (x:Int × Bs):Es->Nat
 | []=>0
 | a::l=>c1 x a+cn x l
theorem cn_app (x:Int × Bs):∀(a b:Es),cn x (a++b)=cn x a+cn x b
 | [],b=>by simp [cn]
 | y::a,b=>by rw [List.cons_append,cn,cn,cn_app x a b];omega
theorem cn_count (x:Int × Bs):∀l:Es,cn x l=l.count x
 | []=>rfl
 | a::l=>by
  rw [cn,cn_count x l,List.count_cons,c1]
  by_cases h:a=x
  ·simp [h];omega
  ·simp [h]
theorem perm_cn {a b:Es}:a.Perm b↔∀x,cn x a=cn x b:=by
 rw [List.perm_iff_count]
 exact forall_congr' fun x=>by rw [cn_count,cn_count]
theorem cn_cons (x a:Int × Bs) (l:Es):cn x (a::l)=c1 x a+cn x l:=rfl
theorem cn_nil (x:Int × Bs):cn x []=0:=rfl
theorem ezs_cons (x:Nd) (l:List Nd):ezs (x::l)=(x.1,encI x.2.1 x.2.2)::ezs l:=rfl
theorem rm_perm {r:Int} {up:List IL} {p:Int} {h:Bs} {a c:Su} {sts:List Stp} {w:Bool} {up':List IL} {gs zo:List Nd} {xo X:Nd} (hr:Rm r up p h a c sts w up' gs zo xo X) :
  (∀l∈up,∀x∈l,x.2≠[])->∃R,(encU up).Perm (ezs zo++(ezs gs++(ezs [xo]++R)))/\(encU up').Perm (ezs (newN w h zo gs)++(ezs [X]++R)):=by
 induction hr with
 | @one up q p h pre post sts w up' gs zo xo X hr ih =>
  intro hn
  obtain ⟨R,h1,h2⟩:=ih fun l hl=>hn l (by simp [hl])
  rw [perm_cn] at h1 h2
  rcases List.eq_nil_or_concat pre with rfl | ⟨l,⟨z,ez⟩,rfl⟩
  ·have hz:=(rm_zo hr fun l hl=>hn l (by simp [hl])).1 rfl
   subst hz
   refine ⟨encT encI post 0++R,perm_cn.2 fun x=>?_,perm_cn.2 fun x=>?_⟩
   ·have h1:=h1 x
    have e:encU (([]++(q,[(p,h)])::post)::up)=(q,encI [(p,h)] (nxt post 0))::encT encI post 0++encU up:=rfl
    have e2:lastN [] (q+1)=[]:=rfl
    rw [e,e2]
    simp only [cn_app,cn_cons,ezs_cons,List.nil_append] at h1 |-
    omega
   ·have h2:=h2 x
    have e:encU ((hI w h []++post)::up')=encT encI post 0++encU up':=rfl
    have e2:newN w h (lastN [] (q+1)++[]) ((q,[(p,h)],nxt post 0)::gs)=[]:=rfl
    have e3:newN w h [] gs=[]:=rfl
    rw [e,e2]
    rw [e3] at h2
    simp only [cn_app,cn_cons,ezs_cons,List.nil_append] at h2 |-
    omega
  ·rw [List.concat_eq_append]
   refine ⟨encT encI l (z+1)++encT encI post 0++R,perm_cn.2 fun x=>?_,perm_cn.2 fun x=>?_⟩
   ·have h1:=h1 x
    have e:encU ((l++[(z,ez)]++(q,[(p,h)])::post)::up)=encT encI l (z+1)++(z,encI ez (q+1))::(q,encI [(p,h)] (nxt post 0))::encT encI post 0++encU up:=by
     rw [encU_cons,List.append_assoc,encT_app];rfl
    rw [e,lastN_snoc]
    simp only [cn_app,cn_cons,ezs_cons,List.nil_append,List.cons_append] at h1 |-
    omega
   ·have h2:=h2 x
    have e:encU ((hI w h (l++[(z,ez)])++post)::up')=encT encI l (z+1)++(z,encI (hS w h ez) (nxt post 0))::encT encI post 0++encU up':=by
     rw [hI_snoc,encU_cons,List.append_assoc,encT_app];rfl
    have e2:newN w h (lastN (l++[(z,ez)]) (q+1)++zo) ((q,[(p,h)],nxt post 0)::gs)=(z,hS w h ez,nxt post 0)::newN w h zo gs:=by rw [lastN_snoc];rfl
    rw [e,e2]
    simp only [cn_app,cn_cons,ezs_cons,List.nil_append,List.cons_append] at h2 |-
    omega
 | @left up q p y h hy e1 e2 pre post sts hup =>
  intro hn
  refine ⟨encT encI pre (q+1)++encT encI post 0++encU up,?_,?_⟩
  ·rw [encU_cons,encT_app,encT]
   show ((encT encI pre (q+1)++_::encT encI post 0)++encU up).Perm (_::(encT encI pre (q+1)++encT encI post 0++encU up))
   rw [List.append_assoc,List.cons_append,List.append_assoc]
   exact List.perm_middle
  ·rw [encU_cons,encT_app,encT]
   show ((encT encI pre (q+1)++_::encT encI post 0)++encU up).Perm (_::(encT encI pre (q+1)++encT encI post 0++encU up))
   rw [List.append_assoc,List.cons_append,List.append_assoc]
   exact List.perm_middle
 | @first up q p h x e2 pre post sts hup =>
  intro hn
  refine ⟨encT encI pre (q+1)++encT encI post 0++encU up,?_,?_⟩
  ·rw [encU_cons,encT_app,encT]
   show ((encT encI pre (q+1)++_::encT encI post 0)++encU up).Perm (_::(encT encI pre (q+1)++encT encI post 0++encU up))
   rw [List.append_assoc,List.cons_append,List.append_assoc]
   exact List.perm_middle
  ·rw [encU_cons,encT_app,encT]
   show ((encT encI pre (q+1)++_::encT encI post 0)++encU up).Perm (_::(encT encI pre (q+1)++encT encI post 0++encU up))
   rw [List.append_assoc,List.cons_append,List.append_assoc]
   exact List.perm_middle
abbrev clrE (n r:Nat):Int:=W .u8 (((BitVec.ofInt (IntKind.bits .u8) (n:Int) &&& ~~~(BitVec.ofInt (IntKind.bits .u8) (r:Int))).toNat:Int))
theorem clr8:∀b0 b1 b2 b3 b4 b5 b6 b7:Bool,
  clrE (by8 b0 b1 b2 b3 b4 b5 b6 b7) 1=(by8 false b1 b2 b3 b4 b5 b6 b7:Nat)/\clrE (by8 b0 b1 b2 b3 b4 b5 b6 b7) 2=(by8 b0 false b2 b3 b4 b5 b6 b7:Nat)/\clrE (by8 b0 b1 b2 b3 b4 b5 b6 b7) 4=(by8 b0 b1 false b3 b4 b5 b6 b7:Nat)/\clrE (by8 b0 b1 b2 b3 b4 b5 b6 b7) 8=(by8 b0 b1 b2 false b4 b5 b6 b7:Nat) /\
  clrE (by8 b0 b1 b2 b3 b4 b5 b6 b7) 16=(by8 b0 b1 b2 b3 false b5 b6 b7:Nat)/\clrE (by8 b0 b1 b2 b3 b4 b5 b6 b7) 32=(by8 b0 b1 b2 b3 b4 false b6 b7:Nat)/\clrE (by8 b0 b1 b2 b3 b4 b5 b6 b7) 64=(by8 b0 b1 b2 b3 b4 b5 false b7:Nat)/\clrE (by8 b0 b1 b2 b3 b4 b5 b6 b7) 128=(by8 b0 b1 b2 b3 b4 b5 b6 false:Nat):=by decide +kernel
theorem byte_clr (f:Nat->Bool) (i:Nat):clrE (byteN f (i / 8)) (2 ^ (i % 8))=(byteN (updB f i false) (i / 8):Nat):=by
 obtain ⟨j,k,hk,e,e1,e2⟩:=mod8 i
 rw [e1,e2,e]
 have h:=clr8 (f (8 * j)) (f (8 * j+1)) (f (8 * j+2)) (f (8 * j+3)) (f (8 * j+4)) (f (8 * j+5)) (f (8 * j+6)) (f (8 * j+7))
 obtain ⟨h0,h1,h2,h3,h4,h5,h6,h7⟩:=h
 have u:∀m,updB f (8 * j+k) false (8 * j+m)=if m=k then false else f (8 * j+m):=by
  intro m
  unfold updB
  by_cases e:m=k
  ·rw [if_pos (by omega),if_pos e]
  ·rw [if_neg (by omega),if_neg e]
 have u0:=u 0
 rw [Nat.add_zero] at u0
 unfold byteN
 rw [u0,u 1,u 2,u 3,u 4,u 5,u 6,u 7]
 rcases pow_cases hk with rfl | rfl | rfl | rfl | rfl | rfl | rfl | rfl<;>assumption
theorem giveB_ok (n:Nat) (hn:n<=1024) (f:Nat->Bool) (i:Nat) (hi:i < n) (hf:f i=true):icC qcfg cmT 174 [.ptr 0 0 0,.int .i64 (i:Int)] (bm n (bitsV n f))=some (mk174 (0,n,bitsV n (updB f i false))):=by
 refine e174_run _ _ _ (o:=.doneM (.int .i64 0) (bm n (bitsV n (updB f i false)))) ?_ (.done (by kernel_rfl))
 unfold e174
 have his:isB n f (i:Int)=true:=by unfold isB;rw [toNat_cast,hf,decide_eq_true (by omega)];rfl
 rw [decide_eq_true (show (i:Int) ≥ 0 by omega),cond_true,decide_eq_true (show (i:Int) < (n:Int) by omega),Bool.not_true,cond_false,icR_of mk137_inj (is_ok n hn f i),gdS_eq,his,Bool.not_true,cond_false,
  tdiv8 i (by omega),toNat_cast,gd_of (decide_eq_true (by omega)),gd_of (decide_eq_true (by rw [bits_len];omega)),Nat.zero_add,idxK_of (bits_get f (by omega)),kI_mk,pcK_of (bit_ok i),kI_mk,gd_of (decide_eq_true (by omega)),gd_of (decide_eq_true (by rw [bits_len];omega)),idxK_of (bits_get f (by omega)),kI_mk]
 have:=byte_clr f i
 simp only [clrE] at this
 rw [this,bits_set f false hi]
theorem del_keys {p:Int}:∀{es:Es},(keysE es).Nodup->∀q,q∈keysE (delE es p)↔q∈keysE es/\q≠p
 | [],_,q=>by simp [delE,keysE]
 |(a,x)::es,hn,q=>by
  have hn:=List.nodup_cons.1 hn
  rw [delE]
  by_cases h:p=a
  ·subst h
   rw [if_pos rfl]
   constructor
   ·intro hq
    exact ⟨List.mem_cons_of_mem _ hq,fun e=>hn.1 (e ▸ hq)⟩
   ·rintro ⟨h1,h2⟩
    rcases List.mem_cons.1 h1 with h1 | h1
    ·exact absurd h1 h2
    ·exact h1
  ·rw [if_neg h]
   have ih:=del_keys (p:=p) hn.2 q
   show q∈a::keysE (delE es p)↔q∈a::keysE es/\q≠p
   rw [List.mem_cons,List.mem_cons,ih]
   constructor
   ·rintro (rfl | ⟨h1,h2⟩)
    ·exact ⟨.inl rfl,fun e=>h e.symm⟩
    ·exact ⟨.inr h1,h2⟩
   ·rintro ⟨rfl | h1,h2⟩
    ·exact .inl rfl
    ·exact .inr ⟨h1,h2⟩
theorem del_sub {p:Int}:∀{es:Es},(keysE (delE es p)).Sublist (keysE es)
 | []=>.slnil
 |(a,x)::es=>by
  rw [delE]
  split
  ·exact (List.Sublist.refl _).cons _
  ·exact (del_sub (es:=es)).cons_cons _
theorem shf_del {n:Nat} {es:Es} (h:Shf n es) (p:Int):Shf n (delE es p) :=
 ⟨h.le,h.nd.sublist del_sub,fun q hq=>h.rng q (del_sub.subset hq)⟩
theorem giveS_ok {n:Nat} {es:Es} (h:Shf n es) {p:Int} (hp:p∈keysE es):icC qcfg cmT 127 [.ptr 0 0 0,.int .i64 p] (sM n es)=some (mk127 (0,n,esV (delE es p),bitsV n (tkn (delE es p)))):=by
 have hr:=h.rng p hp
 obtain ⟨k,rfl⟩:∃k:Nat,p=(k:Int):=⟨p.toNat,by omega⟩
 have ht:tkn (delE es k)=updB (tkn es) k false:=by
  funext j
  unfold updB tkn
  have:=del_keys (p:=(k:Int)) h.nd (j:Int)
  by_cases e:j=k
  ·rw [if_pos e,decide_eq_false]
   rw [this]
   rintro ⟨_,h2⟩
   exact h2 (by rw [e])
  ·rw [if_neg e]
   by_cases hj:(j:Int)∈keysE es
   ·rw [decide_eq_true hj,decide_eq_true (this.2 ⟨hj,by omega⟩)]
   ·rw [decide_eq_false hj,decide_eq_false fun q=>hj (this.1 q).1]
 rw [ht]
 refine e127_run _ _ _ _ (o:=.doneM (.int .i64 0) (sm n (esV (delE es k)) (bitsV n (updB (tkn es) k false)))) ?_ (.done (by kernel_rfl))
 unfold e127
 rw [icM_of mk174_inj (giveB_ok n h.le (tkn es) k (by omega) (by unfold tkn;exact decide_eq_true hp)),ibeq_t rfl,cond_true,md_es,opt_mk]
inductive SinkR (n:Nat):Int->Es->Int->Es->Prop
 | leaf {r:Int} {es:Es} {l:Lf} (hs:Shf n es) (hg:getE es r=some (encL l)) (hr:rightL l=true):SinkR n r es r es
 | stop {r:Int} {es:Es} {e:Su} {nx:Int} (hs:Shf n es) (hg:getE es r=some (encB (innE e nx))) (hr:rightB (innE e nx)=true) (h2:2<=e.length):SinkR n r es r es
 | one {r:Int} {es:Es} {k:Int} {h:Bs} {nx r':Int} {es':Es} (hs:Shf n es) (hg:getE es r=some (encB (innE [(k,h)] nx))) (hr:rightB (innE [(k,h)] nx)=true):SinkR n k (delE es r) r' es'->SinkR n r es r' es'
theorem sink_run {n:Nat} {r:Int} {es:Es} {r':Int} {es':Es} (h:SinkR n r es r' es'):Go qk true 5 (fF 128) (.head 0 (T128_0 r n (esV es) (bitsV n (tkn es)))) (.doneM (.tup []) (tM r' n es')):=by
 induction h with
 | @leaf r es l hs hg hr =>
  refine s128_0_run _ _ _ _ ?_ (.refl _)
  unfold s128_0
  rw [rd_leaf hs hg hr,gdS_eq]
 | @stop r es e nx hs hg hr h2 =>
  refine s128_0_run _ _ _ _ ?_ (.refl _)
  unfold s128_0
  rw [rd_inn hs hg hr,gdS_eq]
  show (cond (decide (((ints (e.map (·.1))).length:Int) > 1)) _ _)=_
  rw [decide_eq_true (by rw [ints_len,List.length_map];omega),cond_true]
 | @one r es k h nx r' es' hs hg hr _ ih =>
  refine s128_0_run _ _ _ _ ?_ ih
  unfold s128_0
  rw [rd_inn hs hg hr,gdS_eq,decide_eq_false (by rw [ints_len];simp),cond_false,icM_of mk127_inj (giveS_ok hs (get_key hg))]
  rfl
theorem sinkT_ok {n:Nat} {r:Int} {es:Es} {r':Int} {es':Es} (h:SinkR n r es r' es'):icC qcfg cmT 128 [.ptr 0 0 0] (tM r n es)=some (mk128 (r',n,esV es',bitsV n (tkn es'))) :=
 e128_run _ _ _ _ rfl ⟨_,_,sink_run h,by kernel_rfl⟩
theorem sink_ex {n:Nat}:∀{ups:List IL} {r:Int} {es:Es} {b:LL},WT n r es ups b->(∀x∈b,x.2.1≠[])->∃r' es' ups',SinkR n r es r' es'/\WF n r' es' ups' b
 | [],r,es,b,h,hne=>by
  have e:=dn_nil h.dn
  obtain ⟨prs,rfl⟩:∃prs,b=[(r,prs,[])]:=by
   match b,e with
   | [(p,prs,hh)],e =>
    simp [sumL] at e
    obtain ⟨rfl,rfl⟩:=e
    exact ⟨prs,rfl⟩
   | [],e=>simp [sumL] at e
   | _::_::_,e=>simp [sumL] at e
  have hr:rightL ⟨prs,[],0⟩=true:=h.okF.1
  have hg:getE es r=some (encL ⟨prs,[],0⟩):=get_mem h.shf.nd (h.rep.mem_iff.2 (by simp [encT,encF,nxt]))
  exact ⟨r,es,[],.leaf h.shf hg hr,h,fun q=>absurd rfl q,fun l hl=>by cases hl⟩
 | l::d,r,es,b,h,hne=>by
  obtain ⟨e,hd⟩:=dn_cons h.dn
  obtain ⟨q,rfl,hq⟩:∃q,l=[(r,q)]/\hiE q=[]:=by
   match l,e with
   | [(p,q)],e =>
    simp [sumI] at e
    obtain ⟨rfl,e⟩:=e
    exact ⟨q,rfl,e⟩
   | [],e=>simp [sumI] at e
   | _::_::_,e=>simp [sumI] at e
  have ho:=h.okI _ (List.mem_cons_self ..)
  obtain ⟨hqn,hr⟩:okI q 0:=ho.1
  have hat:es.Perm ((r,encI q 0)::(encU d++encT encF b 0)):=h.rep
  have hg:getE es r=some (encB (innE q 0)):=get_perm h.shf.nd hat
  by_cases h2:2<=q.length
  ·refine ⟨r,es,_,.stop h.shf hg hr h2,h,fun _=>hne,?_⟩
   intro l hl x hx
   rw [List.reverse_cons,List.getLast?_append] at hl
   have:l=[(r,q)]:=by simpa using hl.symm
   rw [this] at hx
   have:x=(r,q):=by simpa using hx
   rw [this];exact h2
  ·obtain ⟨k,hk,rfl⟩:∃k hk,q=[(k,hk)]:=by
    match q,hqn,h2 with
    | [(k,hk)],_,_=>exact ⟨k,hk,rfl⟩
    | _::_::_,_,h2=>simp at h2
   have e0:hk=[]:=hq
   subst e0
   have hd':Dn [(k,[])] d b:=hd
   have hw:WT n k (delE es r) d b:=⟨shf_del h.shf r,del_perm h.shf.nd hat,hd',fun l hl=>h.okI l (by simp [hl]),h.okF,h.ord⟩
   obtain ⟨r',es',ups',h1,h3⟩:=sink_ex hw hne
   exact ⟨r',es',ups',.one h.shf hg hr h1,h3⟩
theorem set_mid {α:Type} (a:List α) (x y:α) (b:List α) {n:Nat} (h:n=a.length):(a++x::b).set n y=a++y::b:=by
 subst h
 rw [List.set_append_right _ _ (Nat.le_refl _),Nat.sub_self];rfl
theorem get_mid {α:Type} (a:List α) (x:α) (b:List α) {n:Nat} (h:n=a.length):(a++x::b)[n]? = some x:=by
 subst h
 rw [List.getElem?_append_right (Nat.le_refl _),Nat.sub_self];rfl
theorem rev_loop:∀(d:Nat) (M A B:List Int),M.length<=d->A.length+M.length+B.length<=100000->∀{i j:Int},i=A.length->j=(A.length:Int)+M.length - 1 ->
  Go qk true 1 (fF 169) (.head 0 (T169_0 i j (ints (A++(M++B))))) (.doneM (.tup []) [O.row 3 (ints (A++(M.reverse++B))) 0]):=by
 have fin:∀(M A B:List Int),M.length<=1->∀{i j:Int},i=A.length->j=(A.length:Int)+M.length - 1 ->
   Go qk true 1 (fF 169) (.head 0 (T169_0 i j (ints (A++(M++B))))) (.doneM (.tup []) [O.row 3 (ints (A++(M.reverse++B))) 0]):=by
  intro M A B hM i j hi hj
  have e:M.reverse=M:=by
   match M,hM with
   | [],_=>rfl
   | [_],_=>rfl
  rw [e]
  refine s169_0_run _ _ _ ?_ (.refl _)
  unfold s169_0
  rw [decide_eq_false (by omega),cond_false]
 intro d
 induction d with
 | zero=>intro M A B hM _ i j hi hj;exact fin M A B (by omega) hi hj
 | succ d ih =>
  intro M A B hM hl i j hi hj
  by_cases h1:M.length<=1
  ·exact fin M A B h1 hi hj
  obtain ⟨x,M1,rfl⟩:∃x M1,M=x::M1:=by
   match M,h1 with
   | x::M1,_=>exact ⟨x,M1,rfl⟩
   | [],h=>simp at h
  have hne:M1≠[]:=by rintro rfl;simp at h1
  obtain ⟨M2,y,rfl⟩:=snoc_of hne
  simp only [List.length_cons,List.length_append,List.length_nil] at hM hl hj h1
  have eL:A++(x::(M2++[y])++B)=A++x::(M2++y::B):=by simp
  have eL2:A++x::(M2++y::B)=(A++x::M2)++y::B:=by simp
  have eR:A++((x::(M2++[y])).reverse++B)=(A++[y])++(M2.reverse++(x::B)):=by simp
  have eN:(A++[y])++(M2++(x::B))=A++y::(M2++x::B):=by simp
  have eN2:A++y::(M2++x::B)=(A++y::M2)++x::B:=by simp
  have eM2:A++y::(M2++y::B)=(A++y::M2)++y::B:=by simp
  have w1:W .i64 (i+1)=i+1:=W_i64 (by omega)
  have w2:W .i64 (j - 1)=j - 1:=W_i64 (by omega)
  have ih:=ih M2 (A++[y]) (x::B) (by omega) (by simp;omega) (i:=i+1) (j:=j - 1) (by simp;omega) (by simp;omega)
  rw [eR,eL]
  rw [eN] at ih
  refine s169_0_run _ _ _ ?_ ih
  have hiN:i.toNat=A.length:=by omega
  have hjN:j.toNat=(A++x::M2).length:=by simp;omega
  have hjN2:j.toNat=(A++y::M2).length:=by simp;omega
  have g1:(A++x::(M2++y::B))[j.toNat]? = some y:=by rw [eL2];exact get_mid _ _ _ hjN
  have g2:(A++x::(M2++y::B))[i.toNat]? = some x:=get_mid _ _ _ hiN
  have g3:(A++y::(M2++y::B))[j.toNat]? = some y:=by rw [eM2];exact get_mid _ _ _ hjN2
  have st1:(A++x::(M2++y::B)).set i.toNat y=A++y::(M2++y::B):=set_mid _ _ _ _ hiN
  have st2:(A++y::(M2++y::B)).set j.toNat x=A++y::(M2++x::B):=by rw [eM2,set_mid _ _ _ _ hjN2,eN2]
  have l1:j.toNat < (ints (A++x::(M2++y::B))).length:=by rw [ints_len];simp;omega
  have l2:i.toNat < (ints (A++x::(M2++y::B))).length:=by rw [ints_len];simp;omega
  have l3:j.toNat < (ints (A++y::(M2++y::B))).length:=by rw [ints_len];simp;omega
  unfold s169_0
  rw [decide_eq_true (by omega),cond_true,gd_of (decide_eq_true (by omega)),gd_of (decide_eq_true l1),idxK_ints g1,kI_mk,gd_of (decide_eq_true (by omega)),gd_of (decide_eq_true l2),idxK_ints g2,kI_mk,gd_of (decide_eq_true (by omega)),gd_of (decide_eq_true l2),idxK_ints g2,kI_mk,
   ints_set,st1,gd_of (decide_eq_true (by omega)),gd_of (decide_eq_true l3),idxK_ints g3,kI_mk,ints_set,st2,w1,w2]
theorem revT_ok (l:List Int) (hl:l.length<=100000):icC qcfg cmT 169 [.own 0] [O.row 3 (ints l) 0]=some (mk169 (ints l.reverse)):=by
 have w:W .i64 (((ints l).length:Int) - 1)=(l.length:Int) - 1:=by rw [ints_len,W_i64 (by omega)]
 have:=rev_loop l.length l [] [] (Nat.le_refl _) (by simpa using hl) (i:=0) (j:=(l.length:Int) - 1) rfl (by simp)
 simp only [List.nil_append,List.append_nil] at this
 refine e169_run _ ?_ ⟨_,_,this,by kernel_rfl⟩
 unfold e169
 rw [w]
inductive AhR (es:Es):List Stp->List Int->Prop
 | nil:AhR es [] []
 | stop {q:Int} {e:Su} {nx:Int} {i:Nat} {sts:List Stp} {y:Int} (hr:rightB (innE e nx)=true) (hi:0 < i) (hy:(innE e nx).kids[i - 1]? = some y):AhR es ((q,e,nx,i)::sts) [y]
 | none {q:Int} {e:Su} {nx:Int} {sts:List Stp}:AhR es sts []->AhR es ((q,e,nx,0)::sts) []
 | down {q:Int} {e:Su} {nx:Int} {sts:List Stp} {z:Int} {zs:List Int} {ez:Su} {nz y:Int} {hy:Bs}:AhR es sts (z::zs)->getE es z=some (encB (innE (ez++[(y,hy)]) nz))->rightB (innE (ez++[(y,hy)]) nz)=true->AhR es ((q,e,nx,0)::sts) (y::z::zs)
theorem ah_len {es:Es} {sts:List Stp} {out:List Int} (h:AhR es sts out):out.length<=sts.length:=by
 induction h with
 | nil=>simp
 | stop=>simp
 | none=>simp
 | down _ _ _ ih=>simp at ih |-;omega
theorem stps_get {Q D:List Stp} {x:Stp} {sts:List Stp} (h:Q=(x::sts).reverse++D):(stpsV Q)[sts.length]? = some (stpV x):=by
 have:Q=sts.reverse++x::D:=by rw [h];simp
 rw [this]
 unfold stpsV
 rw [List.map_append,List.map_cons]
 exact get_mid _ _ _ (by simp)
theorem idx_stp {l:List V} {i:Nat} {x:Stp} {k:V->R} (h:l[i]? = some (stpV x)):idxK l i k=k (stpV x):=idxK_of h
section
variable {n:Nat} {r:Int} {es:Es} {lv:Int}
theorem ah_none (hS:Shf n es) (Q:List Stp) (hW:Q.length<=10000):∀(sts:List Stp),AhR es sts []->∀D,Q=sts.reverse++D ->
  Go qk true 5 (fF 124) (.head 0 (T124_0 (stpsV Q) lv ((sts.length:Int) - 1) r n (esV es) (bitsV n (tkn es)))) (.doneM (.own 6) (tM r n es++[O.row 3 [] 0,O.row 3 [] 0]))
 | [],_,D,_=>by
  refine s124_0_run _ _ _ _ _ _ _ ?_ (.refl _)
  unfold s124_0
  rw [decide_eq_false (by simp),cond_false,decide_eq_true (by simp),cond_true]
 | x::sts,h,D,hd=>by
  cases h with
  | @none q e nx _ h =>
   have hst:stpV (q,e,nx,0) = .agg [.int .i64 q,.sl (strs (innE e nx).seps),.sl (ints (innE e nx).kids),.str (hiE e),.int .i64 nx,.int .i64 ((0:Nat):Int)]:=rfl
   have hl:sts.length+1+D.length=Q.length:=by rw [hd];simp;omega
   have hx:=stps_get hd
   have w:W .i64 (((((q,e,nx,0)::sts:List Stp)).length:Int) - 1 - 1)=(sts.length:Int) - 1:=by rw [W_i64 (by simp;omega)];simp
   have ih:=ah_none hS Q hW sts h ((q,e,nx,0)::D) (by rw [hd];simp)
   refine s124_0_run _ _ _ _ _ _ _ ?_ ih
   unfold s124_0
   have ei:(((((q,e,nx,0)::sts:List Stp)).length:Int) - 1).toNat=sts.length:=by simp
   rw [decide_eq_true (by simp),cond_true,gd_of rfl,ei,idx_stp hx,hst,d176_mk,ibeq_t (show ((0:Nat):Int)=0 from rfl),cond_true,w]
theorem ah_some (hS:Shf n es) (Q:List Stp) (hW:Q.length<=10000) {o:Out}:∀(sts:List Stp) (y:Int) (out:List Int),AhR es sts (y::out)->∀D,Q=sts.reverse++D->∀m,m+sts.length=Q.length+out.length ->
  Go qk true 5 (fF 124) (.head 1 (T124_1 lv y (m:Int) (out.length:Int) r n (esV es) (bitsV n (tkn es)) (ints (y::out).reverse))) o ->
  Go qk true 5 (fF 124) (.head 0 (T124_0 (stpsV Q) lv ((sts.length:Int) - 1) r n (esV es) (bitsV n (tkn es)))) o
 | x::sts,y,out,h,D,hd,m,hm,hg=>by
  have hl:sts.length+1+D.length=Q.length:=by rw [hd];simp;omega
  have hx:=stps_get hd
  cases h with
  | @stop q e nx i _ _ hr hi hy =>
   have hst:stpV (q,e,nx,i) = .agg [.int .i64 q,.sl (strs (innE e nx).seps),.sl (ints (innE e nx).kids),.str (hiE e),.int .i64 nx,.int .i64 ((i:Nat):Int)]:=rfl
   have w0:W .i64 (((stpsV Q).length:Int) - 1)=(Q.length:Int) - 1:=by rw [stps_len,W_i64 (by omega)]
   have w1:W .i64 ((Q.length:Int) - 1 - (((((q,e,nx,i)::sts:List Stp)).length:Int) - 1))=(m:Int):=by rw [W_i64 (by simp;omega)];simp at hm |-;omega
   have w2:W .i64 ((i:Int) - 1)=((i - 1:Nat):Int):=by
    have:=(List.getElem?_eq_some_iff.1 hy).1
    have:=(right_sm hr).kids
    rw [W_i64 (by omega)];omega
   refine s124_0_run _ _ _ _ _ _ _ ?_ hg
   unfold s124_0
   have ei:(((((q,e,nx,i)::sts:List Stp)).length:Int) - 1).toNat=sts.length:=by simp
   rw [decide_eq_true (by simp),cond_true,gd_of rfl,ei,idx_stp hx,hst,d176_mk,ibeq_f (by omega),cond_false,decide_eq_false (by simp),cond_false,gd_of rfl,idx_stp hx,hst,d176_mk,gd_of rfl,idx_stp hx,hst,d176_mk,
    w2,gd_of (by simp),toNat_cast,idxK_ints hy,kI_mk,w0,w1]
   rfl
  | @down q e nx _ z zs ez nz _ hy h hg2 hr =>
   have hst:stpV (q,e,nx,0) = .agg [.int .i64 q,.sl (strs (innE e nx).seps),.sl (ints (innE e nx).kids),.str (hiE e),.int .i64 nx,.int .i64 ((0:Nat):Int)]:=rfl
   have w:W .i64 (((((q,e,nx,0)::sts:List Stp)).length:Int) - 1 - 1)=(sts.length:Int) - 1:=by rw [W_i64 (by simp;omega)];simp
   have hlen:=ah_len h
   simp only [List.length_cons] at hlen hm
   have ih:=ah_some hS Q hW (o:=o) sts z zs h ((q,e,nx,0)::D) (by rw [hd];simp) m (by omega) ?_
   ·refine s124_0_run _ _ _ _ _ _ _ ?_ ih
    unfold s124_0
    have ei:(((((q,e,nx,0)::sts:List Stp)).length:Int) - 1).toNat=sts.length:=by simp
    rw [decide_eq_true (by simp),cond_true,gd_of rfl,ei,idx_stp hx,hst,d176_mk,ibeq_t (show ((0:Nat):Int)=0 from rfl),cond_true,w]
   ·have ek:(innE (ez++[(y,hy)]) nz).kids=ez.map (·.1)++[y]:=by simp
    have hkl:(ints (innE (ez++[(y,hy)]) nz).kids).length=ez.length+1:=by rw [ek,ints_len];simp
    have hez:ez.length<=1000:=by
     have:=(right_sm hr).kids
     rw [ek] at this
     simp at this
     omega
    have w3:W .i64 (((ez.length+1:Nat):Int) - 1)=((ez.length:Nat):Int):=by rw [W_i64 (by omega)];omega
    have w4:W .i64 ((zs.length:Int)+1)=((z::zs).length:Int):=by rw [W_i64 (by omega)];simp
    have hyk:(innE (ez++[(y,hy)]) nz).kids[ez.length]? = some y:=by rw [ek];exact get_mid _ _ [] (by simp)
    refine s124_1_run _ _ _ _ _ _ _ _ _ ?_ hg
    unfold s124_1
    rw [decide_eq_true (by omega),cond_true,rd_inn hS hg2 hr,gdS_eq,hkl,w3,gd_of (by simp),toNat_cast,idxK_ints hyk,kI_mk,gd_of (decide_eq_true (by rw [ints_len];simp;omega)),w4]
    simp [ints]
end
theorem canNorm_win {c m:List O} {id off len:Nat} {e:TypeId} {els:List V} {fz:Nat} (hm:m[id]? = some (.row e els fz)) (h:off+len<=els.length) :
  canNorm cmT c (.win id off len) m=canBackW true (frontA c) (List.range' (frontA c) (c.length - frontA c)) c c (.sl ((els.drop off).take len)) (freezeAll [id] m):=by
 unfold canNorm slN
 simp [slV,slV1,snap1,elems,hm,if_pos h,slIds,ids1]
theorem aheadT_ok {n:Nat} {r:Int} {es:Es} (hS:Shf n es) (Q:List Stp) (hW:Q.length<=10000) {out:List Int} (h:AhR es Q.reverse out) (lv:Nat) (hlv:lv<=10000) :
  icC qcfg cmT 124 [.ptr 0 0 0,.sl (stpsV Q),.int .i64 (lv:Int)] (tM r n es)=some (mk124 (tM r n es) (ints (out.take lv))):=by
 have w0:W .i64 (((stpsV Q).length:Int) - 1)=((Q.reverse.length:Nat):Int) - 1:=by rw [stps_len,W_i64 (by omega)];simp
 have hol:=ah_len h
 rw [List.length_reverse] at hol
 cases out with
 | nil =>
  have:=ah_none (lv:=(lv:Int)) (r:=r) hS Q hW Q.reverse h [] (by simp)
  refine e124_run _ _ _ _ _ _ ?_ ⟨_,_,this,by rw [List.take_nil];kernel_rfl⟩
  unfold e124
  rw [w0]
 | cons y out =>
  have hg:∃mm,Go qk true 5 (fF 124) (.head 1 (T124_1 lv y (out.length:Int) (out.length:Int) r n (esV es) (bitsV n (tkn es)) (ints (y::out).reverse))) (.doneM (V.win 6 0 (min (out.length+1) lv - 0)) mm)/\mm=tM r n es++[O.row 3 [] 0,O.row 3 (ints (y::out)) 0]:=by
   refine ⟨_,s124_1_run _ _ _ _ _ _ _ _ _ ?_ (.refl _),rfl⟩
   unfold s124_1
   have:=revT_ok (y::out).reverse (by simp at hol |-;omega)
   rw [List.reverse_reverse] at this
   have em:(if (((y::out).length:Nat):Int) < (lv:Int) then (((y::out).length:Nat):Int) else (lv:Int))=((min (out.length+1) lv:Nat):Int):=by
    simp only [List.length_cons]
    split<;>omega
   rw [decide_eq_false (by omega),cond_false,icM_of mk169_inj this,gd_of (wfl_ints _),ints_len,em,gd_of (by simp),toNat_cast,gd_of (decide_eq_true (by simp only [List.length_cons];omega))]
  obtain ⟨mm,hg,rfl⟩:=hg
  have:=ah_some hS Q hW (lv:=lv) (r:=r) Q.reverse y out h [] (by simp) out.length (by rw [List.length_reverse,Nat.add_comm]) hg
  have et:(y::out).take lv=((y::out).drop 0).take (min (out.length+1) lv - 0):=by
   rw [Nat.sub_zero,List.drop_zero]
   by_cases hlt:lv<=out.length+1
   ·rw [Nat.min_eq_right hlt]
   ·rw [Nat.min_eq_left (by omega),List.take_of_length_le (by simp;omega),List.take_of_length_le (by simp)]
  have et2:ints ((y::out).take lv)=((ints (y::out)).drop 0).take (min (out.length+1) lv - 0):=by rw [et];simp [ints,List.map_take]
  rw [et2]
  refine e124_run _ _ _ _ _ _ ?_ ⟨_,_,this,(canNorm_win (e:=3) (els:=ints (y::out)) (fz:=0) rfl (by rw [ints_len,List.length_cons];omega)).trans (by kernel_rfl)⟩
  unfold e124
  rw [w0]
def wrs (es:Es) (l:Es):Es:=l.foldl (fun e x=>putE e x.1 x.2) es
def gvs (es:Es) (l:List Int):Es:=l.foldl delE es
theorem wrs_perm:∀{L L':Es} {es R:Es},(keysE es).Nodup->es.Perm (L++R)->keysE L=keysE L'->(wrs es L').Perm (L'++R)/\(keysE (wrs es L')).Nodup
 | [],[],es,R,hn,h,_=>⟨h,hn⟩
 |(a,x)::L,[],_,_,_,_,e=>by simp [keysE] at e
 | [],(a,x)::L,_,_,_,_,e=>by simp [keysE] at e
 |(a,x)::L,(a',y)::L',es,R,hn,h,e=>by
  have e:a::keysE L=a'::keysE L':=e
  obtain ⟨rfl,e2⟩:=List.cons.inj e
  have hp:=put_perm (b':=y) hn h
  have hk:keysE (putE es a y)=keysE es:=put_keys (mem_keys h)
  have:=wrs_perm (L:=L) (L':=L') (es:=putE es a y) (R:=(a,y)::R) (by rw [hk];exact hn) (hp.trans List.perm_middle.symm) e2
  exact ⟨this.1.trans List.perm_middle,this.2⟩
theorem shf_wrs {n:Nat}:∀{L L':Es} {es R:Es},Shf n es->es.Perm (L++R)->keysE L=keysE L'->Shf n (wrs es L')
 | [],[],es,R,hs,h,_=>hs
 |(a,x)::L,[],_,_,_,_,e=>by simp [keysE] at e
 | [],(a,x)::L,_,_,_,_,e=>by simp [keysE] at e
 |(a,x)::L,(a',y)::L',es,R,hs,h,e=>by
  have e:a::keysE L=a'::keysE L':=e
  obtain ⟨rfl,e2⟩:=List.cons.inj e
  exact shf_wrs (L:=L) (L':=L') (es:=putE es a y) (R:=(a,y)::R) (shf_put hs (mem_keys h)) ((put_perm (b':=y) hs.nd h).trans List.perm_middle.symm) e2
theorem gvs_perm {n:Nat}:∀{G:Es} {es R:Es},Shf n es->es.Perm (G++R)->(gvs es (keysE G)).Perm R/\Shf n (gvs es (keysE G))
 | [],es,R,hs,h=>⟨h,hs⟩
 |(a,x)::G,es,R,hs,h=>gvs_perm (G:=G) (es:=delE es a) (shf_del hs a) (del_perm hs.nd h)
theorem dele_left (e1:Su) (y:Int) (hy:Bs) (p:Int) (h:Bs) (e2:Su) (nx:Int):delN (innE (e1++(y,hy)::(p,h)::e2) nx) (e1.length+1)=innE (e1++(y,h)::e2) nx:=by
 unfold delN innE
 have hl:(e1.map (·.2)).length=e1.length:=by simp
 have hd:((e1++(y,hy)::(p,h)::e2).dropLast.map (·.2))=e1.map (·.2)++hy::sepsE ((p,h)::e2):=by
  rw [drop_last];simp [sepsE,List.dropLast]
 have hd2:((e1++(y,h)::e2).dropLast.map (·.2))=e1.map (·.2)++sepsE ((y,h)::e2):=by
  rw [drop_last];simp [sepsE]
 have hse:sepsE ((y,h)::e2)=sepsE ((p,h)::e2):=by
  cases e2 with
  | nil=>rfl
  | cons x e2=>rfl
 have hk:(e1++(y,hy)::(p,h)::e2).map (·.1)=(e1.map (·.1)++[y])++p::e2.map (·.1):=by simp
 have hkl:(e1.map (·.1)++[y]).length=e1.length+1:=by simp
 refine congr (congr (congr (congrArg Inn.mk ?_) ?_) (hiE_del e1 y hy p h e2).symm) rfl
 ·rw [hd,hd2,hse,Nat.add_sub_cancel,take_at _ _ hl,show e1.map (·.2)++hy::sepsE ((p,h)::e2)=(e1.map (·.2)++[hy])++sepsE ((p,h)::e2) by simp,drop_at _ _ (by simp)]
 ·rw [hk,take_at _ _ hkl,show (e1.map (·.1)++[y])++p::e2.map (·.1)=(e1.map (·.1)++[y,p])++e2.map (·.1) by simp,drop_at _ _ (by simp)]
  simp
theorem dele_first (p:Int) (h:Bs) (x:Int × Bs) (e2:Su) (nx:Int):delN (innE ((p,h)::x::e2) nx) 0=innE (x::e2) nx:=by
 unfold delN innE
 refine congr (congr (congr (congrArg Inn.mk ?_) ?_) (hiE_cons (p,h) (by simp))) rfl
 ·simp [List.dropLast]
 ·simp
structure RmX (sts:List Stp) (w:Bool) (gs:List Nd) (xo X:Nd) (h:Bs) (ss:List Stp) (xi:Nat) (rest:List Stp):Prop where
 fst:sts=ss++(xo.1,xo.2.1,xo.2.2,xi)::rest
 fgs:gs=ss.map fun s=>(s.1,s.2.1,s.2.2.1)
 one:∀s∈ss,s.2.1.length=1
 hi:∀g∈gs,hiE g.2.1=h
 two:2<=xo.2.1.length
 fw:w=decide ((xi:Int) > 0)
 pg:X.1=xo.1
 lti:xi < xo.2.1.length
 del:delN (innE xo.2.1 xo.2.2) xi=innE X.2.1 X.2.2
theorem rm_x {r:Int} {up:List IL} {p:Int} {h:Bs} {a c:Su} {sts:List Stp} {w:Bool} {up':List IL} {gs zo:List Nd} {xo X:Nd} (hr:Rm r up p h a c sts w up' gs zo xo X):∃ss xi rest,RmX sts w gs xo X h ss xi rest:=by
 induction hr with
 | @one up q p h pre post sts w up' gs zo xo X _ ih =>
  obtain ⟨ss,xi,rest,t⟩:=ih
  refine ⟨(q,[(p,h)],nxt post 0,0)::ss,xi,rest,⟨by rw [t.fst];rfl,by rw [t.fgs];rfl,?_,?_,t.two,t.fw,t.pg,t.lti,t.del⟩⟩
  ·intro s hs
   rcases List.mem_cons.1 hs with rfl | hs
   ·rfl
   ·exact t.one s hs
  ·intro g hg
   rcases List.mem_cons.1 hg with rfl | hg
   ·rfl
   ·exact t.hi g hg
 | @left up q p y h hy e1 e2 pre post sts _ =>
  exact ⟨[],e1.length+1,sts,⟨rfl,rfl,(by simp),(by simp),(by simp;omega),(by simp),rfl,(by simp),dele_left e1 y hy p h e2 _⟩⟩
 | @first up q p h x e2 pre post sts _ =>
  exact ⟨[],0,sts,⟨rfl,rfl,(by simp),(by simp),(by simp),(by simp),rfl,(by simp),dele_first p h x e2 _⟩⟩
theorem inE_get {n:Nat} {es:Es} (hS:Shf n es) {pre post:IL} {q:Int} {e:Su} (h:InE encI es (pre++(q,e)::post)):getE es q=some (encB (innE e (nxt post 0))):=get_mem hS.nd (h _ (mem_enc (f:=encI) pre q e post 0))
theorem pth_ah {n:Nat} {es:Es} (hS:Shf n es) {r:Int} {up:List IL} {p:Int} {h:Bs} {a c:Su} {sts:List Stp} (hp:Pth r up p h a c sts):(∀l∈up,okT okI l 0)->(∀l∈up,InE encI es l)->∃out,AhR es sts out/\out.take 1=pgA a:=by
 induction hp with
 | top=>intro _ _;exact ⟨[],.nil,rfl⟩
 | @st up q e1 p h e2 pre post sts hup ih =>
  intro hI hE
  have hl:=hI _ (List.mem_cons_self ..)
  have hIn:=hE _ (List.mem_cons_self ..)
  rcases List.eq_nil_or_concat e1 with rfl | ⟨e1',⟨y,hy⟩,rfl⟩
  ·obtain ⟨out,h1,h2⟩:=ih (fun l hl=>hI l (by simp [hl])) (fun l hl=>hE l (by simp [hl]))
   have e0:kidsI pre++[]=kidsI pre:=List.append_nil _
   rw [e0]
   rcases List.eq_nil_or_concat pre with rfl | ⟨l,⟨z,ez⟩,rfl⟩
   ·have:out=[]:=by
     cases out with
     | nil=>rfl
     | cons z out=>simp [sumI,pgA] at h2
    subst this
    exact ⟨[],.none h1,rfl⟩
   ·rw [List.concat_eq_append] at h2 hl hIn |-
    have e1:sumI (l++[(z,ez)])=sumI l++[(z,hiE ez)]:=by simp [sumI]
    rw [e1,pgA_snoc] at h2
    rw [List.append_assoc] at hl hIn
    obtain ⟨hne,hr⟩:okI ez _:=okI_enc hl
    have hg:=inE_get hS hIn
    obtain ⟨ez',⟨y,hy⟩,rfl⟩:=snoc_of hne
    have e2:kidsI (l++[(z,ez'++[(y,hy)])])=(kidsI l++ez')++[(y,hy)]:=by simp [kidsI]
    rw [e2,pgA_snoc]
    obtain ⟨rest,rfl⟩:∃rest,out=z::rest:=by
     cases out with
     | nil=>simp at h2
     | cons z' rest=>simp at h2;exact ⟨rest,by rw [h2]⟩
    exact ⟨_,.down h1 hg hr,rfl⟩
  ·rw [List.concat_eq_append] at hl hIn hup |-
   obtain ⟨hne,hr⟩:okI (e1'++[(y,hy)]++(p,h)::e2) (nxt post 0):=okI_enc hl
   refine ⟨[y],.stop hr (by simp) ?_,by rw [<-List.append_assoc,pgA_snoc];rfl⟩
   simp
theorem rm_ah {n:Nat} {es:Es} (hS:Shf n es) {r:Int} {up:List IL} {p:Int} {h:Bs} {a c:Su} {sts:List Stp} {w:Bool} {up':List IL} {gs zo:List Nd} {xo X:Nd} (hr:Rm r up p h a c sts w up' gs zo xo X) :
  (∀l∈up,okT okI l 0)->(∀l∈up,InE encI es l)->∃out,AhR es sts out/\out.take (gs.length+1)=pgA a++zo.map (·.1):=by
 induction hr with
 | @one up q p h pre post sts w up' gs zo xo X hrm ih =>
  intro hI hE
  have hl:=hI _ (List.mem_cons_self ..)
  have hIn:=hE _ (List.mem_cons_self ..)
  obtain ⟨out,h1,h2⟩:=ih (fun l hl=>hI l (by simp [hl])) (fun l hl=>hE l (by simp [hl]))
  rcases List.eq_nil_or_concat pre with rfl | ⟨l,⟨z,ez⟩,rfl⟩
  ·have hz:=(rm_zo hrm fun l hl x hx=>okI_ne (hI l (by simp [hl])) x hx).1 rfl
   subst hz
   have:out=[]:=by
    cases out with
    | nil=>rfl
    | cons z out=>simp [sumI,pgA] at h2
   subst this
   exact ⟨[],.none h1,by simp [lastN,kidsI,pgA]⟩
  ·rw [List.concat_eq_append] at h2 hl hIn |-
   have e1:sumI (l++[(z,ez)])=sumI l++[(z,hiE ez)]:=by simp [sumI]
   rw [e1,pgA_snoc] at h2
   rw [List.append_assoc] at hl hIn
   obtain ⟨hne,hr⟩:okI ez _:=okI_enc hl
   have hg:=inE_get hS hIn
   obtain ⟨ez',⟨y,hy⟩,rfl⟩:=snoc_of hne
   have e2:kidsI (l++[(z,ez'++[(y,hy)])])=(kidsI l++ez')++[(y,hy)]:=by simp [kidsI]
   rw [e2,pgA_snoc,lastN_snoc]
   obtain ⟨rest,rfl⟩:∃rest,out=z::rest:=by
    cases out with
    | nil=>simp at h2
    | cons z' rest =>
     have:z'=z:=by simpa using congrArg List.head? h2
     exact ⟨rest,by rw [this]⟩
   refine ⟨_,.down h1 hg hr,?_⟩
   rw [List.length_cons,List.take_succ_cons,h2]
   rfl
 | @left up q p y h hy e1 e2 pre post sts hup =>
  intro hI hE
  have e:e1++(y,hy)::(p,h)::e2=(e1++[(y,hy)])++(p,h)::e2:=by simp
  have el:(e1++[(y,hy)]).length=e1.length+1:=by simp
  rw [e] at hup hI hE |-
  have:=pth_ah hS (.st hup) hI hE
  rw [el] at this
  simpa using this
 | @first up q p h x e2 pre post sts hup =>
  intro hI hE
  have:=pth_ah hS (.st (e1:=[]) hup) hI hE
  simpa using this
abbrev Nl:=Int × Lf
def ezl (l:List Nl):Es:=l.map fun z=>(z.1,encL z.2)
def newL (w:Bool) (lf:Lf) (zl:List Nl):List Nl:=zl.map fun z=>(z.1,⟨z.2.prs,bif w then lf.high else z.2.high,lf.next⟩)
structure DropF (n:Nat) (es:Es) (ws:List Stp) (pl:Int) (lf:Lf) (w:Bool) (zl:List Nl) (gs zo:List Nd) (xo X:Nd) (ss:List Stp) (xi:Nat) (rest:List Stp) (out:List Int) (R:Es):Prop where
 shf:Shf n es
 len:ws.length<=1024
 x:RmX ws.reverse w gs xo X lf.high ss xi rest
 ah:AhR es ws.reverse out
 fout:out.take (gs.length+1)=zl.map (·.1)++zo.map (·.1)
 zl1:zl.length<=1
 zl0:zl=[]->zo=[]
 zo1:zl≠[]->zo.length=gs.length
 perm:es.Perm (ezl zl++(ezs zo++((pl,encL lf)::(ezs gs++(ezs [xo]++R)))))
 rlf:rightL lf=true
 rzl:∀z∈zl,rightL z.2=true
 rzl':∀z∈newL w lf zl,rightL z.2=true
 rgs:∀g∈gs,rightB (innE g.2.1 g.2.2)=true
 rzo:∀z∈zo,z.2.1≠[]/\rightB (innE z.2.1 z.2.2)=true
 rzo':∀z∈newN w lf.high zo gs,rightB (innE z.2.1 z.2.2)=true
 rxo:rightB (innE xo.2.1 xo.2.2)=true
 rX:rightB (innE X.2.1 X.2.2)=true
def dropE (es:Es) (pl:Int) (lf:Lf) (w:Bool) (zl:List Nl) (gs zo:List Nd) (X:Nd):Es :=
 gvs (putE (wrs es (ezl (newL w lf zl)++ezs (newN w lf.high zo gs))) X.1 (encI X.2.1 X.2.2)) (pl::gs.map (·.1))
theorem newN_keys (w:Bool) (h:Bs):∀(zo gs:List Nd),zo.length=gs.length->(newN w h zo gs).map (·.1)=zo.map (·.1)
 | [],[],_=>rfl
 | _::_,[],h=>by simp at h
 | [],_::_,h=>by simp at h
 | z::zo,g::gs,h=>by
  show z.1::(newN w _ zo gs).map (·.1)=_
  rw [newN_keys w _ zo gs (by simpa using h)];rfl
theorem keys_ezs (l:List Nd):keysE (ezs l)=l.map (·.1):=by simp [keysE,ezs]
theorem keys_ezl (l:List Nl):keysE (ezl l)=l.map (·.1):=by simp [keysE,ezl]
theorem keysE_app (a b:Es):keysE (a++b)=keysE a++keysE b:=by simp [keysE]
section
variable {n:Nat} {es:Es} {ws:List Stp} {pl:Int} {lf:Lf} {w:Bool} {zl:List Nl} {gs zo:List Nd} {xo X:Nd} {ss:List Stp} {xi:Nat} {rest:List Stp} {out:List Int} {R:Es}
theorem DropF.keys (d:DropF n es ws pl lf w zl gs zo xo X ss xi rest out R):keysE (ezl zl++ezs zo)=keysE (ezl (newL w lf zl)++ezs (newN w lf.high zo gs)):=by
 rw [keysE_app,keysE_app,keys_ezl,keys_ezl,keys_ezs,keys_ezs]
 have h1:(newL w lf zl).map (·.1)=zl.map (·.1):=by simp [newL]
 rw [h1]
 by_cases h:zl=[]
 ·rw [d.zl0 h];rfl
 ·rw [newN_keys _ _ _ _ (d.zo1 h)]
theorem DropF.left (d:DropF n es ws pl lf w zl gs zo xo X ss xi rest out R):(dropE es pl lf w zl gs zo X).Perm (ezl (newL w lf zl)++(ezs (newN w lf.high zo gs)++(ezs [X]++R)))/\Shf n (dropE es pl lf w zl gs zo X):=by
 have hp:=d.perm
 rw [<-List.append_assoc] at hp
 have h1:=wrs_perm d.shf.nd hp d.keys
 have hs1:=shf_wrs d.shf hp d.keys
 have hp2:(wrs es (ezl (newL w lf zl)++ezs (newN w lf.high zo gs))).Perm ((X.1,encI xo.2.1 xo.2.2)::((((pl,encL lf)::ezs gs))++(ezl (newL w lf zl)++(ezs (newN w lf.high zo gs)++R)))):=by
  refine h1.1.trans (perm_cn.2 fun x=>?_)
  rw [d.x.pg]
  simp only [cn_app,cn_cons,ezs_cons]
  simp only [ezs,List.map_nil,cn_nil]
  omega
 have hp3:=put_perm (b':=encI X.2.1 X.2.2) hs1.nd hp2
 have hs3:=shf_put hs1 (b:=encI X.2.1 X.2.2) (mem_keys hp2)
 have hp4:(putE (wrs es (ezl (newL w lf zl)++ezs (newN w lf.high zo gs))) X.1 (encI X.2.1 X.2.2)).Perm (((pl,encL lf)::ezs gs)++((X.1,encI X.2.1 X.2.2)::(ezl (newL w lf zl)++(ezs (newN w lf.high zo gs)++R)))):=by
  refine hp3.trans (perm_cn.2 fun x=>?_)
  simp only [cn_app,cn_cons]
  omega
 have h5:=gvs_perm hs3 hp4
 have hk:keysE ((pl,encL lf)::ezs gs)=pl::gs.map (·.1):=by
  show pl::keysE (ezs gs)=_
  rw [keys_ezs]
 rw [hk] at h5
 refine ⟨h5.1.trans (perm_cn.2 fun x=>?_),h5.2⟩
 simp only [cn_app,cn_cons,ezs_cons]
 simp only [ezs,List.map_nil,cn_nil]
 omega
end
end Go.Proofs.YtlphgcjepphhcaaGreat
