/-
  Texts that the last one stands on.
-/
import Derived.Test.YtknapnnpmfhogaaGreatY5
import Derived.Shelf.Spec.SlicesInsert
import Derived.Lib.SliceRun
import Derived.RangeFuncNested
import Derived.RangeFuncBound
import Derived.RangeFuncCalls
import Derived.RangeFuncLeaves
import Derived.Shelf.Abstract
import Derived.Shelf.RegionOpen
import Derived.WalkKit
import Derived.OwnWalkIn
import Derived.TacticsInMore
import Derived.LoopNIn
import Derived.LoopIn
import Derived.Stop.RegionWithIn
import Derived.Test.YtknapnnpmfhogaaGreatProg
import Derived.Shelf.SlIterI.Keys
import Derived.Shelf.SlIterI.Sorted
import Derived.Shelf.SortM.Plain
import Derived.Shelf.SortM.SortNone
import Derived.KernelRfl
import Derived.Maps.Own
namespace Go.Proofs.YtknapnnpmfhogaaGreat
open Go Go.Lite
set_option linter.unusedSimpArgs false
set_option linter.unusedVariables false
set_option linter.unnecessarySimpa false
abbrev small (s:Bs):Prop:=s.length < 4294967296
def placeE (s:Bs) (n:Int):Int:=if 0<=n/\n<=(s.length:Int) then 0 else 1
def roomE (s:Bs) (n size:Int):Int:=if size < 1∨8 < size∨¬(0<=n/\n<=(s.length:Int)) then 1 else if (s.length:Int) - n < size then 3 else 0
theorem roomE_zero {s:Bs} {n size:Int} (h:roomE s n size=0):1<=size/\size<=8/\0<=n/\n+size<=(s.length:Int):=by
 unfold roomE at h
 split at h
 ·cases h
 ·split at h
  ·cases h
  ·omega
theorem roomE_ok {s:Bs} {n size:Int} (h1:1<=size) (h2:size<=8) (h3:0<=n) (h4:n+size<=(s.length:Int)):roomE s n size=0:=by
 unfold roomE
 rw [if_neg (by omega),if_neg (by omega)]
theorem place_ok (s:Bs) (n:Int):pcW qcfg 99 [.str s,.int .i64 n]=some (.int .i64 (placeE s n)):=by
 refine e99_done _ _ ?_
 unfold e99 placeE
 by_cases h1:n < 0
 ·rw [decide_eq_true h1,if_neg (by omega)];rfl
 ·rw [decide_eq_false h1]
  by_cases h2:n > (s.length:Int)
  ·rw [decide_eq_true h2,if_neg (by omega)];rfl
  ·rw [decide_eq_false h2,if_pos (by omega)];rfl
theorem room_ok (s:Bs) (n size:Int) (hs:small s):pcW qcfg 90 [.str s,.int .i64 n,.int .i64 size]=some (.int .i64 (roomE s n size)):=by
 refine e90_done _ _ _ ?_
 unfold e90 roomE
 rw [pcK_of (place_ok s n),kI_mk]
 by_cases h1:size < 1
 ·rw [decide_eq_true h1,if_pos (.inl h1)];rfl
 rw [decide_eq_false h1,cond_false]
 by_cases h2:size > 8
 ·rw [decide_eq_true h2,if_pos (.inr (.inl h2))];rfl
 rw [decide_eq_false h2,cond_false]
 unfold placeE
 by_cases h3:0<=n/\n<=(s.length:Int)
 ·rw [if_pos h3,if_neg (by omega),W_i64 (by omega)]
  by_cases h4:(s.length:Int) - n < size
  ·rw [decide_eq_true h4,if_pos h4];rfl
  ·rw [decide_eq_false h4,if_neg h4];rfl
 ·rw [if_neg h3,if_pos (.inr (.inr h3))];rfl
def getB (s:Bs) (n size:Int):Int × Int:=if roomE s n size=0 then (((unle ((s.drop n.toNat).take size.toNat):Nat):Int),0) else (0,roomE s n size)
theorem get_loop (s:Bs) (n k:Nat) (hk:k<=8) (hl:n+k<=s.length) (hs:small s):∀d i,i+d=k ->
  Go qk false 0 fa75 (.head 0 (T75_0 s (n:Int) ((unle ((s.drop n).take i):Nat):Int) (k:Int) (i:Int))) (.done (.tup [.int .u64 ((unle ((s.drop n).take k):Nat):Int),.int .i64 0])):=by
 intro d
 induction d with
 | zero =>
  intro i hi
  have:i=k:=by omega
  subst this
  refine s75_0_run _ _ _ _ _ ?_ (.refl _)
  unfold s75_0
  rw [decide_eq_false (by omega)]
  rfl
 | succ d ih =>
  intro i hi
  have hsl:=hs
  have hlt:n+i < s.length:=by omega
  obtain ⟨c,hc⟩:∃c,s[n+i]? = some c:=⟨_,List.getElem?_eq_getElem hlt⟩
  have hlen:((s.drop n).take i).length=i:=by simp;omega
  have e1:(s.drop n).take (i+1)=(s.drop n).take i++[c]:=by
   rw [List.take_add_one,List.getElem?_drop,hc];rfl
  have hx:unle ((s.drop n).take i) < 256 ^ i:=by have:=unle_lt ((s.drop n).take i);rwa [hlen] at this
  refine s75_0_run _ _ _ _ _ (o:=.head 0 (T75_0 s (n:Int) ((unle ((s.drop n).take (i+1)):Nat):Int) (k:Int) ((i+1:Nat):Int))) ?_ (ih (i+1) (by omega))
  unfold s75_0
  have w1:W .i64 ((n:Int)+(i:Int))=((n+i:Nat):Int):=by rw [W_i64 (by omega)];omega
  have w2:W .i64 (8 * (i:Int))=8 * (i:Int):=W_i64 (by omega)
  have w3:W .i64 ((i:Int)+1)=((i+1:Nat):Int):=by rw [W_i64 (by omega)];omega
  rw [decide_eq_true (by omega),cond_true,w1,gd_of (by simp;omega),toNat_cast,idxK_of hc,or64 hx c.toNat_lt (by omega),w2,gd_of (by simp;omega),w3,e1,unle_snoc,hlen]
theorem get_ok (s:Bs) (n size:Int) (hs:small s):pcW qcfg 75 [.str s,.int .i64 n,.int .i64 size]=some (.tup [.int .u64 (getB s n size).1,.int .i64 (getB s n size).2]):=by
 by_cases h:roomE s n size=0
 ·obtain ⟨h1,h2,h3,h4⟩:=roomE_zero h
  obtain ⟨k,rfl⟩:∃k:Nat,size=(k:Int):=⟨size.toNat,by omega⟩
  obtain ⟨m,rfl⟩:∃m:Nat,n=(m:Int):=⟨n.toNat,by omega⟩
  have hl:=get_loop s m k (by omega) (by omega) hs k 0 (by omega)
  refine e75_run _ _ _ ?_ (o:=.head 0 (T75_0 s (m:Int) 0 (k:Int) 0)) ?_
  ·unfold e75
   rw [pcK_of (room_ok s _ _ hs),kI_mk,h];rfl
  ·unfold getB
   rw [if_pos h]
   simpa [unle] using hl
 ·refine e75_run _ _ _ ?_ (.refl _)
  unfold e75 getB
  rw [pcK_of (room_ok s _ _ hs),kI_mk,if_neg h,ibne_t h];rfl
def putB (s:Bs) (n size:Int) (x:Nat):Bs × Int:=if roomE s n size=0 then (if x < 256 ^ size.toNat then (overB s n.toNat (leN size.toNat x),0) else ([],2)) else ([],roomE s n size)
theorem over_prim {av:List V} {v:V} (h:overP av=some v):pcW qcfg 98 av=some v:=pcW_prim (g:=overP) rfl h
theorem over_ok (s:Bs) (n:Nat) (t:Bs) (h:n+t.length<=s.length) (l:List V) (ns:List Int) (hl:numsOf l=some ns) (ht:(ns.map fun x=>UInt8.ofNat x.toNat)=t) :
  pcW qcfg 98 [.str s,.int .i64 (n:Int),.sl l]=some (.str (overB s n t)):=by
 apply over_prim
 have e:l.length=t.length:=by rw [<-ht,List.length_map,(numsOf_get hl).1]
 simp only [overP,toNat_cast]
 rw [if_pos ⟨Int.natCast_nonneg _,by omega⟩,hl,Option.map_some,ht]
def putRow (x k i:Nat):List V:=(leN i x).map (fun b=>V.int .u8 (b.toNat:Int))++List.replicate (k - i) (V.int .u8 0)
theorem putRow_len {x k i:Nat} (h:i<=k):(putRow x k i).length=k:=by simp [putRow,leN_len];omega
theorem putRow_set {x k i:Nat} (h:i < k):(putRow x k i).set i (V.int .u8 ((x / 256 ^ i % 256:Nat):Int))=putRow x k (i+1):=by
 unfold putRow
 rw [List.set_append_right _ _ (by simp [leN_len])]
 simp only [List.length_map,leN_len,Nat.sub_self]
 rw [show k - i=(k - (i+1))+1 by omega,List.replicate_succ,List.set_cons_zero,leN_snoc,List.map_append,List.append_assoc]
 congr 1
 simp only [List.map_cons,List.map_nil,List.cons_append,List.nil_append,List.cons.injEq,V.int.injEq,true_and,and_true]
 simp
theorem put_loop (s:Bs) (n k x:Nat) (hk:k<=8) (h1:1<=k) (hl:n+k<=s.length) (hs:small s):∀d i,i+d=k ->
  Go qk false 0 fa89 (.head 0 (T89_0 s (n:Int) (x:Int) (k:Int) (i:Int) (putRow x k i))) (.done (.tup [.str (overB s n (leN k x)),.int .i64 0])):=by
 intro d
 induction d with
 | zero =>
  intro i hi
  have:i=k:=by omega
  subst this
  refine s89_0_run _ _ _ _ _ _ ?_ (.refl _)
  unfold s89_0
  have hrow:putRow x i i=bytesV (leN i x):=by simp [putRow,bytesV]
  rw [decide_eq_false (by omega),cond_false,pcK_of (over_ok s n (leN i x) (by rw [leN_len];exact hl) _ _ (by rw [hrow];exact numsOf_bytes _) (nums_back _)),kS_mk]
 | succ d ih =>
  intro i hi
  have hsl:=hs
  refine s89_0_run _ _ _ _ _ _ (o:=.head 0 (T89_0 s (n:Int) (x:Int) (k:Int) ((i+1:Nat):Int) (putRow x k (i+1)))) ?_ (ih (i+1) (by omega))
  unfold s89_0
  have w2:W .i64 (8 * (i:Int))=8 * (i:Int):=W_i64 (by omega)
  have w3:W .i64 ((i:Int)+1)=((i+1:Nat):Int):=by rw [W_i64 (by omega)];omega
  have hget:(putRow x k i)[i]? = some (V.int .u8 0):=by
   unfold putRow
   rw [List.getElem?_append_right (by simp [leN_len])]
   simp only [List.length_map,leN_len,Nat.sub_self]
   rw [List.getElem?_replicate,if_pos (by omega)]
  rw [shr64 (by omega),W_u8_nat]
  rw [decide_eq_true (by omega),cond_true,w2,gd_of (by simp;omega),gd_of (by simp),toNat_cast,gd_of (by rw [putRow_len (by omega)];simp;omega),idxK_of hget,kI_mk,putRow_set (by omega),w3]
theorem put_ok (s:Bs) (n size:Int) (x:Nat) (hx:x < 18446744073709551616) (hs:small s):pcW qcfg 89 [.str s,.int .i64 n,.int .i64 size,.int .u64 (x:Int)]=some (.tup [.str (putB s n size x).1,.int .i64 (putB s n size x).2]):=by
 by_cases h:roomE s n size=0
 ·obtain ⟨h1,h2,h3,h4⟩:=roomE_zero h
  obtain ⟨k,rfl⟩:∃k:Nat,size=(k:Int):=⟨size.toNat,by omega⟩
  obtain ⟨m,rfl⟩:∃m:Nat,n=(m:Int):=⟨n.toNat,by omega⟩
  have w2:W .i64 (8 * (k:Int))=8 * (k:Int):=W_i64 (by omega)
  have hfits:x < 256 ^ k↔x / 256 ^ k=0:=by rw [Nat.div_eq_zero_iff];constructor
                                           ·exact .inr
                                           ·rintro (h | h)
                                            ·exact absurd h (by have:=Nat.pow_pos (n:=k) (show 0 < 256 by decide);omega)
                                            ·exact h
  unfold putB
  rw [if_pos h,toNat_cast,toNat_cast]
  by_cases hb:x < 256 ^ k
  ·rw [if_pos hb]
   have hl:=put_loop s m k x (by omega) (by omega) (by omega) hs k 0 (by omega)
   have hrow:putRow x k 0=List.replicate k (V.int .u8 0):=by simp [putRow,leN]
   rw [hrow] at hl
   refine e89_run _ _ _ _ ?_ (o:=.head 0 (T89_0 s (m:Int) (x:Int) (k:Int) 0 (List.replicate k (V.int .u8 0)))) (by simpa using hl)
   unfold e89
   rw [pcK_of (room_ok s _ _ hs),kI_mk,h]
   rw [shr64 (by omega),hfits.1 hb,w2,toNat_cast]
   by_cases h8:(k:Int) < 8
   ·simp [h8,show ¬(8 * (k:Int) < 0) by omega]
    omega
   ·simp [h8]
    omega
  ·rw [if_neg hb]
   have h8:(k:Int) < 8:=by
    have:¬k=8:=by
     rintro rfl
     exact hb hx
    omega
   refine e89_run _ _ _ _ ?_ (.refl _)
   unfold e89
   rw [pcK_of (room_ok s _ _ hs),kI_mk,h]
   rw [shr64 (by omega),w2]
   have:0 < x / 256 ^ k:=Nat.pos_of_ne_zero fun e=>hb (hfits.2 e)
   have hp:(((x / 256 ^ k:Nat):Int) > 0):=by omega
   rw [decide_eq_true h8,decide_eq_true hp,decide_eq_false (show ¬(8 * (k:Int) < 0) by omega)]
   rfl
 ·refine e89_run _ _ _ _ ?_ (.refl _)
  unfold e89 putB
  rw [pcK_of (room_ok s _ _ hs),kI_mk,if_neg h,ibne_t h];rfl
theorem tdiv_nat (n m:Nat):((n:Int)).tdiv (m:Int)=((n / m:Nat):Int):=rfl
theorem tmod_nat (n m:Nat):((n:Int)).tmod (m:Int)=((n % m:Nat):Int):=rfl
def padB (s:Bs) (n:Int):Bs × Int:=if n < 0∨65536 < n then ([],1) else if n < (s.length:Int) then ([],2) else (s++List.replicate (n.toNat - s.length) 0,0)
theorem nums_rep (k:Nat):numsOf (List.replicate k (V.int .u8 0))=some (List.replicate k 0):=by
 have:=numsOf_ints (List.replicate k 0)
 rwa [List.map_replicate] at this
theorem pad_ok (s:Bs) (n:Int) (hs:small s):pcW qcfg 88 [.str s,.int .i64 n]=some (.tup [.str (padB s n).1,.int .i64 (padB s n).2]):=by
 refine e88_done _ _ ?_
 have hsl:=hs
 unfold e88 padB
 by_cases h1:n < 0
 ·rw [decide_eq_true h1,if_pos (.inl h1)];rfl
 rw [decide_eq_false h1,cond_false]
 by_cases h2:n > 65536
 ·rw [decide_eq_true h2,if_pos (.inr h2)];rfl
 rw [decide_eq_false h2,cond_false,if_neg (by omega)]
 by_cases h3:(s.length:Int) > n
 ·rw [decide_eq_true h3,if_pos h3];rfl
 rw [decide_eq_false h3,cond_false,if_neg h3]
 obtain ⟨k,rfl⟩:∃k:Nat,n=((s.length+k:Nat):Int):=⟨(n - s.length).toNat,by omega⟩
 have w:W .i64 (((s.length+k:Nat):Int) - (s.length:Int))=(k:Int):=by rw [W_i64 (by omega)];omega
 rw [w,toNat_cast,toNat_cast,gd_of (by simp),gd_of (by simp),gd_of (by simp;omega),nums_rep,opt_mk,List.map_replicate,show s.length+k - s.length=k by omega]
 rw [gd_of (by simp;omega)]
 rfl
theorem little_ok:∀(k n:Nat),n < 18446744073709551616->k < 4294967296->pcW qcfg 63 [.int .u64 (n:Int),.int .i64 (k:Int)]=some (.str (leN k n)):=by
 intro k
 induction k with
 | zero =>
  intro n _ _
  refine e63_done _ _ ?_
  unfold e63
  rw [ibeq_t (by omega)]
  rfl
 | succ k ih =>
  intro n hn hk
  refine e63_done _ _ ?_
  unfold e63
  have w1:W .u64 (((n:Int)).tdiv 256)=((n / 256:Nat):Int):=by
   rw [show ((n:Int)).tdiv 256=((n / 256:Nat):Int) from rfl]
   exact W_u64 (by omega)
  have w2:W .i64 (((k+1:Nat):Int) - 1)=(k:Int):=by rw [W_i64 (by omega)];omega
  have w3:W .u8 (((n:Int)).tmod 256)=((n % 256:Nat):Int):=by
   rw [show ((n:Int)).tmod 256=((n % 256:Nat):Int) from rfl,W_u8_nat]
   omega
  rw [ibeq_f (by omega),cond_false,w1,w2,pcK_of (ih (n / 256) (by omega) (by omega)),kS_mk,w3,toNat_cast,gd_of (by simp [leN_len];omega)]
  rfl
theorem bad_ok (s:Bs) (n size:Int) (hs:small s):pcW qcfg 64 [.str s,.int .i64 n,.int .i64 size]=some (.int .i64 (roomE s n size)):=by
 refine e64_done _ _ _ ?_
 have hsl:=hs
 unfold e64 roomE
 by_cases h1:size < 1
 ·rw [decide_eq_true h1,if_pos (.inl h1)];rfl
 rw [decide_eq_false h1,cond_false]
 by_cases h2:size > 8
 ·rw [decide_eq_true h2,if_pos (.inr (.inl h2))];rfl
 rw [decide_eq_false h2,cond_false]
 by_cases h3:n < 0
 ·rw [decide_eq_true h3,if_pos (.inr (.inr (by omega)))];rfl
 rw [decide_eq_false h3,cond_false]
 by_cases h4:n > (s.length:Int)
 ·rw [decide_eq_true h4,if_pos (.inr (.inr (by omega)))];rfl
 rw [decide_eq_false h4,cond_false,W_i64 (by omega),if_neg (by omega)]
 by_cases h5:n+size > (s.length:Int)
 ·rw [decide_eq_true h5,if_pos (by omega)];rfl
 ·rw [decide_eq_false h5,if_neg (by omega)];rfl
theorem leN_zero:∀k,leN k 0=List.replicate k 0
 | 0=>rfl
 | k+1=>by rw [leN,Nat.zero_div,leN_zero k];rfl
theorem padR_ok (s:Bs) (n:Int) (hs:small s):pcW qcfg 41 [.str s,.int .i64 n]=some (.tup [.str (padB s n).1,.int .i64 (padB s n).2]):=by
 refine e41_done _ _ ?_
 have hsl:=hs
 unfold e41 padB
 by_cases h1:n < 0
 ·rw [decide_eq_true h1,if_pos (.inl h1)];rfl
 rw [decide_eq_false h1,cond_false]
 by_cases h2:n > 65536
 ·rw [decide_eq_true h2,if_pos (.inr h2)];rfl
 rw [decide_eq_false h2,cond_false,if_neg (by omega)]
 by_cases h3:(s.length:Int) > n
 ·rw [decide_eq_true h3,if_pos h3];rfl
 rw [decide_eq_false h3,cond_false,if_neg h3]
 obtain ⟨k,rfl⟩:∃k:Nat,n=((s.length+k:Nat):Int):=⟨(n - s.length).toNat,by omega⟩
 have w:W .i64 (((s.length+k:Nat):Int) - (s.length:Int))=(k:Int):=by rw [W_i64 (by omega)];omega
 have hq:pcW qcfg 63 [.int .u64 0,.int .i64 (k:Int)]=some (.str (List.replicate k 0)):=by
  have:=little_ok k 0 (by decide) (by omega)
  rwa [leN_zero] at this
 rw [w,toNat_cast,pcK_of hq,kS_mk,show s.length+k - s.length=k by omega,gd_of (by simp;omega)]
def ints (l:List Int):List V:=l.map (V.int .i64)
theorem ints_len (l:List Int):(ints l).length=l.length:=by simp [ints]
theorem idxK_ints {l:List Int} {n:Nat} {x:Int} {k:V->R} (h:l[n]? = some x):idxK (ints l) n k=k (.int .i64 x):=idxK_map h
theorem intsR_loop (a b:List Int) (hab:a.length=b.length) (hl:a.length < 4294967296):∀(r s:List Int) (k:Nat),a.drop k=r->b.drop k=s ->
  Go qk false 0 fa11 (.head 0 (T11_0 (ints a) (ints b) (k:Int))) (.done (.bool (r==s))):=by
 intro r
 induction r with
 | nil =>
  intro s k hr hs
  have h1:=drop_nil hr
  have:s=[]:=by rw [<-hs];exact List.drop_eq_nil_iff.2 (by omega)
  subst this
  refine s11_0_run _ _ _ ?_ (.refl _)
  unfold s11_0
  rw [decide_eq_false (by first | omega | (simp only [ints_len];omega))]
  rfl
 | cons x r ih =>
  intro s k hr hs
  obtain ⟨h1,h2,h3⟩:=drop_cons hr
  cases s with
  | nil=>have:=drop_nil hs;omega
  | cons y s =>
   obtain ⟨h4,h5,h6⟩:=drop_cons hs
   have w:W .i64 ((k:Int)+1)=((k+1:Nat):Int):=by rw [W_i64 (by omega)];omega
   by_cases e:x=y
   ·subst e
    refine s11_0_run _ _ _ (o:=.head 0 (T11_0 (ints a) (ints b) ((k+1:Nat):Int))) ?_ ?_
    ·unfold s11_0
     rw [decide_eq_true (by first | omega | (simp only [ints_len];omega)),cond_true,gd_of (by simp),toNat_cast,idxK_ints h1,kI_mk,gd_of (by simp),idxK_ints h4,kI_mk,w]
     simp
    ·have:=ih s (k+1) h2 h5
     simpa using this
   ·refine s11_0_run _ _ _ ?_ (.refl _)
    have e2:((x::r)==(y::s))=false:=by
     simp [e]
    unfold s11_0
    rw [decide_eq_true (by first | omega | (simp only [ints_len];omega)),cond_true,gd_of (by simp),toNat_cast,idxK_ints h1,kI_mk,gd_of (by simp),idxK_ints h4,kI_mk,(show (x != y)=true by simpa using e),e2]
    rfl
theorem intsR_ok (a b:List Int) (hl:a.length < 4294967296):pcW qcfg 11 [.sl (ints a),.sl (ints b)]=some (.bool (a==b)):=by
 by_cases h:a.length=b.length
 ·refine e11_run _ _ (o:=.head 0 (T11_0 (ints a) (ints b) ((0:Nat):Int))) ?_ (intsR_loop a b h hl a b 0 rfl rfl)
  unfold e11
  rw [ints_len,ints_len,ibne_f (by omega)]
  rfl
 ·refine e11_run _ _ ?_ (.refl _)
  unfold e11
  have:(a==b)=false:=by
   simp only [beq_eq_false_iff_ne,ne_eq]
   rintro rfl
   exact h rfl
  rw [ints_len,ints_len,ibne_t (by omega),this]
  rfl
set_option maxRecDepth 10000
theorem putR_loop (s:Bs) (n k x:Nat) (hk:k<=8) (h1:1<=k) (hl:n+k<=s.length) (hs:small s) (hx:x < 18446744073709551616):∀d i,i+d=k ->
  Go qk false 0 fa42 (.head 0 (T42_0 s (n:Int) (k:Int) (x:Int) ((x / 256 ^ i:Nat):Int) (i:Int)))
   (.done (if x < 256 ^ k then .tup [.str (overB s n (leN k x)),.int .i64 0] else .tup [.str [],.int .i64 2])):=by
 intro d
 induction d with
 | zero =>
  intro i hi
  have:i=k:=by omega
  subst this
  have hsl:=hs
  refine s42_0_run _ _ _ _ _ _ ?_ (.refl _)
  unfold s42_0
  rw [decide_eq_false (by omega),cond_false]
  by_cases hb:x < 256 ^ i
  ·rw [if_pos hb]
   have:x / 256 ^ i=0:=by rw [Nat.div_eq_zero_iff];exact .inr hb
   rw [this,decide_eq_false (by omega),cond_false,gd_of (by simp),toNat_cast,gd_of (by simp;omega),pcK_of (little_ok i x hx (by omega)),kS_mk]
   have w:W .i64 ((n:Int)+(i:Int))=((n+i:Nat):Int):=by rw [W_i64 (by omega)];omega
   rw [w,toNat_cast,gd_of (by simp [leN_len];omega),gd_of (by simp;omega),gd_of (by simp;omega),gd_of (by simp [leN_len];omega)]
   congr 3
   simp [overB,leN_len]
  ·rw [if_neg hb]
   have:0 < x / 256 ^ i:=by
    apply Nat.pos_of_ne_zero
    intro e
    rcases Nat.div_eq_zero_iff.1 e with h | h
    ·exact absurd h (by have:=Nat.pow_pos (n:=i) (show 0 < 256 by decide);omega)
    ·exact hb h
   rw [decide_eq_true (by omega)];rfl
 | succ d ih =>
  intro i hi
  refine s42_0_run _ _ _ _ _ _ ?_ (ih (i+1) (by omega))
  unfold s42_0
  have w3:W .i64 ((i:Int)+1)=((i+1:Nat):Int):=by rw [W_i64 (by omega)];omega
  have hle:x / 256 ^ i<=x:=Nat.div_le_self _ _
  have w2:W .u64 (((x / 256 ^ i:Nat):Int).tdiv 256)=((x / 256 ^ (i+1):Nat):Int):=by
   rw [show (256:Int)=((256:Nat):Int) from rfl,tdiv_nat,Nat.div_div_eq_div_mul,<-Nat.pow_succ]
   have:=Nat.div_le_self x (256 ^ (i+1))
   generalize x / 256 ^ (i+1)=y at *
   exact W_u64 (by omega)
  rw [decide_eq_true (by omega),cond_true,w2,w3]
theorem putR_ok (s:Bs) (n size:Int) (x:Nat) (hx:x < 18446744073709551616) (hs:small s):pcW qcfg 42 [.str s,.int .i64 n,.int .i64 size,.int .u64 (x:Int)]=some (.tup [.str (putB s n size x).1,.int .i64 (putB s n size x).2]):=by
 by_cases h:roomE s n size=0
 ·obtain ⟨h1,h2,h3,h4⟩:=roomE_zero h
  obtain ⟨k,rfl⟩:∃k:Nat,size=(k:Int):=⟨size.toNat,by omega⟩
  obtain ⟨m,rfl⟩:∃m:Nat,n=(m:Int):=⟨n.toNat,by omega⟩
  have hl:=putR_loop s m k x (by omega) (by omega) (by omega) hs hx k 0 (by omega)
  refine e42_run _ _ _ _ ?_ (o:=.head 0 (T42_0 s (m:Int) (k:Int) (x:Int) (x:Int) 0)) ?_
  ·unfold e42
   rw [pcK_of (bad_ok s _ _ hs),kI_mk,h];rfl
  ·unfold putB
   rw [if_pos h,toNat_cast,toNat_cast]
   have:(if x < 256 ^ k then V.tup [V.str (overB s m (leN k x)),V.int IntKind.i64 0] else V.tup [V.str [],V.int IntKind.i64 2]) =
     V.tup [V.str (if x < 256 ^ k then (overB s m (leN k x),(0:Int)) else ([],2)).1,V.int IntKind.i64 (if x < 256 ^ k then (overB s m (leN k x),(0:Int)) else ([],2)).2]:=by split<;>rfl
   rw [this] at hl
   simpa using hl
 ·refine e42_run _ _ _ _ ?_ (.refl _)
  unfold e42 putB
  rw [pcK_of (bad_ok s _ _ hs),kI_mk,if_neg h,ibne_t h];rfl
abbrev w32 (n:Nat):Prop:=n < 4294967296
theorem W_u32n (n:Nat):W .u32 (n:Int)=((n % 4294967296:Nat):Int):=by
 simp [W,IntKind.wrap,IntKind.bits,IntKind.signed]
theorem W_u32l {n:Nat} (h:w32 n):W .u32 (n:Int)=(n:Int):=by rw [W_u32n,Nat.mod_eq_of_lt h]
theorem xor32 {a b:Nat} (ha:w32 a) (hb:w32 b):W .u32 (((BitVec.ofInt (IntKind.bits .u32) (a:Int) ^^^ BitVec.ofInt (IntKind.bits .u32) (b:Int)).toNat:Int))=((a ^^^ b:Nat):Int):=by
 have h:(BitVec.ofInt 32 (a:Int) ^^^ BitVec.ofInt 32 (b:Int)).toNat=a ^^^ b:=by
  rw [BitVec.toNat_xor,BitVec.ofInt_natCast,BitVec.ofInt_natCast,BitVec.toNat_ofNat,BitVec.toNat_ofNat]
  rw [Nat.mod_eq_of_lt ha,Nat.mod_eq_of_lt hb]
 change W .u32 (((BitVec.ofInt 32 (a:Int) ^^^ BitVec.ofInt 32 (b:Int)).toNat:Int))=_
 rw [h]
 exact W_u32l (Nat.xor_lt_two_pow (n:=32) ha hb)
theorem and32 {a b:Nat} (ha:w32 a) (hb:w32 b):W .u32 (((BitVec.ofInt (IntKind.bits .u32) (a:Int) &&& BitVec.ofInt (IntKind.bits .u32) (b:Int)).toNat:Int))=((a &&& b:Nat):Int):=by
 have h:(BitVec.ofInt 32 (a:Int) &&& BitVec.ofInt 32 (b:Int)).toNat=a &&& b:=by
  rw [BitVec.toNat_and,BitVec.ofInt_natCast,BitVec.ofInt_natCast,BitVec.toNat_ofNat,BitVec.toNat_ofNat]
  rw [Nat.mod_eq_of_lt ha,Nat.mod_eq_of_lt hb]
 change W .u32 (((BitVec.ofInt 32 (a:Int) &&& BitVec.ofInt 32 (b:Int)).toNat:Int))=_
 rw [h]
 exact W_u32l (Nat.and_lt_two_pow (n:=32) _ hb)
theorem fdiv_pow (a j:Nat):((a:Int)).fdiv (2 ^ j)=((a / 2 ^ j:Nat):Int):=by
 rw [show ((2:Int) ^ j)=((2 ^ j:Nat):Int) by simp,Int.fdiv_eq_ediv_of_nonneg _ (Int.natCast_nonneg _)];rfl
def bit1 (x:Nat):Nat:=if x % 2=1 then (x / 2) ^^^ 2197175160 else x / 2
theorem bit1_lt {x:Nat} (h:w32 x):w32 (bit1 x):=by
 unfold bit1
 split
 ·exact Nat.xor_lt_two_pow (n:=32) (by unfold w32 at h;omega) (by decide)
 ·unfold w32 at *;omega
def bitN:Nat->Nat->Nat
 | 0,x=>x
 | k+1,x=>bitN k (bit1 x)
theorem bitN_lt:∀(k:Nat) {x:Nat},w32 x->w32 (bitN k x)
 | 0,_,h=>h
 | k+1,_,h=>bitN_lt k (bit1_lt h)
theorem laid_loop:∀(d i x:Nat),i+d=4->w32 x->Go qk false 0 fa100 (.head 0 (T100_0 (x:Int) (i:Int))) (.done (.int .u32 (bitN d x:Nat))):=by
 intro d
 induction d with
 | zero =>
  intro i x hi hx
  refine s100_0_run _ _ ?_ (.refl _)
  unfold s100_0
  rw [decide_eq_false (by omega)];rfl
 | succ d ih =>
  intro i x hi hx
  refine s100_0_run _ _ ?_ (ih (i+1) (bit1 x) (by omega) (bit1_lt hx))
  unfold s100_0
  have w3:W .i64 ((i:Int)+1)=((i+1:Nat):Int):=by rw [W_i64 (by omega)];omega
  have ha:=and32 hx (show w32 1 by decide)
  rw [Nat.and_one_is_mod] at ha
  have hd:((x:Int)).fdiv (2 ^ (min 1 (IntKind.bits .u32)))=((x / 2:Nat):Int):=fdiv_pow x 1
  have hxo:W .u32 (((BitVec.ofInt (IntKind.bits .u32) (((x / 2:Nat):Nat):Int) ^^^ BitVec.ofInt (IntKind.bits .u32) 2197175160).toNat:Int))=(((x / 2) ^^^ 2197175160:Nat):Int) :=
   xor32 (show w32 (x / 2) by unfold w32 at *;omega) (show w32 2197175160 by decide)
  have ha':W .u32 (((BitVec.ofInt (IntKind.bits .u32) (x:Int) &&& BitVec.ofInt (IntKind.bits .u32) 1).toNat:Int))=((x % 2:Nat):Int):=ha
  rw [decide_eq_true (by omega),cond_true,ha',hd,hxo,w3]
  unfold bit1
  by_cases hb:x % 2=1
  ·rw [if_pos hb,hb];rfl
  ·rw [if_neg hb,show x % 2=0 by omega];rfl
theorem laid_ok (x:Nat) (hx:w32 x):pcW qcfg 100 [.int .u32 (x:Int)]=some (.int .u32 (bitN 4 x:Nat)) :=
 e100_run _ (o:=.head 0 (T100_0 (x:Int) 0)) rfl (laid_loop 4 0 x rfl hx)
def tab:List Nat:=(List.range 16).map (bitN 4)
theorem tab_get {i:Nat} (h:i < 16):tab[i]? = some (bitN 4 i):=by simp [tab,h]
def tabV:List V:=tab.map fun n:Nat=>V.int .u32 (n:Int)
theorem table_ok:pcW qcfg 91 []=some (.agg tabV):=by
 refine e91_run rfl ?_
 refine s91_0_0_run 0 0 0 0 0 0 0 0 0 0 0 0 0 0 0 0 (o:=.head 0 (T91_0 1 ((bitN 4 0:Nat):Int) 0 0 0 0 0 0 0 0 0 0 0 0 0 0 0)) (by unfold s91_0_0;exact pcK_of (laid_ok 0 (by decide)) ▸ rfl) ?_
 refine s91_0_1_run ((bitN 4 0:Nat):Int) 0 0 0 0 0 0 0 0 0 0 0 0 0 0 0 (o:=.head 0 (T91_0 2 ((bitN 4 0:Nat):Int) ((bitN 4 1:Nat):Int) 0 0 0 0 0 0 0 0 0 0 0 0 0 0)) (by unfold s91_0_1;exact pcK_of (laid_ok 1 (by decide)) ▸ rfl) ?_
 refine s91_0_2_run ((bitN 4 0:Nat):Int) ((bitN 4 1:Nat):Int) 0 0 0 0 0 0 0 0 0 0 0 0 0 0 (o:=.head 0 (T91_0 3 ((bitN 4 0:Nat):Int) ((bitN 4 1:Nat):Int) ((bitN 4 2:Nat):Int) 0 0 0 0 0 0 0 0 0 0 0 0 0)) (by unfold s91_0_2;exact pcK_of (laid_ok 2 (by decide)) ▸ rfl) ?_
 refine s91_0_3_run ((bitN 4 0:Nat):Int) ((bitN 4 1:Nat):Int) ((bitN 4 2:Nat):Int) 0 0 0 0 0 0 0 0 0 0 0 0 0 (o:=.head 0 (T91_0 4 ((bitN 4 0:Nat):Int) ((bitN 4 1:Nat):Int) ((bitN 4 2:Nat):Int) ((bitN 4 3:Nat):Int) 0 0 0 0 0 0 0 0 0 0 0 0)) (by unfold s91_0_3;exact pcK_of (laid_ok 3 (by decide)) ▸ rfl) ?_
 refine s91_0_4_run ((bitN 4 0:Nat):Int) ((bitN 4 1:Nat):Int) ((bitN 4 2:Nat):Int) ((bitN 4 3:Nat):Int) 0 0 0 0 0 0 0 0 0 0 0 0 (o:=.head 0 (T91_0 5 ((bitN 4 0:Nat):Int) ((bitN 4 1:Nat):Int) ((bitN 4 2:Nat):Int) ((bitN 4 3:Nat):Int) ((bitN 4 4:Nat):Int) 0 0 0 0 0 0 0 0 0 0 0)) (by unfold s91_0_4;exact pcK_of (laid_ok 4 (by decide)) ▸ rfl) ?_
 refine s91_0_5_run ((bitN 4 0:Nat):Int) ((bitN 4 1:Nat):Int) ((bitN 4 2:Nat):Int) ((bitN 4 3:Nat):Int) ((bitN 4 4:Nat):Int) 0 0 0 0 0 0 0 0 0 0 0 (o:=.head 0 (T91_0 6 ((bitN 4 0:Nat):Int) ((bitN 4 1:Nat):Int) ((bitN 4 2:Nat):Int) ((bitN 4 3:Nat):Int) ((bitN 4 4:Nat):Int) ((bitN 4 5:Nat):Int) 0 0 0 0 0 0 0 0 0 0)) (by unfold s91_0_5;exact pcK_of (laid_ok 5 (by decide)) ▸ rfl) ?_
 refine s91_0_6_run ((bitN 4 0:Nat):Int) ((bitN 4 1:Nat):Int) ((bitN 4 2:Nat):Int) ((bitN 4 3:Nat):Int) ((bitN 4 4:Nat):Int) ((bitN 4 5:Nat):Int) 0 0 0 0 0 0 0 0 0 0 (o:=.head 0 (T91_0 7 ((bitN 4 0:Nat):Int) ((bitN 4 1:Nat):Int) ((bitN 4 2:Nat):Int) ((bitN 4 3:Nat):Int) ((bitN 4 4:Nat):Int) ((bitN 4 5:Nat):Int) ((bitN 4 6:Nat):Int) 0 0 0 0 0 0 0 0 0)) (by unfold s91_0_6;exact pcK_of (laid_ok 6 (by decide)) ▸ rfl) ?_
 refine s91_0_7_run ((bitN 4 0:Nat):Int) ((bitN 4 1:Nat):Int) ((bitN 4 2:Nat):Int) ((bitN 4 3:Nat):Int) ((bitN 4 4:Nat):Int) ((bitN 4 5:Nat):Int) ((bitN 4 6:Nat):Int) 0 0 0 0 0 0 0 0 0 (o:=.head 0 (T91_0 8 ((bitN 4 0:Nat):Int) ((bitN 4 1:Nat):Int) ((bitN 4 2:Nat):Int) ((bitN 4 3:Nat):Int) ((bitN 4 4:Nat):Int) ((bitN 4 5:Nat):Int) ((bitN 4 6:Nat):Int) ((bitN 4 7:Nat):Int) 0 0 0 0 0 0 0 0)) (by unfold s91_0_7;exact pcK_of (laid_ok 7 (by decide)) ▸ rfl) ?_
 refine s91_0_8_run ((bitN 4 0:Nat):Int) ((bitN 4 1:Nat):Int) ((bitN 4 2:Nat):Int) ((bitN 4 3:Nat):Int) ((bitN 4 4:Nat):Int) ((bitN 4 5:Nat):Int) ((bitN 4 6:Nat):Int) ((bitN 4 7:Nat):Int) 0 0 0 0 0 0 0 0 (o:=.head 0 (T91_0 9 ((bitN 4 0:Nat):Int) ((bitN 4 1:Nat):Int) ((bitN 4 2:Nat):Int) ((bitN 4 3:Nat):Int) ((bitN 4 4:Nat):Int) ((bitN 4 5:Nat):Int) ((bitN 4 6:Nat):Int) ((bitN 4 7:Nat):Int) ((bitN 4 8:Nat):Int) 0 0 0 0 0 0 0)) (by unfold s91_0_8;exact pcK_of (laid_ok 8 (by decide)) ▸ rfl) ?_
 refine s91_0_9_run ((bitN 4 0:Nat):Int) ((bitN 4 1:Nat):Int) ((bitN 4 2:Nat):Int) ((bitN 4 3:Nat):Int) ((bitN 4 4:Nat):Int) ((bitN 4 5:Nat):Int) ((bitN 4 6:Nat):Int) ((bitN 4 7:Nat):Int) ((bitN 4 8:Nat):Int) 0 0 0 0 0 0 0 (o:=.head 0 (T91_0 10 ((bitN 4 0:Nat):Int) ((bitN 4 1:Nat):Int) ((bitN 4 2:Nat):Int) ((bitN 4 3:Nat):Int) ((bitN 4 4:Nat):Int) ((bitN 4 5:Nat):Int) ((bitN 4 6:Nat):Int) ((bitN 4 7:Nat):Int) ((bitN 4 8:Nat):Int) ((bitN 4 9:Nat):Int) 0 0 0 0 0 0)) (by unfold s91_0_9;exact pcK_of (laid_ok 9 (by decide)) ▸ rfl) ?_
 refine s91_0_10_run ((bitN 4 0:Nat):Int) ((bitN 4 1:Nat):Int) ((bitN 4 2:Nat):Int) ((bitN 4 3:Nat):Int) ((bitN 4 4:Nat):Int) ((bitN 4 5:Nat):Int) ((bitN 4 6:Nat):Int) ((bitN 4 7:Nat):Int) ((bitN 4 8:Nat):Int) ((bitN 4 9:Nat):Int) 0 0 0 0 0 0 (o:=.head 0 (T91_0 11 ((bitN 4 0:Nat):Int) ((bitN 4 1:Nat):Int) ((bitN 4 2:Nat):Int) ((bitN 4 3:Nat):Int) ((bitN 4 4:Nat):Int) ((bitN 4 5:Nat):Int) ((bitN 4 6:Nat):Int) ((bitN 4 7:Nat):Int) ((bitN 4 8:Nat):Int) ((bitN 4 9:Nat):Int) ((bitN 4 10:Nat):Int) 0 0 0 0 0)) (by unfold s91_0_10;exact pcK_of (laid_ok 10 (by decide)) ▸ rfl) ?_
 refine s91_0_11_run ((bitN 4 0:Nat):Int) ((bitN 4 1:Nat):Int) ((bitN 4 2:Nat):Int) ((bitN 4 3:Nat):Int) ((bitN 4 4:Nat):Int) ((bitN 4 5:Nat):Int) ((bitN 4 6:Nat):Int) ((bitN 4 7:Nat):Int) ((bitN 4 8:Nat):Int) ((bitN 4 9:Nat):Int) ((bitN 4 10:Nat):Int) 0 0 0 0 0 (o:=.head 0 (T91_0 12 ((bitN 4 0:Nat):Int) ((bitN 4 1:Nat):Int) ((bitN 4 2:Nat):Int) ((bitN 4 3:Nat):Int) ((bitN 4 4:Nat):Int) ((bitN 4 5:Nat):Int) ((bitN 4 6:Nat):Int) ((bitN 4 7:Nat):Int) ((bitN 4 8:Nat):Int) ((bitN 4 9:Nat):Int) ((bitN 4 10:Nat):Int) ((bitN 4 11:Nat):Int) 0 0 0 0)) (by unfold s91_0_11;exact pcK_of (laid_ok 11 (by decide)) ▸ rfl) ?_
 refine s91_0_12_run ((bitN 4 0:Nat):Int) ((bitN 4 1:Nat):Int) ((bitN 4 2:Nat):Int) ((bitN 4 3:Nat):Int) ((bitN 4 4:Nat):Int) ((bitN 4 5:Nat):Int) ((bitN 4 6:Nat):Int) ((bitN 4 7:Nat):Int) ((bitN 4 8:Nat):Int) ((bitN 4 9:Nat):Int) ((bitN 4 10:Nat):Int) ((bitN 4 11:Nat):Int) 0 0 0 0 (o:=.head 0 (T91_0 13 ((bitN 4 0:Nat):Int) ((bitN 4 1:Nat):Int) ((bitN 4 2:Nat):Int) ((bitN 4 3:Nat):Int) ((bitN 4 4:Nat):Int) ((bitN 4 5:Nat):Int) ((bitN 4 6:Nat):Int) ((bitN 4 7:Nat):Int) ((bitN 4 8:Nat):Int) ((bitN 4 9:Nat):Int) ((bitN 4 10:Nat):Int) ((bitN 4 11:Nat):Int) ((bitN 4 12:Nat):Int) 0 0 0)) (by unfold s91_0_12;exact pcK_of (laid_ok 12 (by decide)) ▸ rfl) ?_
 refine s91_0_13_run ((bitN 4 0:Nat):Int) ((bitN 4 1:Nat):Int) ((bitN 4 2:Nat):Int) ((bitN 4 3:Nat):Int) ((bitN 4 4:Nat):Int) ((bitN 4 5:Nat):Int) ((bitN 4 6:Nat):Int) ((bitN 4 7:Nat):Int) ((bitN 4 8:Nat):Int) ((bitN 4 9:Nat):Int) ((bitN 4 10:Nat):Int) ((bitN 4 11:Nat):Int) ((bitN 4 12:Nat):Int) 0 0 0 (o:=.head 0 (T91_0 14 ((bitN 4 0:Nat):Int) ((bitN 4 1:Nat):Int) ((bitN 4 2:Nat):Int) ((bitN 4 3:Nat):Int) ((bitN 4 4:Nat):Int) ((bitN 4 5:Nat):Int) ((bitN 4 6:Nat):Int) ((bitN 4 7:Nat):Int) ((bitN 4 8:Nat):Int) ((bitN 4 9:Nat):Int) ((bitN 4 10:Nat):Int) ((bitN 4 11:Nat):Int) ((bitN 4 12:Nat):Int) ((bitN 4 13:Nat):Int) 0 0)) (by unfold s91_0_13;exact pcK_of (laid_ok 13 (by decide)) ▸ rfl) ?_
 refine s91_0_14_run ((bitN 4 0:Nat):Int) ((bitN 4 1:Nat):Int) ((bitN 4 2:Nat):Int) ((bitN 4 3:Nat):Int) ((bitN 4 4:Nat):Int) ((bitN 4 5:Nat):Int) ((bitN 4 6:Nat):Int) ((bitN 4 7:Nat):Int) ((bitN 4 8:Nat):Int) ((bitN 4 9:Nat):Int) ((bitN 4 10:Nat):Int) ((bitN 4 11:Nat):Int) ((bitN 4 12:Nat):Int) ((bitN 4 13:Nat):Int) 0 0 (o:=.head 0 (T91_0 15 ((bitN 4 0:Nat):Int) ((bitN 4 1:Nat):Int) ((bitN 4 2:Nat):Int) ((bitN 4 3:Nat):Int) ((bitN 4 4:Nat):Int) ((bitN 4 5:Nat):Int) ((bitN 4 6:Nat):Int) ((bitN 4 7:Nat):Int) ((bitN 4 8:Nat):Int) ((bitN 4 9:Nat):Int) ((bitN 4 10:Nat):Int) ((bitN 4 11:Nat):Int) ((bitN 4 12:Nat):Int) ((bitN 4 13:Nat):Int) ((bitN 4 14:Nat):Int) 0)) (by unfold s91_0_14;exact pcK_of (laid_ok 14 (by decide)) ▸ rfl) ?_
 refine s91_0_15_run ((bitN 4 0:Nat):Int) ((bitN 4 1:Nat):Int) ((bitN 4 2:Nat):Int) ((bitN 4 3:Nat):Int) ((bitN 4 4:Nat):Int) ((bitN 4 5:Nat):Int) ((bitN 4 6:Nat):Int) ((bitN 4 7:Nat):Int) ((bitN 4 8:Nat):Int) ((bitN 4 9:Nat):Int) ((bitN 4 10:Nat):Int) ((bitN 4 11:Nat):Int) ((bitN 4 12:Nat):Int) ((bitN 4 13:Nat):Int) ((bitN 4 14:Nat):Int) 0 (o:=.head 0 (T91_0 16 ((bitN 4 0:Nat):Int) ((bitN 4 1:Nat):Int) ((bitN 4 2:Nat):Int) ((bitN 4 3:Nat):Int) ((bitN 4 4:Nat):Int) ((bitN 4 5:Nat):Int) ((bitN 4 6:Nat):Int) ((bitN 4 7:Nat):Int) ((bitN 4 8:Nat):Int) ((bitN 4 9:Nat):Int) ((bitN 4 10:Nat):Int) ((bitN 4 11:Nat):Int) ((bitN 4 12:Nat):Int) ((bitN 4 13:Nat):Int) ((bitN 4 14:Nat):Int) ((bitN 4 15:Nat):Int))) (by unfold s91_0_15;exact pcK_of (laid_ok 15 (by decide)) ▸ rfl) ?_
 refine s91_0_16_run ((bitN 4 0:Nat):Int) ((bitN 4 1:Nat):Int) ((bitN 4 2:Nat):Int) ((bitN 4 3:Nat):Int) ((bitN 4 4:Nat):Int) ((bitN 4 5:Nat):Int) ((bitN 4 6:Nat):Int) ((bitN 4 7:Nat):Int) ((bitN 4 8:Nat):Int) ((bitN 4 9:Nat):Int) ((bitN 4 10:Nat):Int) ((bitN 4 11:Nat):Int) ((bitN 4 12:Nat):Int) ((bitN 4 13:Nat):Int) ((bitN 4 14:Nat):Int) ((bitN 4 15:Nat):Int) (o:=.done (.agg tabV)) ?_ (.refl _)
 rfl
def crcStep (n:Nat) (c:UInt8):Nat :=
 let a:=n ^^^ c.toNat
 let b:=(a / 16) ^^^ bitN 4 (a % 16)
 (b / 16) ^^^ bitN 4 (b % 16)
theorem half_lt {a:Nat} (h:w32 a):w32 ((a / 16) ^^^ bitN 4 (a % 16)):=Nat.xor_lt_two_pow (n:=32) (by unfold w32 at *;omega) (bitN_lt 4 (by unfold w32 at *;omega))
theorem crcStep_lt {n:Nat} (c:UInt8) (h:w32 n):w32 (crcStep n c):=half_lt (half_lt (Nat.xor_lt_two_pow (n:=32) h (by have:=c.toNat_lt;omega)))
theorem crcFold_lt:∀(s:Bs) {n:Nat},w32 n->w32 (s.foldl crcStep n)
 | [],_,h=>h
 | c::s,_,h=>crcFold_lt s (crcStep_lt c h)
def crc (s:Bs):Nat:=4294967295 ^^^ s.foldl crcStep 4294967295
theorem crc_lt (s:Bs):w32 (crc s):=Nat.xor_lt_two_pow (n:=32) (by decide) (crcFold_lt s (by decide))
theorem idx_tab {n:Nat} (h:n < 16) {k:V->R}:idxK tabV (0+n * 1) k=k (.int .u32 (bitN 4 n:Nat)):=by
 rw [Nat.zero_add,Nat.mul_one]
 exact idxK_of (by simp [tabV,tab_get h])
theorem half_ok {a:Nat} (h:w32 a):W .u32 (((BitVec.ofInt (IntKind.bits .u32) (((a:Int)).fdiv (2 ^ (min 4 (IntKind.bits .u32)))) ^^^ BitVec.ofInt (IntKind.bits .u32) ((bitN 4 (a % 16):Nat):Int)).toNat:Int))=(((a / 16) ^^^ bitN 4 (a % 16):Nat):Int):=by
 rw [show ((a:Int)).fdiv (2 ^ (min 4 (IntKind.bits .u32)))=((a / 16:Nat):Int) from fdiv_pow a 4]
 exact xor32 (by unfold w32 at *;omega) (bitN_lt 4 (by unfold w32 at *;omega))
theorem tabV_eq:tabV=[V.int .u32 ((bitN 4 0:Nat):Int),V.int .u32 ((bitN 4 1:Nat):Int),V.int .u32 ((bitN 4 2:Nat):Int),V.int .u32 ((bitN 4 3:Nat):Int),V.int .u32 ((bitN 4 4:Nat):Int),V.int .u32 ((bitN 4 5:Nat):Int),V.int .u32 ((bitN 4 6:Nat):Int),V.int .u32 ((bitN 4 7:Nat):Int),V.int .u32 ((bitN 4 8:Nat):Int),V.int .u32 ((bitN 4 9:Nat):Int),V.int .u32 ((bitN 4 10:Nat):Int),V.int .u32 ((bitN 4 11:Nat):Int),V.int .u32 ((bitN 4 12:Nat):Int),V.int .u32 ((bitN 4 13:Nat):Int),V.int .u32 ((bitN 4 14:Nat):Int),V.int .u32 ((bitN 4 15:Nat):Int)]:=rfl
theorem of_loop (s:Bs) (hs:small s):∀(d i n:Nat),i+d=s.length->w32 n ->
  Go qk false 0 fa76 (.head 0 (T76_0 (n:Int) (bytesV s) (s.length:Int) (i:Int) ((bitN 4 0:Nat):Int) ((bitN 4 1:Nat):Int) ((bitN 4 2:Nat):Int) ((bitN 4 3:Nat):Int) ((bitN 4 4:Nat):Int) ((bitN 4 5:Nat):Int) ((bitN 4 6:Nat):Int) ((bitN 4 7:Nat):Int) ((bitN 4 8:Nat):Int) ((bitN 4 9:Nat):Int) ((bitN 4 10:Nat):Int) ((bitN 4 11:Nat):Int) ((bitN 4 12:Nat):Int) ((bitN 4 13:Nat):Int) ((bitN 4 14:Nat):Int) ((bitN 4 15:Nat):Int)))
   (.done (.int .u32 ((4294967295 ^^^ (s.drop i).foldl crcStep n:Nat):Int))):=by
 intro d
 induction d with
 | zero =>
  intro i n hi hn
  refine s76_0_run _ _ _ _  _ _ _ _ _ _ _ _ _ _ _ _ _ _ _ _ ?_ (.refl _)
  unfold s76_0
  rw [decide_eq_false (by omega),cond_false,List.drop_eq_nil_of_le (by omega)]
  have:=xor32 (show w32 4294967295 by decide) hn
  rw [show W .u32 (((BitVec.ofInt (IntKind.bits .u32) 4294967295 ^^^ BitVec.ofInt (IntKind.bits .u32) (n:Int)).toNat:Int))=_ from this]
  rfl
 | succ d ih =>
  intro i n hi hn
  have hsl:=hs
  have hlt:i < s.length:=by omega
  obtain ⟨c,hc⟩:∃c,s[i]? = some c:=⟨_,List.getElem?_eq_getElem hlt⟩
  have e1:s.drop i=c::s.drop (i+1):=by rw [List.drop_eq_getElem_cons hlt];congr 1;simpa [List.getElem?_eq_getElem hlt] using hc
  rw [e1,List.foldl_cons]
  refine s76_0_run _ _ _ _  _ _ _ _ _ _ _ _ _ _ _ _ _ _ _ _ ?_ (ih (i+1) (crcStep n c) (by omega) (crcStep_lt c hn))
  unfold s76_0
  have hcl:=c.toNat_lt
  have hg:(bytesV s)[i]? = some (V.int .u8 (c.toNat:Int)):=by simp [bytesV,hc]
  have w3:W .i64 ((i:Int)+1)=((i+1:Nat):Int):=by rw [W_i64 (by omega)];omega
  have ha:w32 (n ^^^ c.toNat):=Nat.xor_lt_two_pow (n:=32) hn (by omega)
  have hx:=xor32 hn (show w32 c.toNat by unfold w32;omega)
  simp only [<-tabV_eq]
  rw [decide_eq_true (by omega),cond_true,toNat_cast]
  rw [idxK_of hg,kI_mk,W_u32l (show w32 c.toNat by unfold w32;omega),hx]
  generalize hA:n ^^^ c.toNat=a at *
  rw [show ((a:Nat):Int).tmod 16=((a % 16:Nat):Int) from tmod_nat a 16,toNat_cast,gd_of (decide_eq_true (by omega)),gd_of (decide_eq_true (by omega)),idx_tab (by omega),kI_mk,half_ok ha]
  generalize hB:a / 16 ^^^ bitN 4 (a % 16)=b
  have hb:w32 b:=hB ▸ half_lt ha
  rw [show ((b:Nat):Int).tmod 16=((b % 16:Nat):Int) from tmod_nat b 16,toNat_cast,gd_of (decide_eq_true (by omega)),gd_of (decide_eq_true (by omega)),idx_tab (by omega),kI_mk,half_ok hb,w3]
  subst hB hA
  rw [gd_of (decide_eq_true (by omega))]
  rfl
theorem of_ok (s:Bs) (hs:small s):pcW qcfg 76 [.str s]=some (.int .u32 ((crc s:Nat):Int)):=by
 refine e76_run _ ?_ (of_loop s hs s.length 0 4294967295 (by omega) (by decide))
 unfold e76
 rw [pcK_of table_ok,tabV_eq,d126_mk]
 simp [bytesV]
def zeros (n:Nat):Bs:=List.replicate n 0
def sealB (w:Bs):Bs:=w++leN 4 (crc w)
def padW (s:Bs):Bs:=s++zeros (252 - s.length)
theorem padW_len {s:Bs} (h:s.length<=252):(padW s).length=252:=by simp [padW,zeros];omega
theorem padB_252 {s:Bs} (h:s.length<=252):padB s 252=(padW s,0):=by
 unfold padB
 rw [if_neg (by omega),if_neg (by omega)];rfl
theorem sealB_len {w:Bs} (h:w.length=252):(sealB w).length=256:=by simp [sealB,leN_len,h]
def sealE (s:Bs):Bs × Int:=if 252 < s.length then ([],2) else (sealB (padW s),0)
theorem seal_ok (s:Bs) (hs:small s):pcW qcfg 74 [.str s]=some (.tup [.str (sealE s).1,.int .i64 (sealE s).2]):=by
 refine e74_done _ ?_
 unfold e74 sealE
 by_cases h:252 < s.length
 ·rw [decide_eq_true (by omega),if_pos h];rfl
 ·have hw:=padW_len (s:=s) (by omega)
  have hsw:small (padW s):=by unfold small;omega
  have h2:padB (padW s) 256=(padW s++zeros 4,0):=by
   unfold padB
   rw [if_neg (by omega),if_neg (by omega),hw];rfl
  have hl:(padW s++zeros 4).length=256:=by simp [zeros,hw]
  have h3:putB (padW s++zeros 4) 252 4 (crc (padW s))=(sealB (padW s),0):=by
   unfold putB
   rw [roomE_ok (by omega) (by omega) (by omega) (by omega),if_pos rfl,if_pos (by have:=crc_lt (padW s);unfold w32 at this;simpa using this)]
   congr 1
   simp only [overB,sealB,leN_len]
   rw [show (252:Int).toNat=252 from rfl,show (4:Int).toNat=4 from rfl,List.take_left' hw,List.drop_eq_nil_of_le (by omega),List.append_nil]
  rw [decide_eq_false (by omega),cond_false,if_neg h,pcK_of (pad_ok s 252 hs),padB_252 (by omega),d57_mk,pcK_of (pad_ok _ 256 hsw),h2,d57_mk,pcK_of (of_ok _ hsw),kI_mk]
  have hc:=crc_lt (padW s)
  rw [W_u64 (by unfold w32 at hc;omega),pcK_of (put_ok _ 252 4 _ (by unfold w32 at hc;omega) (show small (padW s++zeros 4) by unfold small;omega)),h3,d57_mk]
def openE (p:Bs):Bs × Int:=if p.length=256 then (if unle ((p.drop 252).take 4)=crc (p.take 252) then (p.take 252,0) else ([],5)) else ([],4)
theorem open_ok (p:Bs) (hs:small p):pcW qcfg 62 [.str p]=some (.tup [.str (openE p).1,.int .i64 (openE p).2]):=by
 refine e62_done _ ?_
 unfold e62 openE
 by_cases h:p.length=256
 ·have hg:getB p 252 4=(((unle ((p.drop 252).take 4):Nat):Int),0):=by
   unfold getB
   rw [roomE_ok (by omega) (by omega) (by omega) (by omega),if_pos rfl];rfl
  have hu:=unle_lt ((p.drop 252).take 4)
  have hul:((p.drop 252).take 4).length=4:=by simp [h]
  rw [hul] at hu
  rw [if_pos h,show ((p.length:Int) != (256:Int))=false by simp [h],cond_false,pcK_of (get_ok p 252 4 hs),hg,d114_mk,gd_of (by simp [h]),pcK_of (of_ok _ (by unfold small;simp;omega)),kI_mk,W_u32l (show w32 _ from hu)]
  by_cases hc:unle ((p.drop 252).take 4)=crc (p.take 252)
  ·rw [if_pos hc,hc];simp [h,gd]
  ·rw [if_neg hc,show ((((unle ((p.drop 252).take 4):Nat):Int)) != ((crc (p.take 252):Nat):Int))=true by simp;omega];rfl
 ·rw [if_neg h,show ((p.length:Int) != (256:Int))=true by simp;omega];rfl
theorem open_seal {w:Bs} (h:w.length=252):openE (sealB w)=(w,0):=by
 unfold openE
 rw [if_pos (sealB_len h)]
 unfold sealB
 rw [List.drop_left' h,List.take_left' h,List.take_of_length_le (by simp [leN_len]),unle_leN _ _ (show crc w < 256 ^ 4 from crc_lt w),if_pos rfl]
theorem empty_ok:pcW qcfg 61 []=some (.str (sealB (zeros 252))):=by
 refine e61_done ?_
 unfold e61
 rw [pcK_of (seal_ok [] (by decide)),d57_mk]
 rfl
theorem snoc_ind {α:Type} {P:List α->Prop} (h0:P []) (h1:∀l x,P l->P (l++[x])) (l:List α):P l:=by
 have:∀r:List α,P r.reverse:=by
  intro r
  induction r with
  | nil=>exact h0
  | cons x r ih=>rw [List.reverse_cons];exact h1 _ _ ih
 have h:=this l.reverse
 rwa [List.reverse_reverse] at h
abbrev Ws:=List (Int × Bs)
def wV (w:Int × Bs):V:=.agg [.int .i64 w.1,.str (sealB w.2)]
def wsV (ws:Ws):List V:=ws.map wV
theorem wsV_len (ws:Ws):(wsV ws).length=ws.length:=by simp [wsV]
def cont (ws:Ws) (p:Int):Bs:=ws.foldl (fun a w=>if w.1=p then w.2 else a) (zeros 252)
theorem cont_snoc (ws:Ws) (w:Int × Bs) (p:Int):cont (ws++[w]) p=if w.1=p then w.2 else cont ws p:=by simp [cont]
def wsOk (ws:Ws):Prop:=∀w∈ws,w.2.length=252
theorem cont_len:∀{ws:Ws},wsOk ws->∀p,(cont ws p).length=252:=by
 intro ws h p
 refine snoc_ind (P:=fun ws=>wsOk ws->(cont ws p).length=252) ?_ ?_ ws h
 ·intro _;simp [cont,zeros]
 ·intro ws w ih h
  rw [cont_snoc]
  split
  ·exact h w (by simp)
  ·exact ih fun x hx=>h x (by simp [hx])
theorem backs_snoc (l:List V) (x:V):backsR (l++[x])=[.int .i64 (l.length:Int),x]::backsR l:=by
 simp [backsR,List.zipIdx_append]
theorem backs_nil:backsR []=[]:=rfl
abbrev dsk (k j:Nat) (n:Int):O:=.box 52 (.agg [.int .i64 n,.mp k,.tail j 0]) false
theorem raw_loop (m0 m1:List V) (n:Int) (ws0:List V) (z:Nat) (p:Int):∀(ws:Ws),
  Go qk true 5 fa19 (.head 0 (T19_0 ((backsR (wsV ws)).map .tup) m0 m1 n [] ws0 z p))
   (.doneM (.str (sealB (cont ws p))) [.arena 71 m0,.arena 74 m1,dsk 3 4 n,.map [],.row 83 ws0 z,.box 3 (.int .i64 p) false,.box 9 (.str (sealB (cont ws p))) false]):=by
 intro ws
 refine snoc_ind (P:=fun ws=>Go qk true 5 fa19 (.head 0 (T19_0 ((backsR (wsV ws)).map .tup) m0 m1 n [] ws0 z p))
   (.doneM (.str (sealB (cont ws p))) [.arena 71 m0,.arena 74 m1,dsk 3 4 n,.map [],.row 83 ws0 z,.box 3 (.int .i64 p) false,.box 9 (.str (sealB (cont ws p))) false])) ?_ ?_ ws
 ·refine s19_0_run _ _ _ _ _ _ _ _ ?_ (.refl _)
  unfold s19_0
  simp only [wsV,List.map_nil,backs_nil]
  rw [restK_nil,show ∀(k:V) (a:R) (b:V->R),mfK [] k a b=a from fun _ _ _=>rfl,pcK_of empty_ok,kS_mk]
  rfl
 ·intro ws w ih
  have e:backsR (wsV (ws++[w]))=[.int .i64 (ws.length:Int),wV w]::backsR (wsV ws):=by
   unfold wsV;rw [List.map_append,List.map_cons,List.map_nil,backs_snoc,List.length_map]
  rw [e,List.map_cons,cont_snoc]
  by_cases hw:w.1=p
  ·rw [if_pos hw]
   refine s19_0_run _ _ _ _ _ _ _ _ ?_ (.refl _)
   unfold s19_0
   simp only [restK_cons,wV,kT_mk,unc_mk,kI_mk,d83_mk,unn_mk,hw,ibeq_t,cond_true]
  ·rw [if_neg hw]
   refine s19_0_run _ _ _ _ _ _ _ _ ?_ ih
   unfold s19_0
   simp only [restK_cons,wV,kT_mk,unc_mk,kI_mk,d83_mk,unn_mk,ibeq_f hw,cond_false]
theorem raw_ok (m0 m1:List V) (n:Int) (ws:Ws) (z:Nat) (p:Int) (hp:0<=p) (hn:p < n) (hl:ws.length<=100000) :
  icC qcfg ⟨true,false⟩ 19 [.ptr 2 0 0,.int .i64 p] [.arena 71 m0,.arena 74 m1,dsk 3 4 n,.map [],.row 83 (wsV ws) z] =
   some (mk19 (sealB (cont ws p),m0,m1,n,[],wsV ws,ws.length)):=by
 refine e19_run _ _ _ _ _ _ _ ?_ ⟨_,_,raw_loop m0 m1 n (wsV ws) ws.length p ws,by kernel_rfl⟩
 unfold e19
 rw [decide_eq_true hp,decide_eq_true hn,cond_true,Bool.not_true,cond_false]
 have hb:backP [.ref (.sl (wsV ws)) 0]=some (backsR (wsV ws)):=by
  show (if (wsV ws).length<=16777216/\(wsV ws).all pairV=true then some (backsR (wsV ws)) else none)=_
  rw [if_pos ⟨by rw [wsV_len];omega,by simp [wsV,wV,pairV]⟩]
 rw [hb,opt_mk,wsV_len]
theorem read_ok (m0 m1:List V) (n:Int) (ws:Ws) (z:Nat) (p:Int) (hp:0<=p) (hn:p < n) (hl:ws.length<=100000) (hw:wsOk ws) :
  icC qcfg ⟨true,false⟩ 40 [.ptr 2 0 0,.int .i64 p] [.arena 71 m0,.arena 74 m1,dsk 3 4 n,.map [],.row 83 (wsV ws) z] =
   some (mk40 (cont ws p,0,m0,m1,n,[],wsV ws,ws.length)):=by
 refine e40_run _ _ _ _ _ _ _ (o:=.doneM ?v ?m) ?h (.done ?n)
 case h =>
  unfold e40
  rw [decide_eq_true hp,decide_eq_true hn,cond_true,Bool.not_true,cond_false,icM_of mk19_inj (raw_ok m0 m1 n ws z p hp hn hl)]
  dsimp only
  rw [pcK_of (open_ok _ (by unfold small;rw [sealB_len (cont_len hw p)];omega)),open_seal (cont_len hw p),d57_mk]
 case n=>kernel_rfl
theorem write_norm (m0 m1:List V) (n:Int) (l:List V) (z:Nat) (y l0:List V) (z0:Nat) :
  canNorm ⟨false,false⟩ [.arena 71 m0,.arena 74 m1,dsk 3 4 n,.map [],.row 83 l0 z0] (.int .i64 0) [.arena 71 m0,.arena 74 m1,dsk 3 6 n,.map [],.dead,.row 83 y 0,.row 83 l z]=mk69 (0,m0,m1,n,[],l,z):=by kernel_rfl
theorem write_ok (m0 m1:List V) (n:Int) (ws:Ws) (z:Nat) (p:Int) (s:Bs) (hp:0<=p) (hn:p < n) (hl:ws.length<=100000) (hs:s.length=252) :
  icC qcfg ⟨false,false⟩ 69 [.ptr 2 0 0,.int .i64 p,.str s] [.arena 71 m0,.arena 74 m1,dsk 3 4 n,.map [],.row 83 (wsV ws) z] =
   some (mk69 (0,m0,m1,n,[],wsV (ws++[(p,s)]),z)):=by
 refine e69_run _ _ _ _ _ _ _ _ (o:=.doneM ?v ?m) ?h (.done ?n)
 case h =>
  unfold e69
  have h1:sealE s=(sealB s,0):=by
   unfold sealE
   rw [if_neg (by omega)]
   have:padW s=s:=by unfold padW;rw [hs];exact List.append_nil _
   rw [this]
  have h2:(Nat.beq z 0 || Nat.blt 0 z)=true:=by cases z<;>rfl
  rw [decide_eq_true (show p ≥ 0 from hp),decide_eq_true hn,cond_true,Bool.not_true,cond_false,pcK_of (seal_ok s (by unfold small;omega)),h1,d57_mk,h2]
  simp only [beq_self_eq_true,cond_true]
  rw [gd_of rfl,gd_of (by simp [wsV_len];omega)]
 case n =>
  have h3:(cond (Nat.beq z 0) 0 (z - 0))=z:=by cases z<;>rfl
  have h4:wsV ws++[V.agg [V.int .i64 p,V.str (sealB s)]]=wsV (ws++[(p,s)]):=by simp [wsV,wV]
  rw [h3,h4]
  exact write_norm m0 m1 n (wsV (ws++[(p,s)])) z [V.agg [V.int .i64 p,V.str (sealB s)]] _ _
structure Pg where
 page:Int
 s:Bs
 pins:Int
 dirty:Bool
 first:Int
 last:Int
def placeV (x:Pg):V:=.agg [.str x.s,.int .i64 x.pins,.bool x.dirty,.int .i64 x.first,.int .i64 x.last]
theorem d63_pl (x:Pg) (k:Bs->Int->Bool->Int->Int->R):d71 (placeV x) k=k x.s x.pins x.dirty x.first x.last:=rfl
def ent (ix:Int->Nat) (p:Int):V × V:=(.int .i64 p,.hp 71 (ix p) 0)
def mpV (ks:List Int) (ix:Int->Nat):List (V × V):=ks.map (ent ix)
def pgs (L:List Pg):List Int:=L.map Pg.page
theorem mf_in {ix:Int->Nat} {p:Int}:∀{ks:List Int},p∈ks->mapFind (mpV ks ix) (.int .i64 p)=some (some (.hp 71 (ix p) 0))
 | [],h=>nomatch h
 | q::ks,h=>by
  show ((eq1 (.int .i64 p) (.int .i64 q)).bind fun b=>if b then some (some (V.hp 71 (ix q) 0)) else mapFind (mpV ks ix) (.int .i64 p))=_
  have e:eq1 (.int .i64 p) (.int .i64 q)=some (p==q):=rfl
  rw [e,Option.bind_some]
  by_cases hpq:p=q
  ·subst hpq;rw [if_pos (by simp)]
  ·rw [if_neg (by simpa using hpq)];exact mf_in (by simpa [hpq] using h)
theorem mf_out {ix:Int->Nat} {p:Int}:∀{ks:List Int},p∉ks->mapFind (mpV ks ix) (.int .i64 p)=some none
 | [],h=>rfl
 | q::ks,h=>by
  show ((eq1 (.int .i64 p) (.int .i64 q)).bind fun b=>if b then some (some (V.hp 71 (ix q) 0)) else mapFind (mpV ks ix) (.int .i64 p))=_
  have e:eq1 (.int .i64 p) (.int .i64 q)=some (p==q):=rfl
  have hpq:¬p=q:=by rintro rfl;exact h (by simp)
  rw [e,Option.bind_some,if_neg (by simpa using hpq)]
  exact mf_out fun hk=>h (by simp [hk])
theorem put_out {ix:Int->Nat} {p:Int} {v:V}:∀{ks:List Int},p∉ks->mapPut (mpV ks ix) (.int .i64 p) v=some (mpV ks ix++[(.int .i64 p,v)])
 | [],h=>rfl
 | q::ks,h=>by
  show ((eq1 (.int .i64 p) (.int .i64 q)).bind fun b=>if b then some ((V.int .i64 q,v)::mpV ks ix) else (mapPut (mpV ks ix) (.int .i64 p) v).map (ent ix q::·))=_
  have e:eq1 (.int .i64 p) (.int .i64 q)=some (p==q):=rfl
  have hpq:¬p=q:=by rintro rfl;exact h (by simp)
  rw [e,Option.bind_some,if_neg (by simpa using hpq),put_out fun hk=>h (by simp [hk])]
  rfl
theorem del_in {ix:Int->Nat} {p:Int}:∀{ks:List Int},mapDel (mpV ks ix) (.int .i64 p)=some (mpV (ks.erase p) ix)
 | []=>rfl
 | q::ks=>by
  show ((eq1 (.int .i64 p) (.int .i64 q)).bind fun b=>if b then some (mpV ks ix) else (mapDel (mpV ks ix) (.int .i64 p)).map (ent ix q::·))=_
  have e:eq1 (.int .i64 p) (.int .i64 q)=some (p==q):=rfl
  rw [e,Option.bind_some]
  by_cases hpq:p=q
  ·subst hpq;rw [if_pos (by simp)];simp
  ·rw [if_neg (by simpa using hpq),del_in,List.erase_cons_tail (by simpa using fun h=>hpq h.symm)];rfl
structure Rep (ar:List V) (ks:List Int) (ix:Int->Nat) (L:List Pg):Prop where
 perm:ks.Perm (pgs L)
 nd:(pgs L).Nodup
 at_:∀x∈L,ar[ix x.page]? = some (placeV x)
 inj:∀x∈L,∀y∈L,ix x.page=ix y.page->x.page=y.page
def findP (L:List Pg) (p:Int):Option Pg:=L.find? fun x=>x.page==p
def cutP (L:List Pg) (p:Int):List Pg:=L.filter fun x=>x.page != p
theorem findP_some {L:List Pg} {p:Int} {x:Pg} (h:findP L p=some x):x∈L/\x.page=p:=⟨List.mem_of_find?_eq_some h,by simpa using List.find?_some h⟩
theorem findP_none {L:List Pg} {p:Int} (h:findP L p=none):p∉pgs L:=by
 intro hp
 obtain ⟨x,hx,e⟩:=List.mem_map.1 hp
 have:=List.find?_eq_none.1 h x hx
 exact this (by simp [e])
theorem findP_of {L:List Pg} (hn:(pgs L).Nodup) {x:Pg} (hx:x∈L):findP L x.page=some x:=by
 induction L with
 | nil=>cases hx
 | cons y L ih =>
  unfold findP
  rw [List.find?_cons]
  by_cases h:y.page=x.page
  ·rw [show (y.page==x.page)=true by simp [h]]
   rcases List.mem_cons.1 hx with rfl | hx
   ·rfl
   ·exact absurd (List.mem_map.2 ⟨x,hx,rfl⟩) (h ▸ (List.nodup_cons.1 hn).1)
  ·rw [show (y.page==x.page)=false by simp [h]]
   rcases List.mem_cons.1 hx with rfl | hx
   ·exact absurd rfl h
   ·exact ih (List.nodup_cons.1 hn).2 hx
section
variable {ar:List V} {ks:List Int} {ix:Int->Nat} {L:List Pg}
theorem Rep.mf (h:Rep ar ks ix L) {x:Pg} (hx:x∈L) (kn:R) (k:V->R):mfK (mpV ks ix) (.int .i64 x.page) kn k=k (.hp 71 (ix x.page) 0):=by
 unfold mfK
 rw [mf_in (h.perm.mem_iff.2 (List.mem_map.2 ⟨x,hx,rfl⟩))]
theorem Rep.mn (h:Rep ar ks ix L) {p:Int} (hp:findP L p=none) (kn:R) (k:V->R):mfK (mpV ks ix) (.int .i64 p) kn k=kn:=by
 unfold mfK
 rw [mf_out fun hk=>findP_none hp (h.perm.mem_iff.1 hk)]
theorem Rep.ax (h:Rep ar ks ix L) {x:Pg} (hx:x∈L) (k:V->R):idxK ar (ix x.page) k=k (placeV x):=idxK_of (h.at_ x hx)
theorem Rep.len (h:Rep ar ks ix L):(mpV ks ix).length=L.length:=by
 have:=h.perm.length_eq
 simp [mpV,pgs] at *;exact this
theorem Rep.lt (h:Rep ar ks ix L) {x:Pg} (hx:x∈L):ix x.page < ar.length:=by
 have:=h.at_ x hx
 exact (List.getElem?_eq_some_iff.1 this).1
theorem Rep.set (h:Rep ar ks ix L) {x x':Pg} (hx:x∈L) (hp:x'.page=x.page) {L2:List Pg} (h1:(pgs L2).Perm (pgs L)) (h2:∀y∈L2,y=x'∨(y∈L/\y.page≠x.page)) :
  Rep (ar.set (ix x.page) (placeV x')) ks ix L2:=by
 refine ⟨h.perm.trans h1.symm,h1.nodup_iff.2 h.nd,?_,?_⟩
 ·intro y hy
  rcases h2 y hy with rfl | ⟨hy1,hy2⟩
  ·rw [hp];simp [h.lt hx]
  ·rw [List.getElem?_set_ne (fun e=>hy2 (h.inj _ hx _ hy1 e).symm)]
   exact h.at_ y hy1
 ·have hm:∀y∈L2,∃z∈L,z.page=y.page:=fun y hy=>by
   have:=h1.mem_iff.1 (List.mem_map.2 ⟨y,hy,rfl⟩)
   obtain ⟨z,hz,e⟩:=List.mem_map.1 this
   exact ⟨z,hz,e⟩
  intro y hy z hz e
  obtain ⟨y',hy',ey⟩:=hm y hy
  obtain ⟨z',hz',ez⟩:=hm z hz
  rw [<-ey,<-ez] at e |-
  exact h.inj _ hy' _ hz' e
def updI (ix:Int->Nat) (p:Int) (n:Nat):Int->Nat:=fun q=>if q=p then n else ix q
theorem Rep.add (h:Rep ar ks ix L) {x:Pg} (hx:x.page∉pgs L):Rep (ar++[placeV x]) (ks++[x.page]) (updI ix x.page ar.length) (L++[x]):=by
 have hne:∀y∈L,y.page≠x.page:=fun y hy e=>hx (List.mem_map.2 ⟨y,hy,e⟩)
 have hu:∀y∈L,updI ix x.page ar.length y.page=ix y.page:=fun y hy=>by unfold updI;rw [if_neg (hne y hy)]
 have hux:updI ix x.page ar.length x.page=ar.length:=by simp [updI]
 refine ⟨?_,?_,?_,?_⟩
 ·simp only [pgs,List.map_append,List.map_cons,List.map_nil]
  exact h.perm.append_right _
 ·simp only [pgs,List.map_append,List.map_cons,List.map_nil]
  rw [List.nodup_append]
  refine ⟨h.nd,by simp,?_⟩
  intro a ha b hb
  simp only [List.mem_singleton] at hb
  subst hb
  rintro rfl
  exact hx ha
 ·intro y hy
  rcases List.mem_append.1 hy with hy | hy
  ·rw [hu y hy,List.getElem?_append_left (h.lt hy)];exact h.at_ y hy
  ·simp only [List.mem_singleton] at hy
   subst hy
   rw [hux];simp
 ·intro y hy z hz e
  rcases List.mem_append.1 hy with hy1 | hy1<;>rcases List.mem_append.1 hz with hz1 | hz1
  ·rw [hu y hy1,hu z hz1] at e;exact h.inj _ hy1 _ hz1 e
  ·simp only [List.mem_singleton] at hz1
   rw [hu y hy1,hz1,hux] at e
   exact absurd (h.lt hy1) (by omega)
  ·simp only [List.mem_singleton] at hy1
   rw [hu z hz1,hy1,hux] at e
   exact absurd (h.lt hz1) (by omega)
  ·simp only [List.mem_singleton] at hy1 hz1
   rw [hy1,hz1]
theorem mpV_add (h:Rep ar ks ix L) {x:Pg} (hx:x.page∉pgs L) (n:Nat):mpV ks ix++[(.int .i64 x.page,.hp 71 n 0)]=mpV (ks++[x.page]) (updI ix x.page n):=by
 unfold mpV
 rw [List.map_append]
 congr 1
 ·apply List.map_congr_left
  intro q hq
  have:q≠x.page:=by rintro rfl;exact hx (h.perm.mem_iff.1 hq)
  simp [ent,updI,this]
 ·simp [ent,updI]
theorem pgs_cut (L:List Pg) (p:Int):pgs (cutP L p)=(pgs L).filter (· != p):=by
 simp [pgs,cutP,List.filter_map]
 rfl
theorem Rep.cut (h:Rep ar ks ix L) (p:Int):Rep ar (ks.erase p) ix (cutP L p):=by
 refine ⟨?_,?_,fun x hx=>h.at_ x (List.mem_filter.1 hx).1,fun x hx y hy=>h.inj x (List.mem_filter.1 hx).1 y (List.mem_filter.1 hy).1⟩
 ·rw [pgs_cut,<-h.nd.erase_eq_filter]
  exact h.perm.erase p
 ·rw [pgs_cut];exact h.nd.filter _
theorem cut_perm {x:Pg} (hn:(pgs L).Nodup) (hx:x∈L):(cutP L x.page++[x]).Perm L:=by
 induction L with
 | nil=>cases hx
 | cons y L ih =>
  have hy:=List.nodup_cons.1 hn
  unfold cutP
  by_cases h:y.page=x.page
  ·have hyx:y=x:=by
    rcases List.mem_cons.1 hx with rfl | hx
    ·rfl
    ·exact absurd (List.mem_map.2 ⟨x,hx,rfl⟩) (h ▸ hy.1)
   subst hyx
   have:cutP L y.page=L:=List.filter_eq_self.2 fun z hz=>by
    simp only [bne_iff_ne,ne_eq]
    rintro e
    exact hy.1 (List.mem_map.2 ⟨z,hz,e⟩)
   unfold cutP at this
   rw [List.filter_cons_of_neg (by simp),this]
   exact List.perm_append_singleton y L
  ·rw [List.filter_cons_of_pos (by simpa using h),List.cons_append]
   rcases List.mem_cons.1 hx with rfl | hx
   ·exact absurd rfl h
   ·exact (ih hy.2 hx).cons y
end
def idxF {α:Type} (q:α->Bool):Nat->List α->Int
 | _,[]=>-1
 | k,c::r=>if q c then (k:Int) else idxF q (k+1) r
theorem idxF_spec {α:Type} (q:α->Bool):∀(r:List α) (k:Nat),(idxF q k r = -1/\∀c∈r,q c=false)∨∃pre c post,r=pre++c::post/\(∀x∈pre,q x=false)/\q c=true/\idxF q k r=((k+pre.length:Nat):Int)
 | [],k=>.inl ⟨rfl,fun _ h=>nomatch h⟩
 | c::r,k=>by
  unfold idxF
  by_cases h:q c=true
  ·rw [if_pos h];exact .inr ⟨[],c,r,rfl,by simp,h,by simp⟩
  ·rw [if_neg h]
   rcases idxF_spec q r (k+1) with ⟨h1,h2⟩ | ⟨pre,d,post,h1,h2,h3,h4⟩
   ·exact .inl ⟨h1,by intro x hx;rcases List.mem_cons.1 hx with rfl | hx;simpa using h;exact h2 x hx⟩
   ·refine .inr ⟨c::pre,d,post,by rw [h1];rfl,?_,h3,by rw [h4];simp;omega⟩
    intro x hx;rcases List.mem_cons.1 hx with rfl | hx;simpa using h;exact h2 x hx
theorem drop_cons {α:Type} {a r:List α} {k:Nat} {c:α} (h:a.drop k=c::r):k < a.length/\a[k]? = some c/\a.drop (k+1)=r:=by
 have hk:k < a.length:=by
  apply Nat.lt_of_not_le
  intro hc
  rw [List.drop_eq_nil_of_le hc] at h;cases h
 refine ⟨hk,?_,?_⟩
 ·have:=congrArg (fun l=>l[0]?) h
  simpa using this
 ·rw [<-List.drop_drop,h];rfl
theorem wi (k:Nat) (h:k < 1000000):W .i64 ((k:Int)+1)=((k+1:Nat):Int):=by rw [W_i64 (by omega)];omega
theorem idxc_loop (m0 m1:List V) (a:List Int) (x:Int) (ha:a.length<=100000):∀(r:List Int) (k:Nat),a.drop k=r->k<=a.length ->
  Go qk true 4 fa59 (.head 0 (T59c_0 (a.length:Int) (k:Int) m0 m1 (ints a) x)) (.doneM (.int .i64 (idxF (·==x) k r)) [.arena 71 m0,.arena 74 m1,.row 3 (ints a) 0,.box 3 (.int .i64 x) false])
 | [],k,h,hk=>by
  have:a.length<=k:=List.drop_eq_nil_iff.1 h
  refine s59c_0_run _ _ _ _ _ _ ?_ (.refl _)
  unfold s59c_0
  rw [decide_eq_false (by omega)];rfl
 | c::r,k,h,hk=>by
  obtain ⟨h1,h2,h3⟩:=drop_cons h
  have hg:gd (decide (((k:Nat):Int).toNat < (ints a).length))=fun q=>q:=by funext q;exact gd_of (by simp [ints_len];omega)
  by_cases hq:c=x
  ·refine s59c_0_run _ _ _ _ _ _ ?_ (.refl _)
   unfold s59c_0 idxF
   rw [decide_eq_true (by omega),cond_true,gd_of (by simp),hg,toNat_cast,Nat.zero_add,idxK_ints h2,kI_mk,ibeq_t hq,if_pos (by simpa using hq)];rfl
  ·refine s59c_0_run _ _ _ _ _ _ ?_ (by unfold idxF;rw [if_neg (by simpa using hq)];exact idxc_loop m0 m1 a x ha r (k+1) h3 (by omega))
   unfold s59c_0
   rw [decide_eq_true (by omega),cond_true,gd_of (by simp),hg,toNat_cast,Nat.zero_add,idxK_ints h2,kI_mk,ibeq_f hq,wi k (by omega)];rfl
theorem idxc_ok (m0 m1:List V) (a:List Int) (x:Int) (ha:a.length<=100000) :
  icC qcfg ⟨true,false⟩ 59 [.tail 2 0,.fn 67 [.ptr 3 0 0]] [.arena 71 m0,.arena 74 m1,.row 3 (ints a) 0,.box 3 (.int .i64 x) false]=some (mk59c (idxF (·==x) 0 a,m0,m1,ints a,x)):=by
 refine e59c_run _ _ _ _ ?_ ⟨_,_,idxc_loop m0 m1 a x ha a 0 rfl (by omega),by kernel_rfl⟩
 unfold e59c
 rw [ints_len];rfl
theorem wfl_ints (a:List Int):wfl 1 (ints a)=true:=by
 simp [wfl,ints,V.cells]
theorem ints_take (a:List Int) (k:Nat):(ints a).take k=ints (a.take k):=by simp [ints,List.map_take]
theorem ints_set (a:List Int) (k:Nat) (c:Int):(ints a).set k (.int .i64 c)=ints (a.set k c):=by simp [ints,List.map_set]
theorem ints_app (a b:List Int):ints (a++b)=ints a++ints b:=by simp [ints]
theorem set_take {row:List Int} {i:Nat} {c:Int} (h:i < row.length):(row.set i c).take (i+1)=row.take i++[c]:=by
 rw [List.take_add_one,List.take_set_of_le (by omega)]
 simp [h]
theorem wfl_zero2 (l:List V) (hl:wfl 1 l=true) (n i j:Nat):wfl 1 (l.take i++List.replicate n (V.int .i64 0)++l.drop j)=true:=by
 unfold wfl at *
 rw [List.all_eq_true] at *
 intro x hx
 rcases List.mem_append.1 hx with hx | hx
 ·rcases List.mem_append.1 hx with hx | hx
  ·exact hl x (List.mem_of_mem_take hx)
  ·rw [List.eq_of_mem_replicate hx];rfl
 ·exact hl x (List.mem_of_mem_drop hx)
def delRow (row:List Int) (i:Nat):List V:=(ints row).take i++List.replicate ((ints row).length - i) (V.int .i64 0)++(ints row).drop (i+((ints row).length - i))
theorem delRow_take {row:List Int} {i:Nat} (h:i<=row.length):(delRow row i).take i=ints (row.take i):=by
 unfold delRow
 rw [List.append_assoc,List.take_left' (by simp [ints_len];omega),ints_take]
theorem delRow_len {row:List Int} {i:Nat} (h:i<=row.length):(delRow row i).length=row.length:=by
 simp [delRow,ints_len];omega
theorem delb_loop (m0 m1:List V) (x:Int) (n:Nat) (hn:n<=100000):∀(r row:List Int) (i j:Nat),row.drop j=r->row.length=n->j<=n->i<=j ->
  ∃row':List Int,row'.length=n/\row'.take (i+(r.filter (· != x)).length)=row.take i++r.filter (· != x)/\i+(r.filter (· != x)).length<=n /\
   Go qk true 4 fa35 (.head 0 (T35b_0 (i:Int) (j:Int) m0 m1 (ints row) x))
    (.doneM (.win 2 0 (i+(r.filter (· != x)).length)) [.arena 71 m0,.arena 74 m1,.row 3 (delRow row' (i+(r.filter (· != x)).length)) 0,.box 3 (.int .i64 x) false,.row 3 [] 0])
 | [],row,i,j,h,hr,hj,hi=>by
  have hjl:row.length<=j:=List.drop_eq_nil_iff.1 h
  refine ⟨row,hr,by simp,by simp;omega,?_⟩
  refine s35b_0_run _ _ _ _ _ _ ?_ (.refl _)
  unfold s35b_0
  rw [decide_eq_false (by rw [ints_len];omega),cond_false,gd_of (wfl_ints row),gd_of (by simp),toNat_cast,gd_of (by simp [ints_len];omega),gd_of (by simp [ints_len];omega)]
  simp only [Nat.zero_add]
  rw [gd_of (wfl_zero2 _ (wfl_ints row) _ _ _),gd_of (by simp),gd_of (by simp [ints_len];omega)]
  rfl
 | c::r,row,i,j,h,hr,hj,hi=>by
  obtain ⟨h1,h2,h3⟩:=drop_cons h
  have hgi:∀k:Nat,k < n->gd (decide (((k:Nat):Int).toNat < (ints row).length))=fun q=>q:=fun k hk=>by funext q;exact gd_of (by simp [ints_len];omega)
  obtain ⟨d,hd⟩:∃d,row[i]? = some d:=⟨_,List.getElem?_eq_getElem (by omega)⟩
  by_cases hq:c=x
  ·obtain ⟨row',e1,e2,e3,e4⟩:=delb_loop m0 m1 x n hn r row i (j+1) h3 hr (by omega) (by omega)
   have hf:(c::r).filter (· != x)=r.filter (· != x):=List.filter_cons_of_neg (by simpa using hq)
   rw [hf]
   refine ⟨row',e1,e2,e3,?_⟩
   refine s35b_0_run _ _ _ _ _ _ ?_ e4
   unfold s35b_0
   rw [decide_eq_true (by rw [ints_len];omega),cond_true,gd_of (by simp),hgi j (by omega),toNat_cast,Nat.zero_add,idxK_ints h2,kI_mk,ibeq_t hq,wi j (by omega)];rfl
  ·have hs:(row.set i c).drop (j+1)=r:=by rw [List.drop_set_of_lt (by omega)];exact h3
   obtain ⟨row',e1,e2,e3,e4⟩:=delb_loop m0 m1 x n hn r (row.set i c) (i+1) (j+1) hs (by simpa using hr) (by omega) (by omega)
   have hf:(c::r).filter (· != x)=c::r.filter (· != x):=List.filter_cons_of_pos (by simpa using hq)
   have hl:i+1+(r.filter (· != x)).length=i+(c::r.filter (· != x)).length:=by simp;omega
   rw [hl] at e2 e3 e4
   rw [hf]
   refine ⟨row',e1,by rw [e2,set_take (by omega),List.append_assoc];rfl,e3,?_⟩
   refine s35b_0_run _ _ _ _ _ _ ?_ e4
   unfold s35b_0
   rw [decide_eq_true (by rw [ints_len];omega),cond_true,gd_of (by simp),hgi j (by omega),toNat_cast,Nat.zero_add,idxK_ints h2,kI_mk,ibeq_f hq,Bool.not_false,cond_true,gd_of (by simp),hgi i (by omega),toNat_cast,Nat.zero_add,idxK_ints hd,kI_mk,wi j (by omega),wi i (by omega),ints_set]
theorem filter_pre {pre post:List Int} {c x:Int} (h1:∀y∈pre,(y==x)=false) (h2:(c==x)=true):(pre++c::post).filter (· != x)=pre++post.filter (· != x):=by
 rw [List.filter_append,List.filter_cons_of_neg (by simpa using h2),List.filter_eq_self.2 fun y hy=>by have:=h1 y hy;simpa using this]
theorem dfb_ok (m0 m1:List V) (a:List Int) (x:Int) (ha:a.length<=100000) :
  ∃(k:Nat) (row:List V),row.take k=ints (a.filter (· != x))/\k<=row.length/\k<=a.length /\
   icC qcfg ⟨true,true⟩ 35 [.tail 2 0,.fn 67 [.ptr 3 0 0]] [.arena 71 m0,.arena 74 m1,.row 3 (ints a) 0,.box 3 (.int .i64 x) false]=some (mk35b (k,m0,m1,row,x)):=by
 rcases idxF_spec (·==x) a 0 with ⟨h1,h2⟩ | ⟨pre,c,post,h1,h2,h3,h4⟩
 ·refine ⟨a.length,ints a,?_,by rw [ints_len];omega,by omega,?_⟩
  ·rw [List.take_of_length_le (by rw [ints_len];omega),List.filter_eq_self.2 fun y hy=>by have:=h2 y hy;simpa using this]
  ·refine e35b_run _ _ _ _ (o:=.doneM ?v1 ?m1) ?h1 (.done ?n1)
   case h1 =>
    unfold e35b
    rw [icM_of mk59c_inj (idxc_ok m0 m1 a x ha),h1]
    rfl
   case n1 =>
    have:(mk35b ((ints a).length - 0,m0,m1,ints a,x))=mk35b (a.length,m0,m1,ints a,x):=by rw [ints_len];rfl
    rw [<-this]
    show _=_
    kernel_rfl
 ·have hl:pre.length < a.length:=by rw [h1];simp
  have hd:a.drop (pre.length+1)=post:=by rw [h1];simp
  obtain ⟨row',e1,e2,e3,e4⟩:=delb_loop m0 m1 x a.length ha post a pre.length (pre.length+1) hd rfl (by omega) (by omega)
  have hf:a.filter (· != x)=pre++post.filter (· != x):=by rw [h1];exact filter_pre h2 h3
  have ht:a.take pre.length=pre:=by rw [h1];simp
  refine ⟨_,delRow row' (pre.length+(post.filter (· != x)).length),?_,?_,e3,e35b_run _ _ _ _ ?_ ⟨_,_,e4,by kernel_rfl⟩⟩
  ·rw [delRow_take (by omega),e2,hf,ht]
  ·rw [delRow_len (by omega)];omega
  ·unfold e35b
   rw [icM_of mk59c_inj (idxc_ok m0 m1 a x ha),h4]
   simp only [Nat.zero_add]
   rw [ibeq_f (by omega),cond_false,wi _ (by omega)]
abbrev plm (ar a1:List V) (pl sure n:Int) (mp:List (V × V)) (ages:List Int) (ws:Ws) (z:Nat):List O :=
 [.arena 71 ar,.arena 74 a1,.box 61 (.agg [.ptr 3 0 0,.int .i64 pl,.mp 4,.tail 5 0,.int .i64 sure]) false,.box 52 (.agg [.int .i64 n,.mp 6,.tail 7 0]) false,.map mp,.row 3 (ints ages) 0,.map [],.row 83 (wsV ws) z]
theorem young_ok (ar a1:List V) (pl sure n:Int) (mp:List (V × V)) (a:List Int) (ws:Ws) (z:Nat) (x:Int) (ha:a.length<=100000) :
  icC qcfg ⟨false,false⟩ 46 [.ptr 2 0 0,.int .i64 x] (plm ar a1 pl sure n mp a ws z) =
   some (mk46 (ar,a1,pl,sure,n,mp,[],ints (a.filter (· != x)++[x]),wsV ws,z)):=by
 obtain ⟨k,row,h1,h2,h3,h4⟩:=dfb_ok ar a1 a x ha
 refine e46_run _ _ _ _ _ _ _ _ _ _ _ (o:=.doneM ?v2 ?m2) ?h2 (.done ?n2)
 case h2 =>
  unfold e46
  rw [icM_of mk35b_inj h4]
  dsimp only
  rw [gd_of (by simpa using h2),gd_of (by simp;omega)]
 case n2 =>
  have:ints (a.filter (· != x)++[x])=(row.drop 0).take k++[.int .i64 x]:=by rw [ints_app,List.drop_zero,h1];rfl
  rw [this]
  show _=_
  kernel_rfl
section
variable {p:Int} {ar a1:List V} {pl sure n:Int} {ks:List Int} {ix:Int->Nat} {L:List Pg} {ws:Ws} {z:Nat}
theorem pins_ok (h:Rep ar ks ix L) (p:Int) :
  icC qcfg ⟨true,false⟩ 15 [.ptr 2 0 0,.int .i64 p] (plm ar a1 pl sure n (mpV ks ix) (pgs L) ws z) =
   some (mk15 (((findP L p).map Pg.pins).getD 0,ar,a1,pl,sure,n,mpV ks ix,ints (pgs L),[],wsV ws,z)):=by
 cases hf:findP L p with
 | none =>
  refine e15_run _ _ _ _ _ _ _ _ _ _ _ (o:=.doneM ?v3 ?m3) ?h3 (.done ?n3)
  case h3 =>
   unfold e15
   rw [h.mn hf]
   all_goals rfl
  case n3=>kernel_rfl
 | some x =>
  obtain ⟨hx,rfl⟩:=findP_some hf
  refine e15_run _ _ _ _ _ _ _ _ _ _ _ (o:=.doneM ?v4 ?m4) ?h4 (.done ?n4)
  case h4 =>
   unfold e15
   rw [h.mf hx,kP_mk,h.mf hx,kP_mk,h.ax hx,d63_pl]
   all_goals rfl
  case n4=>kernel_rfl
def heldE (L:List Pg) (p:Int):Int:=match findP L p with | none=>7 | some x=>if x.pins=0 then 9 else 0
def updP (L:List Pg) (p:Int) (f:Pg->Pg):List Pg:=L.map fun y=>if y.page=p then f y else y
theorem pgs_upd {p:Int} {f:Pg->Pg} (hf:∀y,(f y).page=y.page):pgs (updP L p f)=pgs L:=by
 simp only [pgs,updP,List.map_map]
 apply List.map_congr_left
 intro y _
 simp only [Function.comp]
 split
 ·exact hf y
 ·rfl
theorem Rep.upd (h:Rep ar ks ix L) {x:Pg} (hx:x∈L) {f:Pg->Pg} (hf:∀y,(f y).page=y.page):Rep (ar.set (ix x.page) (placeV (f x))) ks ix (updP L x.page f):=by
 refine h.set hx (hf x) (by rw [pgs_upd hf]) ?_
 intro y hy
 obtain ⟨w,hw,e⟩:=List.mem_map.1 hy
 by_cases hp:w.page=x.page
 ·rw [if_pos hp] at e
  have h1:=findP_of h.nd hw
  have h2:=findP_of h.nd hx
  rw [hp,h2] at h1
  cases h1
  exact .inl e.symm
 ·rw [if_neg hp] at e
  subst e
  exact .inr ⟨hw,hp⟩
theorem held_n (hf:findP L p=none):heldE L p=7:=by unfold heldE;rw [hf]
theorem held_s {x:Pg} (hf:findP L p=some x) (h:x.pins=0):heldE L p=9:=by unfold heldE;rw [hf];exact if_pos h
theorem held_y {x:Pg} (hf:findP L p=some x) (h:¬x.pins=0):heldE L p=0:=by unfold heldE;rw [hf];exact if_neg h
theorem unpin_ok (h:Rep ar ks ix L) (p:Int) :
  ∃ar',Rep ar' ks ix (if heldE L p=0 then updP L p fun y=>{ y with pins:=W .i64 (y.pins - 1) } else L) /\
  icC qcfg ⟨true,false⟩ 25 [.ptr 2 0 0,.int .i64 p] (plm ar a1 pl sure n (mpV ks ix) (pgs L) ws z) =
   some (mk25 (heldE L p,ar',a1,pl,sure,n,mpV ks ix,ints (pgs L),[],wsV ws,z)):=by
 cases hf:findP L p with
 | none =>
  rw [held_n hf]
  refine ⟨ar,by simpa using h,?_⟩
  refine e25_run _ _ _ _ _ _ _ _ _ _ _ (o:=.doneM ?v5 ?m5) ?h5 (.done ?n5)
  case h5 =>
   unfold e25
   rw [h.mn hf]
   all_goals rfl
  case n5=>kernel_rfl
 | some x =>
  obtain ⟨hx,rfl⟩:=findP_some hf
  by_cases hp:x.pins=0
  ·rw [held_s hf hp]
   refine ⟨ar,by simpa using h,?_⟩
   refine e25_run _ _ _ _ _ _ _ _ _ _ _ (o:=.doneM ?v6 ?m6) ?h6 (.done ?n6)
   case h6 =>
    unfold e25
    rw [h.mf hx,kP_mk,h.ax hx,d63_pl,ibeq_t hp,cond_true]
    all_goals rfl
   case n6=>kernel_rfl
  ·rw [held_y hf hp]
   refine ⟨_,h.upd hx fun _=>rfl,?_⟩
   refine e25_run _ _ _ _ _ _ _ _ _ _ _ (o:=.doneM ?v7 ?m7) ?h7 (.done ?n7)
   case h7 =>
    unfold e25
    rw [h.mf hx,kP_mk,h.ax hx,d63_pl,ibeq_f hp,cond_false,h.ax hx,d63_pl,h.ax hx,d63_pl]
    all_goals rfl
   case n7=>kernel_rfl
def putE (L:List Pg) (p:Int) (s:Bs) (lsn:Int):Int :=
 if heldE L p=0 then (if 252 < s.length then 2 else if lsn < 1 then 1 else match findP L p with | some x=>if lsn < x.last then 1 else 0 | none=>0) else heldE L p
def putX (s:Bs) (lsn:Int) (x:Pg):Pg:=⟨x.page,padW s,x.pins,true,if x.dirty then x.first else lsn,lsn⟩
theorem set_ax {x:Pg} (h:Rep ar ks ix L) (hx:x∈L) (v:V) (k:V->R):idxK (ar.set (ix x.page) v) (ix x.page) k=k v:=idxK_of (by simp [h.lt hx])
theorem set_ax2 {x:Pg} (h:Rep ar ks ix L) (hx:x∈L) (v w:V) (k:V->R):idxK ((ar.set (ix x.page) w).set (ix x.page) v) (ix x.page) k=k v:=idxK_of (by simp [h.lt hx])
theorem d63_v (s:Bs) (a:Int) (b:Bool) (c d:Int) (k:Bs->Int->Bool->Int->Int->R):d71 (.agg [.str s,.int .i64 a,.bool b,.int .i64 c,.int .i64 d]) k=k s a b c d:=rfl
theorem put_go (h:Rep ar ks ix L) {x:Pg} (hx:x∈L) (hp:¬x.pins=0) (s:Bs) (hs:s.length<=252) (lsn:Int) (h1:¬lsn < 1) (h2:¬lsn < x.last) :
  ∃m8,e27 x.page s lsn ar a1 pl sure n (mpV ks ix) (ints (pgs L)) [] (wsV ws) z=some (.doneM (.int .i64 0) (plm (ar.set (ix x.page) (placeV (putX s lsn x))) a1 pl sure n (mpV ks ix) (pgs L) ws z++[.row 5 m8 0])):=by
 have w:W .i64 (252 - (s.length:Int))=((252 - s.length:Nat):Int):=by rw [W_i64 (by omega)];omega
 have hz:(List.replicate (252 - s.length) (0:Int)).map (fun n=>UInt8.ofNat n.toNat)=zeros (252 - s.length):=by simp [zeros]
 refine ⟨List.replicate (252 - s.length) (.int .u8 0),?_⟩
 unfold e27
 rw [h.mf hx,kP_mk,h.ax hx,d63_pl,ibeq_f hp,cond_false,decide_eq_false (show ¬(s.length:Int) > 252 by omega),cond_false,decide_eq_false h1,cond_false,h.ax hx,d63_pl,decide_eq_false h2,cond_false,h.ax hx,d63_pl,w]
 cases hd:x.dirty
 ·rw [Bool.not_false,cond_true,h.ax hx,d63_pl,gd_of (by simp),gd_of (by simp),toNat_cast,gd_of (by simp;omega),nums_rep,opt_mk,hz,gd_of (by simp [zeros];omega),set_ax h hx,d63_v,set_ax2 h hx,d63_v]
  simp only [List.set_set]
  rw [set_ax h hx,d63_v]
  simp [hd,putX,placeV,padW]
 ·rw [Bool.not_true,cond_false,gd_of (by simp),gd_of (by simp),toNat_cast,gd_of (by simp;omega),nums_rep,opt_mk,hz,gd_of (by simp [zeros];omega),h.ax hx,d63_pl,set_ax h hx,d63_v,set_ax2 h hx,d63_v]
  simp [hd,putX,placeV,padW]
theorem put_ok' (h:Rep ar ks ix L) (p:Int) (s:Bs) (lsn:Int) :
  ∃ar',Rep ar' ks ix (if putE L p s lsn=0 then updP L p (putX s lsn) else L) /\
  icC qcfg ⟨true,false⟩ 27 [.ptr 2 0 0,.int .i64 p,.str s,.int .i64 lsn] (plm ar a1 pl sure n (mpV ks ix) (pgs L) ws z) =
   some (mk27 (putE L p s lsn,ar',a1,pl,sure,n,mpV ks ix,ints (pgs L),[],wsV ws,z)):=by
 unfold putE
 cases hf:findP L p with
 | none =>
  rw [held_n hf]
  refine ⟨ar,by simpa using h,?_⟩
  refine e27_run _ _ _ _ _ _ _ _ _ _ _ _ _ (o:=.doneM ?v8 ?m8) ?h8 (.done ?n8)
  case h8 =>
   unfold e27
   rw [h.mn hf]
   all_goals rfl
  case n8=>kernel_rfl
 | some x =>
  obtain ⟨hx,rfl⟩:=findP_some hf
  by_cases hp:x.pins=0
  ·rw [held_s hf hp]
   refine ⟨ar,by simpa using h,?_⟩
   refine e27_run _ _ _ _ _ _ _ _ _ _ _ _ _ (o:=.doneM ?v9 ?m9) ?h9 (.done ?n9)
   case h9 =>
    unfold e27
    rw [h.mf hx,kP_mk,h.ax hx,d63_pl,ibeq_t hp,cond_true]
    all_goals rfl
   case n9=>kernel_rfl
  rw [held_y hf hp,if_pos rfl]
  dsimp only
  by_cases hs:252 < s.length
  ·rw [if_pos hs]
   refine ⟨ar,by simpa using h,?_⟩
   refine e27_run _ _ _ _ _ _ _ _ _ _ _ _ _ (o:=.doneM ?v10 ?m10) ?h10 (.done ?n10)
   case h10 =>
    unfold e27
    rw [h.mf hx,kP_mk,h.ax hx,d63_pl,ibeq_f hp,cond_false,decide_eq_true (show (s.length:Int) > 252 by omega),cond_true]
    all_goals rfl
   case n10=>kernel_rfl
  rw [if_neg hs]
  by_cases h1:lsn < 1
  ·rw [if_pos h1]
   refine ⟨ar,by simpa using h,?_⟩
   refine e27_run _ _ _ _ _ _ _ _ _ _ _ _ _ (o:=.doneM ?v11 ?m11) ?h11 (.done ?n11)
   case h11 =>
    unfold e27
    rw [h.mf hx,kP_mk,h.ax hx,d63_pl,ibeq_f hp,cond_false,decide_eq_false (show ¬(s.length:Int) > 252 by omega),cond_false,decide_eq_true h1,cond_true]
    all_goals rfl
   case n11=>kernel_rfl
  rw [if_neg h1]
  by_cases h2:lsn < x.last
  ·rw [if_pos h2]
   refine ⟨ar,by simpa using h,?_⟩
   refine e27_run _ _ _ _ _ _ _ _ _ _ _ _ _ (o:=.doneM ?v12 ?m12) ?h12 (.done ?n12)
   case h12 =>
    unfold e27
    rw [h.mf hx,kP_mk,h.ax hx,d63_pl,ibeq_f hp,cond_false,decide_eq_false (show ¬(s.length:Int) > 252 by omega),cond_false,decide_eq_false h1,cond_false,h.ax hx,d63_pl,decide_eq_true h2,cond_true]
    all_goals rfl
   case n12=>kernel_rfl
  ·rw [if_neg h2,if_pos rfl]
   obtain ⟨m8,hm⟩:=put_go (a1:=a1) (pl:=pl) (sure:=sure) (n:=n) (ws:=ws) (z:=z) h hx hp s (by omega) lsn h1 h2
   exact ⟨_,h.upd hx fun _=>rfl,e27_run _ _ _ _ _ _ _ _ _ _ _ _ _ hm (.done (by kernel_rfl))⟩
end
section
variable {p:Int} {ar a1:List V} {pl sure n:Int} {ks:List Int} {ix:Int->Nat} {L:List Pg} {ws:Ws} {z:Nat}
def goesP (sure:Int) (x:Pg):Bool:=decide (x.pins=0) && (!x.dirty || decide (x.last<=sure))
theorem pgs_get {k:Nat} {x:Pg} (h:L[k]? = some x):(pgs L)[k]? = some x.page:=by simp [pgs,h]
theorem pgs_len:(pgs L).length=L.length:=by simp [pgs]
theorem ints_pgs_get {k:Nat} {x:Pg} {q:V->R} (h:L[k]? = some x):idxK (ints (pgs L)) k q=q (.int .i64 x.page):=idxK_ints (pgs_get h)
abbrev frm (ar a1:List V) (pl sure n:Int) (mp:List (V × V)) (ages:List V) (ws:List V) (z:Nat):List O :=
 [.arena 71 ar,.arena 74 a1,.row 3 ages 0,.box 30 (.ptr 4 0 0) false,.box 61 (.agg [.ptr 5 0 0,.int .i64 pl,.mp 6,.tail 2 0,.int .i64 sure]) false,.box 52 (.agg [.int .i64 n,.mp 7,.tail 8 0]) false,.map mp,.map [],.row 83 ws z]
theorem idxa_loop (h:Rep ar ks ix L) (hL:L.length<=100000):∀(r:List Pg) (k:Nat),L.drop k=r->k<=L.length ->
  Go qk true 9 fa59 (.head 0 (T59_0 (L.length:Int) (k:Int) ar a1 (ints (pgs L)) pl sure n (mpV ks ix) [] (wsV ws) z)) (.doneM (.int .i64 (idxF (goesP sure) k r)) (frm ar a1 pl sure n (mpV ks ix) (ints (pgs L)) (wsV ws) z))
 | [],k,e,hk=>by
  have:L.length<=k:=List.drop_eq_nil_iff.1 e
  refine s59_0_run _ _ _ _ _ _ _ _ _ _ _ _ ?_ (.refl _)
  unfold s59_0
  rw [decide_eq_false (by omega)];rfl
 | c::r,k,e,hk=>by
  obtain ⟨h1,h2,h3⟩:=drop_cons e
  have hc:c∈L:=List.mem_of_getElem? h2
  have hg:gd (decide (((k:Nat):Int).toNat < (ints (pgs L)).length))=fun q=>q:=by funext q;exact gd_of (by simp [ints_len,pgs_len];omega)
  have ih:=idxa_loop h hL r (k+1) h3 (by omega)
  by_cases hq:goesP sure c=true
  ·refine s59_0_run _ _ _ _ _ _ _ _ _ _ _ _ ?_ (.refl _)
   unfold s59_0 idxF
   rw [decide_eq_true (by omega),cond_true,gd_of (by simp),hg,toNat_cast,Nat.zero_add,ints_pgs_get h2,kI_mk,h.mf hc,kP_mk,h.ax hc,d63_pl,if_pos hq]
   simp only [goesP,Bool.and_eq_true,decide_eq_true_eq,Bool.or_eq_true,Bool.not_eq_true'] at hq
   rw [ibeq_t hq.1,cond_true,h.ax hc,d63_pl,h.ax hc,d63_pl,h.ax hc,d63_pl]
   rcases hq.2 with hd | hd
   ·rw [hd];rfl
   ·rw [decide_eq_true hd];cases c.dirty<;>rfl
  ·refine s59_0_run _ _ _ _ _ _ _ _ _ _ _ _ ?_ (by unfold idxF;rw [if_neg hq];exact ih)
   unfold s59_0
   rw [decide_eq_true (by omega),cond_true,gd_of (by simp),hg,toNat_cast,Nat.zero_add,ints_pgs_get h2,kI_mk,h.mf hc,kP_mk,h.ax hc,d63_pl,wi k (by omega),h.ax hc,d63_pl,h.ax hc,d63_pl,h.ax hc,d63_pl]
   simp only [goesP,Bool.and_eq_true,decide_eq_true_eq,Bool.or_eq_true,Bool.not_eq_true',not_and,not_or] at hq
   by_cases hp:c.pins=0
   ·have:=hq hp
    rw [ibeq_t hp,cond_true,decide_eq_false this.2]
    have hd:c.dirty=true:=by simpa using this.1
    rw [hd];rfl
   ·rw [ibeq_f hp,cond_false]
theorem idxa_ok (h:Rep ar ks ix L) (hL:L.length<=100000) :
  icC qcfg ⟨true,false⟩ 59 [.tail 2 0,.fn 65 [.ptr 3 0 0]] (frm ar a1 pl sure n (mpV ks ix) (ints (pgs L)) (wsV ws) z)=some (mk59 (idxF (goesP sure) 0 L,ar,a1,ints (pgs L),pl,sure,n,mpV ks ix,[],wsV ws,z)):=by
 refine e59_run _ _ _ _ _ _ _ _ _ _ ?_ ⟨_,_,idxa_loop (a1:=a1) (pl:=pl) (sure:=sure) (n:=n) (ws:=ws) (z:=z) h hL L 0 rfl (by omega),by kernel_rfl⟩
 unfold e59
 rw [ints_len,pgs_len];rfl
def freeS (pl sure:Int) (L:List Pg) (ws:Ws):Option (List Pg × Ws) :=
 if (L.length:Int) < pl then some (L,ws) else (L.find? (goesP sure)).map fun x=>(cutP L x.page,if x.dirty then ws++[(x.page,x.s)] else ws)
theorem find_split {α:Type} {q:α->Bool}:∀{L pre post:List α} {c:α},L=pre++c::post->(∀x∈pre,q x=false)->q c=true->L.find? q=some c
 | _,[],post,c,rfl,_,h=>by simp [h]
 | _,x::pre,post,c,rfl,h1,h=>by
  rw [List.cons_append,List.find?_cons,h1 x (by simp)]
  exact find_split rfl (fun y hy=>h1 y (by simp [hy])) h
theorem cut_split (hn:(pgs L).Nodup) {pre post:List Pg} {c:Pg} (e:L=pre++c::post):cutP L c.page=pre++post:=by
 subst e
 have hn':(pgs pre++c.page::pgs post).Nodup:=by simpa [pgs] using hn
 rw [List.nodup_append] at hn'
 have h2:=List.nodup_cons.1 hn'.2.1
 unfold cutP
 rw [List.filter_append,List.filter_cons_of_neg (by simp),List.filter_eq_self.2,List.filter_eq_self.2]
 ·intro y hy
  have:y.page≠c.page:=fun e=>h2.1 (e ▸ List.mem_map.2 ⟨y,hy,rfl⟩)
  simpa using this
 ·intro y hy
  have:y.page≠c.page:=hn'.2.2 _ (List.mem_map.2 ⟨y,hy,rfl⟩) _ (by simp)
  simpa using this
theorem Rep.off (h:Rep ar ks ix L) {i:Nat} (hi:∀y∈L,ix y.page≠i) (v:V):Rep (ar.set i v) ks ix L :=
 ⟨h.perm,h.nd,fun y hy=>by rw [List.getElem?_set_ne (fun e=>hi y hy e.symm)];exact h.at_ y hy,h.inj⟩
structure Good (pl n:Int) (L:List Pg) (ws:Ws):Prop where
 len:(L.length:Int)<=pl
 pl:pl<=64
 bs:∀x∈L,x.s.length=252
 pg:∀x∈L,0<=x.page/\x.page < n
 ok:wsOk ws
theorem Good.l100 (g:Good pl n L ws):L.length<=100000:=by have:=g.len;have:=g.pl;omega
theorem free_ok (h:Rep ar ks ix L) (g:Good pl n L ws) (hw:ws.length<=100000) :
  (freeS pl sure L ws=none/\icC qcfg ⟨false,false⟩ 45 [.ptr 2 0 0] (plm ar a1 pl sure n (mpV ks ix) (pgs L) ws z)=some (mk45 (6,ar,a1,pl,sure,n,mpV ks ix,[],ints (pgs L),wsV ws,z))) ∨
  ∃L' ws' ar' ks',freeS pl sure L ws=some (L',ws')/\Rep ar' ks' ix L' /\
   icC qcfg ⟨false,false⟩ 45 [.ptr 2 0 0] (plm ar a1 pl sure n (mpV ks ix) (pgs L) ws z)=some (mk45 (0,ar',a1,pl,sure,n,mpV ks' ix,[],ints (pgs L'),wsV ws',z)):=by
 have hL:=g.l100
 by_cases hlt:(L.length:Int) < pl
 ·right
  refine ⟨L,ws,ar,ks,by unfold freeS;rw [if_pos hlt],h,?_⟩
  refine e45_run _ _ _ _ _ _ _ _ _ _ (o:=.doneM ?v1 ?m1) ?h1 (.done ?n1)
  case h1 =>
   unfold e45
   rw [h.len,decide_eq_true hlt,cond_true]
  case n1=>kernel_rfl
 rcases idxF_spec (goesP sure) L 0 with ⟨h1,h2⟩ | ⟨pre,c,post,h1,h2,h3,h4⟩
 ·left
  refine ⟨by unfold freeS;rw [if_neg hlt,List.find?_eq_none.2 fun x hx=>by rw [h2 x hx];simp];rfl,?_⟩
  refine e45_run _ _ _ _ _ _ _ _ _ _ (o:=.doneM ?v2 ?m2) ?h2 (.done ?n2)
  case h2 =>
   unfold e45
   rw [h.len,decide_eq_false hlt,cond_false,icM_of mk59_inj (idxa_ok h hL),h1]
   rfl
  case n2=>kernel_rfl
 ·right
  rw [Nat.zero_add] at h4
  have hc:c∈L:=by rw [h1];simp
  have hk:L[pre.length]? = some c:=by rw [h1];simp
  have hlen:pre.length < L.length:=by rw [h1];simp
  have hcut:=cut_split h.nd h1
  have hrow:(ints (pgs L)).take pre.length++(ints (pgs L)).drop (pre.length+1)=ints (pgs (cutP L c.page)):=by
   rw [hcut,h1]
   simp [pgs,ints,List.take_append,List.drop_append]
  have hfs:freeS pl sure L ws=some (cutP L c.page,if c.dirty then ws++[(c.page,c.s)] else ws):=by
   unfold freeS;rw [if_neg hlt,find_split h1 h2 h3];rfl
  have hgd:∀q:R,gd (decide (0<=((pre.length:Nat):Int)/\((pre.length:Nat):Int)<=W .i64 (((pre.length:Nat):Int)+1)/\(W .i64 (((pre.length:Nat):Int)+1)).toNat<=(ints (pgs L)).length/\(ints (pgs L)).length<=16777216)) q=q:=fun q=>by
   rw [wi _ (by omega),toNat_cast,ints_len,pgs_len]
   exact gd_of (by simp;omega)
  have hg:gd (decide (((pre.length:Nat):Int).toNat < (ints (pgs L)).length))=fun q=>q:=by funext q;exact gd_of (by simp [ints_len,pgs_len];omega)
  cases hd:c.dirty
  ·refine ⟨_,_,ar,ks.erase c.page,hfs,h.cut c.page,?_⟩
   rw [hd,if_neg (by simp)]
   refine e45_run _ _ _ _ _ _ _ _ _ _ (o:=.doneM ?v3 ?m3) ?h3 (.done ?n3)
   case h3 =>
    unfold e45
    rw [h.len,decide_eq_false hlt,cond_false,icM_of mk59_inj (idxa_ok h hL),h4]
    dsimp only
    rw [decide_eq_false (show ¬((pre.length:Nat):Int) < 0 by omega),cond_false,gd_of (by simp),hg,toNat_cast,Nat.zero_add,ints_pgs_get hk,kI_mk,h.mf hc,kP_mk,h.ax hc,d63_pl,hd,cond_false,del_in,opt_mk,hgd,wi _ (by omega),toNat_cast,hrow]
    all_goals rfl
   case n3=>kernel_rfl
  ·have hoff:Rep (ar.set (ix c.page) (.agg [.str c.s,.int .i64 c.pins,.bool false,.int .i64 c.first,.int .i64 c.last])) (ks.erase c.page) ix (cutP L c.page) :=
    (h.cut c.page).off (fun y hy e=>by
     have:=List.mem_filter.1 hy
     exact (show y.page≠c.page by simpa using this.2) (h.inj y this.1 c hc e)) _
   refine ⟨_,_,_,ks.erase c.page,hfs,hoff,?_⟩
   rw [hd,if_pos rfl]
   have hpg:=g.pg c hc
   refine e45_run _ _ _ _ _ _ _ _ _ _ (o:=.doneM ?v4 ?m4) ?h4 (.done ?n4)
   case h4 =>
    unfold e45
    rw [h.len,decide_eq_false hlt,cond_false,icM_of mk59_inj (idxa_ok h hL),h4]
    dsimp only
    rw [decide_eq_false (show ¬((pre.length:Nat):Int) < 0 by omega),cond_false,gd_of (by simp),hg,toNat_cast,Nat.zero_add,ints_pgs_get hk,kI_mk,h.mf hc,kP_mk,h.ax hc,d63_pl,hd,cond_true,h.mf hc,kP_mk,h.ax hc,d63_pl,icM_of mk69_inj (write_ok ar a1 n ws z c.page c.s hpg.1 hpg.2 hw (g.bs c hc))]
    dsimp only
    rw [h.mf hc,kP_mk,h.ax hc,d63_pl,del_in,opt_mk,hgd,wi _ (by omega),toNat_cast,hrow]
    all_goals rfl
   case n4=>kernel_rfl
end
section
variable {p:Int} {ar a1:List V} {pl sure n:Int} {ks:List Int} {ix:Int->Nat} {L:List Pg} {ws:Ws} {z:Nat}
def pinX (x:Pg):Pg:={ x with pins:=W .i64 (x.pins+1) }
def newX (ws:Ws) (p:Int):Pg:=⟨p,cont ws p,1,false,0,0⟩
def pinS (pl sure n:Int) (L:List Pg) (ws:Ws) (p:Int):Bs × Int × List Pg × Ws :=
 if 0<=p/\p < n then
  match findP L p with
  | some x=>(x.s,0,cutP L p++[pinX x],ws)
  | none =>
   match freeS pl sure L ws with
   | none=>([],6,L,ws)
   | some r=>(cont ws p,0,r.1++[newX ws p],r.2)
 else ([],1,L,ws)
theorem pgs_app (A B:List Pg):pgs (A++B)=pgs A++pgs B:=by simp [pgs]
theorem filter_out {l:List Int} {p:Int} (h:p∉l):l.filter (· != p)=l:=List.filter_eq_self.2 fun y hy=>by
 have:y≠p:=by rintro rfl;exact h hy
 simpa using this
theorem cut_ren {x x':Pg} (h:Rep ar ks ix L) (hx:x∈L) (hp:x'.page=x.page):Rep (ar.set (ix x.page) (placeV x')) ks ix (cutP L x.page++[x']):=by
 refine h.set hx hp ?_ ?_
 ·have:=(cut_perm h.nd hx).map Pg.page
  rw [pgs_app]
  simpa [pgs,hp] using this
 ·intro y hy
  rcases List.mem_append.1 hy with hy | hy
  ·have:=List.mem_filter.1 hy
   exact .inr ⟨this.1,by simpa using this.2⟩
  ·exact .inl (by simpa using hy)
theorem freeS_pgs {L':List Pg} {ws':Ws} (h:freeS pl sure L ws=some (L',ws')):∀x∈L',x∈L:=by
 unfold freeS at h
 split at h
 ·cases h;exact fun x hx=>hx
 ·obtain ⟨c,hc,e⟩:=omi.1 h
  cases e
  intro x hx
  exact (List.mem_filter.1 hx).1
theorem freeS_len {L':List Pg} {ws':Ws} (hn:(pgs L).Nodup) (hl:(L.length:Int)<=pl) (h:freeS pl sure L ws=some (L',ws')):(L'.length:Int) < pl:=by
 unfold freeS at h
 split at h
 ·cases h;assumption
 ·obtain ⟨c,hc,e⟩:=omi.1 h
  cases e
  have hcm:c∈L:=List.mem_of_find?_eq_some hc
  have:=(cut_perm hn hcm).length_eq
  simp at this
  omega
theorem pin_ok (h:Rep ar ks ix L) (g:Good pl n L ws) (hw:ws.length<=100000) (p:Int) :
  ∃ar' ks' ix' z',Rep ar' ks' ix' (pinS pl sure n L ws p).2.2.1 /\
   icC qcfg ⟨false,false⟩ 23 [.ptr 2 0 0,.int .i64 p] (plm ar a1 pl sure n (mpV ks ix) (pgs L) ws z) =
    some (mk23 ((pinS pl sure n L ws p).1,(pinS pl sure n L ws p).2.1,ar',a1,pl,sure,n,mpV ks' ix',[],ints (pgs (pinS pl sure n L ws p).2.2.1),wsV (pinS pl sure n L ws p).2.2.2,z')):=by
 by_cases hr:0<=p/\p < n
 case neg =>
  rw [show pinS pl sure n L ws p=([],1,L,ws) from if_neg hr]
  refine ⟨ar,ks,ix,z,h,?_⟩
  by_cases h0:p < 0
  ·refine e23_run _ _ _ _ _ _ _ _ _ _ _ (o:=.doneM ?v1 ?m1) ?h1 (.done ?n1)
   case h1 =>
    unfold e23
    rw [decide_eq_true h0,cond_true]
   case n1=>kernel_rfl
  ·refine e23_run _ _ _ _ _ _ _ _ _ _ _ (o:=.doneM ?v2 ?m2) ?h2 (.done ?n2)
   case h2 =>
    unfold e23
    rw [decide_eq_false h0,cond_false,decide_eq_true (show p ≥ n by omega),cond_true]
   case n2=>kernel_rfl
 case pos =>
  have hd0:decide (p < 0)=false:=decide_eq_false (by omega)
  have hd1:decide (p ≥ n)=false:=decide_eq_false (by omega)
  have hy:=g.l100
  cases hf:findP L p with
  | some x =>
   have e:pinS pl sure n L ws p=(x.s,0,cutP L p++[pinX x],ws):=by unfold pinS;rw [if_pos hr,hf]
   rw [e]
   obtain ⟨hx,rfl⟩:=findP_some hf
   refine ⟨_,ks,ix,z,cut_ren h hx (x':=pinX x) rfl,?_⟩
   have hag:ints (pgs (cutP L x.page++[pinX x]))=ints ((pgs L).filter (· != x.page)++[x.page]):=by rw [pgs_app,pgs_cut];rfl
   rw [hag]
   refine e23_run _ _ _ _ _ _ _ _ _ _ _ (o:=.doneM ?v3 ?m3) ?h3 (.done ?n3)
   case h3 =>
    unfold e23
    rw [hd0,cond_false,hd1,cond_false,h.mf hx,kP_mk,icM_of mk46_inj (young_ok ar a1 pl sure n (mpV ks ix) (pgs L) ws z x.page (by rw [pgs_len];omega))]
    dsimp only
    rw [h.mf hx,kP_mk,h.ax hx,d63_pl,h.ax hx,d63_pl,h.mf hx,kP_mk,set_ax h hx,d63_v]
    all_goals rfl
   case n3=>kernel_rfl
  | none =>
   have hrd:=read_ok ar a1 n ws z p hr.1 hr.2 hw g.ok
   rcases free_ok (a1:=a1) (sure:=sure) (z:=ws.length) h g hw with ⟨f1,f2⟩ | ⟨L',ws',ar',ks',f1,f2,f3⟩
   ·have e:pinS pl sure n L ws p=([],6,L,ws):=by unfold pinS;rw [if_pos hr,hf];dsimp only;rw [f1]
    rw [e]
    refine ⟨ar,ks,ix,ws.length,h,?_⟩
    refine e23_run _ _ _ _ _ _ _ _ _ _ _ (o:=.doneM ?v4 ?m4) ?h4 (.done ?n4)
    case h4 =>
     unfold e23
     rw [hd0,cond_false,hd1,cond_false,h.mn hf,icM_of mk40_inj hrd]
     dsimp only
     rw [ibne_f rfl,cond_false,icM_of mk45_inj f2]
     dsimp only
     rw [ibne_t (by decide),cond_true]
    case n4=>kernel_rfl
   ·have e:pinS pl sure n L ws p=(cont ws p,0,L'++[newX ws p],ws'):=by unfold pinS;rw [if_pos hr,hf];dsimp only;rw [f1]
    rw [e]
    have hn:p∉pgs L':=fun hp=>by
     obtain ⟨x,hx,e⟩:=List.mem_map.1 hp
     exact findP_none hf (List.mem_map.2 ⟨x,freeS_pgs f1 x hx,e⟩)
    have hl':L'.length<=100000:=by have:=freeS_len h.nd g.len f1;have:=g.pl;omega
    have ha:=f2.add (x:=⟨p,cont ws p,0,false,0,0⟩) hn
    have hm:(⟨p,cont ws p,0,false,0,0⟩:Pg)∈L'++[⟨p,cont ws p,0,false,0,0⟩]:=by simp
    have hcl:cutP (L'++[⟨p,cont ws p,0,false,0,0⟩]) p=L':=by
     rw [cut_split ha.nd (c:=⟨p,cont ws p,0,false,0,0⟩) (post:=[]) rfl,List.append_nil]
    have hfin:=cut_ren ha hm (x':=newX ws p) rfl
    have hmp:=mpV_add f2 (x:=⟨p,cont ws p,0,false,0,0⟩) hn ar'.length
    rw [show (⟨p,cont ws p,0,false,0,0⟩:Pg).page=p from rfl] at hfin hmp
    rw [hcl] at hfin
    refine ⟨_,_,_,ws.length,hfin,?_⟩
    have hag:ints (pgs (L'++[newX ws p]))=ints ((pgs L').filter (· != p)++[p]):=by rw [pgs_app,filter_out hn];rfl
    rw [hag]
    refine e23_run _ _ _ _ _ _ _ _ _ _ _ (o:=.doneM ?v5 ?m5) ?h5 (.done ?n5)
    case h5 =>
     unfold e23
     rw [hd0,cond_false,hd1,cond_false,h.mn hf,icM_of mk40_inj hrd]
     dsimp only
     rw [ibne_f rfl,cond_false,icM_of mk45_inj f3]
     dsimp only
     rw [ibne_f rfl,cond_false,put_out (fun hk=>hn (f2.perm.mem_iff.1 hk)),opt_mk,hmp,
      icM_of mk46_inj (young_ok (ar'++[V.agg [V.str (cont ws p),V.int .i64 0,V.bool false,V.int .i64 0,V.int .i64 0]]) a1 pl sure n (mpV (ks'++[p]) (updI ix p ar'.length)) (pgs L') ws' ws.length p (by rw [pgs_len];omega))]
     dsimp only
     have q1:=ha.mf hm
     have q2:=ha.ax hm
     have q3:=fun v k=>set_ax ha hm v k
     dsimp only at q1 q2 q3
     rw [q1,kP_mk]
     change idxK (ar'++[placeV ⟨p,cont ws p,0,false,0,0⟩]) _ _=_
     rw [q2,d63_pl]
     dsimp only
     change idxK (ar'++[placeV ⟨p,cont ws p,0,false,0,0⟩]) _ _=_
     rw [q2,d63_pl,q1,kP_mk]
     change idxK ((ar'++[placeV ⟨p,cont ws p,0,false,0,0⟩]).set _ _) _ _=_
     rw [q3,d63_v]
     all_goals rfl
    case n5=>kernel_rfl
theorem keyInts_mp:∀ks:List Int,(∀k∈ks,-9223372036854775808<=k/\k<=9223372036854775807)->keyInts (mpV ks ix)=some ks
 | [],_=>rfl
 | k::ks,h=>by
  have ih:keyInts (mpV ks ix)=some ks:=keyInts_mp ks fun k hk=>h k (by simp [hk])
  unfold keyInts mpV at *
  rw [List.map_cons]
  unfold mapO
  rw [ih]
  have e:keyI (ent ix k).1=some k:=if_pos (h k (by simp))
  rw [e]
  rfl
def In64 (L:List Pg):Prop:=∀x∈L,-9223372036854775808<=x.page/\x.page<=9223372036854775807
theorem Gd64 (hpg:∀x∈L,0<=x.page/\x.page < n) (hn:n<=1000000):In64 L:=fun x hx=>by have:=hpg x hx;omega
theorem Good.in64 (g:Good pl n L ws) (hn:n<=1000000):In64 L:=Gd64 g.pg hn
theorem pages_ok (h:Rep ar ks ix L) (hL:L.length<=100000) (h64:In64 L) :
  icC qcfg ⟨true,false⟩ 12 [.ptr 2 0 0] (plm ar a1 pl sure n (mpV ks ix) (pgs L) ws z) =
   some (mk12 (ar,a1,pl,sure,n,mpV ks ix,ints (pgs L),[],wsV ws,z,ints (srt ks))):=by
 refine e12_run _ _ _ _ _ _ _ _ _ _ (o:=.doneM ?v1000 ?m1000) ?h1000 (.done ?n1000)
 case h1000 =>
  unfold e12
  rw [keyInts_mp _ (fun k hk=>by
   obtain ⟨x,hx,e⟩:=List.mem_map.1 (h.perm.mem_iff.1 hk)
   exact e ▸ h64 x hx),opt_mk,gd_of (by have:=h.perm.length_eq;rw [pgs_len] at this;simp;omega)]
 case n1000=>kernel_rfl
end
section
variable {p:Int} {ar a1:List V} {pl sure n:Int} {ks:List Int} {ix:Int->Nat} {L:List Pg} {ws:Ws} {z:Nat}
def washX (y:Pg):Pg:={ y with dirty:=false }
def mayP (sure:Int) (x:Pg):Bool:=x.dirty && decide (x.last<=sure)
def clean1 (sure:Int) (s:List Pg × Ws × Nat) (p:Int):List Pg × Ws × Nat :=
 match findP s.1 p with
 | some x=>if mayP sure x then (updP s.1 p washX,s.2.1++[(p,x.s)],s.2.2+1) else s
 | none=>s
def cleanF (sure:Int) (r:List Int) (s:List Pg × Ws × Nat):List Pg × Ws × Nat:=r.foldl (clean1 sure) s
structure Gd (n:Int) (L:List Pg) (ws:Ws):Prop where
 bs:∀x∈L,x.s.length=252
 pg:∀x∈L,0<=x.page/\x.page < n
 ok:wsOk ws
theorem mem_upd {f:Pg->Pg} {y:Pg} (h:y∈updP L p f):∃x∈L,y=x∨(y=f x/\x.page=p):=by
 obtain ⟨x,hx,e⟩:=List.mem_map.1 h
 by_cases hp:x.page=p
 ·rw [if_pos hp] at e;exact ⟨x,hx,.inr ⟨e.symm,hp⟩⟩
 ·rw [if_neg hp] at e;exact ⟨x,hx,.inl e.symm⟩
theorem Gd.wash (g:Gd n L ws) {x:Pg} (hx:x∈L):Gd n (updP L x.page washX) (ws++[(x.page,x.s)]):=by
 refine ⟨?_,?_,?_⟩
 ·intro y hy
  obtain ⟨w,hw,e | ⟨e,_⟩⟩:=mem_upd hy
  ·exact e ▸ g.bs w hw
  ·rw [e];exact g.bs w hw
 ·intro y hy
  obtain ⟨w,hw,e | ⟨e,_⟩⟩:=mem_upd hy
  ·exact e ▸ g.pg w hw
  ·rw [e];exact g.pg w hw
 ·intro w hw
  rcases List.mem_append.1 hw with hw | hw
  ·exact g.ok w hw
  ·simp only [List.mem_singleton] at hw
   rw [hw];exact g.bs x hx
theorem findP_in {c:Int} (h:c∈pgs L):∃x,findP L c=some x/\x∈L/\x.page=c:=by
 cases hf:findP L c with
 | none=>exact absurd h (findP_none hf)
 | some x=>exact ⟨x,rfl,findP_some hf⟩
theorem cleanB (pl:Int) (l:List Int) (hl:l.length<=100000) (ag:List V) (z:Nat):∀(r:List Int) (k:Nat) (L:List Pg) (ws:Ws) (cnt:Nat) (ar:List V),Rep ar ks ix L->Gd n L ws->ws.length+r.length<=100000->cnt+r.length<=100000 ->
  (∀c∈r,c∈pgs L)->l.drop k=r->k<=l.length ->
  ∃ar',Rep ar' ks ix (cleanF sure r (L,ws,cnt)).1/\Go qk true 8 fa30 (.head 0 (T30_0b (cnt:Int) (l.length:Int) (k:Int) ar a1 pl sure n (mpV ks ix) ag [] (ints l) (wsV ws) z))
   (.doneM (.int .i64 ((cleanF sure r (L,ws,cnt)).2.2:Int)) [.arena 71 ar',.arena 74 a1,.box 61 (.agg [.ptr 3 0 0,.int .i64 pl,.mp 4,.tail 5 0,.int .i64 sure]) false,.box 52 (.agg [.int .i64 n,.mp 6,.tail 9 0]) false,.map (mpV ks ix),.row 3 ag 0,.map [],.dead,.row 3 (ints l) 0,.row 83 (wsV (cleanF sure r (L,ws,cnt)).2.1) z])
 | [],k,L,ws,cnt,ar,h,g,hw,hc,hm,e,hk=>by
  have:l.length<=k:=List.drop_eq_nil_iff.1 e
  refine ⟨ar,h,?_⟩
  refine s30_0b_run _ _ _ _ _ _ _ _ _ _ _ _ _ _ ?_ (.refl _)
  unfold s30_0b
  rw [decide_eq_false (by omega)];rfl
 | c::r,k,L,ws,cnt,ar,h,g,hw,hc,hm,e,hk=>by
  obtain ⟨h1,h2,h3⟩:=drop_cons e
  obtain ⟨x,hf,hx,hxc⟩:=findP_in (hm c (by simp))
  subst hxc
  have hg:gd (decide (((k:Nat):Int).toNat < (ints l).length))=fun q=>q:=by funext q;exact gd_of (by simp [ints_len];omega)
  simp only [List.length_cons] at hw hc
  have hpg:=g.pg x hx
  cases hmay:mayP sure x
  ·have ef:cleanF sure (x.page::r) (L,ws,cnt)=cleanF sure r (L,ws,cnt):=by
    show cleanF sure r (clean1 sure (L,ws,cnt) x.page)=_
    unfold clean1;rw [hf];dsimp only;rw [hmay];rfl
   obtain ⟨ar',r1,r2⟩:=cleanB pl l hl ag z r (k+1) L ws cnt ar h g (by omega) (by omega) (fun c hc=>hm c (by simp [hc])) h3 (by omega)
   rw [ef]
   refine ⟨ar',r1,s30_0b_run _ _ _ _ _ _ _ _ _ _ _ _ _ _ ?_ r2⟩
   unfold s30_0b
   rw [decide_eq_true (by omega),cond_true,gd_of (by simp),hg,toNat_cast,idxK_ints h2,kI_mk,h.mf hx,kP_mk,h.ax hx,d63_pl,wi k (by omega),h.ax hx,d63_pl]
   unfold mayP at hmay
   cases hd:x.dirty
   ·rfl
   ·rw [hd,Bool.true_and] at hmay;rw [hmay];rfl
  ·have ef:cleanF sure (x.page::r) (L,ws,cnt)=cleanF sure r (updP L x.page washX,ws++[(x.page,x.s)],cnt+1):=by
    show cleanF sure r (clean1 sure (L,ws,cnt) x.page)=_
    unfold clean1;rw [hf];dsimp only;rw [hmay];rfl
   have hu:=h.upd hx (f:=washX) fun _=>rfl
   obtain ⟨ar',r1,r2⟩:=cleanB pl l hl ag z r (k+1) (updP L x.page washX) (ws++[(x.page,x.s)]) (cnt+1) _ hu (g.wash hx) (by simp;omega) (by omega) (fun c hc=>by rw [pgs_upd (f:=washX) fun _=>rfl];exact hm c (by simp [hc])) h3 (by omega)
   rw [ef]
   refine ⟨ar',r1,s30_0b_run _ _ _ _ _ _ _ _ _ _ _ _ _ _ ?_ r2⟩
   unfold s30_0b
   simp only [mayP,Bool.and_eq_true,decide_eq_true_eq] at hmay
   rw [decide_eq_true (by omega),cond_true,gd_of (by simp),hg,toNat_cast,idxK_ints h2,kI_mk,h.mf hx,kP_mk,h.ax hx,d63_pl,hmay.1,cond_true,wi k (by omega),h.ax hx,d63_pl,decide_eq_true hmay.2,cond_true,h.mf hx,kP_mk,h.ax hx,d63_pl,
    icM_of mk69_inj (write_ok ar a1 n ws z x.page x.s hpg.1 hpg.2 (by omega) (g.bs x hx))]
   dsimp only
   rw [h.mf hx,kP_mk,h.ax hx,d63_pl,wi cnt (by omega)]
   rfl
theorem cleanA (m0:List O) (pl:Int) (l:List Int) (hl:l.length<=100000) (ag:List V) (z:Nat) (L:List Pg) (ws:Ws) (ar:List V) (h:Rep ar ks ix L) (g:Gd n L ws) (hm0:∃a b c d e f ag0 wl k,m0=plm a b c d e f ag0 wl k):∀(r:List Int) (k:Nat),ws.length+r.length<=100000 ->
  (∀c∈r,c∈pgs L)->l.drop k=r->k<=l.length ->
  ∃ar',Rep ar' ks ix (cleanF sure r (L,ws,0)).1/\GoN qk 8 fa30 ⟨false,false⟩ m0 (.head 0 (T30_0 (l.length:Int) (k:Int) ar a1 pl sure n (mpV ks ix) ag [] (wsV ws) z (ints l)))
   (mk30 (((cleanF sure r (L,ws,0)).2.2:Int),ar',a1,pl,sure,n,mpV ks ix,[],ag,wsV (cleanF sure r (L,ws,0)).2.1,z))
 | [],k,hw,hm,e,hk=>by
  have:l.length<=k:=List.drop_eq_nil_iff.1 e
  refine ⟨ar,h,.step (fun o'' hg=>s30_0_run _ _ _ _ _ _ _ _ _ _ _ _ _ (o:=.doneM (.int .i64 0) [.arena 71 ar,.arena 74 a1,.box 61 (.agg [.ptr 3 0 0,.int .i64 pl,.mp 4,.tail 5 0,.int .i64 sure]) false,.box 52 (.agg [.int .i64 n,.mp 6,.tail 7 0]) false,.map (mpV ks ix),.row 3 ag 0,.map [],.row 83 (wsV ws) z,.row 3 (ints l) 0]) ?_ hg) (.done ?_)⟩
  ·unfold s30_0
   rw [decide_eq_false (by omega)];rfl
  ·obtain ⟨_,_,_,_,_,_,_,_,_,rfl⟩:=hm0
   show _=_
   kernel_rfl
 | c::r,k,hw,hm,e,hk=>by
  obtain ⟨h1,h2,h3⟩:=drop_cons e
  obtain ⟨x,hf,hx,hxc⟩:=findP_in (hm c (by simp))
  subst hxc
  have hg:gd (decide (((k:Nat):Int).toNat < (ints l).length))=fun q=>q:=by funext q;exact gd_of (by simp [ints_len];omega)
  simp only [List.length_cons] at hw
  have hpg:=g.pg x hx
  cases hmay:mayP sure x
  ·have ef:cleanF sure (x.page::r) (L,ws,0)=cleanF sure r (L,ws,0):=by
    show cleanF sure r (clean1 sure (L,ws,0) x.page)=_
    unfold clean1;rw [hf];dsimp only;rw [hmay];rfl
   obtain ⟨ar',r1,r2⟩:=cleanA m0 pl l hl ag z L ws ar h g hm0 r (k+1) (by omega) (fun c hc=>hm c (by simp [hc])) h3 (by omega)
   rw [ef]
   refine ⟨ar',r1,.step (fun o'' hg'=>s30_0_run _ _ _ _ _ _ _ _ _ _ _ _ _ ?_ hg') r2⟩
   unfold s30_0
   rw [decide_eq_true (by omega),cond_true,gd_of (by simp),hg,toNat_cast,idxK_ints h2,kI_mk,h.mf hx,kP_mk,h.ax hx,d63_pl,wi k (by omega),h.ax hx,d63_pl]
   unfold mayP at hmay
   cases hd:x.dirty
   ·rfl
   ·rw [hd,Bool.true_and] at hmay;rw [hmay];rfl
  ·have ef:cleanF sure (x.page::r) (L,ws,0)=cleanF sure r (updP L x.page washX,ws++[(x.page,x.s)],1):=by
    show cleanF sure r (clean1 sure (L,ws,0) x.page)=_
    unfold clean1;rw [hf];dsimp only;rw [hmay];rfl
   have hu:=h.upd hx (f:=washX) fun _=>rfl
   obtain ⟨ar',r1,r2⟩:=cleanB (sure:=sure) (a1:=a1) pl l hl ag z r (k+1) (updP L x.page washX) (ws++[(x.page,x.s)]) 1 _ hu (g.wash hx) (by simp;omega) (by have:=hw;omega) (fun c hc=>by rw [pgs_upd (f:=washX) fun _=>rfl];exact hm c (by simp [hc])) h3 (by omega)
   rw [ef]
   refine ⟨ar',r1,.step (fun o'' hg'=>s30_0_run _ _ _ _ _ _ _ _ _ _ _ _ _ ?_ hg') ⟨_,_,r2,?_⟩⟩
   ·unfold s30_0
    simp only [mayP,Bool.and_eq_true,decide_eq_true_eq] at hmay
    rw [decide_eq_true (by omega),cond_true,gd_of (by simp),hg,toNat_cast,idxK_ints h2,kI_mk,h.mf hx,kP_mk,h.ax hx,d63_pl,hmay.1,cond_true,wi k (by omega),h.ax hx,d63_pl,decide_eq_true hmay.2,cond_true,h.mf hx,kP_mk,h.ax hx,d63_pl,
     icM_of mk69_inj (write_ok ar a1 n ws z x.page x.s hpg.1 hpg.2 (by omega) (g.bs x hx))]
    dsimp only
    rw [h.mf hx,kP_mk,h.ax hx,d63_pl]
    rfl
   ·obtain ⟨_,_,_,_,_,_,_,_,_,rfl⟩:=hm0
    show _=_
    kernel_rfl
theorem srt_perm (l:List Int):(srt l).Perm l:=List.mergeSort_perm l _
theorem srt_in (h:Rep ar ks ix L):∀c∈srt ks,c∈pgs L:=fun c hc=>h.perm.mem_iff.1 ((srt_perm ks).mem_iff.1 hc)
theorem srt_len (h:Rep ar ks ix L):(srt ks).length=L.length:=by rw [(srt_perm ks).length_eq,h.perm.length_eq,pgs_len]
theorem clean_ok (h:Rep ar ks ix L) (g:Gd n L ws) (hL:L.length<=100) (h64:In64 L) (hw:ws.length<=90000) :
  ∃ar',Rep ar' ks ix (cleanF sure (srt ks) (L,ws,0)).1 /\
   icC qcfg ⟨false,false⟩ 30 [.ptr 2 0 0] (plm ar a1 pl sure n (mpV ks ix) (pgs L) ws z) =
    some (mk30 (((cleanF sure (srt ks) (L,ws,0)).2.2:Int),ar',a1,pl,sure,n,mpV ks ix,[],ints (pgs L),wsV (cleanF sure (srt ks) (L,ws,0)).2.1,z)):=by
 have hl:=srt_len h
 obtain ⟨ar',r1,r2⟩:=cleanA (sure:=sure) (a1:=a1) (plm ar a1 pl sure n (mpV ks ix) (pgs L) ws z) pl (srt ks) (by omega) (ints (pgs L)) z L ws ar h g ⟨_,_,_,_,_,_,_,_,_,rfl⟩ (srt ks) 0 (by omega) (srt_in h) rfl (by omega)
 refine ⟨ar',r1,e30_run _ _ _ _ _ _ _ _ _ _ ?_ r2⟩
 unfold e30
 rw [icM_of mk12_inj (pages_ok h (by omega) h64)]
 dsimp only
 rw [ints_len]
 rfl
end
section
variable {p:Int} {ar a1:List V} {pl sure n:Int} {ks:List Int} {ix:Int->Nat} {L:List Pg} {ws:Ws} {z:Nat}
def dirtyB (L:List Pg) (c:Int):Bool:=match findP L c with | some x=>x.dirty | none=>false
abbrev drm (ar a1:List V) (pl sure n:Int) (mp:List (V × V)) (row:List V) (ages:List Int) (ws:Ws) (z:Nat):List O :=
 [.arena 71 ar,.arena 74 a1,.row 3 row 0,.box 30 (.ptr 4 0 0) false,.box 61 (.agg [.ptr 5 0 0,.int .i64 pl,.mp 6,.tail 7 0,.int .i64 sure]) false,.box 52 (.agg [.int .i64 n,.mp 8,.tail 9 0]) false,.map mp,.row 3 (ints ages) 0,.map [],.row 83 (wsV ws) z]
theorem idxb_loop (h:Rep ar ks ix L) (a:List Int) (ha:a.length<=100000) (hm:∀c∈a,c∈pgs L):∀(r:List Int) (k:Nat),a.drop k=r->k<=a.length ->
  Go qk true 10 fa59 (.head 0 (T59b_0 (a.length:Int) (k:Int) ar a1 (ints a) pl sure n (mpV ks ix) (ints (pgs L)) [] (wsV ws) z)) (.doneM (.int .i64 (idxF (fun c=>!dirtyB L c) k r)) (drm ar a1 pl sure n (mpV ks ix) (ints a) (pgs L) ws z))
 | [],k,e,hk=>by
  have:a.length<=k:=List.drop_eq_nil_iff.1 e
  refine s59b_0_run _ _ _ _ _ _ _ _ _ _ _ _ _ ?_ (.refl _)
  unfold s59b_0
  rw [decide_eq_false (by omega)];rfl
 | c::r,k,e,hk=>by
  obtain ⟨h1,h2,h3⟩:=drop_cons e
  obtain ⟨x,hf,hx,hxc⟩:=findP_in (hm c (List.mem_of_getElem? h2))
  subst hxc
  have hg:gd (decide (((k:Nat):Int).toNat < (ints a).length))=fun q=>q:=by funext q;exact gd_of (by simp [ints_len];omega)
  have ih:=idxb_loop h a ha hm r (k+1) h3 (by omega)
  have hb:dirtyB L x.page=x.dirty:=by unfold dirtyB;rw [hf]
  cases hd:x.dirty
  ·refine s59b_0_run _ _ _ _ _ _ _ _ _ _ _ _ _ ?_ (.refl _)
   unfold s59b_0 idxF
   rw [decide_eq_true (by omega),cond_true,gd_of (by simp),hg,toNat_cast,idxK_ints h2,kI_mk,h.mf hx,kP_mk,h.ax hx,d63_pl,hd,hb,hd];rfl
  ·refine s59b_0_run _ _ _ _ _ _ _ _ _ _ _ _ _ ?_ (by unfold idxF;rw [hb,hd,if_neg (by simp)];exact ih)
   unfold s59b_0
   rw [decide_eq_true (by omega),cond_true,gd_of (by simp),hg,toNat_cast,idxK_ints h2,kI_mk,h.mf hx,kP_mk,h.ax hx,d63_pl,hd,wi k (by omega)];rfl
theorem idxb_ok (h:Rep ar ks ix L) (a:List Int) (ha:a.length<=100000) (hm:∀c∈a,c∈pgs L) :
  icC qcfg ⟨true,false⟩ 59 [.own 2,.fn 36 [.ptr 3 0 0]] (drm ar a1 pl sure n (mpV ks ix) (ints a) (pgs L) ws z)=some (mk59b (idxF (fun c=>!dirtyB L c) 0 a,ar,a1,ints a,pl,sure,n,mpV ks ix,ints (pgs L),[],wsV ws,z)):=by
 refine e59b_run _ _ _ _ _ _ _ _ _ _ _ ?_ ⟨_,_,idxb_loop (a1:=a1) (pl:=pl) (sure:=sure) (n:=n) (ws:=ws) (z:=z) h a ha hm a 0 rfl (by omega),by kernel_rfl⟩
 unfold e59b
 rw [ints_len];rfl
theorem dela_loop (h:Rep ar ks ix L) (m:Nat) (hn:m<=100000):∀(r row:List Int) (i j:Nat),row.drop j=r->row.length=m->j<=m->i<=j->(∀c∈r,c∈pgs L) ->
  ∃row':List Int,row'.length=m/\row'.take (i+(r.filter (dirtyB L)).length)=row.take i++r.filter (dirtyB L)/\i+(r.filter (dirtyB L)).length<=m /\
   Go qk true 10 fa35 (.head 0 (T35_0 (i:Int) (j:Int) ar a1 (ints row) pl sure n (mpV ks ix) (ints (pgs L)) [] (wsV ws) z))
    (.doneM (.win 2 0 (i+(r.filter (dirtyB L)).length)) (drm ar a1 pl sure n (mpV ks ix) (delRow row' (i+(r.filter (dirtyB L)).length)) (pgs L) ws z++[.row 3 [] 0]))
 | [],row,i,j,e,hr,hj,hi,hm=>by
  have hjl:row.length<=j:=List.drop_eq_nil_iff.1 e
  refine ⟨row,hr,by simp,by simp;omega,?_⟩
  refine s35_0_run _ _ _ _ _ _ _ _ _ _ _ _ _ ?_ (.refl _)
  unfold s35_0
  rw [decide_eq_false (by rw [ints_len];omega),cond_false,gd_of (wfl_ints row),gd_of (by simp),toNat_cast,gd_of (by simp [ints_len];omega),gd_of (by simp [ints_len];omega)]
  rw [gd_of (wfl_zero2 _ (wfl_ints row) _ _ _),gd_of (by simp),gd_of (by simp [ints_len];omega)]
  rfl
 | c::r,row,i,j,e,hr,hj,hi,hm=>by
  obtain ⟨h1,h2,h3⟩:=drop_cons e
  obtain ⟨x,hf,hx,hxc⟩:=findP_in (hm c (by simp))
  subst hxc
  have hgi:∀k:Nat,k < m->gd (decide (((k:Nat):Int).toNat < (ints row).length))=fun q=>q:=fun k hk=>by funext q;exact gd_of (by simp [ints_len];omega)
  obtain ⟨d,hd⟩:∃d,row[i]? = some d:=⟨_,List.getElem?_eq_getElem (by omega)⟩
  have hb:dirtyB L x.page=x.dirty:=by unfold dirtyB;rw [hf]
  cases hq:x.dirty
  ·obtain ⟨row',e1,e2,e3,e4⟩:=dela_loop h m hn r row i (j+1) h3 hr (by omega) (by omega) (fun c hc=>hm c (by simp [hc]))
   have hff:(x.page::r).filter (dirtyB L)=r.filter (dirtyB L):=List.filter_cons_of_neg (by rw [hb,hq];simp)
   rw [hff]
   refine ⟨row',e1,e2,e3,?_⟩
   refine s35_0_run _ _ _ _ _ _ _ _ _ _ _ _ _ ?_ e4
   unfold s35_0
   rw [decide_eq_true (by rw [ints_len];omega),cond_true,gd_of (by simp),hgi j (by omega),toNat_cast,idxK_ints h2,kI_mk,h.mf hx,kP_mk,h.ax hx,d63_pl,hq,wi j (by omega)];rfl
  ·have hs:(row.set i x.page).drop (j+1)=r:=by rw [List.drop_set_of_lt (by omega)];exact h3
   obtain ⟨row',e1,e2,e3,e4⟩:=dela_loop h m hn r (row.set i x.page) (i+1) (j+1) hs (by simpa using hr) (by omega) (by omega) (fun c hc=>hm c (by simp [hc]))
   have hff:(x.page::r).filter (dirtyB L)=x.page::r.filter (dirtyB L):=List.filter_cons_of_pos (by rw [hb,hq])
   have hl:i+1+(r.filter (dirtyB L)).length=i+(x.page::r.filter (dirtyB L)).length:=by simp;omega
   rw [hl] at e2 e3 e4
   rw [hff]
   refine ⟨row',e1,by rw [e2,set_take (by omega),List.append_assoc];rfl,e3,?_⟩
   refine s35_0_run _ _ _ _ _ _ _ _ _ _ _ _ _ ?_ e4
   unfold s35_0
   rw [decide_eq_true (by rw [ints_len];omega),cond_true,gd_of (by simp),hgi j (by omega),toNat_cast,idxK_ints h2,kI_mk,h.mf hx,kP_mk,h.ax hx,d63_pl,hq,Bool.not_true,Bool.not_false,cond_true,gd_of (by simp),hgi i (by omega),toNat_cast,idxK_ints hd,kI_mk,wi j (by omega),wi i (by omega),ints_set]
theorem filter_preD {pre post:List Int} {c:Int} (h1:∀y∈pre,(!dirtyB L y)=false) (h2:(!dirtyB L c)=true):(pre++c::post).filter (dirtyB L)=pre++post.filter (dirtyB L):=by
 rw [List.filter_append,List.filter_cons_of_neg (by simpa using h2),List.filter_eq_self.2 fun y hy=>by have:=h1 y hy;simpa using this]
theorem dfa_ok (h:Rep ar ks ix L) (a:List Int) (ha:a.length<=100000) (hm:∀c∈a,c∈pgs L) :
  ∃(k:Nat) (row:List V),row.take k=ints (a.filter (dirtyB L))/\k=(a.filter (dirtyB L)).length/\k<=row.length/\k<=a.length /\
   icC qcfg ⟨true,true⟩ 35 [.own 2,.fn 36 [.ptr 3 0 0]] (drm ar a1 pl sure n (mpV ks ix) (ints a) (pgs L) ws z)=some (mk35 (k,ar,a1,row,pl,sure,n,mpV ks ix,ints (pgs L),[],wsV ws,z)):=by
 rcases idxF_spec (fun c=>!dirtyB L c) a 0 with ⟨h1,h2⟩ | ⟨pre,c,post,h1,h2,h3,h4⟩
 ·have hfs:a.filter (dirtyB L)=a:=List.filter_eq_self.2 fun y hy=>by have:=h2 y hy;simpa using this
  refine ⟨a.length,ints a,?_,by rw [hfs],by rw [ints_len];omega,by omega,?_⟩
  ·rw [List.take_of_length_le (by rw [ints_len];omega),hfs]
  ·refine e35_run _ _ _ _ _ _ _ _ _ _ _ (o:=.doneM ?v1 ?m1) ?h1 (.done ?n1)
   case h1 =>
    unfold e35
    rw [icM_of mk59b_inj (idxb_ok h a ha hm),h1]
    rfl
   case n1 =>
    have:(mk35 ((ints a).length - 0,ar,a1,ints a,pl,sure,n,mpV ks ix,ints (pgs L),[],wsV ws,z))=mk35 (a.length,ar,a1,ints a,pl,sure,n,mpV ks ix,ints (pgs L),[],wsV ws,z):=by rw [ints_len];rfl
    rw [<-this]
    show _=_
    kernel_rfl
 ·have hl:pre.length < a.length:=by rw [h1];simp
  have hd:a.drop (pre.length+1)=post:=by rw [h1];simp
  obtain ⟨row',e1,e2,e3,e4⟩:=dela_loop (a1:=a1) (pl:=pl) (sure:=sure) (n:=n) (ws:=ws) (z:=z) h a.length ha post a pre.length (pre.length+1) hd rfl (by omega) (by omega) (fun c hc=>hm c (by rw [h1];simp [hc]))
  have hf:a.filter (dirtyB L)=pre++post.filter (dirtyB L):=by rw [h1];exact filter_preD h2 h3
  have ht:a.take pre.length=pre:=by rw [h1];simp
  refine ⟨_,delRow row' (pre.length+(post.filter (dirtyB L)).length),?_,?_,?_,e3,e35_run _ _ _ _ _ _ _ _ _ _ _ ?_ ⟨_,_,e4,by kernel_rfl⟩⟩
  ·rw [delRow_take (by omega),e2,hf,ht]
  ·rw [hf];simp
  ·rw [delRow_len (by omega)];omega
  ·unfold e35
   rw [icM_of mk59b_inj (idxb_ok h a ha hm),h4]
   dsimp only
   simp only [Nat.zero_add]
   rw [ibeq_f (by omega),cond_false,wi _ (by omega)]
def dirtL (ks:List Int) (L:List Pg):List Int:=(srt ks).filter (dirtyB L)
theorem dirty_ok (h:Rep ar ks ix L) (hL:L.length<=100000) (h64:In64 L) :
  ∃(k:Nat) (row:List V),row.take k=ints (dirtL ks L)/\k=(dirtL ks L).length/\k<=row.length /\
   icC qcfg ⟨true,true⟩ 14 [.ptr 2 0 0] (plm ar a1 pl sure n (mpV ks ix) (pgs L) ws z)=some (mk14 (k,ar,a1,pl,sure,n,mpV ks ix,ints (pgs L),[],wsV ws,z,row)):=by
 obtain ⟨k,row,h1,h2,h3,_,h4⟩:=dfa_ok (a1:=a1) (pl:=pl) (sure:=sure) (n:=n) (ws:=ws) (z:=z) h (srt ks) (by rw [srt_len h];omega) (srt_in h)
 refine ⟨k,row,h1,h2,h3,?_⟩
 refine e14_run _ _ _ _ _ _ _ _ _ _ (o:=.doneM ?v2 ?m2) ?h2 (.done ?n2)
 case h2 =>
  unfold e14
  rw [icM_of mk12_inj (pages_ok h hL h64)]
  dsimp only
  rw [icM_of mk35_inj h4]
 case n2=>kernel_rfl
def firstOf (L:List Pg) (c:Int):Int:=match findP L c with | some x=>x.first | none=>0
def minF (L:List Pg) (a:Int) (c:Int):Int:=if firstOf L c < a then firstOf L c else a
def leastS (ks:List Int) (L:List Pg):Int × Bool:=match dirtL ks L with | []=>(0,false) | c::r=>((c::r).foldl (minF L) (firstOf L c),true)
theorem least_loop (h:Rep ar ks ix L) (d:List Int) (row:List V) (hd:row.take d.length=ints d) (hr:d.length<=row.length) (hl:d.length<=100000) (hm:∀c∈d,c∈pgs L):∀(r:List Int) (k:Nat) (a:Int),d.drop k=r->k<=d.length ->
  Go qk true 8 fa9 (.head 0 (T9_0 a d.length (d.length:Int) (k:Int) ar a1 pl sure n (mpV ks ix) (ints (pgs L)) [] (wsV ws) z row))
   (.doneM (.tup [.int .i64 (r.foldl (minF L) a),.bool true]) (plm ar a1 pl sure n (mpV ks ix) (pgs L) ws z++[.row 3 row 0]))
 | [],k,a,e,hk=>by
  have:d.length<=k:=List.drop_eq_nil_iff.1 e
  refine s9_0_run _ _ _ _ _ _ _ _ _ _ _ _ _ _ _ ?_ (.refl _)
  unfold s9_0
  rw [decide_eq_false (by omega)];rfl
 | c::r,k,a,e,hk=>by
  obtain ⟨h1,h2,h3⟩:=drop_cons e
  obtain ⟨x,hf,hx,hxc⟩:=findP_in (hm c (List.mem_of_getElem? h2))
  subst hxc
  have ih:=least_loop h d row hd hr hl hm r (k+1) (minF L a x.page) h3 (by omega)
  have hb:firstOf L x.page=x.first:=by unfold firstOf;rw [hf]
  have hg:row[k]? = some (.int .i64 x.page):=by
   have:(row.take d.length)[k]? = some (.int .i64 x.page):=by rw [hd];simp [ints,h2]
   rwa [List.getElem?_take_of_lt h1] at this
  refine s9_0_run _ _ _ _ _ _ _ _ _ _ _ _ _ _ _ ?_ ih
  unfold s9_0
  rw [decide_eq_true (by omega),cond_true,gd_of (by simp),toNat_cast,gd_of (by simp;omega),gd_of (by simp;omega),Nat.zero_add,idxK_of hg,kI_mk,h.mf hx,kP_mk,h.ax hx,d63_pl,wi k (by omega)]
  unfold minF
  rw [hb]
theorem least_ok (h:Rep ar ks ix L) (hL:L.length<=100000) (h64:In64 L) :
   icC qcfg ⟨true,false⟩ 9 [.ptr 2 0 0] (plm ar a1 pl sure n (mpV ks ix) (pgs L) ws z)=some (mk9 ((leastS ks L).1,(leastS ks L).2,ar,a1,pl,sure,n,mpV ks ix,ints (pgs L),[],wsV ws,z)):=by
 obtain ⟨k,row,h1,h2,h3,h4⟩:=dirty_ok (a1:=a1) (pl:=pl) (sure:=sure) (n:=n) (ws:=ws) (z:=z) h hL h64
 have hm:∀c∈dirtL ks L,c∈pgs L:=fun c hc=>srt_in h c (List.mem_filter.1 hc).1
 have hlen:(dirtL ks L).length<=L.length:=by rw [<-srt_len h];exact List.length_filter_le _ _
 unfold leastS
 cases hd:dirtL ks L with
 | nil =>
  rw [hd] at h1 h2
  simp only [List.length_nil] at h2
  subst h2
  refine e9_run _ _ _ _ _ _ _ _ _ _ (o:=.doneM ?v3 ?m3) ?h3 (.done ?n3)
  case h3 =>
   unfold e9
   rw [icM_of mk14_inj h4]
   dsimp only
   rw [gd_of (by simp),List.drop_zero,h1]
   all_goals rfl
  case n3=>kernel_rfl
 | cons c r =>
  rw [hd] at h1 h2 hm hlen
  subst h2
  obtain ⟨x,hf,hx,hxc⟩:=findP_in (hm c (by simp))
  have hb:firstOf L c=x.first:=by unfold firstOf;rw [hf]
  have hg:row[0]? = some (.int .i64 c):=by
   have:(row.take (c::r).length)[0]? = some (.int .i64 c):=by rw [h1];rfl
   rwa [List.getElem?_take_of_lt (by simp)] at this
  refine e9_run _ _ _ _ _ _ _ _ _ _ ?_ ⟨_,_,least_loop (a1:=a1) (pl:=pl) (sure:=sure) (n:=n) (ws:=ws) (z:=z) h (c::r) row h1 h3 (by omega) hm (c::r) 0 (firstOf L c) rfl (by omega),by kernel_rfl⟩
  unfold e9
  rw [icM_of mk14_inj h4]
  dsimp only
  rw [gd_of (by simpa using h3),List.drop_zero,h1,ints_len,ibeq_f (by simp;omega),cond_false,gd_of (by simp),gd_of (by simpa using h3),Nat.zero_add,idxK_of hg,kI_mk]
  subst hxc
  rw [h.mf hx,kP_mk,h.ax hx,d63_pl,gd_of (by simpa using h3),hb]
  all_goals rfl
end
section
variable {p:Int} {ar a1:List V} {pl sure n:Int} {ks:List Int} {ix:Int->Nat} {L:List Pg} {ws:Ws} {z:Nat}
theorem Good.gd (g:Good pl n L ws):Gd n L ws:=⟨g.bs,g.pg,g.ok⟩
theorem freeS_ok {L':List Pg} {ws':Ws} (g:Good pl n L ws) (h:freeS pl sure L ws=some (L',ws')):wsOk ws'/\ws'.length<=ws.length+1:=by
 unfold freeS at h
 split at h
 ·cases h;exact ⟨g.ok,by omega⟩
 ·obtain ⟨c,hc,e⟩:=omi.1 h
  cases e
  split
  ·refine ⟨fun w hw=>?_,by simp⟩
   rcases List.mem_append.1 hw with hw | hw
   ·exact g.ok w hw
   ·simp only [List.mem_singleton] at hw
    rw [hw];exact g.bs c (List.mem_of_find?_eq_some hc)
  ·exact ⟨g.ok,by omega⟩
theorem Good.pin (g:Good pl n L ws) (hn:(pgs L).Nodup) (p:Int):Good pl n (pinS pl sure n L ws p).2.2.1 (pinS pl sure n L ws p).2.2.2/\(pinS pl sure n L ws p).2.2.2.length<=ws.length+1:=by
 unfold pinS
 split
 ·rename_i hr
  cases hf:findP L p with
  | some x =>
   obtain ⟨hx,rfl⟩:=findP_some hf
   have hl:=(cut_perm hn hx).length_eq
   simp only [List.length_append,List.length_singleton] at hl
   refine ⟨⟨?_,g.pl,?_,?_,g.ok⟩,by simp⟩
   ·have:=g.len;simp;omega
   ·intro y hy
    rcases List.mem_append.1 hy with hy | hy
    ·exact g.bs y (List.mem_filter.1 hy).1
    ·simp only [List.mem_singleton] at hy;rw [hy];exact g.bs x hx
   ·intro y hy
    rcases List.mem_append.1 hy with hy | hy
    ·exact g.pg y (List.mem_filter.1 hy).1
    ·simp only [List.mem_singleton] at hy;rw [hy];exact g.pg x hx
  | none =>
   cases hq:freeS pl sure L ws with
   | none=>exact ⟨g,by simp⟩
   | some r =>
    obtain ⟨L',ws'⟩:=r
    have h1:=freeS_pgs hq
    have h2:=freeS_len hn g.len hq
    have h3:=freeS_ok g hq
    refine ⟨⟨?_,g.pl,?_,?_,h3.1⟩,h3.2⟩
    ·simp;omega
    ·intro y hy
     rcases List.mem_append.1 hy with hy | hy
     ·exact g.bs y (h1 y hy)
     ·simp only [List.mem_singleton] at hy;rw [hy];exact cont_len g.ok p
    ·intro y hy
     rcases List.mem_append.1 hy with hy | hy
     ·exact g.pg y (h1 y hy)
     ·simp only [List.mem_singleton] at hy;rw [hy];exact hr
 ·exact ⟨g,by simp⟩
theorem Good.upd (g:Good pl n L ws) {f:Pg->Pg} (h1:∀x,(f x).page=x.page) (h2:∀x∈L,(f x).s.length=252) (p:Int):Good pl n (updP L p f) ws:=by
 refine ⟨by have:=g.len;simpa [updP] using this,g.pl,?_,?_,g.ok⟩
 ·intro y hy
  obtain ⟨w,hw,e | ⟨e,_⟩⟩:=mem_upd hy
  ·exact e ▸ g.bs w hw
  ·rw [e];exact h2 w hw
 ·intro y hy
  obtain ⟨w,hw,e | ⟨e,_⟩⟩:=mem_upd hy
  ·exact e ▸ g.pg w hw
  ·rw [e,h1];exact g.pg w hw
theorem Good.unpin (g:Good pl n L ws) (p:Int):Good pl n (if heldE L p=0 then updP L p fun y=>{ y with pins:=W .i64 (y.pins - 1) } else L) ws:=by
 split
 ·exact g.upd (f:=fun y=>{ y with pins:=W .i64 (y.pins - 1) }) (fun _=>rfl) (fun x hx=>g.bs x hx) p
 ·exact g
theorem Good.put (g:Good pl n L ws) (p:Int) (s:Bs) (lsn:Int):Good pl n (if putE L p s lsn=0 then updP L p (putX s lsn) else L) ws:=by
 split
 ·rename_i h
  have hs:s.length<=252:=by
   unfold putE at h
   split at h
   ·split at h
    ·cases h
    ·omega
   ·rename_i h2;exact absurd h h2
  exact g.upd (f:=putX s lsn) (fun _=>rfl) (fun x hx=>padW_len hs) p
 ·exact g
theorem Good.mt (hp:0<=pl/\pl<=64):Good pl n [] []:=⟨by simp;omega,hp.2,by simp,by simp,by intro w hw;cases hw⟩
theorem Rep.mt:Rep [] [] (fun _=>0) []:=⟨.refl _,by simp [pgs],by simp,by simp⟩
theorem pin_at (h:Rep ar ks ix L) (g:Good pl n L ws) (hw:ws.length<=100000) {s:Bs} {e:Int} {L':List Pg} {ws':Ws} (hp:pinS pl sure n L ws p=(s,e,L',ws')) :
  ∃ar' ks' ix' z',Rep ar' ks' ix' L'/\Good pl n L' ws' /\
   icC qcfg ⟨false,false⟩ 23 [.ptr 2 0 0,.int .i64 p] (plm ar a1 pl sure n (mpV ks ix) (pgs L) ws z)=some (mk23 (s,e,ar',a1,pl,sure,n,mpV ks' ix',[],ints (pgs L'),wsV ws',z')):=by
 obtain ⟨ar',ks',ix',z',h1,h2⟩:=pin_ok (a1:=a1) (sure:=sure) (z:=z) h g hw p
 have hg:=(g.pin (sure:=sure) h.nd p).1
 rw [hp] at h1 h2 hg
 exact ⟨ar',ks',ix',z',h1,hg,h2⟩
theorem unpin_at (h:Rep ar ks ix L) (g:Good pl n L ws) {e:Int} {L':List Pg} (he:heldE L p=e) (hl:(if heldE L p=0 then updP L p fun y=>{ y with pins:=W .i64 (y.pins - 1) } else L)=L') :
  ∃ar',Rep ar' ks ix L'/\Good pl n L' ws/\pgs L'=pgs L /\
   icC qcfg ⟨true,false⟩ 25 [.ptr 2 0 0,.int .i64 p] (plm ar a1 pl sure n (mpV ks ix) (pgs L) ws z)=some (mk25 (e,ar',a1,pl,sure,n,mpV ks ix,ints (pgs L'),[],wsV ws,z)):=by
 obtain ⟨ar',h1,h2⟩:=unpin_ok (a1:=a1) (pl:=pl) (sure:=sure) (n:=n) (ws:=ws) (z:=z) h p
 have hg:=g.unpin p
 have hpg:pgs L'=pgs L:=by
  rw [<-hl]
  split
  ·exact pgs_upd fun _=>rfl
  ·rfl
 rw [hl] at h1 hg
 rw [he] at h2
 exact ⟨ar',h1,hg,hpg,by rw [hpg];exact h2⟩
theorem put_at (h:Rep ar ks ix L) (g:Good pl n L ws) {s:Bs} {lsn:Int} {e:Int} {L':List Pg} (he:putE L p s lsn=e) (hl:(if putE L p s lsn=0 then updP L p (putX s lsn) else L)=L') :
  ∃ar',Rep ar' ks ix L'/\Good pl n L' ws/\pgs L'=pgs L /\
   icC qcfg ⟨true,false⟩ 27 [.ptr 2 0 0,.int .i64 p,.str s,.int .i64 lsn] (plm ar a1 pl sure n (mpV ks ix) (pgs L) ws z)=some (mk27 (e,ar',a1,pl,sure,n,mpV ks ix,ints (pgs L'),[],wsV ws,z)):=by
 obtain ⟨ar',h1,h2⟩:=put_ok' (a1:=a1) (pl:=pl) (sure:=sure) (n:=n) (ws:=ws) (z:=z) h p s lsn
 have hg:=g.put p s lsn
 have hpg:pgs L'=pgs L:=by
  rw [<-hl]
  split
  ·exact pgs_upd fun _=>rfl
  ·rfl
 rw [hl] at h1 hg
 rw [he] at h2
 exact ⟨ar',h1,hg,hpg,by rw [hpg];exact h2⟩
def fx0:Pg:=newX [] 0
def fx1:Pg:=putX [97] 5 fx0
def fx2:Pg:={ fx1 with pins:=W .i64 (fx1.pins - 1) }
def fx3:Pg:=newX [] 1
theorem perm_one {ks:List Int} {a:Int} (h:ks.Perm [a]):ks=[a]:=List.perm_singleton.1 h
theorem fixed_run {v:V} {m:List O} (h:e21=some (.doneM v m)) (hf:v.flat1=true):pcW qcfg 21 []=some v :=
 pcW_goA qik rfl fa21_eq rfl hf rfl rfl (e21_eq.trans h) (.refl _)
theorem srt_one (a:Int):srt [a]=[a]:=by simp [srt]
theorem fixed_ok:∃m,e21=some (.doneM (.bool true) m):=by
 have g0:Good 1 4 [] []:=.mt (by decide)
 obtain ⟨ar1,ks1,ix1,z1,r1,g1,c1⟩:=pin_at (a1:=[]) (sure:=0) (p:=4) (z:=0) Rep.mt g0 (by simp) (s:=[]) (e:=1) (L':=[]) (ws':=[]) rfl
 obtain ⟨ar2,ks2,ix2,z2,r2,g2,c2⟩:=pin_at (a1:=[]) (sure:=0) (p:=0) (z:=z1) r1 g1 (by simp) (s:=cont [] 0) (e:=0) (L':=[fx0]) (ws':=[]) rfl
 obtain ⟨ar3,r3,g3,-,c3⟩:=put_at (a1:=[]) (sure:=0) (p:=0) (z:=z2) r2 g2 (s:=[97]) (lsn:=5) (e:=0) (L':=[fx1]) rfl rfl
 obtain ⟨ar4,r4,g4,-,c4⟩:=put_at (a1:=[]) (sure:=0) (p:=0) (z:=z2) r3 g3 (s:=[98]) (lsn:=4) (e:=1) (L':=[fx1]) rfl rfl
 obtain ⟨ar5,r5,g5,-,c5⟩:=put_at (a1:=[]) (sure:=0) (p:=1) (z:=z2) r4 g4 (s:=[99]) (lsn:=5) (e:=7) (L':=[fx1]) rfl rfl
 obtain ⟨ar6,ks6,ix6,z6,r6,g6,c6⟩:=pin_at (a1:=[]) (sure:=0) (p:=1) (z:=z2) r5 g5 (by simp) (s:=[]) (e:=6) (L':=[fx1]) (ws':=[]) rfl
 obtain ⟨ar7,r7,g7,-,c7⟩:=unpin_at (a1:=[]) (sure:=0) (p:=0) (z:=z6) r6 g6 (e:=0) (L':=[fx2]) rfl rfl
 obtain ⟨ar8,r8,g8,-,c8⟩:=unpin_at (a1:=[]) (sure:=0) (p:=0) (z:=z6) r7 g7 (e:=9) (L':=[fx2]) rfl rfl
 obtain ⟨ar9,ks9,ix9,z9,r9,g9,c9⟩:=pin_at (a1:=[]) (sure:=0) (p:=1) (z:=z6) r8 g8 (by simp) (s:=[]) (e:=6) (L':=[fx2]) (ws':=[]) rfl
 have k9:ks9=[0]:=perm_one r9.perm
 have c10:=least_ok (a1:=[]) (pl:=1) (sure:=0) (n:=4) (ws:=[]) (z:=z9) r9 (by simp) (g9.in64 (by decide))
 have l10:leastS ks9 [fx2]=(5,true):=by rw [k9];unfold leastS dirtL;rw [srt_one];rfl
 rw [l10] at c10
 obtain ⟨ar11,ks11,ix11,z11,r11,g11,c11⟩:=pin_at (a1:=[]) (sure:=5) (p:=1) (z:=z9) r9 g9 (by simp) (s:=cont [] 1) (e:=0) (L':=[fx3]) (ws':=[(0,padW [97])]) rfl
 have k11:ks11=[1]:=perm_one r11.perm
 have c12:=read_ok ar11 [] 4 [(0,padW [97])] z11 0 (by decide) (by decide) (by simp) g11.ok
 have c13:=pages_ok (a1:=[]) (pl:=1) (sure:=5) (n:=4) (ws:=[(0,padW [97])]) (z:=1) r11 (by simp) (g11.in64 (by decide))
 obtain ⟨k14,row14,q1,q2,q3,c14⟩:=dirty_ok (a1:=[]) (pl:=1) (sure:=5) (n:=4) (ws:=[(0,padW [97])]) (z:=1) r11 (by simp) (g11.in64 (by decide))
 have d14:dirtL ks11 [fx3]=[]:=by rw [k11];unfold dirtL;rw [srt_one];rfl
 have c15:=pins_ok (a1:=[]) (pl:=1) (sure:=5) (n:=4) (ws:=[(0,padW [97])]) (z:=1) r11 1
 have c16:=pins_ok (a1:=[]) (pl:=1) (sure:=5) (n:=4) (ws:=[(0,padW [97])]) (z:=1) r11 0
 obtain ⟨ar17,r17,c17⟩:=clean_ok (a1:=[]) (pl:=1) (sure:=5) (n:=4) (ws:=[(0,padW [97])]) (z:=1) r11 g11.gd (by simp) (g11.in64 (by decide)) (by simp)
 have s11:srt ks11=[1]:=by rw [k11,srt_one]
 rw [s11] at c13 c17
 have f17:cleanF 5 [1] ([fx3],[(0,padW [97])],0)=([fx3],[(0,padW [97])],0):=rfl
 rw [f17] at c17
 rw [d14] at q1 q2
 simp only [List.length_nil] at q2
 subst q2
 have p18:=padR_ok [97] 252 (by decide)
 rw [padB_252 (by decide)] at p18
 have i35:pcW qcfg 11 [.sl (ints [1]),.sl [.int .i64 1]]=some (.bool true):=intsR_ok [1] [1] (by decide)
 have c1':icC qcfg ⟨false,false⟩ 23 [.ptr 2 0 0,.int .i64 4] [O.arena 71 [],O.arena 74 [],O.box 61 (V.agg [V.ptr 3 0 0,V.int .i64 1,V.mp 4,V.tail 5 0,V.int .i64 0]) false,O.box 52 (V.agg [V.int .i64 4,V.mp 6,V.tail 7 0]) false,O.map [],O.row 3 [] 0,O.map [],O.row 83 [] 0]=_:=c1
 apply Exists.intro
 unfold e21
 rw [icM_of mk23_inj c1'];dsimp only
 rw [icM_of mk23_inj c2];dsimp only
 rw [icM_of mk27_inj c3];dsimp only
 rw [icM_of mk27_inj c4];dsimp only
 rw [icM_of mk27_inj c5];dsimp only
 rw [icM_of mk23_inj c6];dsimp only
 rw [icM_of mk25_inj c7];dsimp only
 rw [icM_of mk25_inj c8];dsimp only
 rw [icM_of mk23_inj c9];dsimp only
 rw [icM_of mk9_inj c10];dsimp only
 rw [show (if (0:Int) < 5 then (5:Int) else 0)=5 from rfl]
 rw [icM_of mk23_inj c11];dsimp only
 rw [icM_of mk40_inj c12];dsimp only
 rw [pcK_of p18,d57_mk]
 have e12:cont [(0,padW [97])] 0=padW [97]:=rfl
 rw [e12,show ([(0,padW [97])]:Ws).length=1 from rfl]
 simp only [beq_self_eq_true,cond_true]
 rw [icM_of mk12_inj c13];dsimp only
 rw [pcK_of i35,kB_mk,cond_true]
 rw [icM_of mk14_inj c14];dsimp only
 rw [gd_of (by simp),List.drop_zero,q1,show (((ints []).length:Nat):Int)=0 from rfl]
 simp only [beq_self_eq_true,cond_true]
 have hp0:((findP [fx3] 1).map Pg.pins).getD 0=1:=rfl
 have hp1:((findP [fx3] 0).map Pg.pins).getD 0=0:=rfl
 rw [hp0] at c15
 rw [hp1] at c16
 rw [icM_of mk15_inj c15];dsimp only
 simp only [beq_self_eq_true,cond_true]
 rw [icM_of mk15_inj c16];dsimp only
 simp only [beq_self_eq_true,cond_true]
 rw [icM_of mk30_inj c17];dsimp only
 rfl
theorem fixedL_ok:pcW qcfg 21 []=some (.bool true):=by
 obtain ⟨m,h⟩:=fixed_ok
 exact fixed_run h rfl
end
theorem and7 (x:Int):∃q:Nat,q < 8/\W .i64 (((BitVec.ofInt (IntKind.bits .i64) x &&& BitVec.ofInt (IntKind.bits .i64) 7).toNat:Int))=(q:Int):=by
 refine ⟨(BitVec.ofInt 64 x &&& BitVec.ofInt 64 7).toNat,?_,?_⟩
 ·rw [BitVec.toNat_and]
  exact Nat.lt_of_le_of_lt Nat.and_le_right (by decide)
 ·change W .i64 (((BitVec.ofInt 64 x &&& BitVec.ofInt 64 7).toNat:Int))=_
  have:(BitVec.ofInt 64 x &&& BitVec.ofInt 64 7).toNat < 8:=by
   rw [BitVec.toNat_and]
   exact Nat.lt_of_le_of_lt Nat.and_le_right (by decide)
  exact W_i64 (by omega)
theorem law_run {f:FuncId} {fa:FA} {args:List V} {mem0 mem:List O} {o:Out} {v:V} (hp:qk.cfg.pprim f=none) (hf:fnA qk.cfg.P (qk.cfg.rxf f) f=some fa) (hm:arsM qk.cfg f=mem0) (hfl:v.flat1=true) (ho:arsOk qk.cfg f args=true) (hne:(qk.cfg.ars f).isEmpty=false)
  (h:enterK qk true fa args mem0=some o) (hg:Go qk true mem0.length fa o (.doneM v mem)):pcW qcfg f args=some v:=pcW_goA qik hp hf hm hfl ho hne h hg
section
variable {p:Int} {pl sure n:Int} {L:List Pg} {ws:Ws}
theorem cleanF_ind {sure:Int} {P:List Pg × Ws × Nat->Prop} (h:∀s c,P s->P (clean1 sure s c)):∀(r:List Int) {s:List Pg × Ws × Nat},P s->P (cleanF sure r s)
 | [],_,hs=>hs
 | c::r,s,hs=>cleanF_ind h r (h s c hs)
theorem clean1_cases (sure:Int) (s:List Pg × Ws × Nat) (c:Int):clean1 sure s c=s∨∃x∈s.1,x.page=c/\x.dirty=true/\x.last<=sure/\findP s.1 c=some x/\clean1 sure s c=(updP s.1 c washX,s.2.1++[(c,x.s)],s.2.2+1):=by
 unfold clean1
 cases hf:findP s.1 c with
 | none=>exact .inl rfl
 | some x =>
  dsimp only
  by_cases hm:mayP sure x=true
  ·rw [if_pos hm]
   simp only [mayP,Bool.and_eq_true,decide_eq_true_eq] at hm
   exact .inr ⟨x,(findP_some hf).1,(findP_some hf).2,hm.1,hm.2,rfl,rfl⟩
  ·rw [if_neg hm];exact .inl rfl
theorem pgs_clean1 (sure:Int) (s:List Pg × Ws × Nat) (c:Int):pgs (clean1 sure s c).1=pgs s.1:=by
 rcases clean1_cases sure s c with e | ⟨x,_,_,_,_,_,e⟩
 ·rw [e]
 ·rw [e];exact pgs_upd (f:=washX) fun _=>rfl
theorem Gd.clean1 {s:List Pg × Ws × Nat} (h:Gd n s.1 s.2.1) (c:Int):Gd n (clean1 sure s c).1 (clean1 sure s c).2.1:=by
 rcases clean1_cases sure s c with e | ⟨x,hx,hc,_,_,_,e⟩
 ·rw [e];exact h
 ·rw [e,<-hc];exact h.wash hx
theorem len_clean1 (sure:Int) (s:List Pg × Ws × Nat) (c:Int):(clean1 sure s c).2.1.length<=s.2.1.length+1:=by
 rcases clean1_cases sure s c with e | ⟨x,_,_,_,_,_,e⟩
 ·rw [e];omega
 ·rw [e];simp
theorem len_cleanF (sure:Int):∀(r:List Int) (s:List Pg × Ws × Nat),(cleanF sure r s).2.1.length<=s.2.1.length+r.length
 | [],s=>by simp [cleanF]
 | c::r,s=>by
  have h1:=len_cleanF sure r (Go.Proofs.YtknapnnpmfhogaaGreat.clean1 sure s c)
  have h2:=len_clean1 sure s c
  show (cleanF sure r (Go.Proofs.YtknapnnpmfhogaaGreat.clean1 sure s c)).2.1.length<=_
  simp only [List.length_cons]
  omega
theorem Good.clean (g:Good pl n L ws) (r:List Int) (k:Nat):Good pl n (cleanF sure r (L,ws,k)).1 (cleanF sure r (L,ws,k)).2.1/\pgs (cleanF sure r (L,ws,k)).1=pgs L:=by
 have h:Gd n (cleanF sure r (L,ws,k)).1 (cleanF sure r (L,ws,k)).2.1/\pgs (cleanF sure r (L,ws,k)).1=pgs L :=
  cleanF_ind (P:=fun s=>Gd n s.1 s.2.1/\pgs s.1=pgs L) (fun s c h=>⟨h.1.clean1 c,by rw [pgs_clean1];exact h.2⟩) r ⟨g.gd,rfl⟩
 have hl:=congrArg List.length h.2
 simp only [pgs_len] at hl
 exact ⟨⟨by rw [hl];exact g.len,g.pl,h.1.bs,h.1.pg,h.1.ok⟩,h.2⟩
end
structure Op where
 kind:Int
 page:Int
 s:Bs
 n:Int
def opV (o:Op):V:=.agg [.int .i64 o.kind,.int .i64 o.page,.str o.s,.int .i64 o.n]
theorem d31_op (o:Op) (k:Int->Int->Bs->Int->R):d38 (opV o) k=k o.kind o.page o.s o.n:=rfl
theorem bit1_xor (a b:Nat):bit1 (a ^^^ b)=bit1 a ^^^ bit1 b:=by
 unfold bit1
 have h1:(a ^^^ b) / 2=a / 2 ^^^ b / 2:=by simpa using Nat.xor_div_two_pow (a:=a) (b:=b) (n:=1)
 have h2:(a ^^^ b) % 2=(a % 2) ^^^ (b % 2):=by simpa using Nat.xor_mod_two_pow (a:=a) (b:=b) (n:=1)
 rw [h1,h2]
 rcases Nat.mod_two_eq_zero_or_one a with ha | ha<;>rcases Nat.mod_two_eq_zero_or_one b with hb | hb<;>rw [ha,hb]
 ·rfl
 ·rw [if_pos (by decide),if_neg (by decide),if_pos rfl,Nat.xor_assoc]
 ·rw [if_pos (by decide),if_pos rfl,if_neg (by decide),Nat.xor_assoc,Nat.xor_assoc,Nat.xor_comm (b / 2)]
 ·rw [if_neg (by decide),if_pos rfl,if_pos rfl,Nat.xor_assoc,Nat.xor_comm (b / 2),<-Nat.xor_assoc 2197175160,Nat.xor_self,Nat.zero_xor]
theorem bitN_xor:∀(k a b:Nat),bitN k (a ^^^ b)=bitN k a ^^^ bitN k b
 | 0,_,_=>rfl
 | k+1,a,b=>by
  show bitN k (bit1 (a ^^^ b))=_
  rw [bit1_xor,bitN_xor k];rfl
theorem bit1_two (h:Nat):bit1 (2 * h)=h:=by
 unfold bit1
 rw [if_neg (by omega)];omega
theorem bitN4_16 (h:Nat):bitN 4 (16 * h)=h:=by
 show bit1 (bit1 (bit1 (bit1 (16 * h))))=h
 rw [show 16 * h=2 * (2 * (2 * (2 * h))) by omega,bit1_two,bit1_two,bit1_two,bit1_two]
theorem split16 (x:Nat):x=(16 * (x / 16)) ^^^ (x % 16):=by
 have hlt:x % 16 < 2 ^ 4:=Nat.mod_lt _ (by decide)
 apply Nat.eq_of_testBit_eq
 intro i
 rw [Nat.testBit_xor]
 have e1:x=2 ^ 4 * (x / 16)+x % 16:=by omega
 have e2:(16 * (x / 16))=2 ^ 4 * (x / 16)+0:=by omega
 rw [e2,Nat.testBit_two_pow_mul_add _ (by decide)]
 conv=>lhs;rw [e1]
 rw [Nat.testBit_two_pow_mul_add _ hlt]
 by_cases hi:i < 4
 ·rw [if_pos hi,if_pos hi];simp
 ·rw [if_neg hi,if_neg hi,Nat.testBit_lt_two_pow (Nat.lt_of_lt_of_le hlt (Nat.pow_le_pow_right (by decide) (by omega)))];simp
theorem bitN4 (x:Nat):bitN 4 x=(x / 16) ^^^ bitN 4 (x % 16):=by
 conv=>lhs;rw [split16 x]
 rw [bitN_xor,bitN4_16]
theorem crc_bits (n:Nat) (c:UInt8):crcStep n c=bitN 8 (n ^^^ c.toNat):=by
 show _=bitN 4 (bitN 4 (n ^^^ c.toNat))
 unfold crcStep
 rw [<-bitN4,<-bitN4]
theorem ones_sub {x:Nat} (h:w32 x):4294967295 - x=4294967295 ^^^ x:=by
 have h1:(~~~ (BitVec.ofNat 32 x)).toNat=2 ^ 32 - 1 - (BitVec.ofNat 32 x).toNat:=BitVec.toNat_not
 have h2:(~~~ (BitVec.ofNat 32 x)).toNat=((BitVec.allOnes 32) ^^^ (BitVec.ofNat 32 x)).toNat:=by rw [BitVec.not_def]
 rw [BitVec.toNat_xor,BitVec.toNat_allOnes,BitVec.toNat_ofNat,Nat.mod_eq_of_lt h] at h2
 rw [BitVec.toNat_ofNat,Nat.mod_eq_of_lt h] at h1
 rw [<-h1.symm.trans h2]
theorem rof_in (s:Bs) (hs:small s) (i:Nat) (hi:i < s.length) (v:V):∀(d k x:Nat),k+d=8->w32 x ->
  Go qk false 0 fa43 (.head 0 (T43_0 s ((bitN d x:Nat):Int) ((i+1:Nat):Int))) (.done v) ->
  Go qk false 0 fa43 (.head 1 (T43_1 s (x:Int) (i:Int) (k:Int))) (.done v)
 | 0,k,x,hk,hx,h=>by
  refine s43_1_run _ _ _ _ ?_ h
  unfold s43_1
  rw [decide_eq_false (by omega),cond_false,show Lite.W .i64 ((i:Int)+1)=((i+1:Nat):Int) by rw [W_i64 (by unfold small at hs;omega)];rfl];rfl
 | d+1,k,x,hk,hx,h=>by
  refine s43_1_run _ _ _ _ ?_ (rof_in s hs i hi v d (k+1) (bit1 x) (by omega) (bit1_lt hx) h)
  have e1:((x:Int)).tmod 2=((x % 2:Nat):Int):=rfl
  have e2:((x:Int)).tdiv 2=((x / 2:Nat):Int):=rfl
  have hx2:w32 (x / 2):=by unfold w32 at *;omega
  unfold s43_1
  rw [decide_eq_true (by omega),cond_true,e1,e2,W_u32l hx2,wi k (by omega)]
  unfold bit1
  by_cases ho:x % 2=1
  ·have e3:=xor32 hx2 (show w32 2197175160 by decide)
   rw [if_pos ho,ho,show ((((1:Nat):Int))==(1:Int))=true from rfl,cond_true]
   rw [show (((2197175160:Nat):Int))=(2197175160:Int) from rfl] at e3
   rw [e3]
  ·rw [if_neg ho,show ((((x % 2:Nat):Int))==(1:Int))=false by simp;omega,cond_false]
theorem rof_out (s:Bs) (hs:small s):∀(r:Bs) (i n:Nat),s.drop i=r->w32 n ->
  Go qk false 0 fa43 (.head 0 (T43_0 s (n:Int) (i:Int))) (.done (.int .u32 ((4294967295 ^^^ r.foldl crcStep n:Nat):Int)))
 | [],i,n,h,hn=>by
  have h0:=List.drop_eq_nil_iff.1 h
  refine s43_0_run _ _ _ ?_ (.refl _)
  unfold s43_0
  rw [decide_eq_false (by omega),cond_false,show ((4294967295:Int) - (n:Int))=((4294967295 - n:Nat):Int) by unfold w32 at hn;omega,W_u32l (by unfold w32 at *;omega),ones_sub hn];rfl
 | c::r,i,n,h,hn=>by
  obtain ⟨h1,h2,h3⟩:=drop_cons h
  have hx:w32 (n ^^^ c.toNat):=Nat.xor_lt_two_pow (n:=32) hn (by have:=c.toNat_lt;omega)
  have go:=rof_out s hs r (i+1) (crcStep n c) h3 (crcStep_lt c hn)
  rw [crc_bits] at go
  refine s43_0_run _ _ _ ?_ (rof_in s hs i h1 _ 8 0 (n ^^^ c.toNat) rfl hx (by rw [<-crc_bits] at go |-;exact go))
  unfold s43_0
  have hc:w32 c.toNat:=by have:=c.toNat_lt;unfold w32;omega
  rw [decide_eq_true (by omega),cond_true,gd_of (by simp),show ((i:Int)).toNat=i from rfl,idxK_of h2,W_u32l hc,xor32 hn hc]
  rfl
theorem rof_ok (s:Bs) (hs:small s):pcW qcfg 43 [.str s]=some (.int .u32 ((crc s:Nat):Int)) :=
 e43_run _ rfl (rof_out s hs s 0 4294967295 rfl (by decide))
theorem rseal_ok (s:Bs) (hs:small s):pcW qcfg 22 [.str s]=some (.tup [.str (sealE s).1,.int .i64 (sealE s).2]):=by
 refine e22_done _ ?_
 unfold e22 sealE
 by_cases h:252 < s.length
 ·rw [decide_eq_true (by omega),if_pos h];rfl
 ·have hw:=padW_len (s:=s) (by omega)
  have hsw:small (padW s):=by unfold small;omega
  have hc:=crc_lt (padW s)
  have h3:putB [32,32,32,32] 0 4 (crc (padW s))=(leN 4 (crc (padW s)),0):=by
   unfold putB
   rw [roomE_ok (by decide) (by decide) (by decide) (by decide),if_pos rfl,if_pos (by have:=crc_lt (padW s);unfold w32 at this;simpa using this)]
   congr 1
  rw [decide_eq_false (by omega),cond_false,if_neg h,pcK_of (padR_ok s 252 hs),padB_252 (by omega),d57_mk,pcK_of (rof_ok _ hsw),kI_mk,W_u64 (by unfold w32 at hc;omega),pcK_of (putR_ok _ 0 4 _ (by unfold w32 at hc;omega) (by decide)),h3,d57_mk,gd_of (by simp [leN_len,hw])]
  rfl
theorem ropen_ok {w:Bs} (h:w.length=252):pcW qcfg 68 [.str (sealB w)]=some (.tup [.str w,.int .i64 0]):=by
 refine e68_done _ ?_
 have hl:=sealB_len h
 have ht:(sealB w).take 252=w:=by unfold sealB;rw [List.take_left' h]
 have hp:padW w=w:=by unfold padW;rw [h];simp [zeros]
 unfold e68
 rw [show (((sealB w).length:Int) != (256:Int))=false by rw [hl];rfl,cond_false,gd_of (by rw [hl];rfl),ht,pcK_of (rseal_ok w (by unfold small;omega)),d57_mk]
 unfold sealE
 rw [if_neg (by omega),hp]
 dsimp only
 rw [beq_self_eq_true,Bool.not_true,cond_false,gd_of (by rw [hl];rfl)]
abbrev rdm (m0 m1 l w:List V):List O:=[.arena 71 m0,.arena 74 m1,.box 56 (.agg [.tail 3 0,.tail 4 0]) false,.row 9 l 0,.row 85 w 0]
def blank (n:Nat):List V:=List.replicate n (.str (sealB (zeros 252)))
theorem blank_get {n k:Nat} (h:k < n) (q:V->R):idxK (blank n) k q=q (.str (sealB (zeros 252))):=idxK_of (by unfold blank;rw [List.getElem?_replicate,if_pos h])
theorem blank_len (n:Nat):(blank n).length=n:=by simp [blank]
theorem dWr (w:Int × Bs) (k:Int->Bs->R):d85 (wV w) k=k w.1 (sealB w.2):=rfl
theorem wsV_get {ws:Ws} {k:Nat} {w:Int × Bs} (h:ws[k]? = some w) (q:V->R):idxK (wsV ws) k q=q (wV w):=idxK_of (by unfold wsV;rw [List.getElem?_map,h];rfl)
section
variable {m0 m1:List V} {n:Nat} {ws:Ws}
theorem raw_hom (p:Int):∀(ws:Ws) (a:Bs),ws.foldl (fun a w=>if w.1=p then sealB w.2 else a) (sealB a)=sealB (ws.foldl (fun a w=>if w.1=p then w.2 else a) a)
 | [],_=>rfl
 | w::ws,a=>by
  rw [List.foldl_cons,List.foldl_cons]
  by_cases h:w.1=p
  ·rw [if_pos h,if_pos h];exact raw_hom p ws _
  ·rw [if_neg h,if_neg h];exact raw_hom p ws _
theorem rraw_loop (hl:ws.length<=100000) (p:Int):∀(r:Ws) (k:Nat) (a:Bs),ws.drop k=r ->
  Go qk true 5 fa20 (.head 0 (T20_0 p a (k:Int) m0 m1 (blank n) (wsV ws))) (.doneM (.str (r.foldl (fun a w=>if w.1=p then sealB w.2 else a) a)) (rdm m0 m1 (blank n) (wsV ws)))
 | [],k,a,h=>by
  have h0:=List.drop_eq_nil_iff.1 h
  refine s20_0_run _ _ _ _ _ _ _ ?_ (.refl _)
  unfold s20_0
  rw [decide_eq_false (by rw [wsV_len];omega),cond_false];rfl
 | w::r,k,a,h=>by
  obtain ⟨h1,h2,h3⟩:=drop_cons h
  have hg:∀q:R,gd (decide (0<=(k:Int))) q=q:=fun q=>gd_of (by simp)
  have hg2:∀q:R,gd (decide (((k:Int)).toNat < (wsV ws).length)) q=q:=fun q=>gd_of (decide_eq_true (by rw [wsV_len];exact h1))
  have hx:∀q:V->R,idxK (wsV ws) (0+((k:Int)).toNat) q=q (wV w):=fun q=>wsV_get (by rw [Nat.zero_add];exact h2) q
  refine s20_0_run _ _ _ _ _ _ _ ?_ (rraw_loop hl p r (k+1) (if w.1=p then sealB w.2 else a) h3)
  unfold s20_0
  rw [decide_eq_true (by rw [wsV_len];omega),cond_true]
  simp only [hg,hg2,hx,dWr,wi k (by omega)]
  by_cases hp:w.1=p
  ·rw [if_pos hp,show (w.1==p)=true by simp [hp],cond_true]
  ·rw [if_neg hp,show (w.1==p)=false by simp [hp],cond_false]
theorem rraw_ok (hl:ws.length<=100000) (p:Int) (hp:0<=p) (hn:p < (n:Int)):icC qcfg ⟨true,false⟩ 20 [.ptr 2 0 0,.int .i64 p] (rdm m0 m1 (blank n) (wsV ws))=some (mk20 (sealB (cont ws p),m0,m1,blank n,wsV ws)):=by
 have c:=rraw_loop (m0:=m0) (m1:=m1) (n:=n) hl p ws 0 (sealB (zeros 252)) rfl
 rw [raw_hom] at c
 refine e20_run _ _ _ _ _ ?_ ⟨_,_,c,by kernel_rfl⟩
 unfold e20
 rw [decide_eq_false (by omega),cond_false,decide_eq_false (by rw [blank_len];omega),cond_false,gd_of (by simpa using hp),gd_of (decide_eq_true (by rw [blank_len];omega)),Nat.zero_add,blank_get (by omega),kS_mk];rfl
theorem rread_ok (hl:ws.length<=100000) (hw:wsOk ws) (p:Int) (hp:0<=p) (hn:p < (n:Int)):icC qcfg ⟨true,false⟩ 48 [.ptr 2 0 0,.int .i64 p] (rdm m0 m1 (blank n) (wsV ws))=some (mk48 (cont ws p,0,m0,m1,blank n,wsV ws)):=by
 refine e48_run _ _ _ _ _ (o:=.doneM (.tup [.str (cont ws p),.int .i64 0]) (rdm m0 m1 (blank n) (wsV ws))) ?_ (.done (by kernel_rfl))
 unfold e48
 rw [decide_eq_false (by omega),cond_false,decide_eq_false (by rw [blank_len];omega),cond_false,icM_of mk20_inj (rraw_ok hl p hp hn)]
 dsimp only
 rw [pcK_of (ropen_ok (cont_len hw p)),d57_mk]
theorem rwrite_ok (hl:ws.length<=100000) (p:Int) (s:Bs) (hp:0<=p) (hn:p < (n:Int)) (hs:s.length=252):icC qcfg ⟨false,false⟩ 70 [.ptr 2 0 0,.int .i64 p,.str s] (rdm m0 m1 (blank n) (wsV ws))=some (mk70 (0,m0,m1,blank n,wsV (ws++[(p,s)]))):=by
 have hpw:padW s=s:=by unfold padW;rw [hs];simp [zeros]
 have hws:wsV (ws++[(p,s)])=wsV ws++[.agg [.int .i64 p,.str (sealB s)]]:=by simp [wsV,wV]
 rw [hws]
 refine e70_run _ _ _ _ _ _ (o:=.doneM (.int .i64 0) ?m1) ?h1 (.done ?n1)
 case h1 =>
  unfold e70
  rw [decide_eq_false (by omega),cond_false,decide_eq_false (by rw [blank_len];omega),cond_false,pcK_of (rseal_ok s (by unfold small;omega)),d57_mk]
  unfold sealE
  rw [if_neg (by omega),hpw]
  dsimp only
  rw [bne_self_eq_false,cond_false,gd_of (decide_eq_true (by rw [wsV_len];simp;omega))]
 case n1=>kernel_rfl
theorem rdirty_loop (hl:ws.length<=100000):∀(r:Ws) (k:Nat),ws.drop k=r ->
  Go qk true 5 fa18 (.head 0 (T18_0 (k:Int) m0 m1 (blank n) (wsV ws) (ints ((ws.take k).map (·.1))))) (.doneM (.own 6) (rdm m0 m1 (blank n) (wsV ws)++[.row 3 [] 0,.row 3 (ints (ws.map (·.1))) 0]))
 | [],k,h=>by
  have h0:=List.drop_eq_nil_iff.1 h
  refine s18_0_run _ _ _ _ _ _ ?_ (.refl _)
  unfold s18_0
  rw [decide_eq_false (by rw [wsV_len];omega),cond_false,List.take_of_length_le (by omega)];rfl
 | w::r,k,h=>by
  obtain ⟨h1,h2,h3⟩:=drop_cons h
  have go:=rdirty_loop hl r (k+1) h3
  rw [List.take_add_one,h2,Option.toList_some,List.map_append,List.map_cons,List.map_nil,ints_app] at go
  refine s18_0_run _ _ _ _ _ _ ?_ go
  unfold s18_0
  rw [decide_eq_true (by rw [wsV_len];omega),cond_true,gd_of (by simp),gd_of (decide_eq_true (by rw [wsV_len];exact h1)),wsV_get (by rw [Nat.zero_add];exact h2),dWr,gd_of (decide_eq_true (by rw [ints_len];simp;omega)),wi k (by omega)]
  rfl
theorem rdirty_ok (hl:ws.length<=100000):∃row:List V,row.take ws.length=ints (ws.map (·.1))/\row.length=ws.length/\icC qcfg ⟨true,true⟩ 18 [.ptr 2 0 0] (rdm m0 m1 (blank n) (wsV ws))=some (mk18 (ws.length,m0,m1,blank n,wsV ws,row)):=by
 have hlen:(ints (ws.map (·.1))).length=ws.length:=by rw [ints_len,List.length_map]
 refine ⟨ints (ws.map (·.1)),by rw [List.take_of_length_le (by omega)],hlen,?_⟩
 rw [<-hlen]
 exact e18_run _ _ _ _ rfl ⟨_,_,rdirty_loop hl ws 0 rfl,by kernel_rfl⟩
theorem rnew_loop (hn:n<=1024):∀(d k:Nat),k+d=n ->
  Go qk true 2 fa5 (.head 0 (T5_0 (n:Int) (sealB (zeros 252)) (k:Int) m0 m1 (blank k))) (.doneM (.tup [.ptr 2 0 0,.int .i64 0]) (rdm m0 m1 (blank n) []))
 | 0,k,h=>by
  have:k=n:=by omega
  subst this
  refine s5_0_run _ _ _ _ _ _ ?_ (.refl _)
  unfold s5_0
  rw [decide_eq_false (by omega),cond_false]
 | d+1,k,h=>by
  have e1:blank k++[V.str (sealB (zeros 252))]=blank (k+1):=by unfold blank;rw [List.replicate_succ']
  refine s5_0_run _ _ _ _ _ _ ?_ (rnew_loop hn d (k+1) (by omega))
  unfold s5_0
  rw [decide_eq_true (by omega),cond_true,gd_of (decide_eq_true (by rw [blank_len];simp;omega)),e1,wi k (by omega)]
theorem rnew_ok (h1:1<=n) (hn:n<=1024):icC qcfg ⟨true,false⟩ 5 [.int .i64 (n:Int)] [.arena 71 m0,.arena 74 m1]=some (mk5 (0,m0,m1,blank n,[])):=by
 refine e5_run _ _ _ ?_ ⟨_,_,rnew_loop (m0:=m0) (m1:=m1) hn n 0 (by omega),by kernel_rfl⟩
 unfold e5
 rw [decide_eq_false (by omega),cond_false,decide_eq_false (by omega),cond_false,pcK_of (rseal_ok [] (by decide)),d57_mk]
 rfl
end
def rplV (x:Pg):V:=.agg [.int .i64 x.page,.str x.s,.int .i64 x.pins,.bool x.dirty,.int .i64 x.first,.int .i64 x.last]
theorem dRp (x:Pg) (k:Int->Bs->Int->Bool->Int->Int->R):d74 (rplV x) k=k x.page x.s x.pins x.dirty x.first x.last:=rfl
theorem dRv (a:Int) (b:Bs) (c:Int) (d:Bool) (e f:Int) (k:Int->Bs->Int->Bool->Int->Int->R):d74 (.agg [.int .i64 a,.str b,.int .i64 c,.bool d,.int .i64 e,.int .i64 f]) k=k a b c d e f:=rfl
structure RRep (a1:List V) (iy:Int->Nat) (L:List Pg):Prop where
 nd:(pgs L).Nodup
 at_:∀x∈L,a1[iy x.page]? = some (rplV x)
 inj:∀x∈L,∀y∈L,iy x.page=iy y.page->x.page=y.page
def rowL (iy:Int->Nat) (L:List Pg):List V:=L.map fun x=>.hp 74 (iy x.page) 0
theorem rowL_len (iy:Int->Nat) (L:List Pg):(rowL iy L).length=L.length:=by simp [rowL]
theorem rowL_get {iy:Int->Nat} {L:List Pg} {k:Nat} {x:Pg} (h:L[k]? = some x) (q:V->R):idxK (rowL iy L) k q=q (.hp 74 (iy x.page) 0):=idxK_of (by unfold rowL;rw [List.getElem?_map,h];rfl)
abbrev rpm (a0 a1:List V) (pl sure:Int) (row l w:List V):List O:=[.arena 71 a0,.arena 74 a1,.box 64 (.agg [.ptr 3 0 0,.int .i64 pl,.int .i64 sure,.tail 4 0]) false,.box 56 (.agg [.tail 5 0,.tail 6 0]) false,.row 75 row 0,.row 9 l 0,.row 85 w 0]
section
variable {a0 a1:List V} {iy:Int->Nat} {L:List Pg} {pl sure:Int} {l w:List V} {p:Int}
theorem RRep.ax (h:RRep a1 iy L) {x:Pg} (hx:x∈L) (k:V->R):idxK a1 (iy x.page) k=k (rplV x):=idxK_of (h.at_ x hx)
theorem find_ix:∀(L:List Pg) (k:Nat),(findP L p=none/\idxF (fun x:Pg=>x.page==p) k L = -1)∨∃(j:Nat) (x:Pg),findP L p=some x/\L[j]? = some x/\x.page=p/\idxF (fun x:Pg=>x.page==p) k L=((k+j:Nat):Int)
 | [],k=>.inl ⟨rfl,rfl⟩
 | y::L,k=>by
  unfold findP idxF
  rw [List.find?_cons]
  cases hy:y.page==p with
  | true=>exact .inr ⟨0,y,rfl,rfl,by simpa using hy,rfl⟩
  | false =>
   rcases find_ix L (k+1) with ⟨h1,h2⟩ | ⟨j,x,h1,h2,h3,h4⟩
   ·exact .inl ⟨h1,by rw [if_neg (by simp)];exact h2⟩
   ·refine .inr ⟨j+1,x,h1,by simpa using h2,h3,?_⟩
    rw [if_neg (by simp),h4];congr 1;omega
def findI (L:List Pg) (p:Int):Int:=idxF (fun x:Pg=>x.page==p) 0 L
theorem findI_none (h:findP L p=none):findI L p = -1:=by
 rcases find_ix (p:=p) L 0 with ⟨_,h2⟩ | ⟨j,x,h1,_⟩
 ·exact h2
 ·rw [h] at h1;cases h1
theorem findI_some {x:Pg} (h:findP L p=some x):∃j:Nat,findI L p=(j:Int)/\L[j]? = some x/\x.page=p/\x∈L:=by
 rcases find_ix (p:=p) L 0 with ⟨h1,_⟩ | ⟨j,y,h1,h2,h3,h4⟩
 ·rw [h] at h1;cases h1
 ·rw [h] at h1;cases h1
  exact ⟨j,by unfold findI;rw [h4,Nat.zero_add],h2,h3,List.mem_of_getElem? h2⟩
theorem rfind_loop (h:RRep a1 iy L) (hL:L.length<=100000) (p:Int):∀(r:List Pg) (k:Nat),L.drop k=r ->
  Go qk true 7 fa34 (.head 0 (T34_0 p (k:Int) a0 a1 pl sure (rowL iy L) l w)) (.doneM (.int .i64 (idxF (fun x:Pg=>x.page==p) k r)) (rpm a0 a1 pl sure (rowL iy L) l w))
 | [],k,e=>by
  have h0:=List.drop_eq_nil_iff.1 e
  refine s34_0_run _ _ _ _ _ _ _ _ _ ?_ (.refl _)
  unfold s34_0
  rw [decide_eq_false (by rw [rowL_len];omega),cond_false];rfl
 | x::r,k,e=>by
  obtain ⟨h1,h2,h3⟩:=drop_cons e
  have hx:=List.mem_of_getElem? h2
  unfold idxF
  cases hp:x.page==p with
  | true =>
   refine s34_0_run _ _ _ _ _ _ _ _ _ ?_ (.refl _)
   unfold s34_0
   rw [decide_eq_true (by rw [rowL_len];omega),cond_true,gd_of (by simp),gd_of (decide_eq_true (by rw [rowL_len];exact h1)),rowL_get (by rw [Nat.zero_add];exact h2),kP_mk,h.ax hx,dRp,hp];rfl
  | false =>
   refine s34_0_run _ _ _ _ _ _ _ _ _ ?_ (rfind_loop h hL p r (k+1) h3)
   unfold s34_0
   rw [decide_eq_true (by rw [rowL_len];omega),cond_true,gd_of (by simp),gd_of (decide_eq_true (by rw [rowL_len];exact h1)),rowL_get (by rw [Nat.zero_add];exact h2),kP_mk,h.ax hx,dRp,hp,cond_false,wi k (by omega)]
theorem rfind_ok (h:RRep a1 iy L) (hL:L.length<=100000) (p:Int):icC qcfg ⟨true,false⟩ 34 [.ptr 2 0 0,.int .i64 p] (rpm a0 a1 pl sure (rowL iy L) l w)=some (mk34 (rpm a0 a1 pl sure (rowL iy L) l w) (findI L p)) :=
 e34_run _ _ _ _ _ _ _ _ rfl ⟨_,_,rfind_loop h hL p L 0 rfl,by kernel_rfl⟩
theorem fK (h:RRep a1 iy L) (hL:L.length<=100000) (p:Int) (q:Int->R):icR qcfg ⟨true,false⟩ mk34 34 [.ptr 2 0 0,.int .i64 p] (rpm a0 a1 pl sure (rowL iy L) l w) q=q (findI L p):=icR_of mk34_inj (rfind_ok h hL p)
theorem rpins_ok (h:RRep a1 iy L) (hL:L.length<=100000) (p:Int):icC qcfg ⟨true,false⟩ 16 [.ptr 2 0 0,.int .i64 p] (rpm a0 a1 pl sure (rowL iy L) l w)=some (mk16 (((findP L p).map Pg.pins).getD 0,a0,a1,pl,sure,rowL iy L,l,w)):=by
 refine e16_run _ _ _ _ _ _ _ _ (o:=.doneM (.int .i64 (((findP L p).map Pg.pins).getD 0)) (rpm a0 a1 pl sure (rowL iy L) l w)) ?_ (.done (by kernel_rfl))
 unfold e16
 rw [fK h hL,gdS_eq]
 cases hf:findP L p with
 | none=>rw [findI_none hf];rfl
 | some x =>
  obtain ⟨j,e1,e2,e3,e4⟩:=findI_some hf
  rw [e1,decide_eq_false (by omega),cond_false,gd_of (by simp),gd_of (decide_eq_true (by rw [rowL_len];exact (List.getElem?_eq_some_iff.1 e2).1)),rowL_get (by rw [Nat.zero_add];exact e2),kP_mk,h.ax e4,dRp];rfl
def inB (L:List Pg) (dirty:Bool) (p:Int):Bool:=match findP L p with | some x=>!dirty || x.dirty | none=>false
def pagesR (L:List Pg) (n:Nat) (dirty:Bool):List Int:=((List.range n).map fun k:Nat=>(k:Int)).filter (inB L dirty)
theorem pagesR_succ (L:List Pg) (n:Nat) (dirty:Bool):pagesR L (n+1) dirty=pagesR L n dirty++(if inB L dirty (n:Int) then [(n:Int)] else []):=by
 unfold pagesR
 rw [List.range_succ,List.map_append,List.filter_append]
 congr 1
 rw [List.map_cons,List.map_nil,List.filter_cons]
 split<;>rfl
theorem pagesR_len (L:List Pg) (n:Nat) (dirty:Bool):(pagesR L n dirty).length<=n:=by
 unfold pagesR
 refine Nat.le_trans (List.length_filter_le _ _) ?_
 simp
theorem rpages_loop (h:RRep a1 iy L) (hL:L.length<=100000) (dirty:Bool) (n:Nat) (hn:n<=100000):∀(d k:Nat),k+d=n ->
  Go qk true 7 fa13 (.head 0 (T13_0 dirty (k:Int) a0 a1 pl sure (rowL iy L) (blank n) w (ints (pagesR L k dirty)))) (.doneM (.own 8) (rpm a0 a1 pl sure (rowL iy L) (blank n) w++[.row 3 [] 0,.row 3 (ints (pagesR L n dirty)) 0]))
 | 0,k,e=>by
  have:k=n:=by omega
  subst this
  refine s13_0_run _ _ _ _ _ _ _ _ _ _ ?_ (.refl _)
  unfold s13_0
  rw [decide_eq_false (by rw [blank_len];omega),cond_false];rfl
 | d+1,k,e=>by
  have go:=rpages_loop h hL dirty n hn d (k+1) (by omega)
  rw [pagesR_succ] at go
  have hlen:=pagesR_len L k dirty
  have hg:gd (decide ((ints (pagesR L k dirty)).length+([V.int .i64 (k:Int)]:List V).length<=16777216))=fun q=>q:=by funext q;exact gd_of (decide_eq_true (by rw [ints_len];simp;omega))
  have hi:ints (pagesR L k dirty)++[V.int .i64 (k:Int)]=ints (pagesR L k dirty++[(k:Int)]):=by rw [ints_app];rfl
  refine s13_0_run _ _ _ _ _ _ _ _ _ _ ?_ go
  unfold s13_0
  rw [decide_eq_true (by rw [blank_len];omega),cond_true,fK h hL,gdS_eq]
  unfold inB
  cases hf:findP L (k:Int) with
  | none=>rw [findI_none hf,decide_eq_false (by omega),cond_false,wi k (by omega)];simp
  | some x =>
   obtain ⟨j,e1,e2,e3,e4⟩:=findI_some hf
   rw [e1,decide_eq_true (by omega),cond_true]
   cases dirty with
   | false=>rw [Bool.not_false,cond_true,hg,hi,wi k (by omega)];simp
   | true =>
    rw [Bool.not_true,cond_false,gd_of (by simp),gd_of (decide_eq_true (by rw [rowL_len];exact (List.getElem?_eq_some_iff.1 e2).1)),rowL_get (by rw [Nat.zero_add];exact e2),kP_mk,h.ax e4,dRp,hg,hi,wi k (by omega)]
    cases hd:x.dirty<;>simp [hd]
theorem rpages_ok (h:RRep a1 iy L) (hL:L.length<=100000) (dirty:Bool) (n:Nat) (hn:n<=100000):icC qcfg ⟨true,true⟩ 13 [.ptr 2 0 0,.bool dirty] (rpm a0 a1 pl sure (rowL iy L) (blank n) w)=some (mk13 ((ints (pagesR L n dirty)).length,a0,a1,pl,sure,rowL iy L,blank n,w,ints (pagesR L n dirty))) :=
 e13_run _ _ _ _ _ _ _ _ rfl ⟨_,_,rpages_loop h hL dirty n hn n 0 (by omega),by kernel_rfl⟩
def leastR:List Pg->Int × Bool->Int × Bool
 | [],s=>s
 | x::L,s=>leastR L (if x.dirty && (!s.2 || decide (x.first < s.1)) then (x.first,true) else s)
theorem rleast_loop (h:RRep a1 iy L) (hL:L.length<=100000):∀(r:List Pg) (k:Nat) (s:Int × Bool),L.drop k=r ->
  Go qk true 7 fa10 (.head 0 (T10_0 s.1 s.2 (k:Int) a0 a1 pl sure (rowL iy L) l w)) (.doneM (.tup [.int .i64 (leastR r s).1,.bool (leastR r s).2]) (rpm a0 a1 pl sure (rowL iy L) l w))
 | [],k,s,e=>by
  have h0:=List.drop_eq_nil_iff.1 e
  refine s10_0_run _ _ _ _ _ _ _ _ _ _ ?_ (.refl _)
  unfold s10_0
  rw [decide_eq_false (by rw [rowL_len];omega),cond_false];rfl
 | x::r,k,s,e=>by
  obtain ⟨h1,h2,h3⟩:=drop_cons e
  have hx:=List.mem_of_getElem? h2
  refine s10_0_run _ _ _ _ _ _ _ _ _ _ ?_ (rleast_loop h hL r (k+1) (if x.dirty && (!s.2 || decide (x.first < s.1)) then (x.first,true) else s) h3)
  have hg:gd (decide (0<=(k:Int)))=fun q=>q:=by funext q;exact gd_of (by simp)
  have hg2:gd (decide (((k:Int)).toNat < (rowL iy L).length))=fun q=>q:=by funext q;exact gd_of (decide_eq_true (by rw [rowL_len];exact h1))
  have hr:idxK (rowL iy L) (0+((k:Int)).toNat)=fun q=>q (.hp 74 (iy x.page) 0):=by funext q;exact rowL_get (by rw [Nat.zero_add];exact h2) q
  have ha:idxK a1 (iy x.page)=fun q=>q (rplV x):=by funext q;exact h.ax hx q
  unfold s10_0
  rw [decide_eq_true (by rw [rowL_len];omega),cond_true]
  simp only [hg,hg2,hr,kP_mk,ha,dRp,wi k (by omega)]
  cases hd:x.dirty<;>cases hs:s.2<;>cases hlt:decide (x.first < s.1)<;>simp [hd,hs,hlt]
theorem rleast_ok (h:RRep a1 iy L) (hL:L.length<=100000):icC qcfg ⟨true,false⟩ 10 [.ptr 2 0 0] (rpm a0 a1 pl sure (rowL iy L) l w)=some (mk10 ((leastR L (0,false)).1,(leastR L (0,false)).2,a0,a1,pl,sure,rowL iy L,l,w)) :=
 e10_run _ _ _ _ _ _ _ rfl ⟨_,_,rleast_loop h hL L 0 (0,false) rfl,by kernel_rfl⟩
end
section
variable {a0 a1:List V} {iy:Int->Nat} {L:List Pg} {pl sure:Int} {l w:List V} {p:Int} {n:Nat} {ws:Ws}
theorem RRep.lt (h:RRep a1 iy L) {x:Pg} (hx:x∈L):iy x.page < a1.length:=(List.getElem?_eq_some_iff.1 (h.at_ x hx)).1
theorem RRep.sx (h:RRep a1 iy L) {x:Pg} (hx:x∈L) (v:V) (k:V->R):idxK (a1.set (iy x.page) v) (iy x.page) k=k v:=idxK_of (by simp [h.lt hx])
theorem sx1 {a:List V} {i:Nat} (h:i < a.length) (v:V) (k:V->R):idxK (a.set i v) i k=k v:=idxK_of (by simp [h])
theorem RRep.set (h:RRep a1 iy L) {x x':Pg} (hx:x∈L) (hp:x'.page=x.page) {L2:List Pg} (h1:(pgs L2).Perm (pgs L)) (h2:∀y∈L2,y=x'∨(y∈L/\y.page≠x.page)):RRep (a1.set (iy x.page) (rplV x')) iy L2:=by
 have hin:∀y∈L2,∃z∈L,z.page=y.page:=fun y hy=>by
  rcases h2 y hy with rfl | ⟨h3,_⟩
  ·exact ⟨x,hx,hp.symm⟩
  ·exact ⟨y,h3,rfl⟩
 refine ⟨h1.nodup_iff.2 h.nd,fun y hy=>?_,fun y hy z hz e=>?_⟩
 ·rcases h2 y hy with rfl | ⟨h3,h4⟩
  ·rw [hp];simp [h.lt hx]
  ·rw [List.getElem?_set_ne (fun e=>h4 (h.inj y h3 x hx e.symm))];exact h.at_ y h3
 ·obtain ⟨y',hy',ey⟩:=hin y hy
  obtain ⟨z',hz',ez⟩:=hin z hz
  rw [<-ey,<-ez] at e |-
  exact h.inj y' hy' z' hz' e
theorem RRep.upd (h:RRep a1 iy L) {x:Pg} (hx:x∈L) {f:Pg->Pg} (hf:∀y,(f y).page=y.page):RRep (a1.set (iy x.page) (rplV (f x))) iy (updP L x.page f):=by
 refine h.set hx (hf x) (by rw [pgs_upd hf]) fun y hy=>?_
 obtain ⟨z,hz,rfl⟩:=List.mem_map.1 hy
 by_cases e:z.page=x.page
 ·have:z=x:=by
   have h1:=findP_of h.nd hz
   have h2:=findP_of h.nd hx
   rw [e,h2] at h1;cases h1;rfl
  subst this
  exact .inl (if_pos rfl)
 ·rw [if_neg e];exact .inr ⟨hz,e⟩
theorem RRep.sub (h:RRep a1 iy L) {L2:List Pg} (h1:(pgs L2).Nodup) (h2:∀x∈L2,x∈L):RRep a1 iy L2:=⟨h1,fun x hx=>h.at_ x (h2 x hx),fun x hx y hy=>h.inj x (h2 x hx) y (h2 y hy)⟩
theorem RRep.ext (h:RRep a1 iy L) (v:V):RRep (a1++[v]) iy L:=⟨h.nd,fun x hx=>by rw [List.getElem?_append_left (h.lt hx)];exact h.at_ x hx,h.inj⟩
theorem rowL_pgs (iy:Int->Nat) {L L2:List Pg} (h:pgs L2=pgs L):rowL iy L2=rowL iy L:=by
 have:∀L:List Pg,rowL iy L=(pgs L).map fun p=>.hp 74 (iy p) 0:=fun L=>by simp [rowL,pgs]
 rw [this,this,h]
theorem rowL_app (iy:Int->Nat) (A B:List Pg):rowL iy (A++B)=rowL iy A++rowL iy B:=by simp [rowL]
theorem rowL_wfl (iy:Int->Nat) (L:List Pg):wfl 1 (rowL iy L)=true:=wfl_map fun _=>rfl
theorem runpin_ok (h:RRep a1 iy L) (hL:L.length<=100000) (p:Int):∃a1',RRep a1' iy (if heldE L p=0 then updP L p fun y=>{ y with pins:=W .i64 (y.pins - 1) } else L) /\
  icC qcfg ⟨true,false⟩ 26 [.ptr 2 0 0,.int .i64 p] (rpm a0 a1 pl sure (rowL iy L) l w)=some (mk26 (heldE L p,a0,a1',pl,sure,rowL iy L,l,w)):=by
 cases hf:findP L p with
 | none =>
  have hE:heldE L p=7:=by unfold heldE;rw [hf]
  rw [if_neg (show ¬heldE L p=0 by rw [hE];decide),hE]
  refine ⟨a1,h,e26_run _ _ _ _ _ _ _ _ (o:=.doneM (.int .i64 7) (rpm a0 a1 pl sure (rowL iy L) l w)) ?_ (.done (by kernel_rfl))⟩
  unfold e26
  rw [fK h hL,gdS_eq,findI_none hf];rfl
 | some x =>
  obtain ⟨j,e1,e2,e3,e4⟩:=findI_some hf
  have hj:=(List.getElem?_eq_some_iff.1 e2).1
  subst e3
  by_cases hp:x.pins=0
  ·have hE:heldE L x.page=9:=by unfold heldE;rw [hf];exact if_pos hp
   rw [if_neg (show ¬heldE L x.page=0 by rw [hE];decide),hE]
   refine ⟨a1,h,e26_run _ _ _ _ _ _ _ _ (o:=.doneM (.int .i64 9) (rpm a0 a1 pl sure (rowL iy L) l w)) ?_ (.done (by kernel_rfl))⟩
   unfold e26
   rw [fK h hL,gdS_eq,e1,decide_eq_false (by omega),cond_false,gd_of (by simp),gd_of (decide_eq_true (by rw [rowL_len];exact hj)),rowL_get (by rw [Nat.zero_add];exact e2),kP_mk,h.ax e4,dRp,ibeq_t hp,cond_true]
  ·have hE:heldE L x.page=0:=by unfold heldE;rw [hf];exact if_neg hp
   rw [if_pos hE,hE]
   refine ⟨_,h.upd e4 (f:=fun y=>{ y with pins:=W .i64 (y.pins - 1) }) fun _=>rfl,e26_run _ _ _ _ _ _ _ _ (o:=.doneM (.int .i64 0) (rpm a0 (a1.set (iy x.page) (rplV { x with pins:=W .i64 (x.pins - 1) })) pl sure (rowL iy L) l w)) ?_ (.done (by kernel_rfl))⟩
   unfold e26
   rw [fK h hL,gdS_eq,e1,decide_eq_false (by omega),cond_false,gd_of (by simp),gd_of (decide_eq_true (by rw [rowL_len];exact hj)),rowL_get (by rw [Nat.zero_add];exact e2),kP_mk,h.ax e4,dRp,ibeq_f hp,cond_false,fK h hL,gdS_eq,e1,gd_of (by simp),gd_of (decide_eq_true (by rw [rowL_len];exact hj)),rowL_get (by rw [Nat.zero_add];exact e2),kP_mk,h.ax e4,dRp,h.ax e4,dRp]
   rfl
theorem rput_ok (h:RRep a1 iy L) (hL:L.length<=100000) (p:Int) (s:Bs) (lsn:Int):∃a1',RRep a1' iy (if putE L p s lsn=0 then updP L p (putX s lsn) else L) /\
  icC qcfg ⟨true,false⟩ 28 [.ptr 2 0 0,.int .i64 p,.str s,.int .i64 lsn] (rpm a0 a1 pl sure (rowL iy L) l w)=some (mk28 (putE L p s lsn,a0,a1',pl,sure,rowL iy L,l,w)):=by
 cases hf:findP L p with
 | none =>
  have hH:heldE L p=7:=by unfold heldE;rw [hf]
  have hE:putE L p s lsn=7:=by unfold putE;rw [if_neg (by rw [hH];decide),hH]
  rw [if_neg (show ¬putE L p s lsn=0 by rw [hE];decide),hE]
  refine ⟨a1,h,e28_run _ _ _ _ _ _ _ _ _ _ (o:=.doneM (.int .i64 7) (rpm a0 a1 pl sure (rowL iy L) l w)) ?_ (.done (by kernel_rfl))⟩
  unfold e28
  rw [fK h hL,gdS_eq,findI_none hf];rfl
 | some x =>
  obtain ⟨j,e1,e2,e3,e4⟩:=findI_some hf
  have hj:=(List.getElem?_eq_some_iff.1 e2).1
  subst e3
  by_cases hp:x.pins=0
  ·have hH:heldE L x.page=9:=by unfold heldE;rw [hf];exact if_pos hp
   have hE:putE L x.page s lsn=9:=by unfold putE;rw [if_neg (by rw [hH];decide),hH]
   rw [if_neg (show ¬putE L x.page s lsn=0 by rw [hE];decide),hE]
   refine ⟨a1,h,e28_run _ _ _ _ _ _ _ _ _ _ (o:=.doneM (.int .i64 9) (rpm a0 a1 pl sure (rowL iy L) l w)) ?_ (.done (by kernel_rfl))⟩
   unfold e28
   rw [fK h hL,gdS_eq,e1,decide_eq_false (by omega),cond_false,gd_of (by simp),gd_of (decide_eq_true (by rw [rowL_len];exact hj)),rowL_get (by rw [Nat.zero_add];exact e2),kP_mk,h.ax e4,dRp,ibeq_t hp,cond_true]
  have hH:heldE L x.page=0:=by unfold heldE;rw [hf];exact if_neg hp
  have hP:putE L x.page s lsn=if 252 < s.length then 2 else if lsn < 1 then 1 else if lsn < x.last then 1 else 0:=by unfold putE;rw [if_pos hH,hf]
  by_cases hs:252 < s.length
  ·rw [if_pos hs] at hP
   rw [if_neg (show ¬putE L x.page s lsn=0 by rw [hP];decide),hP]
   refine ⟨a1,h,e28_run _ _ _ _ _ _ _ _ _ _ (o:=.doneM (.int .i64 2) (rpm a0 a1 pl sure (rowL iy L) l w)) ?_ (.done (by kernel_rfl))⟩
   unfold e28
   rw [fK h hL,gdS_eq,e1,decide_eq_false (by omega),cond_false,gd_of (by simp),gd_of (decide_eq_true (by rw [rowL_len];exact hj)),rowL_get (by rw [Nat.zero_add];exact e2),kP_mk,h.ax e4,dRp,ibeq_f hp,cond_false,decide_eq_true (show (s.length:Int) > 252 by omega),cond_true]
  rw [if_neg hs] at hP
  by_cases h1:lsn < 1
  ·rw [if_pos h1] at hP
   rw [if_neg (show ¬putE L x.page s lsn=0 by rw [hP];decide),hP]
   refine ⟨a1,h,e28_run _ _ _ _ _ _ _ _ _ _ (o:=.doneM (.int .i64 1) (rpm a0 a1 pl sure (rowL iy L) l w)) ?_ (.done (by kernel_rfl))⟩
   unfold e28
   rw [fK h hL,gdS_eq,e1,decide_eq_false (by omega),cond_false,gd_of (by simp),gd_of (decide_eq_true (by rw [rowL_len];exact hj)),rowL_get (by rw [Nat.zero_add];exact e2),kP_mk,h.ax e4,dRp,ibeq_f hp,cond_false,decide_eq_false (show ¬(s.length:Int) > 252 by omega),cond_false,fK h hL,gdS_eq,e1,gd_of (by simp),gd_of (decide_eq_true (by rw [rowL_len];exact hj)),rowL_get (by rw [Nat.zero_add];exact e2),kP_mk,decide_eq_true h1,cond_true]
  rw [if_neg h1] at hP
  by_cases h2:lsn < x.last
  ·rw [if_pos h2] at hP
   rw [if_neg (show ¬putE L x.page s lsn=0 by rw [hP];decide),hP]
   refine ⟨a1,h,e28_run _ _ _ _ _ _ _ _ _ _ (o:=.doneM (.int .i64 1) (rpm a0 a1 pl sure (rowL iy L) l w)) ?_ (.done (by kernel_rfl))⟩
   unfold e28
   rw [fK h hL,gdS_eq,e1,decide_eq_false (by omega),cond_false,gd_of (by simp),gd_of (decide_eq_true (by rw [rowL_len];exact hj)),rowL_get (by rw [Nat.zero_add];exact e2),kP_mk,h.ax e4,dRp,ibeq_f hp,cond_false,decide_eq_false (show ¬(s.length:Int) > 252 by omega),cond_false,fK h hL,gdS_eq,e1,gd_of (by simp),gd_of (decide_eq_true (by rw [rowL_len];exact hj)),rowL_get (by rw [Nat.zero_add];exact e2),kP_mk,decide_eq_false h1,cond_false,h.ax e4,dRp,decide_eq_true h2,cond_true]
  rw [if_neg h2] at hP
  rw [if_pos hP,hP]
  have hpad:=padR_ok s 252 (by unfold small;omega)
  rw [padB_252 (by omega)] at hpad
  have hlt:=h.lt e4
  refine ⟨_,h.upd e4 (f:=putX s lsn) fun _=>rfl,e28_run _ _ _ _ _ _ _ _ _ _ (o:=.doneM (.int .i64 0) (rpm a0 (a1.set (iy x.page) (rplV (putX s lsn x))) pl sure (rowL iy L) l w)) ?_ (.done (by kernel_rfl))⟩
  unfold e28
  rw [fK h hL,gdS_eq,e1,decide_eq_false (by omega),cond_false,gd_of (by simp),gd_of (decide_eq_true (by rw [rowL_len];exact hj)),rowL_get (by rw [Nat.zero_add];exact e2),kP_mk,h.ax e4,dRp,ibeq_f hp,cond_false,decide_eq_false (show ¬(s.length:Int) > 252 by omega),cond_false,fK h hL,gdS_eq,e1,gd_of (by simp),gd_of (decide_eq_true (by rw [rowL_len];exact hj)),rowL_get (by rw [Nat.zero_add];exact e2),kP_mk,decide_eq_false h1,cond_false,h.ax e4,dRp,decide_eq_false h2,cond_false,h.ax e4,dRp]
  cases hd:x.dirty with
  | false =>
   rw [Bool.not_false,cond_true,h.ax e4,dRp,pcK_of hpad,d57_mk,sx1 hlt,dRv,List.set_set,sx1 hlt,dRv,List.set_set,sx1 hlt,dRv,List.set_set]
   simp only [putX,hd,rplV];rfl
  | true =>
   rw [Bool.not_true,cond_false,pcK_of hpad,d57_mk,h.ax e4,dRp,sx1 hlt,dRv,List.set_set,sx1 hlt,dRv,List.set_set]
   simp only [putX,hd,rplV];rfl
theorem cutG (row:List V) (hw:wfl 1 row=true) (hl:row.length<=100000) (k:Nat) (hk:k < row.length) (q:R) :
  (gd (wfl 1 row)<|gd (decide (0<=(k:Int)))<|gd (decide ((k:Int).toNat<=row.length))<|gd (decide ((0+0)+((k:Int).toNat - 0)<=row.length))<|gd (wfl 1 ((row.drop (0+0)).take ((k:Int).toNat - 0))) <|
   gd (decide (0+((row.drop (0+0)).take ((k:Int).toNat - 0)).length<=16777216))<|gd (wfl 1 row)<|gd (decide (0<=Lite.W .i64 ((k:Int)+1)))<|gd (decide ((Lite.W .i64 ((k:Int)+1)).toNat<=row.length)) <|
   gd (wfl 1 (row.drop (0+((Lite.W .i64 ((k:Int)+1)).toNat))))<|gd (decide (((row.drop (0+0)).take ((k:Int).toNat - 0)).length+(row.drop (0+((Lite.W .i64 ((k:Int)+1)).toNat))).length<=16777216)) q)=q:=by
 have sub:∀l:List V,(∀x∈l,x∈row)->wfl 1 l=true:=fun l h=>by
  unfold wfl at hw |-
  rw [List.all_eq_true] at hw |-
  exact fun x hx=>hw x (h x hx)
 have e1:((k:Int)).toNat=k:=rfl
 have e2:(Lite.W .i64 ((k:Int)+1)).toNat=k+1:=by rw [wi k (by omega)];rfl
 rw [e1,e2,gd_of hw,gd_of (by simp),gd_of (by simpa using Nat.le_of_lt hk),gd_of (by simpa using Nat.le_of_lt hk),gd_of (sub _ fun x hx=>List.mem_of_mem_drop (List.mem_of_mem_take hx)),gd_of (by simp;omega),gd_of hw,gd_of (by rw [wi k (by omega)];simp;omega),gd_of (decide_eq_true (Nat.succ_le_of_lt hk)),gd_of (sub _ fun x hx=>List.mem_of_mem_drop hx),gd_of (by simp;omega)]
theorem cutR (iy:Int->Nat) (pre post:List Pg) (c:Pg) (hl:pre.length<=100000):(((rowL iy (pre++c::post)).drop (0+0)).take (((pre.length:Nat):Int).toNat - 0))++(rowL iy (pre++c::post)).drop (0+((Lite.W .i64 (((pre.length:Nat):Int)+1)).toNat))=rowL iy (pre++post):=by
 rw [wi _ (by omega),show (((pre.length:Nat):Int)).toNat=pre.length from rfl,show (((pre.length+1:Nat):Int)).toNat=pre.length+1 from rfl,rowL_app,rowL_app,show rowL iy (c::post) = .hp 74 (iy c.page) 0::rowL iy post from rfl]
 have hlen:(rowL iy pre).length=pre.length:=rowL_len iy pre
 rw [Nat.zero_add,Nat.sub_zero,List.drop_zero,List.take_left' hlen,Nat.zero_add,List.drop_append,hlen,List.drop_eq_nil_of_le (by omega),List.nil_append,show pre.length+1 - pre.length=1 by omega]
 rfl
abbrev rfm (a0 a1:List V) (pl sure:Int) (row l w:List V):List O:=[.arena 71 a0,.arena 74 a1,.box 64 (.agg [.ptr 3 0 0,.int .i64 pl,.int .i64 sure,.tail 7 0]) false,.box 56 (.agg [.tail 8 0,.tail 9 0]) false,.dead,.dead,.dead,.row 75 row 0,.row 9 l 0,.row 85 w 0]
theorem RRep.off (h:RRep a1 iy L) {i:Nat} (hi:∀y∈L,iy y.page≠i) (v:V):RRep (a1.set i v) iy L :=
 ⟨h.nd,fun y hy=>by rw [List.getElem?_set_ne (fun e=>hi y hy e.symm)];exact h.at_ y hy,h.inj⟩
theorem RRep.cut (h:RRep a1 iy L) (p:Int):RRep a1 iy (cutP L p):=h.sub (by rw [pgs_cut];exact h.nd.filter _) fun x hx=>(List.mem_filter.1 hx).1
theorem rfree_loop (h:RRep a1 iy L) (hL:L.length<=100000) (hpl:¬(L.length:Int) < pl) (hb:∀x∈L,x.s.length=252) (hpg:∀x∈L,0<=x.page/\x.page < (n:Int)) (hw:ws.length<=90000):∀(r pre:List Pg),L=pre++r->(∀x∈pre,goesP sure x=false) ->
  ∃a1',(∀i,(∀x∈L,iy x.page≠i)->a1'[i]? = a1[i]?)/\RRep a1' iy ((freeS pl sure L ws).getD (L,ws)).1 /\
   GoN qk 7 fa49 ⟨false,false⟩ (rpm a0 a1 pl sure (rowL iy L) (blank n) (wsV ws)) (.head 0 (T49_0 (pre.length:Int) a0 a1 pl sure (rowL iy L) (blank n) (wsV ws)))
    (mk49 ((freeS pl sure L ws).isSome,a0,a1',pl,sure,rowL iy ((freeS pl sure L ws).getD (L,ws)).1,blank n,wsV ((freeS pl sure L ws).getD (L,ws)).2))
 | [],pre,e,hpre=>by
  rw [List.append_nil] at e
  have hf:freeS pl sure L ws=none:=by
   unfold freeS
   rw [if_neg hpl,List.find?_eq_none.2 fun x hx=>by rw [hpre x (e ▸ hx)];simp];rfl
  rw [hf]
  refine ⟨a1,fun _ _=>rfl,h,GoN.step (fun o'=>s49_0_run _ _ _ _ _ _ _ _ (o:=.doneM (.bool false) (rpm a0 a1 pl sure (rowL iy L) (blank n) (wsV ws))) ?_) (.done (by kernel_rfl))⟩
  unfold s49_0
  rw [decide_eq_false (by rw [rowL_len,e];omega),cond_false]
 | c::r,pre,e,hpre=>by
  have hcL:c∈L:=by rw [e];simp
  have hk:pre.length < (rowL iy L).length:=by rw [rowL_len,e];simp
  have hkl:pre.length<=100000:=by rw [rowL_len] at hk;omega
  have hrl:(rowL iy L).length<=100000:=by rw [rowL_len];exact hL
  have hget:L[pre.length]? = some c:=by rw [e,List.getElem?_append_right (Nat.le_refl _),Nat.sub_self];rfl
  have hgo:goesP sure c=(decide (c.pins=0) && (!c.dirty || decide (c.last<=sure))):=rfl
  have hax:=fun q:V->R=>h.ax hcL q
  have hcut:=cutR iy pre r c hkl
  rw [<-e] at hcut
  have hoffc:∀y∈cutP L c.page,iy y.page≠iy c.page:=fun y hy e1=>by
   obtain ⟨y1,y2⟩:=List.mem_filter.1 hy
   have:=h.inj y y1 c hcL e1
   simp [this] at y2
  have hgu:=fun q:R=>cutG (rowL iy L) (rowL_wfl iy L) hrl pre.length hk q
  by_cases hg:goesP sure c=true
  ·have hfind:=find_split e hpre hg
   have hcp:=cut_split h.nd e
   have hf:freeS pl sure L ws=some (cutP L c.page,if c.dirty then ws++[(c.page,c.s)] else ws):=by
    unfold freeS
    rw [if_neg hpl,hfind];rfl
   rw [hf]
   simp only [Option.getD_some,Option.isSome_some]
   rw [hgo,Bool.and_eq_true,decide_eq_true_eq] at hg
   obtain ⟨g1,g2⟩:=hg
   rw [hcp]
   have hcc:=h.cut c.page
   rw [hcp] at hcc hoffc
   cases hd:c.dirty with
   | false =>
    rw [if_neg (by simp)]
    refine ⟨a1,fun _ _=>rfl,hcc,GoN.step (fun o'=>s49_0_run _ _ _ _ _ _ _ _ (o:=.doneM (.bool true) [.arena 71 a0,.arena 74 a1,.box 64 (.agg [.ptr 3 0 0,.int .i64 pl,.int .i64 sure,.tail 7 0]) false,.box 56 (.agg [.tail 5 0,.tail 6 0]) false,.row 75 (rowL iy L) 0,.row 9 (blank n) 0,.row 85 (wsV ws) 0,.row 75 (rowL iy (pre++r)) 0]) ?h1) (.done ?n1)⟩
    case h1 =>
     unfold s49_0
     rw [decide_eq_true (by omega),cond_true,gd_of (by simp),gd_of (decide_eq_true (show ((pre.length:Nat):Int).toNat < (rowL iy L).length from hk)),rowL_get (by rw [Nat.zero_add];exact hget),kP_mk,hax,dRp,ibeq_t g1,cond_true,hax,dRp,hd,Bool.not_false,cond_true,hax,dRp,hd,cond_false,hgu,hcut]
    case n1=>kernel_rfl
   | true =>
    rw [if_pos rfl]
    rw [hd,Bool.not_true,Bool.false_or] at g2
    have hwr:=rwrite_ok (m0:=a0) (m1:=a1) (n:=n) (ws:=ws) (by omega) c.page c.s (hpg c hcL).1 (hpg c hcL).2 (hb c hcL)
    refine ⟨a1.set (iy c.page) (rplV { c with dirty:=false }),fun i hi=>by rw [List.getElem?_set_ne (hi c hcL)],hcc.off hoffc _,GoN.step (fun o'=>s49_0_run _ _ _ _ _ _ _ _ (o:=.doneM (.bool true) [.arena 71 a0,.arena 74 (a1.set (iy c.page) (rplV { c with dirty:=false })),.box 64 (.agg [.ptr 3 0 0,.int .i64 pl,.int .i64 sure,.tail 7 0]) false,.box 56 (.agg [.tail 8 0,.tail 9 0]) false,.row 75 (rowL iy L) 0,.dead,.dead,.row 75 (rowL iy (pre++r)) 0,.row 9 (blank n) 0,.row 85 (wsV (ws++[(c.page,c.s)])) 0]) ?h2) (.done ?n2)⟩
    case h2 =>
     unfold s49_0
     rw [decide_eq_true (by omega),cond_true,gd_of (by simp),gd_of (decide_eq_true (show ((pre.length:Nat):Int).toNat < (rowL iy L).length from hk)),rowL_get (by rw [Nat.zero_add];exact hget),kP_mk,hax,dRp,ibeq_t g1,cond_true,hax,dRp,hd,Bool.not_true,cond_false,hax,dRp,hd,cond_true,hax,dRp,g2,cond_true,hax,dRp,hd,cond_true,hax,dRp,hax,dRp,icM_of mk70_inj hwr]
     dsimp only
     rw [hax,dRp,hgu,hcut]
     rfl
    case n2=>kernel_rfl
  ·have hg':goesP sure c=false:=by simpa using hg
   have hpre':∀x∈pre++[c],goesP sure x=false:=fun x hx=>by
    rcases List.mem_append.1 hx with h1 | h1
    ·exact hpre x h1
    ·rw [List.mem_singleton.1 h1];exact hg'
   obtain ⟨a1',q1,q2,q3⟩:=rfree_loop h hL hpl hb hpg hw r (pre++[c]) (by rw [e];simp) hpre'
   rw [List.length_append,List.length_singleton] at q3
   refine ⟨a1',q1,q2,GoN.step (fun o'=>s49_0_run _ _ _ _ _ _ _ _ ?_) q3⟩
   rw [hgo] at hg'
   have hwi:Lite.W .i64 ((pre.length:Int)+1)=((pre.length+1:Nat):Int):=wi _ (by omega)
   unfold s49_0
   rw [decide_eq_true (by omega),cond_true,gd_of (by simp),gd_of (decide_eq_true (show ((pre.length:Nat):Int).toNat < (rowL iy L).length from hk)),rowL_get (by rw [Nat.zero_add];exact hget),kP_mk,hax,dRp]
   by_cases g1:c.pins=0
   ·rw [ibeq_t g1,cond_true,hax,dRp]
    rw [decide_eq_true g1,Bool.true_and,Bool.or_eq_false_iff] at hg'
    have hd:c.dirty=true:=by simpa using hg'.1
    rw [hd,Bool.not_true,cond_false,hax,dRp,hd,cond_true,hax,dRp,hg'.2,cond_false,hwi]
   ·rw [ibeq_f g1,cond_false,hwi]
theorem rfree_ok (h:RRep a1 iy L) (hL:L.length<=100000) (hb:∀x∈L,x.s.length=252) (hpg:∀x∈L,0<=x.page/\x.page < (n:Int)) (hw:ws.length<=90000) :
  ∃a1',(∀i,(∀x∈L,iy x.page≠i)->a1'[i]? = a1[i]?)/\RRep a1' iy ((freeS pl sure L ws).getD (L,ws)).1 /\
   icC qcfg ⟨false,false⟩ 49 [.ptr 2 0 0] (rpm a0 a1 pl sure (rowL iy L) (blank n) (wsV ws)) =
    some (mk49 ((freeS pl sure L ws).isSome,a0,a1',pl,sure,rowL iy ((freeS pl sure L ws).getD (L,ws)).1,blank n,wsV ((freeS pl sure L ws).getD (L,ws)).2)):=by
 by_cases hpl:(L.length:Int) < pl
 ·have hf:freeS pl sure L ws=some (L,ws):=by unfold freeS;rw [if_pos hpl]
  rw [hf]
  refine ⟨a1,fun _ _=>rfl,h,e49_run _ _ _ _ _ _ _ (o:=.doneM (.bool true) (rpm a0 a1 pl sure (rowL iy L) (blank n) (wsV ws))) ?_ (.done (by kernel_rfl))⟩
  unfold e49
  rw [decide_eq_true (by rw [rowL_len];exact hpl)];rfl
 ·obtain ⟨a1',q1,q2,q3⟩:=rfree_loop (a0:=a0) h hL hpl hb hpg hw L [] rfl (by simp)
  refine ⟨a1',q1,q2,e49_run _ _ _ _ _ _ _ ?_ q3⟩
  unfold e49
  rw [decide_eq_false (by rw [rowL_len];exact hpl)];rfl
end
section
variable {a0 a1:List V} {iy:Int->Nat} {L:List Pg} {pl sure:Int} {l w:List V} {p:Int} {n:Nat} {ws:Ws}
theorem rowL_ext (iy iy':Int->Nat) {L:List Pg} (h:∀x∈L,iy' x.page=iy x.page):rowL iy' L=rowL iy L:=by
 unfold rowL
 exact List.map_congr_left fun x hx=>by rw [h x hx]
def pg0 (p:Int):Pg:=⟨p,[],0,false,0,0⟩
theorem RRep.add (h:RRep a1 iy L) {x:Pg} (hx:x.page∉pgs L) {i:Nat} (hi:∀y∈L,iy y.page≠i) (ha:a1[i]? = some (rplV x)):RRep a1 (updI iy x.page i) (L++[x]):=by
 have hne:∀y∈L,y.page≠x.page:=fun y hy e=>hx (List.mem_map.2 ⟨y,hy,e⟩)
 have hu:∀y∈L,updI iy x.page i y.page=iy y.page:=fun y hy=>by unfold updI;rw [if_neg (hne y hy)]
 have hux:updI iy x.page i x.page=i:=by unfold updI;rw [if_pos rfl]
 refine ⟨?_,fun y hy=>?_,fun y hy z hz e=>?_⟩
 ·rw [pgs_app]
  exact List.nodup_append.2 ⟨h.nd,by simp [pgs],fun a ha b hb e=>by
   rw [show pgs [x]=[x.page] from rfl,List.mem_singleton] at hb
   subst hb
   exact hx (e ▸ ha)⟩
 ·rcases List.mem_append.1 hy with h1 | h1
  ·rw [hu y h1];exact h.at_ y h1
  ·rw [List.mem_singleton.1 h1,hux];exact ha
 ·rcases List.mem_append.1 hy with h1 | h1<;>rcases List.mem_append.1 hz with h2 | h2
  ·rw [hu y h1,hu z h2] at e;exact h.inj y h1 z h2 e
  ·rw [hu y h1,List.mem_singleton.1 h2,hux] at e;exact (hi y h1 e).elim
  ·rw [List.mem_singleton.1 h1,hux,hu z h2] at e;exact (hi z h2 e.symm).elim
  ·rw [List.mem_singleton.1 h1,List.mem_singleton.1 h2]
theorem rpin_ok (h:RRep a1 iy L) (g:Good pl (n:Int) L ws) (hw:ws.length<=90000) (p:Int) :
  ∃a1' iy',RRep a1' iy' (pinS pl sure n L ws p).2.2.1/\icC qcfg ⟨false,false⟩ 24 [.ptr 2 0 0,.int .i64 p] (rpm a0 a1 pl sure (rowL iy L) (blank n) (wsV ws)) =
   some (mk24 ((pinS pl sure n L ws p).1,(pinS pl sure n L ws p).2.1,a0,a1',pl,sure,rowL iy' (pinS pl sure n L ws p).2.2.1,blank n,wsV (pinS pl sure n L ws p).2.2.2)):=by
 have hL:=g.l100
 unfold pinS
 by_cases hp:0<=p/\p < (n:Int)
 rotate_left
 ·rw [if_neg hp]
  refine ⟨a1,iy,h,e24_run _ _ _ _ _ _ _ _ (o:=.doneM (.tup [.str [],.int .i64 1]) (rpm a0 a1 pl sure (rowL iy L) (blank n) (wsV ws))) ?_ (.done (by kernel_rfl))⟩
  unfold e24
  by_cases h0:p < 0
  ·rw [decide_eq_true h0];rfl
  ·rw [decide_eq_false h0,cond_false,decide_eq_true (by rw [blank_len];omega)];rfl
 rw [if_pos hp]
 cases hf:findP L p with
 | some x =>
  obtain ⟨j,e1,e2,e3,e4⟩:=findI_some hf
  have hj:=(List.getElem?_eq_some_iff.1 e2).1
  subst e3
  dsimp only
  have hx2:=h.ext (rplV (pg0 x.page))
  have hsplit:L=L.take j++x::L.drop (j+1):=by
   rw [show x=L[j] from (List.getElem?_eq_some_iff.1 e2).2.symm,List.getElem_cons_drop,List.take_append_drop]
  have hcp:=cut_split h.nd hsplit
  have hjl:(L.take j).length=j:=by rw [List.length_take];omega
  have hcut:=cutR iy (L.take j) (L.drop (j+1)) x (by omega)
  rw [<-hsplit,hjl,<-hcp] at hcut
  have hgu:=fun q:R=>cutG (rowL iy L) (rowL_wfl iy L) (by rw [rowL_len];exact hL) j (by rw [rowL_len];exact hj) q
  simp only [decide_eq_true (show 0<=(j:Int) by omega)] at hgu
  have hrep:RRep ((a1++[rplV (pg0 x.page)]).set (iy x.page) (rplV (pinX x))) iy (cutP L x.page++[pinX x]):=by
   refine hx2.set (x':=pinX x) e4 rfl ?_ ?_
   ·have:=(cut_perm h.nd e4).map Pg.page
    simpa [pgs,pinX] using this
   ·intro y hy
    rcases List.mem_append.1 hy with h1 | h1
    ·obtain ⟨h2,h3⟩:=List.mem_filter.1 h1
     exact .inr ⟨h2,by simpa using h3⟩
    ·exact .inl (List.mem_singleton.1 h1)
  have hrow:rowL iy (cutP L x.page)++[V.hp 74 (iy x.page) 0]=rowL iy (cutP L x.page++[pinX x]):=by rw [rowL_app];rfl
  have hlen:(rowL iy (cutP L x.page)).length<=100000:=by
   rw [rowL_len];exact Nat.le_trans (List.length_filter_le _ _) hL
  have hlt:iy x.page < (a1++[rplV (pg0 x.page)]).length:=by have:=h.lt e4;simp;omega
  refine ⟨_,iy,hrep,e24_run _ _ _ _ _ _ _ _ (o:=.doneM (.tup [.str x.s,.int .i64 0]) [.arena 71 a0,.arena 74 ((a1++[rplV (pg0 x.page)]).set (iy x.page) (rplV (pinX x))),.box 64 (.agg [.ptr 3 0 0,.int .i64 pl,.int .i64 sure,.tail 11 0]) false,.box 56 (.agg [.tail 5 0,.tail 6 0]) false,.row 75 (rowL iy L) 0,.row 9 (blank n) 0,.row 85 (wsV ws) 0,.dead,.dead,.dead,.row 75 [V.hp 74 (iy x.page) 0] 0,.row 75 (rowL iy (cutP L x.page++[pinX x])) 0]) ?_ (.done (by kernel_rfl))⟩
  have hax:=fun q:V->R=>hx2.ax e4 q
  unfold e24
  rw [show (V.agg [V.int .i64 x.page,V.str [],V.int .i64 0,V.bool false,V.int .i64 0,V.int .i64 0])=rplV (pg0 x.page) from rfl]
  rw [decide_eq_false (by omega),cond_false,decide_eq_false (by rw [blank_len];omega),cond_false,fK h hL,gdS_eq,e1,decide_eq_true (by omega),cond_true,gd_of (by simp),gd_of (decide_eq_true (show ((j:Nat):Int).toNat < (rowL iy L).length by rw [rowL_len];exact hj)),rowL_get (by rw [Nat.zero_add];exact e2),kP_mk,hgu,hcut,hax,dRp,hax,dRp,gd_of (decide_eq_true (by simp;omega)),hrow]
  rw [show (V.agg [V.int .i64 x.page,V.str x.s,V.int .i64 (Lite.W .i64 (x.pins+1)),V.bool x.dirty,V.int .i64 x.first,V.int .i64 x.last])=rplV (pinX x) from rfl,sx1 hlt,dRp]
  rfl
 | none =>
  have hpo:=findP_none hf
  have hx2:=h.ext (rplV (pg0 p))
  obtain ⟨a1',q1,q2,q3⟩:=rfree_ok (a0:=a0) (pl:=pl) (sure:=sure) (n:=n) (ws:=ws) hx2 hL g.bs g.pg hw
  have hrd:=rread_ok (m0:=a0) (m1:=a1++[rplV (pg0 p)]) (n:=n) (ws:=ws) (by omega) g.ok p hp.1 hp.2
  have hoff:∀x∈L,iy x.page≠a1.length:=fun x hx e=>by have:=h.lt hx;omega
  have hat:a1'[a1.length]? = some (rplV (pg0 p)):=by rw [q1 _ hoff];simp
  have hlt:a1.length < a1'.length:=(List.getElem?_eq_some_iff.1 hat).1
  dsimp only
  cases hfr:freeS pl sure L ws with
  | none =>
   rw [hfr] at q2 q3
   refine ⟨a1',iy,q2,e24_run _ _ _ _ _ _ _ _ (o:=.doneM (.tup [.str [],.int .i64 6]) (rfm a0 a1' pl sure (rowL iy L) (blank n) (wsV ws))) ?_ (.done (by kernel_rfl))⟩
   unfold e24
   rw [show (V.agg [V.int .i64 p,V.str [],V.int .i64 0,V.bool false,V.int .i64 0,V.int .i64 0])=rplV (pg0 p) from rfl]
   rw [decide_eq_false (by omega),cond_false,decide_eq_false (by rw [blank_len];omega),cond_false,fK h hL,gdS_eq,findI_none hf,decide_eq_false (by omega),cond_false,icM_of mk48_inj hrd]
   dsimp only
   rw [bne_self_eq_false,cond_false,icM_of mk49_inj q3]
   rfl
  | some r =>
   obtain ⟨L',ws'⟩:=r
   rw [hfr] at q2 q3
   simp only [Option.getD_some,Option.isSome_some] at q2 q3
   dsimp only
   have hsub:=freeS_pgs hfr
   have hpo':(newX ws p).page∉pgs L':=fun hm=>by
    obtain ⟨y,hy,e⟩:=List.mem_map.1 hm
    exact hpo (List.mem_map.2 ⟨y,hsub y hy,e⟩)
   have hoff':∀y∈L',iy y.page≠a1.length:=fun y hy=>hoff y (hsub y hy)
   have hrep:RRep (a1'.set a1.length (rplV (newX ws p))) (updI iy p a1.length) (L'++[newX ws p]):=(q2.off hoff' _).add (x:=newX ws p) hpo' hoff' (by simp [hlt])
   have hrow:rowL iy L'++[V.hp 74 a1.length 0]=rowL (updI iy p a1.length) (L'++[newX ws p]):=by
    rw [rowL_app]
    have e1:rowL (updI iy p a1.length) L'=rowL iy L':=rowL_ext _ _ fun x hx=>by
     unfold updI
     rw [if_neg (show ¬x.page=p from fun e=>hpo' (List.mem_map.2 ⟨x,hx,e⟩))]
    rw [e1]
    simp [rowL,updI,newX]
   have hll:L'.length<=100000:=by
    have:=freeS_len h.nd g.len hfr
    have:=g.pl
    omega
   refine ⟨_,_,hrep,e24_run _ _ _ _ _ _ _ _ (o:=.doneM (.tup [.str (cont ws p),.int .i64 0]) [.arena 71 a0,.arena 74 (a1'.set a1.length (rplV (newX ws p))),.box 64 (.agg [.ptr 3 0 0,.int .i64 pl,.int .i64 sure,.tail 11 0]) false,.box 56 (.agg [.tail 8 0,.tail 9 0]) false,.dead,.dead,.dead,.dead,.row 9 (blank n) 0,.row 85 (wsV ws') 0,.row 75 [V.hp 74 a1.length 0] 0,.row 75 (rowL (updI iy p a1.length) (L'++[newX ws p])) 0]) ?_ (.done (by kernel_rfl))⟩
   unfold e24
   rw [show (V.agg [V.int .i64 p,V.str [],V.int .i64 0,V.bool false,V.int .i64 0,V.int .i64 0])=rplV (pg0 p) from rfl]
   rw [decide_eq_false (by omega),cond_false,decide_eq_false (by rw [blank_len];omega),cond_false,fK h hL,gdS_eq,findI_none hf,decide_eq_false (by omega),cond_false,icM_of mk48_inj hrd]
   dsimp only
   rw [bne_self_eq_false,cond_false,icM_of mk49_inj q3]
   dsimp only
   rw [Bool.not_true,cond_false,idxK_of hat,dRp,sx1 hlt,dRv,sx1 hlt,dRv,gd_of (decide_eq_true (by rw [rowL_len];simp;omega)),hrow,List.set_set,sx1 hlt,dRv]
   rfl
theorem inB_of {d:Bool} {c:Int} (h:inB L d c=true):∃x,findP L c=some x/\(d=true->x.dirty=true):=by
 unfold inB at h
 cases hf:findP L c with
 | none=>rw [hf] at h;cases h
 | some x =>
  rw [hf] at h
  exact ⟨x,rfl,fun hd=>by subst hd;simpa using h⟩
abbrev rcm (a0 a1:List V) (pl sure:Int) (row l w r7:List V):List O:=[.arena 71 a0,.arena 74 a1,.box 64 (.agg [.ptr 3 0 0,.int .i64 pl,.int .i64 sure,.tail 4 0]) false,.box 56 (.agg [.tail 8 0,.tail 9 0]) false,.row 75 row 0,.dead,.dead,.row 3 r7 0,.row 9 l 0,.row 85 w 0]
theorem rclean_b (hn:n<=1000) (lst:List Int) (hl:lst.length<=1000):∀(r:List Int) (k:Nat) (a1:List V) (L:List Pg) (ws:Ws) (cnt:Nat),RRep a1 iy L->Gd (n:Int) L ws->L.length<=100000->ws.length+r.length<=90000->cnt+r.length<=100000->(∀c∈r,c∈pgs L)->lst.drop k=r ->
  ∃a1',RRep a1' iy (cleanF sure r (L,ws,cnt)).1/\Go qk true 7 fa31 (.head 0 (T31_0b (cnt:Int) (ints lst).length (k:Int) a0 a1 pl sure (rowL iy L) (ints lst) (blank n) (wsV ws)))
   (.doneM (.int .i64 ((cleanF sure r (L,ws,cnt)).2.2:Int)) (rcm a0 a1' pl sure (rowL iy (cleanF sure r (L,ws,cnt)).1) (blank n) (wsV (cleanF sure r (L,ws,cnt)).2.1) (ints lst)))
 | [],k,a1,L,ws,cnt,h,g,hL,hw,hc,hin,e=>by
  have h0:=List.drop_eq_nil_iff.1 e
  refine ⟨a1,h,s31_0b_run _ _ _ _ _ _ _ _ _ _ _ ?_ (.refl _)⟩
  unfold s31_0b
  rw [gd_of (by simp),decide_eq_false (by rw [ints_len,List.drop_zero,List.take_of_length_le (by rw [ints_len];omega),ints_len];omega),cond_false];rfl
 | c::r,k,a1,L,ws,cnt,h,g,hL,hw,hc,hin,e=>by
  obtain ⟨h1,h2,h3⟩:=drop_cons e
  obtain ⟨x,hf,hx,hxp⟩:=findP_in (hin c (by simp))
  subst hxp
  obtain ⟨j,e1,e2,e3,e4⟩:=findI_some hf
  have hj:=(List.getElem?_eq_some_iff.1 e2).1
  rw [List.length_cons] at hw hc
  have hgk:gd (decide (((k:Nat):Int).toNat < (ints lst).length))=fun q=>q:=by funext q;exact gd_of (decide_eq_true (by rw [ints_len];exact h1))
  have hg0:gd (decide (0+(ints lst).length<=(ints lst).length))=fun q=>q:=by funext q;exact gd_of (by simp)
  have hgz:gd (decide (0<=((k:Nat):Int)))=fun q=>q:=by funext q;exact gd_of (by simp)
  have hgj:gd (decide (0<=((j:Nat):Int)))=fun q=>q:=by funext q;exact gd_of (by simp)
  have hgj2:gd (decide (((j:Nat):Int).toNat < (rowL iy L).length))=fun q=>q:=by funext q;exact gd_of (decide_eq_true (by rw [rowL_len];exact hj))
  have hcond:decide ((k:Int) < (((ints lst).drop 0).take (ints lst).length).length)=true:=decide_eq_true (by rw [List.drop_zero,List.take_of_length_le (Nat.le_refl _),ints_len];omega)
  have hgi:idxK (ints lst) (0+((k:Nat):Int).toNat)=fun q=>q (.int .i64 x.page):=by funext q;exact idxK_ints (by rw [Nat.zero_add];exact h2)
  have hrw:idxK (rowL iy L) (0+((j:Nat):Int).toNat)=fun q=>q (.hp 74 (iy x.page) 0):=by funext q;exact rowL_get (by rw [Nat.zero_add];exact e2) q
  have hax:idxK a1 (iy x.page)=fun q=>q (rplV x):=by funext q;exact h.ax hx q
  have hfk:icR qcfg ⟨true,false⟩ mk34 34 [.ptr 2 0 0,.int .i64 x.page] (rpm a0 a1 pl sure (rowL iy L) (blank n) (wsV ws))=fun q=>q (j:Int):=by funext q;rw [fK h hL,e1]
  have hcl:cleanF sure (x.page::r) (L,ws,cnt)=cleanF sure r (clean1 sure (L,ws,cnt) x.page):=rfl
  rw [hcl]
  unfold clean1
  rw [hf]
  dsimp only
  by_cases hm:mayP sure x=true
  ·rw [if_pos hm]
   unfold mayP at hm
   rw [Bool.and_eq_true,decide_eq_true_eq] at hm
   have hwr:=rwrite_ok (m0:=a0) (m1:=a1) (n:=n) (ws:=ws) (by omega) x.page x.s (g.pg x hx).1 (g.pg x hx).2 (g.bs x hx)
   have hup:=h.upd hx (f:=washX) fun _=>rfl
   have hgd:=g.wash hx
   have hpg:pgs (updP L x.page washX)=pgs L:=pgs_upd fun _=>rfl
   obtain ⟨a1',q1,q2⟩:=rclean_b hn lst hl r (k+1) _ _ _ (cnt+1) hup hgd (by simpa [updP] using hL) (by rw [List.length_append,List.length_singleton];omega) (by omega) (fun c' hc'=>by rw [hpg];exact hin c' (by simp [hc'])) h3
   refine ⟨a1',q1,s31_0b_run _ _ _ _ _ _ _ _ _ _ _ ?_ q2⟩
   unfold s31_0b
   rw [hg0]
   dsimp only
   rw [hcond,cond_true,hgz]
   dsimp only
   rw [hgk]
   dsimp only
   rw [hgi]
   dsimp only
   rw [kI_mk,hfk]
   dsimp only
   rw [gdS_eq,hgj]
   dsimp only
   rw [hgj2]
   dsimp only
   rw [hrw]
   dsimp only
   rw [kP_mk,hax]
   dsimp only
   rw [dRp,hm.1,cond_true,dRp,decide_eq_true hm.2,cond_true,dRp,dRp,icM_of mk70_inj hwr]
   dsimp only
   rw [hax]
   dsimp only
   rw [dRp,rowL_pgs iy hpg,wi k (by omega),wi cnt (by omega)]
   rfl
  ·rw [if_neg hm]
   obtain ⟨a1',q1,q2⟩:=rclean_b hn lst hl r (k+1) a1 L ws cnt h g hL (by omega) (by omega) (fun c' hc'=>hin c' (by simp [hc'])) h3
   refine ⟨a1',q1,s31_0b_run _ _ _ _ _ _ _ _ _ _ _ ?_ q2⟩
   unfold s31_0b
   rw [hg0]
   dsimp only
   rw [hcond,cond_true,hgz]
   dsimp only
   rw [hgk]
   dsimp only
   rw [hgi]
   dsimp only
   rw [kI_mk,hfk]
   dsimp only
   rw [gdS_eq,hgj]
   dsimp only
   rw [hgj2]
   dsimp only
   rw [hrw]
   dsimp only
   rw [kP_mk,hax]
   dsimp only
   unfold mayP at hm
   cases hd:x.dirty with
   | false=>rw [dRp,hd,cond_false,wi k (by omega)]
   | true =>
    rw [hd,Bool.true_and] at hm
    rw [dRp,hd,cond_true,dRp,show decide (x.last<=sure)=false by simpa using hm,cond_false,wi k (by omega)]
theorem rclean_a (m0:List O) (hm0:∃(a b:List V) (c d:Int) (e f g:List V),m0=rpm a b c d e f g) (hn:n<=1000) (lst:List Int) (hl:lst.length<=1000) (h:RRep a1 iy L) (g:Gd (n:Int) L ws) (hL:L.length<=100000):∀(r:List Int) (k:Nat),ws.length+r.length<=90000->(∀c∈r,c∈pgs L)->lst.drop k=r ->
  ∃a1',RRep a1' iy (cleanF sure r (L,ws,0)).1/\GoN qk 7 fa31 ⟨false,false⟩ m0 (.head 0 (T31_0 (ints lst).length (k:Int) a0 a1 pl sure (rowL iy L) (blank n) (wsV ws) (ints lst)))
   (mk31 ((cleanF sure r (L,ws,0)).2.2,a0,a1',pl,sure,rowL iy (cleanF sure r (L,ws,0)).1,blank n,wsV (cleanF sure r (L,ws,0)).2.1))
 | [],k,hw,hin,e=>by
  obtain ⟨_,_,_,_,_,_,_,rfl⟩:=hm0
  have h0:=List.drop_eq_nil_iff.1 e
  refine ⟨a1,h,GoN.step (fun o'=>s31_0_run _ _ _ _ _ _ _ _ _ _ (o:=.doneM (.int .i64 0) (rpm a0 a1 pl sure (rowL iy L) (blank n) (wsV ws)++[.row 3 (ints lst) 0])) ?_) (.done (by kernel_rfl))⟩
  unfold s31_0
  rw [gd_of (by simp),decide_eq_false (by rw [ints_len,List.drop_zero,List.take_of_length_le (by rw [ints_len];omega),ints_len];omega),cond_false];rfl
 | c::r,k,hw,hin,e=>by
  obtain ⟨h1,h2,h3⟩:=drop_cons e
  obtain ⟨x,hf,hx,hxp⟩:=findP_in (hin c (by simp))
  subst hxp
  obtain ⟨j,e1,e2,e3,e4⟩:=findI_some hf
  have hj:=(List.getElem?_eq_some_iff.1 e2).1
  rw [List.length_cons] at hw
  have hgk:gd (decide (((k:Nat):Int).toNat < (ints lst).length))=fun q=>q:=by funext q;exact gd_of (decide_eq_true (by rw [ints_len];exact h1))
  have hg0:gd (decide (0+(ints lst).length<=(ints lst).length))=fun q=>q:=by funext q;exact gd_of (by simp)
  have hgz:gd (decide (0<=((k:Nat):Int)))=fun q=>q:=by funext q;exact gd_of (by simp)
  have hgj:gd (decide (0<=((j:Nat):Int)))=fun q=>q:=by funext q;exact gd_of (by simp)
  have hgj2:gd (decide (((j:Nat):Int).toNat < (rowL iy L).length))=fun q=>q:=by funext q;exact gd_of (decide_eq_true (by rw [rowL_len];exact hj))
  have hcond:decide ((k:Int) < (((ints lst).drop 0).take (ints lst).length).length)=true:=decide_eq_true (by rw [List.drop_zero,List.take_of_length_le (Nat.le_refl _),ints_len];omega)
  have hgi:idxK (ints lst) (0+((k:Nat):Int).toNat)=fun q=>q (.int .i64 x.page):=by funext q;exact idxK_ints (by rw [Nat.zero_add];exact h2)
  have hrw:idxK (rowL iy L) (0+((j:Nat):Int).toNat)=fun q=>q (.hp 74 (iy x.page) 0):=by funext q;exact rowL_get (by rw [Nat.zero_add];exact e2) q
  have hax:idxK a1 (iy x.page)=fun q=>q (rplV x):=by funext q;exact h.ax hx q
  have hfk:icR qcfg ⟨true,false⟩ mk34 34 [.ptr 2 0 0,.int .i64 x.page] (rpm a0 a1 pl sure (rowL iy L) (blank n) (wsV ws))=fun q=>q (j:Int):=by funext q;rw [fK h hL,e1]
  have hcl:cleanF sure (x.page::r) (L,ws,0)=cleanF sure r (clean1 sure (L,ws,0) x.page):=rfl
  rw [hcl]
  unfold clean1
  rw [hf]
  dsimp only
  by_cases hm:mayP sure x=true
  ·rw [if_pos hm]
   unfold mayP at hm
   rw [Bool.and_eq_true,decide_eq_true_eq] at hm
   have hwr:=rwrite_ok (m0:=a0) (m1:=a1) (n:=n) (ws:=ws) (by omega) x.page x.s (g.pg x hx).1 (g.pg x hx).2 (g.bs x hx)
   have hup:=h.upd hx (f:=washX) fun _=>rfl
   have hgd:=g.wash hx
   have hpg:pgs (updP L x.page washX)=pgs L:=pgs_upd fun _=>rfl
   obtain ⟨a1',q1,q2⟩:=rclean_b (a0:=a0) (pl:=pl) (sure:=sure) hn lst hl r (k+1) _ _ _ 1 hup hgd (by simpa [updP] using hL) (by rw [List.length_append,List.length_singleton];omega) (by omega) (fun c' hc'=>by rw [hpg];exact hin c' (by simp [hc'])) h3
   obtain ⟨_,_,_,_,_,_,_,rfl⟩:=hm0
   refine ⟨a1',q1,GoN.step (fun o'=>s31_0_run _ _ _ _ _ _ _ _ _ _ ?_) ⟨_,_,q2,by kernel_rfl⟩⟩
   unfold s31_0
   rw [hg0]
   dsimp only
   rw [hcond,cond_true,hgz]
   dsimp only
   rw [hgk]
   dsimp only
   rw [hgi]
   dsimp only
   rw [kI_mk,hfk]
   dsimp only
   rw [gdS_eq,hgj]
   dsimp only
   rw [hgj2]
   dsimp only
   rw [hrw]
   dsimp only
   rw [kP_mk,hax]
   dsimp only
   rw [dRp,hm.1,cond_true,dRp,decide_eq_true hm.2,cond_true,dRp,dRp,icM_of mk70_inj hwr]
   dsimp only
   rw [hax]
   dsimp only
   rw [dRp,rowL_pgs iy hpg,wi k (by omega)]
   rfl
  ·rw [if_neg hm]
   obtain ⟨a1',q1,q2⟩:=rclean_a m0 hm0 hn lst hl h g hL r (k+1) (by omega) (fun c' hc'=>hin c' (by simp [hc'])) h3
   refine ⟨a1',q1,GoN.step (fun o'=>s31_0_run _ _ _ _ _ _ _ _ _ _ ?_) q2⟩
   unfold s31_0
   rw [hg0]
   dsimp only
   rw [hcond,cond_true,hgz]
   dsimp only
   rw [hgk]
   dsimp only
   rw [hgi]
   dsimp only
   rw [kI_mk,hfk]
   dsimp only
   rw [gdS_eq,hgj]
   dsimp only
   rw [hgj2]
   dsimp only
   rw [hrw]
   dsimp only
   rw [kP_mk,hax]
   dsimp only
   unfold mayP at hm
   cases hd:x.dirty with
   | false=>rw [dRp,hd,cond_false,wi k (by omega)]
   | true =>
    rw [hd,Bool.true_and] at hm
    rw [dRp,hd,cond_true,dRp,show decide (x.last<=sure)=false by simpa using hm,cond_false,wi k (by omega)]
end
theorem pwI:∀{a b:List Int},a.Pairwise (· < ·)->b.Pairwise (· < ·)->(∀x,x∈a↔x∈b)->a=b
 | [],[],_,_,_=>rfl
 | [],y::b,_,_,h=>absurd ((h y).2 (by simp)) (by simp)
 | x::a,[],_,_,h=>absurd ((h x).1 (by simp)) (by simp)
 | x::a,y::b,ha,hb,h=>by
  obtain ⟨ha1,ha2⟩:=List.pairwise_cons.1 ha
  obtain ⟨hb1,hb2⟩:=List.pairwise_cons.1 hb
  have hxy:x=y:=by
   rcases List.mem_cons.1 ((h x).1 (by simp)) with h1 | h1
   ·exact h1
   ·rcases List.mem_cons.1 ((h y).2 (by simp)) with h2 | h2
    ·exact h2.symm
    ·have:=ha1 y h2;have:=hb1 x h1;omega
  subst hxy
  congr 1
  refine pwI ha2 hb2 fun z=>?_
  constructor
  ·intro hz
   rcases List.mem_cons.1 ((h z).1 (by simp [hz])) with h1 | h1
   ·subst h1;have:=ha1 z hz;omega
   ·exact h1
  ·intro hz
   rcases List.mem_cons.1 ((h z).2 (by simp [hz])) with h1 | h1
   ·subst h1;have:=hb1 z hz;omega
   ·exact h1
theorem srt_pw {l:List Int} (h:l.Nodup):(srt l).Pairwise (· < ·):=by
 have h1:=List.pairwise_mergeSort (le:=fun x y:Int=>decide (x<=y)) (by intro a b c h1 h2;simp at *;omega) (by intro a b;simp;omega) l
 have h2:(srt l).Nodup:=(List.mergeSort_perm l _).nodup_iff.2 h
 unfold srt at h2 |-
 exact (h1.and h2).imp fun {a b} hh=>by
  have h3:a<=b:=by simpa using hh.1
  have h4:=hh.2
  omega
section
variable {ar a0 a1:List V} {ks:List Int} {ix iy:Int->Nat} {L:List Pg} {ws:Ws} {z:Nat} {pl sure:Int} {p:Int} {n:Nat}
theorem pages_eq (h:Rep ar ks ix L) (g:Good pl (n:Int) L ws):srt ks=pagesR L n false:=by
 have hks:ks.Nodup:=h.perm.nodup_iff.2 h.nd
 have hr:((List.range n).map fun k:Nat=>(k:Int)).Pairwise (· < ·):=by
  rw [List.pairwise_map]
  exact List.pairwise_lt_range.imp fun hab=>by omega
 refine pwI (srt_pw hks) (hr.sublist List.filter_sublist) fun c=>?_
 rw [(srt_perm ks).mem_iff,h.perm.mem_iff]
 unfold pagesR
 rw [List.mem_filter,List.mem_map]
 constructor
 ·intro hc
  obtain ⟨x,h1,h2,h3⟩:=findP_in hc
  have:=g.pg x h2
  refine ⟨⟨c.toNat,List.mem_range.2 (by omega),by omega⟩,?_⟩
  unfold inB;rw [h1];rfl
 ·rintro ⟨_,hc⟩
  obtain ⟨x,h1,_⟩:=inB_of hc
  have:=findP_some h1
  exact List.mem_map.2 ⟨x,this.1,this.2⟩
theorem inB_dirty (L:List Pg):inB L true=dirtyB L:=by
 funext c
 unfold inB dirtyB
 cases findP L c<;>rfl
theorem pagesR_true (L:List Pg) (n:Nat):pagesR L n true=(pagesR L n false).filter (inB L true):=by
 unfold pagesR
 rw [List.filter_filter]
 refine List.filter_congr fun c _=>?_
 unfold inB
 cases findP L c<;>simp
theorem dirt_eq (h:Rep ar ks ix L) (g:Good pl (n:Int) L ws):dirtL ks L=pagesR L n true:=by
 unfold dirtL
 rw [pagesR_true,<-pages_eq h g,inB_dirty]
theorem least_spec:∀(L:List Pg) (s:Int × Bool),(leastR L s=s/\(∀x∈L,x.dirty=true->s.2=true/\s.1<=x.first))∨((leastR L s).2=true/\(∃x∈L,x.dirty=true/\x.first=(leastR L s).1)/\(∀x∈L,x.dirty=true->(leastR L s).1<=x.first)/\(s.2=true->(leastR L s).1<=s.1))
 | [],s=>.inl ⟨rfl,by simp⟩
 | y::L,s=>by
  have ih:=least_spec L (if y.dirty && (!s.2 || decide (y.first < s.1)) then (y.first,true) else s)
  unfold leastR
  by_cases c:(y.dirty && (!s.2 || decide (y.first < s.1)))=true
  ·rw [if_pos c] at ih |-
   rw [Bool.and_eq_true] at c
   right
   rcases ih with ⟨h1,h2⟩ | ⟨h1,⟨x,h2,h3,h4⟩,h5,h6⟩
   ·rw [h1]
    refine ⟨rfl,⟨y,by simp,c.1,rfl⟩,fun x hx hd=>?_,fun hs=>?_⟩
    ·rcases List.mem_cons.1 hx with rfl | hx
     ·exact Int.le_refl _
     ·exact (h2 x hx hd).2
    ·have:=c.2
     rw [hs] at this
     have:y.first < s.1:=by simpa using this
     show y.first<=s.1
     omega
   ·refine ⟨h1,⟨x,by simp [h2],h3,h4⟩,fun x hx hd=>?_,fun hs=>?_⟩
    ·rcases List.mem_cons.1 hx with rfl | hx
     ·exact h6 rfl
     ·exact h5 x hx hd
    ·have:=c.2
     rw [hs] at this
     have h7:y.first < s.1:=by simpa using this
     have:=h6 rfl
     simp only at this
     omega
  ·rw [if_neg c] at ih |-
   have hy:y.dirty=true->s.2=true/\s.1<=y.first:=by
    intro hd
    rw [hd,Bool.true_and] at c
    cases hs:s.2 with
    | false=>rw [hs] at c;simp at c
    | true=>rw [hs] at c;simp at c;exact ⟨rfl,by omega⟩
   rcases ih with ⟨h1,h2⟩ | ⟨h1,⟨x,h2,h3,h4⟩,h5,h6⟩
   ·refine .inl ⟨h1,fun x hx hd=>?_⟩
    rcases List.mem_cons.1 hx with rfl | hx
    ·exact hy hd
    ·exact h2 x hx hd
   ·refine .inr ⟨h1,⟨x,by simp [h2],h3,h4⟩,fun x hx hd=>?_,h6⟩
    rcases List.mem_cons.1 hx with rfl | hx
    ·have:=hy hd
     have:=h6 this.1
     omega
    ·exact h5 x hx hd
theorem minF_spec (L:List Pg):∀(r:List Int) (a:Int),r.foldl (minF L) a<=a/\(∀c∈r,r.foldl (minF L) a<=firstOf L c)/\(r.foldl (minF L) a=a∨∃c∈r,r.foldl (minF L) a=firstOf L c)
 | [],a=>⟨Int.le_refl _,by simp,.inl rfl⟩
 | c::r,a=>by
  rw [List.foldl_cons]
  obtain ⟨h1,h2,h3⟩:=minF_spec L r (minF L a c)
  have h4:minF L a c<=a/\minF L a c<=firstOf L c/\(minF L a c=a∨minF L a c=firstOf L c):=by
   unfold minF
   split
   ·exact ⟨by omega,Int.le_refl _,.inr rfl⟩
   ·exact ⟨Int.le_refl _,by omega,.inl rfl⟩
  refine ⟨by omega,fun d hd=>?_,?_⟩
  ·rcases List.mem_cons.1 hd with rfl | hd
   ·omega
   ·exact h2 d hd
  ·rcases h3 with h3 | ⟨d,h5,h6⟩
   ·rw [h3]
    rcases h4.2.2 with h4 | h4
    ·exact .inl h4
    ·exact .inr ⟨c,by simp,h4⟩
   ·exact .inr ⟨d,by simp [h5],h6⟩
theorem least_eq (h:Rep ar ks ix L) (g:Good pl (n:Int) L ws):leastS ks L=leastR L (0,false):=by
 have hmem:∀c,c∈dirtL ks L↔∃x,findP L c=some x/\x.dirty=true:=by
  intro c
  unfold dirtL
  rw [List.mem_filter,(srt_perm ks).mem_iff,h.perm.mem_iff]
  unfold dirtyB
  constructor
  ·rintro ⟨_,h2⟩
   cases hf:findP L c with
   | none=>rw [hf] at h2;cases h2
   | some x=>rw [hf] at h2;exact ⟨x,rfl,h2⟩
  ·rintro ⟨x,h1,h2⟩
   have:=findP_some h1
   rw [h1]
   exact ⟨List.mem_map.2 ⟨x,this.1,this.2⟩,h2⟩
 have hfirst:∀c x,findP L c=some x->firstOf L c=x.first:=fun c x hx=>by unfold firstOf;rw [hx]
 have hs:=least_spec L (0,false)
 unfold leastS
 cases hd:dirtL ks L with
 | nil =>
  rcases hs with ⟨h1,_⟩ | ⟨_,⟨x,h2,h3,_⟩,_⟩
  ·rw [h1]
  ·have:=(hmem x.page).2 ⟨x,findP_of h.nd h2,h3⟩
   rw [hd] at this;cases this
 | cons c r =>
  have hc:c∈dirtL ks L:=by rw [hd];simp
  obtain ⟨x,hx,hxd⟩:=(hmem c).1 hc
  rcases hs with ⟨_,h2⟩ | ⟨h1,⟨y,h2,h3,h4⟩,h5,_⟩
  ·have:=(h2 x (findP_some hx).1 hxd).1
   cases this
  ·obtain ⟨q1,q2,q3⟩:=minF_spec L (c::r) (firstOf L c)
   have hlo:(leastR L (0,false)).1<=(c::r).foldl (minF L) (firstOf L c):=by
    have:∃d∈dirtL ks L,(c::r).foldl (minF L) (firstOf L c)=firstOf L d:=by
     rcases q3 with q3 | ⟨d,q4,q5⟩
     ·exact ⟨c,hc,q3⟩
     ·exact ⟨d,by rw [hd];exact q4,q5⟩
    obtain ⟨d,hdm,e⟩:=this
    obtain ⟨y,hy,hyd⟩:=(hmem d).1 hdm
    rw [e,hfirst d y hy]
    exact h5 y (findP_some hy).1 hyd
   have hhi:(c::r).foldl (minF L) (firstOf L c)<=(leastR L (0,false)).1:=by
    have hy:=findP_of h.nd h2
    have hym:=(hmem y.page).2 ⟨y,hy,h3⟩
    rw [hd] at hym
    have:=q2 y.page hym
    rw [hfirst _ _ hy] at this
    omega
   have e1:(c::r).foldl (minF L) (firstOf L c)=(leastR L (0,false)).1:=by omega
   dsimp only
   rw [e1,<-h1]
theorem clean_filter:∀(r:List Int) (s:List Pg × Ws × Nat),r.Nodup->cleanF sure r s=cleanF sure (r.filter (inB s.1 true)) s
 | [],s,_=>rfl
 | c::r,s,hn=>by
  obtain ⟨hn1,hn2⟩:=List.nodup_cons.1 hn
  have hstep:cleanF sure (c::r) s=cleanF sure r (clean1 sure s c):=rfl
  by_cases hc:inB s.1 true c=true
  ·rw [List.filter_cons_of_pos hc,hstep,clean_filter r _ hn2]
   show _=cleanF sure (r.filter (inB s.1 true)) (clean1 sure s c)
   congr 1
   refine List.filter_congr fun d hd=>?_
   have hdc:d≠c:=fun e=>hn1 (e ▸ hd)
   rcases clean1_cases sure s c with e | ⟨x,_,_,_,_,_,e⟩
   ·rw [e]
   ·rw [e]
    unfold inB
    have:findP (updP s.1 c washX) d=findP s.1 d:=by
     unfold findP updP
     rw [List.find?_map]
     have:((fun x:Pg=>x.page==d) ∘ fun y=>if y.page=c then washX y else y)=fun x:Pg=>x.page==d:=by
      funext y
      simp only [Function.comp]
      split<;>rfl
     rw [this]
     cases hf:List.find? (fun x:Pg=>x.page==d) s.1 with
     | none=>rfl
     | some y =>
      have hy:y.page=d:=by simpa using List.find?_some hf
      rw [Option.map_some,if_neg (by rw [hy];exact hdc)]
    rw [this]
  ·rw [List.filter_cons_of_neg hc,hstep]
   have e:clean1 sure s c=s:=by
    rcases clean1_cases sure s c with e | ⟨x,_,_,h3,_,h5,_⟩
    ·exact e
    ·exact absurd (by unfold inB;rw [h5];simpa using h3) hc
   rw [e,clean_filter r s hn2]
theorem clean_eq (h:Rep ar ks ix L) (g:Good pl (n:Int) L ws):cleanF sure (srt ks) (L,ws,0)=cleanF sure (pagesR L n true) (L,ws,0):=by
 have hn:(srt ks).Nodup:=(srt_perm ks).nodup_iff.2 (h.perm.nodup_iff.2 h.nd)
 rw [clean_filter _ _ hn,pages_eq h g,<-pagesR_true]
theorem rclean_ok (h:RRep a1 iy L) (g:Good pl (n:Int) L ws) (hn:n<=1000) (hw:ws.length<=80000) :
  ∃a1',RRep a1' iy (cleanF sure (pagesR L n true) (L,ws,0)).1/\icC qcfg ⟨false,false⟩ 31 [.ptr 2 0 0] (rpm a0 a1 pl sure (rowL iy L) (blank n) (wsV ws)) =
   some (mk31 ((cleanF sure (pagesR L n true) (L,ws,0)).2.2,a0,a1',pl,sure,rowL iy (cleanF sure (pagesR L n true) (L,ws,0)).1,blank n,wsV (cleanF sure (pagesR L n true) (L,ws,0)).2.1)):=by
 have hlen:=pagesR_len L n true
 have hin:∀c∈pagesR L n true,c∈pgs L:=fun c hc=>by
  obtain ⟨x,h1,_⟩:=inB_of (List.mem_filter.1 hc).2
  have:=findP_some h1
  exact List.mem_map.2 ⟨x,this.1,this.2⟩
 obtain ⟨a1',q1,q2⟩:=rclean_a (a0:=a0) (pl:=pl) (sure:=sure) (rpm a0 a1 pl sure (rowL iy L) (blank n) (wsV ws)) ⟨_,_,_,_,_,_,_,rfl⟩ hn (pagesR L n true) (by omega) h g.gd g.l100 (pagesR L n true) 0 (by omega) hin rfl
 refine ⟨a1',q1,e31_run _ _ _ _ _ _ _ ?_ q2⟩
 unfold e31
 rw [icM_of mk13_inj (rpages_ok h g.l100 true n (by omega))]
 rfl
theorem ddirty_loop (m0 m1:List V) (k0:Int) (hl:ws.length<=100000):∀(r:Ws) (k:Nat),ws.drop k=r ->
  Go qk true 5 fa17 (.head 0 (T17_0 (ws.length:Int) (k:Int) m0 m1 k0 [] (wsV ws) z (ints ((ws.take k).map (·.1))))) (.doneM (.own 6) [.arena 71 m0,.arena 74 m1,.box 52 (.agg [.int .i64 k0,.mp 3,.tail 4 0]) false,.map [],.row 83 (wsV ws) z,.row 3 [] 0,.row 3 (ints (ws.map (·.1))) 0])
 | [],k,h=>by
  have h0:=List.drop_eq_nil_iff.1 h
  refine s17_0_run _ _ _ _ _ _ _ _ _ ?_ (.refl _)
  unfold s17_0
  rw [decide_eq_false (by omega),cond_false,List.take_of_length_le (by omega)]
 | w::r,k,h=>by
  obtain ⟨h1,h2,h3⟩:=drop_cons h
  have go:=ddirty_loop m0 m1 k0 hl r (k+1) h3
  rw [List.take_add_one,h2,Option.toList_some,List.map_append,List.map_cons,List.map_nil,ints_app] at go
  refine s17_0_run _ _ _ _ _ _ _ _ _ ?_ go
  unfold s17_0
  rw [decide_eq_true (by omega),cond_true,gd_of (by simp),gd_of (decide_eq_true (by rw [wsV_len];exact h1)),wsV_get (by rw [Nat.zero_add];exact h2)]
  show gd (decide ((ints ((ws.take k).map (·.1))).length+([V.int .i64 w.1]:List V).length<=16777216)) _=_
  rw [gd_of (decide_eq_true (by rw [ints_len];simp;omega)),wi k (by omega)]
  rfl
theorem ddirty_ok (m0 m1:List V) (k0:Int) (hl:ws.length<=100000):icC qcfg ⟨true,true⟩ 17 [.ptr 2 0 0] [.arena 71 m0,.arena 74 m1,.box 52 (.agg [.int .i64 k0,.mp 3,.tail 4 0]) false,.map [],.row 83 (wsV ws) z] =
  some (mk17 ((ints (ws.map (·.1))).length,m0,m1,k0,[],wsV ws,z,ints (ws.map (·.1)))):=by
 refine e17_run _ _ _ _ _ _ ?_ ⟨_,_,ddirty_loop (z:=z) m0 m1 k0 hl ws 0 rfl,by kernel_rfl⟩
 unfold e17
 rw [wsV_len];rfl
end
section
variable {ar a0 a1:List V} {ks:List Int} {ix iy:Int->Nat} {L:List Pg} {ws:Ws} {z:Nat} {pl sure:Int} {p:Int} {n:Nat}
abbrev pbm (ar a1:List V) (pl sure n:Int) (mp:List (V × V)) (ages ws:List V) (z:Nat) (row l:List V):List O:=[.arena 71 ar,.arena 74 a1,.box 61 (.agg [.ptr 4 0 0,.int .i64 pl,.mp 5,.tail 6 0,.int .i64 sure]) false,.box 64 (.agg [.ptr 7 0 0,.int .i64 pl,.int .i64 sure,.tail 8 0]) false,.box 52 (.agg [.int .i64 n,.mp 9,.tail 10 0]) false,.map mp,.row 3 ages 0,.box 56 (.agg [.tail 11 0,.tail 12 0]) false,.row 75 row 0,.map [],.row 83 ws z,.row 9 l 0,.row 85 ws 0]
def cut3 (s:Bs):Bs:=s.take ((if 300 < (s.length:Int) then 300 else (s.length:Int)).toNat)
theorem cut3_fold (s:Bs):s.take ((if 300 < (s.length:Int) then 300 else (s.length:Int)).toNat)=cut3 s:=rfl
theorem gc1 (s:Bs):decide (0<=(if 300 < (s.length:Int) then 300 else (s.length:Int)))=true:=decide_eq_true (by split<;>omega)
theorem gc2 (s:Bs):decide ((if 300 < (s.length:Int) then 300 else (s.length:Int)).toNat<=s.length)=true:=decide_eq_true (by split<;>omega)
theorem play_ok (h:Rep ar ks ix L) (hr:RRep a1 iy L) (g:Good pl (n:Int) L ws) (hn:n<=1000) (hw:ws.length<=70000) (o:Op) :
  ∃ar' a1' ks' ix' iy' L' ws' z' sure',Rep ar' ks' ix' L'/\RRep a1' iy' L'/\Good pl (n:Int) L' ws'/\ws'.length<=ws.length+64 /\
   icC qcfg ⟨false,false⟩ 8 [.ptr 2 0 0,.ptr 3 0 0,opV o] (pbm ar a1 pl sure n (mpV ks ix) (ints (pgs L)) (wsV ws) z (rowL iy L) (blank n)) =
    some (mk8 (true,ar',a1',pl,sure',pl,sure',(n:Int),mpV ks' ix',[],ints (pgs L'),rowL iy' L',wsV ws',z',blank n,wsV ws')):=by
 have hLl:L.length<=64:=by have:=g.len;have:=g.pl;omega
 by_cases h0:o.kind=0
 ·obtain ⟨ar',ks',ix',z',q1,q2⟩:=pin_ok (a1:=a1) (sure:=sure) (z:=z) h g (by omega) o.page
  obtain ⟨a1',iy',q3,q4⟩:=rpin_ok (a0:=ar') (sure:=sure) hr g (by omega) o.page
  obtain ⟨q5,q6⟩:=g.pin (sure:=sure) h.nd o.page
  refine ⟨ar',a1',ks',ix',iy',_,_,z',sure,q1,q3,q5,by omega,e8_run _ _ _ _ _ _ _ _ _ _ _ _ _ _ _ _ _ _ _ (o:=.doneM (.bool true) ?m1) ?h1 (.done ?n1)⟩
  case h1 =>
   unfold e8
   rw [gc1,gd_true,gc2,gd_true,ibeq_t h0,cond_true,icM_of mk23_inj q2]
   dsimp only
   rw [icM_of mk24_inj q4]
   dsimp only
   rw [beq_self_eq_true,cond_true,beq_self_eq_true]
  case n1=>kernel_rfl
 by_cases h1:o.kind=1
 ·obtain ⟨ar',q1,q2⟩:=unpin_ok (a1:=a1) (pl:=pl) (sure:=sure) (n:=(n:Int)) (ws:=ws) (z:=z) h o.page
  obtain ⟨a1',q3,q4⟩:=runpin_ok (a0:=ar') (pl:=pl) (sure:=sure) (l:=blank n) (w:=wsV ws) hr g.l100 o.page
  have q5:=g.unpin o.page
  have hp:pgs (if heldE L o.page=0 then updP L o.page fun y=>{ y with pins:=W .i64 (y.pins - 1) } else L)=pgs L:=by
   split
   ·exact pgs_upd fun _=>rfl
   ·rfl
  refine ⟨ar',a1',ks,ix,iy,_,_,z,sure,q1,q3,q5,by omega,?_⟩
  rw [hp,rowL_pgs iy hp]
  refine e8_run _ _ _ _ _ _ _ _ _ _ _ _ _ _ _ _ _ _ _ (o:=.doneM (.bool true) ?m2) ?h2 (.done ?n2)
  case h2 =>
   unfold e8
   rw [gc1,gd_true,gc2,gd_true,ibeq_f h0,cond_false,ibeq_t h1,cond_true,icM_of mk25_inj q2]
   dsimp only
   rw [icM_of mk26_inj q4]
   dsimp only
   rw [beq_self_eq_true]
  case n2=>kernel_rfl
 by_cases h2:o.kind=2
 ·obtain ⟨ar',q1,q2⟩:=put_ok' (a1:=a1) (pl:=pl) (sure:=sure) (n:=(n:Int)) (ws:=ws) (z:=z) h o.page (cut3 o.s) o.n
  obtain ⟨a1',q3,q4⟩:=rput_ok (a0:=ar') (pl:=pl) (sure:=sure) (l:=blank n) (w:=wsV ws) hr g.l100 o.page (cut3 o.s) o.n
  have q5:=g.put o.page (cut3 o.s) o.n
  have hp:pgs (if putE L o.page (cut3 o.s) o.n=0 then updP L o.page (putX (cut3 o.s) o.n) else L)=pgs L:=by
   split
   ·exact pgs_upd fun _=>rfl
   ·rfl
  refine ⟨ar',a1',ks,ix,iy,_,_,z,sure,q1,q3,q5,by omega,?_⟩
  rw [hp,rowL_pgs iy hp]
  refine e8_run _ _ _ _ _ _ _ _ _ _ _ _ _ _ _ _ _ _ _ (o:=.doneM (.bool true) ?m3) ?h3 (.done ?n3)
  case h3 =>
   unfold e8
   rw [gc1,gd_true,gc2,gd_true,ibeq_f h0,cond_false,ibeq_f h1,cond_false,ibeq_t h2,cond_true,cut3_fold,icM_of mk27_inj q2]
   dsimp only
   rw [icM_of mk28_inj q4]
   dsimp only
   rw [beq_self_eq_true]
  case n3=>kernel_rfl
 by_cases h3:o.kind=3
 ·refine ⟨ar,a1,ks,ix,iy,L,ws,z,(if sure < o.n then o.n else sure),h,hr,g,by omega,e8_run _ _ _ _ _ _ _ _ _ _ _ _ _ _ _ _ _ _ _ (o:=.doneM (.bool true) ?m4) ?h4 (.done ?n4)⟩
  case h4 =>
   unfold e8
   rw [gc1,gd_true,gc2,gd_true,ibeq_f h0,cond_false,ibeq_f h1,cond_false,ibeq_f h2,cond_false,ibeq_t h3,cond_true]
  case n4=>kernel_rfl
 ·obtain ⟨ar',q1,q2⟩:=clean_ok (a1:=a1) (pl:=pl) (sure:=sure) (z:=z) h g.gd (by omega) (g.in64 (by omega)) (by omega)
  obtain ⟨a1',q3,q4⟩:=rclean_ok (a0:=ar') (sure:=sure) hr g hn (by omega)
  obtain ⟨q5,q6⟩:=g.clean (sure:=sure) (srt ks) 0
  have hl:=len_cleanF sure (srt ks) (L,ws,0)
  rw [srt_len h] at hl
  rw [<-clean_eq h g] at q3 q4
  simp only at hl
  refine ⟨ar',a1',ks,ix,iy,_,_,z,sure,q1,q3,q5,by omega,?_⟩
  rw [q6]
  refine e8_run _ _ _ _ _ _ _ _ _ _ _ _ _ _ _ _ _ _ _ (o:=.doneM (.bool true) ?m5) ?h5 (.done ?n5)
  case h5 =>
   unfold e8
   rw [gc1,gd_true,gc2,gd_true,ibeq_f h0,cond_false,ibeq_f h1,cond_false,ibeq_f h2,cond_false,ibeq_f h3,cond_false,icM_of mk30_inj q2]
   dsimp only
   rw [icM_of mk31_inj q4]
   dsimp only
   rw [beq_self_eq_true]
  case n5=>kernel_rfl
theorem intsE (a:List Int) (hl:a.length < 4294967296) (q:V->R):pcK qcfg 11 [.sl (ints a),.sl (ints a)] q=q (.bool true):=by
 have:=intsR_ok a a hl
 rw [beq_self_eq_true] at this
 exact pcK_of this
abbrev TD (sc:List V) (i:Nat) (n:Nat) (pl sure:Int) (ar a1:List V) (ks:List Int) (ix iy:Int->Nat) (L:List Pg) (ws:Ws) (z:Nat):Out :=
 .head 0 (T3_0d sc (i:Int) ar a1 (n:Int) pl sure pl sure [] (wsV ws) z (blank n) (wsV ws) (mpV ks ix) (ints (pgs L)) (rowL iy L))
abbrev TI (sc:List V) (i k:Nat) (n:Nat) (pl sure:Int) (ar a1:List V) (ks:List Int) (ix iy:Int->Nat) (L:List Pg) (ws:Ws) (z:Nat):Out :=
 .head 1 (T3_1 sc (i:Int) (k:Int) ar a1 (n:Int) pl sure pl sure [] (wsV ws) z (blank n) (wsV ws) (mpV ks ix) (ints (pgs L)) (rowL iy L))
theorem does_out (ops:List Op) (hn:8<=n/\n<=1000):∀(d i:Nat) (sure:Int) (ar a1:List V) (ks:List Int) (ix iy:Int->Nat) (L:List Pg) (ws:Ws) (z:Nat),i+d=80->ws.length<=64 * i->Rep ar ks ix L->RRep a1 iy L->Good pl (n:Int) L ws ->
  ∃m,Go qk true 2 fa3 (TD (ops.map opV) i n pl sure ar a1 ks ix iy L ws z) (.doneM (.bool true) m):=by
 intro d
 induction d with
 | zero =>
  intro i sure ar a1 ks ix iy L ws z hi hw h hr g
  apply Exists.intro
  refine s3_0d_run _ _ _ _ _ _ _ _ _ _ _ _ _ _ _ _ _ (o:=.doneM (.bool true) [.arena 71 ar,.arena 74 a1,.box 52 (.agg [.int .i64 (n:Int),.mp 6,.tail 7 0]) false,.box 56 (.agg [.tail 8 0,.tail 9 0]) false,.box 61 (.agg [.ptr 2 0 0,.int .i64 pl,.mp 10,.tail 11 0,.int .i64 sure]) false,.box 64 (.agg [.ptr 3 0 0,.int .i64 pl,.int .i64 sure,.tail 12 0]) false,.map [],.row 83 (wsV ws) z,.row 9 (blank n) 0,.row 85 (wsV ws) 0,.map (mpV ks ix),.row 3 (ints (pgs L)) 0,.row 75 (rowL iy L) 0]) ?_ (.refl _)
  unfold s3_0d
  rw [decide_eq_false (show ¬(i:Int) < 80 by omega),cond_false,pcK_of fixedL_ok,kB_mk]
  cases decide ((i:Int) < ((ops.map opV).length:Int))<;>rfl
 | succ d ih =>
  intro i sure ar a1 ks ix iy L ws z hi hw h hr g
  by_cases hlt:i < ops.length
  ·obtain ⟨o,ho⟩:∃o,ops[i]? = some o:=⟨_,List.getElem?_eq_getElem hlt⟩
   obtain ⟨ar',a1',ks',ix',iy',L',ws',z',sure',q1,q2,q3,q4,q5⟩:=play_ok (sure:=sure) (z:=z) h hr g hn.2 (by omega) o
   have hL:=q3.l100
   have h64:=q3.in64 (n:=(n:Int)) (by omega)
   have hlen:=pagesR_len L' n
   obtain ⟨kd,rowd,d1,d2,d3,d4⟩:=dirty_ok (a1:=a1') (pl:=pl) (sure:=sure') (n:=(n:Int)) (ws:=ws') (z:=z') q1 hL h64
   obtain ⟨rowr,r1,r2,r3⟩:=rdirty_ok (m0:=ar') (m1:=a1') (n:=n) (ws:=ws') (by omega)
   have hdl:=dirt_eq q1 q3
   have hget:∀q:V->R,idxK (ops.map opV) ((i:Int)).toNat q=q (opV o):=fun q=>idxK_of (by show (ops.map opV)[i]? = _;rw [List.getElem?_map,ho];rfl)
   have c1:∃m,Go qk true 2 fa3 (TI (ops.map opV) i 0 n pl sure' ar' a1' ks' ix' iy' L' ws' z') (.doneM (.bool true) m):=by
    obtain ⟨m,hm⟩:=ih (i+1) sure' ar' a1' ks' ix' iy' L' ws' ws'.length (by omega) (by omega) q1 q2 q3
    refine ⟨m,s3_1_run _ _ _ _ _ _ _ _ _ _ _ _ _ _ _ _ _ _ (o:=TI (ops.map opV) i 1 n pl sure' ar' a1' ks' ix' iy' L' ws' ws'.length) ?_ ?_⟩
    ·unfold s3_1
     rw [decide_eq_true (by omega),cond_true,icM_of mk19_inj (raw_ok ar' a1' (n:Int) ws' z' ((0:Nat):Int) (by omega) (by omega) (by omega))]
     dsimp only
     rw [icM_of mk20_inj (rraw_ok (m0:=ar') (m1:=a1') (n:=n) (ws:=ws') (by omega) ((0:Nat):Int) (by omega) (by omega))]
     dsimp only
     rw [beq_self_eq_true,Bool.not_true,cond_false];rfl
    ·have:∀(d k:Nat),k+d=8->Go qk true 2 fa3 (TI (ops.map opV) i k n pl sure' ar' a1' ks' ix' iy' L' ws' ws'.length) (.doneM (.bool true) m):=by
      intro d
      induction d with
      | zero =>
       intro k hk
       refine s3_1_run _ _ _ _ _ _ _ _ _ _ _ _ _ _ _ _ _ _ ?_ hm
       unfold s3_1
       rw [decide_eq_false (by omega),cond_false,wi i (by omega)]
      | succ d ihd =>
       intro k hk
       refine s3_1_run _ _ _ _ _ _ _ _ _ _ _ _ _ _ _ _ _ _ ?_ (ihd (k+1) (by omega))
       unfold s3_1
       rw [decide_eq_true (by omega),cond_true,icM_of mk19_inj (raw_ok ar' a1' (n:Int) ws' _ (k:Int) (by omega) (by omega) (by omega))]
       dsimp only
       rw [icM_of mk20_inj (rraw_ok (m0:=ar') (m1:=a1') (n:=n) (ws:=ws') (by omega) (k:Int) (by omega) (by omega))]
       dsimp only
       rw [beq_self_eq_true,Bool.not_true,cond_false,wi k (by omega)]
     exact this 7 1 rfl
   obtain ⟨m,c1⟩:=c1
   refine ⟨m,s3_0d_run _ _ _ _ _ _ _ _ _ _ _ _ _ _ _ _ _ ?_ c1⟩
   unfold s3_0d
   rw [decide_eq_true (show (i:Int) < ((ops.map opV).length:Int) by simp;omega),cond_true,decide_eq_true (show (i:Int) < 80 by omega),cond_true,gd_of (by simp),hget,d31_op]
   rw [show (V.agg [V.int .i64 o.kind,V.int .i64 o.page,V.str o.s,V.int .i64 o.n])=opV o from rfl,icM_of mk8_inj q5]
   dsimp only
   rw [Bool.not_true,cond_false,icM_of mk9_inj (least_ok q1 hL h64)]
   dsimp only
   rw [icM_of mk10_inj (rleast_ok (a0:=ar') (pl:=pl) (sure:=sure') (l:=blank n) (w:=wsV ws') q2 hL)]
   dsimp only
   rw [least_eq q1 q3,bne_self_eq_false,cond_false,beq_self_eq_true,Bool.not_true,cond_false,icM_of mk12_inj (pages_ok q1 hL h64)]
   dsimp only
   rw [icM_of mk13_inj (rpages_ok (a0:=ar') (pl:=pl) (sure:=sure') (w:=wsV ws') q2 hL false n (by omega))]
   dsimp only
   have e1:((ints (pagesR L' n false)).drop 0).take (ints (pagesR L' n false)).length=ints (pagesR L' n false):=by rw [List.drop_zero,List.take_length]
   rw [gd_of (by simp),e1,pages_eq q1 q3,intsE _ (by have:=hlen false;omega),kB_mk,Bool.not_true,cond_false,icM_of mk14_inj d4]
   dsimp only
   rw [icM_of mk13_inj (rpages_ok (a0:=ar') (pl:=pl) (sure:=sure') (w:=wsV ws') q2 hL true n (by omega))]
   dsimp only
   have e2:((ints (pagesR L' n true)).drop 0).take (ints (pagesR L' n true)).length=ints (pagesR L' n true):=by rw [List.drop_zero,List.take_length]
   rw [gd_of (decide_eq_true (by omega)),gd_of (by simp),e2,List.drop_zero,d1,hdl,intsE _ (by have:=hlen true;omega),kB_mk,Bool.not_true,cond_false,gd_of (by simp),hget,d31_op,icM_of mk15_inj (pins_ok q1 o.page)]
   dsimp only
   rw [gd_of (by simp),hget,d31_op,icM_of mk16_inj (rpins_ok (a0:=ar') (pl:=pl) (sure:=sure') (l:=blank n) (w:=wsV ws') q2 hL o.page)]
   dsimp only
   rw [bne_self_eq_false,cond_false,icM_of mk17_inj (ddirty_ok ar' a1' (n:Int) (by omega))]
   dsimp only
   rw [icM_of mk18_inj r3]
   dsimp only
   have e3:((ints (ws'.map (·.1))).drop 0).take (ints (ws'.map (·.1))).length=ints (ws'.map (·.1)):=by rw [List.drop_zero,List.take_length]
   rw [gd_of (by simp),gd_of (decide_eq_true (by omega)),e3,List.drop_zero,r1,intsE _ (by rw [List.length_map];omega),kB_mk,Bool.not_true,cond_false]
   rfl
  ·apply Exists.intro
   refine s3_0d_run _ _ _ _ _ _ _ _ _ _ _ _ _ _ _ _ _ ?_ (.refl _)
   unfold s3_0d
   rw [decide_eq_false (by simp;omega),cond_false,pcK_of fixedL_ok,kB_mk]
theorem poolDoes_ok (pl:Int) (ops:List Op) (hpl:plainL [.int .i64 pl,.sl (ops.map opV)]=true):pcW qcfg 3 [.int .i64 pl,.sl (ops.map opV)]=some (.bool true):=by
 obtain ⟨q,hq,eq⟩:=and7 pl
 have hW:W .i64 (1+(q:Int))=((q+1:Nat):Int):=by rw [W_i64 (by omega)];omega
 obtain ⟨m,c⟩:=does_out (pl:=((q+1:Nat):Int)) (n:=8) ops (by omega) 80 0 0 [] [] [] (fun _=>0) (fun _=>0) [] [] 0 rfl (by simp) Rep.mt ⟨List.nodup_nil,by simp,by simp⟩ (Good.mt (by omega))
 refine law_run rfl fa3_eq rfl rfl ?_ rfl ((e3_eq _ _).trans ?_) c
 ·unfold arsOk
  rw [hpl];rfl
 ·unfold e3
  have k:=rnew_ok (m0:=[]) (m1:=[]) (n:=8) (by omega) (by omega)
  rw [show ((8:Nat):Int)=(8:Int) from rfl] at k
  rw [icM_of mk5_inj k]
  dsimp only
  rw [eq,hW,bne_self_eq_false,cond_false,decide_eq_false (show ¬((q+1:Nat):Int) < 1 by omega),decide_eq_false (show ¬((q+1:Nat):Int) > 64 by omega)]
  rfl
end
set_option maxHeartbeats 4000000 in
set_option maxRecDepth 100000 in
theorem delWI:DelW Tryz.prog 66 42 3:=by
 have hce:Tryz.prog.cellsOf 3=1:=by kernel_rfl
 have mixed:Tryz.prog.follows .mixedOrders=true:=by kernel_rfl
 have t22:Tryz.prog.underlying 42=some (.slice 3):=by kernel_rfl
 refine ⟨t22,by kernel_rfl,?_,?_,?_⟩
 ·intro i z hi hz
  have h1:(Tryz.prog.info? 3).bind (·.zero)=some (.int .i64 0):=by kernel_rfl
  rw [hi] at h1
  simp only [Option.bind_some,hz,Option.some.injEq] at h1
  subst h1
  intro v hv
  simp [Value.cells] at hv
  subst hv;rfl
 ·intro A n c i w hin hnc hc63 hA0 hA1
  cases A with
  | none =>
   obtain ⟨rfl,rfl⟩:=hA0 rfl
   have:i=0:=by omega
   subst this
   go_enter Tryz.func66,Tryz.ntmps66
   go_wp2
   all_goals (go_ret;exact ⟨rfl,rfl⟩)
  | some a =>
   obtain ⟨g,q,rfl⟩:=hA1 a rfl
   go_enter Tryz.func66,Tryz.ntmps66
   go_wp2
   all_goals (go_ret;exact ⟨rfl,rfl⟩)
 ·intro g q n c i jj w w2 w3 k hij hjn hnc hc63 hap hcl
  rw [hce] at hap hcl
  simp only [Nat.mul_one] at hap hcl
  have hz1:¬((i:Int)=(jj:Int)):=by omega
  have hin:i<=n:=by omega
  have hij':i<=jj:=by omega
  have hb1:¬(c=i):=by omega
  have hb2:i+(n - jj)<=n:=by omega
  have hb3:¬(c=i+(n - jj)):=by omega
  have hic:i<=c:=by omega
  have hjc':jj<=c:=by omega
  have hbc:i+(n - jj)<=c:=by omega
  have hnij:(i:Int)+((n - jj:Nat):Int)<=(n:Int):=by omega
  by_cases hjc:c=jj
  ·have hn:n=jj:=by omega
   subst hn
   subst hjc
   have hap':=fun ty=>hap ty (some ⟨g,q,none⟩) 0 (fun h=>absurd h (by omega))
   simp only [Nat.sub_self,Nat.add_zero] at hap' hcl |-
   go_enter Tryz.func66,Tryz.ntmps66
   go_wp2
   go_region_law_o (refine step_append_run rfl _ _ 42 42 rfl (.slice (some ⟨g,q,none⟩) i c) (.slice (some ⟨g,q,none⟩) 0 0) (by simp [Act.eval,Act.put]) (by simp [Act.eval,Act.put]) (hap' 42) ?_)
   go_wp2
   go_ret
   exact ⟨rfl,rfl⟩
  ·go_enter Tryz.func66,Tryz.ntmps66
   go_wp2
   go_region_law_o (refine step_append_run rfl _ _ 42 42 rfl (.slice (some ⟨g,q,none⟩) i c) (.slice (some ⟨g,q+jj,none⟩) (n - jj) (c - jj)) (by simp [Act.eval,Act.put]) (by simp [Act.eval,Act.put]) (hap 42 (some ⟨g,q+jj,none⟩) (c - jj) (fun _=>rfl)) ?_)
   go_wp2
   go_ret
   exact ⟨rfl,rfl⟩
set_option maxHeartbeats 4000000 in
set_option maxRecDepth 100000 in
theorem overW:OverW Tryz.prog 98 9 97 5:=by
 have mixed:Tryz.prog.follows .mixedOrders=true:=by kernel_rfl
 have ts:Tryz.prog.underlying 9=some .string:=by kernel_rfl
 have tr:Tryz.prog.underlying 97=some (.slice 5):=by kernel_rfl
 have tb:Tryz.prog.underlying 5=some (.int .u8):=by kernel_rfl
 refine ⟨ts,tr,tb,by kernel_rfl,?_⟩
 intro b n L c A w w2 r hn hcap hcopy hconv
 have hcopy1:=fun ty=>hcopy ty n (.inl rfl)
 have hcopy2:grownCap w b.size 0 5=n->∀ty,_:=fun h ty=>hcopy ty 0 (.inr h)
 have hrun:=Lib.run_convert_string_bytes w 9 97 5 b ts tr tb
 go_enter Tryz.func98,Tryz.ntmps98
 by_cases hcn:grownCap w b.size 0 5=n
 ·have hcopy3:=hcopy2 hcn
  clear hcopy2
  rw [hcn] at hrun hcopy3 hcopy1 hconv hcap
  rw [Nat.sub_self,show b.size - n=0 by omega] at hcopy3 hcopy1
  clear hcopy hcn
  go_wp2
  go_ret
  exact ⟨rfl,rfl⟩
 ·clear hcopy hcopy2
  go_wp2
  go_ret
  exact ⟨rfl,rfl⟩
open Go Go.RowKit Go.Shelf
 attribute [local go_sem] Oper.semAt_some
set_option maxRecDepth 100000 in
set_option maxHeartbeats 4000000 in
theorem back1_in (l B1 o1 n1 c1:Nat) (A1:Option Addr) (fa fb:Nat->Value) (I:Nat->World->Prop) (Ix:World->Prop) (hn:n1<=16777216)
  (h1:∀k W,I k W->W.cell? ⟨B1,o1,none⟩=some (.slice A1 n1 c1))
  (hx:∀k,k < n1->∃b1 p1,A1=some ⟨b1,p1,none⟩/\∀W m,I m W->W.cell? ⟨b1,p1+k * 2,none⟩=some (fa k)/\W.cell? ⟨b1,p1+k * 2+1,none⟩=some (fb k))
  (hY:∀k W,k < n1->I k W->YieldAt Fence.wide 0 Tryz.prog l #[.int .i64 ((n1:Int) - 1 - (k:Int)),(.agg #[fa (n1 - 1 - k),fb (n1 - 1 - k)])] W fun e W2=>(e = .returned (.bool true)/\I (k+1) W2)∨(e = .returned (.bool false)/\Ix W2))
  (W:World) (h0:I 0 W) :
  CallsIn Fence.wide 1 Tryz.prog 60 #[.func (.yield l) #[] #[],.pointer (some ⟨B1,o1,none⟩)] W fun e W'=>(∃v,e = .returned v)/\(I n1 W'∨Ix W'):=by
 have g1:=h1 0 W h0
 refine callsIn_of_wp Tryz.func60 rfl trivial ?_ rfl
 simp only [Tryz.ntmps60,List.size_toArray,List.length_cons,List.length_nil,Nat.reduceAdd,Nat.reduceSub,Array.replicate_succ,Array.replicate_zero,List.push_toArray,List.append_toArray,List.nil_append,List.cons_append]
 gi_wp2
 gi_loopw [3] (fun i wr=>∃k:Nat,k<=n1/\i = .int .i64 ((n1:Int) - 1 - (k:Int))/\I k wr)
  (fun i _=>(intOf i+1).toNat)
 case atStart=>exact ⟨0,Nat.zero_le _,by simp,h0⟩
 case round =>
  obtain ⟨k,hk,rfl,hI⟩:=hrel
  by_cases hlt:k < n1
  ·obtain ⟨b1,p1,rfl,hcell⟩:=hx (n1 - 1 - k) (by omega)
   have hY2:=hY k wr hlt hI
   obtain ⟨fn,tmps,assign,body,hy,hR⟩:=hY2
   obtain ⟨q3,q4⟩:=hcell wr k hI
   have q1:=h1 k wr hI
   have e1:((n1 - 1 - k:Nat):Int)=(n1:Int) - 1 - (k:Int):=by omega
   have e2:((n1:Int) - 1 - (k:Int)).toNat=n1 - 1 - k:=by omega
   have e3:((n1:Int) - 1 - (k:Int)) ≥ 0:=by omega
   clear h1 hx hY hcell g1 h0
   gi_wp2
   refine hR.mono ?_
   rintro e W3 (⟨rfl,hJ3⟩ | ⟨rfl,hJx3⟩)
   ·gi_wp2
    go_roundw
    case rel=>exact ⟨k+1,by omega,by simp;omega,hJ3⟩
    case measure=>simp [intOf];omega
   ·gi_wp2
    refine bodyPost_ret (results_none rfl _ _ _) rfl ?_
    exact ⟨⟨_,rfl⟩,.inr hJx3⟩
  ·obtain rfl:k=n1:=by omega
   clear h1 hx hY g1 h0
   gi_wp2
   go_end0
   exact ⟨⟨_,rfl⟩,.inl hI⟩
open Go Go.Lite
theorem row_read2 {P:Program} {Z:Zs} {w:World} {a:List V} {u:Value} (h:VR Z w j0 (.sl a) u) (h1:a.all pairV=true) :
  ∃(A:Option Addr) (c:Nat) (fa fb:Nat->Value),u = .slice A a.length c/\∀k x,a[k]? = some x->VR Z w j0 x (.agg #[fa k,fb k])/\∃g b,A=some ⟨g,b,none⟩/\Z g (b+k * 2)/\Z g (b+k * 2+1)/\w.cell? ⟨g,b+k * 2,none⟩=some (fa k)/\w.cell? ⟨g,b+k * 2+1,none⟩=some (fb k):=by
 rcases h.slInv with ⟨A,c,rfl,rfl⟩ | ⟨g,b,c,sz,rfl,_,hsz,hh⟩
 ·exact ⟨A,c,fun _=>default,fun _=>default,rfl,fun k x hk=>by simp at hk⟩
 ·refine ⟨some ⟨g,b,none⟩,c,fun k=>(w.cell? ⟨g,b+k * 2,none⟩).getD default,fun k=>(w.cell? ⟨g,b+k * 2+1,none⟩).getD default,rfl,fun k x hk=>?_⟩
  have hone:pairV x=true:=List.all_eq_true.1 h1 x (List.mem_of_getElem? hk)
  obtain ⟨l1,l2,l3⟩:=hh k x hk
  unfold pairV at hone
  split at hone
  rotate_left
  ·cases hone
  rename_i x1 x2
  have e:V.cells (.agg [x1,x2])=[x1,x2]:=rfl
  rw [e] at l1 l3
  have:sz=2:=l1.symm
  subst this
  obtain ⟨_,u1,hu1,hv1⟩:=l3 0 x1 rfl
  obtain ⟨_,u2,hu2,hv2⟩:=l3 1 x2 rfl
  rw [Nat.add_zero] at hu1
  have hz1:=l2 0 (by decide)
  have hz2:=l2 1 (by decide)
  rw [Nat.add_zero] at hz1
  dsimp only
  rw [hu1,hu2]
  refine ⟨?_,g,b,rfl,hz1,hz2,?_,?_⟩
  ·exact .agg (us:=[u1,u2]) rfl fun i c u hc hu=>by
    match i,hc,hu with
    | 0,hc,hu=>simp at hc hu;subst hc;subst hu;exact hv1
    | 1,hc,hu=>simp at hc hu;subst hc;subst hu;exact hv2
    | i+2,hc,hu=>simp at hc
  ·rw [hu1];rfl
  ·rw [hu2];rfl
theorem seq_ok:SeqOK Tryz.prog qseq:=by
 intro f ts h xs rounds hf hr Z w us hzin ha
 unfold qseq at hf
 split at hf
 rotate_left
 ·cases hf
 rename_i e
 subst e
 cases hf
 unfold backP at hr
 split at hr
 rotate_left
 ·cases hr
 rename_i a
 split at hr
 rotate_left
 ·cases hr
 rename_i hc
 obtain ⟨hlen,hpair⟩:=hc
 cases hr
 obtain ⟨hl,hv⟩:=ha
 match us,hl,hv with
 | [u1],hl,hv =>
 have v1:=hv 0 _ u1 rfl rfl
 refine ⟨Go.Proofs.enters_of Tryz.func60 (by kernel_rfl) rfl,?_⟩
 cases v1 with
 | ref f1 c1 d1 =>
 rename_i B1 o1
 obtain ⟨_,z1,e1⟩:=c1 0 (.sl a) rfl
 obtain ⟨A1,p1,fa,fb,w1,r1⟩:=row_read2 (P:=Tryz.prog) (d1 0 (.sl a) rfl) hpair
 rw [w1] at e1
 have hbl:(backsR a).length=a.length:=by simp [backsR]
 have hbg:∀k x,(backsR a)[k]? = some x->∃y,a[a.length - 1 - k]? = some y/\k < a.length/\x=[.int .i64 ((a.length - 1 - k:Nat):Int),y]:=by
  intro k x hx
  have hk:k < a.length:=by rw [<-hbl];exact (List.getElem?_eq_some_iff.1 hx).1
  unfold backsR at hx
  rw [List.getElem?_reverse (by simpa using hk)] at hx
  simp only [List.length_map,List.length_zipIdx,List.getElem?_map,List.getElem?_zipIdx] at hx
  have hy:a[a.length - 1 - k]? = some a[a.length - 1 - k]:=List.getElem?_eq_getElem (by omega)
  rw [hy] at hx
  simp at hx
  refine ⟨_,hy,hk,?_⟩
  rw [<-hx]
 refine ⟨(List.range a.length).map fun k:Nat=>[.int .i64 ((a.length:Int) - 1 - (k:Int)),.agg #[fa (a.length - 1 - k),fb (a.length - 1 - k)]],by simp [hbl],?_,?_⟩
 ·intro k x u hx hu
  obtain ⟨y,hy,hk,rfl⟩:=hbg k x hx
  rw [List.getElem?_map,List.getElem?_range hk] at hu
  simp at hu
  subst hu
  refine ⟨rfl,fun i y' v hy' hv'=>?_⟩
  match i,hy',hv' with
  | 0,hy',hv' =>
   simp at hy' hv';subst hy';subst hv'
   have:((a.length - 1 - k:Nat):Int)=(a.length:Int) - 1 - (k:Int):=by omega
   rw [this];exact .int
  | 1,hy',hv'=>simp at hy' hv';subst hy';subst hv';exact (r1 _ y hy).1
  | i+2,hy',hv'=>simp at hy'
 ·intro l I Ix W hI hIx hK hY h0
  have hY':∀k W,k < a.length->I k W->YieldAt Fence.wide 0 Tryz.prog l #[.int .i64 ((a.length:Int) - 1 - (k:Int)),.agg #[fa (a.length - 1 - k),fb (a.length - 1 - k)]] W fun e W2=>(e = .returned (.bool true)/\I (k+1) W2)∨(e = .returned (.bool false)/\Ix W2):=by
   intro k W hk1 hi
   exact hY k [.int .i64 ((a.length:Int) - 1 - (k:Int)),.agg #[fa (a.length - 1 - k),fb (a.length - 1 - k)]] W (by rw [List.getElem?_map,List.getElem?_range hk1];rfl) hi
  have hx:∀k,k < a.length->∃b1 p1,A1=some ⟨b1,p1,none⟩/\∀W m,I m W->W.cell? ⟨b1,p1+k * 2,none⟩=some (fa k)/\W.cell? ⟨b1,p1+k * 2+1,none⟩=some (fb k):=by
   intro k hk1
   obtain ⟨_,g1,q1,m1,m2,m3,m4,m5⟩:=r1 k a[k] (by simp [hk1])
   exact ⟨g1,q1,m1,fun W m hi=>⟨((hK m W hi).2 _ _ m2).trans m4,((hK m W hi).2 _ _ m3).trans m5⟩⟩
  have:=back1_in l B1 (o1+0) a.length p1 A1 fa fb I Ix hlen (fun k W hi=>((hK k W hi).2 _ _ z1).trans e1) hx hY' W h0
  have:=(callsIn_wide (n:=1)).1 this
  simp only [List.length_map,List.length_range]
  exact this
open Go Go.Proofs
set_option maxRecDepth 100000
def keysL_ren:Go.Shelf.Ren:=⟨fun | 7=>33 | 10=>58 | n=>n,fun | 23=>59 | 26=>3 | 3=>72 | 28=>78 | 0=>0 | 27=>77 | 33=>81 | 4=>4 | n=>n,fun | n=>n⟩
theorem keysL:Go.Proofs.SlLaysZI.n7 Tryz.prog keysL_ren where
 mixed:=by kernel_rfl
 f7:=⟨"maps.Keys[map[int]*budwood/pool.place,int,*budwood/pool.place]",by decide,Tryz.func33.trans (congrArg some (by kernel_rfl))⟩
 f10:=⟨"maps.Keys[map[int]*budwood/pool.place,int,*budwood/pool.place]$1",by decide,Tryz.func58.trans (congrArg some (by kernel_rfl))⟩
 t0:=Tryz.underlying0
 a0:=Tryz.isAgg0
 z0:=Tryz.sizeOf0
 v0:=Tryz.zeroValue0
 t4:=Tryz.underlying4
 a4:=Tryz.isAgg4
 z4:=Tryz.sizeOf4
 v4:=Tryz.zeroValue4
 t23:=Tryz.underlying59
 a23:=Tryz.isAgg59
 z23:=Tryz.sizeOf59
 v23:=Tryz.zeroValue59
 t26:=Tryz.underlying3
 a26:=Tryz.isAgg3
 z26:=Tryz.sizeOf3
 v26:=Tryz.zeroValue3
 t27:=Tryz.underlying77
 a27:=Tryz.isAgg77
 z27:=Tryz.sizeOf77
 v27:=Tryz.zeroValue77
 t28:=Tryz.underlying78
 a28:=Tryz.isAgg78
 z28:=Tryz.sizeOf78
 v28:=Tryz.zeroValue78
 t33:=Tryz.underlying81
 a33:=Tryz.isAgg81
 z33:=Tryz.sizeOf81
 v33:=Tryz.zeroValue81
def sortedL_ren:Go.Shelf.Ren:=⟨fun | 6=>32 | 8=>56 | 9=>57 | 11=>71 | 13=>73 | 12=>72 | 23=>86 | 24=>87 | 14=>77 | 15=>78 | 16=>79 | 17=>80 | 18=>81 | 19=>82 | 20=>83 | 21=>84 | 22=>85 | 25=>92 | 26=>93 | 27=>94 | 28=>95 | 29=>96 | 30=>97 | 31=>101 | n=>n,fun | 26=>3 | 28=>78 | 24=>42 | 0=>0 | 3=>3 | 37=>113 | 48=>92 | 50=>91 | 4=>4 | 40=>118 | 39=>117 | 45=>39 | 5=>5 | 9=>9 | 51=>128 | 55=>132 | 57=>137 | 58=>138 | 33=>81 | n=>n,fun | n=>n⟩
theorem sortedL:Go.Proofs.SlLaysZI.n6 Tryz.prog sortedL_ren where
 mixed:=by kernel_rfl
 f6:=⟨"slices.Sorted[int]",by decide,Tryz.func32.trans (congrArg some (by kernel_rfl))⟩
 f8:=⟨"slices.Collect[int]",by decide,Tryz.func56.trans (congrArg some (by kernel_rfl))⟩
 f11:=⟨"slices.AppendSeq[[]int,int]",by decide,Tryz.func71.trans (congrArg some (by kernel_rfl))⟩
 t0:=Tryz.underlying0
 a0:=Tryz.isAgg0
 z0:=Tryz.sizeOf0
 v0:=Tryz.zeroValue0
 t24:=Tryz.underlying42
 a24:=Tryz.isAgg42
 z24:=Tryz.sizeOf42
 v24:=Tryz.zeroValue42
 t26:=Tryz.underlying3
 a26:=Tryz.isAgg3
 z26:=Tryz.sizeOf3
 v26:=Tryz.zeroValue3
 t28:=Tryz.underlying78
 a28:=Tryz.isAgg78
 z28:=Tryz.sizeOf78
 v28:=Tryz.zeroValue78
 i26:=by kernel_rfl
def sortL_ren:Go.Shelf.Ren:=⟨fun | 5=>57 | 8=>73 | 7=>72 | 19=>86 | 20=>87 | 10=>77 | 11=>78 | 12=>79 | 13=>80 | 14=>81 | 15=>82 | 16=>83 | 17=>84 | 18=>85 | 30=>92 | 31=>93 | 32=>94 | 33=>95 | 34=>96 | 35=>97 | 40=>101 | n=>n,fun | 23=>42 | 25=>3 | 3=>3 | 32=>113 | 22=>42 | 0=>0 | 44=>92 | 46=>91 | 4=>4 | 36=>118 | 35=>117 | 41=>39 | 5=>5 | 9=>9 | 53=>128 | 57=>132 | 63=>137 | 64=>138 | n=>n,fun | n=>n⟩
theorem sortL:Go.Proofs.SlLaysM.n5 Tryz.prog sortL_ren where
 mixed:=by kernel_rfl
 f5:=⟨"slices.Sort[[]int,int]",by decide,Tryz.func57.trans (congrArg some (by kernel_rfl))⟩
 f7:=⟨"slices.pdqsortOrdered[int]",by decide,Tryz.func72.trans (congrArg some (by kernel_rfl))⟩
 f8:=Tryz.func73.trans (congrArg some (by kernel_rfl))
 f10:=⟨"slices.insertionSortOrdered[int]",by decide,Tryz.func77.trans (congrArg some (by kernel_rfl))⟩
 f11:=⟨"slices.heapSortOrdered[int]",by decide,Tryz.func78.trans (congrArg some (by kernel_rfl))⟩
 f12:=⟨"slices.breakPatternsOrdered[int]",by decide,Tryz.func79.trans (congrArg some (by kernel_rfl))⟩
 f13:=⟨"slices.choosePivotOrdered[int]",by decide,Tryz.func80.trans (congrArg some (by kernel_rfl))⟩
 f14:=⟨"slices.reverseRangeOrdered[int]",by decide,Tryz.func81.trans (congrArg some (by kernel_rfl))⟩
 f15:=⟨"slices.partialInsertionSortOrdered[int]",by decide,Tryz.func82.trans (congrArg some (by kernel_rfl))⟩
 f16:=⟨"cmp.Less[int]",by decide,Tryz.func83.trans (congrArg some (by kernel_rfl))⟩
 f17:=⟨"slices.partitionEqualOrdered[int]",by decide,Tryz.func84.trans (congrArg some (by kernel_rfl))⟩
 f18:=⟨"slices.partitionOrdered[int]",by decide,Tryz.func85.trans (congrArg some (by kernel_rfl))⟩
 f19:=Tryz.func86.trans (congrArg some (by kernel_rfl))
 f20:=Tryz.func87.trans (congrArg some (by kernel_rfl))
 f30:=⟨"slices.siftDownOrdered[int]",by decide,Tryz.func92.trans (congrArg some (by kernel_rfl))⟩
 f31:=Tryz.func93.trans (congrArg some (by kernel_rfl))
 f32:=Tryz.func94.trans (congrArg some (by kernel_rfl))
 f33:=⟨"slices.medianAdjacentOrdered[int]",by decide,Tryz.func95.trans (congrArg some (by kernel_rfl))⟩
 f34:=⟨"slices.medianOrdered[int]",by decide,Tryz.func96.trans (congrArg some (by kernel_rfl))⟩
 f35:=⟨"cmp.isNaN[int]",by decide,Tryz.func97.trans (congrArg some (by kernel_rfl))⟩
 f40:=⟨"slices.order2Ordered[int]",by decide,Tryz.func101.trans (congrArg some (by kernel_rfl))⟩
 t0:=Tryz.underlying0
 a0:=Tryz.isAgg0
 z0:=Tryz.sizeOf0
 v0:=Tryz.zeroValue0
 t3:=Tryz.underlying3
 a3:=Tryz.isAgg3
 z3:=Tryz.sizeOf3
 v3:=Tryz.zeroValue3
 t4:=Tryz.underlying4
 a4:=Tryz.isAgg4
 z4:=Tryz.sizeOf4
 v4:=Tryz.zeroValue4
 t5:=Tryz.underlying5
 a5:=Tryz.isAgg5
 z5:=Tryz.sizeOf5
 v5:=Tryz.zeroValue5
 t9:=Tryz.underlying9
 a9:=Tryz.isAgg9
 z9:=Tryz.sizeOf9
 v9:=Tryz.zeroValue9
 t22:=Tryz.underlying42
 a22:=Tryz.isAgg42
 z22:=Tryz.sizeOf42
 v22:=Tryz.zeroValue42
 t23:=Tryz.underlying42
 a23:=Tryz.isAgg42
 z23:=Tryz.sizeOf42
 v23:=Tryz.zeroValue42
 t25:=Tryz.underlying3
 a25:=Tryz.isAgg3
 z25:=Tryz.sizeOf3
 v25:=Tryz.zeroValue3
 t32:=Tryz.underlying113
 a32:=Tryz.isAgg113
 z32:=Tryz.sizeOf113
 v32:=Tryz.zeroValue113
 t35:=Tryz.underlying117
 a35:=Tryz.isAgg117
 z35:=Tryz.sizeOf117
 v35:=Tryz.zeroValue117
 t36:=Tryz.underlying118
 a36:=Tryz.isAgg118
 z36:=Tryz.sizeOf118
 v36:=Tryz.zeroValue118
 t41:=Tryz.underlying39
 a41:=Tryz.isAgg39
 z41:=Tryz.sizeOf39
 v41:=Tryz.zeroValue39
 t44:=Tryz.underlying92
 a44:=Tryz.isAgg92
 z44:=Tryz.sizeOf92
 v44:=Tryz.zeroValue92
 t46:=Tryz.underlying91
 a46:=Tryz.isAgg91
 z46:=Tryz.sizeOf91
 v46:=Tryz.zeroValue91
 t53:=Tryz.underlying128
 a53:=Tryz.isAgg128
 z53:=Tryz.sizeOf128
 v53:=Tryz.zeroValue128
 t57:=Tryz.underlying132
 a57:=Tryz.isAgg132
 z57:=Tryz.sizeOf132
 v57:=Tryz.zeroValue132
 t63:=Tryz.underlying137
 a63:=Tryz.isAgg137
 z63:=Tryz.sizeOf137
 v63:=Tryz.zeroValue137
 t64:=Tryz.underlying138
 a64:=Tryz.isAgg138
 z64:=Tryz.sizeOf138
 v64:=Tryz.zeroValue138
theorem sortsL (m:Nat):AnyZI.SortsIn Tryz.prog sortedL_ren Fence.wide m :=
 ⟨fun blk off cap ss W hH hblk hsz=>callsIn_wide.2 (AnyM.slices_Sort_int sortL blk off cap ss W hH hblk hsz),
  fun p cap W=>callsIn_wide.2 (AnyM.slices_Sort_int_none sortL p cap W)⟩
open Go Go.Lite Go.WideElems Go.Maps
theorem mapO_get {α β:Type} {f:α->Option β}:∀{l:List α} {r:List β},mapO f l=some r->r.length=l.length/\∀(i:Nat) (x:α),l[i]? = some x->∃y,r[i]? = some y/\f x=some y
 | [],r,h=>by cases h;exact ⟨rfl,fun i x hx=>by simp at hx⟩
 | a::l,r,h=>by
  simp only [mapO,obi,omi] at h
  obtain ⟨y,hy,ys,hys,rfl⟩:=h
  obtain ⟨h1,h2⟩:=mapO_get hys
  refine ⟨by simp [h1],fun i x hx=>?_⟩
  cases i with
  | zero=>simp at hx;subst hx;exact ⟨y,rfl,hy⟩
  | succ i=>simpa using h2 i x (by simpa using hx)
theorem keyI_some {v:V} {n:Int} (h:keyI v=some n):v = .int .i64 n/\-9223372036854775808<=n/\n<=9223372036854775807:=by
 unfold keyI at h
 split at h
 ·split at h
  ·rename_i hr;cases h;exact ⟨rfl,hr⟩
  ·cases h
 ·cases h
abbrev RU:Value->Option (DataW Unit × List MemPlace):=fun _=>some (.nil,[])
theorem u3:Tryz.prog.underlying 3=some (.int .i64):=by kernel_rfl
theorem ce3:Tryz.prog.cellsOf 3=1:=by kernel_rfl
theorem rd_key {x:MapEntry} {n:Int} (hk:x.key = .int .i64 n) (h1:-9223372036854775808<=n) (h2:n<=9223372036854775807):rd Tryz.prog 3 RU x=some (.int .i64 n,.nil):=by
 have hwf:(Lit.int .i64 n).wf=true:=by
  simp only [Lit.wf,Bool.and_eq_true,decide_eq_true_eq]
  exact ⟨by simpa [IntKind.min,IntKind.signed,IntKind.bits] using h1,by simpa [IntKind.max,IntKind.signed,IntKind.bits] using h2⟩
 have:keyOf Tryz.prog 3 (.int .i64 n)=some (.int .i64 n):=by
  unfold keyOf
  rw [u3]
  dsimp only
  unfold mapKey
  rw [u3]
  dsimp only
  rw [if_pos ⟨rfl,hwf⟩]
 unfold rd
 rw [hk,this]
 rfl
set_option maxHeartbeats 4000000 in
set_option maxRecDepth 100000 in
theorem sortedK_ok:ImpOK Tryz.prog fun f' av mem=>if f'=32 then sortedKP 58 av mem else none:=by
 intro f av mem r mem' h hok Z w j us sr ha
 dsimp only at h
 split at h
 rotate_left
 ·cases h
 rename_i e
 subst e
 unfold sortedKP at h
 split at h
 rotate_left
 ·cases h
 rename_i ff b
 split at h
 rotate_left
 ·cases h
 rename_i t m fz hb
 split at h
 rotate_left
 ·cases h
 rename_i e
 subst e
 simp only [obi] at h
 obtain ⟨es,hes,ks,hks,h⟩:=h
 split at h
 rotate_left
 ·cases h
 rename_i hlen
 cases h
 obtain ⟨hl,hv⟩:=ha
 match us,hl,hv with
 | [u1],hl,hv =>
 have v1:=hv 0 _ u1 rfl rfl
 cases v1 with
 | fn hcl hcv =>
 rename_i uc
 match uc,hcl,hcv with
 | [c1],hcl,hcv =>
 have vc:=hcv 0 _ c1 rfl rfl
 obtain ⟨g,us0,q1,q2,q3,q4,q5,_⟩:=sr.obj b _ hb
 cases vc with
 | ptr hj hs =>
 rw [q1] at hj
 cases hj
 simp only [Han.start,Option.some.injEq,Prod.mk.injEq] at hs
 obtain ⟨rfl,rfl⟩:=hs
 have hmc:m.cells=[m]:=by
  cases m<;>first | rfl | (simp [mapAt] at hes;done)
 rw [hmc] at q5
 obtain ⟨_,um,hum,hvm⟩:=q5 0 m rfl
 obtain ⟨rr,rfl,es',clock,h2,h3,h4,hz,hst⟩:=mapAt_sound sr hes hvm
 obtain ⟨k1,k2⟩:=mapO_get hks
 have hkey:∀(i:Nat) (x:MapEntry),es'[i]? = some x->∃n,ks[i]? = some n/\x.key = .int .i64 n/\-9223372036854775808<=n/\n<=9223372036854775807:=by
  intro i x hx
  have hi:i < es.length:=by have:=(Array.getElem?_eq_some_iff.1 hx).1;omega
  obtain ⟨n,e1,e2⟩:=k2 i _ (List.getElem?_eq_getElem hi)
  obtain ⟨e3,e4,e5⟩:=keyI_some e2
  obtain ⟨x',p1,_,_,p4,_⟩:=h4 i es[i].1 es[i].2 (List.getElem?_eq_getElem hi)
  rw [hx] at p1;cases p1
  rw [e3] at p4
  generalize x.key=kk at p4
  cases p4
  exact ⟨n,e1,rfl,e4,e5⟩
 have hrd:∀(i:Nat) (x:MapEntry),es'.toList[i]? = some x->∃n,ks[i]? = some n/\rg Tryz.prog 3 RU x=(.int .i64 n,.nil):=by
  intro i x hx
  obtain ⟨n,e1,e2,e3,e4⟩:=hkey i x (by simpa using hx)
  refine ⟨n,e1,?_⟩
  unfold rg
  rw [rd_key e2 e3 e4];rfl
 have hsz:es'.size=ks.length:=by omega
 have hown:w.ownsMap Tryz.prog 3 RU rr es'.size (.map ((es'.toList.map (rg Tryz.prog 3 RU)).foldr DataW.insert [])):=by
  refine ⟨es',clock,h2,⟨by simp only [maxLen];omega,hst,fun x hx=>?_⟩,Nat.le_refl _,rfl⟩
  obtain ⟨i,hi⟩:=List.getElem?_of_mem hx
  obtain ⟨n,_,e2,e3,e4⟩:=hkey i x (by simpa using hi)
  exact ⟨_,rd_key e2 e3 e4⟩
 have hints:(intKeys (DataW.map ((es'.toList.map (rg Tryz.prog 3 RU)).foldr DataW.insert []))).Perm ks:=by
  unfold intKeys
  dsimp only
  refine ((WideShapes.sorted_perm _).map _).trans (List.Perm.of_eq ?_)
  apply List.ext_getElem?
  intro i
  rw [List.map_map,List.getElem?_map]
  cases hx:es'.toList[i]? with
  | none =>
   rw [List.getElem?_eq_none_iff] at hx
   simp only [Array.length_toList] at hx
   rw [Option.map_none,List.getElem?_eq_none (by omega)]
  | some x =>
   obtain ⟨n,e1,e2⟩:=hrd i x hx
   rw [Option.map_some,e1]
   simp only [Function.comp,e2]
   rfl
 have hlt:g < w.heap.size:=(Array.getElem?_eq_some_iff.1 q2).1
 have hmsz:Maps.size (DataW.map ((es'.toList.map (rg Tryz.prog 3 RU)).foldr DataW.insert []))=ks.length:=by
  rw [Maps.size_eq,(WideShapes.sorted_perm _).length_eq,List.length_map,Array.length_toList,hsz]
 have hseq:SeqGives Fence.wide 2 Tryz.prog 58 #[.pointer (some ⟨g,0,none⟩)] encZ (fun ss=>ss.Perm (intKeys (DataW.map ((es'.toList.map (rg Tryz.prog 3 RU)).foldr DataW.insert [])))) (Maps.size (DataW.map ((es'.toList.map (rg Tryz.prog 3 RU)).foldr DataW.insert []))) w :=
  AnyZI.keys_gives (ρ:=keysL_ren) { keysL with } Fence.wide _ trivial rfl (by omega) g rr es'.size _ w hlt (by simpa using hum) hown
 have cS:=AnyZI.sorted_in sortedL Fence.wide 5 trivial trivial trivial trivial rfl (by omega) (sortsL _) (enters_of Tryz.func57 (by kernel_rfl) rfl) 58 #[.pointer (some ⟨g,0,none⟩)] trivial (enters_of Tryz.func58 (by kernel_rfl) rfl) _ _ (by rw [hmsz];simp only [maxLen];omega) (by rw [hmsz];omega) w hseq
 have cS2:=(callsIn_wide (n:=5)).1 cS
 have ev:(⟨g,0+(0 * (Tryz.prog.cellsOf t)+0),none⟩:Addr)=⟨g,0,none⟩:=by simp
 have eu:#[Value.func (.func 58) #[] [Value.pointer (some ⟨g,0+(0 * (Tryz.prog.cellsOf t)+0),none⟩)].toArray]=#[Value.func (.func 58) #[] #[.pointer (some ⟨g,0,none⟩)]]:=by rw [ev]
 show Calls Tryz.prog 32 #[Value.func (.func 58) #[] [Value.pointer (some ⟨g,0+(0 * (Tryz.prog.cellsOf t)+0),none⟩)].toArray] w _
 rw [eu]
 refine Calls.mono cS2 ?_
 rintro e w' ⟨v,ss,rfl,hS,hrow,hnil,hbel⟩
 refine ⟨v,rfl,?_⟩
 have hss:ss.Perm ks:=hS.trans hints
 have hsort:(ss.mergeSort fun x y=>decide (x<=y))=srt ks:=mergeSort_of_perm_i hss
 have hsl:ss.length=(srt ks).length:=by rw [hss.length_eq];exact (List.mergeSort_perm ks _).length_eq.symm
 rw [hsort] at hrow
 have hks0:ks.length=(srt ks).length:=(List.mergeSort_perm ks _).length_eq.symm
 have hz':ZExt Z w Z w':=.of fun g o ho=>⟨ho,same_block (hbel.block g (sr.zin g o ho)) o⟩
 have s1:SR Tryz.prog Z w' j mem:=sr.world hz' (fun g hg=>⟨hbel.block g (Owned.lt sr hg),fun _=>Iff.rfl⟩) (fun g o ho=>Nat.lt_of_lt_of_le (sr.zin g o ho) hbel.size)
 have stp0:∀(h:Han),(∀g,h.blk=some g->w.heap.size<=g)->SR Tryz.prog Z w' (upd j mem.length h) (mem++[.row 3 ((srt ks).map iV) 0]) ->
   Stp Z w j mem Z w' (upd j mem.length h) (mem++[.row 3 ((srt ks).map iV) 0]):=fun h hh s2 =>
  ⟨hbel.os,hbel.tape,hbel.output,hbel.size,fun g hg _=>⟨hbel.block g hg,fun _=>Iff.rfl⟩,fun g hg ho=>by
   rcases Owned.add ho rfl with ho | ho
   ·exact ho
   ·have:=hh g ho;omega,hz',fun t hn=>⟨hn.add rfl,rfl⟩⟩
 rcases hrow.2 with ⟨rfl,hn0⟩ | ⟨gb,cap,cur,rfl,hgb,hcur,hncap,hcap,hcs,htake⟩
 ·have hnk:srt ks=[]:=List.length_eq_zero_iff.1 (by omega)
  have s2:=s1.add (h:=⟨.slice none 0 0,1⟩) (o:=.row 3 ((srt ks).map iV) 0) (by simp [Han.blk]) ⟨_,upd_same _ _ _,by
   refine ⟨ce3.symm,Nat.one_pos,Nat.zero_le _,?_,.inl ⟨rfl,by rw [hnk];rfl⟩⟩
   rw [hnk];simp⟩
  exact ⟨Z,_,.own (upd_same _ _ _) (by simp),s2,stp0 _ (by simp [Han.blk]) s2,sr.ext _⟩
 ·have hcell:∀k x,(srt ks)[k]? = some x->w'.cell? ⟨gb,0+k * 1+0,none⟩=some (.int .i64 x):=by
   intro k x hx
   have hkl:k < (srt ks).length:=(List.getElem?_eq_some_iff.1 hx).1
   have:cur.toList[k]? = some (.int .i64 x):=by
    have h1:(cur.toList.take (ss.length * 1))[k]? = some (.int .i64 x):=by rw [htake];simp [hx,encZ]
    rwa [List.getElem?_take_of_lt (by omega)] at h1
   simp only [World.cell?,hcur]
   simpa using this
  have s2:=s1.add (h:=⟨.slice (some ⟨gb,0,none⟩) ss.length cap,1⟩) (o:=.row 3 ((srt ks).map iV) 0) (fun g hg ho=>by
    have:gb=g:=by simpa [Han.blk] using hg
    have:=Owned.lt sr ho
    omega) ⟨_,upd_same _ _ _,by
   refine ⟨ce3.symm,Nat.one_pos,Nat.zero_le _,?_,.inr ⟨gb,0,cap,cur,?_,?_,hcap,hcur,by simp;omega,?_,?_,?_⟩⟩
   ·intro x hx
    obtain ⟨y,_,rfl⟩:=List.mem_map.1 hx;rfl
   ·rw [List.length_map,hsl]
   ·rw [List.length_map];omega
   ·intro k x hx i y hy
    rw [List.getElem?_map,omi] at hx
    obtain ⟨n,hn,rfl⟩:=hx
    match i,hy with
    | 0,hy =>
     cases hy
     exact ⟨rfl,_,hcell k n hn,.int⟩
    | i+1,hy=>simp [iV,V.cells] at hy
   ·intro o ho
    have:=sr.zin gb o ho
    omega
   ·intro o ho;simp at ho⟩
  exact ⟨Z,_,.own (upd_same _ _ _) (by simp),s2,stp0 _ (by simp [Han.blk];exact hgb) s2,sr.ext _⟩
open Go Go.Lite
theorem hok:CfgOK qcfg:=by
 refine ⟨by kernel_rfl,?_,?_,seq_ok⟩
 ·intro f g h
  have h:qppr f=some g:=h
  unfold qppr at h
  split at h
  ·rename_i e
   subst e
   cases h
   exact over_sound overW
  ·cases h
 ·intro f g h
  have h:qipr f=some g:=h
  unfold qipr at h
  split at h
  ·rename_i e
   subst e
   cases h
   exact del_ok delWI
  ·split at h
   ·rename_i e
    subst e
    cases h
    exact sortedK_ok
   ·cases h
end Go.Proofs.YtknapnnpmfhogaaGreat
