/-
  Texts that the last one stands on.
-/
import Derived.Test.YtlphgcjepphhcaaGreatY4
import Derived.RangeFuncNested
import Derived.RangeFuncBound
import Derived.RangeFuncCalls
import Derived.RangeFuncLeaves
import Derived.Shelf.Abstract
import Derived.Shelf.RegionOpen
import Derived.WalkKit
import Derived.OwnWalkIn
import Derived.TacticsInMore
import Derived.LoopNIn
import Derived.LoopIn
import Derived.Stop.RegionWithIn
import Derived.Test.YtlphgcjepphhcaaGreatProg
namespace Go.Proofs.YtlphgcjepphhcaaGreat
open Go Go.RowKit Go.Shelf
 attribute [local go_sem] Oper.semAt_some
set_option maxRecDepth 100000 in
set_option maxHeartbeats 4000000 in
theorem both1_in (l B1 o1 B2 o2 n1 c1 n2 c2 N:Nat) (hN:N=min n1 n2) (A1 A2:Option Addr) (fx fy:Nat->Value) (I:Nat->World->Prop) (Ix:World->Prop) (hn:n1<=16777216) (hS:∀k W,I k W->I k W.drew)
  (h1:∀k W,I k W->W.cell? ⟨B1,o1,none⟩=some (.slice A1 n1 c1)) (h2:∀k W,I k W->W.cell? ⟨B2,o2,none⟩=some (.slice A2 n2 c2))
  (hx:∀k,k < n1->k < n2->∃b1 p1 b2 p2,A1=some ⟨b1,p1,none⟩/\A2=some ⟨b2,p2,none⟩/\∀W,I k W->W.cell? ⟨b1,p1+k,none⟩=some (fx k)/\W.cell? ⟨b2,p2+k,none⟩=some (fy k))
  (hY:∀k W,k < n1->k < n2->I k W->YieldAt Fence.wide 0 Tryz.prog l #[fx k,fy k] W fun e W2=>(e = .returned (.bool true)/\I (k+1) W2)∨(e = .returned (.bool false)/\Ix W2))
  (W:World) (h0:I 0 W) :
  CallsIn Fence.wide 1 Tryz.prog 210 #[.func (.yield l) #[] #[],.pointer (some ⟨B1,o1,none⟩),.pointer (some ⟨B2,o2,none⟩)] W fun e W'=>(∃v,e = .returned v)/\(I N W'∨Ix W'):=by
 have g1:=h1 0 W h0
 have g2:=h2 0 W h0
 refine callsIn_of_wp Tryz.func210 rfl trivial ?_ rfl
 simp only [Tryz.ntmps210,List.size_toArray,List.length_cons,List.length_nil,Nat.reduceAdd,Nat.reduceSub,Array.replicate_succ,Array.replicate_zero,List.push_toArray,List.append_toArray,List.nil_append,List.cons_append]
 gi_wp2
 rw [show min ((n1:Nat):Int) ((n2:Nat):Int)=((N:Nat):Int) by omega]
 gi_loopw [10] (fun i wr=>∃k:Nat,k<=N/\i = .int .i64 k/\I k wr)
  (fun i _=>N - (intOf i).toNat)
 case atStart=>exact ⟨0,Nat.zero_le _,rfl,h0⟩
 case round =>
  obtain ⟨k,hk,rfl,hI⟩:=hrel
  by_cases hlt:k < N
  ·obtain ⟨b1,p1,b2,p2,rfl,rfl,hcell⟩:=hx k (by omega) (by omega)
   obtain ⟨fn,tmps,assign,body,hy,hR⟩:=hY k wr.drew (by omega) (by omega) (hS k wr hI)
   have q1:=h1 k wr hI
   have q2:=h2 k wr hI
   have hk1:k < n1:=by omega
   have hk2:k < n2:=by omega
   obtain ⟨q3,q4⟩:=hcell wr hI
   clear h1 h2 hx hY hS hcell g1 g2 h0
   gi_wp2
   have hR:=hR.mono (R':=fun e W2=>∃bb,e = .returned (.bool bb)/\(bb=true->I (k+1) W2)/\(bb=false->Ix W2)) (by
    rintro e W2 (⟨rfl,h⟩ | ⟨rfl,h⟩)
    ·exact ⟨true,rfl,fun _=>h,fun e=>by cases e⟩
    ·exact ⟨false,rfl,fun e=>by (cases e),fun _=>h⟩)
   gi_region_with (refine hR.mono ?_;rintro e W3 ⟨bb,rfl,hb1,hb2⟩)
   all_goals
    cases bb
    rotate_left
    ·gi_wp2
     go_roundw
     case rel=>exact ⟨k+1,by omega,by simp,hb1 (by trivial)⟩
     case measure=>simp [intOf];omega
    ·gi_wp2
     refine bodyPost_ret (results_none rfl _ _ _) rfl ?_
     exact ⟨⟨_,rfl⟩,.inr (hb2 (by trivial))⟩
  ·obtain rfl:k=N:=by omega
   clear h1 h2 hx hY hS g1 g2 h0
   gi_wp2
   go_end0
   exact ⟨⟨_,rfl⟩,.inl hI⟩
set_option maxRecDepth 100000 in
set_option maxHeartbeats 4000000 in
theorem back1_in (l B1 o1 n1 c1:Nat) (A1:Option Addr) (f:Nat->Nat->Value) (I:Nat->World->Prop) (Ix:World->Prop) (hn:n1<=16777216)
  (h1:∀k W,I k W->W.cell? ⟨B1,o1,none⟩=some (.slice A1 n1 c1))
  (hx:∀k,k < n1->∃b1 p1,A1=some ⟨b1,p1,none⟩/\∀W m,I m W->∀i,i < 6->W.cell? ⟨b1,p1+k * 6+i,none⟩=some (f k i))
  (hY:∀k W,k < n1->I k W->YieldAt Fence.wide 0 Tryz.prog l #[.int .i64 ((n1:Int) - 1 - (k:Int)),(.agg #[f (n1 - 1 - k) 0,f (n1 - 1 - k) 1,f (n1 - 1 - k) 2,f (n1 - 1 - k) 3,f (n1 - 1 - k) 4,f (n1 - 1 - k) 5])] W fun e W2=>(e = .returned (.bool true)/\I (k+1) W2)∨(e = .returned (.bool false)/\Ix W2))
  (W:World) (h0:I 0 W) :
  CallsIn Fence.wide 1 Tryz.prog 211 #[.func (.yield l) #[] #[],.pointer (some ⟨B1,o1,none⟩)] W fun e W'=>(∃v,e = .returned v)/\(I n1 W'∨Ix W'):=by
 have g1:=h1 0 W h0
 refine callsIn_of_wp Tryz.func211 rfl trivial ?_ rfl
 simp only [Tryz.ntmps211,List.size_toArray,List.length_cons,List.length_nil,Nat.reduceAdd,Nat.reduceSub,Array.replicate_succ,Array.replicate_zero,List.push_toArray,List.append_toArray,List.nil_append,List.cons_append]
 gi_wp2
 gi_loopw [3] (fun i wr=>∃k:Nat,k<=n1/\i = .int .i64 ((n1:Int) - 1 - (k:Int))/\I k wr)
  (fun i _=>(intOf i+1).toNat)
 case atStart=>exact ⟨0,Nat.zero_le _,by simp,h0⟩
 case round =>
  obtain ⟨k,hk,rfl,hI⟩:=hrel
  by_cases hlt:k < n1
  ·obtain ⟨b1,p1,rfl,hcell⟩:=hx (n1 - 1 - k) (by omega)
   have hY2:=hY k wr hlt hI
   obtain ⟨fn,tmps,assign,body,hy,hR⟩:=hY2
   have q2:=hcell wr k hI 0 (by omega)
   have q3:=hcell wr k hI 1 (by omega)
   have q4:=hcell wr k hI 2 (by omega)
   have q5:=hcell wr k hI 3 (by omega)
   have q6:=hcell wr k hI 4 (by omega)
   have q7:=hcell wr k hI 5 (by omega)
   rw [Nat.add_zero] at q2
   have q1:=h1 k wr hI
   have e1:((n1 - 1 - k:Nat):Int)=(n1:Int) - 1 - (k:Int):=by omega
   have e2:((n1:Int) - 1 - (k:Int)).toNat=n1 - 1 - k:=by omega
   have e3:((n1:Int) - 1 - (k:Int)) ≥ 0:=by omega
   clear h1 hx hY hcell g1 h0
   gi_wp2
   refine hR.mono ?_
   rintro e W3 (⟨rfl,hJ3⟩ | ⟨rfl,hJx3⟩)
   ·gi_wp2
    go_roundw
    case rel=>exact ⟨k+1,by omega,by simp;omega,hJ3⟩
    case measure=>simp [intOf];omega
   ·gi_wp2
    refine bodyPost_ret (results_none rfl _ _ _) rfl ?_
    exact ⟨⟨_,rfl⟩,.inr hJx3⟩
  ·obtain rfl:k=n1:=by omega
   clear h1 hx hY g1 h0
   gi_wp2
   go_end0
   exact ⟨⟨_,rfl⟩,.inl hI⟩
set_option maxRecDepth 100000 in
set_option maxHeartbeats 4000000 in
theorem round1_in (l B1 o1 B2 o2 BB ob n s:Nat) (I:Nat->World->Prop) (Ix:World->Prop) (hn:n<=16777216) (hs:s<=16777216) (hS:∀k W,I k W->I k W.drew)
  (h1:∀k W,I k W->W.cell? ⟨B1,o1,none⟩=some (.pointer (some ⟨BB,ob,none⟩))) (h2:∀k W,I k W->W.cell? ⟨B2,o2,none⟩=some (.int .i64 (s:Int)))
  (h3:∀k W,I k W->W.cell? ⟨BB,ob+1,none⟩=some (.int .i64 (n:Int)))
  (hY:∀k W,k < n->I k W->YieldAt Fence.wide 0 Tryz.prog l #[.int .i64 (((s:Int)+(k:Int)) % (n:Int))] W fun e W2=>(e = .returned (.bool true)/\I (k+1) W2)∨(e = .returned (.bool false)/\Ix W2))
  (W:World) (h0:I 0 W) :
  CallsIn Fence.wide 1 Tryz.prog 192 #[.func (.yield l) #[] #[],.pointer (some ⟨B1,o1,none⟩),.pointer (some ⟨B2,o2,none⟩)] W fun e W'=>(∃v,e = .returned v)/\(I n W'∨Ix W'):=by
 have g1:=h1 0 W h0
 have g2:=h2 0 W h0
 have g3:=h3 0 W h0
 refine callsIn_of_wp Tryz.func192 rfl trivial ?_ rfl
 simp only [Tryz.ntmps192,List.size_toArray,List.length_cons,List.length_nil,Nat.reduceAdd,Nat.reduceSub,Array.replicate_succ,Array.replicate_zero,List.push_toArray,List.append_toArray,List.nil_append,List.cons_append]
 gi_wp2
 gi_loopw [9] (fun i wr=>∃k:Nat,k<=n/\i = .int .i64 k/\I k wr)
  (fun i _=>n - (intOf i).toNat)
 case atStart=>exact ⟨0,Nat.zero_le _,rfl,h0⟩
 case round =>
  obtain ⟨k,hk,rfl,hI⟩:=hrel
  by_cases hlt:k < n
  ·obtain ⟨fn,tmps,assign,body,hy,hR⟩:=hY k wr.drew hlt (hS k wr hI)
   have q1:=h1 k wr hI
   have q2:=h2 k wr hI
   have q3:=h3 k wr hI
   have w1:IntKind.i64.wrap ((s:Int)+(k:Int))=((s+k:Nat):Int):=by rw [IntKind.wrap_i64];omega
   have w2:((s+k:Nat):Int).tmod (n:Int)=(((s+k) % n:Nat):Int):=rfl
   have w3:¬((n:Int)=0):=by omega
   clear h1 h2 h3 hY hS g1 g2 g3 h0
   gi_wp2
   have hR:=hR.mono (R':=fun e W2=>∃bb,e = .returned (.bool bb)/\(bb=true->I (k+1) W2)/\(bb=false->Ix W2)) (by
    rintro e W2 (⟨rfl,h⟩ | ⟨rfl,h⟩)
    ·exact ⟨true,rfl,fun _=>h,fun e=>by cases e⟩
    ·exact ⟨false,rfl,fun e=>by (cases e),fun _=>h⟩)
   gi_region_with (refine hR.mono ?_;rintro e W3 ⟨bb,rfl,hb1,hb2⟩)
   all_goals
    cases bb
    rotate_left
    ·gi_wp2
     go_roundw
     case rel=>exact ⟨k+1,by omega,by simp,hb1 (by trivial)⟩
     case measure=>simp [intOf];omega
    ·gi_wp2
     refine bodyPost_ret (results_none rfl _ _ _) rfl ?_
     exact ⟨⟨_,rfl⟩,.inr (hb2 (by trivial))⟩
  ·obtain rfl:k=n:=by omega
   clear h1 h2 h3 hY hS g1 g2 g3 h0
   gi_wp2
   go_end0
   exact ⟨⟨_,rfl⟩,.inl hI⟩
open Go Go.Lite
theorem row_read {P:Program} {Z:Zs} {w:World} {a:List V} {u:Value} (h:VR Z w j0 (.sl a) u) (h1:a.all V.one=true) :
  ∃(A:Option Addr) (c:Nat) (fx:Nat->Value),u = .slice A a.length c/\∀k x,a[k]? = some x->VR Z w j0 x (fx k)/\∃g b,A=some ⟨g,b,none⟩/\Z g (b+k)/\w.cell? ⟨g,b+k,none⟩=some (fx k):=by
 rcases h.slInv with ⟨A,c,rfl,rfl⟩ | ⟨g,b,c,sz,rfl,_,hsz,hh⟩
 ·exact ⟨A,c,fun _=>default,rfl,fun k x hk=>by simp at hk⟩
 ·refine ⟨some ⟨g,b,none⟩,c,fun k=>(w.cell? ⟨g,b+k,none⟩).getD default,rfl,fun k x hk=>?_⟩
  have hone:x.one=true:=List.all_eq_true.1 h1 x (List.mem_of_getElem? hk)
  obtain ⟨l1,l2,l3⟩:=hh k x hk
  rw [cells_one hone] at l1 l3
  have:sz=1:=l1.symm
  subst this
  obtain ⟨_,u,hu,hv⟩:=l3 0 x rfl
  rw [Nat.mul_one,Nat.add_zero] at hu
  have hz:=l2 0 (by decide)
  rw [Nat.mul_one,Nat.add_zero] at hz
  show VR Z w j0 x ((w.cell? ⟨g,b+k,none⟩).getD default)/\_
  rw [hu]
  refine ⟨hv,g,b,rfl,hz,?_⟩
  show w.cell? ⟨g,b+k,none⟩=some ((w.cell? ⟨g,b+k,none⟩).getD default)
  rw [hu]
  rfl
theorem row_read6 {P:Program} {Z:Zs} {w:World} {a:List V} {u:Value} (h:VR Z w j0 (.sl a) u) (h1:a.all pairV=true) :
  ∃(A:Option Addr) (c:Nat) (f:Nat->Nat->Value),u = .slice A a.length c/\∀k x,a[k]? = some x->VR Z w j0 x (.agg #[f k 0,f k 1,f k 2,f k 3,f k 4,f k 5])/\∃g b,A=some ⟨g,b,none⟩/\∀i,i < 6->Z g (b+k * 6+i)/\w.cell? ⟨g,b+k * 6+i,none⟩=some (f k i):=by
 rcases h.slInv with ⟨A,c,rfl,rfl⟩ | ⟨g,b,c,sz,rfl,_,hsz,hh⟩
 ·exact ⟨A,c,fun _ _=>default,rfl,fun k x hk=>by simp at hk⟩
 ·refine ⟨some ⟨g,b,none⟩,c,fun k i=>(w.cell? ⟨g,b+k * 6+i,none⟩).getD default,rfl,fun k x hk=>?_⟩
  have hone:pairV x=true:=List.all_eq_true.1 h1 x (List.mem_of_getElem? hk)
  obtain ⟨l1,l2,l3⟩:=hh k x hk
  unfold pairV at hone
  split at hone
  rotate_left
  ·cases hone
  rename_i cs
  have hl:cs.length=6:=by simpa using hone
  have e:V.cells (.agg cs)=cs:=rfl
  rw [e] at l1 l3
  have:sz=6:=by omega
  subst this
  have key:∀i,i < 6->∃u,w.cell? ⟨g,b+k * 6+i,none⟩=some u/\∀y,cs[i]? = some y->VR Z w j0 y u:=fun i hi=>by
   have hy:cs[i]? = some cs[i]:=List.getElem?_eq_getElem (by omega)
   obtain ⟨_,u,hu,hv⟩:=l3 i _ hy
   refine ⟨u,hu,fun y hy2=>?_⟩
   rw [hy] at hy2;cases hy2;exact hv
  have hz:∀i,i < 6->Z g (b+k * 6+i):=fun i hi=>by rw [Nat.add_assoc];exact l2 i hi
  refine ⟨?_,g,b,rfl,fun i hi=>⟨hz i hi,?_⟩⟩
  ·refine .agg (us:=[_,_,_,_,_,_]) (by simpa using hl) fun i c u hc hu=>?_
   have hi:i < 6:=by rw [<-hl];exact (List.getElem?_eq_some_iff.1 hc).1
   obtain ⟨u',h1',h2'⟩:=key i hi
   have h3:=h2' c hc
   match i,hi,hu,h1' with
   | 0,_,hu,h1'=>simp at hu;rw [Nat.add_zero] at h1';rw [<-hu,h1'] ;exact h3
   | 1,_,hu,h1'=>simp at hu;rw [<-hu,h1'] ;exact h3
   | 2,_,hu,h1'=>simp at hu;rw [<-hu,h1'] ;exact h3
   | 3,_,hu,h1'=>simp at hu;rw [<-hu,h1'] ;exact h3
   | 4,_,hu,h1'=>simp at hu;rw [<-hu,h1'] ;exact h3
   | 5,_,hu,h1'=>simp at hu;rw [<-hu,h1'] ;exact h3
   | i+6,hi,_,_=>omega
  ·obtain ⟨u',h1',_⟩:=key i hi
   show w.cell? ⟨g,b+k * 6+i,none⟩=some ((w.cell? ⟨g,b+k * 6+i,none⟩).getD default)
   rw [h1'];rfl
theorem seq_ok:SeqOK Tryz.prog qseq:=by
 intro f ts h xs rounds hf hr Z w us hzin ha
 unfold qseq at hf
 split at hf
 ·rename_i e
  subst e
  cases hf
  unfold roundP at hr
  split at hr
  rotate_left
  ·cases hr
  rename_i q n from0
  split at hr
  rotate_left
  ·cases hr
  rename_i hc
  obtain ⟨hn0,hn,hf0,hf⟩:=hc
  cases hr
  obtain ⟨n,rfl⟩:∃m:Nat,n=(m:Int):=⟨n.toNat,by omega⟩
  obtain ⟨s,rfl⟩:∃m:Nat,from0=(m:Int):=⟨from0.toNat,by omega⟩
  obtain ⟨hl,hv⟩:=ha
  match us,hl,hv with
  | [u1,u2],hl,hv =>
  have v1:=hv 0 _ u1 rfl rfl
  have v2:=hv 1 _ u2 rfl rfl
  refine ⟨Go.Proofs.enters_of Tryz.func192 (by kernel_rfl) rfl,?_⟩
  cases v1 with
  | ref f1 c1 d1 =>
  rename_i B1 o1
  cases v2 with
  | ref f2 c2 d2 =>
  rename_i B2 o2
  obtain ⟨_,z1,e1⟩:=c1 0 _ rfl
  obtain ⟨_,z2,e2⟩:=c2 0 _ rfl
  have r1:=d1 0 _ rfl
  have r2:=d2 0 _ rfl
  generalize f1 0=g1 at e1 r1
  generalize f2 0=g2 at e2 r2
  cases r2
  cases r1 with
  | ref f3 c3 d3 =>
  rename_i BB ob
  obtain ⟨_,z3,e3⟩:=c3 1 _ rfl
  have r3:=d3 1 _ rfl
  generalize f3 1=g3 at e3 r3
  cases r3
  have hbl:(roundL (n:Int) (s:Int)).length=n:=by simp [roundL]
  refine ⟨(List.range n).map fun k:Nat=>[.int .i64 (((s:Int)+(k:Int)) % (n:Int))],by simp [hbl],?_,?_⟩
  ·intro k x u hx hu
   have hk:k < n:=by rw [<-hbl];exact (List.getElem?_eq_some_iff.1 hx).1
   unfold roundL at hx
   rw [List.getElem?_map,List.getElem?_range (by omega)] at hx
   rw [List.getElem?_map,List.getElem?_range hk] at hu
   simp at hu hx
   subst hu;subst hx
   refine ⟨rfl,fun i y' v hy' hv'=>?_⟩
   match i,hy',hv' with
   | 0,hy',hv'=>simp at hy' hv';subst hy';subst hv';exact .int
   | i+1,hy',hv'=>simp at hy'
  ·intro l I Ix W hI hIx hK hY h0
   have hY':∀k W,k < n->I k W->YieldAt Fence.wide 0 Tryz.prog l #[.int .i64 (((s:Int)+(k:Int)) % (n:Int))] W fun e W2=>(e = .returned (.bool true)/\I (k+1) W2)∨(e = .returned (.bool false)/\Ix W2):=by
    intro k W hk1 hi
    exact hY k [.int .i64 (((s:Int)+(k:Int)) % (n:Int))] W (by rw [List.getElem?_map,List.getElem?_range hk1];rfl) hi
   have:=round1_in l B1 (o1+0) B2 (o2+0) BB (ob+0) n s I Ix (by omega) (by omega) (fun k W hi=>hI k W W.drew hi ⟨rfl,rfl,rfl,rfl⟩) (fun k W hi=>((hK k W hi).2 _ _ z1).trans e1) (fun k W hi=>((hK k W hi).2 _ _ z2).trans e2) (fun k W hi=>((hK k W hi).2 _ _ z3).trans e3) hY' W h0
   have:=(callsIn_wide (n:=1)).1 this
   simp only [List.length_map,List.length_range]
   exact this
 split at hf
 ·rename_i e
  subst e
  cases hf
  unfold backP at hr
  split at hr
  rotate_left
  ·cases hr
  rename_i a
  split at hr
  rotate_left
  ·cases hr
  rename_i hc
  obtain ⟨hlen,hpair⟩:=hc
  cases hr
  obtain ⟨hl,hv⟩:=ha
  match us,hl,hv with
  | [u1],hl,hv =>
  have v1:=hv 0 _ u1 rfl rfl
  refine ⟨Go.Proofs.enters_of Tryz.func211 (by kernel_rfl) rfl,?_⟩
  cases v1 with
  | ref f1 c1 d1 =>
  rename_i B1 o1
  obtain ⟨_,z1,e1⟩:=c1 0 (.sl a) rfl
  obtain ⟨A1,p1,fa,w1,r1⟩:=row_read6 (P:=Tryz.prog) (d1 0 (.sl a) rfl) hpair
  rw [w1] at e1
  have hbl:(backsR a).length=a.length:=by simp [backsR]
  have hbg:∀k x,(backsR a)[k]? = some x->∃y,a[a.length - 1 - k]? = some y/\k < a.length/\x=[.int .i64 ((a.length - 1 - k:Nat):Int),y]:=by
   intro k x hx
   have hk:k < a.length:=by rw [<-hbl];exact (List.getElem?_eq_some_iff.1 hx).1
   unfold backsR at hx
   rw [List.getElem?_reverse (by simpa using hk)] at hx
   simp only [List.length_map,List.length_zipIdx,List.getElem?_map,List.getElem?_zipIdx] at hx
   have hy:a[a.length - 1 - k]? = some a[a.length - 1 - k]:=List.getElem?_eq_getElem (by omega)
   rw [hy] at hx
   simp at hx
   refine ⟨_,hy,hk,?_⟩
   rw [<-hx]
  refine ⟨(List.range a.length).map fun k:Nat=>[.int .i64 ((a.length:Int) - 1 - (k:Int)),.agg #[fa (a.length - 1 - k) 0,fa (a.length - 1 - k) 1,fa (a.length - 1 - k) 2,fa (a.length - 1 - k) 3,fa (a.length - 1 - k) 4,fa (a.length - 1 - k) 5]],by simp [hbl],?_,?_⟩
  ·intro k x u hx hu
   obtain ⟨y,hy,hk,rfl⟩:=hbg k x hx
   rw [List.getElem?_map,List.getElem?_range hk] at hu
   simp at hu
   subst hu
   refine ⟨rfl,fun i y' v hy' hv'=>?_⟩
   match i,hy',hv' with
   | 0,hy',hv' =>
    simp at hy' hv';subst hy';subst hv'
    have:((a.length - 1 - k:Nat):Int)=(a.length:Int) - 1 - (k:Int):=by omega
    rw [this];exact .int
   | 1,hy',hv'=>simp at hy' hv';subst hy';subst hv';exact (r1 _ y hy).1
   | i+2,hy',hv'=>simp at hy'
  ·intro l I Ix W hI hIx hK hY h0
   have hY':∀k W,k < a.length->I k W->YieldAt Fence.wide 0 Tryz.prog l #[.int .i64 ((a.length:Int) - 1 - (k:Int)),.agg #[fa (a.length - 1 - k) 0,fa (a.length - 1 - k) 1,fa (a.length - 1 - k) 2,fa (a.length - 1 - k) 3,fa (a.length - 1 - k) 4,fa (a.length - 1 - k) 5]] W fun e W2=>(e = .returned (.bool true)/\I (k+1) W2)∨(e = .returned (.bool false)/\Ix W2):=by
    intro k W hk1 hi
    exact hY k [.int .i64 ((a.length:Int) - 1 - (k:Int)),.agg #[fa (a.length - 1 - k) 0,fa (a.length - 1 - k) 1,fa (a.length - 1 - k) 2,fa (a.length - 1 - k) 3,fa (a.length - 1 - k) 4,fa (a.length - 1 - k) 5]] W (by rw [List.getElem?_map,List.getElem?_range hk1];rfl) hi
   have hx:∀k,k < a.length->∃b1 p1,A1=some ⟨b1,p1,none⟩/\∀W m,I m W->∀i,i < 6->W.cell? ⟨b1,p1+k * 6+i,none⟩=some (fa k i):=by
    intro k hk1
    obtain ⟨_,g1,q1,m1,m2⟩:=r1 k a[k] (by simp [hk1])
    exact ⟨g1,q1,m1,fun W m hi i h6=>((hK m W hi).2 _ _ (m2 i h6).1).trans (m2 i h6).2⟩
   have:=back1_in l B1 (o1+0) a.length p1 A1 fa I Ix hlen (fun k W hi=>((hK k W hi).2 _ _ z1).trans e1) hx hY' W h0
   have:=(callsIn_wide (n:=1)).1 this
   simp only [List.length_map,List.length_range]
   exact this
 split at hf
 ·rename_i e
  subst e
  cases hf
  unfold bothP at hr
  split at hr
  rotate_left
  ·cases hr
  rename_i a b
  split at hr
  rotate_left
  ·cases hr
  rename_i hc
  obtain ⟨hal,ha1,hb1⟩:=hc
  cases hr
  obtain ⟨hl,hv⟩:=ha
  match us,hl,hv with
  | [u1,u2],hl,hv =>
  have v1:=hv 0 _ u1 rfl rfl
  have v2:=hv 1 _ u2 rfl rfl
  refine ⟨Go.Proofs.enters_of Tryz.func210 (by kernel_rfl) rfl,?_⟩
  cases v1 with
  | ref f1 c1 d1 =>
  rename_i B1 o1
  cases v2 with
  | ref f2 c2 d2 =>
  rename_i B2 o2
  obtain ⟨_,z1,e1⟩:=c1 0 (.sl a) rfl
  obtain ⟨_,z2,e2⟩:=c2 0 (.sl b) rfl
  obtain ⟨A1,p1,fx,w1,r1⟩:=row_read (P:=Tryz.prog) (d1 0 (.sl a) rfl) ha1
  obtain ⟨A2,p2,fy,w2,r2⟩:=row_read (P:=Tryz.prog) (d2 0 (.sl b) rfl) hb1
  rw [w1] at e1
  rw [w2] at e2
  refine ⟨(List.range (min a.length b.length)).map fun k=>[fx k,fy k],by simp,?_,?_⟩
  ·intro k x u hx hu
   rw [List.getElem?_zipWith] at hx
   rw [List.getElem?_map] at hu
   cases hxa:a[k]? with
   | none=>simp [hxa] at hx
   | some xa =>
    cases hxb:b[k]? with
    | none=>simp [hxa,hxb] at hx
    | some xb =>
     simp [hxa,hxb] at hx
     subst hx
     have hka:=(List.getElem?_eq_some_iff.1 hxa).1
     have hkb:=(List.getElem?_eq_some_iff.1 hxb).1
     rw [List.getElem?_range (by omega)] at hu
     simp at hu
     subst hu
     refine ⟨rfl,fun i y v hy hv=>?_⟩
     match i,hy,hv with
     | 0,hy,hv=>simp at hy hv;subst hy;subst hv;exact (r1 k _ hxa).1
     | 1,hy,hv=>simp at hy hv;subst hy;subst hv;exact (r2 k _ hxb).1
     | i+2,hy,hv=>simp at hy
  ·intro l I Ix W hI hIx hK hY h0
   have hY':∀k W,k < a.length->k < b.length->I k W->YieldAt Fence.wide 0 Tryz.prog l #[fx k,fy k] W fun e W2=>(e = .returned (.bool true)/\I (k+1) W2)∨(e = .returned (.bool false)/\Ix W2):=by
    intro k W hk1 hk2 hi
    have:=hY k [fx k,fy k] W (by rw [List.getElem?_map,List.getElem?_range (by omega)];rfl) hi
    exact this
   have hx:∀k,k < a.length->k < b.length->∃b1 p1 b2 p2,A1=some ⟨b1,p1,none⟩/\A2=some ⟨b2,p2,none⟩/\∀W,I k W->W.cell? ⟨b1,p1+k,none⟩=some (fx k)/\W.cell? ⟨b2,p2+k,none⟩=some (fy k):=by
    intro k hk1 hk2
    obtain ⟨_,g1,q1,m1,m2,m3⟩:=r1 k _ (List.getElem?_eq_getElem hk1)
    obtain ⟨_,g2,q2,n1,n2,n3⟩:=r2 k _ (List.getElem?_eq_getElem hk2)
    exact ⟨g1,q1,g2,q2,m1,n1,fun W hi=>⟨((hK k W hi).2 _ _ m2).trans m3,((hK k W hi).2 _ _ n2).trans n3⟩⟩
   have:=both1_in l B1 (o1+0) B2 (o2+0) a.length p1 b.length p2 (min a.length b.length) rfl A1 A2 fx fy I Ix hal (fun k W hi=>hI k W W.drew hi ⟨rfl,rfl,rfl,rfl⟩) (fun k W hi=>((hK k W hi).2 _ _ z1).trans e1) (fun k W hi=>((hK k W hi).2 _ _ z2).trans e2) hx hY' W h0
   have:=(callsIn_wide (n:=1)).1 this
   simp only [List.length_map,List.length_range]
   exact this
 ·cases hf
theorem hok:CfgOK qcfg:=by
 have hceS:Tryz.prog.cellsOf 9=1:=by kernel_rfl
 have hceI:Tryz.prog.cellsOf 3=1:=by kernel_rfl
 refine ⟨by kernel_rfl,?_,?_,seq_ok⟩
 ·intro f g h
  have h:qppr f=some g:=h
  unfold qppr at h
  split at h
  ·rename_i e
   subst e
   cases h
   have:=clone_ok cloneWS
   rw [hceS] at this
   exact this
  split at h
  ·rename_i e
   subst e
   cases h
   have:=clone_ok cloneWI
   rw [hceI] at this
   exact this
  split at h
  ·rename_i e
   subst e
   cases h
   exact over_sound overW
  split at h
  ·rename_i e
   subst e
   cases h
   exact cmp_ok cmpW
  ·cases h
 ·intro f g h
  have h:qipr f=some g:=h
  unfold qipr at h
  split at h
  ·rename_i e
   subst e
   cases h
   have:=ins_ok insWS
   rw [hceS] at this
   exact this
  split at h
  ·rename_i e
   subst e
   cases h
   have:=ins_ok insWI
   rw [hceI] at this
   exact this
  split at h
  ·rename_i e
   subst e
   cases h
   exact del_ok delWS
  split at h
  ·rename_i e
   subst e
   cases h
   exact del_ok delWI
  ·cases h
set_option linter.unusedSimpArgs false
set_option linter.unusedVariables false
set_option maxRecDepth 100000
def outL:Option (Bs × Bs × Bs)->V × List O
 | none=>mk28 4
 | some x=>mk28y (0,x.1,x.2.1,x.2.2)
def outR:Option (Bs × Bs × Bs)->V × List O
 | none=>mk31 4
 | some x=>mk31y (0,x.1,x.2.1,x.2.2,!(x.2.2==[]))
abbrev boxL (a b d:Bs):List O:=[O.box 111 (V.agg [V.str a,V.str b,V.str d]) false]
abbrev noL:V:=.tup [.nilP,.int .i64 4]
theorem load_ok (s:Bs) (hs:small s):icC qcfg ⟨true,false⟩ 28 [.str s] []=some (outL (loadS s)):=by
 refine e28_run s rfl ?_
 by_cases h1:(textB s 1).2.2=0
 case neg =>
  rw [show loadS s=none by unfold loadS threeS;rw [if_neg h1];rfl]
  refine ⟨noL,boxL [] [] [],s28_0_0_run _ _ _ _ _ ?_ (.refl _),by kernel_rfl⟩
  unfold s28_0_0
  rw [pcK_of (text_ok s 1 hs),d117_mk,ibne_t h1];rfl
 have g1:∀m b d,s28_0_0 s 1 m b d=some (.head 0 (T28_0 s (textB s 1).2.1 1 (cutS (textB s 1).1) b d)):=fun m b d=>by
  unfold s28_0_0
  rw [pcK_of (text_ok s 1 hs),d117_mk,ibne_f h1,cond_false,pcK_of (cut_ok _),kS_mk]
 by_cases h2:(textB s (textB s 1).2.1).2.2=0
 case neg =>
  rw [show loadS s=none by unfold loadS threeS;rw [if_pos h1,if_neg h2];rfl]
  refine ⟨noL,boxL (cutS (textB s 1).1) [] [],s28_0_0_run _ _ _ _ _ (g1 _ _ _) (s28_0_1_run _ _ _ _ _ ?_ (.refl _)),by kernel_rfl⟩
  unfold s28_0_1
  rw [pcK_of (text_ok s _ hs),d117_mk,ibne_t h2];rfl
 have g2:∀a m d,s28_0_1 s (textB s 1).2.1 a m d=some (.head 0 (T28_0 s (textB s (textB s 1).2.1).2.1 2 a (cutS (textB s (textB s 1).2.1).1) d)):=fun a m d=>by
  unfold s28_0_1
  rw [pcK_of (text_ok s _ hs),d117_mk,ibne_f h2,cond_false,pcK_of (cut_ok _),kS_mk]
 by_cases h3:(textB s (textB s (textB s 1).2.1).2.1).2.2=0
 case neg =>
  rw [show loadS s=none by unfold loadS threeS;rw [if_pos h1,if_pos h2,if_neg h3];rfl]
  refine ⟨noL,boxL (cutS (textB s 1).1) (cutS (textB s (textB s 1).2.1).1) [],s28_0_0_run _ _ _ _ _ (g1 _ _ _) (s28_0_1_run _ _ _ _ _ (g2 _ _ _) (s28_0_2_run _ _ _ _ _ ?_ (.refl _))),by kernel_rfl⟩
  unfold s28_0_2
  rw [pcK_of (text_ok s _ hs),d117_mk,ibne_t h3];rfl
 have g3:∀a b m,s28_0_2 s (textB s (textB s 1).2.1).2.1 a b m=some (.head 0 (T28_0 s (textB s (textB s (textB s 1).2.1).2.1).2.1 3 a b (cutS (textB s (textB s (textB s 1).2.1).2.1).1))):=fun a b m=>by
  unfold s28_0_2
  rw [pcK_of (text_ok s _ hs),d117_mk,ibne_f h3,cond_false,pcK_of (cut_ok _),kS_mk]
 have ht:threeS s=some ((textB s 1).1,(textB s (textB s 1).2.1).1,(textB s (textB s (textB s 1).2.1).2.1).1):=by
  unfold threeS;rw [if_pos h1,if_pos h2,if_pos h3]
 have g4:=fun n=>s28_0_3 s n (cutS (textB s 1).1) (cutS (textB s (textB s 1).2.1).1) (cutS (textB s (textB s (textB s 1).2.1).2.1).1)
 by_cases h4:saveS (cutX ((textB s 1).1,(textB s (textB s 1).2.1).1,(textB s (textB s (textB s 1).2.1).2.1).1))=s
 ·rw [show loadS s=some (cutX ((textB s 1).1,(textB s (textB s 1).2.1).1,(textB s (textB s (textB s 1).2.1).2.1).1)) by unfold loadS;rw [ht,Option.bind_some,if_pos h4]]
  refine ⟨.tup [.ptr 0 0 0,.int .i64 0],boxL (cutS (textB s 1).1) (cutS (textB s (textB s 1).2.1).1) (cutS (textB s (textB s (textB s 1).2.1).2.1).1),s28_0_0_run _ _ _ _ _ (g1 _ _ _) (s28_0_1_run _ _ _ _ _ (g2 _ _ _) (s28_0_2_run _ _ _ _ _ (g3 _ _ _) (s28_0_3_run _ _ _ _ _ ?_ (.refl _)))),by kernel_rfl⟩
  unfold s28_0_3
  rw [pcK_of (save_ok _ _ _ (cut_len _) (cut_len _) (cut_len _)),kS_mk]
  have h5:saveS (cutS (textB s 1).1,cutS (textB s (textB s 1).2.1).1,cutS (textB s (textB s (textB s 1).2.1).2.1).1)=s:=h4
  rw [h5,beq_self_eq_true]
  rfl
 ·rw [show loadS s=none by unfold loadS;rw [ht,Option.bind_some,if_neg h4]]
  refine ⟨noL,boxL (cutS (textB s 1).1) (cutS (textB s (textB s 1).2.1).1) (cutS (textB s (textB s (textB s 1).2.1).2.1).1),s28_0_0_run _ _ _ _ _ (g1 _ _ _) (s28_0_1_run _ _ _ _ _ (g2 _ _ _) (s28_0_2_run _ _ _ _ _ (g3 _ _ _) (s28_0_3_run _ _ _ _ _ ?_ (.refl _)))),by kernel_rfl⟩
  unfold s28_0_3
  rw [pcK_of (save_ok _ _ _ (cut_len _) (cut_len _) (cut_len _)),kS_mk]
  have h5:(saveS (cutS (textB s 1).1,cutS (textB s (textB s 1).2.1).1,cutS (textB s (textB s (textB s 1).2.1).2.1).1)==s)=false:=beq_eq_false_iff_ne.2 h4
  rw [h5]
  rfl
theorem loadR_ok (s:Bs) (hs:small s):icC qcfg ⟨true,false⟩ 31 [.str s] []=some (outR (loadS s)):=by
 have no:∀o:Out,e31 s=some (.doneM noL [])->loadS s=none->icC qcfg ⟨true,false⟩ 31 [.str s] []=some (outR (loadS s)):=fun o h e=>by
  rw [e]
  exact e31_run s h ⟨noL,[],.refl _,by kernel_rfl⟩
 have start:e31 s=e31 s:=rfl
 unfold e31 at start no
 rw [pcK_of (textR_ok s _ hs),d117_mk,pcK_of (textR_ok s _ hs),d117_mk,pcK_of (textR_ok s _ hs),d117_mk] at no
 by_cases h1:(textB s 1).2.2=0
 case neg=>exact no (.done .junk) (by rw [ibne_t h1];rfl) (by unfold loadS threeS;rw [if_neg h1];rfl)
 by_cases h2:(textB s (textB s 1).2.1).2.2=0
 case neg=>exact no (.done .junk) (by rw [ibne_f h1,ibne_t h2];rfl) (by unfold loadS threeS;rw [if_pos h1,if_neg h2];rfl)
 by_cases h3:(textB s (textB s (textB s 1).2.1).2.1).2.2=0
 case neg=>exact no (.done .junk) (by rw [ibne_f h1,ibne_f h2,ibne_t h3];rfl) (by unfold loadS threeS;rw [if_pos h1,if_pos h2,if_neg h3];rfl)
 have ht:threeS s=some ((textB s 1).1,(textB s (textB s 1).2.1).1,(textB s (textB s (textB s 1).2.1).2.1).1):=by
  unfold threeS;rw [if_pos h1,if_pos h2,if_pos h3]
 obtain ⟨c,k,p1,p2,p3,p4,p5,p6⟩:=three_parts ht
 have hc:s[0]? = some c:=by rw [p6];rfl
 have hidx:∀q:UInt8->R,idxK s 0 q=q c:=fun q=>idxK_of hc
 have hsv:=save_iff p1 p2 p3 p5 p6
 have hl:loadS s=if saveS (cutX ((textB s 1).1,(textB s (textB s 1).2.1).1,(textB s (textB s (textB s 1).2.1).2.1).1))=s then some (cutX ((textB s 1).1,(textB s (textB s 1).2.1).1,(textB s (textB s (textB s 1).2.1).2.1).1)) else none:=by
  unfold loadS;rw [ht,Option.bind_some]
 rw [told_c] at hsv
 simp only [ibne_f h1,ibne_f h2,ibne_f h3,cond_false,hidx,p4] at no
 generalize hA:(textB s 1).1=A at *
 generalize hB:(textB s (textB s 1).2.1).1=B at *
 generalize hD:(textB s (textB s (textB s 1).2.1).2.1).1=D at *
 by_cases c1:(k:Int)=(s.length:Int)
 case neg=>exact no (.done .junk) (by rw [ibne_t c1];rfl) (by rw [hl,if_neg fun h=>c1 (by have:=(hsv.1 h).1;omega)])
 by_cases c2:(c.toNat:Int) > 1
 ·exact no (.done .junk) (by rw [ibne_f c1,decide_eq_true c2];rfl) (by rw [hl,if_neg fun h=>(hsv.1 h).2.2.2.2.1 c2])
 by_cases c3:(A.length:Int) > 16
 ·exact no (.done .junk) (by rw [ibne_f c1,decide_eq_false c2,decide_eq_true c3];rfl) (by rw [hl,if_neg fun h=>by have:A.length<=16:=(hsv.1 h).2.1;omega])
 by_cases c4:(B.length:Int) > 16
 ·exact no (.done .junk) (by rw [ibne_f c1,decide_eq_false c2,decide_eq_false c3,decide_eq_true c4];rfl) (by rw [hl,if_neg fun h=>by have:B.length<=16:=(hsv.1 h).2.2.1;omega])
 by_cases c5:(D.length:Int) > 16
 ·exact no (.done .junk) (by rw [ibne_f c1,decide_eq_false c2,decide_eq_false c3,decide_eq_false c4,decide_eq_true c5];rfl) (by rw [hl,if_neg fun h=>by have:D.length<=16:=(hsv.1 h).2.2.2.1;omega])
 by_cases c6:(((c.toNat:Int)==1)==(!(D==[])))=true
 case neg =>
  have c6:(((c.toNat:Int)==1)==(!(D==[])))=false:=by simpa using c6
  exact no (.done .junk) (by rw [ibne_f c1,decide_eq_false c2,decide_eq_false c3,decide_eq_false c4,decide_eq_false c5,c6];rfl) (by rw [hl,if_neg fun h=>by rw [(hsv.1 h).2.2.2.2.2] at c6;cases c6])
 have hA16:A.length<=16:=by omega
 have hB16:B.length<=16:=by omega
 have hD16:D.length<=16:=by omega
 rw [hl,if_pos (hsv.2 ⟨by omega,hA16,hB16,hD16,by omega,c6⟩),cutX,id_cut hA16,id_cut hB16,id_cut hD16]
 refine e31_run s (o:=.doneM (.tup [.ptr 0 0 0,.int .i64 0]) [O.box 55 (V.agg [V.str A,V.str B,V.str D,V.bool (!(D==[]))]) false]) ?_ ⟨_,_,.refl _,by kernel_rfl⟩
 unfold e31
 rw [pcK_of (textR_ok s _ hs),d117_mk,pcK_of (textR_ok s _ hs),d117_mk,pcK_of (textR_ok s _ hs),d117_mk]
 simp only [ibne_f h1,ibne_f h2,ibne_f h3,cond_false,hidx,p4,hA,hB,hD]
 rw [ibne_f c1,decide_eq_false c2,decide_eq_false c3,decide_eq_false c4,decide_eq_false c5,c6]
 rfl
theorem load_save {s:Bs} {x:Bs × Bs × Bs} (h:loadS s=some x):saveS x=s/\x.1.length<=16/\x.2.1.length<=16/\x.2.2.length<=16:=by
 unfold loadS at h
 obtain ⟨y,_,h⟩:=obi.1 h
 split at h
 ·cases h;exact ⟨‹_›,cut_len _,cut_len _,cut_len _⟩
 ·cases h
theorem cursorLoads_true (s:Bs):pcW qcfg 4 [.str s]=some (.bool true):=by
 refine e4_done s ?_
 unfold e4
 rw [cap_ok1 80 (by omega),gd_true,cap_ok2 80 (by omega),gd_true,capT 80 80 rfl]
 have hs:small (s.take 80):=by simp [small];omega
 generalize s.take 80=t at hs |-
 have h1:=load_ok t hs
 have h2:=loadR_ok t hs
 have hf:∀k:V->R,pcK qcfg 30 [] k=k (.bool true):=fun k=>pcK_of fk_run
 cases hl:loadS t with
 | none =>
  rw [hl] at h1 h2
  rw [icM2_of1 mk28_inj h1,icM2_of1 mk31_inj h2,hf]
  rfl
 | some x =>
  obtain ⟨q1,q2,q3,q4⟩:=load_save hl
  rw [hl] at h1 h2
  rw [icM2_of2 mk28y_inj mk28y_ne h1,icM2_of2 mk31y_inj mk31y_ne h2]
  dsimp only
  rw [pcK_of (last_ok _ _ _),d52_mk,pcK_of (save_ok _ _ _ q2 q3 q4),kS_mk]
  have q1:saveS (x.1,x.2.1,x.2.2)=t:=q1
  rw [q1]
  simp only [beq_self_eq_true,cond_true,hf]
  rfl
end Go.Proofs.YtlphgcjepphhcaaGreat
