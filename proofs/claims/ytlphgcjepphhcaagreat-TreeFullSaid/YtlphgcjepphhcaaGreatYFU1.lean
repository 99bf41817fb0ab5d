/-
  TreeFull: whatever is put into a tree and deleted, on however small a shelf, the law returns true and leaves its arguments as they were. No condition.
-/
import Derived.Test.YtlphgcjepphhcaaGreatY7
import Derived.Test.YtlphgcjepphhcaaGreatRows
import Derived.WalkKit
import Derived.ProofKit
import Derived.OpenShut
import Derived.KernelRfl
import Derived.Handed
import Derived.JoinedOf
import Derived.JoinedCond
open List renaming replicate->bE,mem_of_getElem?->cG,mem_map->dP,mem_filter->mD,mem_cons->bP
open Nat renaming le_trans->lD
open Option renaming map_some->cg
open Bool renaming not_true->bR
namespace Go.Proofs.YtlphgcjepphhcaaGreat
open Go Go.Lite
set_option maxRecDepth 100000
set_option linter.unusedVariables false
def OX (a:List V) (b c:Int) (d:List (V × V)) (e:List V): S:=⟨(JU 4)++[V.bool false,V.sl a,V.ptr 0 0 0,V.junk,V.nilP,V.int .i64 b,V.int .i64 0]++(JU 146),(sm c d e)⟩
def mJ (a:List V) (b c d:Int) (e:List (V × V)) (f:List V): S:=⟨(JU 4)++[V.bool false,V.sl a,V.ptr 0 0 0,V.junk,V.ptr 1 0 0,V.int .i64 0,V.int .i64 b]++(JU 146),(wm c d e f)⟩
def wo (a:List V) (b:Int) (c:List V) (d e f:Int) (g:List (V × V)) (h:Int) (i:List (V × V)) (j k:List V): S:=⟨(JU 4)++[V.bool false,V.sl a,V.ptr 0 0 0,V.junk,V.ptr 1 0 0,V.int .i64 0,V.int .i64 b,V.junk,V.junk,V.junk,V.ptr 2 0 0,V.junk,V.junk,V.sl c,V.int .i64 d]++(JU 138),[O.box 140 (V.agg [V.ptr 3 0 0,V.mp 4]) false,O.box 128 (V.agg [V.ptr 0 0 0,V.int .i64 e]) false,O.box 140 (V.agg [V.ptr 5 0 0,V.mp 6]) false,O.box 192 (V.agg [V.tail 7 0,V.int .i64 f]) true,O.map g,O.box 192 (V.agg [V.tail 8 0,V.int .i64 h]) true,O.map i,O.row 5 j 0,O.row 5 k 0]⟩
noncomputable def IS (b:Int) (e:List V): R :=
 aE aA 14 [V.sl e,V.int .i64 120] fun f =>
 kF 38 f fun d =>
 cond (decide (W .i64 (1+(W .i64 (((BitVec.ofInt (IntKind.bits .i64) b &&& BitVec.ofInt (IntKind.bits .i64) 31).toNat:Int)))) < 1))
 (some (.done (V.bool false)))
 (cond (decide (W .i64 (1+(W .i64 (((BitVec.ofInt (IntKind.bits .i64) b &&& BitVec.ofInt (IntKind.bits .i64) 31).toNat:Int)))) > 1024))
 (some (.done (V.bool false)))
 (gd (decide (0<=W .i64 (((W .i64 ((W .i64 ((W .i64 (1+(W .i64 (((BitVec.ofInt (IntKind.bits .i64) b &&& BitVec.ofInt (IntKind.bits .i64) 31).toNat:Int)))))+8)) - 1)).tdiv 8)))) <|
  gd (decide (W .i64 (((W .i64 ((W .i64 ((W .i64 (1+(W .i64 (((BitVec.ofInt (IntKind.bits .i64) b &&& BitVec.ofInt (IntKind.bits .i64) 31).toNat:Int)))))+8)) - 1)).tdiv 8))<=W .i64 (((W .i64 ((W .i64 ((W .i64 (1+(W .i64 (((BitVec.ofInt (IntKind.bits .i64) b &&& BitVec.ofInt (IntKind.bits .i64) 31).toNat:Int)))))+8)) - 1)).tdiv 8)))) <|
  gd (decide ((W .i64 (((W .i64 ((W .i64 ((W .i64 (1+(W .i64 (((BitVec.ofInt (IntKind.bits .i64) b &&& BitVec.ofInt (IntKind.bits .i64) 31).toNat:Int)))))+8)) - 1)).tdiv 8))).toNat<=16777216)) <|
  aT aA aH lw 84 [V.ptr 0 0 0] [O.box 140 (V.agg [V.ptr 1 0 0,V.mp 2]) false,O.box 192 (V.agg [V.tail 3 0,V.int .i64 (W .i64 (1+(W .i64 (((BitVec.ofInt (IntKind.bits .i64) b &&& BitVec.ofInt (IntKind.bits .i64) 31).toNat:Int)))))]) false,O.map [],O.row 5 (bE ((W .i64 (((W .i64 ((W .i64 ((W .i64 (1+(W .i64 (((BitVec.ofInt (IntKind.bits .i64) b &&& BitVec.ofInt (IntKind.bits .i64) 31).toNat:Int)))))+8)) - 1)).tdiv 8))).toNat) (V.int .u8 0)) 0] fun a =>
  cond (a.2.1 != (0:Int))
 (some (.head 0 (OX d a.2.1 a.2.2.1 a.2.2.2.1 a.2.2.2.2)))
 (aT aA aH eo 78 [V.ptr 0 0 0,V.int .i64 a.1,V.ifc 120 (V.agg [V.sl [],V.str [],V.int .i64 0])] (tm a.1 a.2.2.1 a.2.2.2.1 a.2.2.2.2) fun c =>
  some (.head 0 (mJ d 0 c.1 c.2.1 c.2.2.1 c.2.2.2)))))
theorem Rn (a b): Ep 13 [V.int .i64 a,V.sl b] (IS a b):=ep (by kernel_rfl) (by kernel_rfl)
noncomputable def xN (d:List V) (c e f:Int) (g:List (V × V)) (h:List V): R :=
 cond (decide (c < (d.length:Int)))
 (gd (decide (0<=c)) <|
  aY d c.toNat fun j =>
  pQ j fun k aa ab ac =>
  cond (k==(1:Int))
 (gd (decide (0<=c)) <|
  aY d c.toNat fun l =>
  pQ l fun ad m ae af =>
  aT aA aH kx 33 [V.ptr 0 0 0,V.str m] (tm e f g h) fun i =>
  some (.head 0 (mJ d (W .i64 (c+1)) i.2.1 i.2.2.1 i.2.2.2.1 i.2.2.2.2)))
 (c7 aA aH ni 44 [V.ptr 0 0 0] (sm f g h) fun n =>
  bT (wm e f g h) <|
  c7 aA aH ng 43 [V.ptr 0 0 0] (tm e f g h) fun o =>
  bT (wm e f g h) <|
  aT aA aH sL 57 [V.ptr 0 0 0] (sm f g h) fun b =>
  gd (decide (0<=c)) <|
  aY d c.toNat fun p =>
  pQ p fun ag q ah ai =>
  gd (decide (0<=c)) <|
  aY d c.toNat fun r =>
  pQ r fun aj ak s al =>
  aT aA aH kw 32 [V.ptr 0 0 0,V.str q,V.str s] (tm e b.1 b.2.1 b.2.2.1) fun a =>
  cond (a.2.1==(0:Int))
 (some (.head 0 (mJ d (W .i64 (c+1)) a.2.2.1 a.2.2.2.1 a.2.2.2.2.1 a.2.2.2.2.2)))
 (cond (a.2.1==(1:Int))
 (some (.head 0 (mJ d (W .i64 (c+1)) a.2.2.1 a.2.2.2.1 a.2.2.2.2.1 a.2.2.2.2.2)))
 (cond (a.2.1 != (6:Int))
 (some (.done (V.bool false)))
 (cond (decide (n ≥ W .i64 (o+2)))
 (some (.done (V.bool false)))
 (cond (a.2.2.1 != e)
 (some (.done (V.bool false)))
 (c7 aA aH nj 50 [V.ptr 0 0 0] (sm a.2.2.2.1 a.2.2.2.2.1 a.2.2.2.2.2) fun t =>
  bT (wm a.2.2.1 a.2.2.2.1 a.2.2.2.2.1 a.2.2.2.2.2++[O.box 140 (V.agg [V.ptr 6 0 0,V.mp 7]) false,O.box 192 (V.agg [V.tail 8 0,V.int .i64 b.2.2.2.1]) true,O.map b.2.2.2.2.1,O.row 5 b.2.2.2.2.2 0]) <|
  c7 aA aH nj 50 [V.ptr 0 0 0] (sm b.2.2.2.1 b.2.2.2.2.1 b.2.2.2.2.2) fun u =>
  bT (wm a.2.2.1 a.2.2.2.1 a.2.2.2.2.1 a.2.2.2.2.2++[O.box 140 (V.agg [V.ptr 6 0 0,V.mp 7]) false,O.box 192 (V.agg [V.tail 8 0,V.int .i64 b.2.2.2.1]) true,O.map b.2.2.2.2.1,O.row 5 b.2.2.2.2.2 0]) <|
  aE aA 49 [V.sl t,V.sl u] fun v =>
  kB v fun w =>
  cond (!w)
 (some (.done (V.bool false)))
 (c7 aA aH nj 50 [V.ptr 0 0 0] (sm a.2.2.2.1 a.2.2.2.2.1 a.2.2.2.2.2) fun x =>
  bT (wm a.2.2.1 a.2.2.2.1 a.2.2.2.2.1 a.2.2.2.2.2++[O.box 140 (V.agg [V.ptr 6 0 0,V.mp 7]) false,O.box 192 (V.agg [V.tail 8 0,V.int .i64 b.2.2.2.1]) true,O.map b.2.2.2.2.1,O.row 5 b.2.2.2.2.2 0]) <|
  some (.head 1 (wo d c x 0 a.2.2.1 a.2.2.2.1 a.2.2.2.2.1 b.2.2.2.1 b.2.2.2.2.1 a.2.2.2.2.2 b.2.2.2.2.2))))))))))
 (aE aA 45 [] fun y =>
  kB y fun z =>
  some (.done (V.bool z)))
theorem xO (a b c d e f): Rd false 0 13 0 (mJ a b c d e f) (xN a b c d e f):=rd (by kernel_rfl)
noncomputable def FJ (j:List V) (k:Int) (e:List V) (a f b:Int) (c:List (V × V)) (g:Int) (h:List (V × V)) (d i:List V): R :=
 cond (decide (a < (e.length:Int)))
 (gd (decide (0<=a)) <|
  aY e a.toNat fun l =>
  kI .i64 l fun m =>
  c7 aA aH ky 58 [V.ptr 0 0 0,V.int .i64 m] (sm b c d) fun n =>
  bT [O.box 140 (V.agg [V.ptr 3 0 0,V.mp 4]) false,O.box 128 (V.agg [V.ptr 0 0 0,V.int .i64 f]) false,O.box 140 (V.agg [V.ptr 5 0 0,V.mp 6]) false,O.box 192 (V.agg [V.tail 7 0,V.int .i64 b]) true,O.map c,O.box 192 (V.agg [V.tail 8 0,V.int .i64 g]) true,O.map h,O.row 5 d 0,O.row 5 i 0] <|
  gd (decide (0<=a)) <|
  aY e a.toNat fun o =>
  kI .i64 o fun p =>
  c7 aA aH ky 58 [V.ptr 0 0 0,V.int .i64 p] (sm g h i) fun q =>
  bT [O.box 140 (V.agg [V.ptr 3 0 0,V.mp 4]) false,O.box 128 (V.agg [V.ptr 0 0 0,V.int .i64 f]) false,O.box 140 (V.agg [V.ptr 5 0 0,V.mp 6]) false,O.box 192 (V.agg [V.tail 7 0,V.int .i64 b]) true,O.map c,O.box 192 (V.agg [V.tail 8 0,V.int .i64 g]) true,O.map h,O.row 5 d 0,O.row 5 i 0] <|
  cond (!(n.1==q.1))
 (some (.done (V.bool false)))
 (some (.head 1 (wo j k e (W .i64 (a+1)) f b c g h d i))))
 (some (.head 0 (mJ j (W .i64 (k+1)) f b c d)))
theorem MW (a b c d e f g h i j k): Rd false 0 13 1 (wo a b c d e f g h i j k) (FJ a b c d e f g h i j k):=rd (by kernel_rfl)
set_option linter.unusedSimpArgs false
theorem Vt (x:Int):∃m:Nat,m<=31/\W .i64 (((BitVec.ofInt (IntKind.bits .i64) x &&& BitVec.ofInt (IntKind.bits .i64) 31).toNat:Nat):Int)=(m:Int):=by
 have h:(BitVec.ofInt (IntKind.bits .i64) x &&& BitVec.ofInt (IntKind.bits .i64) 31).toNat<=31:=by
  rw [BitVec.toNat_and]
  exact lD Nat.and_le_right (by decide +kernel)
 exact ⟨_,h,aX (by omega)⟩
theorem P8 {n:Nat} (hn:n<=1024) (f:Nat->Bool):bN aA ⟨true,false,false,[]⟩ 139 [.tail 0 0] [O.row 5 (aL n f) 0]=some (qx (aL n f,aL n f)):=by
 have h:rI 5 1 [.tail 0 0] [O.row 5 (aL n f) 0]=some (.own 1,[O.row 5 (aL n f) 0,O.row 5 (aL n f) 0]):=by
  have h1:dp 1 (aL n f)=true:=Bv fun _=>rfl
  have h2:((aL n f).all fun x=>x.cells.all V.flat1)=true:=by simp [aL,V.cells,V.flat1]
  have h3:decide ((aL n f).length<=16777216)=true:=decide_eq_true (by simp [aL];omega)
  obtain ⟨v,m,e1,e2⟩:=P7 (e:=5) (sz:=1) (args:=[.tail 0 0]) (mem:=[O.row 5 (aL n f) 0]) (k:=fun v m=>some (.doneM v m)) (r:=.doneM (.own 1) [O.row 5 (aL n f) 0,O.row 5 (aL n f) 0]) (by
   show (gd _<|gd _<|gd _ _)=_
   rw [aG h1,aG h2,aG h3]
   rfl)
  cases e2
  exact e1
 have e:gV ⟨true,false,false,[]⟩ [O.row 5 (aL n f) 0] (.own 1) [O.row 5 (aL n f) 0,O.row 5 (aL n f) 0]=qx (aL n f,aL n f):=by kernel_rfl
 unfold bN
 rw [sh (cfg:=aA) (g:=rI 5 1) rfl h,cg,e]
theorem Qp {n:Nat} (hn:n<=1024) (f:Nat->Bool):bN aA ⟨true,false,true,[1000192]⟩ 96 [.ptr 0 0 0] (bm (n:Int) (aL n f))=some (sO ((n:Int),aL n f,(n:Int),aL n f)):=by
 refine SP _ _ (o:=.doneM (.ptr 3 0 0) (bm (n:Int) (aL n f)++[O.row 5 (aL n f) 0,O.box 192 (.agg [.tail 2 0,.int .i64 (n:Int)]) false])) ?_ (.done (by kernel_rfl))
 unfold Jq
 rw [cz VQ (P8 hn f)]
theorem Qr {n:Nat} {es:Es} (h:bX n es):bN aA aH 57 [.ptr 0 0 0] (sM n es)=some (sL ((n:Int),aZ es,aL n (aN es),(n:Int),aZ es,aL n (aN es))):=by
 refine Sk _ _ _ (o:=.doneM (.ptr 7 0 0) (sM n es++[O.box 192 (.agg [.tail 5 0,.int .i64 (n:Int)]) true,O.row 5 (aL n (aN es)) 0,O.map (aZ es),O.box 140 (.agg [.ptr 4 0 0,.mp 6]) false])) ?_ (.done (by kernel_rfl))
 unfold Jg
 rw [cz V9 (Qp h.le (aN es))]
theorem N7 {n:Nat} {X:List V} {i:Nat} (hi:i<=200) {r:Int} {es:Es} (hS:bX n es) {o:cW} (hk:Go qk false 0 (fF 13) (.head 0 (mJ X ((i+1:Nat):Int) r (n:Int) (aZ es) (aL n (aN es)))) o) :
  ∀(q:List Int) (k:Nat),(ew n (aN es)).drop k=q->k<=(ew n (aN es)).length ->
  Go qk false 0 (fF 13) (.head 1 (wo X (i:Int) (aB (ew n (aN es))) (k:Int) r (n:Int) (aZ es) (n:Int) (aZ es) (aL n (aN es)) (aL n (aN es)))) o
 | [],k,hd,hkl=>by
  have h1:=drop_nil hd
  have w:W .i64 ((i:Int)+1)=((i+1:Nat):Int):=by rw [aX (by omega)];omega
  refine MW _ _ _ _ _ _ _ _ _ _ _ ?_ hk
  unfold FJ
  rw [bZ,decide_eq_false (by omega),cond_false,w]
 | p::q,k,hd,hkl=>by
  obtain ⟨h1,h2,h3⟩:=gl hd
  have htl:=tA hS
  have hll:=ql hS
  have hn:=hS.le
  have w:W .i64 ((k:Int)+1)=((k+1:Nat):Int):=by rw [aX (by omega)];omega
  have hp:p∈aM es:=by
   have:=cG h1
   unfold ew at this
   obtain ⟨j,hj,rfl⟩:=dP.1 this
   exact of_decide_eq_true (mD.1 hj).2
  obtain ⟨b,hb⟩:∃b,cF es p=some b:=by
   cases hg:cF es p with
   | none=>exact absurd hp (se.1 hg)
   | some b=>exact ⟨b,rfl⟩
  refine MW _ _ _ _ _ _ _ _ _ _ _ ?_ (N7 hi hS hk q (k+1) h2 (by omega))
  unfold FJ
  rw [bZ,decide_eq_true (by omega),cond_true,aG (by simp),bl,eg h1,bU]
  rw [cU oL (s8 hS hb),bY,aG (by simp),eg h1,bU,cU oL (s8 hS hb),bY,beq_self_eq_true,bR,cond_false,w]
theorem GL {n:Nat} (S:List fk) (hS:S.length<=120):∀(q:List fk) (i:Nat),S.drop i=q->i<=S.length->∀(r:Int) (es:Es) (ups:List IL) (b:LL),WF n r es ups b ->
  Go qk false 0 (fF 13) (.head 0 (mJ (fZ S) (i:Int) r (n:Int) (aZ es) (aL n (aN es)))) (.done (.bool true))
 | [],i,hd,hi,r,es,ups,b,h=>by
  have h1:=drop_nil hd
  refine xO _ _ _ _ _ _ ?_ (.refl _)
  unfold xN
  rw [u6,decide_eq_false (by omega),cond_false,aK Tk,cR]
 | o::q,i,hd,hi,r,es,ups,b,h=>by
  obtain ⟨h1,h2,h3⟩:=gl hd
  have hi1:(fZ S)[i]? = some (iS o):=by simp [fZ,h1]
  have w:W .i64 ((i:Int)+1)=((i+1:Nat):Int):=by rw [aX (by omega)];omega
  by_cases k1:o.1=1
  ·obtain ⟨e,r',es',ups',b',hW,hR,hT⟩:=Co h o.2.1
   refine xO _ _ _ _ _ _ ?_ (GL S hS q (i+1) h2 (by omega) r' es' ups' b' hW)
   unfold xN
   rw [u6,decide_eq_true (by omega),cond_true,aG (by simp),bl,dk hi1,iS,uz,dV k1,cond_true,aG (by simp),dk hi1,iS,uz,cz Ao (zk hR),w]
  ·obtain ⟨ok,e,r',es',ups',b',hW,hR,hT⟩:=E8 h o.2.1 o.2.2.1
   have ih:=GL S hS q (i+1) h2 (by omega) r' es' ups' b' hW
   have hul:=mo h.toWT
   have hfree:=zL h.shf
   have hdep:=Cs h.toWT
   have hcp:=Qr h.shf
   have hrun:=xA hR
   obtain ⟨Rst,hs,h6⟩:∃Rst:R,xN (fZ S) (i:Int) r (n:Int) (aZ es) (aL n (aN es))=(cond (e==(0:Int)) (some (.head 0 (mJ (fZ S) ((i+1:Nat):Int) r' (n:Int) (aZ es') (aL n (aN es'))))) (cond (e==(1:Int)) (some (.head 0 (mJ (fZ S) ((i+1:Nat):Int) r' (n:Int) (aZ es') (aL n (aN es'))))) Rst)) /\
     (e=6->n - es.length < ups.length+2->r'=r->es'=es->Rst=some (.head 1 (wo (fZ S) (i:Int) (aB (ew n (aN es))) ((0:Nat):Int) r (n:Int) (aZ es) (n:Int) (aZ es) (aL n (aN es)) (aL n (aN es))))):=by
    apply Exists.intro
    constructor
    ·unfold xN
     rw [u6,decide_eq_true (by omega),cond_true,aG (by simp),bl,dk hi1,iS,uz,eK k1,cond_false,cU Ap hfree,bY,cU EF hdep,bY,cz VX hcp,aG (by simp),dk hi1,iS,uz,aG (by simp),dk hi1,iS,uz]
     show (aT aA _ _ _ _ (tM r n es) _)=_
     rw [cz xm hrun,w]
    ·rintro rfl c1 rfl rfl
     have w2:W .i64 ((ups.length:Int)+2)=((ups.length+2:Nat):Int):=by rw [aX (by omega)];omega
     have htl:=tA h.shf
     have hll:=ql h.shf
     have hn:=h.shf.le
     have i2:=UC (ew n (aN es')) (ew n (aN es')) (by omega)
     rw [beq_self_eq_true] at i2
     have ht:=ZE h.shf
     rw [d0 rfl,cond_false,w2,decide_eq_false (by omega),cond_false,d0 rfl,cond_false]
     show (c7 aA _ _ _ _ (sM n es') _)=_
     rw [cU EG ht,bY]
     show (c7 aA _ _ _ _ (sM n es') _)=_
     rw [cU EG ht,bY,aK i2,cR,bR,cond_false]
     show (c7 aA _ _ _ _ (sM n es') _)=_
     rw [cU EG ht,bY]
     rfl
   rcases hT with ⟨rfl,_⟩ | ⟨_,rfl,rfl,rfl,rfl,⟨rfl,_⟩ | ⟨rfl,_,_,hc⟩⟩
   ·exact xO _ _ _ _ _ _ hs ih
   ·exact xO _ _ _ _ _ _ hs ih
   ·exact xO _ _ _ _ _ _ (hs.trans (h6 rfl hc rfl rfl)) (N7 (by omega) h.shf ih (ew n (aN es')) 0 rfl (by omega))
theorem TJ (p:Int) (S:List fk) (hS:S.length<=maxLen):bK aA 13 [.int .i64 p,.sl (fZ S)]=some (.bool true):=by
 have hcl:(i5 120 S).length<=120:=by simp [i5];omega
 obtain ⟨m,hm,hw⟩:=Vt p
 have hn:W .i64 (1+(m:Int))=((m+1:Nat):Int):=by rw [aX (by omega)];omega
 have hq:W .i64 ((W .i64 ((W .i64 (((m+1:Nat):Int)+8)) - 1)).tdiv 8)=(((m+1+7) / 8:Nat):Int):=by
  have e1:W .i64 (((m+1:Nat):Int)+8)=((m+9:Nat):Int):=by rw [aX (by omega)];omega
  have e2:W .i64 (((m+9:Nat):Int) - 1)=((m+8:Nat):Int):=by rw [aX (by omega)];omega
  have e3:(((m+8:Nat):Int)).tdiv 8=(((m+1+7) / 8:Nat):Int):=by rw [Int.tdiv_eq_ediv_of_nonneg (by omega)];omega
  rw [e1,e2,e3,aX (by omega)]
 have hT:=N1 (n:=m+1) (by omega) (by omega)
 have hW:=Ow (n:=m+1) (by omega) (by omega)
 have hc:bK aA 14 [.sl (fZ S),.int .i64 120]=_:=Qv 120 (by omega) S hS
 refine Rn _ _ ?_ (GL (n:=m+1) (i5 120 S) hcl (i5 120 S) 0 rfl (by omega) 0 i7 [] [(0,[],[])] (Oq (Oz (by omega) (by omega))))
 unfold IS
 rw [aK hc,jC]
 simp only [hw,hn,hq]
 rw [decide_eq_false (by omega),cond_false,decide_eq_false (by omega),cond_false,aG (by simp;omega),aG (by simp),bl,aG (by simp;omega)]
 show (aT aA _ _ _ _ (nM (m+1)) _)=_
 rw [cz uZ hT,d0 rfl,cond_false]
 show (aT aA _ _ _ _ (tm 0 ((m+1:Nat):Int) (aZ [(0,[])]) (aL (m+1) (aN [(0,[])]))) _)=_
 rw [cz hX hW]
 rfl
end Go.Proofs.YtlphgcjepphhcaaGreat
namespace Go.Proofs.YtlphgcjepphhcaaGreat
open Go Go.Lite Go.ChangeShapes Go.WideShapes Go.ChangeAt Go.RowKit
set_option linter.unusedVariables false
set_option maxRecDepth 100000
theorem GH {n:Nat} {vs:List V} (h:dQ Tryz.prog n 3 vs):∃m,vs=[.int .i64 m]/\(Lit.int .i64 m).wf=true:=by
 cases n with
 | zero=>cases h
 | succ n=>unfold dQ at h;rw [Tryz.underlying3] at h;exact h
theorem O2 {n:Nat} {x:V} (h:jQ Tryz.prog n 3 x):∃m,x = .int .i64 m/\(Lit.int .i64 m).wf=true:=by
 have h2:=h.leaf (by rw [Tryz.underlying3];rfl)
 obtain ⟨m,e,w⟩:=GH h.1
 exact ⟨m,by rw [h2] at e;simpa using e,w⟩
theorem NV {n:Nat} {vs:List V} (h:dQ Tryz.prog n 9 vs):∃s,vs=[.str s]/\s.length<=maxLen:=by
 cases n with
 | zero=>cases h
 | succ n=>unfold dQ at h;rw [Tryz.underlying9] at h;exact h
theorem Zw {n:Nat} {vs:List V} (h:dQ Tryz.prog n 38 vs):∃o:fk,vs=[.int .i64 o.1,.str o.2.1,.str o.2.2.1,.int .i64 o.2.2.2]:=by
 cases n with
 | zero=>cases h
 | succ n =>
  unfold dQ at h
  rw [Tryz.underlying38] at h
  obtain ⟨hl,hf⟩:=h
  rw [show Tryz.prog.cellsOf 38=4 by kernel_rfl] at hl
  simp only [bP,forall_eq_or_imp,List.not_mem_nil,false_implies,implies_true,and_true,show Tryz.prog.cellsOf 3=1 by kernel_rfl,show Tryz.prog.cellsOf 9=1 by kernel_rfl] at hf
  obtain ⟨h0,h1,h2,h3⟩:=hf
  obtain ⟨k,e0,_⟩:=GH h0
  obtain ⟨s,e1,_⟩:=NV h1
  obtain ⟨v,e2,_⟩:=NV h2
  obtain ⟨m,e3,_⟩:=GH h3
  match vs,hl,e0,e1,e2,e3 with
  | [b0,b1,b2,b3],_,e0,e1,e2,e3 =>
   simp at e0 e1 e2 e3
   exact ⟨(k,s,v,m),by rw [e0,e1,e2,e3]⟩
theorem O4 {n:Nat} {x:V} (h:jQ Tryz.prog n 38 x):∃cs,x = .agg cs/\dQ Tryz.prog n 38 cs:=by
 obtain ⟨cs,rfl⟩:=h.agg (by rw [Tryz.underlying38];rfl)
 exact ⟨cs,rfl,h.1⟩
theorem O3 {n:Nat} {x:V} (h:jQ Tryz.prog n 38 x):∃o:fk,x=iS o/\(fun _:fk=>True) o:=by
 obtain ⟨cs,rfl,hC⟩:=O4 h
 obtain ⟨o,rfl⟩:=Zw hC
 exact ⟨o,rfl,trivial⟩
theorem KD:∀{l:List V},(∀x∈l,∃m:fk,x=(iS) m/\(fun _:fk=>True) m)->∃ms:List fk,l=ms.map (iS)/\∀m∈ms,(fun _:fk=>True) m
 | [],_=>⟨[],rfl,by simp⟩
 | x::l,h=>by
  obtain ⟨a,rfl,ha⟩:=h x (by simp)
  obtain ⟨ms,rfl,hb⟩:=KD (fun y hy=>h y (by simp [hy]):∀y∈l,_)
  refine ⟨a::ms,rfl,fun m hm=>?_⟩
  rcases bP.1 hm with rfl | hm
  ·exact ha
  ·exact hb m hm
theorem Zx {n:Nat} {vs:List V} (h:dQ Tryz.prog n 22 vs):∃ms:List fk,vs=[.sl (ms.map (iS))]/\ms.length<=maxLen/\∀m∈ms,(fun _:fk=>True) m:=by
 cases n with
 | zero=>cases h
 | succ n =>
  unfold dQ at h
  rw [Tryz.underlying22] at h
  obtain ⟨l,rfl,hl,hx⟩:=h
  obtain ⟨ms,rfl,hm⟩:=KD fun x hm=>O3 (n:=n) (hx x hm)
  exact ⟨ms,rfl,by simpa using hl,hm⟩
theorem O5 {n:Nat} {x:V} (h:jQ Tryz.prog n 22 x):∃ms:List fk,x = .sl (ms.map (iS))/\ms.length<=maxLen/\∀m∈ms,(fun _:fk=>True) m:=by
 have h2:=h.leaf (by rw [Tryz.underlying22];rfl)
 obtain ⟨m,e,w⟩:=Zx h.1
 exact ⟨m,by rw [h2] at e;simpa using e,w⟩
theorem own:ownKnob Tryz.prog.godebug=none:=by kernel_rfl
theorem Pi {P:Program} {n:Nat} {t t':TypeId} {xs:List V} (h:vP P n [t,t'] xs):∃a b,xs=[a,b]/\jQ P n t a/\jQ P n t' b:=by
 match xs,h with
 | [a,b],h=>exact ⟨a,b,rfl,h.1,h.2.1⟩
theorem Vb {α:Type} {l:List α} (h:l.length=2):∃a b,l=[a,b]:=by
 match l,h with
 | [a,b],_=>exact ⟨a,b,rfl⟩
theorem ZM (xs:List V) (h:vP aA.P 6 Tryz.f13.params.toList xs):bK aA 13 xs=some (.bool true):=by
 rw [Tryz.params13] at h
 obtain ⟨a,b,rfl,ha,hb⟩:=Pi h
 obtain ⟨p,rfl,_⟩:=O2 ha
 obtain ⟨S,rfl,hl,_⟩:=O5 hb
 exact TJ p S hl
set_option maxRecDepth 100000 in
theorem ZN (os:Os) (started:os.Started) (H:Type) (enc:TypeId × Value->H) :
  ReturnsInHanded {} Tryz.checked os 13 .any (Rows.treeFullSpec.pre6 enc Tryz.prog Tryz.f13 Rows.treeFullRow.domain false) (Rows.treeFullSpec.post enc Tryz.prog Tryz.f13 false true false false):=by
 refine returnsInHanded_of_change (C:=Tryz.checked) own started (by kernel_rfl) Tryz.func13
  (ChangeSpec.witness6 (enc:=enc) (C:=Tryz.checked) false ⟨#[],#[.int .i64 0,.slice none 0 0],[]⟩ 8 (by kernel_rfl) (by kernel_rfl) (by kernel_rfl) (by kernel_rfl)) ?_
 intro W base args ds gs before hval hW _ _
 exact U3 aR 6 (by kernel_rfl) (by kernel_rfl) (s:=Rows.treeFullSpec) rfl (by kernel_rfl) (tb:=4) (by kernel_rfl) Tryz.underlying4
  (fun H ds h=>by
   obtain ⟨a,b,rfl⟩:=Vb (h.trans (by rw [Tryz.params13];rfl))
   rfl) ZM W base args ds gs before hval hW
theorem treeFull_holds:Rows.TreeFullSaid :=
 OpenClaim.holds_of_wide 13 Tryz.f13 rfl rfl rfl rfl rfl rfl rfl ⟨rfl,rfl,rfl,rfl,rfl⟩ rfl rfl rfl rfl rfl (by kernel_rfl) Tryz.func13 (by kernel_rfl)
  (of_decide_eq_true (by kernel_rfl)) (by unfold Func.isWrapper;first | (rw [if_pos (by decide +kernel)];kernel_rfl) | (rw [if_neg (by decide +kernel)];exact ⟨rfl,rfl⟩))
  (fun os started H enc _=>ZN os started H enc)
end Go.Proofs.YtlphgcjepphhcaaGreat
