/-
  CursorDoes: whatever is put into a tree and deleted, and whenever a cursor is asked, saved and loaded, the law returns true and leaves its arguments as they were. No condition.
-/
import Derived.Test.YtlphgcjepphhcaaGreatD8
import Derived.Test.YtlphgcjepphhcaaGreatRows
import Derived.WalkKit
import Derived.ProofKit
import Derived.OpenShut
import Derived.KernelRfl
import Derived.Handed
import Derived.JoinedOf
import Derived.JoinedCond
noncomputable section
open Option renaming some->aA,none->aF
open List renaming take_of_length_le->sd,mem_of_getElem?->dx,take_zero->se,append_nil->fh,mem_filter->mW,take_succ_cons->o6,getElem?_eq_some_iff->bX,mem_of_mem_take->o4,length_take->eC,replicate->dh,mem_cons->dE,not_mem_nil->FN
open Go.Lite.O renaming box->aJ,row->aM
open Go.Lite.V renaming agg->aH,str->aE,bool->bc,tup->aT,ptr->aK,int->aB,tail->bC
open Bool renaming false->aD,not_true->bK,not_false->gb,true->aC
open Go renaming maxLen->f8,Program->bu,TypeId->aO,Value->aR
namespace Go.Proofs.YtlphgcjepphhcaaGreat
open Go Go.Lite
set_option linter.unusedSimpArgs false
set_option linter.unusedVariables false
set_option maxRecDepth 100000
theorem Mx(s:Bs):bJ aI 64 [.str s]=aA (.str (s.take 16)):=by
 refine YS _ ?_;unfold Hq
 by_cases h:(s.length:Int) > 16
 ·rw[aW h,aZ,aQ (aW (by omega))]
 ·rw[bp h,aP,sd (by omega)]
theorem Gl(s:Bs)(h:s.length<=255):bJ aI 69 [.str s]=aA (.str (bN s)):=by
 refine YV _ ?_;unfold Hr;have w1:W .u8 ((s.length:Int))=((s.length:Nat):Int):=by rw[mr];omega
 rw[w1,bi,aQ (by simp;omega)];rfl
theorem JC(s:Bs)(h:s.length<=255):bJ aI 70 [.str s]=aA (.str (bN s)):=by
 refine YX _ ?_;unfold Hs;have w1:W .u8 ((s.length:Int))=((s.length:Nat):Int):=by rw[mr];omega
 rw[w1,bi,aQ (by simp;omega)];rfl
def gG(f t l:Bs):Bs:=((([if l==[] then 0 else 1]++bN f)++bN t)++bN l)
abbrev cB(f t l:Bs):List O:=[aJ 111 (aH [aE f,aE t,aE l]) aD]
abbrev dB(f t l:Bs):List O:=[aJ 55 (aH [aE f,aE t,aE l,bc (!(l==[]))]) aD]
section
variable {f t l:Bs}(hf:f.length<=16)(ht:t.length<=16)(hl:l.length<=16)
 include hf ht hl
theorem Gk:cA aI aX 26 [.ptr 0 0 0] (cB f t l)=aA (pO (cB f t l) (gG f t l)):=by
 refine Yu _ _ _ (o:=.doneM (.str (gG f t l)) (cB f t l)) ?_ (.done (by kernel_rfl));unfold NC gG
 cases l==[] <;>
  (simp only[bK,gb,aZ,aP]
   rw[aN (Gl f (by omega)),cR,aQ (by simp;omega),aN (Gl t (by omega)),cR,aQ (by simp;omega),aN (Gl l (by omega)),cR,aQ (by simp;omega)];rfl)
theorem ae8:cA aI aX 27 [.ptr 0 0 0] (dB f t l)=aA (vA (dB f t l) (gG f t l)):=by
 refine Yv _ _ _ _ (o:=.doneM (.str (gG f t l)) [aJ 55 (aH [aE f,aE t,aE l,bc (!(l==[]))]) aD]) ?_ (.done (by kernel_rfl));unfold ND gG
 cases l==[] <;>
  (simp only[bK,gb,aZ,aP]
   rw[aN (JC f (by omega)),cR,aQ (by simp;omega),aN (JC t (by omega)),cR,aQ (by simp;omega),aN (JC l (by omega)),cR,aQ (by simp;omega)];rfl)
theorem VL:cA aI aX 28 [.str (gG f t l)] []=aA (rc (0,f,t,l)):=by
 have hlen:(gG f t l).length<=52:=by simp[gG];omega
 have hs:dk (gG f t l):=by simp only[dk];omega
 obtain⟨c0,hc0⟩:∃c0:UInt8,c0=if l==[] then 0 else 1:=⟨_,rfl⟩
 have e1:dW (gG f t l) 1=(f,((1+1+f.length:Nat):Int),0):=by
  rw[show gG f t l=[c0]++(bN f++(bN t++bN l)) by simp[gG,hc0]];exact mR [c0] f (bN t++bN l) (by omega)
 have e2:dW (gG f t l) ((1+1+f.length:Nat):Int)=(t,((1+1+f.length+1+t.length:Nat):Int),0):=by
  have:=mR ([c0]++bN f) t (bN l) (by omega);rw[show([c0]++bN f).length=1+1+f.length by simp;omega]at this;rw[show gG f t l=([c0]++bN f)++(bN t++bN l) by simp[gG,hc0]];exact this
 have e3:dW (gG f t l) ((1+1+f.length+1+t.length:Nat):Int)=(l,((1+1+f.length+1+t.length+1+l.length:Nat):Int),0):=by
  have:=mR (([c0]++bN f)++bN t) l [] (by omega);rw[show(([c0]++bN f)++bN t).length=1+1+f.length+1+t.length by simp;omega]at this;rw[show gG f t l=(([c0]++bN f)++bN t)++(bN l++[]) by simp[gG,hc0]];exact this
 have c:∀s:Bs,s.length<=16->bJ aI 63 [.str s]=aA (.str s):=fun s h=>by rw[Gp,sd h]
 have x1:=Fg (gG f t l) 1 hs;have x2:=Fg (gG f t l) ((1+1+f.length:Nat):Int) hs;have x3:=Fg (gG f t l) ((1+1+f.length+1+t.length:Nat):Int) hs;rw[e1]at x1;rw[e2]at x2;rw[e3]at x3
 have h0:Go qk aC 0 (fF 28) (.head 0 (m8 (gG f t l) 1 0 [] [] [])) (.doneM (.tup [.ptr 0 0 0,.int .i64 0]) (cB f t l)):=by
  refine afy _ _ _ _ _ (o:=.head 0 (m8 (gG f t l) ((1+1+f.length:Nat):Int) 1 f [] [])) ?_ (afz _ _ _ _ _ (o:=.head 0 (m8 (gG f t l) ((1+1+f.length+1+t.length:Nat):Int) 2 f t [])) ?_
   (afA _ _ _ _ _ (o:=.head 0 (m8 (gG f t l) ((1+1+f.length+1+t.length+1+l.length:Nat):Int) 3 f t l)) ?_ (afB _ _ _ _ _ ?_ (.refl _))))
  ·unfold S2;rw[aN x1,d5,dA rfl,aP,aN (c f hf),cR]
  ·unfold S3;rw[aN x2,d5,dA rfl,aP,aN (c t ht),cR]
  ·unfold S4;rw[aN x3,d5,dA rfl,aP,aN (c l hl),cR]
  ·unfold S5;rw[cY ID (Gk hf ht hl),cF,fj,bK,aP]
 exact Yx _ rfl ⟨_,_,h0,by kernel_rfl⟩
end
theorem Cn(f t l:Bs):bJ aI 29 [.ref (.agg [.str f,.str t,.str l]) 0]=aA (.tup [.str l,.bool (!(l==[]))]):=by
 have h:Ep 29 [V.ref (aH [aE f,aE t,aE l]) 0] (aA (.done (aT [aE l,bc (!(l==[]))]))):=ep (by kernel_rfl) (by kernel_rfl);exact ed h rfl
abbrev qM(f t l:Bs)(td:Bool)(r:Int)(n:Nat)(es:Es)(Ls:List Bs):List O:=[aJ 55 (aH [aE f,aE t,aE l,bc td]) aD,aJ 91 (aH [aK 2 0 0,aB .i64 r]) aD,aJ 102 (aH [aK 3 0 0,bC 4 0]) aD,aJ 159 (aH [bC 5 0]) aD,aM 9 (bg Ls) 0,aM 4 (cU n (br es)) 0]
def Jx(f t l:Bs)(r:Int)(n:Nat)(es:Es)(Ls:List Bs):Option Pr->Bs × Bs × Bool × Bs × Bs × Bs × Bool × Int × List V × List V
 |none=>([],[],aD,f,t,l,!(l==[]),r,bg Ls,cU n (br es))
 |some x=>(x.1,x.2,aC,f,t,x.1,aC,r,bg Ls,cU n (br es))
section
variable {f t l:Bs}{r:Int}{n:Nat}{es:Es}{Ls:List Bs}
theorem R2(hf:f.length<=16)(ht:t.length<=16)(L:List Pr)(hL:L.length<=1000000)(hk:∀x∈L,x.1.length<=16):∀(q:List Pr) (i:Nat),L.drop i=q->i<=L.length ->
  ∃v m,Go qk aC 6 (fF 22) (.head 0 (sy (bn L) (i:Int) f t l (!(l==[])) r (bg Ls) (cU n (br es)))) (.doneM v m)/\iP aX (qM f t l (!(l==[])) r n es Ls) v m=vy (Jx f t l r n es Ls (eQ f t l q).head?)
 | [],i,hd,hi=>by
  have h1:=fT hd;refine⟨.tup [.agg [.str [],.str []],.bool aD],qM f t l (!(l==[])) r n es Ls++[aJ 41 (.agg [.str [],.str []]) aD],Kk _ _ _ _ _ _ _ _ _ ?_ (.refl _),by kernel_rfl⟩;unfold EM;rw[dv,bp (by omega),aP];rfl
 |x::q,i,hd,hi=>by
  obtain⟨h1,h2,h3⟩:=ej hd;have hxk:=hk x (dx h1);have w:W .i64 ((i:Int)+1)=((i+1:Nat):Int):=by rw[bf (by omega)];omega
  have hst:EM (bn L) (i:Int) f t l (!(l==[])) r (bg Ls) (cU n (br es))=cond (xr f t x && (l==[] ||lt l x.1)) (aA (.doneM (.tup [.agg [.str x.1,.str x.2],.bool aC]) (qM f t x.1 aC r n es Ls++[aJ 41 (.agg [.str x.1,.str x.2]) aD])))
    (aA (.head 0 (sy (bn L) ((i+1:Nat):Int) f t l (!(l==[])) r (bg Ls) (cU n (br es))))):=by
   have fin:∀(A B:R),(cond (!(l==[])) (aL aI 35 [aE l,aE x.1] fun r_2=>kB r_2 fun r35_2=>cond (!r35_2) B A) A)=cond (l==[] ||lt l x.1) A B:=by
    intro A B;cases l==[]with
    |true=>rfl
    |false =>
     rw[gb,aZ,aN (kX l x.1 (by omega)),bI];cases lt l x.1<;>rfl
   unfold EM xr;rw[dv,aW (by omega),aZ,aQ (by simp),bi,fE h1,fN,aN (kX x.1 f (by omega)),bI,w];simp only[aQ (show decide (0<=(i:Int))=aC by simp),fE h1,fN,fin];cases lt x.1 f with
   |true=>rfl
   |false =>
    rw[aP];cases t==[]with
    |true=>rfl
    |false =>
     rw[gb,aZ,aN (kX x.1 t (by omega)),bI];cases lt x.1 t<;>rfl
  have hh:eQ f t l (x::q)=if (xr f t x && (l==[] ||lt l x.1))=aC then x::eQ f t l q else eQ f t l q:=List.filter_cons
  rw[hh];cases hm:(xr f t x && (l==[] ||lt l x.1))with
  |true =>
   rw[hm,aZ]at hst;exact⟨_,_,Kk _ _ _ _ _ _ _ _ _ hst (.refl _),by rw[aU rfl];kernel_rfl⟩
  |false =>
   rw[hm,aP]at hst;obtain⟨v,m,g1,g2⟩:=R2 hf ht L hL hk q (i+1) h2 (by omega);exact⟨v,m,Kk _ _ _ _ _ _ _ _ _ hst g1,by rw[aY (by simp)];exact g2⟩
theorem Pw{ups:List IL}{b:LL}(h:WT n r es ups b):∀x∈bP b,x.1.length<=16:=fun x hx=>(fm ((xl h.ord h.okF).2 x hx)).2
theorem RZ{ups:List IL}{b:LL}(h:WT n r es ups b)(hL:dq n es Ls)(hb:(bP b).length<=1000000)(hf:f.length<=16)(ht:t.length<=16):cA aI aX 22 [.ptr 0 0 0,.ptr 1 0 0] (qM f t l (!(l==[])) r n es Ls)=aA (vy (Jx f t l r n es Ls (eQ f t l (bP b)).head?)):=by
 obtain⟨v,m,g1,g2⟩:=R2 (l:=l) (r:=r) (n:=n) (es:=es) (Ls:=Ls) hf ht (bP b) hb (Pw h) (bP b) 0 rfl (by omega);refine Yo _ _ _ _ _ _ _ ?_ ⟨v,m,g1,g2⟩;unfold Nw;rw[cY acL (aeZ h hL),cF];rfl
theorem Pu{x:Bs}(h:cg x=aC):(x==[])=false:=by
 cases x with
 |nil=>cases h
 |cons a t=>rfl
theorem Sc{ups:List IL}{b:LL}(h:WT n r es ups b)(hL:dq n es Ls)(hb:(bP b).length<=1000000)(hf:f.length<=16)(ht:t.length<=16)(N:Nat)(hN:N<=100000):∀(d i:Nat) (l:Bs) (acc:List Pr),i+d=N->acc.length<=i ->
  ∃v m,Go qk aC 6 (fF 25) (.head 0 (B5 (N:Int) (i:Int) f t l (!(l==[])) r (bg Ls) (cU n (br es)) (bn acc))) (.doneM v m) /\
   ∀l0 td,iP aX (qM f t l0 td r n es Ls) v m=vz (bn (acc++(eQ f t l (bP b)).take d),f,t,gm l ((eQ f t l (bP b)).take d),!(gm l ((eQ f t l (bP b)).take d)==[]),r,bg Ls,cU n (br es))
 |0,i,l,acc,hi,ha=>by
  refine⟨_,_,Km _ _ _ _ _ _ _ _ _ _ (o:=.doneM (.own 7) (qM f t l (!(l==[])) r n es Ls++[aM 41 [] 0,aM 41 (bn acc) 0])) ?_ (.refl _),fun l0 td=>?_⟩
  ·unfold EN;rw[bp (by omega),aP];rfl
  ·rw[se,fh];kernel_rfl
 |d+1,i,l,acc,hi,ha=>by
  obtain⟨hr,hk⟩:=xl h.ord h.okF;have hn:=RZ (f:=f) (t:=t) (l:=l) h hL hb hf ht;cases hD:eQ f t l (bP b)with
  |nil =>
   rw[hD]at hn;refine⟨_,_,Km _ _ _ _ _ _ _ _ _ _ (o:=.doneM (.own 6) (qM f t l (!(l==[])) r n es Ls++[aM 41 (bn acc) 0])) ?_ (.refl _),fun l0 td=>?_⟩
   ·unfold EN;rw[aW (by omega),aZ];show(bH aI _ _ _ _ (qM f t l (!(l==[])) r n es Ls) _)=_;rw[cH DD hn];rfl
   ·rw[List.take_nil,fh];kernel_rfl
  |cons x D =>
   rw[hD]at hn;have htl:=PP hr hk hD;have hxm:x∈bP b:=(mW.1 (show x∈eQ f t l (bP b) by rw[hD];simp)).1;have w:W .i64 ((i:Int)+1)=((i+1:Nat):Int):=by rw[bf (by omega)];omega
   obtain⟨v,m,g1,g2⟩:=Sc h hL hb hf ht N hN d (i+1) x.1 (acc++[x]) (by omega) (by simp;omega);rw[htl]at g2;refine⟨v,m,Km _ _ _ _ _ _ _ _ _ _ ?_ g1,fun l0 td=>?_⟩
   ·unfold EN;rw[aW (by omega),aZ];show(bH aI _ _ _ _ (qM f t l (!(l==[])) r n es Ls) _)=_;rw[cH DD hn];show(gd _ _)=_;rw[aQ (aW (by rw[dv];simp;omega)),w,Pu (hk x hxm)];simp[bn,Jx]
   ·rw[g2 l0 td,o6,Iu];simp
theorem ae4{ups:List IL}{b:LL}(h:WT n r es ups b)(hL:dq n es Ls)(hb:(bP b).length<=1000000)(hf:f.length<=16)(ht:t.length<=16)(N:Nat)(hN:N<=100000) :
  cA aI aX 25 [.ptr 0 0 0,.ptr 1 0 0,.int .i64 (N:Int)] (qM f t l (!(l==[])) r n es Ls)=aA (vz (bn ((eQ f t l (bP b)).take N),f,t,gm l ((eQ f t l (bP b)).take N),!(gm l ((eQ f t l (bP b)).take N)==[]),r,bg Ls,cU n (br es))):=by
 obtain⟨v,m,g1,g2⟩:=Sc h hL hb hf ht N hN N 0 l [] (by omega) (by simp);refine Yt _ _ _ _ _ _ _ _ ?_ ⟨v,m,g1,g2 _ _⟩;unfold NB;rfl
end
theorem adK{n:Nat}{r:Int}{es:Es}{ups:List IL}{b:LL}{k v:Bs}{ok:Bool}{e r':Int}{es':Es}{ups':List IL}{b':LL}(h:LA n r es ups b k v ok e r' es' ups' b'):(bP b').length<=(bP b).length+1:=by
 rcases h with⟨_,_,_,h,_⟩|⟨_,_,_,_,h,_⟩
 ·rw[h];exact Ja _ _ _
 ·rw[h];omega
theorem Wl{n:Nat}{r:Int}{es:Es}{ups:List IL}{b:LL}{k:Bs}{e r':Int}{es':Es}{ups':List IL}{b':LL}(h:Le n r es ups b k e r' es' ups' b'):(bP b').length<=(bP b).length:=by
 rcases h with⟨_,_,_,h⟩|⟨_,_,_,h,_⟩
 ·rw[h];exact List.length_filter_le _ _
 ·rw[h];omega
theorem V7(S:List gh)(hS:S.length<=f8):bJ aI 14 [.sl (jZ S),.int .i64 80]=aA (.fr 38 (jZ (lr 80 S))):=Xs _ _ rfl (Mz 80 (by omega) S hS (min 80 S.length) 0 (by omega))
theorem UR(n:Int):∃N:Nat,N<=7/\W .i64 (((BitVec.ofInt (IntKind.bits .i64) n &&& BitVec.ofInt (IntKind.bits .i64) 7).toNat:Int))=(N:Int):=by
 have h7:(BitVec.ofInt (IntKind.bits .i64) 7).toNat=7:=by decide
 have h:(BitVec.ofInt (IntKind.bits .i64) n &&& BitVec.ofInt (IntKind.bits .i64) 7).toNat<=7:=by
  rw[BitVec.toNat_and,h7];exact Nat.and_le_right
 exact⟨_,h,by rw[bf (by omega)]⟩
theorem abC{l:Bs}{D:List Pr}(hl:l.length<=16)(h:∀x∈D,x.1.length<=16):(gm l D).length<=16:=by
 induction D generalizing l with
 |nil=>exact hl
 |cons x D ih=>rw[Iu];exact ih (h x (by simp)) fun y hy=>h y (by simp[hy])
abbrev sJ(r:Int)(n:Nat)(es:Es)(Ls:List Bs):List O:=[aJ 128 (aH [aK 2 0 0,aB .i64 r]) aD,aJ 91 (aH [aK 3 0 0,aB .i64 r]) aD,aJ 140 (aH [aK 4 0 0,V.mp 5]) aD,aJ 102 (aH [aK 6 0 0,bC 7 0]) aD,aJ 192 (aH [bC 8 0,aB .i64 (n:Int)]) aC,O.map (cX es),aJ 159 (aH [bC 9 0]) aD,aM 9 (bg Ls) 0,aM 5 (cD n (br es)) 0,aM 4 (cU n (br es)) 0]
abbrev VH(r:Int)(n:Nat)(es:Es)(Ls:List Bs):Int × Int × Int × List (V × V) × List V × List V × List V:=(r,r,(n:Int),cX es,bg Ls,cD n (br es),cU n (br es))
theorem VI{n:Nat}{r:Int}{es:Es}{ups:List IL}{b:LL}{Ls:List Bs}(h:WF n r es ups b)(hL:dq n es Ls)(o:gh) :
  ∃r' es' ups' b' Ls',WF n r' es' ups' b'/\dq n es' Ls'/\(bP b').length<=(bP b).length+1/\cA aI aX 20 [.ptr 0 0 0,.ptr 1 0 0,.agg [.int .i64 o.1,.str o.2.1,.str o.2.2.1,.int .i64 o.2.2.2]] (sJ r n es Ls)=aA (Au (VH r' n es' Ls')):=by
 by_cases k0:o.1=0
 ·obtain⟨ok,e,r',es',ups',b',hW,hR,hT⟩:=adO h o.2.1 o.2.2.1;obtain⟨Ls',hL',hQ⟩:=ae1 hR Ls hL;refine⟨r',es',ups',b',Ls',hW,hL',adK hT,?_⟩;refine Hg _ _ _ _ _ _ _ _ _ _ _ (o:=.doneM (.tup []) (sJ r' n es' Ls'++[aJ 38 (aH [aB .i64 o.1,aE o.2.1,aE o.2.2.1,aB .i64 o.2.2.2]) aD])) ?_ (.done (by kernel_rfl));unfold CN;rw[db k0,aZ,cH acE (adT hR),cH acJ hQ,dH (by rw[k0];decide),aP];rfl
 ·by_cases k1:o.1=1
  ·obtain⟨e,r',es',ups',b',hW,hR,hT⟩:=Wq h o.2.1;obtain⟨Ls',hL',hQ⟩:=aeb hR Ls hL;refine⟨r',es',ups',b',Ls',hW,hL',by have:=Wl hT;omega,?_⟩;refine Hg _ _ _ _ _ _ _ _ _ _ _ (o:=.doneM (.tup []) (sJ r' n es' Ls'++[aJ 38 (aH [aB .i64 o.1,aE o.2.1,aE o.2.2.1,aB .i64 o.2.2.2]) aD])) ?_ (.done (by kernel_rfl));unfold CN;rw[dH k0,aP,db k1,aZ,cH acF (Ws hR),cH acK hQ];rfl
  ·refine⟨r,es,ups,b,Ls,h,hL,by omega,?_⟩;refine Hg _ _ _ _ _ _ _ _ _ _ _ (o:=.doneM (.tup []) (sJ r n es Ls++[aJ 38 (aH [aB .i64 o.1,aE o.2.1,aE o.2.2.1,aB .i64 o.2.2.2]) aD])) ?_ (.done (by kernel_rfl));unfold CN;rw[dH k0,aP,dH k1,aP];rfl
abbrev Gb(S:List gh)(i:Int)(f t l:Bs)(r:Int)(es:Es)(Ls:List Bs):dR:=.head 0 (uI (jZ S) i r r f t l f t l (!(l==[])) ((30:Nat):Int) (cX es) (bg Ls) (cD 30 (br es)) (cU 30 (br es)))
theorem VE{f t l:Bs}{r:Int}{es:Es}{ups:List IL}{b:LL}{Ls:List Bs}(S:List gh){i:Nat}{o:gh}(h1:S[i]? = aA o)(hi:i < 1000)(hf:f.length<=16)(ht:t.length<=16)(hl:l.length<=16)(h:WF 30 r es ups b)(hL:dq 30 es Ls)(hb:(bP b).length<=i) :
  ∃l' r' es' ups' b' Ls',l'.length<=16/\WF 30 r' es' ups' b'/\dq 30 es' Ls'/\(bP b').length<=i+1 /\
   v4 (jZ S) (i:Int) r r f t l f t l (!(l==[])) ((30:Nat):Int) (cX es) (bg Ls) (cD 30 (br es)) (cU 30 (br es))=aA (Gb S (W .i64 ((i:Int)+1)) f t l' r' es' Ls'):=by
 obtain⟨r',es',ups',b',Ls',hW,hL',hbl,hch⟩:=VI h hL o;have hi0:i < S.length:=(bX.1 h1).1;have hi1:(jZ S)[i]? = aA (.agg [.int .i64 o.1,.str o.2.1,.str o.2.2.1,.int .i64 o.2.2.2]):=by simp[jZ,h1,oI]
 have hb2:(bP b').length<=1000000:=by omega
 have hk16:=Pw hW.toWT;have hkey:=(xl hW.ord hW.okF).2
 by_cases k2:o.1=2
 ·have hn:=Qu hW.toWT f t l;have hrn:=RZ (f:=f) (t:=t) (l:=l) hW.toWT hL' hb2 hf ht;cases hh:(eQ f t l (bP b')).head? with
  |none =>
   rw[hh]at hn hrn;refine⟨l,r',es',ups',b',Ls',hl,hW,hL',by omega,?_⟩;unfold v4;rw[tL,aW (by omega),aZ,aQ (by simp),bi,cG hi1,zN];show(bH aI _ _ _ _ (sJ r 30 es Ls) _)=_;rw[cH Dz hch,db k2,aZ];show(bH aI _ _ _ _ (cM f t l r' 30 es') _)=_;rw[cH DC hn];show(bH aI _ _ _ _ (qM f t l (!(l==[])) r' 30 es' Ls') _)=_;rw[cH DD hrn];show(cond (o.1==3) _ (aL aI _ [.ref (.agg [.str f,.str t,.str l]) 0] _))=_;rw[dH (by rw[k2];decide),aP,aN (Cn f t l),Cy];show(cond (!(l==l)) _ (cond (!((!(l==[]))==(!(l==[])))) _ _))=_;rw[fj,fj];rfl
  |some x =>
   rw[hh]at hn hrn;have hx:x∈bP b':=(mW.1 (List.mem_of_mem_head? hh)).1;have hxk:=Pu (hkey x hx);refine⟨x.1,r',es',ups',b',Ls',hk16 x hx,hW,hL',by omega,?_⟩;unfold v4;rw[tL,aW (by omega),aZ,aQ (by simp),bi,cG hi1,zN];show(bH aI _ _ _ _ (sJ r 30 es Ls) _)=_;rw[cH Dz hch,db k2,aZ];show(bH aI _ _ _ _ (cM f t l r' 30 es') _)=_;rw[cH DC hn];show(bH aI _ _ _ _ (qM f t l (!(l==[])) r' 30 es' Ls') _)=_;rw[cH DD hrn];show(cond (!((x.1==x.1) && ((x.2==x.2) && aC))) _ (cond (o.1==3) _ (aL aI _ [.ref (.agg [.str f,.str t,.str x.1]) 0] _)))=_;rw[fj,fj,dH (by rw[k2];decide),aP,aN (Cn f t x.1),Cy];show(cond (!(x.1==x.1)) _ (cond (!((!(x.1==[]))==aC)) _ _))=_;rw[fj,hxk];unfold Gb;rw[hxk];rfl
 ·by_cases k3:o.1=3
  ·obtain⟨N,hN,hNe⟩:=UR o.2.2.2;obtain⟨l1,e0,_,hr⟩:=aen hW.toWT f t l N (by omega);have hrr:=ae4 (f:=f) (t:=t) (l:=l) hW.toWT hL' hb2 hf ht N (by omega);rw[<-e0]at hrr
   have hl1:l1.length<=16:=by
    rw[e0];exact abC hl fun x hx=>hk16 x (mW.1 (o4 hx)).1
   refine⟨l1,r',es',ups',b',Ls',hl1,hW,hL',by omega,?_⟩;unfold v4;rw[tL,aW (by omega),aZ,aQ (by simp),bi,cG hi1,zN];show(bH aI _ _ _ _ (sJ r 30 es Ls) _)=_;rw[cH Dz hch,dH k2,aP,db k3,aZ,hNe];show(bH aI _ _ _ _ (cM f t l r' 30 es') _)=_;rw[cH acz hr];show(bH aI _ _ _ _ (qM f t l (!(l==[])) r' 30 es' Ls') _)=_;rw[cH acA hrr];show(aL aI _ [.sl (bn ((eQ f t l (bP b')).take N)),.sl (bn ((eQ f t l (bP b')).take N))] _)=_;rw[aN (adu _ (by simp;omega)),bI,bK,aP];show(dJ aI _ _ _ _ (cB f t l1) _)=_;rw[cY ID (Gk hf ht hl1),cF];show(dJ aI _ _ _ _ (dB f t l1) _)=_;rw[cY acB (ae8 hf ht hl1),cF,fj,bK,aP];show(dJ aI _ _ _ _ (cB f t l1) _)=_;rw[cY ID (Gk hf ht hl1),cF,O9 acC acD (VL hf ht hl1),dA rfl,aP];show(aL aI _ [.ref (.agg [.str f,.str t,.str l1]) 0] _)=_;rw[aN (Cn f t l1),Cy];show(cond (!(l1==l1)) _ (cond (!((!(l1==[]))==(!(l1==[])))) _ _))=_;rw[fj,fj];rfl
  ·refine⟨l,r',es',ups',b',Ls',hl,hW,hL',by omega,?_⟩;unfold v4;rw[tL,aW (by omega),aZ,aQ (by simp),bi,cG hi1,zN];show(bH aI _ _ _ _ (sJ r 30 es Ls) _)=_;rw[cH Dz hch,dH k2,aP,dH k3,aP,aN (Cn f t l),Cy,fj,fj];rfl
theorem Mn{f t:Bs}(hf:f.length<=16)(ht:t.length<=16)(S:List gh)(hS:S.length<=80):∀(q:List gh) (i:Nat),S.drop i=q->i<=S.length->∀(l:Bs) (r:Int) (es:Es) (ups:List IL) (b:LL) (Ls:List Bs),l.length<=16->WF 30 r es ups b->dq 30 es Ls->(bP b).length<=i ->
  Go qk aD 0 (fF 3) (Gb S (i:Int) f t l r es Ls) (.done (.bool aC))
 | [],i,hd,hi,l,r,es,ups,b,Ls,_,_,_,_=>by
  have h1:=fT hd;refine S8 _ _ _ _ _ _ _ _ _ _ _ _ _ _ _ _ ?_ (.refl _);unfold v4;rw[tL,bp (by omega),aP,aN Z9,bI]
 |o::q,i,hd,hi,l,r,es,ups,b,Ls,hl,h,hL,hb=>by
  obtain⟨h1,h2,h3⟩:=ej hd;have w:W .i64 ((i:Int)+1)=((i+1:Nat):Int):=by rw[bf (by omega)];omega
  obtain⟨l',r',es',ups',b',Ls',c1,c2,c3,c4,c5⟩:=VE S h1 (by omega) hf ht hl h hL hb;rw[w]at c5;exact S8 _ _ _ _ _ _ _ _ _ _ _ _ _ _ _ _ c5 (Mn hf ht S hS q (i+1) h2 (by omega) l' r' es' ups' b' Ls' c1 c2 c3 c4)
theorem VF(S:List gh)(hS:S.length<=f8)(f t:Bs):bJ aI 3 [.str f,.str t,.sl (jZ S)]=aA (.bool aC):=by
 have hcl:(lr 80 S).length<=80:=by simp[lr];omega
 have hf:(f.take 16).length<=16:=by rw[eC];omega
 have ht:(t.take 16).length<=16:=by rw[eC];omega
 have t1:(f.take 40).take 16=f.take 16:=by rw[List.take_take];rfl
 have t2:(t.take 40).take 16=t.take 16:=by rw[List.take_take];rfl
 have c1:=Gp (f.take 40);have c2:=Gp (t.take 40);have c3:=Mx (f.take 40);have c4:=Mx (t.take 40);rw[t1]at c1 c3;rw[t2]at c2 c4;have hs0:cP 30 ([]:Es):=⟨by omega,by simp[bB],by simp[bB]⟩
 have hL0:dq 30 ([]:Es) (dh 30 []):=⟨by simp,fun p b h=>by cases h⟩
 have hf0:mI 30 (br ([]:Es))=aA 0:=by decide +kernel
 have htk:=Em hs0 hL0 hf0 (by omega) (by simp[bB]);have hm0:jH 30 ([]:Es) (dh 30 [])=rs (dh 30 (aE [])) (dh 30 (bc aD)):=by kernel_rfl
 rw[hm0]at htk;have hs1:=qh hs0 (b:=[]) (show 0 < 30 by omega) (by simp[bB]);have hL1:=ku hs0 hL0 (p:=((0:Nat):Int)) (by omega) [];have r0:cK kW=true:=by decide +kernel
 have hg1:((0:Nat):Int)∈bB (bD ([]:Es) ((0:Nat):Int) []):=by simp[bD,bB]
 have hwr:=lJ hs1 hL1 hg1 (pA r0);have hL2:=ku hs1 hL1 (p:=((0:Nat):Int)) (by omega) (bq kW);have he:bD (bD ([]:Es) ((0:Nat):Int) []) ((0:Nat):Int) (bq kW)=mH:=by decide +kernel
 rw[he]at hL2 hwr;refine YD _ _ _ ?_ (Mn hf ht (lr 80 S) hcl (lr 80 S) 0 rfl (by omega) [] 0 mH [] [(0,[],[])] _ (by simp) wf0 hL2 (by simp[bP]));have c40:∀n:Nat,(if 40 < (n:Int) then (40:Int) else (n:Int))=((min 40 n:Nat):Int):=fun n=>by split<;>omega
 unfold e3;rw[aN (V7 S hS),ir,O9 acs acu Va,cH DF htk,dA rfl,aP];show(aL aI _ [eL kW] _)=_;rw[aN (qa kW r0),cR];show(bH aI _ _ _ [.ptr 0 0 0,.int .i64 ((0:Nat):Int),.str (bq kW)] (jH 30 (bD ([]:Es) ((0:Nat):Int) []) ((dh 30 ([]:Bs)).set ((0:Nat):Int).toNat [])) _)=_;rw[cH lF hwr,c40,c40,aQ (by simp),bi,bi,aQ (aW (by omega)),aQ (by simp),aQ (aW (by omega)),yP,yP,aN c1,cR,aN c2,cR,aN c3,cR,aN c4,cR];rfl
end Go.Proofs.YtlphgcjepphhcaaGreat
namespace Go.Proofs.YtlphgcjepphhcaaGreat
open Go Go.Lite Go.ChangeShapes Go.WideShapes Go.ChangeAt Go.RowKit
set_option linter.unusedVariables false
set_option maxRecDepth 100000
theorem TM{n:Nat}{vs:List V}(h:fM Tryz.prog n 3 vs):∃m,vs=[.int .i64 m]/\(Lit.int .i64 m).wf=true:=by
 cases n with
 |zero=>cases h
 |succ n=>unfold fM at h;rw[Tryz.underlying3]at h;exact h
theorem KW{n:Nat}{vs:List V}(h:fM Tryz.prog n 9 vs):∃s,vs=[.str s]/\s.length<=f8:=by
 cases n with
 |zero=>cases h
 |succ n=>unfold fM at h;rw[Tryz.underlying9]at h;exact h
theorem LI{n:Nat}{x:V}(h:lO Tryz.prog n 9 x):∃m,x = .str m/\m.length<=f8:=by
 have h2:=h.leaf (by rw[Tryz.underlying9];rfl);obtain⟨m,e,w⟩:=KW h.1;exact⟨m,by rw[h2]at e;simpa using e,w⟩
theorem tOp{n:Nat}{vs:List V}(h:fM Tryz.prog n 38 vs):∃o:gh,vs=[.int .i64 o.1,.str o.2.1,.str o.2.2.1,.int .i64 o.2.2.2]:=by
 cases n with
 |zero=>cases h
 |succ n =>
  unfold fM at h;rw[Tryz.underlying38]at h;obtain⟨hl,hf⟩:=h;rw[show Tryz.prog.cellsOf 38=4 by kernel_rfl]at hl;simp only[dE,forall_eq_or_imp,FN,false_implies,implies_true,and_true,show Tryz.prog.cellsOf 3=1 by kernel_rfl,show Tryz.prog.cellsOf 9=1 by kernel_rfl]at hf;obtain⟨h0,h1,h2,h3⟩:=hf;obtain⟨k,e0,_⟩:=TM h0;obtain⟨s,e1,_⟩:=KW h1;obtain⟨v,e2,_⟩:=KW h2;obtain⟨m,e3,_⟩:=TM h3
  match vs,hl,e0,e1,e2,e3 with
  | [b0,b1,b2,b3],_,e0,e1,e2,e3 =>
   simp at e0 e1 e2 e3;exact⟨(k,s,v,m),by rw[e0,e1,e2,e3]⟩
theorem UN{n:Nat}{x:V}(h:lO Tryz.prog n 38 x):∃cs,x = .agg cs/\fM Tryz.prog n 38 cs:=by
 obtain⟨cs,rfl⟩:=h.agg (by rw[Tryz.underlying38];rfl);exact⟨cs,rfl,h.1⟩
theorem UM{n:Nat}{x:V}(h:lO Tryz.prog n 38 x):∃o:gh,x=oI o/\(fun _:gh=>True) o:=by
 obtain⟨cs,rfl,hC⟩:=UN h;obtain⟨o,rfl⟩:=tOp hC;exact⟨o,rfl,trivial⟩
theorem PE:∀{l:List V},(∀x∈l,∃m:gh,x=(oI) m/\(fun _:gh=>True) m)->∃ms:List gh,l=ms.map (oI)/\∀m∈ms,(fun _:gh=>True) m
 | [],_=>⟨[],rfl,by simp⟩
 |x::l,h=>by
  obtain⟨a,rfl,ha⟩:=h x (by simp);obtain⟨ms,rfl,hb⟩:=PE (fun y hy=>h y (by simp[hy]):∀y∈l,_);refine⟨a::ms,rfl,fun m hm=>?_⟩;rcases dE.1 hm with rfl|hm
  ·exact ha
  ·exact hb m hm
theorem agx{n:Nat}{vs:List V}(h:fM Tryz.prog n 22 vs):∃ms:List gh,vs=[.sl (ms.map (oI))]/\ms.length<=f8/\∀m∈ms,(fun _:gh=>True) m:=by
 cases n with
 |zero=>cases h
 |succ n =>
  unfold fM at h;rw[Tryz.underlying22]at h;obtain⟨l,rfl,hl,hx⟩:=h;obtain⟨ms,rfl,hm⟩:=PE fun x hm=>UM (n:=n) (hx x hm)
  exact⟨ms,rfl,by simpa using hl,hm⟩
theorem UO{n:Nat}{x:V}(h:lO Tryz.prog n 22 x):∃ms:List gh,x = .sl (ms.map (oI))/\ms.length<=f8/\∀m∈ms,(fun _:gh=>True) m:=by
 have h2:=h.leaf (by rw[Tryz.underlying22];rfl);obtain⟨m,e,w⟩:=agx h.1;exact⟨m,by rw[h2]at e;simpa using e,w⟩
theorem own:ownKnob Tryz.prog.godebug=none:=by kernel_rfl
theorem UZ{P:bu}{n:Nat}{t t' t'':aO}{xs:List V}(h:yX P n [t,t',t''] xs):∃a b c,xs=[a,b,c]/\lO P n t a/\lO P n t' b/\lO P n t'' c:=by
 match xs,h with
 | [a,b,c],h=>exact⟨a,b,c,rfl,h.1,h.2.1,h.2.2.1⟩
theorem abO{α:Type}{l:List α}(h:l.length=3):∃a b c,l=[a,b,c]:=by
 match l,h with
 | [a,b,c],_=>exact⟨a,b,c,rfl⟩
theorem V5(xs:List V)(h:yX aI.P 6 Tryz.f3.params.toList xs):bJ aI 3 xs=aA (.bool aC):=by
 rw[Tryz.params3]at h;obtain⟨a,b,c,rfl,ha,hb,hc⟩:=UZ h;obtain⟨f,rfl,_⟩:=LI ha;obtain⟨t,rfl,_⟩:=LI hb;obtain⟨S,rfl,hl,_⟩:=UO hc;exact VF S hl f t
set_option maxRecDepth 100000 in
theorem V6(os:Os)(started:os.Started)(H:Type)(enc:aO × aR->H) :
  ReturnsInHanded {} Tryz.checked os 3 .any (Rows.cursorDoesSpec.pre6 enc Tryz.prog Tryz.f3 Rows.cursorDoesRow.domain aD) (Rows.cursorDoesSpec.post enc Tryz.prog Tryz.f3 aD aC aD aD):=by
 refine returnsInHanded_of_change (C:=Tryz.checked) own started (by kernel_rfl) Tryz.func3
  (ChangeSpec.witness6 (enc:=enc) (C:=Tryz.checked) aD ⟨#[],#[.string ⟨#[]⟩,.string ⟨#[]⟩,.slice aF 0 0],[]⟩ 8 (by kernel_rfl) (by kernel_rfl) (by kernel_rfl) (by kernel_rfl)) ?_
 intro W base args ds gs before hval hW _ _
 exact abF bA 6 (by kernel_rfl) (by kernel_rfl) (s:=Rows.cursorDoesSpec) rfl (by kernel_rfl) (tb:=4) (by kernel_rfl) Tryz.underlying4
  (fun H ds h=>by
   obtain⟨a,b,c,rfl⟩:=abO (h.trans (by rw[Tryz.params3];rfl));rfl) V5 W base args ds gs before hval hW
theorem cursorDoes_holds:Rows.CursorDoesSaid :=
 OpenClaim.holds_of_wide 3 Tryz.f3 rfl rfl rfl rfl rfl rfl rfl ⟨rfl,rfl,rfl,rfl,rfl⟩ rfl rfl rfl rfl rfl (by kernel_rfl) Tryz.func3 (by kernel_rfl)
  (gx (by kernel_rfl)) (by unfold Func.isWrapper;first|(rw[aU (by decide +kernel)];kernel_rfl)|(rw[aY (by decide +kernel)];exact⟨rfl,rfl⟩))
  (fun os started H enc _=>V6 os started H enc)
end Go.Proofs.YtlphgcjepphhcaaGreat
