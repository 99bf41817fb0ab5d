/-
  TreeDoes: whatever is put, got, deleted and scanned, on however small a shelf, the law returns true and leaves its arguments as they were. No condition.
-/
import Derived.Test.YtlphgcjepphhcaaGreatR8
import Derived.Test.YtlphgcjepphhcaaGreatRows
import Derived.WalkKit
import Derived.ProofKit
import Derived.OpenShut
import Derived.KernelRfl
import Derived.Handed
import Derived.JoinedOf
import Derived.JoinedCond
set_option linter.all false
noncomputable section
open Go.Lite.V renaming bool->aW,junk->bj,sl->aH,ptr->aL,int->aC,agg->aI,mp->dJ,tail->bl,str->aG,ifc->gK
open Bool renaming false->aE,true->aD,not_true->cN
open Go.IntKind renaming i64->aB,bits->bJ,u8->bK
open Go.Lite.O renaming box->aM,map->dI,row->aN
open Option renaming some->aA,none->aF
open List renaming replicate->cA,mem_map->fi,mem_of_getElem?->dH,find?_range_eq_some->Mz,mem_cons->dC
open Nat renaming le_trans->qw
open Go renaming maxLen->f9,Program->bv,TypeId->aP,Value->aR
namespace Go.Proofs.YtlphgcjepphhcaaGreat
open Go Go.Lite
set_option maxRecDepth 100000
set_option linter.unusedVariables false
def Wr(a:List V)(b c d:Int)(e:List (V × V))(f g h:List V): S:=⟨(JU 4)++[aW aE,bj,aH a,aL 0 0 0,bj,aL 1 0 0,bj,V.nilP,aC aB b,V.nilP,aC aB c,aC aB 0]++(JU 109),[aM 140 (aI [aL 2 0 0,dJ 3]) aE,aM 102 (aI [aL 4 0 0,bl 5 0]) aE,aM 192 (aI [bl 6 0,aC aB d]) aD,dI e,aM 159 (aI [bl 7 0]) aE,aN 9 f 0,aN 5 g 0,aN 4 h 0]⟩
def Ws(a:List V)(b c d:Int)(e:List (V × V))(f g h:List V): S:=⟨(JU 4)++[aW aE,bj,aH a,aL 0 0 0,bj,aL 1 0 0,bj,V.nilP,aC aB b,aL 2 0 0,aC aB 0,aC aB 0]++(JU 109),[aM 140 (aI [aL 3 0 0,dJ 4]) aE,aM 102 (aI [aL 5 0 0,bl 6 0]) aE,aM 91 (aI [aL 1 0 0,aC aB c]) aE,aM 192 (aI [bl 7 0,aC aB d]) aD,dI e,aM 159 (aI [bl 8 0]) aE,aN 9 f 0,aN 5 g 0,aN 4 h 0]⟩
def Wt(a:List V)(b c d:Int)(e:List (V × V))(f g h:List V): S:=⟨(JU 4)++[aW aE,bj,aH a,aL 0 0 0,bj,aL 1 0 0,bj,aL 2 0 0,aC aB 0,V.nilP,aC aB b,aC aB 0]++(JU 109),[aM 140 (aI [aL 3 0 0,dJ 4]) aE,aM 102 (aI [aL 5 0 0,bl 6 0]) aE,aM 128 (aI [aL 0 0 0,aC aB c]) aE,aM 192 (aI [bl 7 0,aC aB d]) aD,dI e,aM 159 (aI [bl 8 0]) aE,aN 9 f 0,aN 5 g 0,aN 4 h 0]⟩
def Cv(a:List V)(b c d e:Int)(f:List (V × V))(g h i:List V): S:=⟨(JU 4)++[aW aE,bj,aH a,aL 0 0 0,bj,aL 1 0 0,bj,aL 2 0 0,aC aB 0,aL 3 0 0,aC aB 0,aC aB b]++(JU 109),[aM 140 (aI [aL 4 0 0,dJ 5]) aE,aM 102 (aI [aL 6 0 0,bl 7 0]) aE,aM 128 (aI [aL 0 0 0,aC aB c]) aE,aM 91 (aI [aL 1 0 0,aC aB d]) aE,aM 192 (aI [bl 8 0,aC aB e]) aD,dI f,aM 159 (aI [bl 9 0]) aE,aN 9 g 0,aN 5 h 0,aN 4 i 0]⟩
def Oi (a:Int) (i:List V): R :=
 aT aJ 14 [aH i,aC aB 150] λj =>
 kF 38 j λf =>
 cond (decide (W aB (1+(W aB (((BitVec.ofInt (bJ aB) a &&& BitVec.ofInt (bJ aB) 63).toNat:Int)))) < 1))
 (cond (decide (W aB (1+(W aB (((BitVec.ofInt (bJ aB) a &&& BitVec.ofInt (bJ aB) 63).toNat:Int)))) < 1))
 (aA (.done (aW aE)))
 (cond (decide (W aB (1+(W aB (((BitVec.ofInt (bJ aB) a &&& BitVec.ofInt (bJ aB) 63).toNat:Int)))) > 1024))
 (aA (.done (aW aE)))
 (gd (decide (0<=W aB (1+(W aB (((BitVec.ofInt (bJ aB) a &&& BitVec.ofInt (bJ aB) 63).toNat:Int)))))) <|
  gd (decide (W aB (1+(W aB (((BitVec.ofInt (bJ aB) a &&& BitVec.ofInt (bJ aB) 63).toNat:Int))))<=W aB (1+(W aB (((BitVec.ofInt (bJ aB) a &&& BitVec.ofInt (bJ aB) 63).toNat:Int)))))) <|
  gd (decide ((W aB (1+(W aB (((BitVec.ofInt (bJ aB) a &&& BitVec.ofInt (bJ aB) 63).toNat:Int))))).toNat<=16777216)) <|
  gd (decide (0<=W aB (1+(W aB (((BitVec.ofInt (bJ aB) a &&& BitVec.ofInt (bJ aB) 63).toNat:Int)))))) <|
  gd (decide (W aB (1+(W aB (((BitVec.ofInt (bJ aB) a &&& BitVec.ofInt (bJ aB) 63).toNat:Int))))<=W aB (1+(W aB (((BitVec.ofInt (bJ aB) a &&& BitVec.ofInt (bJ aB) 63).toNat:Int)))))) <|
  gd (decide ((W aB (1+(W aB (((BitVec.ofInt (bJ aB) a &&& BitVec.ofInt (bJ aB) 63).toNat:Int))))).toNat<=16777216)) <|
  aA (.done (aW aE)))))
 (cond (decide (W aB (1+(W aB (((BitVec.ofInt (bJ aB) a &&& BitVec.ofInt (bJ aB) 63).toNat:Int)))) > 1024))
 (cond (decide (W aB (1+(W aB (((BitVec.ofInt (bJ aB) a &&& BitVec.ofInt (bJ aB) 63).toNat:Int)))) < 1))
 (aA (.done (aW aE)))
 (cond (decide (W aB (1+(W aB (((BitVec.ofInt (bJ aB) a &&& BitVec.ofInt (bJ aB) 63).toNat:Int)))) > 1024))
 (aA (.done (aW aE)))
 (gd (decide (0<=W aB (1+(W aB (((BitVec.ofInt (bJ aB) a &&& BitVec.ofInt (bJ aB) 63).toNat:Int)))))) <|
  gd (decide (W aB (1+(W aB (((BitVec.ofInt (bJ aB) a &&& BitVec.ofInt (bJ aB) 63).toNat:Int))))<=W aB (1+(W aB (((BitVec.ofInt (bJ aB) a &&& BitVec.ofInt (bJ aB) 63).toNat:Int)))))) <|
  gd (decide ((W aB (1+(W aB (((BitVec.ofInt (bJ aB) a &&& BitVec.ofInt (bJ aB) 63).toNat:Int))))).toNat<=16777216)) <|
  gd (decide (0<=W aB (1+(W aB (((BitVec.ofInt (bJ aB) a &&& BitVec.ofInt (bJ aB) 63).toNat:Int)))))) <|
  gd (decide (W aB (1+(W aB (((BitVec.ofInt (bJ aB) a &&& BitVec.ofInt (bJ aB) 63).toNat:Int))))<=W aB (1+(W aB (((BitVec.ofInt (bJ aB) a &&& BitVec.ofInt (bJ aB) 63).toNat:Int)))))) <|
  gd (decide ((W aB (1+(W aB (((BitVec.ofInt (bJ aB) a &&& BitVec.ofInt (bJ aB) 63).toNat:Int))))).toNat<=16777216)) <|
  aA (.done (aW aE)))))
 (gd (decide (0<=W aB (((W aB ((W aB ((W aB (1+(W aB (((BitVec.ofInt (bJ aB) a &&& BitVec.ofInt (bJ aB) 63).toNat:Int)))))+8)) - 1)).tdiv 8)))) <|
  gd (decide (W aB (((W aB ((W aB ((W aB (1+(W aB (((BitVec.ofInt (bJ aB) a &&& BitVec.ofInt (bJ aB) 63).toNat:Int)))))+8)) - 1)).tdiv 8))<=W aB (((W aB ((W aB ((W aB (1+(W aB (((BitVec.ofInt (bJ aB) a &&& BitVec.ofInt (bJ aB) 63).toNat:Int)))))+8)) - 1)).tdiv 8)))) <|
  gd (decide ((W aB (((W aB ((W aB ((W aB (1+(W aB (((BitVec.ofInt (bJ aB) a &&& BitVec.ofInt (bJ aB) 63).toNat:Int)))))+8)) - 1)).tdiv 8))).toNat<=16777216)) <|
  cond (decide (W aB (1+(W aB (((BitVec.ofInt (bJ aB) a &&& BitVec.ofInt (bJ aB) 63).toNat:Int)))) < 1))
 (aA (.done (aW aE)))
 (cond (decide (W aB (1+(W aB (((BitVec.ofInt (bJ aB) a &&& BitVec.ofInt (bJ aB) 63).toNat:Int)))) > 1024))
 (aA (.done (aW aE)))
 (gd (decide (0<=W aB (1+(W aB (((BitVec.ofInt (bJ aB) a &&& BitVec.ofInt (bJ aB) 63).toNat:Int)))))) <|
  gd (decide (W aB (1+(W aB (((BitVec.ofInt (bJ aB) a &&& BitVec.ofInt (bJ aB) 63).toNat:Int))))<=W aB (1+(W aB (((BitVec.ofInt (bJ aB) a &&& BitVec.ofInt (bJ aB) 63).toNat:Int)))))) <|
  gd (decide ((W aB (1+(W aB (((BitVec.ofInt (bJ aB) a &&& BitVec.ofInt (bJ aB) 63).toNat:Int))))).toNat<=16777216)) <|
  gd (decide (0<=W aB (1+(W aB (((BitVec.ofInt (bJ aB) a &&& BitVec.ofInt (bJ aB) 63).toNat:Int)))))) <|
  gd (decide (W aB (1+(W aB (((BitVec.ofInt (bJ aB) a &&& BitVec.ofInt (bJ aB) 63).toNat:Int))))<=W aB (1+(W aB (((BitVec.ofInt (bJ aB) a &&& BitVec.ofInt (bJ aB) 63).toNat:Int)))))) <|
  gd (decide ((W aB (1+(W aB (((BitVec.ofInt (bJ aB) a &&& BitVec.ofInt (bJ aB) 63).toNat:Int))))).toNat<=16777216)) <|
  bV aJ aU pO 84 [aL 0 0 0] [aM 140 (aI [aL 1 0 0,dJ 2]) aE,aM 192 (aI [bl 3 0,aC aB (W aB (1+(W aB (((BitVec.ofInt (bJ aB) a &&& BitVec.ofInt (bJ aB) 63).toNat:Int)))))]) aE,dI [],aN 5 (cA ((W aB (((W aB ((W aB ((W aB (1+(W aB (((BitVec.ofInt (bJ aB) a &&& BitVec.ofInt (bJ aB) 63).toNat:Int)))))+8)) - 1)).tdiv 8))).toNat) (aC bK 0)) 0] λb =>
  cond (b.2.1 != (0:Int))
 (bV aJ aU re 60 [aL 0 0 0] (rs ((cA ((W aB (1+(W aB (((BitVec.ofInt (bJ aB) a &&& BitVec.ofInt (bJ aB) 63).toNat:Int))))).toNat) (aG []))) ((cA ((W aB (1+(W aB (((BitVec.ofInt (bJ aB) a &&& BitVec.ofInt (bJ aB) 63).toNat:Int))))).toNat) (aW aE)))) λc =>
  cond (c.2.1 != (0:Int))
 (aA (.head 0 (Wr f b.2.1 c.2.1 b.2.2.1 b.2.2.2.1 c.2.2.1 b.2.2.2.2 c.2.2.2)))
 (aT aJ 62 [aI [aH [],aG [],aC aB 0]] λk =>
  kS k λl =>
  bV aJ aU jg 61 [aL 0 0 0,aC aB c.1,aG l] (rs c.2.2.1 c.2.2.2) λg =>
  aA (.head 0 (Ws f b.2.1 c.1 b.2.2.1 b.2.2.2.1 g.2.1 b.2.2.2.2 g.2.2))))
 (bV aJ aU gE 78 [aL 0 0 0,aC aB b.1,gK 120 (aI [aH [],aG [],aC aB 0])] (tm b.1 b.2.2.1 b.2.2.2.1 b.2.2.2.2) λd =>
  bV aJ aU re 60 [aL 0 0 0] (rs ((cA ((W aB (1+(W aB (((BitVec.ofInt (bJ aB) a &&& BitVec.ofInt (bJ aB) 63).toNat:Int))))).toNat) (aG []))) ((cA ((W aB (1+(W aB (((BitVec.ofInt (bJ aB) a &&& BitVec.ofInt (bJ aB) 63).toNat:Int))))).toNat) (aW aE)))) λe =>
  cond (e.2.1 != (0:Int))
 (aA (.head 0 (Wt f e.2.1 d.1 d.2.1 d.2.2.1 e.2.2.1 d.2.2.2 e.2.2.2)))
 (aT aJ 62 [aI [aH [],aG [],aC aB 0]] λm =>
  kS m λn =>
  bV aJ aU jg 61 [aL 0 0 0,aC aB e.1,aG n] (rs e.2.2.1 e.2.2.2) λh =>
  aA (.head 0 (Cv f 0 d.1 e.1 d.2.1 d.2.2.1 h.2.1 d.2.2.2 h.2.2))))))))
def Y2(a b): Ep 12 [aC aB a,aH b] (Oi a b):=ep (by kernel_rfl) (by kernel_rfl)
def KN (j:List V) (i b c d:Int) (e:List (V × V)) (f g h:List V): R :=
 cond (decide (i < (j.length:Int)))
 (gd (decide (0<=i)) <|
  bk j i.toNat λk =>
  Af k λl m n o =>
  bV aJ aU AU 53 [aL 0 0 0,aL 1 0 0,aI [aC aB l,aG m,aG n,aC aB o]] [aM 128 (aI [aL 2 0 0,aC aB b]) aE,aM 91 (aI [aL 3 0 0,aC aB c]) aE,aM 140 (aI [aL 4 0 0,dJ 5]) aE,aM 102 (aI [aL 6 0 0,bl 7 0]) aE,aM 192 (aI [bl 8 0,aC aB d]) aD,dI e,aM 159 (aI [bl 9 0]) aE,aN 9 f 0,aN 5 g 0,aN 4 h 0] λa =>
  cond (!a.1)
 (aA (.done (aW aE)))
 (cJ aJ aU ye 52 [aL 0 0 0] (tm a.2.1 a.2.2.2.1 a.2.2.2.2.1 a.2.2.2.2.2.2.1) λp =>
  cd [aM 140 (aI [aL 4 0 0,dJ 5]) aE,aM 102 (aI [aL 6 0 0,bl 7 0]) aE,aM 128 (aI [aL 0 0 0,aC aB a.2.1]) aE,aM 91 (aI [aL 1 0 0,aC aB a.2.2.1]) aE,aM 192 (aI [bl 8 0,aC aB a.2.2.2.1]) aD,dI a.2.2.2.2.1,aM 159 (aI [bl 9 0]) aE,aN 9 a.2.2.2.2.2.1 0,aN 5 a.2.2.2.2.2.2.1 0,aN 4 a.2.2.2.2.2.2.2 0] <|
  cond (p != a.2.2.1)
 (aA (.done (aW aE)))
 (cJ aJ aU yf 54 [aL 0 0 0,aL 1 0 0] [aM 140 (aI [aL 2 0 0,dJ 3]) aE,aM 102 (aI [aL 4 0 0,bl 5 0]) aE,aM 192 (aI [bl 6 0,aC aB a.2.2.2.1]) aD,dI a.2.2.2.2.1,aM 159 (aI [bl 7 0]) aE,aN 9 a.2.2.2.2.2.1 0,aN 5 a.2.2.2.2.2.2.1 0,aN 4 a.2.2.2.2.2.2.2 0] λq =>
  cd [aM 140 (aI [aL 4 0 0,dJ 5]) aE,aM 102 (aI [aL 6 0 0,bl 7 0]) aE,aM 128 (aI [aL 0 0 0,aC aB a.2.1]) aE,aM 91 (aI [aL 1 0 0,aC aB a.2.2.1]) aE,aM 192 (aI [bl 8 0,aC aB a.2.2.2.1]) aD,dI a.2.2.2.2.1,aM 159 (aI [bl 9 0]) aE,aN 9 a.2.2.2.2.2.1 0,aN 5 a.2.2.2.2.2.2.1 0,aN 4 a.2.2.2.2.2.2.2 0] <|
  cond (!q)
 (aA (.done (aW aE)))
 (aA (.head 0 (Cv j (W aB (i+1)) a.2.1 a.2.2.1 a.2.2.2.1 a.2.2.2.2.1 a.2.2.2.2.2.1 a.2.2.2.2.2.2.1 a.2.2.2.2.2.2.2))))))
 (cJ aJ aU tH 46 [aL 0 0 0] (tm b d e g) λr =>
  cd [aM 140 (aI [aL 4 0 0,dJ 5]) aE,aM 102 (aI [aL 6 0 0,bl 7 0]) aE,aM 128 (aI [aL 0 0 0,aC aB b]) aE,aM 91 (aI [aL 1 0 0,aC aB c]) aE,aM 192 (aI [bl 8 0,aC aB d]) aD,dI e,aM 159 (aI [bl 9 0]) aE,aN 9 f 0,aN 5 g 0,aN 4 h 0] <|
  cJ aJ aU vK 55 [aL 0 0 0] (rm c f h) λs =>
  cd [aM 140 (aI [aL 4 0 0,dJ 5]) aE,aM 102 (aI [aL 6 0 0,bl 7 0]) aE,aM 128 (aI [aL 0 0 0,aC aB b]) aE,aM 91 (aI [aL 1 0 0,aC aB c]) aE,aM 192 (aI [bl 8 0,aC aB d]) aD,dI e,aM 159 (aI [bl 9 0]) aE,aN 9 f 0,aN 5 g 0,aN 4 h 0] <|
  aT aJ 49 [aH r,aH s] λt =>
  kB t λu =>
  cond u
 (cJ aJ aU tG 43 [aL 0 0 0] (tm b d e g) λv =>
  cd [aM 140 (aI [aL 4 0 0,dJ 5]) aE,aM 102 (aI [aL 6 0 0,bl 7 0]) aE,aM 128 (aI [aL 0 0 0,aC aB b]) aE,aM 91 (aI [aL 1 0 0,aC aB c]) aE,aM 192 (aI [bl 8 0,aC aB d]) aD,dI e,aM 159 (aI [bl 9 0]) aE,aN 9 f 0,aN 5 g 0,aN 4 h 0] <|
  cJ aJ aU pM 56 [aL 0 0 0] (rm c f h) λw =>
  cd [aM 140 (aI [aL 4 0 0,dJ 5]) aE,aM 102 (aI [aL 6 0 0,bl 7 0]) aE,aM 128 (aI [aL 0 0 0,aC aB b]) aE,aM 91 (aI [aL 1 0 0,aC aB c]) aE,aM 192 (aI [bl 8 0,aC aB d]) aD,dI e,aM 159 (aI [bl 9 0]) aE,aN 9 f 0,aN 5 g 0,aN 4 h 0] <|
  cond (v==(W aB ((w.length:Int) - 1)))
 (aT aJ 45 [] λx =>
  kB x λy =>
  aA (.done (aW y)))
 (aA (.done (aW aE))))
 (aA (.done (aW aE))))
def Ua(a b c d e f g h i): Rd aE 0 12 0 (Cv a b c d e f g h i) (KN a b c d e f g h i):=rd (by kernel_rfl)
set_option linter.unusedSimpArgs false
def adK(x:Int):∃m:Nat,m<=63/\W aB (((BitVec.ofInt (bJ aB) x &&& BitVec.ofInt (bJ aB) 63).toNat:Nat):Int)=(m:Int):=by
 have h:(BitVec.ofInt (bJ aB) x &&& BitVec.ofInt (bJ aB) 63).toNat<=63:=by
  rw[BitVec.toNat_and];exact qw Nat.and_le_right (by decide +kernel)
 exact⟨_,h,bd (by omega)⟩
def XX{N:Nat}{S:List iB}:∀o∈j4 N S,o.2.1.length<=20:=by
 intro o ho;unfold j4 at ho;obtain⟨a,_,rfl⟩:=fi.1 ho;simp[Dd];omega
def agB{n:Nat}{r:Int}{es:Es}:bW aJ aU 52 [.ptr 0 0 0] (tM r n es)=aA (ye (tM r n es) r):=aax _ _ _ _ (o:=.doneM (.int aB r) (tM r n es)) rfl (.done (by kernel_rfl))
def Vz{n:Nat}(hn:n<=64)(S:List iB)(hS:S.length<=150)(hK:∀o∈S,o.2.1.length<=20):∀(q:List iB) (i:Nat),S.drop i=q->i<=S.length->∀(r:Int) (es:Es) (ups:List IL) (b:LL) (Ls:List Bs),WF n r es ups b->dx n es Ls->(cF b).length<=i ->
  Go qk aE 0 (fF 12) (.head 0 (Cv (jR S) (i:Int) r r (n:Int) (bZ es) (aY Ls) (bI n (bi es)) (c9 n (bi es)))) (.done (.bool aD))
 | [],i,hd,hi,r,es,ups,b,Ls,h,hL,hb=>by
  have h1:=drop_nil hd;obtain⟨le1,le2⟩:=xP h.toWT;have hul:=ml h.toWT;have hpl:(bH b).length=b.length:=by simp[bH]
  have i2:=QN (bH b) (bH b) (by omega);rw[gg]at i2;have hlen:(fA ups b).length=ups.length+1:=by simp[fA]
  have w:W aB (((fA ups b).length:Int) - 1)=((ups.length:Nat):Int):=by rw[hlen,bd (by omega)];omega
  refine Ua _ _ _ _ _ _ _ _ _ ?_ (.refl _);unfold KN;rw[A5,bF (by omega),be];show(cJ aJ _ _ _ _ (tM r n es) _)=_;rw[co Jw (Ji h.toWT),bN];show(cJ aJ _ _ _ _ (rM r n es Ls) _)=_;rw[co RQ (Ty h.toWT hL),bN,aQ i2,bX,bn];show(cJ aJ _ _ _ _ (tM r n es) _)=_;rw[co Ju (Hh h.toWT),bN];show(cJ aJ _ _ _ _ (rM r n es Ls) _)=_;rw[co Jx (Kn h.toWT hL),bN,w,gg,bn,aQ aby,bX]
 |o::q,i,hd,hi,r,es,ups,b,Ls,h,hL,hb=>by
  obtain⟨h1,h2,h3⟩:=dZ hd;have hi1:(jR S)[i]? = aA (.agg [.int aB o.1,.str o.2.1,.str o.2.2.1,.int aB o.2.2.2]):=by simp[jR,h1,oD]
  have bC:=hK o (dH h1);have w:W aB ((i:Int)+1)=((i+1:Nat):Int):=by rw[bd (by omega)];omega
  obtain⟨r',es',ups',b',Ls',hW,hL',hbl,hp⟩:=afi h hL (by omega) o (by omega);refine Ua _ _ _ _ _ _ _ _ _ ?_ (Vz hn S hS hK q (i+1) h2 (by omega) r' es' ups' b' Ls' hW hL' (by omega));unfold KN;rw[A5,aZ (by omega),bn,aS (by simp),bq,cM hi1,NU];show(bV aJ _ _ _ _ (A8 r n es Ls) _)=_;rw[cL ael hp,cN,be];show(cJ aJ _ _ _ _ (tM r' n es') _)=_;rw[co aek agB,bN,ef rfl,be];show(cJ aJ _ _ _ _ (FY n es' Ls') _)=_;rw[co aem (ahu hW.shf hL'),bN,cN,be,w]
def agA(n:Nat):lJ n ([]:Es) (cA n [])=rs (cA n (aG [])) (cA n (aW aE)):=by
 have e1:aY (cA n [])=cA n (aG []):=by simp[aY]
 have e2:c9 n (bi ([]:Es))=cA n (aW aE):=by
  unfold c9
  have:(λj=>aW (bi ([]:Es) j))=λ_=>aW false:=by
   funext j;simp[bi,bo]
  rw[this,List.map_const',List.length_range]
 grind
def Ym(p:Int)(S:List iB)(hS:S.length<=f9):bP aJ 12 [.int aB p,.sl (jR S)]=aA (.bool aD):=by
 have hcl:(j4 150 S).length<=150:=by simp[j4];omega
 obtain⟨m,hm,hw⟩:=adK p;have hn:W aB (1+(m:Int))=((m+1:Nat):Int):=by rw[bd (by omega)];omega
 have hq:W aB ((W aB ((W aB (((m+1:Nat):Int)+8)) - 1)).tdiv 8)=(((m+1+7) / 8:Nat):Int):=by
  have e1:W aB (((m+1:Nat):Int)+8)=((m+9:Nat):Int):=by rw[bd (by omega)];omega
  have e2:W aB (((m+9:Nat):Int) - 1)=((m+8:Nat):Int):=by rw[bd (by omega)];omega
  have e3:(((m+8:Nat):Int)).tdiv 8=(((m+1+7) / 8:Nat):Int):=by grind
  rw[e1,e2,e3,bd (by omega)]
 have hT:=Vt (n:=m+1) (by omega) (by omega);have hW:=VY (n:=m+1) (by omega) (by omega);have hc:bP aJ 14 [.sl (jR S),.int aB 150]=_:=XW 150 (by omega) S hS;have hs0:cH (m+1) ([]:Es):=⟨by omega,by simp[bo],by simp[bo]⟩
 have hL0:dx (m+1) ([]:Es) (cA (m+1) []):=⟨by simp,λp b h=>by cases h⟩
 have hf0:kK (m+1) (bi ([]:Es))=aA 0:=by
  unfold kK;exact Mz.2 ⟨by simp[bi,bo],by simp,λj hj=>fY hj (by omega)⟩
 have htk:=Ff hs0 hL0 hf0 (by omega) (by simp[bo]);rw[agA]at htk;have hs1:=qg hs0 (b:=[]) (show 0 < m+1 by omega) (by simp[bo]);have hL1:=kf hs0 hL0 (p:=((0:Nat):Int)) (by omega) [];have r0:cX kX=true:=by decide +kernel
 have hg1:((0:Nat):Int)∈bo (bQ ([]:Es) ((0:Nat):Int) []):=by simp[bQ,bo]
 have hwr:=lK hs1 hL1 hg1 (pw r0);have hL2:=kf hs1 hL1 (p:=((0:Nat):Int)) (by omega) (bA kX);have he:bQ (bQ ([]:Es) ((0:Nat):Int) []) ((0:Nat):Int) (bA kX)=kJ:=by decide +kernel
 rw[he]at hL2 hwr;refine Y2 _ _ ?_ (Vz (n:=m+1) (by omega) (j4 150 S) hcl XX (j4 150 S) 0 rfl (by omega) 0 kJ [] [(0,[],[])] _ (VV (V3 (by omega) (by omega))) hL2 (by simp[cF]));unfold Oi;rw[aQ hc,lC];simp only[hw,hn,hq];rw[bF (by omega),be,bF (by omega),be,aS (by grind),aS (by simp),bq,aS (by grind),be,be,aS (by grind),aS (by simp),bq,aS (by grind),aS (by grind),aS (by simp),aS (by grind)];show(bV aJ _ _ _ _ (nM (m+1)) _)=_;rw[cL yi hT,ef rfl,be];show(bV aJ _ _ _ _ (tm 0 ((m+1:Nat):Int) (bZ [(0,[])]) (bI (m+1) (bi [(0,[])]))) _)=_;rw[cL jP hW,cL ED htk,ef rfl,be];show(aT aJ _ [eL kX] _)=_;rw[aQ (qa kX r0),de];show(bV aJ _ _ _ [.ptr 0 0 0,.int aB ((0:Nat):Int),.str (bA kX)] (lJ (m+1) (bQ ([]:Es) ((0:Nat):Int) []) ((cA (m+1) ([]:Bs)).set ((0:Nat):Int).toNat [])) _)=_;rw[cL lG hwr];rfl
end Go.Proofs.YtlphgcjepphhcaaGreat
namespace Go.Proofs.YtlphgcjepphhcaaGreat
open Go Go.Lite Go.ChangeShapes Go.WideShapes Go.ChangeAt Go.RowKit
set_option linter.unusedVariables false
set_option maxRecDepth 100000
def L9{n:Nat}{vs:List V}(h:fK Tryz.prog n 3 vs):∃m,vs=[.int aB m]/\(Lit.int aB m).wf=true:=by
 cases n with
 |zero=>cases h
 |succ n=>unfold fK at h;rw[Tryz.underlying3]at h;exact h
def WA{n:Nat}{x:V}(h:mo Tryz.prog n 3 x):∃m,x = .int aB m/\(Lit.int aB m).wf=true:=by
 have h2:=h.leaf (by rw[Tryz.underlying3];rfl);obtain⟨m,e,w⟩:=L9 h.1;exact⟨m,by rw[h2]at e;simpa using e,w⟩
def Vn{n:Nat}{vs:List V}(h:fK Tryz.prog n 9 vs):∃s,vs=[.str s]/\s.length<=f9:=by
 cases n with
 |zero=>cases h
 |succ n=>unfold fK at h;rw[Tryz.underlying9]at h;exact h
def tOp{n:Nat}{vs:List V}(h:fK Tryz.prog n 38 vs):∃o:iB,vs=[.int aB o.1,.str o.2.1,.str o.2.2.1,.int aB o.2.2.2]:=by
 cases n with
 |zero=>cases h
 |succ n =>
  unfold fK at h;rw[Tryz.underlying38]at h;obtain⟨hl,hf⟩:=h;rw[show Tryz.prog.cellsOf 38=4 by kernel_rfl]at hl;simp only[dC,forall_eq_or_imp,List.not_mem_nil,false_implies,implies_true,and_true,show Tryz.prog.cellsOf 3=1 by kernel_rfl,show Tryz.prog.cellsOf 9=1 by kernel_rfl]at hf;obtain⟨h0,h1,h2,h3⟩:=hf;obtain⟨k,e0,_⟩:=L9 h0;obtain⟨s,e1,_⟩:=Vn h1;obtain⟨v,e2,_⟩:=Vn h2;obtain⟨m,e3,_⟩:=L9 h3
  match vs,hl,e0,e1,e2,e3 with
  | [b0,b1,b2,b3],_,e0,e1,e2,e3 =>
   simp at e0 e1 e2 e3;exact⟨(k,s,v,m),by rw[e0,e1,e2,e3]⟩
def WC{n:Nat}{x:V}(h:mo Tryz.prog n 38 x):∃cs,x = .agg cs/\fK Tryz.prog n 38 cs:=by
 obtain⟨cs,rfl⟩:=h.agg (by rw[Tryz.underlying38];rfl);exact⟨cs,rfl,h.1⟩
def WB{n:Nat}{x:V}(h:mo Tryz.prog n 38 x):∃o:iB,x=oD o/\(λ_:iB=>True) o:=by
 obtain⟨cs,rfl,hC⟩:=WC h;obtain⟨o,rfl⟩:=tOp hC;exact⟨o,rfl,trivial⟩
def QU:∀{l:List V},(∀x∈l,∃m:iB,x=(oD) m/\(λ_:iB=>True) m)->∃ms:List iB,l=ms.map (oD)/\∀m∈ms,(λ_:iB=>True) m
 | [],_=>⟨[],rfl,by simp⟩
 |x::l,h=>by
  obtain⟨a,rfl,ha⟩:=h x (by simp);obtain⟨ms,rfl,hb⟩:=QU (λy hy=>h y (by simp[hy]):∀y∈l,_);refine⟨a::ms,rfl,λm hm=>?_⟩;rcases dC.1 hm with rfl|hm
  ·exact ha
  ·exact hb m hm
def aiu{n:Nat}{vs:List V}(h:fK Tryz.prog n 22 vs):∃ms:List iB,vs=[.sl (ms.map (oD))]/\ms.length<=f9/\∀m∈ms,(λ_:iB=>True) m:=by
 cases n with
 |zero=>cases h
 |succ n =>
  unfold fK at h;rw[Tryz.underlying22]at h;obtain⟨l,rfl,hl,hx⟩:=h;obtain⟨ms,rfl,hm⟩:=QU λx hm=>WB (n:=n) (hx x hm)
  exact⟨ms,rfl,by simpa using hl,hm⟩
def WE{n:Nat}{x:V}(h:mo Tryz.prog n 22 x):∃ms:List iB,x = .sl (ms.map (oD))/\ms.length<=f9/\∀m∈ms,(λ_:iB=>True) m:=by
 have h2:=h.leaf (by rw[Tryz.underlying22];rfl);obtain⟨m,e,w⟩:=aiu h.1;exact⟨m,by rw[h2]at e;simpa using e,w⟩
def own:ownKnob Tryz.prog.godebug=none:=by kernel_rfl
def WQ{P:bv}{n:Nat}{t t':aP}{xs:List V}(h:zf P n [t,t'] xs):∃a b,xs=[a,b]/\mo P n t a/\mo P n t' b:=by
 match xs,h with
 | [a,b],h=>exact⟨a,b,rfl,h.1,h.2.1⟩
def adq{α:Type}{l:List α}(h:l.length=2):∃a b,l=[a,b]:=by
 match l,h with
 | [a,b],_=>exact⟨a,b,rfl⟩
def aiL(xs:List V)(h:zf aJ.P 6 Tryz.f12.params.toList xs):bP aJ 12 xs=aA (.bool aD):=by
 rw[Tryz.params12]at h;obtain⟨a,b,rfl,ha,hb⟩:=WQ h;obtain⟨p,rfl,_⟩:=WA ha;obtain⟨S,rfl,hl,_⟩:=WE hb;exact Ym p S hl
set_option maxRecDepth 100000 in
def aiM(os:Os)(started:os.Started)(H:Type)(enc:aP × aR->H) :
  ReturnsInHanded {} Tryz.checked os 12 .any (Rows.treeDoesSpec.pre6 enc Tryz.prog Tryz.f12 Rows.treeDoesRow.domain aE) (Rows.treeDoesSpec.post enc Tryz.prog Tryz.f12 aE aD aE aE):=by
 refine returnsInHanded_of_change (C:=Tryz.checked) own started (by kernel_rfl) Tryz.func12
  (ChangeSpec.witness6 (enc:=enc) (C:=Tryz.checked) aE ⟨#[],#[.int aB 0,.slice aF 0 0],[]⟩ 8 (by kernel_rfl) (by kernel_rfl) (by kernel_rfl) (by kernel_rfl)) ?_
 intro W base args ds gs before hval hW _ _
 exact adi bC 6 (by kernel_rfl) (by kernel_rfl) (s:=Rows.treeDoesSpec) rfl (by kernel_rfl) (tb:=4) (by kernel_rfl) Tryz.underlying4
  (λH ds h=>by
   obtain⟨a,b,rfl⟩:=adq (h.trans (by rw[Tryz.params12];rfl));rfl) aiL W base args ds gs before hval hW
theorem treeDoes_holds:Rows.TreeDoesSaid :=
 OpenClaim.holds_of_wide 12 Tryz.f12 rfl rfl rfl rfl rfl rfl rfl ⟨rfl,rfl,rfl,rfl,rfl⟩ rfl rfl rfl rfl rfl (by kernel_rfl) Tryz.func12 (by kernel_rfl)
  (gb (by kernel_rfl)) (by unfold Func.isWrapper;first|(rw[bc (by decide +kernel)];kernel_rfl)|(rw[bh (by decide +kernel)];exact⟨rfl,rfl⟩))
  (λos started H enc _=>aiM os started H enc)
end Go.Proofs.YtlphgcjepphhcaaGreat
