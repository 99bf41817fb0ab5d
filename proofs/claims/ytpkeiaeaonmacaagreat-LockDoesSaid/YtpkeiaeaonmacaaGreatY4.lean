/-
  Texts that the last one stands on.
-/
import Derived.Test.YtpkeiaeaonmacaaGreatY3
import Derived.Lib.Walk
import Derived.Lib.Overlaps
import Derived.Lib.AppendZerosOnto
import Derived.Laws.Externs
import Derived.Laws.IdiomCopy
import Derived.Laws.CopyRow
import Derived.Lib.Bytealg
import Derived.ProofKit
import Derived.OpenShut
import Derived.Carry
import Derived.ChangeArms
import Derived.ChangeCalls
import Derived.Sort.OwnSortedInts
import Derived.Lib.SlicesCompact
import Derived.Maps.RangeRun
import Derived.Test.YtpkeiaeaonmacaaGreatProg
namespace Go.Lite
open Go
structure IKOK (kc:KC):Prop where
 ik:∀f as0 mem k r,kc.ik f as0 mem k=some r->∃v m,icW kc.cfg f as0 mem=some (v,m)/\k v m=some r
 ck:∀rd f as0 mem k r,kc.ck rd f as0 mem k=some r->∃v m,icC kc.cfg rd f as0 mem=some (v,m)/\k v m=some r:=by exact fun _ _ _ _ _ _ h=>nomatch h
section
variable {kc:KC} {P:Program} {r:Out}
theorem boundK_some {o:Option (Option V)} {d:Nat} {k:Nat->R} (h:boundK o d k=some r):∃n,boundOf o d=some n/\k n=some r/\(o=none->n=d):=by
 unfold boundK at h
 split at h
 ·exact ⟨d,rfl,h,fun _=>rfl⟩
 ·rename_i n
  obtain ⟨h1,h2⟩:=gd_some h
  exact ⟨n.toNat,by simp only [boundOf];rw [if_pos (of_decide_eq_true h1)],h2,fun e=>by cases e⟩
 ·cases h
theorem skipK_some {o:Option (Option V)} {b:Bool} {k:R} (h:skipK o b k=some r) (hn:o=none->b=true):b=true/\k=some r:=by
 unfold skipK at h
 split at h
 ·exact ⟨hn rfl,h⟩
 ·exact gd_some h
theorem elemsK_some {mem:List O} {x:V} {k:List V->R} (h:elemsK mem x k=some r):∃l,elems mem x=some l/\k l=some r:=by
 unfold elemsK at h
 split at h
 ·split at h
  ·rename_i hm
   obtain ⟨p,h⟩:=gd_some h
   exact ⟨_,by simp only [elems,hm,if_pos (of_decide_eq_true p)],h⟩
  ·cases h
 ·exact opt_some h
theorem sliceK_some {mem:List O} {t:TypeId} {x:V} {lo hi mx:Option (Option V)} {k:V->R} (h:sliceK P mem t x lo hi mx k=some r):∃v,sliceA P mem t x lo hi mx=some v/\k v=some r:=by
 unfold sliceK at h
 split at h
 ·rename_i s hu
  obtain ⟨l,b1,h,z1⟩:=boundK_some h
  obtain ⟨m,b2,h,z2⟩:=boundK_some h
  obtain ⟨c1,h⟩:=skipK_some h (fun e=>by simp [z1 e])
  obtain ⟨c2,h⟩:=skipK_some h (fun e=>by simp [z2 e])
  refine ⟨_,?_,h⟩
  simp only [sliceA,hu,b1,b2,Option.bind_some,Option.isSome_none,Bool.false_eq_true,if_false]
  rw [if_pos ⟨of_decide_eq_true c1,of_decide_eq_true c2⟩]
 ·rename_i x d x' mx' e hu
  obtain ⟨xs,hx,h⟩:=elemsK_some h
  obtain ⟨p1,h⟩:=gd_some h
  obtain ⟨p2,h⟩:=gd_some h
  obtain ⟨l,b1,h,z1⟩:=boundK_some h
  obtain ⟨m,b2,h,z2⟩:=boundK_some h
  obtain ⟨c1,h⟩:=skipK_some h (fun e=>by simp [z1 e])
  obtain ⟨c2,h⟩:=skipK_some h (fun e=>by simp [z2 e])
  have hb:boundOf none xs.length=some xs.length:=rfl
  have key:∀y,(match x with
    | .nilS=>some .nilS
    | .sl xs=>some (.sl ((xs.take m).drop l))
    | .own id =>
     match mem[id]? with
     | some (.row e' _ _)=>if (none:Option (Option V)).isSome then none else if e'=e then some (if hi.isNone then .tail id l else .win id l (m - l)) else none
     | _=>none
    | .tail id off =>
     match mem[id]? with
     | some (.row e' _ _)=>if (none:Option (Option V)).isSome then none else if e'=e then some (if hi.isNone then .tail id (off+l) else .win id (off+l) (m - l)) else none
     | _=>none
    | .win id off _ =>
     match mem[id]? with
     | some (.row e' _ _)=>if (none:Option (Option V)).isSome then none else if e'=e then some (.win id (off+l) (m - l)) else none
     | _=>none
    | _=>none)=some y->sliceA P mem t x lo hi none=some y:=by
   intro y hy
   simp only [sliceA,hu,hx,b1,b2,hb,Option.bind_some]
   rw [if_pos ⟨of_decide_eq_true p1,of_decide_eq_true c1,of_decide_eq_true c2,Nat.le_refl _,(by intro e;cases e),p2⟩]
   exact hy
  cases x<;>first | (cases h;done) | (simp [elems] at hx;done) | exact ⟨_,key _ rfl,h⟩ | skip
  all_goals
   simp only at h key
   split at h
   ·rename_i e' els fz hm
    rcases cond_some h with ⟨c3,h⟩ | ⟨_,h⟩
    ·have c3:e'=e:=by simpa using c3
     exact ⟨_,key _ (by simp only [hm,Option.isSome_none,Bool.false_eq_true,if_false,if_pos c3]),h⟩
    ·cases h
   ·cases h
 ·exact opt_some h
theorem elemsSK_some {mem:List O} {x:V} {k:List V->R} (h:elemsSK mem x k=some r):∃l,elemsS mem x=some l/\k l=some r:=by
 by_cases hs:∃b,x = .str b
 ·obtain ⟨b,rfl⟩:=hs
  exact ⟨_,rfl,h⟩
 ·have e1:elemsSK mem x k=elemsK mem x k:=by cases x<;>first | rfl | exact (hs ⟨_,rfl⟩).elim
  have e2:elemsS mem x=elems mem x:=by cases x<;>first | rfl | exact (hs ⟨_,rfl⟩).elim
  rw [e1] at h
  rw [e2]
  exact elemsK_some h
theorem copyK_some {t:TypeId} {s x:V} {mem:List O} {k:V->List O->R} (h:copyK P t s x mem k=some r):∃v m,copyM P mem t s x=some (v,m)/\k v m=some r:=by
 unfold copyK at h
 obtain ⟨e,he,h⟩:=opt_some h
 obtain ⟨xs,hx,h⟩:=elemsSK_some h
 obtain ⟨p1,h⟩:=gd_some h
 obtain ⟨q,hq,h⟩:=opt_some h
 have hw:(xs.all fun y=>y.cells.length==P.cellsOf e)=true:=p1
 split at h
 ·rename_i e' els fz hm
  obtain ⟨p3,h1⟩:=gd_some h
  obtain ⟨p4,h2⟩:=gd_some h1
  obtain ⟨p5,h3⟩:=gd_some h2
  have ee:e'=e:=by simpa using p3
  subst ee
  have p4:=of_decide_eq_true p4
  have p5:=of_decide_eq_true p5
  refine ⟨_,_,?_,h3⟩
  simp only [copyM,he,hx,hq,Option.bind_some,hm]
  rw [if_pos ⟨trivial,hw,p4,p5⟩]
 ·cases h
theorem clearK_some {t:TypeId} {s:V} {mem:List O} {k:V->List O->R} (h:clearK P t s mem k=some r):∃v m,clearM P mem t s=some (v,m)/\k v m=some r:=by
 unfold clearK at h
 obtain ⟨e,he,h⟩:=opt_some h
 obtain ⟨q,hq,h⟩:=opt_some h
 split at h
 ·rename_i e' els fz hm
  obtain ⟨p3,h1⟩:=gd_some h
  obtain ⟨p4,h2⟩:=gd_some h1
  obtain ⟨p5,h3⟩:=gd_some h2
  obtain ⟨p6,h4⟩:=gd_some h3
  obtain ⟨z,hz,h5⟩:=opt_some h4
  obtain ⟨z',hz',h6⟩:=opt_some h5
  clear h h1 h2 h3 h4 h5
  have ee:e'=e:=by simpa using p3
  subst ee
  have p5:=of_decide_eq_true p5
  have p6:=of_decide_eq_true p6
  refine ⟨_,_,?_,h6⟩
  have hr:roomy P e' 0=true:=by simp [roomy,p4]
  simp only [clearM,he,hq,Option.bind_some,hm]
  rw [if_pos ⟨trivial,hr,p5,p6⟩]
  simp only [hz,hz',Option.bind_some,Option.map_some]
 ·cases h
theorem makeK_some {t:TypeId} {a b:V} {mem:List O} {k:V->List O->R} (h:makeK P t a b mem k=some r):∃v m,makeM P mem t a b=some (v,m)/\k v m=some r:=by
 unfold makeK at h
 obtain ⟨e,he,h⟩:=opt_some h
 split at h
 ·obtain ⟨p1,h⟩:=gd_some h
  obtain ⟨p2,h⟩:=gd_some h
  obtain ⟨p3,h⟩:=gd_some h
  obtain ⟨p4,h⟩:=gd_some h
  obtain ⟨z,hz,h⟩:=opt_some h
  obtain ⟨z',hz',h⟩:=opt_some h
  refine ⟨_,_,?_,h⟩
  simp only [makeM,he,Option.bind_some]
  rw [if_pos ⟨of_decide_eq_true p1,of_decide_eq_true p2,by simp only [roomy,p3,p4,Bool.and_self]⟩]
  simp only [hz,Option.bind_some,hz',Option.map_some,newRow]
 ·cases h
theorem convK_some {mem:List O} {s d:TypeId} {x:V} {k:V->R} (h:convK P mem s d x k=some r):∃v,convA P mem s d x=some v/\k v=some r:=by
 unfold convK at h
 split at h
 ·rename_i e h1 h2
  obtain ⟨xs,h3,h⟩:=elemsK_some h
  obtain ⟨p1,h⟩:=gd_some h
  obtain ⟨ns,h4,h⟩:=opt_some h
  refine ⟨_,?_,h⟩
  have ht:textOf P e xs=some (.str (ns.map fun n=>UInt8.ofNat n.toNat)):=by
   unfold textOf
   split at p1
   ·rename_i he
    simp only [he,h4,Option.map_some]
   ·cases p1
  have key:∀x,elems mem x=some xs->convA P mem s d x=some (.str (ns.map fun n=>UInt8.ofNat n.toNat)):=by
   intro x h3
   unfold convA
   rw [h1,h2]
   cases x<;>first | (cases h3;done) | (simp only [h3,Option.bind_some,ht])
  exact key _ h3
 ·exact opt_some h
theorem appendK_some {t:TypeId} {s x:V} {mem:List O} {k:V->List O->R} (h:appendK P t s x mem k=some r):∃v m,appendM P mem t s x=some (v,m)/\k v m=some r:=by
 unfold appendK at h
 obtain ⟨e,he,h⟩:=opt_some h
 obtain ⟨xs,hx,h⟩:=elemsSK_some h
 obtain ⟨p1,h⟩:=gd_some h
 obtain ⟨p2,h⟩:=gd_some h
 have hw:(xs.all fun y=>y.cells.length==P.cellsOf e)=true:=p1
 split at h
 ·obtain ⟨p3,h⟩:=gd_some h
  exact ⟨_,_,by simp only [appendM,he,hx,Option.bind_some,hw,if_true,roomy,p2,p3,Bool.and_self,newRow],h⟩
 ·rename_i id
  split at h
  ·rename_i e' els fz hm
   obtain ⟨p3,h⟩:=gd_some h
   obtain ⟨p4,h⟩:=gd_some h
   have ee:e'=e:=by simpa using p3
   subst ee
   exact ⟨_,_,by simp only [appendM,he,hx,Option.bind_some,hw,if_true,hm,roomy,p2,p4,Bool.and_self,and_self,newRow],h⟩
  ·cases h
 ·split at h
  ·rename_i e' els fz hm
   obtain ⟨p3,h⟩:=gd_some h
   obtain ⟨p5,h⟩:=gd_some h
   obtain ⟨p6,h⟩:=gd_some h
   have ee:e'=e:=by simpa using p3
   subst ee
   simp only [Bool.or_eq_true,Nat.beq_eq,Nat.blt_eq] at p5
   exact ⟨_,_,by simp only [appendM,he,hx,Option.bind_some,hw,if_true,hm,roomy,p2,p5,p6,Bool.and_self,and_self,newRow],h⟩
  ·cases h
 ·split at h
  ·rename_i e' els fz hm
   obtain ⟨p3,h1⟩:=gd_some h
   obtain ⟨p5,h2⟩:=gd_some h1
   obtain ⟨p6,h3⟩:=gd_some h2
   obtain ⟨p7,h4⟩:=gd_some h3
   clear h h1 h2 h3
   have ee:e'=e:=by simpa using p3
   subst ee
   have p5:=Nat.eq_of_beq_eq_true p5
   subst p5
   have p6:=of_decide_eq_true p6
   exact ⟨_,_,by simp only [appendM,he,hx,Option.bind_some,hw,if_true,hm,roomy,p2,p6,p7,Bool.and_self,and_self,newRow],h4⟩
  ·cases h
 ·obtain ⟨p3,h1⟩:=gd_some h
  obtain ⟨p5,h2⟩:=gd_some h1
  obtain ⟨p6,h3⟩:=gd_some h2
  clear h h1 h2
  rw [beq_iff_eq] at p3
  subst p3
  simp only [wfl] at p6
  exact ⟨_,_,by simp only [appendM,he,hx,Option.bind_some,hw,if_true,roomy,p2,p5,p6,Bool.and_self,and_self],h3⟩
 ·cases h
theorem indexAddrK_some {mem:List O} {t:TypeId} {x i:V} {k:V->List O->R} (h:indexAddrK P mem t x i k=some r):∃v,indexAddrA P mem t x i=some v/\k v mem=some r:=by
 unfold indexAddrK at h
 split at h
 ·rename_i e ik n hu
  obtain ⟨p0,h⟩:=gd_some h
  have p0:=of_decide_eq_true p0
  split at h
  ·obtain ⟨y,hy,h⟩:=idxK_some h
   have h:=tyK_some h
   obtain ⟨p1,h⟩:=gd_some h
   have p1:y.cells.length=P.cellsOf e:=by simpa using p1
   exact ⟨_,by simp only [indexAddrA,hu,if_pos p0,hy,Option.bind_some,if_pos p1],h⟩
  ·split at h
   ·rename_i id _ e' els fz hm
    obtain ⟨p1,h⟩:=gd_some h
    obtain ⟨p2,h⟩:=gd_some h
    have p1:e'=e:=by simpa using p1
    exact ⟨_,by simp only [indexAddrA,hu,if_pos p0,hm,if_pos (And.intro p1 (of_decide_eq_true p2))],h⟩
   ·cases h
  ·split at h
   ·rename_i id off len _ e' els fz hm
    obtain ⟨p1,h⟩:=gd_some h
    obtain ⟨p2,h⟩:=gd_some h
    obtain ⟨p3,h⟩:=gd_some h
    have p1:e'=e:=by simpa using p1
    exact ⟨_,by simp only [indexAddrA,hu,if_pos p0,hm,if_pos (And.intro p1 (And.intro (of_decide_eq_true p2) (of_decide_eq_true p3)))],h⟩
   ·cases h
  ·split at h
   ·rename_i id off _ e' els fz hm
    obtain ⟨p1,h⟩:=gd_some h
    obtain ⟨p2,h⟩:=gd_some h
    have p1:e'=e:=by simpa using p1
    exact ⟨_,by simp only [indexAddrA,hu,if_pos p0,hm,if_pos (And.intro p1 (of_decide_eq_true p2))],h⟩
   ·cases h
  ·cases h
 ·rename_i len e ik n hu
  obtain ⟨p0,h⟩:=gd_some h
  obtain ⟨p1,h⟩:=gd_some h
  obtain ⟨p2,h⟩:=gd_some h
  have hc:=And.intro (of_decide_eq_true p0) (And.intro (of_decide_eq_true p1) (of_decide_eq_true p2))
  split at h
  ·exact ⟨_,by simp only [indexAddrA,hu,if_pos hc],h⟩
  ·exact ⟨_,by simp only [indexAddrA,hu,if_pos hc],h⟩
  ·cases h
 ·exact opt_some h
theorem loadM_flat {mem:List O} {t:TypeId} {p c:V} {cs:List V} {off:Nat} (hl:look mem p=some (.agg cs,off)) (h1:P.cellsOf t=1) (hd:flatD (P.underlying t)=true) (hc:cs[off]? = some c):loadM P mem t p=some c:=by
 unfold loadM
 obtain ⟨hlt,hcc⟩:=List.getElem?_eq_some_iff.1 hc
 have e1:(cs.drop off).take 1=[c]:=by
  rw [List.drop_eq_getElem_cons hlt,List.take_succ_cons,List.take_zero,hcc]
 simp only [hl,Option.bind_some,V.cells,h1,e1,List.length_singleton,if_true]
 unfold mkV
 cases hu:P.underlying t with
 | none=>rw [hu] at hd;cases hd
 | some d=>rw [hu] at hd;cases d<;>first | (cases hd;done) | rfl
theorem loadM_row {mem:List O} {t:TypeId} {id i off:Nat} {e:TypeId} {els:List V} {fz:Nat} {x v:V} (hm:mem[id]? = some (.row e els fz)) (hx:els[i]? = some x)
  (hl:(((x.cells.drop off).take (P.cellsOf t)).length==P.cellsOf t)=true) (hv:mkV P t ((x.cells.drop off).take (P.cellsOf t))=some v):loadM P mem t (.ptr id i off)=some v:=by
 unfold loadM
 simp only [look,hm,hx,Option.map_some,Option.bind_some]
 rw [if_pos (by simpa using hl)]
 exact hv
theorem loadK_some {mem:List O} {t:TypeId} {p:V} {k:V->R} (h:loadK P mem t p k=some r):∃v,loadM P mem t p=some v/\k v=some r:=by
 unfold loadK at h
 split at h
 ·split at h
  ·rename_i hm
   obtain ⟨x,hx,h⟩:=idxK_some h
   have h:=tyK_some h
   rcases cond_some h with ⟨hl,h⟩ | ⟨_,h⟩
   ·obtain ⟨v,hv,h⟩:=opt_some h
    exact ⟨v,loadM_row hm hx hl hv,h⟩
   ·cases h
  ·rename_i hm
   rcases cond_some h with ⟨c1,h⟩ | ⟨_,h⟩
   ·obtain ⟨p1,h1⟩:=gd_some h
    obtain ⟨c,hc,h2⟩:=idxK_some h1
    have h3:=leafK_some h2
    clear h h1 h2
    simp only [Bool.and_eq_true,beq_iff_eq] at c1
    have p1:=Nat.eq_of_beq_eq_true p1
    subst p1
    exact ⟨c,loadM_flat (by simp only [look,hm,if_true]) c1.1 c1.2 hc,h3⟩
   ·exact opt_some h
  ·exact opt_some h
 ·rcases cond_some h with ⟨c1,h⟩ | ⟨_,h⟩
  ·obtain ⟨c,hc,h⟩:=idxK_some h
   have h:=leafK_some h
   simp only [Bool.and_eq_true,beq_iff_eq] at c1
   exact ⟨c,loadM_flat rfl c1.1 c1.2 hc,h⟩
  ·exact opt_some h
 ·obtain ⟨r',hr,h⟩:=opt_some h
  obtain ⟨x,hx,h⟩:=idxK_some h
  have h:=tyK_some h
  rcases cond_some h with ⟨hl,h⟩ | ⟨_,h⟩
  ·obtain ⟨v,hv,h⟩:=opt_some h
   refine ⟨v,?_,h⟩
   unfold loadM
   simp only [look,hr,hx,Option.map_some,Option.bind_some]
   rw [if_pos (by simpa using hl)]
   exact hv
  ·cases h
 ·exact opt_some h
theorem storeK_some {mem:List O} {t:TypeId} {p v:V} {k:List O->R} (h:storeK P mem t p v k=some r):∃m,storeM P mem t p v=some m/\k m=some r:=by
 unfold storeK at h
 split at h
 ·split at h
  ·rename_i hm
   obtain ⟨p1,h⟩:=gd_some h
   obtain ⟨p2,h⟩:=gd_some h
   obtain ⟨x,hx,h⟩:=idxK_some h
   have h:=tyK_some h
   obtain ⟨vs,hvs,h⟩:=opt_some h
   obtain ⟨y,hy,h⟩:=opt_some h
   refine ⟨_,?_,h⟩
   unfold storeM
   rw [if_pos (of_decide_eq_true p1)]
   simp only [hm]
   rw [if_pos (of_decide_eq_true p2)]
   simp only [hx,hvs,hy,Option.bind_some,Option.map_some]
  ·exact opt_some h
 ·obtain ⟨p1,h⟩:=gd_some h
  obtain ⟨r',hr,h⟩:=opt_some h
  obtain ⟨x,hx,h⟩:=idxK_some h
  have h:=tyK_some h
  obtain ⟨vs,hvs,h⟩:=opt_some h
  obtain ⟨y,hy,h⟩:=opt_some h
  refine ⟨_,?_,h⟩
  unfold storeM
  rw [if_pos (of_decide_eq_true p1)]
  simp only [hr,hx,hvs,hy,Option.bind_some,Option.map_some]
 ·exact opt_some h
theorem mapAtK_some {mem:List O} {m:V} {k:List (V × V)->R} (h:mapAtK mem m k=some r):∃es,mapAt mem m=some es/\k es=some r:=by
 unfold mapAtK at h
 split at h
 ·split at h
  ·rename_i es hm;exact ⟨es,by simp only [mapAt,hm],h⟩
  ·cases h
 ·obtain ⟨r',hr,h⟩:=opt_some h
  obtain ⟨es,hx,h⟩:=idxK_some h
  exact ⟨es,by simp only [mapAt,hr,hx,Option.bind_some],h⟩
 ·cases h
theorem indexK_some {t:TypeId} {x i:V} {k:V->R} (h:indexK P t x i k=some r):∃v,indexA P t x i=some v/\k v=some r:=by
 unfold indexK at h
 split at h
 ·rename_i hu
  obtain ⟨p0,h⟩:=gd_some h
  obtain ⟨b,hb,h⟩:=idxK_some h
  exact ⟨_,by simp only [indexA,hu,if_pos (of_decide_eq_true p0),hb,Option.map_some],h⟩
 ·rename_i len e cs ik n hu
  obtain ⟨p0,h⟩:=gd_some h
  obtain ⟨p1,h⟩:=gd_some h
  have hcond:=And.intro (of_decide_eq_true p0) (of_decide_eq_true p1)
  rcases cond_some h with ⟨c1,h⟩ | ⟨_,h⟩
  ·obtain ⟨c,hc,h⟩:=idxK_some h
   have h:=leafK_some h
   simp only [Bool.and_eq_true,beq_iff_eq] at c1
   refine ⟨c,?_,h⟩
   simp only [indexA,hu,if_pos hcond,partA,c1.1,Nat.mul_one]
   obtain ⟨hlt,hcc⟩:=List.getElem?_eq_some_iff.1 hc
   have e1:(cs.drop n.toNat).take 1=[c]:=by
    rw [List.drop_eq_getElem_cons hlt,List.take_succ_cons,List.take_zero,hcc]
   rw [e1]
   simp only [List.length_singleton,if_true]
   have hd:=c1.2
   unfold mkV
   cases hue:P.underlying e with
   | none=>rw [hue] at hd;cases hd
   | some d =>
    rw [hue] at hd
    cases d<;>first | (cases hd;done) | rfl
  ·obtain ⟨v,hv,h⟩:=opt_some h
   exact ⟨v,by simp only [indexA,hu,if_pos hcond,hv],h⟩
 ·exact opt_some h
theorem binK_some {op:BinOp} {t:TypeId} {x y:V} {k:V->R} (h:binK P op t x y k=some r):∃v,binA P op t x y=some v/\k v=some r:=by
 unfold binK at h
 split at h
 ·obtain ⟨p1,h1⟩:=gd_some h
  obtain ⟨p2,h2⟩:=gd_some h1
  have p1:=eq_of_beq p1
  subst p1
  rw [Bool.not_eq_true'] at p2
  exact ⟨_,by simp only [binA,nilish,Bool.false_eq_true,if_false,binB,if_true,arith,if_neg (of_decide_eq_false p2)],h2⟩
 ·obtain ⟨p1,h1⟩:=gd_some h
  obtain ⟨p2,h2⟩:=gd_some h1
  have p1:=eq_of_beq p1
  subst p1
  rw [Bool.not_eq_true'] at p2
  exact ⟨_,by simp only [binA,nilish,Bool.false_eq_true,if_false,binB,if_true,arith,if_neg (of_decide_eq_false p2)],h2⟩
 ·obtain ⟨p2,h⟩:=gd_some h
  rw [Bool.not_eq_true'] at p2
  exact ⟨_,by simp only [binA,nilish,Bool.false_eq_true,if_false,binB,if_neg (of_decide_eq_false p2)],h⟩
 ·obtain ⟨p2,h⟩:=gd_some h
  rw [Bool.not_eq_true'] at p2
  exact ⟨_,by simp only [binA,nilish,Bool.false_eq_true,if_false,binB,if_neg (of_decide_eq_false p2)],h⟩
 ·obtain ⟨p2,h⟩:=gd_some h
  exact ⟨_,by simp only [binA,nilish,Bool.false_eq_true,if_false,binB,stringA,if_pos (of_decide_eq_true p2)],h⟩
 ·exact opt_some h
theorem mapK_some {α β:Type} {f:α->(β->R)->R} {g:α->Option β} (hf:∀x k,f x k=some r->∃y,g x=some y/\k y=some r):∀{l:List α} {k:List β->R},mapK f l k=some r->∃ys,mapO g l=some ys/\k ys=some r:=by
 intro l
 induction l with
 | nil=>intro k h;exact ⟨[],rfl,h⟩
 | cons x l ih =>
  intro k h
  obtain ⟨y,h1,h⟩:=hf _ _ h
  obtain ⟨ys,h2,h⟩:=ih h
  exact ⟨y::ys,by simp only [mapO,h1,h2,Option.bind_some,Option.map_some],h⟩
theorem snap1K_some {mem:List O} {v:V} {k:V->R} (h:snap1K mem v k=some r):∃y,snap1 mem v=some y/\k y=some r:=by
 unfold snap1K at h
 split at h
 ·obtain ⟨l,h1,h⟩:=elemsK_some h
  exact ⟨_,by simp only [snap1,h1,Option.map_some],h⟩
 ·exact opt_some h
theorem snap2K_some {mem:List O} {v:V} {k:V->R} (h:snap2K mem v k=some r):∃y,snap2 mem v=some y/\k y=some r:=by
 unfold snap2K at h
 split at h
 ·obtain ⟨l,h1,h⟩:=mapK_some (fun x k h=>snap1K_some h) h
  exact ⟨_,by simp only [snap2,h1,Option.map_some],h⟩
 ·obtain ⟨⟨x,off⟩,h1,h⟩:=opt_some h
  simp only at h
  split at h
  ·obtain ⟨l,h2,h⟩:=mapK_some (fun x k h=>snap1K_some h) h
   exact ⟨_,by simp only [snap2,h1,Option.bind_some,h2,Option.map_some],h⟩
  ·rename_i hx
   obtain ⟨y,h2,h⟩:=snap1K_some h
   refine ⟨_,?_,h⟩
   simp only [snap2,h1,Option.bind_some]
   cases x<;>first | (exact (hx _ rfl).elim) | simp only [h2,Option.map_some]
 ·rename_i h1 h2
  obtain ⟨y,h3,h⟩:=snap1K_some h
  refine ⟨y,?_,h⟩
  cases v<;>first | exact (h1 _ rfl).elim | exact (h2 _ _ _ rfl).elim | exact h3
theorem storeXK_some {mem:List O} {t:TypeId} {p v:V} {k:List O->R} (h:storeXK P mem t p v k=some r):∃m,storeX P mem t p v=some m/\k m=some r:=by
 unfold storeXK at h
 unfold storeX
 split at h
 ·split at h
  ·rename_i he
   rw [he,if_neg (by simp [isHp])]
   exact storeK_some h
  ·rename_i i is he
   obtain ⟨v',h1,h⟩:=snap2K_some h
   rw [he,if_pos (by simp [isHp]),h1]
   exact storeK_some h
 ·rename_i hne
  have:isHp p=false:=by cases p<;>first | rfl | exact (hne _ _ _ rfl).elim
  rw [this,Bool.false_and,if_neg (by simp)]
  exact storeK_some h
theorem snap3K_some {mem:List O} {v:V} {k:V->R} (h:snap3K mem v k=some r):∃y,snap3 mem v=some y/\k y=some r:=by
 unfold snap3K at h
 split at h
 ·obtain ⟨l,h1,h⟩:=mapK_some (fun x k h=>snap2K_some h) h
  exact ⟨_,by simp only [snap3,h1,Option.map_some],h⟩
 ·rename_i h1
  obtain ⟨y,h3,h⟩:=snap2K_some h
  refine ⟨y,?_,h⟩
  cases v<;>first | exact (h1 _ _ rfl).elim | exact h3
theorem pvK_some {f:FuncId} {as0:List V} {k:V->R} (h:pvK kc f as0 k=some r):∃x,pcW kc.cfg f as0=some x/\k x=some r:=by
 unfold pvK at h
 split at h
 ·rename_i g hg
  split at h
  ·rename_i x hx
   exact ⟨x,kc.pvok _ _ _ _ hg hx,h⟩
  ·cases h
 ·exact pcK_some h
theorem callK_some (hik:IKOK kc) {dr:Bool} {f:FuncId} {ty:TypeId} {args:List V} {mem:List O} {k:V->List O->R} (h:callK kc dr f ty args mem k=some r) :
  ∃v m,callA kc.cfg (callW kc.cfg) dr f args mem=some (v,m)/\k v m=some r:=by
 unfold callK at h
 obtain ⟨p1,h⟩:=gd_some h
 unfold callA
 rw [p1]
 simp only [Bool.not_true,Bool.false_eq_true,if_false]
 rcases cond_some h with ⟨c1,h⟩ | ⟨c1,h⟩
 ·rw [c1]
  simp only [if_true]
  obtain ⟨as0,ha,h⟩:=mapK_some (fun x k h=>snap3K_some h) h
  obtain ⟨v,hv,h⟩:=pvK_some h
  have h:=resT_some h
  simp only [ha,Option.bind_some]
  have hv':(callW kc.cfg).pc f as0=some v:=hv
  rw [hv']
  simp only [Option.bind_some]
  rcases cond_some h with ⟨c2,h⟩ | ⟨c2,h⟩
  ·rw [c2]
   simp only [if_true]
   rcases cond_some h with ⟨_,h⟩ | ⟨c3,h⟩
   ·cases h
   ·rw [c3]
    simp only [Bool.false_eq_true,if_false]
    exact ⟨_,_,rfl,h⟩
  ·rw [c2]
   simp only [Bool.false_eq_true,if_false]
   exact ⟨_,_,rfl,h⟩
 ·rw [c1]
  simp only [Bool.false_eq_true,if_false]
  rcases cond_some h with ⟨_,h⟩ | ⟨c2,h⟩
  ·cases h
  ·rw [c2]
   simp only [Bool.false_eq_true,if_false]
   split at h
   ·rename_i hcf
    rw [hcf]
    exact hik.ik _ _ _ _ _ h
   ·rename_i rd hcf
    rw [hcf]
    obtain ⟨v,m,h1,h⟩:=hik.ck _ _ _ _ _ _ h
    unfold icC at h1
    simp only [omi] at h1
    obtain ⟨r0,h1,h2⟩:=h1
    refine ⟨_,_,?_,h⟩
    simp only [canA]
    rw [show (callW kc.cfg).ic _ _ _=_ from h1,Option.map_some,h2]
theorem opK_some (hik:IKOK kc) {dr:Bool} {o:OpA} {env:List V} {mem:List O} {k:V->List O->R} (h:opK kc dr o env mem k=some r) :
  ∃v m,opA kc.cfg (callW kc.cfg) dr o env mem=some (v,m)/\k v m=some r:=by
 rcases o with ⟨dst,op,ty,gu⟩
 have dflt:∀q:Option (V × List O),(opt q fun r=>k r.1 r.2)=some r->∃v m,q=some (v,m)/\k v m=some r:=by
  intro q hq
  obtain ⟨⟨v,m⟩,h1,h2⟩:=opt_some hq
  exact ⟨v,m,h1,h2⟩
 cases op
 case pick c a b =>
  simp only [opK] at h
  obtain ⟨c',h1,h⟩:=opt_some h
  obtain ⟨a',h2,h⟩:=opt_some h
  obtain ⟨b',h3,h⟩:=opt_some h
  obtain ⟨t,rfl,h'⟩:=kB_some h
  simp only [opA,h1,h2,h3,Option.bind_some]
  rcases cond_some h' with ⟨rfl,h'⟩ | ⟨rfl,h'⟩
  ·exact ⟨_,_,rfl,h'⟩
  ·exact ⟨_,_,rfl,h'⟩
 case load t a =>
  simp only [opK] at h
  obtain ⟨c',h1,h⟩:=opt_some h
  rcases cond_some h with ⟨_,h⟩ | ⟨hb,h⟩
  ·cases h
  obtain ⟨v,h2,h⟩:=loadK_some h
  exact ⟨_,_,by simp only [opA,h1,h2,hb,Option.bind_some,Option.map_some,Bool.false_eq_true,if_false],h⟩
 case nilCheck x =>
  simp only [opK] at h
  obtain ⟨c',h1,h⟩:=opt_some h
  rcases cond_some h with ⟨hs,h⟩ | ⟨_,h⟩
  ·exact ⟨_,_,by simp only [opA,h1,hs,Option.bind_some,if_true],h⟩
  ·cases h
 case store t a x =>
  simp only [opK] at h
  obtain ⟨c',h1,h⟩:=opt_some h
  obtain ⟨x',h3,h⟩:=opt_some h
  rcases cond_some h with ⟨_,h⟩ | ⟨hb,h⟩
  ·cases h
  obtain ⟨v,h2,h⟩:=storeXK_some h
  exact ⟨_,_,by simp only [opA,h1,h2,h3,hb,Bool.false_eq_true,if_false,Option.bind_some,Option.map_some],h⟩
 case binOp op t x y yt =>
  simp only [opK] at h
  obtain ⟨c',h1,h⟩:=opt_some h
  obtain ⟨x',h3,h⟩:=opt_some h
  obtain ⟨v,h2,h⟩:=binK_some h
  exact ⟨_,_,by simp only [opA,h1,h2,h3,Option.bind_some,Option.map_some],h⟩
 case slice t x lo hi mx =>
  simp only [opK] at h
  obtain ⟨c',h1,h⟩:=opt_some h
  rcases cond_some h with ⟨_,h⟩ | ⟨hbx,h⟩
  ·cases h
  obtain ⟨v,h2,h⟩:=sliceK_some h
  exact ⟨_,_,by simp only [opA,h1,h2,hbx,Bool.false_eq_true,if_false,Option.bind_some,Option.map_some],h⟩
 case indexAddr t x i =>
  simp only [opK] at h
  obtain ⟨c',h1,h⟩:=opt_some h
  obtain ⟨x',h3,h⟩:=opt_some h
  rcases cond_some h with ⟨_,h⟩ | ⟨hbx,h⟩
  ·cases h
  obtain ⟨v,h2,h⟩:=indexAddrK_some h
  exact ⟨_,_,by simp only [opA,h1,h2,h3,hbx,Bool.false_eq_true,if_false,Option.bind_some,Option.map_some],h⟩
 case makeSlice t n c =>
  simp only [opK] at h
  obtain ⟨a,h1,h⟩:=opt_some h
  obtain ⟨b,h3,h⟩:=opt_some h
  obtain ⟨v,m,h2,h⟩:=makeK_some h
  exact ⟨v,m,by simp only [opA,h1,h2,h3,Option.bind_some],h⟩
 case convert st d x =>
  simp only [opK] at h
  obtain ⟨a,h1,h⟩:=opt_some h
  obtain ⟨v,h2,h⟩:=convK_some h
  refine ⟨v,mem,?_,h⟩
  simp only [opA,h1,Option.bind_some]
  cases dr
  ·rw [show (if false=true then [] else mem)=mem from rfl,show convA kc.cfg.P mem st d a=some v from h2];rfl
  ·rw [show (if true=true then [] else mem)=([]:List O) from rfl,show convA kc.cfg.P [] st d a=some v from h2];rfl
 case index t x i =>
  simp only [opK] at h
  obtain ⟨c',h1,h⟩:=opt_some h
  obtain ⟨x',h3,h⟩:=opt_some h
  obtain ⟨v,h2,h⟩:=indexK_some h
  exact ⟨_,_,by simp only [opA,h1,h2,h3,Option.bind_some,Option.map_some],h⟩
 case lookup t m key ok =>
  simp only [opK] at h
  obtain ⟨m',h1,h⟩:=opt_some h
  obtain ⟨key',h2,h⟩:=opt_some h
  obtain ⟨es,hm,h⟩:=mapAtK_some h
  obtain ⟨p1,h⟩:=gd_some h
  obtain ⟨e,he,h⟩:=opt_some h
  obtain ⟨z,hz,h⟩:=opt_some h
  obtain ⟨q,hq,h⟩:=mfK_some h
  rcases h with ⟨rfl,h⟩ | ⟨v,rfl,h⟩
  ·exact ⟨_,_,by simp only [opA,h1,h2,hm,p1,if_true,he,hz,hq,Option.bind_some,Option.map_some,Option.getD_none,Option.isSome_none],h⟩
  ·have h:=leafK_some h
   exact ⟨_,_,by simp only [opA,h1,h2,hm,p1,if_true,he,hz,hq,Option.bind_some,Option.map_some,Option.getD_some,Option.isSome_some],h⟩
 case mapUpdate t m key x =>
  simp only [opK] at h
  obtain ⟨m',h1,h⟩:=opt_some h
  obtain ⟨key',h2,h⟩:=opt_some h
  obtain ⟨x',h3,h⟩:=opt_some h
  obtain ⟨es,hm,h⟩:=mapAtK_some h
  obtain ⟨p1,h⟩:=gd_some h
  obtain ⟨p2,h⟩:=gd_some h
  obtain ⟨e,he,h⟩:=opt_some h
  exact ⟨_,_,by simp only [opA,h1,h2,h3,hm,p1,p2,and_self,if_true,he,Option.bind_some,Option.map_some],h⟩
 case call c =>
  obtain ⟨callee,args,ats⟩:=c
  cases callee
  case value f =>
   simp only [opK] at h
   obtain ⟨fv,h1,h⟩:=opt_some h
   obtain ⟨as0,h2,h⟩:=opt_some h
   cases fv<;>simp only at h<;>first | (cases h;done) | skip
   rcases cond_some h with ⟨hb,h⟩ | ⟨hb,h⟩
   ·rcases cond_some h with ⟨hb2,h⟩ | ⟨_,h⟩
    ·rcases cond_some h with ⟨hna,h⟩ | ⟨_,h⟩
     rotate_left
     ·cases h
     obtain ⟨v,m,h3,h⟩:=hik.ik _ _ _ _ _ h
     obtain ⟨h4,h⟩:=gd_some h
     refine ⟨_,_,?_,h⟩
     simp only [opA,h1,h2,hb,hb2,Option.bind_some,if_true]
     unfold framedA
     rw [if_neg (by rw [hna];simp),show (callW kc.cfg).ic _ _ _=_ from h3,Option.bind_some,if_pos (Nat.le_of_ble_eq_true h4)]
    ·cases h
   obtain ⟨v,m,h3,h⟩:=callK_some hik h
   exact ⟨v,m,by simp only [opA,h1,h2,hb,Option.bind_some,Bool.false_eq_true,if_false,h3],h⟩
  case builtin b =>
   cases b
   case len =>
    simp only [opK] at h
    obtain ⟨as0,h2,h⟩:=opt_some h
    rcases cond_some h with ⟨_,h0⟩ | ⟨hbx,h0⟩
    ·cases h0
    clear h
    revert h0
    intro h
    split at h
    ·rename_i t ts id off len rest hat
     rcases cond_some h with ⟨p1,h⟩ | ⟨_,h⟩
     ·obtain ⟨l,h3,h⟩:=elemsK_some h
      split at p1
      ·rename_i e hu
       refine ⟨_,_,?_,h⟩
       simp only [opA,h2,hbx,Bool.false_eq_true,if_false,Option.bind_some,builtinA,hat,lenB,lenA,hu,h3,Option.map_some]
      ·cases p1
     ·cases h
    ·rename_i t ts t' i rest hat
     rcases cond_some h with ⟨p1,h⟩ | ⟨_,h⟩
     ·obtain ⟨es,h3,h⟩:=mapAtK_some h
      split at p1
      ·rename_i e hu
       refine ⟨_,_,?_,h⟩
       simp only [opA,h2,hbx,Bool.false_eq_true,if_false,Option.bind_some,builtinA,hat,lenB,lenA,hu,h3,Option.map_some]
      ·cases p1
     ·cases h
    ·obtain ⟨⟨v,m⟩,h3,h⟩:=opt_some h
     exact ⟨v,m,h3,h⟩
   case append =>
    simp only [opK] at h
    obtain ⟨as0,h2,h⟩:=opt_some h
    rcases cond_some h with ⟨_,h0⟩ | ⟨hbx,h0⟩
    ·cases h0
    clear h
    revert h0
    intro h
    split at h
    ·rename_i t t' s x hat
     obtain ⟨p1,h⟩:=gd_some h
     obtain ⟨v,m,h3,h⟩:=appendK_some h
     exact ⟨v,m,by simp only [opA,h2,hbx,Bool.false_eq_true,if_false,Option.bind_some,builtinA,hat,appendB,if_pos p1,h3],h⟩
    ·cases h
   case copy =>
    simp only [opK] at h
    obtain ⟨as0,h2,h⟩:=opt_some h
    rcases cond_some h with ⟨_,h0⟩ | ⟨hbx,h0⟩
    ·cases h0
    clear h
    revert h0
    intro h
    split at h
    ·rename_i t t' s x hat
     obtain ⟨p1,h⟩:=gd_some h
     obtain ⟨v,m,h3,h⟩:=copyK_some h
     exact ⟨v,m,by simp only [opA,h2,hbx,Bool.false_eq_true,if_false,Option.bind_some,builtinA,hat,copyB,if_pos p1,h3],h⟩
    ·cases h
   case clear =>
    simp only [opK] at h
    obtain ⟨as0,h2,h⟩:=opt_some h
    rcases cond_some h with ⟨_,h0⟩ | ⟨hbx,h0⟩
    ·cases h0
    clear h
    revert h0
    intro h
    split at h
    ·rename_i t s hat
     obtain ⟨v,m,h3,h⟩:=clearK_some h
     exact ⟨v,m,by simp only [opA,h2,hbx,Bool.false_eq_true,if_false,Option.bind_some,builtinA,hat,clearB,h3],h⟩
    ·cases h
   case delete =>
    simp only [opK] at h
    obtain ⟨as0,h2,h⟩:=opt_some h
    rcases cond_some h with ⟨_,h0⟩ | ⟨hbx,h0⟩
    ·cases h0
    clear h
    revert h0
    intro h
    split at h
    ·rename_i t ts m key hat
     obtain ⟨es,hm,h⟩:=mapAtK_some h
     obtain ⟨p1,h⟩:=gd_some h
     obtain ⟨e,he,h⟩:=opt_some h
     exact ⟨_,_,by simp only [opA,h2,hbx,Bool.false_eq_true,if_false,Option.bind_some,builtinA,hat,deleteB,hm,p1,if_true,he,Option.map_some],h⟩
    ·cases h
   all_goals exact dflt _ h
  all_goals exact dflt _ h
 all_goals exact dflt _ h
theorem opXK_some (hik:IKOK kc) {dr:Bool} {o:OpA} {env:List V} {mem:List O} {k:V->List O->R} (h:opXK kc dr o env mem k=some r) :
  ∃v m,opX kc.cfg (callW kc.cfg) dr o env mem=some (v,m)/\k v m=some r:=by
 unfold opX
 rcases cond_some h with ⟨hx,h⟩ | ⟨hx,h⟩
 ·obtain ⟨v,m,h1,h⟩:=opK_some hik h
  rw [if_pos hx,h1]
  cases m with
  | nil=>exact ⟨v,mem,rfl,h⟩
  | cons _ _ =>
   obtain ⟨v2,h3,h⟩:=opt_some h
   exact ⟨v2,mem,by simp only [Option.bind_some,h3,Option.map_some],h⟩
 ·obtain ⟨v,m,h1,h⟩:=opK_some hik h
  rw [if_neg (by rw [hx];simp),h1]
  exact ⟨v,m,rfl,h⟩
theorem set_self' {α:Type} {l:List α} {i:Nat} {x:α} (h:l[i]? = some x):l.set i x=l:=by
 obtain ⟨hlt,rfl⟩:=List.getElem?_eq_some_iff.1 h
 exact List.set_getElem_self hlt
theorem opsK_some (hik:IKOK kc) {dr:Bool}:∀(l:List OpA) (env:List V) (mem:List O) (k:List V->List O->R),opsK kc dr l env mem k=some r ->
  ∃s,opsA kc.cfg (callW kc.cfg) dr l ⟨env,mem⟩=some s/\k s.env s.mem=some r:=by
 intro l
 induction l with
 | nil=>intro env mem k h;exact ⟨_,rfl,h⟩
 | cons o l ih =>
  intro env mem k h
  simp only [opsK] at h
  split at h
  ·rename_i hg
   obtain ⟨v,m,h1,h⟩:=opXK_some hik h
   obtain ⟨s,h2,h⟩:=ih _ _ _ h
   exact ⟨s,by simp only [opsA,hg,wantedA,Option.bind_some,if_true,h1,h2],h⟩
  ·rename_i t want hg
   split at h
   ·rename_i b hb
    rcases cond_some h with ⟨rfl,h⟩ | ⟨rfl,h⟩
    ·rw [set_self' hb] at h
     cases want<;>simp only [cond_true,cond_false] at h
     rotate_left
     ·obtain ⟨v,m,h1,h⟩:=opXK_some hik h
      obtain ⟨s,h2,h⟩:=ih _ _ _ h
      exact ⟨s,by simp only [opsA,hg,wantedA,hb,beq_self_eq_true,Option.bind_some,if_true,h1,h2],h⟩
     ·obtain ⟨s,h2,h⟩:=ih _ _ _ h
      refine ⟨s,?_,h⟩
      simp only [opsA,hg,wantedA,hb,Option.bind_some]
      exact h2
    ·rw [set_self' hb] at h
     cases want<;>simp only [cond_true,cond_false] at h
     rotate_left
     ·obtain ⟨s,h2,h⟩:=ih _ _ _ h
      refine ⟨s,?_,h⟩
      simp only [opsA,hg,wantedA,hb,Option.bind_some]
      exact h2
     ·obtain ⟨v,m,h1,h⟩:=opXK_some hik h
      obtain ⟨s,h2,h⟩:=ih _ _ _ h
      exact ⟨s,by simp only [opsA,hg,wantedA,hb,beq_self_eq_true,Option.bind_some,if_true,h1,h2],h⟩
   ·rename_i hb
    obtain ⟨s,h2,h⟩:=ih _ _ _ h
    exact ⟨s,by simp only [opsA,hg,wantedA,hb,Option.bind_some,Bool.false_eq_true,if_false,h2],h⟩
   ·cases h
theorem opsKR_some (hik:IKOK kc):∀(l:List OpA) (env:List V) (mem:List O) (fs:List Nat) (k:List V->List O->List Nat->R),opsKR kc l env mem fs k=some r ->
  ∃s fs1,opsR kc.cfg (callW kc.cfg) l ⟨env,mem⟩ fs=some (s,fs1)/\k s.env s.mem fs1=some r:=by
 intro l
 induction l with
 | nil=>intro env mem fs k h;exact ⟨_,_,rfl,h⟩
 | cons o l ih =>
  intro env mem fs k h
  simp only [opsKR] at h
  split at h
  ·rename_i hg
   obtain ⟨v,m,h1,h⟩:=opXK_some hik h
   obtain ⟨s,fs1,h2,h⟩:=ih _ _ _ _ h
   rw [Bool.cond_eq_ite] at h2
   exact ⟨s,fs1,by simp only [opsR,hg,wantedA,Option.bind_some,if_true,h1,h2],h⟩
  ·rename_i t want hg
   split at h
   ·rename_i b hb
    rcases cond_some h with ⟨rfl,h⟩ | ⟨rfl,h⟩
    ·rw [set_self' hb] at h
     cases want<;>simp only [cond_true,cond_false] at h
     rotate_left
     ·obtain ⟨v,m,h1,h⟩:=opXK_some hik h
      obtain ⟨s,fs1,h2,h⟩:=ih _ _ _ _ h
      rw [Bool.cond_eq_ite] at h2
      exact ⟨s,fs1,by simp only [opsR,hg,wantedA,hb,beq_self_eq_true,Option.bind_some,if_true,h1,h2],h⟩
     ·obtain ⟨s,fs1,h2,h⟩:=ih _ _ _ _ h
      refine ⟨s,fs1,?_,h⟩
      simp only [opsR,hg,wantedA,hb,Option.bind_some]
      exact h2
    ·rw [set_self' hb] at h
     cases want<;>simp only [cond_true,cond_false] at h
     rotate_left
     ·obtain ⟨s,fs1,h2,h⟩:=ih _ _ _ _ h
      refine ⟨s,fs1,?_,h⟩
      simp only [opsR,hg,wantedA,hb,Option.bind_some]
      exact h2
     ·obtain ⟨v,m,h1,h⟩:=opXK_some hik h
      obtain ⟨s,fs1,h2,h⟩:=ih _ _ _ _ h
      rw [Bool.cond_eq_ite] at h2
      exact ⟨s,fs1,by simp only [opsR,hg,wantedA,hb,beq_self_eq_true,Option.bind_some,if_true,h1,h2],h⟩
   ·rename_i hb
    obtain ⟨s,fs1,h2,h⟩:=ih _ _ _ _ h
    exact ⟨s,fs1,by simp only [opsR,hg,wantedA,hb,Option.bind_some,Bool.false_eq_true,if_false,h2],h⟩
   ·cases h
theorem opsDK_some (hik:IKOK kc) {dr:Bool} (l:List OpA) (env:List V) (mem:List O) (k:List V->List O->R) (h:opsDK kc dr l env mem k=some r) :
  ∃s,opsD kc.cfg (callW kc.cfg) dr l ⟨env,mem⟩=some s/\k s.env s.mem=some r:=by
 unfold opsDK at h
 unfold opsD
 rcases cond_some h with ⟨hc,h⟩ | ⟨hc,h⟩
 ·obtain ⟨s,fs,h1,h⟩:=opsKR_some hik _ _ _ _ _ h
  rcases cond_some h with ⟨hk,h⟩ | ⟨_,h⟩
  ·exact ⟨s,by rw [if_pos hc,h1,Option.bind_some,if_pos hk],h⟩
  ·cases h
 ·obtain ⟨s,h1,h⟩:=opsK_some hik _ _ _ _ h
  exact ⟨s,by rw [if_neg (by rw [hc];simp),h1],h⟩
end
def ResW (cfg:Cfg) (n0:Nat):C->Nat->Nat->S->Ex × S->Prop
 | .seq a b,i,j,s,r=>if j < i+nl a then ∃q,ResW cfg n0 a i j s q/\(match q with
   |(.norm,s')=>execW cfg n0 b s'=some r
   | q=>r=q)
  else ResW cfg n0 b (i+nl a) j s r
 | .cseq f a b,i,j,s,r=>if j < i+nl a then ∃q,ResW cfg n0 a i j s q/\(match q with
   |(.norm,s')=>execW cfg n0 b (clean n0 f s')=some r
   | q=>r=q)
  else if j=i+nl a then execW cfg n0 b s=some r else ResW cfg n0 b (i+nl a+1) j s r
 | .cond _ a b,i,j,s,r=>if j < i+nl a then ResW cfg n0 a i j s r else ResW cfg n0 b (i+nl a) j s r
 | .block id c,i,j,s,r=>∃q,ResW cfg n0 c i j s q/\r=(match q with
   |(.norm,s')=>(.norm,s')
   |(.exit e,s')=>if e=id then (.norm,s') else (.exit e,s')
   |(.ret,s')=>(.ret,s'))
 | .loop f c,i,j,s,r=>if j=i then LpC cfg n0 f c s r.1 r.2 else ∃q,ResW cfg n0 c (i+1) j s q/\(match q with
   |(.norm,s')=>LpC cfg n0 f c (clean n0 f s') r.1 r.2
   |(x,s')=>r=(x,clean n0 f s'))
 | _,_,_,_,_=>False
section
variable {kc:KC} {n0:Nat}
def Ans3 (o:Out) (W:Ex × S->Prop) (kn:S->R) (ke:Nat->S->R) (kr:S->R) (H:Nat->S->Prop):Prop :=
 (∃s,W (.norm,s)/\kn s=some o)∨(∃e s,W (.exit e,s)/\ke e s=some o)∨(∃s,W (.ret,s)/\kr s=some o)∨∃j s,o = .head j s/\H j s
theorem clean_norm {c:C} {t s1:S} (h:execW kc.cfg n0 c t=some (.norm,s1)) {f:List Nat} {x:Ex} {s:S} (hr:LpC kc.cfg n0 f c (clean n0 f s1) x s):LpC kc.cfg n0 f c t x s:=by
 intro s0 h0
 have:=hr s1 rfl
 simp only [execW,omi] at this |-
 obtain ⟨r,q1,q2⟩:=this
 exact ⟨r,iterW_norm (by simp only [h0,h]) q1,q2⟩
theorem clean_exit {c:C} {t s1:S} {i:Nat} (h:execW kc.cfg n0 c t=some (.exit i,s1)) {f:List Nat}:LpC kc.cfg n0 f c t (.exit i) (clean n0 f s1):=by
 intro s0 h0
 simp only [execW,omi]
 exact ⟨(.exit i,s1),iterW_exit (by simp only [h0,h]),rfl⟩
theorem clean_ret {c:C} {t s1:S} (h:execW kc.cfg n0 c t=some (.ret,s1)) {f:List Nat}:LpC kc.cfg n0 f c t .ret (clean n0 f s1):=by
 intro s0 h0
 simp only [execW,omi]
 exact ⟨(.ret,s1),iterW_ret (by simp only [h0,h]),rfl⟩
theorem setB_eq {env:List V} {c:Operand} {b:Bool} (h:evalO env c=some (.bool b)):setB env c b=env:=by
 cases c<;>first | rfl | exact set_self' h
theorem segK_some (hik:IKOK kc):∀(c:C) (i:Nat) (s:S) (kn:S->R) (ke:Nat->S->R) (kr:S->R) (o:Out),segK kc n0 c i s kn ke kr=some o ->
  Ans3 o (fun r=>execW kc.cfg n0 c s=some r) kn ke kr (fun j s'=>i<=j/\j < i+nl c/\∀r,ResW kc.cfg n0 c i j s' r->execW kc.cfg n0 c s=some r):=by
 intro c
 induction c with
 | skip=>intro i s kn ke kr o h;exact .inl ⟨s,rfl,h⟩
 | ops dr l =>
  intro i s kn ke kr o h
  obtain ⟨s',h1,h2⟩:=opsDK_some hik _ _ _ _ h
  rcases cond_some h2 with ⟨hc,h2⟩ | ⟨_,h2⟩
  ·exact .inl ⟨s',by simp only [execW];rw [show (⟨s.env,s.mem⟩:S)=s from rfl] at h1;rw [h1,Option.bind_some,if_pos hc],h2⟩
  ·cases h2
 | seq a b iha ihb =>
  intro i s kn ke kr o h
  simp only [segK] at h
  rcases iha _ _ _ _ _ _ h with ⟨s1,h1,h2⟩ | ⟨e,s1,h1,h2⟩ | ⟨s1,h1,h2⟩ | ⟨j,s1,rfl,h1,h2,h3⟩
  ·have e1:execW kc.cfg n0 (.seq a b) s=execW kc.cfg n0 b s1:=by simp only [execW,h1,Option.bind_some]
   rcases ihb _ _ _ _ _ _ h2 with ⟨s2,g1,g2⟩ | ⟨e,s2,g1,g2⟩ | ⟨s2,g1,g2⟩ | ⟨j,s2,rfl,g1,g2,g3⟩
   ·exact .inl ⟨s2,e1.trans g1,g2⟩
   ·exact .inr (.inl ⟨e,s2,e1.trans g1,g2⟩)
   ·exact .inr (.inr (.inl ⟨s2,e1.trans g1,g2⟩))
   ·refine .inr (.inr (.inr ⟨j,s2,rfl,by omega,by simp only [nl];omega,fun r hr=>?_⟩))
    simp only [ResW] at hr
    rw [if_neg (by omega)] at hr
    exact e1.trans (g3 r hr)
  ·exact .inr (.inl ⟨e,s1,by simp only [execW,h1,Option.bind_some],h2⟩)
  ·exact .inr (.inr (.inl ⟨s1,by simp only [execW,h1,Option.bind_some],h2⟩))
  ·refine .inr (.inr (.inr ⟨j,s1,rfl,h1,by simp only [nl];omega,fun r hr=>?_⟩))
   simp only [ResW] at hr
   rw [if_pos h2] at hr
   obtain ⟨⟨x,s'⟩,q1,q2⟩:=hr
   have q1:=h3 _ q1
   simp only [execW,q1,Option.bind_some]
   cases x
   ·exact q2
   ·simp only at q2;rw [q2]
   ·simp only at q2;rw [q2]
 | cseq f a b iha ihb =>
  intro i s kn ke kr o h
  simp only [segK] at h
  rcases iha _ _ _ _ _ _ h with ⟨s1,h1,h2⟩ | ⟨e,s1,h1,h2⟩ | ⟨s1,h1,h2⟩ | ⟨j,s1,rfl,h1,h2,h3⟩
  ·cases h2
   refine .inr (.inr (.inr ⟨i+nl a,_,rfl,by omega,by simp only [nl];omega,fun r hr=>?_⟩))
   simp only [ResW] at hr
   rw [if_neg (by omega),if_pos (by trivial)] at hr
   simp only [execW,h1,Option.bind_some]
   exact hr
  ·exact .inr (.inl ⟨e,s1,by simp only [execW,h1,Option.bind_some],h2⟩)
  ·exact .inr (.inr (.inl ⟨s1,by simp only [execW,h1,Option.bind_some],h2⟩))
  ·refine .inr (.inr (.inr ⟨j,s1,rfl,h1,by simp only [nl];omega,fun r hr=>?_⟩))
   simp only [ResW] at hr
   rw [if_pos h2] at hr
   obtain ⟨⟨x,s'⟩,q1,q2⟩:=hr
   have q1:=h3 _ q1
   simp only [execW,q1,Option.bind_some]
   cases x
   ·exact q2
   ·simp only at q2;rw [q2]
   ·simp only at q2;rw [q2]
 | cond c a b iha ihb =>
  intro i s kn ke kr o h
  simp only [segK] at h
  obtain ⟨v,hv,h⟩:=opt_some h
  obtain ⟨t,rfl,h'⟩:=kB_some h
  rcases cond_some h' with ⟨rfl,h⟩ | ⟨rfl,h⟩
  ·rw [setB_eq hv] at h
   have e1:execW kc.cfg n0 (.cond c a b) s=execW kc.cfg n0 a s:=by simp only [execW,hv,Option.bind_some,if_true]
   rcases iha _ _ _ _ _ _ h with ⟨s2,g1,g2⟩ | ⟨e,s2,g1,g2⟩ | ⟨s2,g1,g2⟩ | ⟨j,s2,rfl,g1,g2,g3⟩
   ·exact .inl ⟨s2,e1.trans g1,g2⟩
   ·exact .inr (.inl ⟨e,s2,e1.trans g1,g2⟩)
   ·exact .inr (.inr (.inl ⟨s2,e1.trans g1,g2⟩))
   ·refine .inr (.inr (.inr ⟨j,s2,rfl,g1,by simp only [nl];omega,fun r hr=>?_⟩))
    simp only [ResW] at hr
    rw [if_pos g2] at hr
    exact e1.trans (g3 r hr)
  ·rw [setB_eq hv] at h
   have e1:execW kc.cfg n0 (.cond c a b) s=execW kc.cfg n0 b s:=by simp only [execW,hv,Option.bind_some,Bool.false_eq_true,if_false]
   rcases ihb _ _ _ _ _ _ h with ⟨s2,g1,g2⟩ | ⟨e,s2,g1,g2⟩ | ⟨s2,g1,g2⟩ | ⟨j,s2,rfl,g1,g2,g3⟩
   ·exact .inl ⟨s2,e1.trans g1,g2⟩
   ·exact .inr (.inl ⟨e,s2,e1.trans g1,g2⟩)
   ·exact .inr (.inr (.inl ⟨s2,e1.trans g1,g2⟩))
   ·refine .inr (.inr (.inr ⟨j,s2,rfl,by omega,by simp only [nl];omega,fun r hr=>?_⟩))
    simp only [ResW] at hr
    rw [if_neg (by omega)] at hr
    exact e1.trans (g3 r hr)
 | block id c ih =>
  intro i s kn ke kr o h
  simp only [segK] at h
  rcases ih _ _ _ _ _ _ h with ⟨s2,g1,g2⟩ | ⟨e,s2,g1,g2⟩ | ⟨s2,g1,g2⟩ | ⟨j,s2,rfl,g1,g2,g3⟩
  ·exact .inl ⟨s2,by simp only [execW,g1,Option.map_some],g2⟩
  ·rcases cond_some g2 with ⟨he,g2⟩ | ⟨he,g2⟩
   ·have he:e=id:=by simpa using he
    exact .inl ⟨s2,by simp only [execW,g1,Option.map_some,if_pos he],g2⟩
   ·have he:¬e=id:=by simpa using he
    exact .inr (.inl ⟨e,s2,by simp only [execW,g1,Option.map_some,if_neg he],g2⟩)
  ·exact .inr (.inr (.inl ⟨s2,by simp only [execW,g1,Option.map_some],g2⟩))
  ·refine .inr (.inr (.inr ⟨j,s2,rfl,g1,by simp only [nl];omega,fun r hr=>?_⟩))
   simp only [ResW] at hr
   obtain ⟨q,q1,rfl⟩:=hr
   simp only [execW,g3 _ q1,Option.map_some]
   rcases q with ⟨x,s'⟩
   cases x<;>rfl
 | loop f c ih =>
  intro i s kn ke kr o h
  simp only [segK] at h
  cases h
  refine .inr (.inr (.inr ⟨i,_,rfl,Nat.le_refl _,by simp only [nl];omega,fun r hr=>?_⟩))
  simp only [ResW,if_true] at hr
  exact hr s rfl
 | exit j=>intro i s kn ke kr o h;exact .inr (.inl ⟨j,s,rfl,h⟩)
 | ret=>intro i s kn ke kr o h;exact .inr (.inr (.inl ⟨s,rfl,h⟩))
 | start g =>
  intro i s kn ke kr o h
  simp only [segK] at h
  split at h
  rotate_left
  ·cases h
  rename_i f caps he
  obtain ⟨th,h1,h⟩:=opt_some h
  obtain ⟨as0,h2,h⟩:=mapK_some (fun x k h=>snap2K_some h) h
  obtain ⟨l,h3,h⟩:=opt_some h
  exact .inl ⟨_,by simp only [execW,startA,he,h1,Option.bind_some,h2,h3,Option.map_some],h⟩
 | uncons g ps ws a b iha ihb =>
  intro i s kn ke kr o h
  simp only [segK] at h
  obtain ⟨hn,h⟩:=gd_some h
  simp only [Bool.and_eq_true,Nat.beq_eq] at hn
  split at h
  rotate_left
  ·cases h
  rename_i ts l he
  cases l with
  | nil =>
   simp only [restK] at h
   have e1:execW kc.cfg n0 (.uncons g ps ws a b) s=execW kc.cfg n0 b s:=by simp only [execW,he]
   rcases ihb _ _ _ _ _ _ h with ⟨s2,g1,g2⟩ | ⟨e,s2,g1,g2⟩ | ⟨s2,g1,g2⟩ | ⟨j,s2,rfl,g1,g2,g3⟩
   ·exact .inl ⟨s2,e1.trans g1,g2⟩
   ·exact .inr (.inl ⟨e,s2,e1.trans g1,g2⟩)
   ·exact .inr (.inr (.inl ⟨s2,e1.trans g1,g2⟩))
   ·omega
  | cons x l =>
   simp only [restK] at h
   obtain ⟨vs,rfl,h⟩:=kT_some h
   have h:=tupK_some h
   obtain ⟨hl,h⟩:=gd_some h
   have hl:vs.length=ps.length:=by simpa using hl
   have e1:∀x s2,execW kc.cfg n0 a ⟨setPs (s.env.set g .junk) ps vs,s.mem⟩=some (x,s2)->execW kc.cfg n0 (.uncons g ps ws a b) s=some (x,⟨(forget s2.env ws).set g (.rest ts l),s2.mem⟩):=by
    intro x s2 q
    simp only [execW,he,if_pos hl,q,Option.map_some]
   rcases iha _ _ _ _ _ _ h with ⟨s2,g1,g2⟩ | ⟨e,s2,g1,g2⟩ | ⟨s2,g1,g2⟩ | ⟨j,s2,rfl,g1,g2,g3⟩
   ·exact .inl ⟨_,e1 _ _ g1,g2⟩
   ·exact .inr (.inl ⟨e,_,e1 _ _ g1,g2⟩)
   ·exact .inr (.inr (.inl ⟨_,e1 _ _ g1,g2⟩))
   ·omega
theorem conK_some (hik:IKOK kc):∀(c:C) (i j:Nat) (s:S) (kn:S->R) (ke:Nat->S->R) (kr:S->R) (o:Out),conK kc n0 c i j s kn ke kr=some o ->
  Ans3 o (fun r=>ResW kc.cfg n0 c i j s r) kn ke kr (fun j' s'=>i<=j'/\j' < i+nl c/\∀r,ResW kc.cfg n0 c i j' s' r->ResW kc.cfg n0 c i j s r):=by
 intro c
 induction c with
 | seq a b iha ihb =>
  intro i j s kn ke kr o h
  simp only [conK] at h
  rcases cond_some h with ⟨hj,h⟩ | ⟨hj,h⟩
  ·have hj:j < i+nl a:=by simpa [Nat.blt_eq] using hj
   rcases iha _ _ _ _ _ _ _ h with ⟨s1,h1,h2⟩ | ⟨e,s1,h1,h2⟩ | ⟨s1,h1,h2⟩ | ⟨j',s1,rfl,h1,h2,h3⟩
   ·rcases segK_some hik b _ _ _ _ _ _ h2 with ⟨s2,g1,g2⟩ | ⟨e,s2,g1,g2⟩ | ⟨s2,g1,g2⟩ | ⟨j',s2,rfl,g1,g2,g3⟩
    ·exact .inl ⟨s2,by simp only [ResW];rw [if_pos hj];exact ⟨_,h1,g1⟩,g2⟩
    ·exact .inr (.inl ⟨e,s2,by simp only [ResW];rw [if_pos hj];exact ⟨_,h1,g1⟩,g2⟩)
    ·exact .inr (.inr (.inl ⟨s2,by simp only [ResW];rw [if_pos hj];exact ⟨_,h1,g1⟩,g2⟩))
    ·refine .inr (.inr (.inr ⟨j',s2,rfl,by omega,by simp only [nl];omega,fun r hr=>?_⟩))
     simp only [ResW] at hr |-
     rw [if_neg (by omega)] at hr
     rw [if_pos hj]
     exact ⟨_,h1,g3 r hr⟩
   ·exact .inr (.inl ⟨e,s1,by simp only [ResW];rw [if_pos hj];exact ⟨_,h1,rfl⟩,h2⟩)
   ·exact .inr (.inr (.inl ⟨s1,by simp only [ResW];rw [if_pos hj];exact ⟨_,h1,rfl⟩,h2⟩))
   ·refine .inr (.inr (.inr ⟨j',s1,rfl,h1,by simp only [nl];omega,fun r hr=>?_⟩))
    simp only [ResW] at hr |-
    rw [if_pos h2] at hr
    rw [if_pos hj]
    obtain ⟨q,q1,q2⟩:=hr
    exact ⟨q,h3 _ q1,q2⟩
  ·have hj:¬j < i+nl a:=by
    intro hh
    have:Nat.blt j (i+nl a)=true:=by simpa [Nat.blt_eq] using hh
    rw [this] at hj;cases hj
   rcases ihb _ _ _ _ _ _ _ h with ⟨s1,h1,h2⟩ | ⟨e,s1,h1,h2⟩ | ⟨s1,h1,h2⟩ | ⟨j',s1,rfl,h1,h2,h3⟩
   ·exact .inl ⟨s1,by simp only [ResW];rw [if_neg hj];exact h1,h2⟩
   ·exact .inr (.inl ⟨e,s1,by simp only [ResW];rw [if_neg hj];exact h1,h2⟩)
   ·exact .inr (.inr (.inl ⟨s1,by simp only [ResW];rw [if_neg hj];exact h1,h2⟩))
   ·refine .inr (.inr (.inr ⟨j',s1,rfl,by omega,by simp only [nl];omega,fun r hr=>?_⟩))
    simp only [ResW] at hr |-
    rw [if_neg (by omega)] at hr
    rw [if_neg hj]
    exact h3 r hr
 | cseq f a b iha ihb =>
  intro i j s kn ke kr o h
  simp only [conK] at h
  rcases cond_some h with ⟨hj,h⟩ | ⟨hj,h⟩
  ·have hj:j < i+nl a:=by simpa [Nat.blt_eq] using hj
   rcases iha _ _ _ _ _ _ _ h with ⟨s1,h1,h2⟩ | ⟨e,s1,h1,h2⟩ | ⟨s1,h1,h2⟩ | ⟨j',s1,rfl,h1,h2,h3⟩
   ·cases h2
    refine .inr (.inr (.inr ⟨i+nl a,_,rfl,by omega,by simp only [nl];omega,fun r hr=>?_⟩))
    simp only [ResW] at hr |-
    rw [if_neg (by omega),if_pos (by trivial)] at hr
    rw [if_pos hj]
    exact ⟨_,h1,hr⟩
   ·exact .inr (.inl ⟨e,s1,by simp only [ResW];rw [if_pos hj];exact ⟨_,h1,rfl⟩,h2⟩)
   ·exact .inr (.inr (.inl ⟨s1,by simp only [ResW];rw [if_pos hj];exact ⟨_,h1,rfl⟩,h2⟩))
   ·refine .inr (.inr (.inr ⟨j',s1,rfl,h1,by simp only [nl];omega,fun r hr=>?_⟩))
    simp only [ResW] at hr |-
    rw [if_pos h2] at hr
    rw [if_pos hj]
    obtain ⟨q,q1,q2⟩:=hr
    exact ⟨q,h3 _ q1,q2⟩
  ·have hj:¬j < i+nl a:=by
    intro hh
    have:Nat.blt j (i+nl a)=true:=by simpa [Nat.blt_eq] using hh
    rw [this] at hj;cases hj
   rcases cond_some h with ⟨hk,h⟩ | ⟨hk,h⟩
   ·have hk:j=i+nl a:=by simpa using hk
    rcases segK_some hik b _ _ _ _ _ _ h with ⟨s2,g1,g2⟩ | ⟨e,s2,g1,g2⟩ | ⟨s2,g1,g2⟩ | ⟨j',s2,rfl,g1,g2,g3⟩
    ·exact .inl ⟨s2,by simp only [ResW];rw [if_neg hj,if_pos hk];exact g1,g2⟩
    ·exact .inr (.inl ⟨e,s2,by simp only [ResW];rw [if_neg hj,if_pos hk];exact g1,g2⟩)
    ·exact .inr (.inr (.inl ⟨s2,by simp only [ResW];rw [if_neg hj,if_pos hk];exact g1,g2⟩))
    ·refine .inr (.inr (.inr ⟨j',s2,rfl,by omega,by simp only [nl];omega,fun r hr=>?_⟩))
     simp only [ResW] at hr |-
     rw [if_neg (by omega),if_neg (by omega)] at hr
     rw [if_neg hj,if_pos hk]
     exact g3 r hr
   ·have hk:¬j=i+nl a:=by simpa using hk
    rcases ihb _ _ _ _ _ _ _ h with ⟨s1,h1,h2⟩ | ⟨e,s1,h1,h2⟩ | ⟨s1,h1,h2⟩ | ⟨j',s1,rfl,h1,h2,h3⟩
    ·exact .inl ⟨s1,by simp only [ResW];rw [if_neg hj,if_neg hk];exact h1,h2⟩
    ·exact .inr (.inl ⟨e,s1,by simp only [ResW];rw [if_neg hj,if_neg hk];exact h1,h2⟩)
    ·exact .inr (.inr (.inl ⟨s1,by simp only [ResW];rw [if_neg hj,if_neg hk];exact h1,h2⟩))
    ·refine .inr (.inr (.inr ⟨j',s1,rfl,by omega,by simp only [nl];omega,fun r hr=>?_⟩))
     simp only [ResW] at hr |-
     rw [if_neg (by omega),if_neg (by omega)] at hr
     rw [if_neg hj,if_neg hk]
     exact h3 r hr
 | cond c a b iha ihb =>
  intro i j s kn ke kr o h
  simp only [conK] at h
  rcases cond_some h with ⟨hj,h⟩ | ⟨hj,h⟩
  ·have hj:j < i+nl a:=by simpa [Nat.blt_eq] using hj
   rcases iha _ _ _ _ _ _ _ h with ⟨s1,h1,h2⟩ | ⟨e,s1,h1,h2⟩ | ⟨s1,h1,h2⟩ | ⟨j',s1,rfl,h1,h2,h3⟩
   ·exact .inl ⟨s1,by simp only [ResW];rw [if_pos hj];exact h1,h2⟩
   ·exact .inr (.inl ⟨e,s1,by simp only [ResW];rw [if_pos hj];exact h1,h2⟩)
   ·exact .inr (.inr (.inl ⟨s1,by simp only [ResW];rw [if_pos hj];exact h1,h2⟩))
   ·refine .inr (.inr (.inr ⟨j',s1,rfl,by omega,by simp only [nl];omega,fun r hr=>?_⟩))
    simp only [ResW] at hr |-
    rw [if_pos (by omega)] at hr
    rw [if_pos hj]
    exact h3 r hr
  ·have hj:¬j < i+nl a:=by
    intro hh
    have:Nat.blt j (i+nl a)=true:=by simpa [Nat.blt_eq] using hh
    rw [this] at hj;cases hj
   rcases ihb _ _ _ _ _ _ _ h with ⟨s1,h1,h2⟩ | ⟨e,s1,h1,h2⟩ | ⟨s1,h1,h2⟩ | ⟨j',s1,rfl,h1,h2,h3⟩
   ·exact .inl ⟨s1,by simp only [ResW];rw [if_neg hj];exact h1,h2⟩
   ·exact .inr (.inl ⟨e,s1,by simp only [ResW];rw [if_neg hj];exact h1,h2⟩)
   ·exact .inr (.inr (.inl ⟨s1,by simp only [ResW];rw [if_neg hj];exact h1,h2⟩))
   ·refine .inr (.inr (.inr ⟨j',s1,rfl,by omega,by simp only [nl];omega,fun r hr=>?_⟩))
    simp only [ResW] at hr |-
    rw [if_neg (by omega)] at hr
    rw [if_neg hj]
    exact h3 r hr
 | block id c ih =>
  intro i j s kn ke kr o h
  simp only [conK] at h
  rcases ih _ _ _ _ _ _ _ h with ⟨s2,g1,g2⟩ | ⟨e,s2,g1,g2⟩ | ⟨s2,g1,g2⟩ | ⟨j',s2,rfl,g1,g2,g3⟩
  ·exact .inl ⟨s2,by simp only [ResW];exact ⟨_,g1,rfl⟩,g2⟩
  ·rcases cond_some g2 with ⟨he,g2⟩ | ⟨he,g2⟩
   ·have he:e=id:=by simpa using he
    exact .inl ⟨s2,by simp only [ResW];exact ⟨_,g1,by simp only [if_pos he]⟩,g2⟩
   ·have he:¬e=id:=by simpa using he
    exact .inr (.inl ⟨e,s2,by simp only [ResW];exact ⟨_,g1,by simp only [if_neg he]⟩,g2⟩)
  ·exact .inr (.inr (.inl ⟨s2,by simp only [ResW];exact ⟨_,g1,rfl⟩,g2⟩))
  ·refine .inr (.inr (.inr ⟨j',s2,rfl,g1,by simp only [nl];omega,fun r hr=>?_⟩))
   simp only [ResW] at hr |-
   obtain ⟨q,q1,q2⟩:=hr
   exact ⟨q,g3 _ q1,q2⟩
 | loop f c ih =>
  intro i j s kn ke kr o h
  simp only [conK] at h
  rcases cond_some h with ⟨hj,h⟩ | ⟨hj,h⟩
  ·have hj:j=i:=by simpa using hj
   subst hj
   rcases segK_some hik c _ _ _ _ _ _ h with ⟨s2,g1,g2⟩ | ⟨e,s2,g1,g2⟩ | ⟨s2,g1,g2⟩ | ⟨j',s2,rfl,g1,g2,g3⟩
   ·cases g2
    refine .inr (.inr (.inr ⟨j,_,rfl,Nat.le_refl _,by simp only [nl];omega,fun r hr=>?_⟩))
    simp only [ResW,if_true] at hr |-
    exact clean_norm g1 hr
   ·exact .inr (.inl ⟨e,_,by simp only [ResW,if_true];exact clean_exit g1,g2⟩)
   ·exact .inr (.inr (.inl ⟨_,by simp only [ResW,if_true];exact clean_ret g1,g2⟩))
   ·refine .inr (.inr (.inr ⟨j',s2,rfl,by omega,by simp only [nl];omega,fun r hr=>?_⟩))
    simp only [ResW,if_true] at hr |-
    rw [if_neg (by omega)] at hr
    obtain ⟨⟨x,s'⟩,q1,q2⟩:=hr
    have q1:=g3 _ q1
    cases x with
    | norm=>exact clean_norm q1 q2
    | exit e=>simp only at q2;rw [q2];exact clean_exit q1
    | ret=>simp only at q2;rw [q2];exact clean_ret q1
  ·have hj:¬j=i:=by simpa using hj
   rcases ih _ _ _ _ _ _ _ h with ⟨s2,g1,g2⟩ | ⟨e,s2,g1,g2⟩ | ⟨s2,g1,g2⟩ | ⟨j',s2,rfl,g1,g2,g3⟩
   ·cases g2
    refine .inr (.inr (.inr ⟨i,_,rfl,Nat.le_refl _,by simp only [nl];omega,fun r hr=>?_⟩))
    simp only [ResW,if_true] at hr |-
    rw [if_neg hj]
    exact ⟨_,g1,hr⟩
   ·exact .inr (.inl ⟨e,_,by simp only [ResW];rw [if_neg hj];exact ⟨_,g1,rfl⟩,g2⟩)
   ·exact .inr (.inr (.inl ⟨_,by simp only [ResW];rw [if_neg hj];exact ⟨_,g1,rfl⟩,g2⟩))
   ·refine .inr (.inr (.inr ⟨j',s2,rfl,by omega,by simp only [nl];omega,fun r hr=>?_⟩))
    simp only [ResW] at hr |-
    rw [if_neg (by omega)] at hr
    rw [if_neg hj]
    obtain ⟨q,q1,q2⟩:=hr
    exact ⟨q,g3 _ q1,q2⟩
 | _=>intro i j s kn ke kr o h;simp only [conK] at h;cases h
inductive Go (kc:KC) (imp:Bool) (n0:Nat) (fa:FA):Out->Out->Prop
 | refl (o:Out):Go kc imp n0 fa o o
 | step {j:Nat} {s:S} {o o':Out} (h:goK kc imp n0 fa j s=some o) (hr:Go kc imp n0 fa o o'):Go kc imp n0 fa (.head j s) o'
theorem Go.trans {imp:Bool} {fa:FA} {a b c:Out} (h:Go kc imp n0 fa a b) (h':Go kc imp n0 fa b c):Go kc imp n0 fa a c:=by
 induction h with
 | refl _=>exact h'
 | step q _ ih=>exact .step q (ih h')
theorem give1K_some {P:Program} {mem:List O} {t:TypeId} {v:V} {k:V->R} {r:Out} (h:give1K P mem t v k=some r):∃x,give1 P mem t v=some x/\k x=some r:=by
 unfold give1K at h
 split at h
 ·split at h
  ·rename_i hm
   rcases cond_some h with ⟨c1,h⟩ | ⟨c1,h⟩
   ·rcases cond_some h with ⟨c2,h⟩ | ⟨c2,h⟩
    ·obtain ⟨c3,h⟩:=gd_some h
     exact ⟨_,by simp only [give1,hm,c1,if_true,if_pos (show _=0 by simpa using c2),c3],h⟩
    ·exact ⟨_,by simp only [give1,hm,c1,if_true,if_neg (show ¬_=0 by simpa using c2)],h⟩
   ·exact ⟨_,by simp only [give1,hm,c1,Bool.false_eq_true,if_false],h⟩
  ·cases h
 ·exact opt_some h
theorem giveK_some {P:Program} {mem:List O} {ts:List TypeId} {vs:List V} {k:V->R} {r:Out} (h:giveK P mem ts vs k=some r):∃x,give P mem ts vs=some x/\k x=some r:=by
 unfold giveK at h
 split at h
 ·exact give1K_some h
 ·exact opt_some h
def FinW (kc:KC) (imp:Bool) (fa:FA) (s:S) (o:Out):Prop :=
 ∃vs,mapO (resV kc.cfg.P s) fa.results=some vs/\((imp=true/\o = .doneM (tupV vs) s.mem)∨(imp=false/\∃v,give kc.cfg.P s.mem fa.rtypes vs=some v/\o = .done v))
theorem finK_some {imp:Bool} {fa:FA} {s:S} {o:Out} (h:finK kc imp fa s=some o):FinW kc imp fa s o:=by
 obtain ⟨vs,h1,h⟩:=opt_some h
 refine ⟨vs,h1,?_⟩
 rcases cond_some h with ⟨rfl,h⟩ | ⟨rfl,h⟩
 ·cases h;exact .inl ⟨rfl,rfl⟩
 ·obtain ⟨v,h2,h⟩:=giveK_some h
  cases h
  exact .inr ⟨rfl,v,h2,rfl⟩
def endW:Ex->Bool
 | .exit _=>false
 | _=>true
theorem FinW.stay {imp:Bool} {fa:FA} {s:S} {o o':Out} (hf:FinW kc imp fa s o) (hg:Go kc imp n0 fa o o'):o=o':=by
 cases hg with
 | refl=>rfl
 | step q _ =>
  obtain ⟨vs,_,⟨_,q⟩ | ⟨_,v,_,q⟩⟩:=hf
  ·cases q
  ·cases q
theorem Go.sound (hik:IKOK kc) {imp:Bool} {fa:FA} {o o':Out} (h:Go kc imp n0 fa o o'):∀j s,o = .head j s->(∀j s,o'≠.head j s)->∃x s',ResW kc.cfg n0 fa.body 0 j s (x,s')/\endW x=true/\FinW kc imp fa s' o':=by
 induction h with
 | refl o=>intro j s e h;exact (h j s e).elim
 | step h1 hr ih =>
  intro j s e hn
  cases e
  rcases conK_some hik _ _ _ _ _ _ _ _ h1 with ⟨s2,g1,g2⟩ | ⟨e,s2,g1,g2⟩ | ⟨s2,g1,g2⟩ | ⟨j',s2,rfl,g1,g2,g3⟩
  ·have hf:=finK_some g2
   have:=FinW.stay hf hr
   subst this
   exact ⟨_,_,g1,rfl,hf⟩
  ·cases g2
  ·have hf:=finK_some g2
   have:=FinW.stay hf hr
   subst this
   exact ⟨_,_,g1,rfl,hf⟩
  ·obtain ⟨x,s',q1,q2,q3⟩:=ih _ _ rfl hn
   exact ⟨x,s',g3 _ q1,q2,q3⟩
theorem run_of (hik:IKOK kc) {imp:Bool} {fa:FA} {args:List V} {mem:List O} {o o':Out} (h:enterK kc imp fa args mem=some o) (hg:Go kc imp mem.length fa o o') (hn:∀j s,o'≠.head j s) :
  ∃vs s,runW kc.cfg fa args mem=some (vs,s)/\((imp=true/\o' = .doneM (tupV vs) s)∨(imp=false/\∃v,give kc.cfg.P s fa.rtypes vs=some v/\o' = .done v)):=by
 obtain ⟨ha,h⟩:=gd_some h
 simp only [Bool.and_eq_true,beq_iff_eq,Nat.ble_eq] at ha
 have key:∀(x:Ex) (s':S),execW kc.cfg mem.length fa.body ⟨args++List.replicate (fa.nt - fa.np) (.tup []),mem⟩=some (x,s')->endW x=true->FinW kc imp fa s' o' ->
   ∃vs s,runW kc.cfg fa args mem=some (vs,s)/\((imp=true/\o' = .doneM (tupV vs) s)∨(imp=false/\∃v,give kc.cfg.P s fa.rtypes vs=some v/\o' = .done v)):=by
  intro x s' hx he ⟨vs,h1,h2⟩
  refine ⟨vs,s'.mem,?_,h2⟩
  unfold runW
  rw [if_pos ha]
  cases x with
  | exit i=>cases he
  | norm=>simp only [hx,Option.bind_some,h1,Option.map_some]
  | ret=>simp only [hx,Option.bind_some,h1,Option.map_some]
 have done:∀s,FinW kc imp fa s o->o=o':=fun s hf=>hf.stay hg
 rcases segK_some hik _ _ _ _ _ _ _ h with ⟨s2,g1,g2⟩ | ⟨e,s2,g1,g2⟩ | ⟨s2,g1,g2⟩ | ⟨j',s2,rfl,g1,g2,g3⟩
 ·have hf:=finK_some g2
  have:=done _ hf
  subst this
  exact key _ _ g1 rfl hf
 ·cases g2
 ·have hf:=finK_some g2
  have:=done _ hf
  subst this
  exact key _ _ g1 rfl hf
 ·obtain ⟨x,s',q1,q2,q3⟩:=hg.sound hik _ _ rfl hn
  exact key _ _ (g3 _ q1) q2 q3
theorem pcW_go (hik:IKOK kc) {f:FuncId} {fa:FA} {args:List V} {o:Out} {v:V} (hp:kc.cfg.pprim f=none) (hf:fnA kc.cfg.P (kc.cfg.rxf f) f=some fa) (h:enterK kc false fa args []=some o) (hg:Go kc false 0 fa o (.done v)) (ha:kc.cfg.ars f=[]:=by rfl) :
  pcW kc.cfg f args=some v:=by
 obtain ⟨vs,s,h1,⟨h2,_⟩ | ⟨_,v',h2,h3⟩⟩:=run_of hik h hg (by intro j s e;cases e)
 ·cases h2
 ·cases h3
  exact pcW_run hp hf h1 h2 ha
theorem pcW_goA (hik:IKOK kc) {f:FuncId} {fa:FA} {args:List V} {mem0 mem:List O} {o:Out} {v:V} (hp:kc.cfg.pprim f=none) (hf:fnA kc.cfg.P (kc.cfg.rxf f) f=some fa) (hm:arsM kc.cfg f=mem0) (hfl:v.flat1=true) (ho:arsOk kc.cfg f args=true) (hne:(kc.cfg.ars f).isEmpty=false)
  (h:enterK kc true fa args mem0=some o) (hg:Go kc true mem0.length fa o (.doneM v mem)):pcW kc.cfg f args=some v:=by
 obtain ⟨vs,s,h1,⟨_,h2⟩ | ⟨h2,_⟩⟩:=run_of hik h hg (by intro j s e;cases e)
 ·simp only [Out.doneM.injEq] at h2
  obtain ⟨h2,_⟩:=h2
  match vs with
  | [x] =>
   have h2:v=x:=h2
   subst h2
   exact pcW_runA hp hf hm h1 hfl ho hne
  | []=>have h2:v = .tup []:=h2;subst h2;cases hfl
  | x::y::l=>have h2:v = .tup (x::y::l):=h2;subst h2;cases hfl
 ·cases h2
theorem icW_go (hik:IKOK kc) {f:FuncId} {fa:FA} {args:List V} {mem mem':List O} {o:Out} {v:V} (hp:kc.cfg.iprim f=none) (hf:fnA kc.cfg.P (kc.cfg.rxf f) f=some fa) (h:enterK kc true fa args mem=some o) (hg:Go kc true mem.length fa o (.doneM v mem')) :
  icW kc.cfg f args mem=some (v,mem'):=by
 obtain ⟨vs,s,h1,⟨_,h2⟩ | ⟨h2,_⟩⟩:=run_of hik h hg (by intro j s e;cases e)
 ·cases h2
  exact icW_run hp hf h1
 ·cases h2
end
def JU (n:Nat):List V:=List.replicate n V.junk
def W (k:IntKind) (n:Int):Int:=k.wrap n
def mv (d s t:Nat):OpA:=⟨some d,.move (.tmp s),t,none,false,false,false⟩
def asg (d s t:Nat):OpA:=⟨some d,.assign (.tmp s),t,none,false,false,false⟩
def o1 (d:Nat) (o:Op) (t:Nat):OpA:=⟨some d,o,t,none,false,false,false⟩
def o0 (o:Op) (t:Nat):OpA:=⟨none,o,t,none,false,false,false⟩
def o2 (d:Nat) (o:Op) (t g:Nat) (b:Bool):OpA:=⟨some d,o,t,some (g,b),false,false,false⟩
abbrev t' (n:Nat):Operand:=.tmp n
theorem W_i64 {n:Int} (h:-9223372036854775808<=n/\n < 9223372036854775808):W .i64 n=n:=by
 have e:IntKind.signed .i64=true:=rfl
 have e1:IntKind.bits .i64=64:=rfl
 unfold W IntKind.wrap
 simp only [e,e1,Bool.true_and,decide_eq_true_eq]
 split<;>omega
section
variable {o:R} {b:Bool}
@[simp] theorem gd_true {k:R}:gd true k=k:=rfl
@[simp] theorem kB_mk {b:Bool} {k:Bool->R}:kB (.bool b) k=k b:=rfl
@[simp] theorem kI_mk {j:IntKind} {n:Int} {k:Int->R}:kI j (.int j n) k=k n:=by cases j<;>rfl
@[simp] theorem kS_mk {s:List UInt8} {k:List UInt8->R}:kS (.str s) k=k s:=rfl
@[simp] theorem kL_mk {s:List V} {k:List V->R}:kL (.sl s) k=k s:=rfl
@[simp] theorem kA_mk {s:List V} {k:List V->R}:kA (.agg s) k=k s:=rfl
@[simp] theorem kT_mk {s:List V} {k:List V->R}:kT (.tup s) k=k s:=rfl
@[simp] theorem kF_mk {e:TypeId} {s:List V} {k:List V->R}:kF e (.fr e s) k=k s:=by simp [kF]
@[simp] theorem kP_mk {e:TypeId} {i:Nat} {k:Nat->R}:kP e (.hp e i 0) k=k i:=by simp [kP]
@[simp] theorem kM_mk {e:TypeId} {i:Nat} {k:Nat->R}:kM e (.hm e i) k=k i:=by simp [kM]
@[simp] theorem unc_mk {c:V} {cs:List V} {k:V->List V->R}:unc (c::cs) k=k c cs:=rfl
@[simp] theorem unn_mk {k:R}:unn [] k=k:=rfl
@[simp] theorem opt_mk {α:Type} {x:α} {k:α->R}:opt (some x) k=k x:=rfl
theorem gd_of {k:R} (h:b=true):gd b k=k:=by rw [h];rfl
theorem idxK_of {α:Type} {l:List α} {n:Nat} {x:α} {k:α->R} (h:l[n]? = some x):idxK l n k=k x:=by simp only [idxK,h]
theorem pcK_of {cfg:Cfg} {f:FuncId} {as0:List V} {k:V->R} {v:V} (h:pcW cfg f as0=some v):pcK cfg f as0 k=k v:=by simp only [pcK,h]
@[simp] theorem restK_nil {kn:R} {ks:V->List V->R}:restK [] kn ks=kn:=rfl
@[simp] theorem restK_cons {x:V} {l:List V} {kn:R} {ks:V->List V->R}:restK (x::l) kn ks=ks x l:=rfl
theorem mfK_none {es:List (V × V)} {key:V} {kn:R} {ks:V->R} (h:mapFind es key=some none):mfK es key kn ks=kn:=by simp only [mfK,h]
theorem mfK_of {es:List (V × V)} {key:V} {kn:R} {ks:V->R} {v:V} (h:mapFind es key=some (some v)):mfK es key kn ks=ks v:=by simp only [mfK,h]
end
theorem drop_cons {α:Type} {l r:List α} {k:Nat} {x:α} (h:l.drop k=x::r):l[k]? = some x/\l.drop (k+1)=r/\k < l.length:=by
 have hk:k < l.length:=by
  rcases Nat.lt_or_ge k l.length with h1 | h1
  ·exact h1
  ·rw [List.drop_eq_nil_of_le h1] at h;cases h
 rw [List.drop_eq_getElem_cons hk] at h
 injection h with h1 h2
 exact ⟨by rw [List.getElem?_eq_getElem hk,h1],h2,hk⟩
@[simp] theorem cond_dec {α:Type} {p:Prop} [Decidable p] {a b:α}:(cond (decide p) a b)=if p then a else b:=by
 by_cases h:p<;>simp [h]
@[simp] theorem gd_dec_true {p:Prop} [Decidable p] {k:R}:gd (decide p) k=if p then k else none:=by
 by_cases h:p<;>simp [h,gd]
theorem idxK_map {α:Type} {l:List α} {f:α->V} {n:Nat} {x:α} {k:V->R} (h:l[n]? = some x):idxK (l.map f) n k=k (f x):=by
 simp only [idxK,List.getElem?_map,h,Option.map_some]
theorem idxK_c {α:Type} {l:List α} {f:α->V} {n:Nat} {x:α} {k:V->R} (h:l[n]? = some x):idxK (l.map f) ((n:Int)).toNat k=k (f x):=idxK_map h
theorem wfl_map {α:Type} {l:List α} {f:α->V} {c:Nat} (h:∀x,(f x).cells.length=c):wfl c (l.map f)=true:=by
 simp only [wfl,List.all_map,List.all_eq_true,Function.comp_apply,beq_iff_eq]
 exact fun x _=>h x
theorem flat_map {α:Type} {l:List α} {f:α->V} (h:∀x,(f x).cells.all V.flat1=true):((l.map f).all fun x=>x.cells.all V.flat1)=true:=by
 simp only [List.all_map,List.all_eq_true,Function.comp_apply]
 exact fun x _=>by simpa using h x
theorem toNat_cast (n:Nat):((n:Int)).toNat=n:=by omega
theorem Go.up {kc:KC} {imp:Bool} {n0:Nat} {fa:FA} {P:Nat->Out} {n:Nat} (h:∀k,k < n->Go kc imp n0 fa (P k) (P (k+1))):∀k,k<=n->Go kc imp n0 fa (P k) (P n):=by
 have:∀d k,k+d=n->Go kc imp n0 fa (P k) (P n):=by
  intro d
  induction d with
  | zero=>intro k hk;have:k=n:=by omega
          subst this;exact .refl _
  | succ d ih=>intro k hk;exact (h k (by omega)).trans (ih (k+1) (by omega))
 exact fun k hk=>this (n - k) k (by omega)
section
variable {P:Program} {Z Z':Zs} {w w':World} {j j':J} {mem mem':List O}
theorem run_copy_rowN (w:World) (dT sT ty elem:TypeId) (i:TypeInfo) (g o dLen dCap:Nat) (a:Addr) (sLen sCap:Nat) (cur:Array Value) (t:TypeId) (cs:List Value)
  (hu:P.underlying dT=some (.slice elem)) (hi:P.info? elem=some i)
  (hg:w.heap[g]? = some (.cells cur t (0,0))) (hn:cs.length=Nat.min sLen dLen * i.size)
  (hsrc:∀j v,cs[j]? = some v->w.cell? (a.add j)=some v) (hfit:o+cs.length<=cur.size) (h1:∀v∈cs,v.oneCell'=true) :
  (Builtin.copy_ #[dT,sT] ty #[.slice (some ⟨g,o,none⟩) dLen dCap,.slice (some a) sLen sCap]).run P w =
   .ok (goInt (Nat.min sLen dLen)) (w.setRow g (cur.toList.take o++cs++cur.toList.drop (o+cs.length)).toArray):=by
 have hf:=run_firstCells_some (P:=P) w i.size (Nat.min sLen dLen) a sLen sCap cs hn hsrc
 have hst:=run_storeCells_at P g o t cs 0 cur w hg (by simpa using hfit) h1
 simp only [Nat.add_zero] at hst
 simp [Builtin.copy_,run_underlying hu,Builtin.lenOf,sizeOf,typeInfo,hi,hf,hst]
def spl (us:Array Value) (p:Nat) (vs:List Value):Array Value:=(us.toList.take p++vs++us.toList.drop (p+vs.length)).toArray
theorem spl_size {us:Array Value} {p:Nat} {vs:List Value} (h:p+vs.length<=us.size):(spl us p vs).size=us.size:=by
 simp only [spl,List.size_toArray,List.length_append,List.length_take,List.length_drop,Array.length_toList]
 omega
theorem spl_get {us:Array Value} {p:Nat} {vs:List Value} (h:p+vs.length<=us.size) (o:Nat):(spl us p vs)[o]? = if o < p then us[o]? else if o < p+vs.length then vs[o - p]? else us[o]?:=by
 have hto:(us.toList.take p).length=p:=by simp;omega
 simp only [spl,List.getElem?_toArray,List.append_assoc]
 by_cases h1:o < p
 ·rw [if_pos h1,List.getElem?_append_left (by omega),List.getElem?_take,if_pos h1]
  simp
 ·rw [if_neg h1,List.getElem?_append_right (by omega),hto]
  by_cases h2:o < p+vs.length
  ·rw [if_pos h2,List.getElem?_append_left (by omega)]
  ·rw [if_neg h2,List.getElem?_append_right (by omega),List.getElem?_drop]
   simp only [Array.getElem?_toList]
   congr 1
   omega
theorem row_inplace (s:SR P Z w j mem) {id:Nat} {e:TypeId} {els els':List V} (hm:mem[id]? = some (.row e els 0)) {g q n c:Nat} {us us':Array Value} (hj:j id=some ⟨.slice (some ⟨g,q,none⟩) n c,P.cellsOf e⟩)
  (hg:w.heap[g]? = some (.cells us e (0,0))) (hZ:∀o,¬Z g o) {w1:World} (hg1:w1.heap[g]? = some (.cells us' e (0,0))) (hot:∀k,k≠g->w1.heap[k]? = w.heap[k]?)
  (hos:w1.os=w.os) (htape:w1.tape=w.tape) (hout:w1.output=w.output) (hsz:w1.heap.size=w.heap.size) (hpos:0 < P.cellsOf e) (hall:∀x∈els',x.cells.length=P.cellsOf e) (hlc:els'.length<=c) (hcm:c<=maxLen) (hus:q+c * P.cellsOf e<=us'.size)
  (hcl:∀(k:Nat) (x:V) (i:Nat) (y:V),els'[k]? = some x->x.cells[i]? = some y->y.one=true/\∃u,us'[q+(k * P.cellsOf e+i)]? = some u/\VR Z w j0 y u) :
  PostRow P Z w j mem (mem.set id .dead).length (newRow (mem.set id .dead) e els' 0).2 (.slice (some ⟨g,q,none⟩) els'.length c) w1:=by
 have hlt:id < mem.length:=(List.getElem?_eq_some_iff.1 hm).1
 have hown:Owned Z j mem g:=⟨id,_,hm,rfl,by simp [Blk,O.ar,blkOf,hj,Han.blk]⟩
 have hno:¬Owned Z j (mem.set id .dead) g:=by
  rintro ⟨k,x,hx,hl,hb⟩
  by_cases e':id=k
  ·subst e'
   rw [List.getElem?_set_self hlt] at hx
   cases hx
   cases hl
  ·rw [List.getElem?_set_ne e'] at hx
   exact e' (s.inj id k _ x g hm hx rfl hl (by simp [Blk,O.ar,blkOf,hj,Han.blk]) hb)
 have s1:=s.kill hm
 have hz':ZExt Z w Z w1:=by
  refine .of fun g' o ho=>⟨ho,?_⟩
  by_cases hgg:g'=g
  ·subst hgg;exact (hZ o ho).elim
  ·exact same_block (hot g' hgg) o
 have s2:SR P Z w1 j (mem.set id .dead):=s1.world hz' (fun g' hg'=>⟨hot g' (fun e'=>hno (e' ▸ hg')),fun _=>Iff.rfl⟩) (fun g' o ho=>by rw [hsz];exact s1.zin g' o ho)
 have s3:=s2.add (h:=⟨.slice (some ⟨g,q,none⟩) els'.length c,P.cellsOf e⟩) (o:=.row e els' 0) (fun g' hg'=>by
   simp [Han.blk] at hg';subst hg';exact hno)
  ⟨_,upd_same _ _ _,rfl,hpos,Nat.zero_le _,hall,.inr ⟨g,q,c,us',rfl,hlc,hcm,hg1,hus,fun k x hk i y hy=>by
    obtain ⟨a,u',hu',hv⟩:=hcl k x i y hk hy
    refine ⟨a,u',?_,hv.mono hz' (JExt.refl _)⟩
    rw [cell_heap hg1,<-hu']
    simp only [Nat.add_assoc],fun o ho=>(hZ o ho).elim,fun o ho=>by simp at ho⟩⟩
 refine ⟨Z,_,_,upd_same _ _ _,s3,⟨hos,htape,hout,by omega,fun g' hg' hno'=>⟨hot g' (fun e'=>hno' (e' ▸ hown)),fun _=>Iff.rfl⟩,fun g' hg' ho=>?_,hz',fun t h=>⟨(noA.set hm (fun n e=>by cases e) h).add rfl,rfl⟩⟩,s1.ext _⟩
 ·rcases Owned.add ho with ho | ho
  ·exact (Stp.kill (Z:=Z) (w:=w) (j:=j) hm).owned g' hg' ho
  ·simp [Han.blk] at ho;subst ho;exact hown
theorem modify_push_last {α:Type} (a:Array α) (x:α) (f:α->α):(a.push x).modify a.size f=a.push (f x):=by
 apply Array.ext
 ·simp
 ·intro i h1 h2
  simp only [Array.size_modify,Array.size_push] at h1
  rw [Array.getElem_modify]
  by_cases hi:i < a.size
  ·rw [if_neg (by omega)]
   simp [Array.getElem_push_lt hi]
  ·have:i=a.size:=by omega
   subst this
   simp
theorem setRow_alloc (w:World) (us us':Array Value) (t:TypeId):((w.alloc (.cells us t)).setRow w.heap.size us').heap=w.heap.push (.cells us' t):=by
 unfold World.setRow World.alloc
 simp only
 exact modify_push_last _ _ _
def srcOf (mem:List O) (id:Nat):V->Option (TypeId × List V)
 | .own id2=>if Nat.beq id id2 then none else
  match mem[id2]? with
  | some (.row t xs _)=>some (t,xs)
  | _=>none
 | .lit t xs=>some (t,xs)
 | _=>none
def insP (e:TypeId) (sz:Nat):List V->List O->Option (V × List O)
 | [.own id,.int .i64 i,x],mem =>
  match mem[id]?,srcOf mem id x with
  | some (.row t els 0),some (t2,xs) =>
   if t=e/\t2=e/\wfl sz xs=true/\0 < xs.length/\0<=i/\i.toNat<=els.length/\els.length+xs.length<=16777216 then
    some (newRow (mem.set id .dead) e (els.take i.toNat++xs++els.drop i.toNat) 0)
   else none
  | _,_=>none
 | _,_=>none
structure InsW (P:Program) (f ov:FuncId) (t e tn:TypeId) (kn:IntKind):Prop where
 ht:P.underlying t=some (.slice e)
 htn:P.underlying tn=some (.int kn)
 row:rowTy P e=true
 ovr:∀(w:World) (g g2 o m c2 lb cb:Nat) (us us2:Array Value),g2≠g->w.heap[g]? = some (.cells us e (0,0))->w.heap[g2]? = some (.cells us2 e (0,0))->0 < us.size ->
  (callFunc ov #[.slice (some ⟨g2,0,none⟩) m c2,.slice (some ⟨g,o,none⟩) lb cb]).run P w = .ok (.value (.bool false)) w
 shift:∀(g n c i g2 m c2:Nat) (w w2 w3:World) (k1 k2:Value),i < n->0 < m->n+m<=c->c<=9223372036854775807 ->
  (∀lb cb o,(callFunc ov #[.slice (some ⟨g2,0,none⟩) m c2,.slice (some ⟨g,o,none⟩) lb cb]).run P w = .ok (.value (.bool false)) w) ->
  (∀ty dc sc,(Builtin.copy_ #[t,t] ty #[.slice (some ⟨g,(i+m) * P.cellsOf e,none⟩) (n+m - (i+m)) dc,.slice (some ⟨g,i * P.cellsOf e,none⟩) (n+m - i) sc]).run P w.drew = .ok k1 w2) ->
  (∀ty dc,(Builtin.copy_ #[t,t] ty #[.slice (some ⟨g,i * P.cellsOf e,none⟩) (n+m - i) dc,.slice (some ⟨g2,0,none⟩) m c2]).run P w2 = .ok k2 w3) ->
  Calls P f #[.slice (some ⟨g,0,none⟩) n c,.int .i64 i,.slice (some ⟨g2,0,none⟩) m c2] w fun x w'=>x = .returned (.slice (some ⟨g,0,none⟩) (n+m) c)/\w'=w3
 atEnd:∀(A A2:Option Addr) (n c m c2:Nat) (w w1:World) (r:Value),0 < m->n<=c->c<=9223372036854775807->(A=none->n=0/\c=0)->(∀a,A=some a->∃g,a=⟨g,0,none⟩) ->
  (∀ty,(Builtin.append_ #[t,t] ty #[.slice A n c,.slice A2 m c2]).run P w = .ok r w1) ->
  Calls P f #[.slice A n c,.int .i64 n,.slice A2 m c2] w fun x w'=>x = .returned r/\w'=w1
 grow:∀(g n c i g2 m c2 N G:Nat) (w w1 w2 w3:World) (k1 k2:Value),i < n->0 < m->n<=c->c < n+m->n+m<=16777216->n+m<=G->G<=9223372036854775807 ->
  (∀ty,(Builtin.append_ #[t,tn] ty #[.slice (some ⟨g,0,none⟩) i c,.int .i64 ((n:Int)+(m:Int) - (i:Int))]).run P w = .ok (.slice (some ⟨N,0,none⟩) (n+m) G) w1) ->
  (∀ty dc,(Builtin.copy_ #[t,t] ty #[.slice (some ⟨N,i * P.cellsOf e,none⟩) (n+m - i) dc,.slice (some ⟨g2,0,none⟩) m c2]).run P w1 = .ok k1 w2) ->
  (∀ty dc sc,(Builtin.copy_ #[t,t] ty #[.slice (some ⟨N,(i+m) * P.cellsOf e,none⟩) (n+m - (i+m)) dc,.slice (some ⟨g,i * P.cellsOf e,none⟩) (n - i) sc]).run P w2.drew = .ok k2 w3) ->
  Calls P f #[.slice (some ⟨g,0,none⟩) n c,.int .i64 i,.slice (some ⟨g2,0,none⟩) m c2] w fun x w'=>x = .returned (.slice (some ⟨N,0,none⟩) (n+m) G)/\w'=w3
theorem ins_ok {f ov:FuncId} {t e tn:TypeId} {kn:IntKind} (W:InsW P f ov t e tn kn):ImpOK P fun f' as0 mem=>if f'=f then insP e (P.cellsOf e) as0 mem else none:=by
 intro f' as0 mem r mem' h hok Z w j us s ha
 simp only at h
 by_cases hf:f'=f
 rotate_left
 ·rw [if_neg hf] at h;cases h
 subst hf
 rw [if_pos rfl] at h
 unfold insP at h
 split at h
 rotate_left
 ·cases h
 rename_i id i x2
 split at h
 rotate_left
 ·cases h
 rename_i te els t2 xs hm hm2
 split at h
 rotate_left
 ·cases h
 rename_i hc
 obtain ⟨rfl,rfl,hw,hx0,hi0,hin,hlen⟩:=hc
 cases h
 have hxl:∀x∈xs,x.cells.length=P.cellsOf t2:=fun x hx=>by
  have:=List.all_eq_true.1 hw x hx
  simpa using this
 obtain ⟨hl,hv⟩:=ha
 match us,hl,hv with
 | [u,ui,ux],hl,hv =>
 have hu:=hv 0 (.own id) u rfl rfl
 have hui:=hv 1 (.int .i64 i) ui rfl rfl
 have hux:=hv 2 x2 ux rfl rfl
 cases hui
 obtain ⟨h,hh,h1,h2,h3,h4,h5⟩:=s.obj id _ hm
 have hroom:roomy P t2 (els.length+xs.length)=true:=by simp [roomy,hlen,W.row]
 obtain ⟨_,hby,hpos,inf,z,hinf,his,hib,hz,hzs⟩:=roomy_spec hroom
 cases hu with
 | own hju h00 =>
 rename_i A n c szu
 rw [hju] at hh
 cases hh
 simp only at h1 h2
 subst h1
 have h2:0 < P.cellsOf t2:=h2
 have hel2:elems mem x2=some xs:=by
  cases x2<;>simp only [srcOf] at hm2<;>first | (cases hm2;done) | skip
  ·split at hm2
   ·cases hm2
   ·split at hm2
    ·rename_i hmm;cases hm2;simp only [elems,hmm]
    ·cases hm2
  ·cases hm2;rfl
 obtain ⟨g2,c2,us2,rfl,hg2,hcells2,hgn2⟩:∃g2 c2 us2,ux = .slice (some ⟨g2,0,none⟩) xs.length c2/\w.heap[g2]? = some (.cells us2 t2 (0,0))/\(∀k x,xs[k]? = some x->CellsAt Z w j0 g2 (0+k * P.cellsOf t2) x.cells) /\
   (∀g,blkOf j id=some g->(∀o,¬Z g o)->g2≠g):=by
  cases x2 with
  | own id2 =>
   simp only [srcOf] at hm2
   split at hm2
   ·cases hm2
   ·rename_i hne
    split at hm2
    ·rename_i t2' xs' fz2 hmm
     cases hm2
     obtain ⟨hb,hhb,b1,b2,b3,b4,b5⟩:=s.obj id2 _ hmm
     cases hux with
     | own hjx h01 =>
      rw [hjx] at hhb
      cases hhb
      simp only at b1 b2
      subst b1
      rcases b5 with ⟨hv2,he2⟩ | ⟨g2,q2,cc2,us2,hv2,hlc2,hcm2,hg2,hus2,hcells2,hz21,hz22⟩
      ·subst he2;simp at hx0
      ·simp only at hv2
       cases hv2
       have hq2:q2=0:=h01 _ rfl
       subst hq2
       refine ⟨g2,_,us2,rfl,hg2,hcells2,fun g hg _=>?_⟩
       rintro rfl
       exact hne (by rw [s.inj id id2 _ _ g2 hm hmm rfl rfl hg (by simp [Blk,O.ar,blkOf,hjx,Han.blk])];exact Nat.beq_refl _)
    ·cases hm2
  | lit t' l' =>
   simp only [srcOf] at hm2
   cases hm2
   cases hux with
   | lit hsl hk hz0 =>
    rename_i g2 n2
    have hk:=hk hx0
    have hz0:=hz0 hx0
    simp only [kindOf] at hk
    split at hk
    ·rename_i us2 tt fr hgg
     cases hk
     rcases hsl.slInv with ⟨A,c,he,_⟩ | ⟨g',b',c',sz',he,_,hsz',hh'⟩
     ·subst he;simp at hx0
     ·simp only [Value.slice.injEq,Option.some.injEq,Addr.mk.injEq,and_true,true_and] at he
      obtain ⟨⟨rfl,rfl⟩,hcc⟩:=he
      have e0:xs[0]? = some xs[0]:=List.getElem?_eq_getElem hx0
      have es:sz'=P.cellsOf t2:=by rw [<-(hh' 0 _ e0).1,hxl _ (List.mem_of_getElem? e0)]
      subst es
      refine ⟨g2,_,us2,rfl,hgg,fun k x hk=>(hh' k x hk).2.2,fun g hg hno=>?_⟩
      rintro rfl
      exact hno 0 hz0
    ·cases hk
  | _=>simp [srcOf] at hm2
 ·clear h2
  have hnc:n=els.length/\n<=c/\c<=9223372036854775807/\(A=none->n=0/\c=0)/\(∀a,A=some a->∃g,a=⟨g,0,none⟩):=by
   rcases h5 with ⟨hv1,he1⟩ | ⟨g,q,cc,us1,hv1,hlc,hcm,_⟩
   ·simp only at hv1;cases hv1;subst he1;exact ⟨rfl,Nat.le_refl _,by omega,fun _=>⟨rfl,rfl⟩,(by intro a h;cases h)⟩
   ·simp only at hv1;cases hv1;have hq:q=0:=h00 _ rfl;subst hq;exact ⟨rfl,hlc,by unfold maxLen at hcm;omega,(by intro h;cases h),(by intro a h;cases h;exact ⟨g,rfl⟩)⟩
  obtain ⟨hn,hnc,hc63,hA0,hA1⟩:=hnc
  obtain ⟨ii,rfl⟩:∃ii:Nat,i=(ii:Int):=⟨i.toNat,by omega⟩
  have eii:((ii:Int)).toNat=ii:=by omega
  rw [eii] at hin |-
  by_cases hend:ii=els.length
  ·-- at the end
   have hap:appendM P mem t (.own id) x2=some (newRow (mem.set id .dead) t2 (els++xs) 0):=by
    have hel3:elemsS mem x2=some xs:=by cases x2<;>first | exact hel2 | (cases hel2)
    simp only [appendM,elemOf,W.ht,Option.bind_some,hel3,hm,hroom,and_self,if_true]
    have:(xs.all fun y=>y.cells.length==P.cellsOf t2)=true:=hw
    rw [if_pos this]
   obtain ⟨r1,w1,hr,hpost⟩:=append_sound (t:=t) (tx:=t) (ty:=t) (u:=.slice A n c) (ux:=.slice (some ⟨g2,0,none⟩) xs.length c2) s (by cases x2<;>first | (simp [appTy];done) | (cases hel2)) hap (.own hju h00) hux
   have hr':∀ty,(Builtin.append_ #[t,t] ty #[.slice A n c,.slice (some ⟨g2,0,none⟩) xs.length c2]).run P w = .ok r1 w1:=fun ty=>hr
   have e1:els.take ii++xs++els.drop ii=els++xs:=by rw [hend];simp
   rw [e1]
   have hcall:=W.atEnd A (some ⟨g2,0,none⟩) n c xs.length c2 w w1 r1 hx0 hnc hc63 hA0 hA1 hr'
   have e2:ii=n:=by omega
   subst e2
   exact hcall.mono fun x w' hxw=>by
    obtain ⟨rfl,rfl⟩:=hxw
    exact ⟨r1,rfl,hpost⟩
  ·have hlt:ii < els.length:=by omega
   rcases h5 with ⟨hv1,he1⟩ | ⟨g,q,cc,us1,hv1,hlc,hcm,hg,hus,hcells,hz1,hz2⟩
   ·subst he1;simp at hlt
   ·simp only at hv1
    cases hv1
    have hq:q=0:=h00 _ rfl
    subst hq
    have hus:c * P.cellsOf t2<=us1.size:=by simpa using hus
    have hZ:∀o,¬Z g o:=fun o ho=>by have:=(hz1 o ho).1;omega
    have hgne:g2≠g:=hgn2 g (by simp [blkOf,hju,Han.blk]) hZ
    obtain ⟨news,hnl,hnc',hnr⟩:=flat_cells hpos hxl hcells2
    obtain ⟨olds,hol,hoc,hor⟩:=flat_cells hpos h4 hcells
    have hn1:∀v∈news,v.oneCell'=true:=fun v hv=>by
     obtain ⟨k,hk,rfl⟩:=List.getElem_of_mem hv
     exact (hnc' k _ (List.getElem?_eq_getElem hk)).2
    have ho1:∀v∈olds.drop (ii * P.cellsOf t2),v.oneCell'=true:=fun v hv=>by
     obtain ⟨k,hk,rfl⟩:=List.getElem_of_mem (List.mem_of_mem_drop hv)
     exact (hoc k _ (List.getElem?_eq_getElem hk)).2
    have hdl:(olds.drop (ii * P.cellsOf t2)).length=(els.length - ii) * P.cellsOf t2:=by
     rw [List.length_drop,hol,<-Nat.sub_mul]
    have hget:∀k u,(olds.drop (ii * P.cellsOf t2))[k]? = some u->w.cell? ((⟨g,ii * P.cellsOf t2,none⟩:Addr).add k)=some u:=fun k u hk=>by
     rw [List.getElem?_drop] at hk
     have:=(hoc _ u hk).1
     rw [Addr.add_lit] at this |-
     rw [<-this]
     congr 2
     omega
    have hmul1:ii * P.cellsOf t2<=els.length * P.cellsOf t2:=Nat.mul_le_mul_right _ hin
    have hM:(els.length+xs.length) * P.cellsOf t2=els.length * P.cellsOf t2+xs.length * P.cellsOf t2:=Nat.add_mul _ _ _
    have hIM:(ii+xs.length) * P.cellsOf t2=ii * P.cellsOf t2+xs.length * P.cellsOf t2:=Nat.add_mul _ _ _
    have hDD:(els.length - ii) * P.cellsOf t2=els.length * P.cellsOf t2 - ii * P.cellsOf t2:=Nat.sub_mul _ _ _
    have hall:∀x∈els.take ii++xs++els.drop ii,x.cells.length=P.cellsOf t2:=fun x hx=>by
     simp only [List.mem_append] at hx
     rcases hx with (hx | hx) | hx
     ·exact h4 x (List.mem_of_mem_take hx)
     ·exact hxl x hx
     ·exact h4 x (List.mem_of_mem_drop hx)
    have hlen':(els.take ii++xs++els.drop ii).length=els.length+xs.length:=by simp;omega
    have key:∀(F:Array Value) (D:Array Value),(∀o,o < ii * P.cellsOf t2->F[o]? = olds[o]?)->(∀o,o < xs.length * P.cellsOf t2->F[ii * P.cellsOf t2+o]? = news[o]?)->(∀o,o < (els.length - ii) * P.cellsOf t2->F[(ii+xs.length) * P.cellsOf t2+o]? = olds[ii * P.cellsOf t2+o]?) ->
      ∀(k:Nat) (x:V) (q:Nat) (y:V),(els.take ii++xs++els.drop ii)[k]? = some x->x.cells[q]? = some y->y.one=true/\∃u,F[k * P.cellsOf t2+q]? = some u/\VR Z w j0 y u:=by
     intro F _ f1 f2 f3 k x q y hk hy
     have hq:q < P.cellsOf t2:=by rw [<-hall x (List.mem_of_getElem? hk)];exact (List.getElem?_eq_some_iff.1 hy).1
     by_cases k1:k < ii
     ·rw [List.append_assoc,List.getElem?_append_left (by simp;omega),List.getElem?_take,if_pos k1] at hk
      obtain ⟨a,u',hu',hvr⟩:=hor k x q y hk hy
      refine ⟨a,u',?_,hvr⟩
      rw [f1 _ ?_]
      ·exact hu'
      ·have:(k+1) * P.cellsOf t2<=ii * P.cellsOf t2:=Nat.mul_le_mul_right _ k1
       rw [Nat.succ_mul] at this
       omega
     ·by_cases k2:k < ii+xs.length
      ·rw [List.append_assoc,List.getElem?_append_right (by simp;omega),List.getElem?_append_left (by simp;omega)] at hk
       have e3:k - (els.take ii).length=k - ii:=by simp;omega
       rw [e3] at hk
       obtain ⟨a,u',hu',hvr⟩:=hnr _ x q y hk hy
       refine ⟨a,u',?_,hvr⟩
       have e4:k * P.cellsOf t2+q=ii * P.cellsOf t2+((k - ii) * P.cellsOf t2+q):=by
        have:k * P.cellsOf t2=ii * P.cellsOf t2+(k - ii) * P.cellsOf t2:=by rw [<-Nat.add_mul];congr 1;omega
        omega
       rw [e4,f2 _ ?_]
       ·exact hu'
       ·have:(k - ii+1) * P.cellsOf t2<=xs.length * P.cellsOf t2:=Nat.mul_le_mul_right _ (by omega)
        rw [Nat.succ_mul] at this
        omega
      ·rw [List.getElem?_append_right (by simp;omega)] at hk
       have e3:k - (els.take ii++xs).length=k - ii - xs.length:=by simp;omega
       rw [e3,List.getElem?_drop] at hk
       have hkl:=(List.getElem?_eq_some_iff.1 hk).1
       obtain ⟨a,u',hu',hvr⟩:=hor _ x q y hk hy
       refine ⟨a,u',?_,hvr⟩
       have e4:k * P.cellsOf t2+q=(ii+xs.length) * P.cellsOf t2+((k - ii - xs.length) * P.cellsOf t2+q):=by
        have:k * P.cellsOf t2=(ii+xs.length) * P.cellsOf t2+(k - ii - xs.length) * P.cellsOf t2:=by rw [<-Nat.add_mul];congr 1;omega
        omega
       rw [e4,f3 _ ?_]
       ·rw [<-hu']
        congr 1
        have:(ii+(k - ii - xs.length)) * P.cellsOf t2=ii * P.cellsOf t2+(k - ii - xs.length) * P.cellsOf t2:=Nat.add_mul _ _ _
        omega
       ·have:(k - ii - xs.length+1) * P.cellsOf t2<=(els.length - ii) * P.cellsOf t2:=Nat.mul_le_mul_right _ (by omega)
        rw [Nat.succ_mul] at this
        omega
    have hold:∀o,o < els.length * P.cellsOf t2->us1[o]? = olds[o]?:=fun o ho=>by
     have hlt':o < olds.length:=by omega
     have hc0:=(hoc o _ (List.getElem?_eq_getElem hlt')).1
     rw [Addr.add_lit,cell_heap hg] at hc0
     rw [List.getElem?_eq_getElem hlt',<-hc0]
     congr 1
     simp
    by_cases hfit:els.length+xs.length<=c
    ·-- in place
     have hfitm:(els.length+xs.length) * P.cellsOf t2<=c * P.cellsOf t2:=Nat.mul_le_mul_right _ hfit
     have p1:(ii+xs.length) * P.cellsOf t2+(olds.drop (ii * P.cellsOf t2)).length<=us1.size:=by rw [hdl];omega
     have hcp1:∀ty dc sc,(Builtin.copy_ #[t,t] ty #[.slice (some ⟨g,(ii+xs.length) * P.cellsOf t2,none⟩) (els.length+xs.length - (ii+xs.length)) dc,.slice (some ⟨g,ii * P.cellsOf t2,none⟩) (els.length+xs.length - ii) sc]).run P w.drew =
       .ok (goInt (els.length - ii:Nat)) (w.drew.setRow g (spl us1 ((ii+xs.length) * P.cellsOf t2) (olds.drop (ii * P.cellsOf t2)))):=fun ty dc sc=>by
      have hmin:Nat.min (els.length+xs.length - ii) (els.length+xs.length - (ii+xs.length))=els.length - ii:=by simp only [Nat.min_def];split<;>omega
      have:=run_copy_rowN (P:=P) w.drew t t ty t2 inf g ((ii+xs.length) * P.cellsOf t2) (els.length+xs.length - (ii+xs.length)) dc ⟨g,ii * P.cellsOf t2,none⟩ (els.length+xs.length - ii) sc us1 t2 (olds.drop (ii * P.cellsOf t2)) W.ht hinf hg (by rw [hmin,hdl,his]) hget p1 ho1
      rw [hmin] at this
      exact this
     obtain ⟨F1,hF1⟩:∃F1,F1=spl us1 ((ii+xs.length) * P.cellsOf t2) (olds.drop (ii * P.cellsOf t2)):=⟨_,rfl⟩
     have sF1:F1.size=us1.size:=by rw [hF1];exact spl_size p1
     rw [<-hF1] at hcp1
     have hgF:(w.drew.setRow g F1).heap[g]? = some (.cells F1 t2 (0,0)):=setRow_heap w.drew g us1 F1 t2 (0,0) hg
     have p2:ii * P.cellsOf t2+news.length<=F1.size:=by rw [sF1,hnl];omega
     have hcp2:∀ty dc,(Builtin.copy_ #[t,t] ty #[.slice (some ⟨g,ii * P.cellsOf t2,none⟩) (els.length+xs.length - ii) dc,.slice (some ⟨g2,0,none⟩) xs.length c2]).run P (w.drew.setRow g F1) =
       .ok (goInt xs.length) ((w.drew.setRow g F1).setRow g (spl F1 (ii * P.cellsOf t2) news)):=fun ty dc=>by
      have hmin:Nat.min xs.length (els.length+xs.length - ii)=xs.length:=by simp only [Nat.min_def];split<;>omega
      have:=run_copy_rowN (P:=P) (w.drew.setRow g F1) t t ty t2 inf g (ii * P.cellsOf t2) (els.length+xs.length - ii) dc ⟨g2,0,none⟩ xs.length c2 F1 t2 news W.ht hinf hgF (by rw [hmin,hnl,his]) (fun k u hk=>by
       have:=(hnc' k u hk).1
       rw [Addr.add_lit] at this |-
       rw [<-this]
       exact World.cell?_of_block (a:=⟨g2,0+k,none⟩) (setRow_other w.drew g g2 F1 hgne)) p2 hn1
      rw [hmin] at this
      exact this
     have hcall:=W.shift g els.length c ii g2 xs.length c2 w _ _ _ _ hlt hx0 hfit hc63 (fun lb cb o=>W.ovr w g g2 o xs.length c2 lb cb us1 us2 hgne hg hg2 (Nat.lt_of_lt_of_le (Nat.lt_of_lt_of_le (Nat.mul_pos (by omega) hpos) hfitm) hus)) hcp1 hcp2
     refine hcall.mono fun x w' hxw=>?_
     obtain ⟨rfl,rfl⟩:=hxw
     refine ⟨_,rfl,?_⟩
     rw [setRow_setRow]
     have hk0:=key (spl F1 (ii * P.cellsOf t2) news) #[] (fun o ho=>by
        rw [spl_get p2,if_pos ho,hF1,spl_get p1,if_pos (by omega)]
        exact hold o (by omega))
       (fun o ho=>by
        rw [spl_get p2,if_neg (by omega),if_pos (by rw [hnl];omega)]
        congr 1
        omega)
       (fun o ho=>by
        rw [spl_get p2,if_neg (by omega),if_neg (by rw [hnl];omega),hF1,spl_get p1,if_neg (by omega),if_pos (by rw [hdl];omega),List.getElem?_drop]
        congr 1
        omega)
     have hp:=row_inplace (els':=els.take ii++xs++els.drop ii) s hm hju hg hZ (w1:=w.drew.setRow g (spl F1 (ii * P.cellsOf t2) news)) (setRow_heap w.drew g us1 _ t2 (0,0) hg) (fun k hk=>setRow_other w.drew g k _ hk) rfl rfl rfl
      (by show (w.heap.modify g _).size=w.heap.size;simp) hpos hall (by rw [hlen'];exact hfit) hcm (by rw [spl_size p2,sF1,Nat.zero_add];exact hus)
      (fun k x i y hk hy=>by rw [Nat.zero_add];exact hk0 k x i y hk hy)
     rw [hlen'] at hp
     exact hp.own (fun a ha=>by cases ha;rfl)
    ·-- a new block
     have hgrow:c < els.length+xs.length:=by omega
     have hbytes:(els.length+xs.length) * inf.bytes<=140737488355328:=by
      rw [hib]
      exact Nat.le_trans (Nat.mul_le_mul hlen hby) (by decide)
     obtain ⟨G,hG⟩:∃G,G=grownCap w (els.length+xs.length) c t2:=⟨_,rfl⟩
     have hGn:els.length+xs.length<=G:=by rw [hG];exact grownCap_ge w _ _ _
     have hGm:G<=maxLen:=by rw [hG];exact grownCap_le_maxLen w _ c t2 (by simp only [maxLen];omega)
     have htk:(olds.take (ii * P.cellsOf t2)).length=ii * P.cellsOf t2:=by rw [List.length_take,hol];omega
     have hfc:(Builtin.firstCells inf.size ii (.slice (some ⟨g,0,none⟩) ii c)).run P w.drew = .ok (olds.take (ii * P.cellsOf t2)).toArray w.drew :=
      run_firstCells_some w.drew inf.size ii ⟨g,0,none⟩ ii c _ (by rw [htk,his]) (fun k v hk=>by
       rw [List.getElem?_take] at hk
       split at hk
       ·exact (hoc k v hk).1
       ·cases hk)
     have hik:ii+(els.length+xs.length - ii)=els.length+xs.length:=by omega
     obtain ⟨ROW,hROW⟩:∃ROW:Array Value,ROW=(olds.take (ii * P.cellsOf t2)).toArray++Builtin.zeroCells z.cells (els.length+xs.length - ii)++Builtin.zeroCells z.cells (G - (els.length+xs.length)):=⟨_,rfl⟩
     have hRs:ROW.size=G * P.cellsOf t2:=by
      rw [hROW]
      simp only [Array.size_append,List.size_toArray,size_zeroCells,htk,hzs,<-Nat.add_mul]
      congr 1
      omega
     have hRl:(els.length+xs.length) * P.cellsOf t2<=ROW.size:=by rw [hRs];exact Nat.mul_le_mul_right _ hGn
     have hrz:∀ty,(Builtin.append_ #[t,tn] ty #[.slice (some ⟨g,0,none⟩) ii c,.int .i64 ((els.length:Int)+(xs.length:Int) - (ii:Int))]).run P w =
       .ok (.slice (some ⟨w.heap.size,0,none⟩) (els.length+xs.length) G) (w.drew.alloc (.cells ROW t2)):=fun ty=>by
      have hh:=Lib.run_append_grow_zeros w t tn ty t2 inf z .i64 kn W.ht W.htn hinf hz (some ⟨g,0,none⟩) ii c _ hfc (els.length+xs.length - ii) (by omega) (by rw [his];exact hpos) (by omega) (by omega) (by
       have h7:(els.length+xs.length - ii) * inf.bytes<=(els.length+xs.length) * inf.bytes:=Nat.mul_le_mul_right _ (by omega)
       omega) (by rw [hik];exact growslice_fits hgrow hbytes)
      rw [hik] at hh
      rw [show (els.length:Int)+(xs.length:Int) - (ii:Int)=((els.length+xs.length - ii:Nat):Int) by omega,hh,hROW,hG]
     have hgW:(w.drew.alloc (.cells ROW t2)).heap[w.heap.size]? = some (.cells ROW t2 (0,0)):=heap_alloc_new w.drew _
     have hgl:g < w.heap.size:=(Array.getElem?_eq_some_iff.1 hg).1
     have hgl2:g2 < w.heap.size:=(Array.getElem?_eq_some_iff.1 hg2).1
     have hoth:∀k,k < w.heap.size->(w.drew.alloc (.cells ROW t2)).heap[k]? = w.heap[k]?:=fun k hk=>by
      show (w.heap.push _)[k]? = _
      rw [Array.getElem?_push_lt hk,Array.getElem?_eq_getElem hk]
     have p2:ii * P.cellsOf t2+news.length<=ROW.size:=by rw [hnl];omega
     have hcpA:∀ty dc,(Builtin.copy_ #[t,t] ty #[.slice (some ⟨w.heap.size,ii * P.cellsOf t2,none⟩) (els.length+xs.length - ii) dc,.slice (some ⟨g2,0,none⟩) xs.length c2]).run P (w.drew.alloc (.cells ROW t2)) =
       .ok (goInt xs.length) ((w.drew.alloc (.cells ROW t2)).setRow w.heap.size (spl ROW (ii * P.cellsOf t2) news)):=fun ty dc=>by
      have hmin:Nat.min xs.length (els.length+xs.length - ii)=xs.length:=by simp only [Nat.min_def];split<;>omega
      have:=run_copy_rowN (P:=P) (w.drew.alloc (.cells ROW t2)) t t ty t2 inf w.heap.size (ii * P.cellsOf t2) (els.length+xs.length - ii) dc ⟨g2,0,none⟩ xs.length c2 ROW t2 news W.ht hinf hgW (by rw [hmin,hnl,his]) (fun k u hk=>by
       have:=(hnc' k u hk).1
       rw [Addr.add_lit] at this |-
       rw [<-this]
       exact World.cell?_of_block (a:=⟨g2,0+k,none⟩) (hoth g2 hgl2)) p2 hn1
      rw [hmin] at this
      exact this
     obtain ⟨F1,hF1⟩:∃F1,F1=spl ROW (ii * P.cellsOf t2) news:=⟨_,rfl⟩
     have sF1:F1.size=ROW.size:=by rw [hF1];exact spl_size p2
     rw [<-hF1] at hcpA
     have hgF:((w.drew.alloc (.cells ROW t2)).setRow w.heap.size F1).drew.heap[w.heap.size]? = some (.cells F1 t2 (0,0)):=setRow_heap _ w.heap.size ROW F1 t2 (0,0) hgW
     have p1:(ii+xs.length) * P.cellsOf t2+(olds.drop (ii * P.cellsOf t2)).length<=F1.size:=by rw [hdl,sF1];omega
     have hcpB:∀ty dc sc,(Builtin.copy_ #[t,t] ty #[.slice (some ⟨w.heap.size,(ii+xs.length) * P.cellsOf t2,none⟩) (els.length+xs.length - (ii+xs.length)) dc,.slice (some ⟨g,ii * P.cellsOf t2,none⟩) (els.length - ii) sc]).run P ((w.drew.alloc (.cells ROW t2)).setRow w.heap.size F1).drew =
       .ok (goInt (els.length - ii:Nat)) (((w.drew.alloc (.cells ROW t2)).setRow w.heap.size F1).drew.setRow w.heap.size (spl F1 ((ii+xs.length) * P.cellsOf t2) (olds.drop (ii * P.cellsOf t2)))):=fun ty dc sc=>by
      have hmin:Nat.min (els.length - ii) (els.length+xs.length - (ii+xs.length))=els.length - ii:=by simp only [Nat.min_def];split<;>omega
      have:=run_copy_rowN (P:=P) ((w.drew.alloc (.cells ROW t2)).setRow w.heap.size F1).drew t t ty t2 inf w.heap.size ((ii+xs.length) * P.cellsOf t2) (els.length+xs.length - (ii+xs.length)) dc ⟨g,ii * P.cellsOf t2,none⟩ (els.length - ii) sc F1 t2 (olds.drop (ii * P.cellsOf t2)) W.ht hinf hgF (by rw [hmin,hdl,his]) (fun k u hk=>by
       have:=hget k u hk
       rw [Addr.add_lit] at this |-
       rw [<-this]
       refine World.cell?_of_block (a:=⟨g,ii * P.cellsOf t2+k,none⟩) ?_
       exact (setRow_other (w.drew.alloc (.cells ROW t2)) w.heap.size g F1 (by omega)).trans (hoth g hgl)) p1 ho1
      rw [hmin] at this
      exact this
     have hcall:=W.grow g els.length c ii g2 xs.length c2 w.heap.size G w _ _ _ _ _ hlt hx0 hnc hgrow hlen hGn (by unfold maxLen at hGm;omega) hrz hcpA hcpB
     refine hcall.mono fun x w' hxw=>?_
     obtain ⟨rfl,rfl⟩:=hxw
     refine ⟨_,rfl,?_⟩
     have hheap:(((w.drew.alloc (.cells ROW t2)).setRow w.heap.size F1).drew.setRow w.heap.size (spl F1 ((ii+xs.length) * P.cellsOf t2) (olds.drop (ii * P.cellsOf t2)))).heap=w.heap.push (.cells (spl F1 ((ii+xs.length) * P.cellsOf t2) (olds.drop (ii * P.cellsOf t2))) t2):=by
      show (((w.drew.alloc (.cells ROW t2)).setRow w.heap.size F1).setRow w.heap.size _).heap=_
      rw [setRow_setRow]
      exact setRow_alloc w.drew ROW _ t2
     have hp:=row_sound (fz:=0) (els:=els.take ii++xs++els.drop ii) (c:=G) (s.kill hm) hheap rfl rfl rfl hpos hall (Nat.zero_le _) (by rw [hlen'];exact hGn) hGm (by rw [spl_size p1,sF1,hRs])
      (key _ #[] (fun o ho=>by
        rw [spl_get p1,if_pos (by omega),hF1,spl_get p2,if_pos ho,hROW,Array.append_assoc,Array.getElem?_append_left (by simpa [htk] using ho)]
        simp only [List.getElem?_toArray,List.getElem?_take,if_pos ho])
       (fun o ho=>by
        rw [spl_get p1,if_pos (by omega),hF1,spl_get p2,if_neg (by omega),if_pos (by rw [hnl];omega)]
        congr 1
        omega)
       (fun o ho=>by
        rw [spl_get p1,if_neg (by omega),if_pos (by rw [hdl];omega),List.getElem?_drop]
        congr 1
        omega))
     rw [hlen'] at hp
     exact hp.stp (Stp.kill hm)
structure DelW (P:Program) (f:FuncId) (t e:TypeId):Prop where
 ht:P.underlying t=some (.slice e)
 row:rowTy P e=true
 z1:∀i z,P.info? e=some i->i.zero=some z->∀v∈z.cells.toList,v.oneCell'=true
 same:∀(A:Option Addr) (n c i:Nat) (w:World),i<=n->n<=c->c<=9223372036854775807->(A=none->n=0/\c=0)->(∀a,A=some a->∃g q,a=⟨g,q,none⟩) ->
  Calls P f #[.slice A n c,.int .i64 i,.int .i64 i] w fun x w'=>x = .returned (.slice A n c)/\w'=w
 cut:∀(g q n c i jj:Nat) (w w2 w3:World) (k:Value),i < jj->jj<=n->n<=c->c<=9223372036854775807 ->
  (∀ty A cp,(jj < n->A=some ⟨g,q+jj * P.cellsOf e,none⟩)->(Builtin.append_ #[t,t] ty #[.slice (some ⟨g,q,none⟩) i c,.slice A (n - jj) cp]).run P w.drew = .ok (.slice (some ⟨g,q,none⟩) (i+(n - jj)) c) w2) ->
  (∀ty cp,(Builtin.clear_ #[t] ty #[.slice (some ⟨g,q+(i+(n - jj)) * P.cellsOf e,none⟩) (n - (i+(n - jj))) cp]).run P w2 = .ok k w3) ->
  Calls P f #[.slice (some ⟨g,q,none⟩) n c,.int .i64 i,.int .i64 jj] w fun x w'=>x = .returned (.slice (some ⟨g,q,none⟩) (i+(n - jj)) c)/\w'=w3
def cloneP (e:TypeId) (sz:Nat):List V->Option V
 | [.sl l]=>if wfl sz l=true/\(l.all fun x=>x.cells.all V.flat1)=true/\l.length<=16777216 then some (.fr e l) else none
 | _=>none
structure CloneW (P:Program) (f:FuncId) (t e:TypeId):Prop where
 ht:P.underlying t=some (.slice e)
 row:rowTy P e=true
 atNil:∀(n c:Nat) (w:World),Calls P f #[.slice none n c] w fun x w'=>x = .returned (.slice none 0 0)/\w'=w
 atSome:∀(g b n c:Nat) (w w2:World) (r:Value),
  (∀ty,(Builtin.append_ #[t,t] ty #[.slice (some ⟨w.heap.size,0,none⟩) 0 0,.slice (some ⟨g,b,none⟩) n c]).run P (w.alloc (.cells #[] e)) = .ok r w2) ->
  Calls P f #[.slice (some ⟨g,b,none⟩) n c] w fun x w'=>x = .returned r/\w'=w2
 atZero:∀(a:Addr) (c:Nat) (w:World),Calls P f #[.slice (some a) 0 c] w fun x w'=>x = .returned (.slice (some ⟨w.heap.size,0,none⟩) 0 0)/\w'=w.alloc (.cells #[] e)
theorem clone_ok {f:FuncId} {t e:TypeId} (W:CloneW P f t e):PureOK P fun f' as0=>if f'=f then cloneP e (P.cellsOf e) as0 else none:=by
 intro f' as0 r h hok Z w us hzin ha
 simp only at h
 by_cases hf:f'=f
 rotate_left
 ·rw [if_neg hf] at h;cases h
 subst hf
 rw [if_pos rfl] at h
 unfold cloneP at h
 split at h
 rotate_left
 ·cases h
 rename_i l
 split at h
 rotate_left
 ·cases h
 rename_i hc
 obtain ⟨hw,hfl,hlen⟩:=hc
 cases h
 have hroom:roomy P e (([]:List V).length+l.length)=true:=by simp [roomy,hlen,W.row]
 obtain ⟨_,hby,hpos,inf,z,hinf,his,hib,hz,hzs⟩:=roomy_spec hroom
 have hxl:∀x∈l,x.cells.length=P.cellsOf e:=fun x hx=>by
  have:=List.all_eq_true.1 hw x hx
  simpa using this
 have hflat:∀x∈l,∀y∈x.cells,y.flat1=true:=fun x hx y hy=>List.all_eq_true.1 (List.all_eq_true.1 hfl x hx) y hy
 obtain ⟨hl,hv⟩:=ha
 match us,hl,hv with
 | [u],hl,hv =>
 have hu:=hv 0 (.sl l) u rfl rfl
 have s:SR P Z w j0 []:=⟨fun id o h=>by simp at h,fun id id' o o' g h=>by simp at h,fun _ _=>rfl,hzin⟩
 have hp:=row_sound (P:=P) (Z:=Z) (w:=w) (j:=j0) (mem:=[]) (w1:=w.alloc (.cells #[] e)) (t:=e) (us:=#[]) (els:=[]) (fz:=0) (c:=0) s rfl rfl rfl rfl hpos (by simp) (Nat.le_refl _) (Nat.le_refl _) (by simp) (by simp) (fun k x i y hk=>by simp at hk)
 obtain ⟨Z1,j1,a1,a2,a3,a4⟩:=hp
 have fin:∀(Z2:Zs) (w2:World) (j2:J) (mem2:List O) (id:Nat) (u2:Value),SR P Z2 w2 j2 mem2->Stp Z w j0 [] Z2 w2 j2 mem2->VR Z2 w2 j2 (.own id) u2->mem2[id]? = some (.row e l 0)->RR P Z2 w w2 (.fr e l) u2/\StpP Z w Z2 w2:=by
  intro Z2 w2 j2 mem2 id u2 e3 e4 hv2 hm2
  have st0:StpP Z w Z2 w2:=⟨e4.os,e4.tape,e4.output,e4.size,fun g hg=>e4.keep g hg owned_nil,e3.zin,funext fun t=>(e4.ar t fun id o n ho=>by simp at ho).2,e4.z.i⟩
  refine ⟨?_,st0⟩
  obtain ⟨hn,hh,hrow⟩:=e3.obj id _ hm2
  cases hv2 with
  | own hj h00 =>
   rw [hj] at hh;cases hh
   have h1:=hrow.1
   simp only at h1
   subst h1
   refine ⟨_,_,_,rfl,hrow,hflat,fun g hg=>?_,h00⟩
   have ho:Owned Z2 j2 mem2 g:=⟨id,_,hm2,rfl,(Blk.plain rfl).2 (by simpa [blkOf,hj] using hg)⟩
   refine ⟨?_,Owned.lt e3 ho⟩
   rcases Nat.lt_or_ge g w.heap.size with hlt | hge
   ·exact (owned_nil (e4.owned g hlt ho)).elim
   ·exact hge
 rcases hu.slInv with ⟨A,c,rfl,rfl⟩ | ⟨g,b,c,sz,rfl,_⟩
 ·cases A with
  | none =>
   refine (W.atNil 0 c w).mono fun x w' hxw=>?_
   obtain ⟨rfl,rfl⟩:=hxw
   exact ⟨_,Z,rfl,⟨none,0,0,rfl,⟨rfl,hpos,Nat.le_refl _,by simp,.inl ⟨rfl,rfl⟩⟩,by simp,fun g hg=>by simp [Han.blk] at hg,fun a ha=>by cases ha⟩,⟨rfl,rfl,rfl,Nat.le_refl _,fun g hg=>⟨rfl,fun o=>Iff.rfl⟩,hzin,rfl,rfl⟩⟩
  | some a =>
   refine (W.atZero a c w).mono fun x w' hxw=>?_
   obtain ⟨rfl,rfl⟩:=hxw
   obtain ⟨f1,f2⟩:=fin Z1 _ j1 _ 0 _ a2 a3 a1 rfl
   exact ⟨_,Z1,rfl,f1,f2⟩
 ·have hx:VR Z1 (w.alloc (.cells #[] e)) j1 (.sl l) (.slice (some ⟨g,b,none⟩) l.length c):=hu.mono a3.z (JExt.zero _)
  have hap:appendM P (newRow [] e [] 0).2 t (.own 0) (.sl l)=some (newRow ((newRow [] e [] 0).2.set 0 .dead) e ([]++l) 0):=by
   have hw':(l.all fun y=>y.cells.length==P.cellsOf e)=true:=hw
   simp only [appendM,elemOf,W.ht,Option.bind_some,elemsS,elems,hw',if_true]
   simp only [newRow,List.length_nil,List.nil_append,List.getElem?_cons_zero]
   rw [if_pos ⟨trivial,by simpa using hroom⟩]
  obtain ⟨r2,w2,hr,hpost⟩:=append_sound (t:=t) (tx:=t) (ty:=t) a2 (by simp [appTy]) hap a1 hx
  obtain ⟨Z2,j2,b1,b2,b3,b4⟩:=hpost
  refine (W.atSome g b l.length c w w2 r2 (fun ty=>hr)).mono fun x w' hxw=>?_
  obtain ⟨rfl,rfl⟩:=hxw
  obtain ⟨f1,f2⟩:=fin Z2 _ j2 _ 1 _ b2 (a3.trans b3) b1 rfl
  exact ⟨_,Z2,rfl,f1,f2⟩
def insK (e:TypeId) (sz:Nat) (args:List V) (mem:List O) (k:V->List O->R):R :=
 match args with
 | [.own id,.int .i64 i,x] =>
  match mem[id]?,srcOf mem id x with
  | some (.row t els 0),some (t2,xs)=>gd (t==e && t2==e)<|gd (wfl sz xs)<|gd (Nat.blt 0 xs.length) <|
    gd (decide (0<=i/\i.toNat<=els.length/\els.length+xs.length<=16777216)) (k (.own (mem.set id .dead).length) (mem.set id .dead++[.row e (els.take i.toNat++xs++els.drop i.toNat) 0]))
  | _,_=>none
 | _=>none
theorem insK_some {e:TypeId} {sz:Nat} {args:List V} {mem:List O} {k:V->List O->R} {r:Out} (h:insK e sz args mem k=some r):∃v m,insP e sz args mem=some (v,m)/\k v m=some r:=by
 unfold insK at h
 split at h
 ·split at h
  ·rename_i hm hm2
   obtain ⟨p1,h⟩:=gd_some h
   obtain ⟨p2,h⟩:=gd_some h
   obtain ⟨p3,h⟩:=gd_some h
   obtain ⟨p4,h⟩:=gd_some h
   simp only [Bool.and_eq_true,beq_iff_eq] at p1
   obtain ⟨a1,a2⟩:=p1
   have p4:=of_decide_eq_true p4
   refine ⟨_,_,?_,h⟩
   unfold insP
   simp only [hm,hm2]
   rw [if_pos ⟨a1,a2,p2,(by simpa [Nat.blt_eq] using p3),p4.1,p4.2.1,p4.2.2⟩]
   rfl
  ·cases h
 ·cases h
end
def Zall (w:World):Zs:=⟨fun g _=>g < w.heap.size,fun _ _=>none,fun _=>none⟩
def contig (P:Program):Nat->List Field->Nat->Bool
 | off,[],tot=>off==tot
 | off,f::fs,tot=>f.offset==off && contig P (off+P.cellsOf f.type) fs tot
def okT (P:Program):Nat->TypeId->Bool
 | 0,_=>false
 | n+1,t=>match P.underlying t with
  | some .bool | some (.int _) | some .string=>true
  | some (.slice e)=>okT P n e && decide (0 < P.cellsOf e)
  | some (.struct fs)=>contig P 0 fs.toList (P.cellsOf t) && fs.toList.all fun f=>okT P n f.type
  | some (.array len e)=>okT P n e && P.cellsOf t==len * P.cellsOf e
  | _=>false
def TyC (P:Program):Nat->TypeId->List V->Prop
 | 0,_,_=>False
 | n+1,t,vs=>match P.underlying t with
  | some .bool=>∃b,vs=[.bool b]
  | some (.int k)=>∃m,vs=[.int k m]/\(Lit.int k m).wf=true
  | some .string=>∃s,vs=[.str s]/\s.length<=maxLen
  | some (.slice e)=>∃l,vs=[.sl l]/\l.length<=maxLen/\∀x∈l,TyC P n e x.cells/\(if aggTy (P.underlying e) then ∃cs,x = .agg cs else x.cells=[x])
  | some (.struct fs)=>vs.length=P.cellsOf t/\∀f∈fs.toList,TyC P n f.type ((vs.drop f.offset).take (P.cellsOf f.type))
  | some (.array len e)=>vs.length=P.cellsOf t/\∀i,i < len->TyC P n e ((vs.drop (i * P.cellsOf e)).take (P.cellsOf e))
  | _=>False
def RC (w:World) (vs:List V) (cs:List Value):Prop:=vs.length=cs.length/\∀(i:Nat) (v:V) (u:Value),vs[i]? = some v->cs[i]? = some u->v.one=true/\VR (Zall w) w j0 v u
section
variable {H:Type} {enc:TypeId × Value->H} {P:Program} {w:World} {spare:Nat->Bool}
theorem RC.one {v:V} {u:Value} (h1:v.one=true) (h:VR (Zall w) w j0 v u):RC w [v] [u]:=by
 refine ⟨rfl,fun i x y hx hy=>?_⟩
 cases i with
 | zero=>simp at hx hy;subst hx;subst hy;exact ⟨h1,h⟩
 | succ i=>simp at hx
theorem RC.append {vs vs':List V} {cs cs':List Value} (h:RC w vs cs) (h':RC w vs' cs'):RC w (vs++vs') (cs++cs'):=by
 refine ⟨by simp [h.1,h'.1],fun i x y hx hy=>?_⟩
 by_cases hi:i < vs.length
 ·rw [List.getElem?_append_left hi] at hx
  rw [List.getElem?_append_left (by rw [<-h.1];exact hi)] at hy
  exact h.2 i x y hx hy
 ·rw [List.getElem?_append_right (by omega)] at hx
  rw [List.getElem?_append_right (by rw [<-h.1];omega),<-h.1] at hy
  exact h'.2 _ x y hx hy
theorem contig_ge:∀(fs:List Field) (off tot:Nat),contig P off fs tot=true->off<=tot/\∀f∈fs,off<=f.offset:=by
 intro fs
 induction fs with
 | nil=>intro off tot h;simp [contig] at h;exact ⟨by omega,by simp⟩
 | cons f fs ih =>
  intro off tot h
  simp only [contig,Bool.and_eq_true,beq_iff_eq] at h
  obtain ⟨h1,h2⟩:=ih _ _ h.2
  refine ⟨by omega,fun g hg=>?_⟩
  simp only [List.mem_cons] at hg
  rcases hg with rfl | hg
  ·omega
  ·have:=h2 g hg;omega
theorem fields_RC {n:Nat} {cs:List Value}:∀(fs:List Field) (off tot:Nat),contig P off fs tot=true->cs.length=tot ->
  (∀f∈fs,∃vs,RC w vs ((cs.drop f.offset).take (P.cellsOf f.type))/\TyC P n f.type vs) ->
  ∃vs,RC w vs (cs.drop off)/\∀f∈fs,TyC P n f.type ((vs.drop (f.offset - off)).take (P.cellsOf f.type)):=by
 intro fs
 induction fs with
 | nil =>
  intro off tot h hl _
  simp [contig] at h
  refine ⟨[],⟨by simp;omega,fun i v u hv=>by simp at hv⟩,by simp⟩
 | cons f fs ih =>
  intro off tot h hl hf
  simp only [contig,Bool.and_eq_true,beq_iff_eq] at h
  obtain ⟨h1,h2⟩:=h
  obtain ⟨g1,g2⟩:=contig_ge _ _ _ h2
  obtain ⟨vs',r',t'⟩:=ih (off+P.cellsOf f.type) tot h2 hl (fun g hg=>hf g (by simp [hg]))
  obtain ⟨vf,rf,tf⟩:=hf f (by simp)
  have hlen:((cs.drop f.offset).take (P.cellsOf f.type)).length=P.cellsOf f.type:=by simp;omega
  have hvl:vf.length=P.cellsOf f.type:=by rw [rf.1,hlen]
  have e1:cs.drop off=(cs.drop f.offset).take (P.cellsOf f.type)++cs.drop (off+P.cellsOf f.type):=by
   rw [h1,<-List.drop_drop,List.take_append_drop]
  refine ⟨vf++vs',by rw [e1];exact rf.append r',fun g hg=>?_⟩
  simp only [List.mem_cons] at hg
  rcases hg with rfl | hg
  ·rw [h1,Nat.sub_self,List.drop_zero,List.take_append_of_le_length (by omega),List.take_of_length_le (by omega)]
   exact tf
  ·have:=g2 g hg
   have e2:(vf++vs').drop (g.offset - off)=vs'.drop (g.offset - (off+P.cellsOf f.type)):=by
    rw [List.drop_append,List.drop_of_length_le (by omega),List.nil_append,hvl]
    congr 1
    omega
   rw [e2]
   exact t' g hg
theorem array_RC {n:Nat} {e:TypeId} {cs:List Value}:∀(len:Nat),cs.length=len * P.cellsOf e->(∀i,i < len->∃vs,RC w vs ((cs.drop (i * P.cellsOf e)).take (P.cellsOf e))/\TyC P n e vs) ->
  ∀k,k<=len->∃vs,RC w vs (cs.take (k * P.cellsOf e))/\∀i,i < k->TyC P n e ((vs.drop (i * P.cellsOf e)).take (P.cellsOf e)):=by
 intro len hl hf k
 induction k with
 | zero=>intro _;exact ⟨[],⟨by simp,fun i v u hv=>by simp at hv⟩,fun i hi=>by omega⟩
 | succ k ih =>
  intro hk
  obtain ⟨vs,r1,t1⟩:=ih (by omega)
  obtain ⟨vf,rf,tf⟩:=hf k (by omega)
  have hmul:(k+1) * P.cellsOf e=k * P.cellsOf e+P.cellsOf e:=Nat.succ_mul k _
  have hle:(k+1) * P.cellsOf e<=len * P.cellsOf e:=Nat.mul_le_mul_right _ hk
  have hvl:vs.length=k * P.cellsOf e:=by rw [r1.1,List.length_take];omega
  have hfl:vf.length=P.cellsOf e:=by rw [rf.1,List.length_take,List.length_drop];omega
  have e1:cs.take ((k+1) * P.cellsOf e)=cs.take (k * P.cellsOf e)++(cs.drop (k * P.cellsOf e)).take (P.cellsOf e):=by rw [hmul,List.take_add]
  refine ⟨vs++vf,by rw [e1];exact r1.append rf,fun i hi=>?_⟩
  by_cases h:i=k
  ·subst h
   rw [List.drop_append,List.drop_of_length_le (by omega),List.nil_append,hvl,Nat.sub_self,List.drop_zero,List.take_of_length_le (by omega)]
   exact tf
  ·have hik:(i+1) * P.cellsOf e<=k * P.cellsOf e:=Nat.mul_le_mul_right _ (by omega)
   have h2:(i+1) * P.cellsOf e=i * P.cellsOf e+P.cellsOf e:=Nat.succ_mul i _
   rw [List.drop_append_of_le_length (by omega),List.take_append_of_le_length (by rw [List.length_drop];omega)]
   exact t1 i (by omega)
theorem list_choose {α:Type} {Q:Nat->α->Prop}:∀(n:Nat),(∀i,i < n->∃x,Q i x)->∃l:List α,l.length=n/\∀i x,l[i]? = some x->Q i x:=by
 intro n
 induction n with
 | zero=>intro _;exact ⟨[],rfl,fun i x h=>by simp at h⟩
 | succ n ih =>
  intro h
  obtain ⟨l,h1,h2⟩:=ih (fun i hi=>h i (by omega))
  obtain ⟨x,hx⟩:=h n (by omega)
  refine ⟨l++[x],by simp [h1],fun i y hy=>?_⟩
  by_cases hi:i < n
  ·rw [List.getElem?_append_left (by omega)] at hy;exact h2 i y hy
  ·rw [List.getElem?_append_right (by omega)] at hy
   have e:i - l.length=0:=by
    have:=(List.getElem?_eq_some_iff.1 hy).1
    simp at this;omega
   rw [e] at hy
   simp at hy
   subst hy
   have:i=n:=by
    have:i - l.length=0:=e
    omega
   subst this
   exact hx
theorem TyC_leaf {n:Nat} {t:TypeId} {vs:List V} (h:TyC P n t vs) (ha:aggTy (P.underlying t)=false):∃v,vs=[v]/\v.cells=[v]:=by
 cases n with
 | zero=>cases h
 | succ n =>
  unfold TyC at h
  split at h
  ·obtain ⟨b,rfl⟩:=h;exact ⟨_,rfl,rfl⟩
  ·obtain ⟨b,rfl,_⟩:=h;exact ⟨_,rfl,rfl⟩
  ·obtain ⟨b,rfl,_⟩:=h;exact ⟨_,rfl,rfl⟩
  ·obtain ⟨b,rfl,_⟩:=h;exact ⟨_,rfl,rfl⟩
  ·rename_i hu;rw [hu] at ha;cases ha
  ·rename_i hu;rw [hu] at ha;cases ha
  ·cases h
theorem trod_RC:∀(n fuel:Nat) (t:TypeId) (cs:List Value) (x:DataW H × List MemPlace),okT P n t=true->DataW.trod enc P w 0 spare true fuel t cs=some x->∃vs,RC w vs cs/\TyC P n t vs:=by
 intro n
 induction n with
 | zero=>intro fuel t cs x h;cases h
 | succ n ih =>
  intro fuel t cs x hok h
  unfold okT at hok
  split at hok
  ·rename_i hu
   obtain ⟨b,rfl,_⟩:=DataW.trod_bool hu h
   exact ⟨[.bool b],RC.one rfl .bool,by unfold TyC;rw [hu];exact ⟨b,rfl⟩⟩
  ·rename_i k hu
   obtain ⟨m,rfl,_,hw⟩:=DataW.trod_int hu h
   exact ⟨[.int k m],RC.one rfl .int,by unfold TyC;rw [hu];exact ⟨m,rfl,hw⟩⟩
  ·rename_i hu
   obtain ⟨s,rfl,_,hs⟩:=DataW.trod_string hu h
   exact ⟨[.str s.data.toList],RC.one rfl .str,by unfold TyC;rw [hu];exact ⟨_,rfl,by have h1:s.data.size<=maxLen:=hs;rw [Array.length_toList];exact h1⟩⟩
  ·rename_i e hu
   simp only [Bool.and_eq_true,decide_eq_true_eq] at hok
   obtain ⟨hoke,hpos⟩:=hok
   rcases DataW.trod_slice hu h with ⟨rfl,_⟩ | ⟨a,len,cap,elems,rest,fu,_,rfl,_,hb,hlc,hcm,hel,hread,_⟩
   ·exact ⟨[.sl []],RC.one rfl .sl0,by unfold TyC;rw [hu];exact ⟨[],rfl,by simp,by simp⟩⟩
   ·have each:∀i,i < len->∃x:V,∃ci:List Value,w.cells? 0 (a.add (i * P.cellsOf e)) (P.cellsOf e)=some ci/\RC w x.cells ci/\TyC P n e x.cells/\(if aggTy (P.underlying e) then ∃cs,x = .agg cs else x.cells=[x]):=by
     intro i hi
     have hr:=hread i hi
     have:elems[i]? = some elems[i]:=List.getElem?_eq_getElem (by omega)
     rw [this,obi] at hr
     obtain ⟨ci,h1,h2⟩:=hr
     obtain ⟨vs,r1,r2⟩:=ih fu e ci _ hoke h2
     by_cases hag:aggTy (P.underlying e)=true
     ·exact ⟨.agg vs,ci,h1,r1,r2,by rw [if_pos hag];exact ⟨vs,rfl⟩⟩
     ·have hag':aggTy (P.underlying e)=false:=by simpa using hag
      obtain ⟨v,rfl,hv⟩:=TyC_leaf r2 hag'
      exact ⟨v,ci,h1,by rw [hv];exact r1,by rw [hv];exact r2,by rw [if_neg (by simp [hag'])];exact hv⟩
    obtain ⟨l,hll,hlq⟩:=list_choose len each
    have hT:TyC P (n+1) t [.sl l]:=by
     unfold TyC
     rw [hu]
     refine ⟨l,rfl,by omega,fun x hx=>?_⟩
     obtain ⟨i,hi⟩:=List.getElem?_of_mem hx
     obtain ⟨ci,_,_,h3,h4⟩:=hlq i x hi
     exact ⟨h3,h4⟩
    refine ⟨[.sl l],RC.one rfl ?_,hT⟩
    by_cases h0:len=0
    ·have:l=[]:=List.eq_nil_of_length_eq_zero (by omega)
     subst this
     subst h0
     exact .sl0
    ·have hx0:l[0]? = some l[0]:=List.getElem?_eq_getElem (by omega)
     obtain ⟨c0,q1,q2,q3,q4⟩:=hlq 0 _ hx0
     obtain ⟨_,q5,q6⟩:=World.cells?_some q1
     have hc0:=q6 0 hpos
     rw [List.getElem?_eq_getElem (by omega)] at hc0
     have hspot:=World.cell?_spot hc0
     obtain ⟨g,b,spot⟩:=a
     have:spot=none:=by simpa [Addr.add] using hspot
     subst this
     have hg:g < w.heap.size:=by
      have:=World.cells?_block q1 hpos
      simpa [Addr.add] using this
     subst hll
     refine VR.sl (sz:=P.cellsOf e) (fun k i=>(w.cell? ⟨g,b+(k * P.cellsOf e+i),none⟩).getD default) hlc hpos (fun k x hk=>?_) (fun k x i y hk hy=>?_) (fun k x i y hk hy=>?_)
     ·obtain ⟨ck,r1,r2,_⟩:=hlq k x hk
      rw [r2.1,(World.cells?_some r1).2.1]
     ·obtain ⟨ck,r1,r2,_⟩:=hlq k x hk
      obtain ⟨_,s1,s2⟩:=World.cells?_some r1
      have hi:i < P.cellsOf e:=by rw [<-s1,<-r2.1];exact (List.getElem?_eq_some_iff.1 hy).1
      have hcell:=s2 i hi
      have hck:ck[i]? = some ck[i]:=List.getElem?_eq_getElem (by omega)
      rw [hck] at hcell
      have e1:((⟨g,b,none⟩:Addr).add (k * P.cellsOf e)).add i=⟨g,b+(k * P.cellsOf e+i),none⟩:=by rw [Addr.add_lit,Addr.add_lit,Nat.add_assoc]
      rw [e1] at hcell
      exact ⟨(r2.2 i y _ hy hck).1,hg,by rw [hcell];rfl⟩
     ·obtain ⟨ck,r1,r2,_⟩:=hlq k x hk
      obtain ⟨_,s1,s2⟩:=World.cells?_some r1
      have hi:i < P.cellsOf e:=by rw [<-s1,<-r2.1];exact (List.getElem?_eq_some_iff.1 hy).1
      have hcell:=s2 i hi
      have hck:ck[i]? = some ck[i]:=List.getElem?_eq_getElem (by omega)
      rw [hck] at hcell
      have e1:((⟨g,b,none⟩:Addr).add (k * P.cellsOf e)).add i=⟨g,b+(k * P.cellsOf e+i),none⟩:=by rw [Addr.add_lit,Addr.add_lit,Nat.add_assoc]
      rw [e1] at hcell
      simp only [hcell,Option.getD_some]
      exact (r2.2 i y _ hy hck).2
  ·rename_i fs hu
   simp only [Bool.and_eq_true] at hok
   obtain ⟨hcon,hall⟩:=hok
   obtain ⟨xs,fu,_,_,hl,hlen,hf⟩:=DataW.trod_struct hu h
   have hfi:∀f∈fs.toList,∃vs,RC w vs ((cs.drop f.offset).take (P.cellsOf f.type))/\TyC P n f.type vs:=by
    intro f hfm
    obtain ⟨i,hi⟩:=List.getElem?_of_mem hfm
    have hi':fs[i]? = some f:=by simpa using hi
    have:=hf i f hi'
    have hil:i < xs.length:=by
     have:=(Array.getElem?_eq_some_iff.1 hi').1
     omega
    have hx:xs[i]? = some xs[i]:=List.getElem?_eq_getElem hil
    rw [hx] at this
    exact ih fu f.type _ _ (List.all_eq_true.1 hall f hfm) this
   obtain ⟨vs,r1,r2⟩:=fields_RC fs.toList 0 _ hcon hl hfi
   rw [List.drop_zero] at r1
   refine ⟨vs,r1,?_⟩
   unfold TyC
   rw [hu]
   exact ⟨by rw [r1.1,hl],fun f hfm=>by have:=r2 f hfm;simpa using this⟩
  ·rename_i len e hu
   simp only [Bool.and_eq_true,beq_iff_eq] at hok
   obtain ⟨hoke,hcs⟩:=hok
   obtain ⟨xs,fu,_,_,hl,hlen,hf⟩:=DataW.trod_array hu h
   rw [hcs] at hl
   have hfi:∀i,i < len->∃vs,RC w vs ((cs.drop (i * P.cellsOf e)).take (P.cellsOf e))/\TyC P n e vs:=by
    intro i hi
    have:=hf i hi
    have hx:xs[i]? = some xs[i]:=List.getElem?_eq_getElem (by omega)
    rw [hx] at this
    exact ih fu e _ _ hoke this
   obtain ⟨vs,r1,r2⟩:=array_RC len hl hfi len (Nat.le_refl _)
   rw [<-hl,List.take_length] at r1
   refine ⟨vs,r1,?_⟩
   unfold TyC
   rw [hu]
   exact ⟨by rw [r1.1,hl,hcs],r2⟩
  ·cases hok
end
theorem same_of_heap {W W':World} (h:∀g,g < W.heap.size->W'.heap[g]? = W.heap[g]?) {p:MemPlace} (hp:p.block < W.heap.size):W.sameAt W' p:=by
 cases p with
 | cell b off=>exact World.cell?_of_block (a:=⟨b,off,none⟩) (h b hp)
 | map b=>exact h b hp
theorem kept_of_heap {W W':World} {may:MemPlace->Prop} (ho:W'.os=W.os) (hout:W'.output=W.output) (h:∀g,g < W.heap.size->W'.heap[g]? = W.heap[g]?):W.keptBut W' may:=by
 refine ⟨ho,hout,fun i hi=>?_⟩
 rw [h i hi]
 have:W.heap[i]? = some W.heap[i]:=Array.getElem?_eq_getElem hi
 rw [this]
 cases W.heap[i]<;>simp
section
variable {H:Type} {enc:TypeId × Value->H} {P:Program}
theorem TrodAll_stays (hl:laidOutB P=true) {W W':World} {sp':Nat->Bool} (hsz:∀g,g < W.heap.size->W'.heap[g]? = W.heap[g]?):∀{ts:List TypeId} {vs:List Value} {ds:List (DataW H)} {ps:List MemPlace},(∀t∈ts,P.readableRec t=true/\t < P.types.size) ->
  DataW.TrodAll enc P W 0 (fun _=>true) true ts vs ds ps->(∀p∈ps,p.block < W.heap.size)->(∀p∈ps,sp' p.block=true)->DataW.TrodAll enc P W' 0 sp' true ts vs ds ps
 | [],[],[],_,_,h,_,_=>h
 | t::ts,v::vs,d::ds,_,hT,⟨p,q,h1,h2,e⟩,hlt,hs=>by
  subst e
  exact ⟨p,q,WideElems.Trod_stays hl (hT t (by simp)).1 (hT t (by simp)).2 h1 (fun x hx=>same_of_heap hsz (hlt x (by simp [hx]))) (fun x hx=>hs x (by simp [hx])),
   TrodAll_stays hl hsz (fun t ht=>hT t (by simp [ht])) h2 (fun x hx=>hlt x (by simp [hx])) (fun x hx=>hs x (by simp [hx])),rfl⟩
end
open Go Go.ChangeShapes Go.WideShapes Go.RowKit
def ArgT (P:Program) (n:Nat) (t:TypeId) (x:V):Prop:=TyC P n t x.cells/\(if aggTy (P.underlying t) then ∃cs,x = .agg cs else x.cells=[x])
def ArgsT (P:Program) (n:Nat):List TypeId->List V->Prop
 | [],[]=>True
 | t::ts,x::xs=>ArgT P n t x/\ArgsT P n ts xs
 | _,_=>False
theorem ArgT.agg {P:Program} {n:Nat} {t:TypeId} {x:V} (h:ArgT P n t x) (ha:aggTy (P.underlying t)=true):∃cs,x = .agg cs:=by
 have:=h.2;rwa [if_pos ha] at this
theorem ArgT.leaf {P:Program} {n:Nat} {t:TypeId} {x:V} (h:ArgT P n t x) (ha:aggTy (P.underlying t)=false):x.cells=[x]:=by
 have:=h.2;rwa [if_neg (by simp [ha])] at this
section
variable {H:Type} {enc:TypeId × Value->H} {P:Program} {w:World} {spare:Nat->Bool}
theorem arg_VR {n base:Nat} {t:TypeId} {v:Value} {d:DataW H} {p:List MemPlace} (hok:okT P n t=true) (hval:Value.okWide P w .any base t v)
  (h:DataW.Trod enc P w 0 spare true t v d p):∃x,VR (Zall w) w j0 x v/\ArgT P n t x:=by
 obtain ⟨fuel,hf⟩:=h
 obtain ⟨vs,r,ty⟩:=trod_RC n fuel t _ _ hok hf
 have leaf:aggTy (P.underlying t)=false->v.cells.toList=[v]->∃x,VR (Zall w) w j0 x v/\ArgT P n t x:=by
  intro ha hc
  obtain ⟨x,rfl,hx⟩:=TyC_leaf ty ha
  refine ⟨x,(r.2 0 x v rfl (by rw [hc];rfl)).2,by rw [hx];exact ty,by rw [if_neg (by simp [ha])];exact hx⟩
 cases n with
 | zero=>cases hok
 | succ n =>
  have hok':=hok
  unfold okT at hok
  split at hok
  ·rename_i hu;obtain ⟨b,rfl⟩:=okWide_bool hu hval;exact leaf (by rw [hu];rfl) rfl
  ·rename_i k hu;obtain ⟨b,rfl⟩:=okWide_int hu hval;exact leaf (by rw [hu];rfl) rfl
  ·rename_i hu;obtain ⟨b,rfl⟩:=okWide_string hu hval;exact leaf (by rw [hu];rfl) rfl
  ·rename_i e hu;obtain ⟨a,l,c,rfl⟩:=okWide_slice hu hval;exact leaf (by rw [hu];rfl) rfl
  ·rename_i fs hu
   simp only [Value.okWide,hu] at hval
   obtain ⟨cs,rfl,_,_⟩:=hval
   have e:(Value.agg cs) = .agg (cs.toList).toArray:=by simp
   refine ⟨.agg vs,?_,?_,?_⟩
   ·rw [e];exact .agg r.1 fun i c u hc hu=>(r.2 i c u hc hu).2
   ·exact ty
   ·rw [hu];exact ⟨vs,rfl⟩
  ·rename_i len e hu
   simp only [Value.okWide,hu] at hval
   obtain ⟨cs,rfl,_,_⟩:=hval
   have e:(Value.agg cs) = .agg (cs.toList).toArray:=by simp
   refine ⟨.agg vs,?_,?_,?_⟩
   ·rw [e];exact .agg r.1 fun i c u hc hu=>(r.2 i c u hc hu).2
   ·exact ty
   ·rw [hu];exact ⟨vs,rfl⟩
  ·cases hok
theorem args_VRs {n base:Nat}:∀{ts:List TypeId} {vs:List Value} {ds:List (DataW H)} {ps:List MemPlace},(ts.all (okT P n))=true->(∀(j:Nat) t v,ts[j]? = some t->vs[j]? = some v->Value.okWide P w .any base t v) ->
  DataW.TrodAll enc P w 0 spare true ts vs ds ps->∃xs,VRs (Zall w) w j0 xs vs/\ArgsT P n ts xs
 | [],[],[],_,_,_,_=>⟨[],⟨rfl,fun i v u hv=>by simp at hv⟩,trivial⟩
 | t::ts,v::vs,d::ds,_,hok,hval,⟨p,q,h1,h2,_⟩=>by
  simp only [List.all_cons,Bool.and_eq_true] at hok
  obtain ⟨x,hx,tx⟩:=arg_VR hok.1 (hval 0 t v rfl rfl) h1
  obtain ⟨xs,hxs,txs⟩:=args_VRs hok.2 (fun j t v hj hv=>hval (j+1) t v (by simpa using hj) (by simpa using hv)) h2
  refine ⟨x::xs,⟨by simp [hxs.1],fun i a b ha hb=>?_⟩,tx,txs⟩
  cases i with
  | zero=>simp at ha hb;subst ha;subst hb;exact hx
  | succ i=>exact hxs.2 i a b (by simpa using ha) (by simpa using hb)
end
theorem VR_bool {Z:Zs} {w:World} {j:J} {b:Bool} {u:Value} (h:VR Z w j (.bool b) u):u = .bool b:=by cases h;rfl
theorem law_contract {cfg:Cfg} (hc:CfgOK cfg) {f:FuncId} {fn:Func} (n:Nat) (hok:fnOk cfg.P f=true) (hlaid:laidOutB cfg.P=true) {s:ChangeSpec} (hvars:s.vars=[])
  (hts:(fn.params.toList.all fun t=>okT cfg.P n t && cfg.P.readableRec t && decide (t < cfg.P.types.size))=true) {tb:TypeId} (hres:fn.resultTypes=#[tb]) (htb:cfg.P.underlying tb=some .bool)
  (hspec:∀(H:Type) (ds:List (DataW H)),ds.length=fn.params.toList.length->s.fn H ds={ results:=[.lit (.bool true)],args:=ds })
  (law:∀xs,ArgsT cfg.P n fn.params.toList xs->pcW cfg f xs=some (.bool true))
  {H:Type} {enc:TypeId × Value->H} {apart fresh handsOn:Bool} (W:World) (base:Nat) (args:Array Value) (ds gs:List (DataW H)) (before:List MemPlace)
  (hval:∀(j:Nat) t v,fn.params[j]? = some t->args[j]? = some v->Value.okWide cfg.P W .any base t v)
  (hW:DataW.Whole enc cfg.P fn.params.toList s.vars apart W args.toList ds gs before) :
  Calls cfg.P f args W fun e W'=>∃v,e = .returned v/\s.post enc cfg.P fn apart fresh handsOn false W args v W':=by
 have hW':=hW
 obtain ⟨p,q,hA,hV,hb,hfz,hnd⟩:=hW
 rw [hvars] at hV
 obtain ⟨hg,hq⟩:=trodVars_none hV
 subst hg;subst hq
 simp only [List.append_nil] at hb
 subst hb
 simp only [List.all_eq_true,Bool.and_eq_true,decide_eq_true_eq] at hts
 obtain ⟨xs,hx,ht⟩:=args_VRs (P:=cfg.P) (n:=n) (base:=base) (List.all_eq_true.2 fun t h=>(hts t h).1.1) (fun j t v hj hv=>hval j t v (by simpa using hj) (by simpa using hv)) hA
 obtain ⟨m,hm⟩:=pcW_ex (law xs ht)
 have:=(callN_sound hc m).1 f xs _ hm hok (Zall W) W args.toList (fun g o h=>h) hx
 rw [Array.toArray_toList] at this
 refine this.mono fun e W1 ⟨u,Z1,he,hr,hs⟩=>?_
 have hu:u = .bool true:=VR_bool hr
 subst hu
 refine ⟨_,he,ds,[],before,[],before,[],hW',?_,?_,?_,?_,fun h=>by cases h⟩
 ·rw [hspec H (ds++[]) (by simpa using (Go.trodAll_length hA).2),hres]
  exact trodAll_mk1 (shut_bool htb true)
 ·rw [hspec H (ds++[]) (by simpa using (Go.trodAll_length hA).2)]
  simp only [List.append_nil]
  exact TrodAll_stays hlaid (fun g h=>(hs.keep g h).1) (fun t h=>⟨(hts t h).1.2,(hts t h).2⟩) hA (fun x h=>hW'.lt x h) (fun x h=>by simpa using hW'.lt x h)
 ·rw [hspec H (ds++[]) (by simpa using (Go.trodAll_length hA).2),hvars]
  exact rfl
 ·exact kept_of_heap hs.os hs.output fun g h=>(hs.keep g h).1
open Go
noncomputable def retK (kc:KC) (fa:FA) (k:V->List O->R) (s:S):R:=opt (mapO (resV kc.cfg.P s) fa.results) fun vs=>k (tupV vs) s.mem
noncomputable def inlK (kc:KC) (fa:FA) (args:List V) (mem:List O) (k:V->List O->R):R :=
 gd (args.length==fa.np && Nat.ble fa.np fa.nt) (segK kc 0 fa.body 0 ⟨args++List.replicate (fa.nt - fa.np) (.tup []),mem⟩ (retK kc fa k) (fun _ _=>none) (retK kc fa k))
theorem nl_exec {cfg:Cfg} {n0 n1:Nat}:∀(c:C) (s:S),nl c=0->execW cfg n0 c s=execW cfg n1 c s:=by
 intro c
 induction c with
 | seq a b iha ihb =>
  intro s h
  simp only [nl] at h
  simp only [execW,iha s (by omega)]
  congr 1
  funext r
  obtain ⟨x,s'⟩:=r
  cases x<;>simp only [ihb _ (by omega:nl b=0)]
 | cond c a b iha ihb =>
  intro s h
  simp only [nl] at h
  simp only [execW,iha s (by omega),ihb s (by omega)]
 | block i c ih=>intro s h;simp only [nl] at h;simp only [execW,ih s h]
 | loop f c _=>intro s h;simp [nl] at h
 | cseq f a b _ _=>intro s h;simp [nl] at h
 | uncons g ps ws a b iha ihb =>
  intro s h
  simp only [nl] at h
  simp only [execW,iha _ (by omega:nl a=0),ihb _ (by omega:nl b=0)]
 | _=>intro s _;rfl
theorem inlK_some {kc:KC} (hik:IKOK kc) {f:FuncId} {fa:FA} {args:List V} {mem:List O} {k:V->List O->R} {r:Out} (hp:kc.cfg.iprim f=none) (hf:fnA kc.cfg.P (kc.cfg.rxf f) f=some fa) (hn:nl fa.body=0)
  (h:inlK kc fa args mem k=some r):∃v m,icW kc.cfg f args mem=some (v,m)/\k v m=some r:=by
 obtain ⟨ha,h⟩:=gd_some h
 simp only [Bool.and_eq_true,beq_iff_eq,Nat.ble_eq] at ha
 have fin:∀(x:Ex) (s':S),execW kc.cfg 0 fa.body ⟨args++List.replicate (fa.nt - fa.np) (.tup []),mem⟩=some (x,s')->endW x=true->retK kc fa k s'=some r ->
   ∃v m,icW kc.cfg f args mem=some (v,m)/\k v m=some r:=by
  intro x s' hx he hr
  obtain ⟨vs,h1,h2⟩:=opt_some hr
  refine ⟨tupV vs,s'.mem,icW_run hp hf ?_,h2⟩
  unfold runW
  rw [if_pos ha,nl_exec (n1:=0) _ _ hn]
  cases x with
  | exit i=>cases he
  | norm=>simp only [hx,Option.bind_some,h1,Option.map_some]
  | ret=>simp only [hx,Option.bind_some,h1,Option.map_some]
 rcases segK_some hik _ _ _ _ _ _ _ h with ⟨s2,g1,g2⟩ | ⟨e,s2,g1,g2⟩ | ⟨s2,g1,g2⟩ | ⟨j',s2,_,g1,g2,g3⟩
 ·exact fin _ _ g1 rfl g2
 ·cases g2
 ·exact fin _ _ g1 rfl g2
 ·omega
noncomputable def inlAt (kc:KC):List (Nat × FA)->FuncId->List V->List O->(V->List O->R)->R
 | [],f,args,mem,k=>kc.ik f args mem k
 | x::l,f,args,mem,k=>cond (Nat.beq f x.1) (inlK kc x.2 args mem k) (inlAt kc l f args mem k)
noncomputable def KC.inl (kc:KC) (l:List (Nat × FA)):KC:={ kc with ik:=inlAt kc l }
theorem inl_ok {kc:KC} (hik:IKOK kc) {l:List (Nat × FA)} (h:∀x∈l,kc.cfg.iprim x.1=none/\fnA kc.cfg.P (kc.cfg.rxf x.1) x.1=some x.2/\nl x.2.body=0):IKOK (kc.inl l):=by
 refine ⟨fun f as0 mem k r hr=>?_,fun rd f as0 mem k r hr=>hik.ck rd f as0 mem k r hr⟩
 show ∃v m,icW kc.cfg f as0 mem=some (v,m)/\k v m=some r
 change inlAt kc l f as0 mem k=some r at hr
 induction l with
 | nil=>exact hik.ik f as0 mem k r hr
 | cons x l ih =>
  rcases cond_some hr with ⟨c1,h2⟩ | ⟨_,h2⟩
  ·obtain ⟨a,b,c⟩:=h x (by simp)
   have e:f=x.1:=Nat.eq_of_beq_eq_true c1
   subst e
   exact inlK_some hik a b c h2
  ·exact ih (fun y hy=>h y (by simp [hy])) h2
def GoN (kc:KC) (n0:Nat) (fa:FA) (rd:CM) (mem:List O) (o:Out) (r:V × List O):Prop:=∃v m,Go kc true n0 fa o (.doneM v m)/\canNorm rd mem v m=r
theorem GoN.step {kc:KC} {n0:Nat} {fa:FA} {rd:CM} {mem:List O} {o o':Out} {r:V × List O} (hs:∀o'',Go kc true n0 fa o o''->Go kc true n0 fa o' o'') (h:GoN kc n0 fa rd mem o r):GoN kc n0 fa rd mem o' r :=
 let ⟨v,m,h1,h2⟩:=h
 ⟨v,m,hs _ h1,h2⟩
theorem GoN.done {kc:KC} {n0:Nat} {fa:FA} {rd:CM} {mem m:List O} {v:V} {r:V × List O} (h:canNorm rd mem v m=r):GoN kc n0 fa rd mem (.doneM v m) r:=⟨v,m,.refl _,h⟩
theorem icC_go {kc:KC} (hik:IKOK kc) {f:FuncId} {fa:FA} {rd:CM} {args:List V} {mem:List O} {o:Out} {r:V × List O} (hp:kc.cfg.iprim f=none) (hf:fnA kc.cfg.P (kc.cfg.rxf f) f=some fa) (h:enterK kc true fa args mem=some o) (hg:GoN kc mem.length fa rd mem o r) :
  icC kc.cfg rd f args mem=some r:=by
 obtain ⟨v,m,h1,h2⟩:=hg
 unfold icC
 rw [icW_go hik hp hf h h1,Option.map_some,h2]
set_option linter.unusedSimpArgs false
section
variable {b b':Bool} {v v':V}
@[congr] theorem cond_wc {x y:R} (h:b=b'):cond b x y=cond b' x y:=by rw [h]
@[congr] theorem gd_wc {k:R} (h:b=b'):gd b k=gd b' k:=by rw [h]
@[congr] theorem idxK_wc {α:Type} {l l':List α} {n n':Nat} {k:α->R} (h:l=l') (h':n=n'):idxK l n k=idxK l' n' k:=by rw [h,h']
@[congr] theorem pcK_wc {cfg:Cfg} {f:FuncId} {as0 as0':List V} {k:V->R} (h:as0=as0'):pcK cfg f as0 k=pcK cfg f as0' k:=by rw [h]
@[congr] theorem mfK_wc {es es':List (V × V)} {key key':V} {kn:R} {ks:V->R} (h:es=es') (h':key=key'):mfK es key kn ks=mfK es' key' kn ks:=by rw [h,h']
@[congr] theorem opt_wc {α:Type} {o o':Option α} {k:α->R} (h:o=o'):opt o k=opt o' k:=by rw [h]
@[congr] theorem kB_wc {k:Bool->R} (h:v=v'):kB v k=kB v' k:=by rw [h]
@[congr] theorem kI_wc {j:IntKind} {k:Int->R} (h:v=v'):kI j v k=kI j v' k:=by rw [h]
@[congr] theorem kS_wc {k:List UInt8->R} (h:v=v'):kS v k=kS v' k:=by rw [h]
@[congr] theorem kL_wc {k:List V->R} (h:v=v'):kL v k=kL v' k:=by rw [h]
@[congr] theorem kA_wc {k:List V->R} (h:v=v'):kA v k=kA v' k:=by rw [h]
@[congr] theorem kT_wc {k:List V->R} (h:v=v'):kT v k=kT v' k:=by rw [h]
@[congr] theorem kF_wc {e:TypeId} {k:List V->R} (h:v=v'):kF e v k=kF e v' k:=by rw [h]
@[congr] theorem unc_wc {l l':List V} {k:V->List V->R} (h:l=l'):unc l k=unc l' k:=by rw [h]
@[congr] theorem unn_wc {l l':List V} {k:R} (h:l=l'):unn l k=unn l' k:=by rw [h]
end
theorem ibeq_t {a b:Int} (h:a=b):(a==b)=true:=by rw [h];simp
theorem ibeq_f {a b:Int} (h:a≠b):(a==b)=false:=by simpa using h
theorem ibne_t {a b:Int} (h:a≠b):(a != b)=true:=by simpa using h
theorem ibne_f {a b:Int} (h:a=b):(a != b)=false:=by rw [h];simp
abbrev Bs:=List UInt8
abbrev lt (a b:Bs):Bool:=Op.bytesLess a b
theorem lt_trans {a b c:Bs} (h:lt a b=true) (h':lt b c=true):lt a c=true:=by
 induction a generalizing b c with
 | nil =>
  cases c with
  | nil=>cases b<;>simp [Op.bytesLess] at h'
  | cons y c=>rfl
 | cons x a ih =>
  cases b with
  | nil=>simp [Op.bytesLess] at h
  | cons y b =>
   cases c with
   | nil=>simp [Op.bytesLess] at h'
   | cons z c =>
    simp only [lt,Op.bytesLess,Bool.or_eq_true,decide_eq_true_eq,Bool.and_eq_true,beq_iff_eq] at h h' |-
    rcases h with h | ⟨rfl,h⟩
    ·rcases h' with h' | ⟨rfl,h'⟩
     ·exact .inl (UInt8.lt_trans h h')
     ·exact .inl h
    ·rcases h' with h' | ⟨rfl,h'⟩
     ·exact .inl h'
     ·exact .inr ⟨rfl,ih h h'⟩
section
variable {P:Program} {Z:Zs} {w:World}
structure OverW (P:Program) (f:FuncId) (st t e:TypeId):Prop where
 string:P.underlying st=some .string
 row:P.underlying t=some (.slice e)
 byte:P.underlying e=some (.int .u8)
 one:P.cellsOf e=1
 walk:∀(b:ByteArray) (n L c:Nat) (A:Option Addr) (w w2:World) (r:Value),n<=b.size->b.size<=grownCap w b.size 0 e ->
  (∀ty o,o=n∨grownCap w b.size 0 e=n->(Builtin.copy_ #[t,t] ty #[.slice (some ⟨w.heap.size,o,none⟩) (b.size - n) (grownCap w b.size 0 e - n),.slice A L c]).run P (Lib.bytesWorld w e b) = .ok (goInt L) w2) ->
  (convert t st (.slice (some ⟨w.heap.size,0,none⟩) b.size (grownCap w b.size 0 e))).run P w2 = .ok r w2 ->
  Calls P f #[.string b,.int .i64 (n:Int),.slice A L c] w fun e w'=>e = .returned r/\w'=w2
end
open Go Go.Sort
def iV (n:Int):V:=.int .i64 n
def srt (l:List Int):List Int:=l.mergeSort fun x y=>decide (x<=y)
structure SortW (P:Program) (f:FuncId):Prop where
 srt:∀(blk off cap:Nat) (zs:List Int) (w:World),Holds (Value.int .i64) w blk off zs.toArray->blk < w.heap.size->zs.length < 4611686018427387904 ->
  Calls P f #[.slice (some ⟨blk,off,none⟩) zs.length cap] w fun e w'=>e = .returned (.tuple #[])/\∃n os,w'=grow (putRow (Value.int .i64) (Sort.ahead w n) blk off (zs.mergeSort fun x y=>decide (x<=y)).toArray) os
 none:∀(p:Option Addr) (cap:Nat) (w:World),Calls P f #[.slice p 0 cap] w fun e w'=>e = .returned (.tuple #[])/\w'=w
structure CompactW (P:Program) (f:FuncId):Prop where
 cut:∀(blk off cap:Nat) (zs:List Int) (w:World),Holds (Value.int .i64) w blk off zs.toArray->zs.length<=9223372036854775807->zs.length<=cap ->
  Calls P f #[.slice (some ⟨blk,off,none⟩) zs.length cap] w fun e w'=>e = .returned (.slice (some ⟨blk,off,none⟩) (Lib.compact zs).length cap)/\∃q,w'=putRow (Value.int .i64) (Sort.ahead w q) blk off (Lib.compact zs++List.replicate (zs.length - (Lib.compact zs).length) 0).toArray
 none:∀(p:Option Addr) (cap:Nat) (w:World),Calls P f #[.slice p 0 cap] w fun e w'=>e = .returned (.slice p 0 cap)/\w'=w
section
variable {P:Program} {Z:Zs} {w:World} {j:J} {mem:List O}
end
open Go Go.MapKept
set_option linter.unusedVariables false
section
variable {P:Program} {Z Z':Zs} {w w':World} {j j':J} {mem mem':List O}
theorem SR.hide (s:SR P Z w j mem) (id:Nat):SR P Z w j (mem.set id .dead):=by
 have get:∀k x,(mem.set id .dead)[k]? = some x->x.live=true->mem[k]? = some x/\id≠k:=by
  intro k x hx hl
  by_cases e:id=k
  ·subst e
   have hlt:id < mem.length:=by have:=(List.getElem?_eq_some_iff.1 hx).1;simpa using this
   rw [List.getElem?_set_self hlt] at hx
   cases hx
   cases hl
  ·rw [List.getElem?_set_ne e] at hx;exact ⟨hx,e⟩
 refine ⟨fun k x hx=>?_,fun a b x y g hx hy hlx hly=>s.inj a b x y g (get a x hx hlx).1 (get b y hy hly).1 hlx hly,fun k hk=>s.out k (by simpa using hk),s.zin⟩
 by_cases hl:x.live=true
 ·exact s.obj k x (get k x hx hl).1
 ·cases x<;>first | exact True.intro | (simp [O.live] at hl)
def O.mapLike:O->Bool
 | .map _ | .marena _ _=>true
 | _=>false
theorem SR.unhide (s:SR P Z w j mem) {id:Nat} {o:O} (hm:mem[id]? = some o) (ho:o.mapLike=true) {mem1:List O} (s':SR P Z' w' j' mem1) (st:Stp Z w j (mem.set id .dead) Z' w' j' mem1)
  (hd:mem1[id]? = some .dead) (hj:∀x,j id=some x->j' id=some x):SR P Z' w' j' (mem1.set id o)/\Stp Z w j mem Z' w' j' (mem1.set id o):=by
 have hlt:id < mem.length:=(List.getElem?_eq_some_iff.1 hm).1
 have hlt1:id < mem1.length:=(List.getElem?_eq_some_iff.1 hd).1
 have hl:o.live=true:=by cases o<;>first | rfl | (cases ho;done)
 have hO:=s.obj id o hm
 have hno:∀t n,o.ar=some (t,n)->noA t (mem.set id .dead):=by
  intro t n e k x m hx hr
  by_cases ek:id=k
  ·subst ek;rw [List.getElem?_set_self hlt] at hx;cases hx;cases hr
  ·rw [List.getElem?_set_ne ek] at hx
   have h1:=(OR.arena hO e).i
   have h2:=(OR.arena (s.obj k x hx) hr).i
   rw [h1] at h2
   exact ek (Option.some.inj h2)
 have ha:∀t n,o.ar=some (t,n)->Z'.a t=Z.a t:=fun t n e=>(st.ar t (hno t n e)).2
 have own0:∀g,Owned Z j (mem.set id .dead) g->Owned Z j mem g:=by
  rintro g ⟨k,x,hx,hlx,hg⟩
  by_cases ek:id=k
  ·subst ek;rw [List.getElem?_set_self hlt] at hx;cases hx;cases hlx
  ·rw [List.getElem?_set_ne ek] at hx;exact ⟨k,x,hx,hlx,hg⟩
 have hblk:∀g,Blk Z j id o g->g < w.heap.size/\¬Owned Z j (mem.set id .dead) g:=by
  intro g hg
  refine ⟨Owned.lt s ⟨id,o,hm,hl,hg⟩,?_⟩
  rintro ⟨k,x,hx,hlx,hgx⟩
  by_cases ek:id=k
  ·subst ek;rw [List.getElem?_set_self hlt] at hx;cases hx;cases hlx
  ·rw [List.getElem?_set_ne ek] at hx;exact ek (s.inj id k o x g hm hx hl hlx hg hgx)
 have hkeep:∀g,Blk Z j id o g->w'.heap[g]? = w.heap[g]?/\∀x,Z' g x↔Z g x:=fun g hg=>st.keep g (hblk g hg).1 (hblk g hg).2
 have hO':OR P Z' w' j' id o:=by
  cases o<;>first | (cases ho;done) | skip
  ·obtain ⟨r,es',clock,h1,h2,h3,h4,h5⟩:=hO
   have hbb:=hkeep r (by simp [Blk,O.ar,blkOf,h1,Han.blk])
   refine ⟨r,es',clock,hj _ h1,hbb.1.trans h2,h3,fun i a x hi=>?_,⟨fun o ho=>h5.1 o ((hbb.2 o).1 ho),h5.2⟩⟩
   obtain ⟨e,he,ha,hx,hva,hvx⟩:=h4 i a x hi
   exact ⟨e,he,ha,hx,hva.mono st.z (JExt.refl _),hvx.mono st.z (JExt.refl _)⟩
  ·rename_i t ms
   obtain ⟨h1,h2⟩:=hO
   have e:=ha t ms.length rfl
   refine ⟨h1.same e st.z.i,fun k x g hk hg=>?_⟩
   rw [e] at hg
   exact (h2 k x g hk hg).mono st.z (hkeep g ⟨k,(List.getElem?_eq_some_iff.1 hk).1,hg⟩)
 have same:∀g,Blk Z' j' id o g↔Blk Z j id o g:=by
  intro g
  cases o<;>first | (cases ho;done) | skip
  ·obtain ⟨r,es',clock,h1,_⟩:=hO
   simp [Blk,O.ar,blkOf,h1,hj _ h1]
  ·rename_i t ms
   have e:=ha t ms.length rfl
   simp only [Blk,O.ar,e]
 have get:∀k x,(mem1.set id o)[k]? = some x->id≠k->mem1[k]? = some x:=fun k x hx e=>by rwa [List.getElem?_set_ne e] at hx
 have self:∀x,(mem1.set id o)[id]? = some x->x=o:=fun x hx=>by rw [List.getElem?_set_self hlt1] at hx;exact (Option.some.inj hx).symm
 have apart:∀k x g,id≠k->mem1[k]? = some x->x.live=true->Blk Z' j' k x g->¬Blk Z j id o g:=by
  intro k x g e hx hlx hg hg'
  obtain ⟨h1,h2⟩:=hblk g hg'
  exact h2 (st.owned g h1 ⟨k,x,hx,hlx,hg⟩)
 refine ⟨⟨fun k x hx=>?_,fun a b x y g hx hy hlx hly hg hg'=>?_,fun k hk=>s'.out k (by simpa using hk),s'.zin⟩,⟨st.os,st.tape,st.output,st.size,fun g hg hn=>?_,fun g hg hgo=>?_,st.z,fun t h=>?_⟩⟩
 ·by_cases e:id=k
  ·subst e;rw [self x hx];exact hO'
  ·exact s'.obj k x (get k x hx e)
 ·by_cases ea:id=a
  ·by_cases eb:id=b
   ·rw [<-ea,<-eb]
   ·subst ea
    rw [self x hx] at hg
    exact (apart b y g eb (get b y hy eb) hly hg' ((same g).1 hg)).elim
  ·by_cases eb:id=b
   ·subst eb
    rw [self y hy] at hg'
    exact (apart a x g ea (get a x hx ea) hlx hg ((same g).1 hg')).elim
   ·exact s'.inj a b x y g (get a x hx ea) (get b y hy eb) hlx hly hg hg'
 ·exact st.keep g hg fun h=>hn (own0 g h)
 ·obtain ⟨k,x,hx,hlx,hgx⟩:=hgo
  by_cases e:id=k
  ·subst e
   rw [self x hx] at hgx
   exact ⟨id,o,hm,hl,(same g).1 hgx⟩
  ·exact own0 g (st.owned g hg ⟨k,x,get k x hx e,hlx,hgx⟩)
 ·have h0:noA t (mem.set id .dead):=h.set hm fun n e=>by cases e
  obtain ⟨h1,h2⟩:=st.ar t h0
  refine ⟨h1.set hd fun n e=>?_,h2⟩
  exact absurd e (h id o n hm)
def Safe (cfg:Cfg) (n0:Nat) (ws:List Nat) (c:Code) (s:S) (R:Ex->S->Prop):Prop :=
 ∀(a:Act) (w:World) (Z:Zs) (j:J),St Z w j s.env a->SR cfg.P Z w j s.mem->∀(Q:Exit->Act->World->Prop),
  (∀x s' a' w',R x s'->AfterC cfg.P n0 Z w j s.mem s' a' w'->KeptC ws w a a' w'->Q x.toExit a' w')->∀m,c.wpIn (FR none) m cfg.P Q a w
variable {cfg:Cfg} {call:CallF} {n n0:Nat} {ws ws1 ws2:List Nat} {s:S} {R R1:Ex->S->Prop}
theorem Safe.exec {pr:Nat->Bool} (hm:cfg.P.follows .mixedOrders=true) (hp:PureOK cfg.P call.pc) (hi:ImpOK cfg.P call.ic) (hsq:SeqOK cfg.P cfg.seqp) {c:Code} {cc:C} {x:Ex} {s':S}
  (hc:prep pr c=some (bare cc)) (h:exec cfg call n n0 cc s=some (x,s')) (hR:R x s'):Safe cfg n0 (wrs cc) c s R :=
 fun a w Z j st sr Q hQ m=>exec_sound hm hp hi hsq c none cc s x s' hc (fun e=>(e rfl).elim) h a w Z j st sr Q (fun a' w' h1 h2=>hQ x s' a' w' hR h1 h2) m
theorem Safe.mono {c:Code} (h:Safe cfg n0 ws c s R1) (hr:∀x s',R1 x s'->R x s'):Safe cfg n0 ws c s R :=
 fun a w Z j st sr Q hQ m=>h a w Z j st sr Q (fun x s' a' w' h1=>hQ x s' a' w' (hr x s' h1)) m
theorem Safe.weak {c:Code} (h:Safe cfg n0 ws1 c s R) (hs:∀i∈ws1,i∈ws):Safe cfg n0 ws c s R :=
 fun a w Z j st sr Q hQ m=>h a w Z j st sr Q (fun x s' a' w' h1 h2 h3=>hQ x s' a' w' h1 h2 (h3.weak hs)) m
theorem Safe.seq {p q:Code} (h1:Safe cfg n0 ws1 p s R1) (h2:∀s1,R1 .norm s1->Safe cfg n0 ws2 q s1 R) (h3:∀x s1,x≠.norm->R1 x s1->R x s1):Safe cfg n0 (ws1++ws2) (.seq p q) s R:=by
 intro a w Z j st sr Q hQ m
 refine wpIn_seq (h1 a w Z j st sr _ (fun x s1 a1 w1 hr haf hk=>?_) m)
 cases x with
 | norm =>
  obtain ⟨Z1,j1,q1,q2,q3,q4⟩:=haf
  refine h2 s1 hr a1 w1 Z1 j1 q1 q2 Q (fun x2 s2 a' w' hr2 h' hk'=>?_) m
  obtain ⟨Z2,j2,r1,r2,r3,r4⟩:=h'
  exact hQ x2 s2 a' w' hr2 ⟨Z2,j2,r1,r2,q3.trans r3,q4.trans r4⟩ (hk.trans q2 r3 q3.size hk')
 | exit i=>exact hQ _ s1 a1 w1 (h3 _ _ (by simp) hr) haf (hk.weak fun i hi=>List.mem_append.2 (.inl hi))
 | ret=>exact hQ _ s1 a1 w1 (h3 _ _ (by simp) hr) haf (hk.weak fun i hi=>List.mem_append.2 (.inl hi))
theorem Safe.forget {c:Code} (f:List Nat) (h:Safe cfg n0 ws c s fun x s'=>R x ⟨forget s'.env f,s'.mem⟩):Safe cfg n0 ws c s R :=
 fun a w Z j st sr Q hQ m=>h a w Z j st sr Q (fun x s' a' w' h1 ⟨Z1,j1,q1,q2,q3,q4⟩ h3=>hQ x _ a' w' h1 ⟨Z1,j1,forget_sound f _ q1,q2,q3,q4⟩ h3) m
theorem Safe.clean {c:Code} (f:List Nat) (h:Safe cfg n0 ws c s fun x s'=>R x (clean n0 f s')):Safe cfg n0 ws c s R :=
 fun a w Z j st sr Q hQ m=>h a w Z j st sr Q (fun x s' a' w' h1 ⟨Z1,j1,q1,q2,q3,q4⟩ h3=>by
  obtain ⟨j2,r1,r2,r3,r4⟩:=clean_sound n0 f q1 q2
  exact hQ x _ a' w' h1 ⟨Z1,j2,r1,r2,q3.trans r3,q4.trans r4⟩ h3) m
theorem Safe.cond {cnd:Operand} {p q:Code} {t:Bool} (hc:evalO s.env cnd=some (.bool t)) (h:Safe cfg n0 ws (if t then p else q) s R):Safe cfg n0 ws (.cond cnd p q) s R:=by
 intro a w Z j st sr Q hQ m
 have hv:=st.eval cnd _ hc
 cases hu:a.eval cnd<;>rw [hu] at hv<;>cases hv
 exact wpIn_cond hu (h a w Z j st sr Q hQ m)
theorem Safe.block {id:Nat} {p:Code} (h:Safe cfg n0 ws p s fun x s'=>R (match x with | .exit i=>if i=id then .norm else .exit i | x=>x) s'):Safe cfg n0 ws (.block id p) s R:=by
 intro a w Z j st sr Q hQ m
 refine wpIn_block (h a w Z j st sr _ (fun x s1 a1 w1 hr haf hk=>?_) m)
 cases x with
 | norm=>exact hQ _ s1 a1 w1 hr haf hk
 | ret=>exact hQ _ s1 a1 w1 hr haf hk
 | exit i =>
  show (if i=id then Q .normal a1 w1 else Q (.exit i) a1 w1)
  simp only at hr
  split
  ·rename_i e;rw [if_pos e] at hr;exact hQ .norm s1 a1 w1 hr haf hk
  ·rename_i e;rw [if_neg e] at hr;exact hQ (.exit i) s1 a1 w1 hr haf hk
theorem Safe.skip (hR:R .norm s):Safe cfg n0 [] .skip s R:=fun a w Z j st sr Q hQ m=>wpIn_skip (hQ .norm s a w hR ⟨Z,j,st,sr,Stp.refl _ _ _ _,JK.refl _ _⟩ (KeptC.refl _ _ _ _))
theorem Safe.loop {p:Code} (I:Nat->S->Prop) {k:Nat} (h0:I k s) (hr:∀k s,I k s->Safe cfg n0 ws p s fun x s'=>match x with | .norm=>∃k',k=k'+1/\I k' s' | x=>R x s'):Safe cfg n0 ws (.loop p) s R:=by
 intro a w Z j st sr Q hQ m
 refine wpIn_loop_rounds (k+1) ?_
 have key:∀(k:Nat) (s:S),I k s->∀(a:Act) (w:World) (Z:Zs) (j:J),St Z w j s.env a->SR cfg.P Z w j s.mem ->
   (∀x s' a' w',R x s'->AfterC cfg.P n0 Z w j s.mem s' a' w'->KeptC ws w a a' w'->Q x.toExit a' w')->Code.roundsIn (FR none) m cfg.P p Q (k+1) a w:=by
  intro k
  induction k with
  | zero =>
   intro s hI a w Z j st sr hQ
   rw [roundsIn_succ]
   refine hr 0 s hI a w Z j st sr _ (fun x s1 a1 w1 h1 haf hk=>?_) m
   cases x with
   | norm=>obtain ⟨_,e,_⟩:=h1;cases e
   | exit i=>exact hQ _ s1 a1 w1 h1 haf hk
   | ret=>exact hQ _ s1 a1 w1 h1 haf hk
  | succ k ih =>
   intro s hI a w Z j st sr hQ
   rw [roundsIn_succ]
   refine hr _ s hI a w Z j st sr _ (fun x s1 a1 w1 h1 haf hk=>?_) m
   cases x with
   | norm =>
    obtain ⟨k',e,h1⟩:=h1
    have e:k'=k:=by omega
    subst e
    obtain ⟨Z1,j1,q1,q2,q3,q4⟩:=haf
    refine ih s1 h1 a1 w1 Z1 j1 q1 q2 fun x s2 a' w' hr2 h' hk'=>?_
    obtain ⟨Z2,j2,r1,r2,r3,r4⟩:=h'
    exact hQ x s2 a' w' hr2 ⟨Z2,j2,r1,r2,q3.trans r3,q4.trans r4⟩ ((hk.trans q2 r3 q3.size hk').weak fun i hi=>(List.mem_append.1 hi).elim id id)
   | exit i=>exact hQ _ s1 a1 w1 h1 haf hk
   | ret=>exact hQ _ s1 a1 w1 h1 haf hk
 exact key k s h0 a w Z j st sr hQ
theorem pre_sound {r:Option Nat} {m:Nat} (hp:PureOK cfg.P call.pc) (hi:ImpOK cfg.P call.ic) {ops:Array Oper} {Q:Exit->Act->World->Prop} {l2:List Oper} :
  ∀(opers:List Oper) (l:List OpA) (env:List V) (mem:List O) (s':S) (a:Act) (w:World) (Z:Zs) (j:J),Preps ops opers l->opsA cfg call false l ⟨env,mem⟩=some s'->St Z w j env a->SR cfg.P Z w j mem ->
   (∀a' w',After cfg.P Z w j mem s' a' w'->Kept l a a'->wpListIn (FR r) m cfg.P ops Q l2 a' w')->wpListIn (FR r) m cfg.P ops Q (opers++l2) a w:=by
 intro opers
 induction opers with
 | nil =>
  intro l env mem s' a w Z j hl h st sr hQ
  have:l=[]:=List.eq_nil_of_length_eq_zero hl.1
  subst this
  simp [opsA] at h
  subst h
  exact hQ a w ⟨Z,j,st,sr,Stp.refl _ _ _ _,JExt.refl _⟩ (Kept.refl _ _)
 | cons o opers ih =>
  intro l env mem s' a w Z j hl h st sr hQ
  cases l with
  | nil=>have:=hl.1;simp at this
  | cons q rest =>
   have hq:=hl.2 0 o q rfl rfl
   have hr:Preps ops opers rest:=⟨by have:=hl.1;simpa using this,fun k o' q' h1 h2=>hl.2 (k+1) o' q' (by simpa using h1) (by simpa using h2)⟩
   simp only [opsA] at h
   cases hw:wantedA env q.guard with
   | none=>simp [hw] at h
   | some b =>
    have hwt:=wanted_sound hq st hw
    obtain ⟨g,bx,sq,rx,rfl,_⟩:=hq
    simp only [wpListIn,hwt,List.cons_append]
    cases b
    ·simp [hw] at h
     rw [if_neg (by simp)]
     exact ⟨fun _ _=>trivial,ih rest _ mem s' _ w Z j hr h (st.put o.dst (.tup (us:=[]) rfl fun i c u hc=>by simp at hc)) sr fun a' w' h1 h2=>hQ a' w' h1 (Kept.cons (a1:=a) (o:=⟨o.dst,o.op,o.type,g,bx,sq,rx⟩) h2)⟩
    ·simp only [hw,Option.bind_some,if_true] at h
     rw [if_pos rfl]
     cases ho:opX cfg call (drO false ⟨o.dst,o.op,o.type,g,bx,sq,rx⟩) ⟨o.dst,o.op,o.type,g,bx,sq,rx⟩ env mem with
     | none=>simp [ho] at h
     | some r =>
      obtain ⟨v,m⟩:=r
      simp only [ho,Option.bind_some] at h
      have hop:=opX_sound hp hi sr st.eval ho
      refine oper_in (opX_nodefer ho) hop ?_
      rintro u w1 ⟨Z1,j1,hv,s1,stp,je⟩
      refine ih rest _ m s' _ w1 Z1 j1 hr h ((st.mono stp.z je).put o.dst hv) s1 fun a' w' ⟨Z2,j2,h1,h2,h3,h4⟩ hk=>hQ a' w' ⟨Z2,j2,h1,h2,stp.trans h3,je.trans h4⟩ (Kept.cons (a1:=a) (o:=⟨o.dst,o.op,o.type,g,bx,sq,rx⟩) hk)
theorem wanted_none {o:Oper} (h:o.guard=none) (x:Nat->Option Bool):Region.wanted o x=true:=by simp [Region.wanted,h]
def leftP (es:List (V × V)) (es':Array MapEntry) (seen:Array Nat):List (V × V):=((es.zip es'.toList).filter fun p=>!seen.contains p.2.born).map (·.1)
theorem leftP_nil {es:List (V × V)} {es':Array MapEntry} (hl:es.length=es'.size) {seen:Array Nat} (h:(leftOf es' seen).size=0):leftP es es' seen=[]:=by
 unfold leftP
 rw [List.map_eq_nil_iff,List.filter_eq_nil_iff]
 rintro ⟨kv,e⟩ hp
 have he:e∈es'.toList:=(List.of_mem_zip hp).2
 intro hs
 have:e∈leftOf es' seen:=by
  unfold leftOf
  rw [Array.mem_filter]
  exact ⟨by simpa using he,hs⟩
 rw [Array.eq_empty_of_size_eq_zero h] at this
 simp at this
theorem leftP_all (es:List (V × V)) {es':Array MapEntry} (hl:es.length=es'.size):leftP es es' #[]=es:=by
 unfold leftP
 have:((es.zip es'.toList).filter fun p=>!(#[]:Array Nat).contains p.2.born)=es.zip es'.toList:=List.filter_eq_self.2 fun p _=>by simp
 rw [this]
 exact List.map_fst_zip (by simp [hl])
theorem nodup_filter {α:Type} (f:α->Nat):∀(l l1 l2:List α) (x:α),(l.map f).Nodup->l=l1++x::l2->l.filter (fun y=>!(f y==f x))=l1++l2:=by
 intro l l1 l2 x hn e
 subst e
 rw [List.map_append,List.map_cons,List.nodup_append] at hn
 obtain ⟨h1,h2,h3⟩:=hn
 have h2':=List.nodup_cons.1 h2
 rw [List.filter_append,List.filter_cons_of_neg (by simp),List.filter_eq_self.2,List.filter_eq_self.2]
 ·intro y hy
  have:f y≠f x:=fun e=>h2'.1 (e ▸ List.mem_map.2 ⟨y,hy,rfl⟩)
  simpa using this
 ·intro y hy
  have:f y≠f x:=h3 _ (List.mem_map.2 ⟨y,hy,rfl⟩) _ (by simp)
  simpa using this
theorem leftP_step {es:List (V × V)} {es':Array MapEntry} (hl:es.length=es'.size) {seen:Array Nat} (hn:(es'.toList.map (·.born)).Nodup) {e:MapEntry} (he:e∈(leftOf es' seen).toList) :
  ∃(l1:List (V × V)) (i:Nat) (a x:V) (l2:List (V × V)),es[i]? = some (a,x)/\es'[i]? = some e/\leftP es es' seen=l1++(a,x)::l2/\leftP es es' (seen.push e.born)=l1++l2:=by
 have he0:e∈leftOf es' seen:=by simpa using he
 unfold leftOf at he0
 rw [Array.mem_filter] at he0
 obtain ⟨hm,hs⟩:=he0
 obtain ⟨i,hi,hei⟩:=Array.getElem_of_mem hm
 have hie:i < es.length:=by omega
 have hz:(es.zip es'.toList)[i]? = some (es[i],e):=by
  rw [List.getElem?_zip_eq_some]
  exact ⟨List.getElem?_eq_getElem hie,by simp [hi,hei]⟩
 have hzm:(es[i],e)∈(es.zip es'.toList).filter fun p=>!seen.contains p.2.born:=List.mem_filter.2 ⟨List.mem_of_getElem? hz,hs⟩
 obtain ⟨l1,l2,hsp⟩:=List.append_of_mem hzm
 have hnz:((es.zip es'.toList).map (·.2.born)).Nodup:=by
  have:(es.zip es'.toList).map (·.2.born)=es'.toList.map (·.born):=by
   rw [show (es.zip es'.toList).map (·.2.born)=((es.zip es'.toList).map Prod.snd).map (·.born) from by rw [List.map_map];rfl,List.map_snd_zip (by simp [hl])]
  rw [this];exact hn
 have hnf:(((es.zip es'.toList).filter fun p=>!seen.contains p.2.born).map (·.2.born)).Nodup:=hnz.sublist (List.filter_sublist.map _)
 refine ⟨l1.map (·.1),i,es[i].1,es[i].2,l2.map (·.1),List.getElem?_eq_getElem hie,by rw [Array.getElem?_eq_getElem hi,hei],?_,?_⟩
 ·unfold leftP
  rw [hsp]
  simp
 ·unfold leftP
  have:((es.zip es'.toList).filter fun p=>!(seen.push e.born).contains p.2.born)=((es.zip es'.toList).filter fun p=>!seen.contains p.2.born).filter fun p=>!(p.2.born==e.born):=by
   rw [List.filter_filter]
   congr 1
   funext p
   simp only [Array.contains_push,Bool.not_or]
   rw [Bool.and_comm]
  rw [this,nodup_filter (fun p:(V × V) × MapEntry=>p.2.born) _ l1 l2 (es[i],e) hnf hsp]
  simp
theorem findM_set_ne {t:TypeId}:∀{mem:List O} {i id id':Nat} {ms:List (List (V × V))},findM t i mem=some (id',ms)->i+id≠id'->findM t i (mem.set id .dead)=some (id',ms)
 | [],_,_,_,_,h,_=>by simp [findM] at h
 | x::l,i,0,id',ms,h,hne=>by
  rw [List.set_cons_zero]
  show findM t (i+1) l=_
  cases x<;>first | exact h | skip
  rename_i t' ms'
  simp only [findM] at h
  by_cases e:(t'==t)=true
  ·rw [e] at h;cases h;simp at hne
  ·simp only [e,cond_false] at h;exact h
 | x::l,i,id+1,id',ms,h,hne=>by
  rw [List.set_cons_succ]
  have ih:findM t (i+1) l=some (id',ms)->findM t (i+1) (l.set id .dead)=some (id',ms):=fun h=>findM_set_ne h (by omega)
  cases x<;>first | exact ih h | skip
  rename_i t' ms'
  simp only [findM] at h |-
  by_cases e:(t'==t)=true
  ·rw [e] at h |-;exact h
  ·simp only [e,cond_false] at h |-;exact ih h
theorem Safe.mrange {call:CallF} (hp:PureOK cfg.P call.pc) (hi:ImpOK cfg.P call.ic)
  {idR idN idE out nxt it nx more pr:Nat} {opsR opsN opsE:Array Oper} {B:Code} {pre rest:List Oper} {oR oN oM oE:Oper} {t tk te:TypeId} {xR:Operand} {lR lE:List OpA}
  (hR:opsR.toList=pre++[oR]) (hR1:oR.op = .range t xR) (hR2:oR.dst=some it) (hR3:oR.guard=none) (hRt:cfg.P.underlying t=some (.map tk te))
  (hN:opsN.toList=[oN,oM]) (hN1:oN.op = .next (.tmp it) false) (hN2:oN.dst=some nx) (hN3:oN.guard=none)
  (hM1:oM.op = .extract (.tmp nx) 0) (hM2:oM.dst=some more) (hM3:oM.guard=none)
  (hE:opsE.toList=oE::rest) (hE1:oE.op = .entry (.tmp it)) (hE2:oE.dst=some pr) (hE3:oE.guard=none)
  (hlR:Preps opsR pre lR) (hlE:Preps opsE rest lE)
  {s s1:S} (hs1:opsA cfg call false lR s=some s1) {m:V} (hm:evalO s1.env xR=some m) {es:List (V × V)} (hes:mapAt s1.mem m=some es)
  {id:Nat} {o:O} (hid:s1.mem[id]? = some o) (ho:o.mapLike=true) (hidm:mapAt (s1.mem.set id .dead) m=none) (hn0:id < n0)
  (I:List (V × V)->S->Prop) (R:Ex->S->Prop) (fg wB ws:List Nat)
  (hI0:I es ⟨s1.env.set it .junk,s1.mem.set id .dead⟩)
  (hId:∀left s,I left s->s.mem[id]? = some .dead/\nx < s.env.length/\more < s.env.length)
  (hround:∀(l1 l2:List (V × V)) (k v:V) (s:S),I (l1++(k,v)::l2) s->∃sB,opsA cfg call false lE ⟨((s.env.set nx (.tup [.bool true,k,v])).set more (.bool true)).set pr (.tup [k,v]),s.mem⟩=some sB /\
   Safe cfg n0 wB B sB fun x s'=>((x = .norm∨x = .exit nxt)/\I (l1++l2) ⟨Go.Lite.forget s'.env fg,s'.mem⟩)∨(x = .ret/\s'.mem[id]? = some .dead/\R .ret ⟨s'.env,s'.mem.set id o⟩))
  (hdone:∀s,I [] s->R .norm ⟨(s.env.set nx (.tup [.bool false])).set more (.bool false),s.mem.set id o⟩)
  (hitl:it < s1.env.length) (hnit:it≠nx/\it≠more/\it≠pr/\nx≠more/\it∉wB/\∀q∈lE,q.dst≠some it)
  (hws:∀i,i=it∨i=nx∨i=more∨i=pr∨i∈lR.filterMap (·.dst)∨i∈lE.filterMap (·.dst)∨i∈wB->i∈ws) (hnxt:nxt≠out) :
  Safe cfg n0 ws (.seq (.region idR opsR false) (.block out (.loop (.seq (.region idN opsN false) (.seq (.cond (.tmp more) .skip (.exit out)) (.block nxt (.seq (.region idE opsE false) B))))))) s R:=by
 intro a w Z j st sr Q hQ m0
 refine wpIn_seq (wpIn_region_list ?_)
 rw [hR]
 refine pre_sound hp hi pre lR s.env s.mem s1 a w Z j hlR hs1 st sr ?_
 rintro a1 w1 ⟨Z1,j1,st1,sr1,stp1,je1⟩ hk1
 have hsz1:=stp1.size
 have hv:=st1.eval xR m hm
 obtain ⟨bm,hu,es',clock,hb,hlen,hent,hznb,hstamp⟩:=mapAt_sound sr1 hes hv
 obtain ⟨hst1,hst2,_⟩:=(stamped_iff es' clock).1 hstamp
 have hrun:=run_range_map (P:=cfg.P) w1 t tk te bm es' clock hRt hb
 simp only [wpListIn,wanted_none hR3,if_true]
 refine ⟨fun _ _=>trivial,?_⟩
 rw [Oper.semAt_eq _ _ _ (by intro c e;rw [hR1] at e;cases e)]
 have hex:(execOp a1.eval oR).run cfg.P w1 = .ok (.value (.pointer (some ⟨w1.heap.size,0,none⟩))) (w1.alloc (.mapIter (some bm) clock #[] clock)):=by
  simp only [execOp,hR1,hu,Sem.run_bind,hrun,Result.andThen_ok,Sem.run_pure]
 rw [hex]
 show Code.wpIn _ _ _ _ _ (a1.put oR.dst (.pointer (some ⟨w1.heap.size,0,none⟩))) (w1.alloc (.mapIter (some bm) clock #[] clock))
 rw [hR2]
 obtain ⟨r,hr⟩:∃r,r=w1.heap.size:=⟨_,rfl⟩
 rw [<-hr]
 obtain ⟨a2,ha2⟩:∃a2,a2=a1.put (some it) (.pointer (some ⟨r,0,none⟩)):=⟨_,rfl⟩
 obtain ⟨w2,hw2⟩:∃w2,w2=w1.alloc (.mapIter (some bm) clock #[] clock):=⟨_,rfl⟩
 rw [<-ha2,<-hw2]
 have sr1h:=sr1.hide id
 have sr2:SR cfg.P Z1 w2 j1 (s1.mem.set id .dead):=by rw [hw2];exact sr1h.alloc _
 have zA:ZExt Z1 w1 Z1 w2:=by rw [hw2];exact alloc_z sr1.zin
 have stp2:Stp Z1 w1 j1 (s1.mem.set id .dead) Z1 w2 j1 (s1.mem.set id .dead):=by rw [hw2];exact Stp.alloc sr1h _
 have st2:St Z1 w2 j1 (s1.env.set it .junk) a2:=by rw [ha2];exact (st1.mono zA (JExt.refl _)).put (some it) .junk
 have hr2:w2.heap[r]? = some (.mapIter (some bm) clock #[] clock):=by rw [hw2,hr];exact World.alloc_heap_new w1 _
 have bmlt:bm < w1.heap.size:=(Array.getElem?_eq_some_iff.1 hb).1
 have hb2:w2.heap[bm]? = some (.map es' clock):=by rw [hw2];exact (heap_push_old (w:=w1) (w1:=w1.alloc _) rfl bmlt).trans hb
 have hbout:¬Owned Z1 j1 (s1.mem.set id .dead) bm:=by
  rintro ⟨k,x,hx,hlx,hg⟩
  have hlt:id < s1.mem.length:=(List.getElem?_eq_some_iff.1 hid).1
  have hne:id≠k:=by
   rintro rfl
   rw [List.getElem?_set_self hlt] at hx;cases hx;cases hlx
  rw [List.getElem?_set_ne hne] at hx
  have hBid:Blk Z1 j1 id o bm:=by
   cases m with
   | mp k' =>
    simp only [mapAt] at hes hidm
    have e:id=k':=by
     apply Classical.byContradiction
     intro e
     rw [List.getElem?_set_ne e] at hidm
     rw [hes] at hidm
     cases hidm
    subst e
    rw [hid] at hes
    cases o<;>simp only at hes<;>first | (cases hes;done) | skip
    rw [hu] at hv
    cases hv with
    | mp hj=>simp [Blk,O.ar,blkOf,hj,Han.blk]
   | hm t' k' =>
    simp only [mapAt,obi] at hes
    obtain ⟨⟨id',ms⟩,hf,hk'⟩:=hes
    have e:id=id':=by
     apply Classical.byContradiction
     intro e
     have h2:=findM_set_ne (id:=id) hf (by omega)
     simp only [mapAt,h2,Option.bind_some,hk'] at hidm
     cases hidm
    subst e
    have:=findM_mem hf
    rw [hid] at this
    cases this
    rw [hu] at hv
    cases hv with
    | hm hg=>exact ⟨k',(List.getElem?_eq_some_iff.1 hk').1,hg⟩
   | _=>simp [mapAt] at hes
  have hlo:o.live=true:=by cases o<;>first | rfl | (cases ho;done)
  exact hne (sr1.inj id k o x bm hid hx hlo hlx hBid hg)
 have hdone0:∀(x:Ex) (s':S) (a':Act) (w':World) (Z':Zs) (j':J),s'.mem[id]? = some .dead->R x ⟨s'.env,s'.mem.set id o⟩->St Z' w' j' s'.env a'->SR cfg.P Z' w' j' s'.mem->Stp Z1 w1 j1 (s1.mem.set id .dead) Z' w' j' s'.mem->JK n0 j1 j'->KeptC ws w a a' w'->Q x.toExit a' w':=by
  intro x s' a' w' Z' j' hd hR' q1 q2 q3 q4 hk
  obtain ⟨u1,u2⟩:=sr1.unhide hid ho q2 q3 hd (fun y hy=>q4 id y hn0 hy)
  exact hQ x _ a' w' hR' ⟨Z',j',q1,u1,stp1.trans u2,(JK.of je1).trans q4⟩ hk
 refine wpIn_block (wpIn_loop_rounds (es.length+1) ?_)
 have key:∀(N:Nat) (left:List (V × V)) (seen:Array Nat) (sk:S) (a':Act) (w':World) (Z':Zs) (j':J),left.length < N->left=leftP es es' seen->I left sk->St Z' w' j' sk.env a'->SR cfg.P Z' w' j' sk.mem ->
   Stp Z1 w1 j1 (s1.mem.set id .dead) Z' w' j' sk.mem->JK n0 j1 j'->KeptC ws w a a' w'->a'.tmps[it]? = some (.pointer (some ⟨r,0,none⟩))->w'.heap[r]? = some (.mapIter (some bm) clock seen clock)->w'.heap[bm]? = some (.map es' clock) ->
   Code.roundsIn (FR none) m0 cfg.P (.seq (.region idN opsN false) (.seq (.cond (.tmp more) .skip (.exit out)) (.block nxt (.seq (.region idE opsE false) B)))) (Exit.inBlock out Q) N a' w':=by
  intro N
  induction N with
  | zero=>intro left seen sk a' w' Z' j' h;omega
  | succ N ih =>
   intro left seen sk a' w' Z' j' hlN hleft hI q1 q2 q3 q4 hk hit hrw hbw
   rw [roundsIn_succ]
   obtain ⟨hdead,hnxl,hmol⟩:=hId left sk hI
   refine wpIn_seq (wpIn_region_list ?_)
   rw [hN]
   simp only [wpListIn,wanted_none hN3,if_true]
   refine ⟨fun _ _=>trivial,?_⟩
   rw [Oper.semAt_eq _ _ _ (by intro c e;rw [hN1] at e;cases e)]
   have hev:a'.eval (.tmp it) = .pointer (some ⟨r,0,none⟩):=by simp [Act.eval,hit,Array.getD_eq_getD_getElem?]
   have hasz:=q1.len
   have itlt:it < a'.tmps.size:=(Array.getElem?_eq_some_iff.1 hit).1
   have exM:∀(b:Bool) (us:Array Value) (ab:Act) (wb:World),ab.tmps[nx]? = some (.tuple us)->us[0]? = some (.bool b)->(execOp ab.eval oM).run cfg.P wb = .ok (.value (.bool b)) wb:=by
    intro b us ab wb h1 h2
    have:ab.eval (.tmp nx) = .tuple us:=by simp [Act.eval,h1,Array.getD_eq_getD_getElem?]
    simp only [execOp,hM1,this]
    simp [Instr.extract,h2]
   have hrn:r ≥ w1.heap.size:=by omega
   rcases run_next_at (P:=cfg.P) w' oN.type r bm clock clock seen es' clock hrw hbw (fun x hx=>hst1 x hx) (Nat.le_refl _) with ⟨hz,hne⟩ | ⟨e,he,w3,hw3,hne⟩
   ·-- none is left
    have hl0:left=[]:=by rw [hleft];exact leftP_nil hlen hz
    subst hl0
    have hexN:(execOp a'.eval oN).run cfg.P w' = .ok (.value (.tuple #[.bool false])) w':=by
     simp only [execOp,hN1,hev,Sem.run_bind,hne,Result.andThen_ok,Sem.run_pure]
    rw [hexN,Oper.uponIn_value,hN2]
    rw [if_pos (wanted_none hM3 _)]
    refine ⟨fun _ _=>trivial,?_⟩
    rw [Oper.semAt_eq _ _ _ (by intro c e;rw [hM1] at e;cases e)]
    have hnxs:(a'.put (some nx) (.tuple #[.bool false])).tmps[nx]? = some (.tuple #[.bool false]):=by
     have hlt:nx < a'.tmps.size:=by omega
     simp [Act.put,Array.getElem?_setIfInBounds,hlt]
    rw [exM false #[.bool false] _ w' hnxs rfl,Oper.uponIn_value,hM2]
    show Exit.then _ _ Exit.normal _ _
    refine wpIn_seq (wpIn_cond_false ?_ (wpIn_exit ?_))
    ·have:more < (a'.put (some nx) (.tuple #[.bool false])).tmps.size:=by simp [Act.put];omega
     simp [Act.eval,Act.put,Array.getD_eq_getD_getElem?,Array.getElem?_setIfInBounds,hasz,hmol]
    ·show Exit.inBlock out Q (.exit out) _ _
     simp only [Exit.inBlock,if_true]
     have s1':St Z' w' j' (sk.env.set nx (.tup [.bool false])) (a'.put (some nx) (.tuple #[.bool false])):=q1.put (some nx) (.tup (us:=[.bool false]) rfl fun i c u hc hu=>by
      match i,hc,hu with
      | 0,hc,hu=>simp at hc hu;subst hc;subst hu;exact .bool
      | i+1,hc,hu=>simp at hc)
     have s2':St Z' w' j' ((sk.env.set nx (.tup [.bool false])).set more (.bool false)) ((a'.put (some nx) (.tuple #[.bool false])).put (some more) (.bool false)):=s1'.put (some more) .bool
     refine hdone0 .norm ⟨(sk.env.set nx (.tup [.bool false])).set more (.bool false),sk.mem⟩ _ w' Z' j' hdead (hdone sk hI) s2' q2 q3 q4 ?_
     refine ⟨hk.marks,by simp [Act.put];exact hk.size,fun i hi=>?_⟩
     have h1:nx≠i:=fun e=>hi (hws i (.inr (.inl e.symm)))
     have h2:more≠i:=fun e=>hi (hws i (.inr (.inr (.inl e.symm))))
     simp only [Act.put]
     rw [Array.getElem?_setIfInBounds_ne h2,Array.getElem?_setIfInBounds_ne h1]
     exact hk.tmps i hi
   ·-- one more
    obtain ⟨l1,i,ka,va,l2,g1,g2,g3,g4⟩:=leftP_step hlen hst2 he
    have hl0:=hleft.trans g3
    subst hl0
    have same3:Same w' w3:=by rcases hw3 with rfl | rfl<;>exact ⟨rfl,rfl,rfl,rfl⟩
    obtain ⟨w4,hw4⟩:∃w4,w4=w3.putObj r (.mapIter (some bm) clock (seen.push e.born) clock):=⟨_,rfl⟩
    have hsb:Go.ChangeMaps.setBlock w3 r (.mapIter (some bm) clock (seen.push e.born) clock)=w4:=by rw [hw4];rfl
    rw [hsb] at hne
    have hexN:(execOp a'.eval oN).run cfg.P w' = .ok (.value (.tuple #[.bool true,e.key,e.val])) w4:=by
     simp only [execOp,hN1,hev,Sem.run_bind,hne,Result.andThen_ok,Sem.run_pure]
    rw [hexN,Oper.uponIn_value,hN2]
    have hrw3:w3.heap[r]? = some (.mapIter (some bm) clock seen clock):=by rw [same3.1];exact hrw
    have hbw3:w3.heap[bm]? = some (.map es' clock):=by rw [same3.1];exact hbw
    have rlt:r < w3.heap.size:=(Array.getElem?_eq_some_iff.1 hrw3).1
    have z3:ZExt Z' w' Z' w3:=same_z same3
    have z4:ZExt Z' w3 Z' w4:=by rw [hw4];exact book_z hrw3 rfl rfl
    have zz:=z3.trans z4
    have sr4:SR cfg.P Z' w4 j' sk.mem:=by rw [hw4];exact (q2.same same3).book hrw3 rfl rfl
    have stp4:Stp Z1 w1 j1 (s1.mem.set id .dead) Z' w4 j' sk.mem:=by rw [hw4];exact (q3.same same3).book hrn hrw3 rfl rfl
    have hr4:w4.heap[r]? = some (.mapIter (some bm) clock (seen.push e.born) clock):=by rw [hw4];exact World.putObj_heap_same rlt
    have rb:bm≠r:=by rintro rfl;rw [hrw3] at hbw3;cases hbw3
    have hb4:w4.heap[bm]? = some (.map es' clock):=by rw [hw4];exact (World.putObj_heap_other rb).trans hbw3
    have marks4:Mk w.heap.size w4 a.defers a'.defers:=by
     obtain ⟨Ds,e1,e2,e3⟩:=hk.marks
     refine ⟨Ds,e1,e2,fun D hD=>⟨(e3 D hD).1,?_⟩⟩
     have hD':w3.heap[D]? = some (.deferred (some [])):=by rw [same3.1];exact (e3 D hD).2
     rw [hw4]
     refine (World.putObj_heap_other ?_).trans hD'
     rintro rfl;rw [hrw3] at hD';cases hD'
    obtain ⟨e0,he0,hka,hva,vk,vv⟩:=hent i ka va g1
    rw [g2] at he0;cases he0
    have vk4:VR Z' w4 j' ka e.key:=(vk.mono (q3.z.trans zz) (JExt.zero _))
    have vv4:VR Z' w4 j' va e.val:=(vv.mono (q3.z.trans zz) (JExt.zero _))
    rw [if_pos (wanted_none hM3 _)]
    refine ⟨fun _ _=>trivial,?_⟩
    rw [Oper.semAt_eq _ _ _ (by intro c e;rw [hM1] at e;cases e)]
    have hnxs:(a'.put (some nx) (.tuple #[.bool true,e.key,e.val])).tmps[nx]? = some (.tuple #[.bool true,e.key,e.val]):=by
     have hlt:nx < a'.tmps.size:=by omega
     simp [Act.put,Array.getElem?_setIfInBounds,hlt]
    rw [exM true #[.bool true,e.key,e.val] _ w4 hnxs rfl,Oper.uponIn_value,hM2]
    show Exit.then _ _ Exit.normal _ _
    obtain ⟨a5,ha5⟩:∃a5,a5=(a'.put (some nx) (.tuple #[.bool true,e.key,e.val])).put (some more) (.bool true):=⟨_,rfl⟩
    rw [<-ha5]
    have s4:St Z' w4 j' sk.env a':=q1.mono zz (JExt.refl _)
    have s5:St Z' w4 j' ((sk.env.set nx (.tup [.bool true,ka,va])).set more (.bool true)) a5:=by
     rw [ha5]
     refine (s4.put (some nx) (.tup (us:=[.bool true,e.key,e.val]) rfl fun i c u hc hu=>?_)).put (some more) .bool
     match i,hc,hu with
     | 0,hc,hu=>simp at hc hu;subst hc;subst hu;exact .bool
     | 1,hc,hu=>simp at hc hu;subst hc;subst hu;exact vk4
     | 2,hc,hu=>simp at hc hu;subst hc;subst hu;exact vv4
     | i+3,hc,hu=>simp at hc
    have hmo5:a5.eval (.tmp more) = .bool true:=by
     rw [ha5]
     simp [Act.eval,Act.put,Array.getD_eq_getD_getElem?,Array.getElem?_setIfInBounds,hasz,hmol]
    have hit5:a5.tmps[it]? = some (.pointer (some ⟨r,0,none⟩)):=by
     rw [ha5]
     simp only [Act.put]
     rw [Array.getElem?_setIfInBounds_ne (Ne.symm hnit.2.1),Array.getElem?_setIfInBounds_ne (Ne.symm hnit.1)]
     exact hit
    have hsz5:a5.tmps.size=a'.tmps.size:=by rw [ha5];simp [Act.put]
    have hd5:a5.defers=a'.defers:=by rw [ha5];rfl
    have ht5:∀i,i∉ws->a5.tmps[i]? = a'.tmps[i]?:=by
     intro i hi
     have h1:nx≠i:=fun e=>hi (hws i (.inr (.inl e.symm)))
     have h2:more≠i:=fun e=>hi (hws i (.inr (.inr (.inl e.symm))))
     rw [ha5]
     simp only [Act.put]
     rw [Array.getElem?_setIfInBounds_ne h2,Array.getElem?_setIfInBounds_ne h1]
    refine wpIn_seq (wpIn_cond_true hmo5 (wpIn_skip ?_))
    show Code.wpIn _ _ _ _ _ a5 w4
    refine wpIn_block (wpIn_seq (wpIn_region_list ?_))
    rw [hE]
    simp only [wpListIn,wanted_none hE3,if_true]
    refine ⟨fun _ _=>trivial,?_⟩
    rw [Oper.semAt_eq _ _ _ (by intro c e;rw [hE1] at e;cases e)]
    have hev5:a5.eval (.tmp it) = .pointer (some ⟨r,0,none⟩):=by simp [Act.eval,hit5,Array.getD_eq_getD_getElem?]
    have hent5:=run_entry_at (P:=cfg.P) w4 r bm clock seen es' clock e hr4 hb4 (by
     have:=Array.mem_of_getElem? g2
     simpa using this) hst2
    have hexE:(execOp a5.eval oE).run cfg.P w4 = .ok (.value (.tuple #[e.key,e.val])) w4:=by
     simp only [execOp,hE1,hev5,Sem.run_bind,hent5,Result.andThen_ok,Sem.run_pure]
    rw [hexE,Oper.uponIn_value,hE2]
    obtain ⟨a6,ha6⟩:∃a6,a6=a5.put (some pr) (.tuple #[e.key,e.val]):=⟨_,rfl⟩
    show wpListIn _ _ _ _ _ rest (a5.put (some pr) (.tuple #[e.key,e.val])) w4
    rw [<-ha6]
    have s6:St Z' w4 j' (((sk.env.set nx (.tup [.bool true,ka,va])).set more (.bool true)).set pr (.tup [ka,va])) a6:=by
     rw [ha6]
     refine s5.put (some pr) (.tup (us:=[e.key,e.val]) rfl fun i c u hc hu=>?_)
     match i,hc,hu with
     | 0,hc,hu=>simp at hc hu;subst hc;subst hu;exact vk4
     | 1,hc,hu=>simp at hc hu;subst hc;subst hu;exact vv4
     | i+2,hc,hu=>simp at hc
    have hit6:a6.tmps[it]? = some (.pointer (some ⟨r,0,none⟩)):=by
     rw [ha6]
     simp only [Act.put]
     rw [Array.getElem?_setIfInBounds_ne (Ne.symm hnit.2.2.1)]
     exact hit5
    obtain ⟨sB,hsB,hB⟩:=hround l1 l2 ka va sk hI
    refine ops_sound hp hi rest lE _ sk.mem sB a6 w4 Z' j' hlE hsB s6 sr4 ?_
    rintro a7 w7 ⟨Z7,j7,t1,t2,t3,t4⟩ hk7
    show Code.wpIn _ _ _ _ _ a7 w7
    have keep7:∀(D:Nat) (ob:Obj),w4.heap[D]? = some ob->isBook ob=true->w7.heap[D]? = some ob:=fun D ob hD hk=>(t3.keep D (Array.getElem?_eq_some_iff.1 hD).1 (not_owned sr4 hD hk)).1.trans hD
    refine hB a7 w7 Z7 j7 t1 t2 _ (fun x s' a8 w8 hx ⟨Z8,j8,v1,v2,v3,v4⟩ hk8=>?_) m0
    have keep8:∀(D:Nat) (ob:Obj),w7.heap[D]? = some ob->isBook ob=true->w8.heap[D]? = some ob:=fun D ob hD hk=>(v3.keep D (Array.getElem?_eq_some_iff.1 hD).1 (not_owned t2 hD hk)).1.trans hD
    have hr8:w8.heap[r]? = some (.mapIter (some bm) clock (seen.push e.born) clock):=keep8 _ _ (keep7 _ _ hr4 rfl) rfl
    have stpB:Stp Z1 w1 j1 (s1.mem.set id .dead) Z8 w8 j8 s'.mem:=(stp4.trans t3).trans v3
    have hb8:w8.heap[bm]? = some (.map es' clock):=by
     rw [(stpB.keep bm bmlt hbout).1];exact hb
    have jkB:JK n0 j1 j8:=(q4.trans (JK.of t4)).trans v4
    have hk6:KeptC ws w a a6 w4:=by
     refine ⟨?_,?_,fun i hi=>?_⟩
     ·rw [show a6.defers=a'.defers by rw [ha6];exact hd5];exact marks4
     ·rw [show a6.tmps.size=a'.tmps.size by rw [ha6];simp [Act.put,hsz5]];exact hk.size
     ·have h1:pr≠i:=fun e=>hi (hws i (.inr (.inr (.inr (.inl e.symm)))))
      rw [ha6]
      simp only [Act.put]
      rw [Array.getElem?_setIfInBounds_ne h1]
      exact (ht5 i hi).trans (hk.tmps i hi)
    have hk7':KeptC ws w a a7 w7:=by
     refine (hk6.trans sr4 t3 ?_ ((KeptC.of hk7 w4 w7).weak (ws':=ws) fun i hi=>hws i (.inr (.inr (.inr (.inr (.inr (.inl hi)))))))).weak fun i hi=>(List.mem_append.1 hi).elim (fun h=>h) (fun h=>h)
     exact Nat.le_trans hsz1 stp4.size
    have hk8':KeptC ws w a a8 w8:=by
     refine (hk7'.trans t2 v3 ?_ (hk8.weak (ws':=ws) fun i hi=>hws i (.inr (.inr (.inr (.inr (.inr (.inr hi)))))))).weak fun i hi=>(List.mem_append.1 hi).elim (fun h=>h) (fun h=>h)
     exact Nat.le_trans hsz1 (Nat.le_trans stp4.size t3.size)
    have hit8:a8.tmps[it]? = some (.pointer (some ⟨r,0,none⟩)):=by
     rw [hk8.tmps it hnit.2.2.2.2.1,hk7.tmps it (fun q hq=>hnit.2.2.2.2.2 q hq)]
     exact hit6
    have nextR:I (l1++l2) ⟨Go.Lite.forget s'.env fg,s'.mem⟩->Code.roundsIn (FR none) m0 cfg.P (.seq (.region idN opsN false) (.seq (.cond (.tmp more) .skip (.exit out)) (.block nxt (.seq (.region idE opsE false) B)))) (Exit.inBlock out Q) N a8 w8:=fun hI'=>by
     refine ih (l1++l2) (seen.push e.born) ⟨Go.Lite.forget s'.env fg,s'.mem⟩ a8 w8 Z8 j8 ?_ g4.symm hI' (forget_sound fg _ v1) v2 stpB jkB hk8' hit8 hr8 hb8
     simp at hlN |-;omega
    rcases hx with ⟨rfl | rfl,hI'⟩ | ⟨rfl,hd,hR'⟩
    ·exact nextR hI'
    ·show (if nxt=nxt then _ else _)
     rw [if_pos rfl]
     exact nextR hI'
    ·exact hdone0 .ret s' a8 w8 Z8 j8 hd hR' v1 v2 stpB jkB hk8'
 refine key (es.length+1) es #[] ⟨s1.env.set it .junk,s1.mem.set id .dead⟩ a2 w2 Z1 j1 (by omega) (leftP_all es hlen).symm hI0 st2 sr2 stp2 (JK.refl _ _) ?_ ?_ hr2 hb2
 ·have h1:KeptC ws w a a1 w1:=(KeptC.of hk1 w w1).weak fun i hi=>hws i (.inr (.inr (.inr (.inr (.inl hi)))))
  refine ⟨?_,?_,fun i hi=>?_⟩
  ·obtain ⟨Ds,e1,e2,e3⟩:=h1.marks
   refine ⟨Ds,by rw [ha2];exact e1,e2,fun D hD=>⟨(e3 D hD).1,?_⟩⟩
   have hD:=(e3 D hD).2
   rw [hw2]
   exact (heap_push_old (w:=w1) (w1:=w1.alloc _) rfl (Array.getElem?_eq_some_iff.1 hD).1).trans hD
  ·rw [ha2];simp only [Act.put,Array.size_setIfInBounds];exact h1.size
  ·have h2:it≠i:=fun e=>hi (hws i (.inl e.symm))
   rw [ha2]
   simp only [Act.put]
   rw [Array.getElem?_setIfInBounds_ne h2]
   exact h1.tmps i hi
 ·rw [ha2]
  have hlt:it < a1.tmps.size:=by rw [st1.len];exact hitl
  simp [Act.put,Array.getElem?_setIfInBounds,hlt]
end
def UT (n:Nat):List V:=List.replicate n (.tup [])
section
variable {P:Program} {Z Z':Zs} {w w':World} {j j':J} {mem mem':List O} {cfg:Cfg} {kc:KC} {n0:Nat}
theorem callW_ok (hc:CfgOK cfg):PureOK cfg.P (callW cfg).pc/\ImpOK cfg.P (callW cfg).ic:=by
 refine ⟨fun f as0 r h=>?_,fun f as0 mem r mem' h=>?_⟩
 ·obtain ⟨n,hn⟩:=pcW_ex (show pcW cfg f as0=some r from h)
  exact (callN_sound hc n).1 f as0 r hn
 ·obtain ⟨n,hn⟩:=icW_ex (show icW cfg f as0 mem=some (r,mem') from h)
  exact (callN_sound hc n).2 f as0 mem r mem' hn
theorem exec0:∀(c:C) (s:S) (r:Ex × S),nl c=0->execW cfg n0 c s=some r->exec cfg (callW cfg) 0 n0 c s=some r
 | .skip,s,r,_,h=>h
 | .ops dr l,s,r,_,h=>h
 | .seq a b,s,r,hn,h=>by
  have hn:nl a=0/\nl b=0:=by simp only [nl] at hn;omega
  simp only [execW,obi] at h
  obtain ⟨q,h1,h2⟩:=h
  simp only [exec,exec0 a s q hn.1 h1,Option.bind_some]
  obtain ⟨x,s'⟩:=q
  cases x with
  | norm=>exact exec0 b s' r hn.2 h2
  | ret=>exact h2
  | exit i=>exact h2
 | .cond c a b,s,r,hn,h=>by
  have hn:nl a=0/\nl b=0:=by simp only [nl] at hn;omega
  simp only [execW,obi] at h
  obtain ⟨v,h1,h2⟩:=h
  simp only [exec,h1,Option.bind_some]
  cases v with
  | bool t =>
   cases t with
   | true=>exact exec0 a s r hn.1 h2
   | false=>exact exec0 b s r hn.2 h2
  | _=>exact h2
 | .block id c,s,r,hn,h=>by
  simp only [execW,omi] at h
  obtain ⟨q,h1,h2⟩:=h
  simp only [exec,exec0 c s q hn h1,Option.map_some]
  exact congrArg some h2
 | .loop f c,s,r,hn,h=>by simp [nl] at hn
 | .exit i,s,r,_,h=>h
 | .ret,s,r,_,h=>h
 | .start g,s,r,_,h=>h
 | .uncons g ps ws a b,s,r,hn,h=>by
  have hn:nl a=0/\nl b=0:=by simp only [nl] at hn;omega
  simp only [execW,exec] at h |-
  split at h
  ·rename_i heq;simp only [heq];exact exec0 b s r hn.2 h
  ·rename_i heq
   simp only [heq]
   split at h
   ·rename_i hl
    rw [if_pos hl]
    simp only [omi] at h |-
    obtain ⟨q,h1,h2⟩:=h
    exact ⟨q,exec0 a _ q hn.1 h1,h2⟩
   ·cases h
  ·cases h
 | .cseq f a b,s,r,hn,h=>by simp [nl] at hn
noncomputable def pieceK (kc:KC) (n0:Nat) (c:C) (s:S):R:=segK kc n0 c 0 s (fun s=>some (.head 0 s)) (fun i s=>some (.head (i+2) s)) (fun s=>some (.head 1 s))
def exOf:Nat->Ex
 | 0=>.norm
 | 1=>.ret
 | i+2=>.exit i
theorem piece_some (hik:IKOK kc) {c:C} {s s':S} {k:Nat} (hn:nl c=0) (h:pieceK kc n0 c s=some (.head k s')):execW kc.cfg n0 c s=some (exOf k,s'):=by
 rcases segK_some hik c 0 s _ _ _ _ h with ⟨s1,h1,h2⟩ | ⟨e,s1,h1,h2⟩ | ⟨s1,h1,h2⟩ | ⟨j,s1,_,h2,h3,_⟩
 ·cases h2;exact h1
 ·cases h2;exact h1
 ·cases h2;exact h1
 ·omega
noncomputable def opsP (kc:KC) (l:List OpA) (s:S):R:=opsK kc false l s.env s.mem fun env mem=>some (.head 0 ⟨env,mem⟩)
theorem ops_some (hik:IKOK kc) {l:List OpA} {s s':S} (h:opsP kc l s=some (.head 0 s')):opsA kc.cfg (callW kc.cfg) false l s=some s':=by
 obtain ⟨s1,h1,h2⟩:=opsK_some hik _ _ _ _ h
 cases h2
 exact h1
theorem Safe.piece (hc:CfgOK kc.cfg) (hik:IKOK kc) {pr:Nat->Bool} {c:Code} {cc:C} {s s':S} {k:Nat} {R:Ex->S->Prop} (hp:prep pr c=some (bare cc)) (hn:nl cc=0)
  (h:pieceK kc n0 cc s=some (.head k s')) (hR:R (exOf k) s'):Safe kc.cfg n0 (wrs cc) c s R :=
 Safe.exec (call:=callW kc.cfg) (n:=0) hc.mixed (callW_ok hc).1 (callW_ok hc).2 hc.seq hp (exec0 _ _ _ hn (piece_some hik hn h)) hR
theorem run_safe {f:FuncId} {fn:Func} {c:Code} {args:List V} {us:List Value} {vs:List V} {ws:List Nat} (hfn:cfg.P.funcs[f]? = some fn) (hb:fn.body=some c) (hn:args.length=fn.params.size+fn.nfree) (hnt:fn.params.size+fn.nfree<=fn.ntmps)
  (sr:SR cfg.P Z w j mem) (ha:VRs Z w j args us)
  (h:Safe cfg mem.length ws c ⟨args++List.replicate (fn.ntmps - args.length) (.tup []),mem⟩ fun x s'=>(x = .norm∨x = .ret)/\mapO (resV cfg.P s') (fn.results.toList.map toRV)=some vs/\s'.mem=mem') :
  Calls cfg.P f us.toArray w fun e w1=>∃u,e = .returned u/\PostOf cfg.P Z w j mem (tupV vs) mem' u w1:=by
 have st:=start_sound (nt:=fn.ntmps) ha
 refine callsIn_wide.1 (callsIn_of_wp_marks (F:=Fence.wide) (n:=0) hfn hb trivial (h _ w Z j st sr _ (fun x s' a' w' hx haf hk=>?_) 0))
 obtain ⟨hx,hv,rfl⟩:=hx
 obtain ⟨Z1,j1,q1,q2,q3,q4⟩:=haf
 have fin:LeavesInM (FR none) 0 cfg.P fn a'.tmps (fun e w1=>∃u,e = .returned u/\PostOf cfg.P Z w j mem (tupV vs) s'.mem u w1) a'.defers .returning w':=by
  obtain ⟨Ds,hDs,hnd,hDk⟩:=hk.marks
  rw [hDs,List.append_nil]
  refine leaves_marks Ds w' hnd hDk q1 q2 q3 fun w'' t1 t2 t3=>?_
  obtain ⟨xs,e1,e2,e3⟩:=results_sound (fn:=fn) t1 t2 hv
  refine ⟨_,e3,_,rfl,Z1,j1,one_or_tup e1 e2,t2,t3,fun id y hy=>?_⟩
  by_cases hlt:id < mem.length
  ·exact q4 id y hlt hy
  ·rw [sr.out id (by omega)] at hy;cases hy
 rcases hx with rfl | rfl
 ·exact fin
 ·exact fin
theorem run_safeQ {f:FuncId} {fn:Func} {c:Code} {args:List V} {us:List Value} {vs:List V} {ws:List Nat} (Q:List O->Prop) (hfn:cfg.P.funcs[f]? = some fn) (hb:fn.body=some c) (hn:args.length=fn.params.size+fn.nfree) (hnt:fn.params.size+fn.nfree<=fn.ntmps)
  (sr:SR cfg.P Z w j mem) (ha:VRs Z w j args us)
  (h:Safe cfg mem.length ws c ⟨args++List.replicate (fn.ntmps - args.length) (.tup []),mem⟩ fun x s'=>(x = .norm∨x = .ret)/\mapO (resV cfg.P s') (fn.results.toList.map toRV)=some vs/\Q s'.mem) :
  Calls cfg.P f us.toArray w fun e w1=>∃u,e = .returned u/\∃m1,Q m1/\PostOf cfg.P Z w j mem (tupV vs) m1 u w1:=by
 have st:=start_sound (nt:=fn.ntmps) ha
 refine callsIn_wide.1 (callsIn_of_wp_marks (F:=Fence.wide) (n:=0) hfn hb trivial (h _ w Z j st sr _ (fun x s' a' w' hx haf hk=>?_) 0))
 obtain ⟨hx,hv,hq⟩:=hx
 obtain ⟨Z1,j1,q1,q2,q3,q4⟩:=haf
 have fin:LeavesInM (FR none) 0 cfg.P fn a'.tmps (fun e w1=>∃u,e = .returned u/\∃m1,Q m1/\PostOf cfg.P Z w j mem (tupV vs) m1 u w1) a'.defers .returning w':=by
  obtain ⟨Ds,hDs,hnd,hDk⟩:=hk.marks
  rw [hDs,List.append_nil]
  refine leaves_marks Ds w' hnd hDk q1 q2 q3 fun w'' t1 t2 t3=>?_
  obtain ⟨xs,e1,e2,e3⟩:=results_sound (fn:=fn) t1 t2 hv
  refine ⟨_,e3,_,rfl,s'.mem,hq,Z1,j1,one_or_tup e1 e2,t2,t3,fun id y hy=>?_⟩
  by_cases hlt:id < mem.length
  ·exact q4 id y hlt hy
  ·rw [sr.out id (by omega)] at hy;cases hy
 rcases hx with rfl | rfl
 ·exact fin
 ·exact fin
theorem pickQ {ids:List Nat} {rd:Bool} {v1:V} {f:FuncId} {args:List V} {us:List Value} (Q:List O->Prop) (hn:n0<=mem.length) (hnd:ids.Nodup) (hge:∀i∈ids,n0<=i) (s:SR P Z w j mem) (ha:VRs Z w j args us)
  (H:∀jc,SR P Z w jc (tidyWith n0 ids ⟨args,mem⟩).mem->VRs Z w jc (tidyWith n0 ids ⟨args,mem⟩).env us ->
   Calls P f us.toArray w fun e w1=>∃u,e = .returned u/\∃m1,Q m1/\PostOf P Z w jc (tidyWith n0 ids ⟨args,mem⟩).mem v1 m1 u w1) :
  Calls P f us.toArray w fun e w1=>∃u,e = .returned u/\∃m1,Q m1/\PostOf P Z w j mem (canBackW rd n0 ids (tidyWith n0 ids ⟨args,mem⟩).mem mem v1 m1).1 (canBackW rd n0 ids (tidyWith n0 ids ⟨args,mem⟩).mem mem v1 m1).2 u w1:=by
 obtain ⟨sc,pre,_⟩:=tidy_core (s:=⟨args,mem⟩) hn hnd hge s
 have hv:VRs Z w (jOf n0 ids j) (tidyWith n0 ids ⟨args,mem⟩).env us:=by
  refine ⟨by simpa [tidyWith] using ha.1,fun i c u hc hu=>?_⟩
  simp only [tidyWith,List.getElem?_map,omi] at hc
  obtain ⟨c0,h0,rfl⟩:=hc
  exact (ha.2 i c0 u h0 hu).ren2 (rho_ok _ _ _)
 refine (H _ sc hv).mono ?_
 rintro e w1 ⟨u,rfl,m1,hq,hp⟩
 exact ⟨u,rfl,m1,hq,canBack_core (rd:=rd) hn hnd s sc pre hp⟩
theorem pick {ids:List Nat} {rd:Bool} {v1:V} {m1:List O} {f:FuncId} {args:List V} {us:List Value} (hn:n0<=mem.length) (hnd:ids.Nodup) (hge:∀i∈ids,n0<=i) (s:SR P Z w j mem) (ha:VRs Z w j args us)
  (H:∀jc,SR P Z w jc (tidyWith n0 ids ⟨args,mem⟩).mem->VRs Z w jc (tidyWith n0 ids ⟨args,mem⟩).env us ->
   Calls P f us.toArray w fun e w1=>∃u,e = .returned u/\PostOf P Z w jc (tidyWith n0 ids ⟨args,mem⟩).mem v1 m1 u w1) :
  Calls P f us.toArray w fun e w1=>∃u,e = .returned u/\PostOf P Z w j mem (canBackW rd n0 ids (tidyWith n0 ids ⟨args,mem⟩).mem mem v1 m1).1 (canBackW rd n0 ids (tidyWith n0 ids ⟨args,mem⟩).mem mem v1 m1).2 u w1:=by
 obtain ⟨sc,pre,_⟩:=tidy_core (s:=⟨args,mem⟩) hn hnd hge s
 have hv:VRs Z w (jOf n0 ids j) (tidyWith n0 ids ⟨args,mem⟩).env us:=by
  refine ⟨by simpa [tidyWith] using ha.1,fun i c u hc hu=>?_⟩
  simp only [tidyWith,List.getElem?_map,omi] at hc
  obtain ⟨c0,h0,rfl⟩:=hc
  exact (ha.2 i c0 u h0 hu).ren2 (rho_ok _ _ _)
 refine (H _ sc hv).mono ?_
 rintro e w1 ⟨u,rfl,hp⟩
 exact ⟨u,rfl,canBack_core (rd:=rd) hn hnd s sc pre hp⟩
theorem oldFrom_id {g:Nat->O->O} (h:∀k o,mem[k]? = some o->g k o=o):oldFrom g 0 mem=mem:=by
 obtain ⟨_,h2⟩:=oldFrom_get g mem 0
 apply List.ext_getElem?
 intro k
 rw [h2 k,Nat.zero_add]
 cases hk:mem[k]? with
 | none=>rfl
 | some o=>rw [Option.map_some,h k o hk]
def cL:Code->Code
 | .seq a _=>a
 | c=>c
def cR:Code->Code
 | .seq _ b=>b
 | c=>c
def cB:Code->Code
 | .block _ b=>b
 | .loop b=>b
 | c=>c
def regA:Code->Array Oper
 | .region _ ops _=>ops
 | _=>#[]
def prepL (ops:Array Oper) (l:List Oper):List OpA:=(mapO (prepOp ops) l).getD []
theorem preps_get {ops:Array Oper} {l:List Oper} (h:(mapO (prepOp ops) l).isSome=true):Preps ops l (prepL ops l):=by
 unfold prepL
 cases hm:mapO (prepOp ops) l with
 | none=>rw [hm] at h;cases h
 | some x=>exact preps_of hm
end
end Go.Lite
namespace Go.Proofs.YtpkeiaeaonmacaaGreat
open Go Go.Lite
abbrev Bs:=List UInt8
def faN:FA:=⟨0,0,[],[],.skip⟩
theorem fa_of {P:Program} {r:Nat->Bool} {f:Nat} (h:(fnA P r f).isSome=true):fnA P r f=some ((fnA P r f).getD faN):=by
 cases hf:fnA P r f with
 | none=>rw [hf] at h;cases h
 | some x=>rfl
def sV (s:Bs):V:=.str s
def keyI:V->Option Int
 | .int .i64 n=>if -9223372036854775808<=n/\n<=9223372036854775807 then some n else none
 | _=>none
def keyInts (es:List (V × V)):Option (List Int):=mapO (fun p=>keyI p.1) es
abbrev Nm (s:Bs):Prop:=s.length<=1099511627776
def keyS:V->Option Bs
 | .str s=>if s.length<=1099511627776 then some s else none
 | _=>none
def keyStrs (es:List (V × V)):Option (List Bs):=mapO (fun p=>keyS p.1) es
def srtS (l:List Bs):List Bs:=l.mergeSort fun x y=>decide (x<=y)
def sortedKP (fk:List Nat):List V->List O->Option (V × List O)
 | [.fn f [.ptr b 0 0]],mem =>
  match mem[b]? with
  | some (.box _ m _)=>if fk.contains f then (mapAt mem m).bind fun es=>(keyInts es).bind fun ks=>if ks.length<=16777216 then some (.own mem.length,mem++[.row 3 ((srt ks).map iV) 0]) else none else none
  | _=>none
 | _,_=>none
def sortedKK (fk:List Nat) (args:List V) (mem:List O) (k:V->List O->R):R :=
 match args with
 | [.fn f [.ptr b 0 0]] =>
  match mem[b]? with
  | some (.box _ m _)=>gd (fk.contains f)<|mapAtK mem m fun es=>opt (keyInts es) fun ks=>gd (decide (ks.length<=16777216)) (k (.own mem.length) (mem++[.row 3 ((srt ks).map iV) 0]))
  | _=>none
 | _=>none
theorem sortedKK_some {fk:List Nat} {args:List V} {mem:List O} {k:V->List O->R} {r:Out} (h:sortedKK fk args mem k=some r):∃v m,sortedKP fk args mem=some (v,m)/\k v m=some r:=by
 unfold sortedKK at h
 split at h
 ·split at h
  ·rename_i hb
   obtain ⟨p1,h⟩:=gd_some h
   obtain ⟨es,hes,h⟩:=mapAtK_some h
   obtain ⟨ks,hk,h⟩:=opt_some h
   obtain ⟨p2,h⟩:=gd_some h
   refine ⟨_,_,?_,h⟩
   unfold sortedKP
   simp only [hb]
   rw [if_pos p1]
   simp only [hes,hk,Option.bind_some]
   rw [if_pos (of_decide_eq_true p2)]
  ·cases h
 ·cases h
def sortedSP (fk:Nat):List V->List O->Option (V × List O)
 | [.fn f [.ptr b 0 0]],mem =>
  match mem[b]? with
  | some (.box _ m _)=>if f=fk then (mapAt mem m).bind fun es=>(keyStrs es).bind fun ks=>if ks.length<=4194304 then some (.own mem.length,mem++[.row 9 ((srtS ks).map sV) 0]) else none else none
  | _=>none
 | _,_=>none
def sortedSK (fk:Nat) (args:List V) (mem:List O) (k:V->List O->R):R :=
 match args with
 | [.fn f [.ptr b 0 0]] =>
  match mem[b]? with
  | some (.box _ m _)=>gd (Nat.beq f fk)<|mapAtK mem m fun es=>opt (keyStrs es) fun ks=>gd (decide (ks.length<=4194304)) (k (.own mem.length) (mem++[.row 9 ((srtS ks).map sV) 0]))
  | _=>none
 | _=>none
theorem sortedSK_some {fk:Nat} {args:List V} {mem:List O} {k:V->List O->R} {r:Out} (h:sortedSK fk args mem k=some r):∃v m,sortedSP fk args mem=some (v,m)/\k v m=some r:=by
 unfold sortedSK at h
 split at h
 ·split at h
  ·rename_i hb
   obtain ⟨p1,h⟩:=gd_some h
   obtain ⟨es,hes,h⟩:=mapAtK_some h
   obtain ⟨ks,hk,h⟩:=opt_some h
   obtain ⟨p2,h⟩:=gd_some h
   refine ⟨_,_,?_,h⟩
   unfold sortedSP
   simp only [hb]
   rw [if_pos (Nat.eq_of_beq_eq_true p1)]
   simp only [hes,hk,Option.bind_some]
   rw [if_pos (of_decide_eq_true p2)]
  ·cases h
 ·cases h
def clT:Nat->Nat
 | 1=>80
 | 2=>120
 | 3=>84
 | 4=>126
 | 5=>116
 | 6=>126
 | _=>0
def fitsB (a b:Int):Bool:=decide (0<=a/\a < 7/\0<=b/\b < 7) && !(clT a.toNat).testBit b.toNat
def heldE:V × V->Option (Int × Int)
 |(.int .i64 o,.int .i64 m)=>some (o,m)
 | _=>none
def heldOf (es:List (V × V)):Option (List (Int × Int)):=mapO heldE es
def waitE:V->Option (Int × Int)
 | .agg [.int .i64 o,.int .i64 m]=>some (o,m)
 | _=>none
def waitsOf (l:List V):Option (List (Int × Int)):=mapO waitE l
def canB (hs:List (Int × Int)) (o m:Int):Bool:=hs.all fun p=>p.1==o || fitsB p.2 m
def lockX (els:List V) (ms:List (List (V × V))) (k:Nat):Option (List (V × V) × List V) :=
 match els[k]? with
 | some (.agg [.hm 63 h,.sl q])=>(ms[h]?).map fun es=>(es,q)
 | _=>none
def canX (els:List V) (ms:List (List (V × V))) (k:Nat) (o m:Int):Option Bool :=
 (lockX els ms k).bind fun r=>(heldOf r.1).map fun hs=>canB hs o m
def confl (hs:List (Int × Int)) (o m:Int):List Int:=(hs.filter fun p=>!(p.1==o) && !fitsB p.2 m).map (·.1)
def behindL (hs qs:List (Int × Int)) (i:Nat) (o m:Int):List Int:=srt ((qs.take i).map (·.1)++confl hs o m).eraseDups
def rngs (l:List (Int × Int)):Bool:=l.all fun p=>decide (-9223372036854775808<=p.1) && decide (p.1<=9223372036854775807)
def behindX (els:List V) (ms:List (List (V × V))) (lk ws:List (V × V)) (o:Int):Option (List Int) :=
 match mapFind ws (.int .i64 o) with
 | some none=>some []
 | some (some (.str nm)) =>
  match mapFind lk (.str nm) with
  | some (some (.hp 66 k 0))=>(lockX els ms k).bind fun r=>(heldOf r.1).bind fun hs=>(waitsOf r.2).bind fun qs =>
    match qs.findIdx? fun p=>p.1==o with
    | some i=>if hs.length<=65536/\qs.length<=65536/\rngs hs=true/\rngs qs=true then some (behindL hs qs i o ((qs[i]?).getD (0,0)).2) else none
    | none=>none
  | _=>none
 | _=>none
def canP:List V->List O->Option (V × List O)
 | [.hp 66 k 0,.agg [.int .i64 o,.int .i64 m]],.arena 66 els::.marena 63 ms::rest=>(canX els ms k o m).map fun b=>(.bool b,.arena 66 els::.marena 63 ms::rest)
 | _,_=>none
def canK (args:List V) (mem:List O) (k:V->List O->R):R :=
 match args,mem with
 | [.hp 66 i 0,.agg [.int .i64 o,.int .i64 m]],.arena 66 els::.marena 63 ms::rest=>opt (canX els ms i o m) fun b=>k (.bool b) (.arena 66 els::.marena 63 ms::rest)
 | _,_=>none
theorem canK_some {args:List V} {mem:List O} {k:V->List O->R} {r:Out} (h:canK args mem k=some r):∃v m,canP args mem=some (v,m)/\k v m=some r:=by
 unfold canK at h
 split at h
 ·obtain ⟨c,hc,h⟩:=opt_some h
  refine ⟨_,_,?_,h⟩
  simp only [canP,hc,Option.map_some]
 ·cases h
def behindP:List V->List O->Option (V × List O)
 | [.ptr b 0 0,.int .i64 o],.arena 66 els::.marena 63 ms::rest =>
  match (.arena 66 els::.marena 63 ms::rest)[b]? with
  | some (.box 38 (.agg [.mp l,.mp w]) false) =>
   match (.arena 66 els::.marena 63 ms::rest)[l]?,(.arena 66 els::.marena 63 ms::rest)[w]? with
   | some (.map lk),some (.map ws)=>if Nat.beq l w then none else (behindX els ms lk ws o).map fun x=>(.own (rest.length+2),(.arena 66 els::.marena 63 ms::rest)++[.row 3 (x.map iV) 0])
   | _,_=>none
  | _=>none
 | _,_=>none
def behindK (args:List V) (mem:List O) (k:V->List O->R):R :=
 match args,mem with
 | [.ptr b 0 0,.int .i64 o],.arena 66 els::.marena 63 ms::rest =>
  match (.arena 66 els::.marena 63 ms::rest)[b]? with
  | some (.box 38 (.agg [.mp l,.mp w]) false) =>
   match (.arena 66 els::.marena 63 ms::rest)[l]?,(.arena 66 els::.marena 63 ms::rest)[w]? with
   | some (.map lk),some (.map ws)=>gd (!Nat.beq l w)<|opt (behindX els ms lk ws o) fun x=>k (.own (rest.length+2)) ((.arena 66 els::.marena 63 ms::rest)++[.row 3 (x.map iV) 0])
   | _,_=>none
  | _=>none
 | _,_=>none
theorem behindK_some {args:List V} {mem:List O} {k:V->List O->R} {r:Out} (h:behindK args mem k=some r):∃v m,behindP args mem=some (v,m)/\k v m=some r:=by
 unfold behindK at h
 split at h
 ·split at h
  ·rename_i hb
   split at h
   ·rename_i h1 h2
    obtain ⟨p1,h⟩:=gd_some h
    obtain ⟨d,hd,h⟩:=opt_some h
    refine ⟨_,_,?_,h⟩
    rw [Bool.not_eq_true'] at p1
    simp only [behindP,hb,h1,h2,p1,hd,Option.map_some,Bool.false_eq_true,if_false]
   ·cases h
  ·cases h
 ·cases h
def lipA (f:Nat):Option (List V->List O->Option (V × List O)) :=
 if f=57 then some (insP 70 2) else if f=50 then some (sortedKP [74,71]) else if f=40 then some (sortedSP 66) else none
def lppA (f:Nat):Option (List V->Option V):=if f=43 then some (cloneP 70 2) else none
def limp (f:Nat):Bool:=([57,50,40,54,51,41,42,4,29,58,
 27,63,37,21,59,77,30,8,13,10,15,19,17,23,25,99907,35,39,36,9,11,14,5,6,52]:List Nat).contains f
noncomputable def cfgA:Cfg:={ P:=Tryz.prog,pure:=fun f=>!limp f,adopt:=fun f=>f==43 || f==22 || f==38,pprim:=lppA,iprim:=lipA }
def likA (f:Nat) (args:List V) (mem:List O) (k:V->List O->R):R :=
 cond (f==57) (insK 70 2 args mem k) (cond (f==50) (sortedKK [74,71] args mem k) (cond (f==40) (sortedSK 66 args mem k) none))
noncomputable def kcA:KC:={ cfg:=cfgA,frs:=fun _=>true,ik:=likA }
theorem lik_some {cfg:Cfg} (hip:∀f g,lipA f=some g->cfg.iprim f=some g) {f:Nat} {av:List V} {mem:List O} {k:V->List O->R} {r:Out} (h:likA f av mem k=some r):∃v m,icW cfg f av mem=some (v,m)/\k v m=some r:=by
 rcases cond_some h with ⟨e,h⟩ | ⟨_,h⟩
 ·have e:f=57:=by simpa using e
  subst e
  obtain ⟨v,m,h1,h2⟩:=insK_some h
  exact ⟨v,m,icW_prim (cfg:=cfg) (g:=insP 70 2) (hip _ _ rfl) h1,h2⟩
 rcases cond_some h with ⟨e,h⟩ | ⟨_,h⟩
 ·have e:f=50:=by simpa using e
  subst e
  obtain ⟨v,m,h1,h2⟩:=sortedKK_some h
  exact ⟨v,m,icW_prim (cfg:=cfg) (g:=sortedKP [74,71]) (hip _ _ rfl) h1,h2⟩
 rcases cond_some h with ⟨e,h⟩ | ⟨_,h⟩
 ·have e:f=40:=by simpa using e
  subst e
  obtain ⟨v,m,h1,h2⟩:=sortedSK_some h
  exact ⟨v,m,icW_prim (cfg:=cfg) (g:=sortedSP 66) (hip _ _ rfl) h1,h2⟩
 cases h
theorem ikA:IKOK kcA:=⟨fun _ _ _ _ _ h=>lik_some (fun _ _ h=>h) h,fun _ _ _ _ _ _ h=>nomatch h⟩
set_option maxRecDepth 100000
set_option linter.unusedVariables false
def d103 (v:V) (k:Int->Int->Int->Int->Int->Int->Int->R):R:=kA v fun cs=>unc cs fun c cs=>kI .i64 c fun x0=>unc cs fun c cs=>kI .i64 c fun x1=>unc cs fun c cs=>kI .i64 c fun x2=>unc cs fun c cs=>kI .i64 c fun x3=>unc cs fun c cs=>kI .i64 c fun x4=>unc cs fun c cs=>kI .i64 c fun x5=>unc cs fun c cs=>kI .i64 c fun x6=>unn cs<|(k x0 x1 x2 x3 x4 x5 x6)
@[simp] theorem d103_mk (x0:Int) (x1:Int) (x2:Int) (x3:Int) (x4:Int) (x5:Int) (x6:Int) (k:Int->Int->Int->Int->Int->Int->Int->R):d103 (.agg [V.int .i64 x0,V.int .i64 x1,V.int .i64 x2,V.int .i64 x3,V.int .i64 x4,V.int .i64 x5,V.int .i64 x6]) k=k x0 x1 x2 x3 x4 x5 x6:=rfl
@[congr] theorem d103_wc {v v':V} {k:Int->Int->Int->Int->Int->Int->Int->R} (h:v=v'):d103 v k=d103 v' k:=by rw [h]
noncomputable def fa55:FA:=⟨1,9,[.tmp 2],[4],
 (.seq
 (.ops false [o1 2 (.assign (.const (.bool false))) 4])
 (.seq
 (.ops false [mv 3 0 3,o1 4 (.binOp .geq 3 (t' 3) (.const (.int .i64 (0))) 3) 4,mv 5 4 4,o2 6 (.move (t' 0)) 3 5 true,o2 7 (.binOp .lss 3 (t' 6) (.const (.int .i64 (7))) 3) 4 5 true,o1 8 (.pick (t' 5) (t' 7) (.const (.bool false))) 4,asg 2 8 4])
 (.ret)))⟩
theorem fa55_eq:fnA cfgA.P (cfgA.rxf 55) 55=some fa55:=by kernel_rfl
noncomputable def e55 (a0:Int):R :=
 cond (decide (a0 ≥ 0))
 (some (.done (V.bool (decide (a0 < 7)))))
 (some (.done (V.bool false)))
theorem e55_eq (a0:Int):enterK kcA false fa55 [V.int .i64 a0] []=e55 a0:=by kernel_rfl
theorem e55_run (a0:Int) {o:Out} {v:V} (h:e55 a0=some o) (hg:Go kcA false 0 fa55 o (.done v)):pcW cfgA 55 [V.int .i64 a0]=some v:=pcW_go ikA rfl fa55_eq ((e55_eq ..).trans h) hg
theorem e55_done (a0:Int) {v:V} (h:e55 a0=some (.done v)):pcW cfgA 55 [V.int .i64 a0]=some v:=e55_run a0 h (.refl _)
noncomputable def fa68:FA:=⟨0,2,[.cell 0 103],[103],
 (.seq
 (.ops false [o1 0 (.alloc 103) 0])
 (.seq
 (.ops false [o1 1 (.build 103 #[(0,(.const (.int .i64 (0)))),(1,(.const (.int .i64 (80)))),(2,(.const (.int .i64 (120)))),(3,(.const (.int .i64 (84)))),(4,(.const (.int .i64 (126)))),(5,(.const (.int .i64 (116)))),(6,(.const (.int .i64 (126))))]) 103,o0 (.store 103 (t' 0) (t' 1)) 0])
 (.ret)))⟩
theorem fa68_eq:fnA cfgA.P (cfgA.rxf 68) 68=some fa68:=by kernel_rfl
noncomputable def e68 :R :=
 some (.done (V.agg [V.int .i64 0,V.int .i64 80,V.int .i64 120,V.int .i64 84,V.int .i64 126,V.int .i64 116,V.int .i64 126]))
theorem e68_eq :enterK kcA false fa68 [] []=e68 :=by kernel_rfl
theorem e68_run  {o:Out} {v:V} (h:e68 =some o) (hg:Go kcA false 0 fa68 o (.done v)):pcW cfgA 68 []=some v:=pcW_go ikA rfl fa68_eq ((e68_eq ).trans h) hg
theorem e68_done  {v:V} (h:e68 =some (.done v)):pcW cfgA 68 []=some v:=e68_run  h (.refl _)
noncomputable def fa49:FA:=⟨2,20,[.tmp 4],[4],
 (.seq
 (.ops false [o1 4 (.assign (.const (.bool false))) 4])
 (.seq
 (.ops true [mv 5 0 3,⟨(some 6),.call ⟨(.value (.func 55)),#[(t' 5)],#[3]⟩,4,none,false,true,false⟩,mv 7 6 4,o2 8 (.move (t' 1)) 3 7 true,⟨(some 9),.call ⟨(.value (.func 55)),#[(t' 8)],#[3]⟩,4,(some (7,true)),false,true,false⟩,o1 10 (.pick (t' 7) (t' 9) (.const (.bool false))) 4,mv 11 10 4,⟨(some 12),.call ⟨(.value (.func 68)),#[],#[]⟩,103,(some (11,true)),false,true,false⟩,o2 13 (.move (t' 0)) 3 11 true,o2 14 (.index 103 (t' 12) (t' 13)) 3 11 true,o2 15 (.move (t' 1)) 3 11 true,o2 16 (.binOp .shl 3 (.const (.int .i64 (1))) (t' 15) 3) 3 11 true,o2 17 (.binOp .and 3 (t' 14) (t' 16) 3) 3 11 true,o2 18 (.binOp .eql 3 (t' 17) (.const (.int .i64 (0))) 3) 4 11 true,o1 19 (.pick (t' 11) (t' 18) (.const (.bool false))) 4,asg 4 19 4])
 (.ret)))⟩
theorem fa49_eq:fnA cfgA.P (cfgA.rxf 49) 49=some fa49:=by kernel_rfl
noncomputable def e49 (a0 a1:Int):R :=
 pcK cfgA 55 [V.int .i64 a0] fun r =>
 kB r fun r55 =>
 cond r55
 (pcK cfgA 55 [V.int .i64 a1] fun r_1 =>
  kB r_1 fun r55_1 =>
  cond r55_1
 (pcK cfgA 68 [] fun r_2 =>
  d103 r_2 fun r680 r681 r682 r683 r684 r685 r686 =>
  gd (decide (0<=a0)) <|
  gd (decide (a0.toNat < 7)) <|
  idxK [V.int .i64 r680,V.int .i64 r681,V.int .i64 r682,V.int .i64 r683,V.int .i64 r684,V.int .i64 r685,V.int .i64 r686] a0.toNat fun v =>
  kI .i64 v fun n =>
  gd (!decide (a1 < 0)) <|
  some (.done (V.bool ((W .i64 (((BitVec.ofInt (IntKind.bits .i64) n &&& BitVec.ofInt (IntKind.bits .i64) (W .i64 (1 * 2 ^ (min a1.toNat (IntKind.bits .i64))))).toNat:Int)))==(0:Int)))))
 (some (.done (V.bool false))))
 (some (.done (V.bool false)))
theorem e49_eq (a0 a1:Int):enterK kcA false fa49 [V.int .i64 a0,V.int .i64 a1] []=e49 a0 a1:=by kernel_rfl
theorem e49_run (a0 a1:Int) {o:Out} {v:V} (h:e49 a0 a1=some o) (hg:Go kcA false 0 fa49 o (.done v)):pcW cfgA 49 [V.int .i64 a0,V.int .i64 a1]=some v:=pcW_go ikA rfl fa49_eq ((e49_eq ..).trans h) hg
theorem e49_done (a0 a1:Int) {v:V} (h:e49 a0 a1=some (.done v)):pcW cfgA 49 [V.int .i64 a0,V.int .i64 a1]=some v:=e49_run a0 a1 h (.refl _)
noncomputable def fa56:FA:=⟨2,31,[.tmp 4],[4],
 (.seq
 (.ops false [o1 4 (.assign (.const (.bool false))) 4])
 (.seq
 (.seq
 (.ops false [mv 6 0 3,o1 7 (.call ⟨(.value (.func 55)),#[(t' 6)],#[3]⟩) 4,o1 8 (.unOp .not 4 (t' 7)) 4,mv 9 8 4,o2 10 (.move (t' 1)) 3 9 false,o2 11 (.call ⟨(.value (.func 55)),#[(t' 10)],#[3]⟩) 4 9 false,o2 12 (.unOp .not 4 (t' 11)) 4 9 false,o1 13 (.pick (t' 9) (.const (.bool true)) (t' 12)) 4])
 (.cond (t' 13)
 (.seq
 (.ops false [o1 4 (.assign (.const (.bool false))) 4])
 (.ret))
 (.skip)))
 (.seq
 (.ops false [o1 14 (.call ⟨(.value (.func 68)),#[],#[]⟩) 103,o1 5 (.alloc 103) 0,o0 (.store 103 (t' 5) (t' 14)) 0])
 (.seq
 (.ops true [mv 15 1 3,o1 16 (.indexAddr 103 (t' 5) (t' 15)) 0,o1 17 (.load 3 (t' 16)) 3,mv 18 0 3,o1 19 (.indexAddr 103 (t' 5) (t' 18)) 0,o1 20 (.load 3 (t' 19)) 3,o1 21 (.binOp .andNot 3 (t' 17) (t' 20) 3) 3,o1 22 (.binOp .eql 3 (t' 21) (.const (.int .i64 (0))) 3) 4,mv 23 22 4,o2 24 (.move (t' 1)) 3 23 true,o2 25 (.binOp .neq 3 (t' 24) (.const (.int .i64 (6))) 3) 4 23 true,o2 26 (.move (t' 25)) 4 23 true,o2 27 (.move (t' 0)) 3 26 false,o2 28 (.binOp .eql 3 (t' 27) (.const (.int .i64 (6))) 3) 4 26 false,o2 29 (.pick (t' 26) (.const (.bool true)) (t' 28)) 4 23 true,o1 30 (.pick (t' 23) (t' 29) (.const (.bool false))) 4,asg 4 30 4])
 (.ret)))))⟩
theorem fa56_eq:fnA cfgA.P (cfgA.rxf 56) 56=some fa56:=by kernel_rfl
noncomputable def e56 (a0 a1:Int):R :=
 pcK cfgA 55 [V.int .i64 a0] fun r =>
 kB r fun r55 =>
 cond (!r55)
 (some (.done (V.bool false)))
 (pcK cfgA 55 [V.int .i64 a1] fun r_1 =>
  kB r_1 fun r55_1 =>
  cond (!r55_1)
 (some (.done (V.bool false)))
 (pcK cfgA 68 [] fun r_2 =>
  d103 r_2 fun r680 r681 r682 r683 r684 r685 r686 =>
  gd (decide (0<=a1)) <|
  gd (decide (a1.toNat < 7)) <|
  idxK [V.int .i64 r680,V.int .i64 r681,V.int .i64 r682,V.int .i64 r683,V.int .i64 r684,V.int .i64 r685,V.int .i64 r686] (0+a1.toNat * 1) fun v =>
  kI .i64 v fun n =>
  gd (decide (0<=a0)) <|
  gd (decide (a0.toNat < 7)) <|
  idxK [V.int .i64 r680,V.int .i64 r681,V.int .i64 r682,V.int .i64 r683,V.int .i64 r684,V.int .i64 r685,V.int .i64 r686] (0+a0.toNat * 1) fun v_1 =>
  kI .i64 v_1 fun n_1 =>
  cond ((W .i64 (((BitVec.ofInt (IntKind.bits .i64) n &&& ~~~(BitVec.ofInt (IntKind.bits .i64) n_1)).toNat:Int)))==(0:Int))
 (cond (a1 != (6:Int))
 (some (.done (V.bool true)))
 (some (.done (V.bool (a0==(6:Int))))))
 (some (.done (V.bool false)))))
theorem e56_eq (a0 a1:Int):enterK kcA false fa56 [V.int .i64 a0,V.int .i64 a1] []=e56 a0 a1:=by kernel_rfl
theorem e56_run (a0 a1:Int) {o:Out} {v:V} (h:e56 a0 a1=some o) (hg:Go kcA false 0 fa56 o (.done v)):pcW cfgA 56 [V.int .i64 a0,V.int .i64 a1]=some v:=pcW_go ikA rfl fa56_eq ((e56_eq ..).trans h) hg
theorem e56_done (a0 a1:Int) {v:V} (h:e56 a0 a1=some (.done v)):pcW cfgA 56 [V.int .i64 a0,V.int .i64 a1]=some v:=e56_run a0 a1 h (.refl _)
noncomputable def fa28:FA:=⟨2,35,[.tmp 4,.tmp 5],[3,39],
 (.seq
 (.ops false [o1 4 (.assign (.const (.int .i64 (0)))) 3,o1 5 (.assign (.const (.int .i64 (0)))) 39])
 (.seq
 (.seq
 (.ops false [mv 8 0 3,o1 9 (.call ⟨(.value (.func 55)),#[(t' 8)],#[3]⟩) 4,o1 10 (.unOp .not 4 (t' 9)) 4,mv 11 10 4,o2 12 (.move (t' 1)) 3 11 false,o2 13 (.call ⟨(.value (.func 55)),#[(t' 12)],#[3]⟩) 4 11 false,o2 14 (.unOp .not 4 (t' 13)) 4 11 false,o1 15 (.pick (t' 11) (.const (.bool true)) (t' 14)) 4])
 (.cond (t' 15)
 (.seq
 (.ops false [o1 4 (.assign (.const (.int .i64 (0)))) 3,o1 5 (.assign (.const (.int .i64 (1)))) 39])
 (.ret))
 (.skip)))
 (.seq
 (.ops false [o1 6 (.assign (.const (.int .i64 (6)))) 3])
 (.seq
 (.seq
 (.ops false [o1 16 (.move (.const (.int .i64 (0)))) 3])
 (.block 0
 (.loop ([2,3]++List.range' 7 9++List.range' 17 18)
 (.seq
 (.ops false [o1 17 (.binOp .lss 3 (t' 16) (.const (.int .i64 (7))) 3) 4])
 (.seq
 (.cond (t' 17)
 (.skip)
 (.exit 0))
 (.seq
 (.block 1
 (.seq
 (.ops false [mv 18 16 3,asg 7 18 3])
 (.seq
 (.ops false [mv 19 7 3,mv 20 0 3,o1 21 (.call ⟨(.value (.func 56)),#[(t' 19),(t' 20)],#[3,3]⟩) 4,mv 22 21 4,o2 23 (.move (t' 7)) 3 22 true,o2 24 (.move (t' 1)) 3 22 true,o2 25 (.call ⟨(.value (.func 56)),#[(t' 23),(t' 24)],#[3,3]⟩) 4 22 true,o1 26 (.pick (t' 22) (t' 25) (.const (.bool false))) 4,mv 27 26 4,o2 28 (.move (t' 6)) 3 27 true,o2 29 (.move (t' 7)) 3 27 true,o2 30 (.call ⟨(.value (.func 56)),#[(t' 28),(t' 29)],#[3,3]⟩) 4 27 true,o1 31 (.pick (t' 27) (t' 30) (.const (.bool false))) 4])
 (.cond (t' 31)
 (.ops false [mv 32 7 3,asg 6 32 3])
 (.skip)))))
 (.ops false [o1 33 (.binOp .add 3 (t' 16) (.const (.int .i64 (1))) 3) 3,mv 16 33 3])))))))
 (.seq
 (.ops false [mv 34 6 3,asg 4 34 3,o1 5 (.assign (.const (.int .i64 (0)))) 39])
 (.ret))))))⟩
theorem fa28_eq:fnA cfgA.P (cfgA.rxf 28) 28=some fa28:=by kernel_rfl
def T28_0 (x0 x1:Int) (x6 x16:Int):S:=⟨[V.int .i64 x0,V.int .i64 x1,V.junk,V.junk,V.int .i64 0,V.int .i64 0,V.int .i64 x6]++(JU 9)++[V.int .i64 x16]++(JU 18),[]⟩
noncomputable def e28 (a0 a1:Int):R :=
 pcK cfgA 55 [V.int .i64 a0] fun r =>
 kB r fun r55 =>
 cond (!r55)
 (some (.done (V.tup [V.int .i64 0,V.int .i64 1])))
 (pcK cfgA 55 [V.int .i64 a1] fun r_1 =>
  kB r_1 fun r55_1 =>
  cond (!r55_1)
 (some (.done (V.tup [V.int .i64 0,V.int .i64 1])))
 (some (.head 0 (T28_0 a0 a1 6 0))))
theorem e28_eq (a0 a1:Int):enterK kcA false fa28 [V.int .i64 a0,V.int .i64 a1] []=e28 a0 a1:=by kernel_rfl
theorem e28_run (a0 a1:Int) {o:Out} {v:V} (h:e28 a0 a1=some o) (hg:Go kcA false 0 fa28 o (.done v)):pcW cfgA 28 [V.int .i64 a0,V.int .i64 a1]=some v:=pcW_go ikA rfl fa28_eq ((e28_eq ..).trans h) hg
noncomputable def s28_0 (x0 x1:Int) (x6 x16:Int):R :=
 cond (decide (x16 < 7))
 (pcK cfgA 56 [V.int .i64 x16,V.int .i64 x0] fun r =>
  kB r fun r56 =>
  cond r56
 (pcK cfgA 56 [V.int .i64 x16,V.int .i64 x1] fun r_1 =>
  kB r_1 fun r56_1 =>
  cond r56_1
 (pcK cfgA 56 [V.int .i64 x6,V.int .i64 x16] fun r_2 =>
  kB r_2 fun r56_2 =>
  cond r56_2
 (some (.head 0 (T28_0 x0 x1 x16 (W .i64 (x16+1)))))
 (some (.head 0 (T28_0 x0 x1 x6 (W .i64 (x16+1))))))
 (some (.head 0 (T28_0 x0 x1 x6 (W .i64 (x16+1))))))
 (some (.head 0 (T28_0 x0 x1 x6 (W .i64 (x16+1))))))
 (some (.done (V.tup [V.int .i64 x6,V.int .i64 0])))
theorem s28_0_eq (x0 x1:Int) (x6 x16:Int):goK kcA false 0 fa28 0 (T28_0 x0 x1 x6 x16)=s28_0 x0 x1 x6 x16:=by kernel_rfl
theorem s28_0_run (x0 x1:Int) (x6 x16:Int) {o o':Out} (h:s28_0 x0 x1 x6 x16=some o) (hg:Go kcA false 0 fa28 o o'):Go kcA false 0 fa28 (.head 0 (T28_0 x0 x1 x6 x16)) o':=.step ((s28_0_eq ..).trans h) hg
noncomputable def fa72:FA:=⟨1,9,[.tmp 2],[4],
 (.seq
 (.ops false [o1 2 (.assign (.const (.bool false))) 4])
 (.seq
 (.ops false [mv 3 0 3,o1 4 (.binOp .geq 3 (t' 3) (.const (.int .i64 (0))) 3) 4,mv 5 4 4,o2 6 (.move (t' 0)) 3 5 true,o2 7 (.binOp .lss 3 (t' 6) (.const (.int .i64 (7))) 3) 4 5 true,o1 8 (.pick (t' 5) (t' 7) (.const (.bool false))) 4,asg 2 8 4])
 (.ret)))⟩
theorem fa72_eq:fnA cfgA.P (cfgA.rxf 72) 72=some fa72:=by kernel_rfl
noncomputable def e72 (a0:Int):R :=
 cond (decide (a0 ≥ 0))
 (some (.done (V.bool (decide (a0 < 7)))))
 (some (.done (V.bool false)))
theorem e72_eq (a0:Int):enterK kcA false fa72 [V.int .i64 a0] []=e72 a0:=by kernel_rfl
theorem e72_run (a0:Int) {o:Out} {v:V} (h:e72 a0=some o) (hg:Go kcA false 0 fa72 o (.done v)):pcW cfgA 72 [V.int .i64 a0]=some v:=pcW_go ikA rfl fa72_eq ((e72_eq ..).trans h) hg
theorem e72_done (a0:Int) {v:V} (h:e72 a0=some (.done v)):pcW cfgA 72 [V.int .i64 a0]=some v:=e72_run a0 h (.refl _)
noncomputable def fa83:FA:=⟨0,2,[.tmp 0],[79],
 (.seq
 (.ops false [o1 0 (.assign (.const (.slice none 0 0))) 79])
 (.seq
 (.ops false [o1 1 (.buildSlice 79 7 #[(0,(.const (.string ⟨⟨[46,46,46,46,46,46,46]⟩⟩))),(1,(.const (.string ⟨⟨[46,46,46,46,120,46,120]⟩⟩))),(2,(.const (.string ⟨⟨[46,46,46,120,120,120,120]⟩⟩))),(3,(.const (.string ⟨⟨[46,46,120,46,120,46,120]⟩⟩))),(4,(.const (.string ⟨⟨[46,120,120,120,120,120,120]⟩⟩))),(5,(.const (.string ⟨⟨[46,46,120,46,120,120,120]⟩⟩))),(6,(.const (.string ⟨⟨[46,120,120,120,120,120,120]⟩⟩)))]) 79,asg 0 1 79])
 (.ret)))⟩
theorem fa83_eq:fnA cfgA.P (cfgA.rxf 83) 83=some fa83:=by kernel_rfl
noncomputable def e83 :R :=
 gd (([V.str [46,46,46,46,46,46,46],V.str [46,46,46,46,120,46,120],V.str [46,46,46,120,120,120,120],V.str [46,46,120,46,120,46,120],V.str [46,120,120,120,120,120,120],V.str [46,46,120,46,120,120,120],V.str [46,120,120,120,120,120,120]]:List V).all fun x=>x.cells.all V.flat1) <|
 some (.done (V.fr 9 [V.str [46,46,46,46,46,46,46],V.str [46,46,46,46,120,46,120],V.str [46,46,46,120,120,120,120],V.str [46,46,120,46,120,46,120],V.str [46,120,120,120,120,120,120],V.str [46,46,120,46,120,120,120],V.str [46,120,120,120,120,120,120]]))
theorem e83_eq :enterK kcA false fa83 [] []=e83 :=by kernel_rfl
theorem e83_run  {o:Out} {v:V} (h:e83 =some o) (hg:Go kcA false 0 fa83 o (.done v)):pcW cfgA 83 []=some v:=pcW_go ikA rfl fa83_eq ((e83_eq ).trans h) hg
theorem e83_done  {v:V} (h:e83 =some (.done v)):pcW cfgA 83 []=some v:=e83_run  h (.refl _)
noncomputable def fa73:FA:=⟨2,12,[.tmp 4],[4],
 (.seq
 (.ops false [o1 4 (.assign (.const (.bool false))) 4])
 (.seq
 (.ops false [o1 5 (.call ⟨(.value (.func 83)),#[],#[]⟩) 79,mv 6 0 3,o1 7 (.indexAddr 79 (t' 5) (t' 6)) 0,o1 8 (.load 9 (t' 7)) 9,mv 9 1 3,o1 10 (.index 9 (t' 8) (t' 9)) 5,o1 11 (.binOp .eql 5 (t' 10) (.const (.int .u8 (120))) 5) 4,asg 4 11 4])
 (.ret)))⟩
theorem fa73_eq:fnA cfgA.P (cfgA.rxf 73) 73=some fa73:=by kernel_rfl
noncomputable def e73 (a0 a1:Int):R :=
 pcK cfgA 83 [] fun r =>
 kF 9 r fun r83 =>
 gd (decide (0<=a0)) <|
 idxK r83 a0.toNat fun v =>
 kS v fun s =>
 gd (decide (0<=a1)) <|
 idxK s a1.toNat fun c =>
 some (.done (V.bool ((c.toNat:Int)==(120:Int))))
theorem e73_eq (a0 a1:Int):enterK kcA false fa73 [V.int .i64 a0,V.int .i64 a1] []=e73 a0 a1:=by kernel_rfl
theorem e73_run (a0 a1:Int) {o:Out} {v:V} (h:e73 a0 a1=some o) (hg:Go kcA false 0 fa73 o (.done v)):pcW cfgA 73 [V.int .i64 a0,V.int .i64 a1]=some v:=pcW_go ikA rfl fa73_eq ((e73_eq ..).trans h) hg
theorem e73_done (a0 a1:Int) {v:V} (h:e73 a0 a1=some (.done v)):pcW cfgA 73 [V.int .i64 a0,V.int .i64 a1]=some v:=e73_run a0 a1 h (.refl _)
noncomputable def fa53:FA:=⟨2,17,[.tmp 4],[4],
 (.seq
 (.ops false [o1 4 (.assign (.const (.bool false))) 4])
 (.seq
 (.ops false [mv 5 0 3,o1 6 (.call ⟨(.value (.func 72)),#[(t' 5)],#[3]⟩) 4,mv 7 6 4,o2 8 (.move (t' 1)) 3 7 true,o2 9 (.call ⟨(.value (.func 72)),#[(t' 8)],#[3]⟩) 4 7 true,o1 10 (.pick (t' 7) (t' 9) (.const (.bool false))) 4,mv 11 10 4,o2 12 (.move (t' 0)) 3 11 true,o2 13 (.move (t' 1)) 3 11 true,o2 14 (.call ⟨(.value (.func 73)),#[(t' 12),(t' 13)],#[3,3]⟩) 4 11 true,o2 15 (.unOp .not 4 (t' 14)) 4 11 true,o1 16 (.pick (t' 11) (t' 15) (.const (.bool false))) 4,asg 4 16 4])
 (.ret)))⟩
theorem fa53_eq:fnA cfgA.P (cfgA.rxf 53) 53=some fa53:=by kernel_rfl
noncomputable def e53 (a0 a1:Int):R :=
 pcK cfgA 72 [V.int .i64 a0] fun r =>
 kB r fun r72 =>
 cond r72
 (pcK cfgA 72 [V.int .i64 a1] fun r_1 =>
  kB r_1 fun r72_1 =>
  cond r72_1
 (pcK cfgA 73 [V.int .i64 a0,V.int .i64 a1] fun r_2 =>
  kB r_2 fun r73 =>
  some (.done (V.bool (!r73))))
 (some (.done (V.bool false))))
 (some (.done (V.bool false)))
theorem e53_eq (a0 a1:Int):enterK kcA false fa53 [V.int .i64 a0,V.int .i64 a1] []=e53 a0 a1:=by kernel_rfl
theorem e53_run (a0 a1:Int) {o:Out} {v:V} (h:e53 a0 a1=some o) (hg:Go kcA false 0 fa53 o (.done v)):pcW cfgA 53 [V.int .i64 a0,V.int .i64 a1]=some v:=pcW_go ikA rfl fa53_eq ((e53_eq ..).trans h) hg
theorem e53_done (a0 a1:Int) {v:V} (h:e53 a0 a1=some (.done v)):pcW cfgA 53 [V.int .i64 a0,V.int .i64 a1]=some v:=e53_run a0 a1 h (.refl _)
noncomputable def fa61:FA:=⟨2,35,[.tmp 4],[4],
 (.seq
 (.ops false [o1 4 (.assign (.const (.bool false))) 4])
 (.seq
 (.seq
 (.ops false [mv 6 0 3,o1 7 (.call ⟨(.value (.func 72)),#[(t' 6)],#[3]⟩) 4,o1 8 (.unOp .not 4 (t' 7)) 4,mv 9 8 4,o2 10 (.move (t' 1)) 3 9 false,o2 11 (.call ⟨(.value (.func 72)),#[(t' 10)],#[3]⟩) 4 9 false,o2 12 (.unOp .not 4 (t' 11)) 4 9 false,o1 13 (.pick (t' 9) (.const (.bool true)) (t' 12)) 4,mv 14 13 4,o2 15 (.move (t' 1)) 3 14 false,o2 16 (.binOp .eql 3 (t' 15) (.const (.int .i64 (6))) 3) 4 14 false,o2 17 (.move (t' 16)) 4 14 false,o2 18 (.move (t' 0)) 3 17 true,o2 19 (.binOp .neq 3 (t' 18) (.const (.int .i64 (6))) 3) 4 17 true,o2 20 (.pick (t' 17) (t' 19) (.const (.bool false))) 4 14 false,o1 21 (.pick (t' 14) (.const (.bool true)) (t' 20)) 4])
 (.cond (t' 21)
 (.seq
 (.ops false [o1 4 (.assign (.const (.bool false))) 4])
 (.ret))
 (.skip)))
 (.seq
 (.seq
 (.ops false [o1 5 (.assign (.const (.int .i64 (0)))) 3])
 (.block 0
 (.loop ([2,3]++List.range' 6 29)
 (.seq
 (.seq
 (.ops false [mv 22 5 3,o1 23 (.binOp .lss 3 (t' 22) (.const (.int .i64 (7))) 3) 4])
 (.cond (t' 23)
 (.skip)
 (.exit 0)))
 (.seq
 (.block 1
 (.seq
 (.ops false [mv 26 1 3,mv 27 5 3,o1 28 (.call ⟨(.value (.func 73)),#[(t' 26),(t' 27)],#[3,3]⟩) 4,mv 29 28 4,o2 30 (.move (t' 0)) 3 29 true,o2 31 (.move (t' 5)) 3 29 true,o2 32 (.call ⟨(.value (.func 73)),#[(t' 30),(t' 31)],#[3,3]⟩) 4 29 true,o2 33 (.unOp .not 4 (t' 32)) 4 29 true,o1 34 (.pick (t' 29) (t' 33) (.const (.bool false))) 4])
 (.cond (t' 34)
 (.seq
 (.ops false [o1 4 (.assign (.const (.bool false))) 4])
 (.ret))
 (.skip))))
 (.ops false [mv 24 5 3,o1 25 (.binOp .add 3 (t' 24) (.const (.int .i64 (1))) 3) 3,asg 5 25 3]))))))
 (.seq
 (.ops false [o1 4 (.assign (.const (.bool true))) 4])
 (.ret)))))⟩
theorem fa61_eq:fnA cfgA.P (cfgA.rxf 61) 61=some fa61:=by kernel_rfl
def T61_0 (x0 x1 x5:Int):S:=⟨[V.int .i64 x0,V.int .i64 x1,V.junk,V.junk,V.bool false,V.int .i64 x5]++(JU 29),[]⟩
noncomputable def e61 (a0 a1:Int):R :=
 pcK cfgA 72 [V.int .i64 a0] fun r =>
 kB r fun r72 =>
 cond (!r72)
 (some (.done (V.bool false)))
 (pcK cfgA 72 [V.int .i64 a1] fun r_1 =>
  kB r_1 fun r72_1 =>
  cond (!r72_1)
 (some (.done (V.bool false)))
 (cond (a1==(6:Int))
 (cond (a0 != (6:Int))
 (some (.done (V.bool false)))
 (some (.head 0 (T61_0 a0 a1 0))))
 (some (.head 0 (T61_0 a0 a1 0)))))
theorem e61_eq (a0 a1:Int):enterK kcA false fa61 [V.int .i64 a0,V.int .i64 a1] []=e61 a0 a1:=by kernel_rfl
theorem e61_run (a0 a1:Int) {o:Out} {v:V} (h:e61 a0 a1=some o) (hg:Go kcA false 0 fa61 o (.done v)):pcW cfgA 61 [V.int .i64 a0,V.int .i64 a1]=some v:=pcW_go ikA rfl fa61_eq ((e61_eq ..).trans h) hg
noncomputable def s61_0 (x0 x1 x5:Int):R :=
 cond (decide (x5 < 7))
 (pcK cfgA 73 [V.int .i64 x1,V.int .i64 x5] fun r =>
  kB r fun r73 =>
  cond r73
 (pcK cfgA 73 [V.int .i64 x0,V.int .i64 x5] fun r_1 =>
  kB r_1 fun r73_1 =>
  cond (!r73_1)
 (some (.done (V.bool false)))
 (some (.head 0 (T61_0 x0 x1 (W .i64 (x5+1))))))
 (some (.head 0 (T61_0 x0 x1 (W .i64 (x5+1))))))
 (some (.done (V.bool true)))
theorem s61_0_eq (x0 x1 x5:Int):goK kcA false 0 fa61 0 (T61_0 x0 x1 x5)=s61_0 x0 x1 x5:=by kernel_rfl
theorem s61_0_run (x0 x1 x5:Int) {o o':Out} (h:s61_0 x0 x1 x5=some o) (hg:Go kcA false 0 fa61 o o'):Go kcA false 0 fa61 (.head 0 (T61_0 x0 x1 x5)) o':=.step ((s61_0_eq ..).trans h) hg
set_option linter.unusedSimpArgs false
set_option maxRecDepth 10000
theorem seven {a:Int} (h:0<=a/\a < 7):a=0∨a=1∨a=2∨a=3∨a=4∨a=5∨a=6:=by omega
theorem mthere_ok (a:Int):pcW cfgA 55 [.int .i64 a]=some (.bool (decide (0<=a/\a < 7))):=by
 refine e55_done _ ?_
 unfold e55
 by_cases h1:0<=a
 ·rw [decide_eq_true (show a ≥ 0 from h1),cond_true]
  simp [h1]
 ·rw [decide_eq_false (show ¬a ≥ 0 from h1),cond_false]
  simp [h1]
theorem rthere_ok (a:Int):pcW cfgA 72 [.int .i64 a]=some (.bool (decide (0<=a/\a < 7))):=by
 refine e72_done _ ?_
 unfold e72
 by_cases h1:0<=a
 ·rw [decide_eq_true (show a ≥ 0 from h1),cond_true]
  simp [h1]
 ·rw [decide_eq_false (show ¬a ≥ 0 from h1),cond_false]
  simp [h1]
theorem clashes_ok:pcW cfgA 68 []=some (.agg [.int .i64 0,.int .i64 80,.int .i64 120,.int .i64 84,.int .i64 126,.int .i64 116,.int .i64 126]):=e68_done rfl
theorem table_ok:pcW cfgA 83 []=some (.fr 9 [.str [46,46,46,46,46,46,46],.str [46,46,46,46,120,46,120],.str [46,46,46,120,120,120,120],.str [46,46,120,46,120,46,120],.str [46,120,120,120,120,120,120],.str [46,46,120,46,120,120,120],.str [46,120,120,120,120,120,120]]):=e83_done (gd_of rfl)
def coversB (a b:Int):Bool:=decide (0<=a/\a < 7/\0<=b/\b < 7) && ((clT b.toNat &&& (127 - clT a.toNat))==0) && (!(b==6) || a==6)
def clashB (a b:Int):Bool:=(clT a.toNat).testBit b.toNat
theorem fitsB_in {a b:Int} (ha:0<=a/\a < 7) (hb:0<=b/\b < 7):fitsB a b = !(clashB a b):=by
 unfold fitsB clashB
 rw [decide_eq_true ⟨ha.1,ha.2,hb⟩,Bool.true_and]
theorem fitsB_out {a b:Int} (h:¬((0<=a/\a < 7)/\0<=b/\b < 7)):fitsB a b=false:=by
 unfold fitsB
 rw [decide_eq_false fun h'=>h ⟨⟨h'.1,h'.2.1⟩,h'.2.2⟩];rfl
theorem coversB_out {a b:Int} (h:¬((0<=a/\a < 7)/\0<=b/\b < 7)):coversB a b=false:=by
 unfold coversB
 rw [decide_eq_false fun h'=>h ⟨⟨h'.1,h'.2.1⟩,h'.2.2⟩];rfl
theorem fits_ok (a b:Int):pcW cfgA 49 [.int .i64 a,.int .i64 b]=some (.bool (fitsB a b)):=by
 refine e49_done _ _ ?_
 unfold e49
 rw [pcK_of (mthere_ok a),kB_mk]
 by_cases ha:0<=a/\a < 7
 ·rw [decide_eq_true ha,cond_true,pcK_of (mthere_ok b),kB_mk]
  by_cases hb:0<=b/\b < 7
  ·rw [decide_eq_true hb,cond_true,pcK_of clashes_ok]
   rcases seven ha with rfl | rfl | rfl | rfl | rfl | rfl | rfl<;>rcases seven hb with rfl | rfl | rfl | rfl | rfl | rfl | rfl<;>kernel_rfl
  ·rw [decide_eq_false hb,cond_false,fitsB_out fun h=>hb h.2]
 ·rw [decide_eq_false ha,cond_false,fitsB_out fun h=>ha h.1]
theorem covers_ok (a b:Int):pcW cfgA 56 [.int .i64 a,.int .i64 b]=some (.bool (coversB a b)):=by
 refine e56_done _ _ ?_
 unfold e56
 rw [pcK_of (mthere_ok a),kB_mk]
 by_cases ha:0<=a/\a < 7
 ·rw [decide_eq_true ha,Bool.not_true,cond_false,pcK_of (mthere_ok b),kB_mk]
  by_cases hb:0<=b/\b < 7
  ·rw [decide_eq_true hb,Bool.not_true,cond_false,pcK_of clashes_ok]
   rcases seven ha with rfl | rfl | rfl | rfl | rfl | rfl | rfl<;>rcases seven hb with rfl | rfl | rfl | rfl | rfl | rfl | rfl<;>kernel_rfl
  ·rw [decide_eq_false hb,Bool.not_false,cond_true,coversB_out fun h=>hb h.2]
 ·rw [decide_eq_false ha,Bool.not_false,cond_true,coversB_out fun h=>ha h.1]
def joinS (a b best m:Int):Int:=if coversB m a && coversB m b && coversB best m then m else best
def joinF (a b:Int):Nat->Int->Int->Int
 | 0,best,_=>best
 | n+1,best,m=>joinF a b n (joinS a b best m) (m+1)
def joinB (a b:Int):Int:=if (0<=a/\a < 7)/\0<=b/\b < 7 then joinF a b 7 6 0 else 0
theorem join_loop (a b:Int):∀(n:Nat) (best m:Int),m+(n:Int)=7->0<=m->Go kcA false 0 fa28 (.head 0 (T28_0 a b best m)) (.done (.tup [.int .i64 (joinF a b n best m),.int .i64 0]))
 | 0,best,m,h,_=>by
  refine s28_0_run _ _ _ _ ?_ (.refl _)
  unfold s28_0
  rw [decide_eq_false (by omega)];rfl
 | n+1,best,m,h,h0=>by
  refine s28_0_run _ _ _ _ ?_ (join_loop a b n (joinS a b best m) (m+1) (by omega) (by omega))
  unfold s28_0 joinS
  rw [decide_eq_true (by omega),cond_true,pcK_of (covers_ok m a),kB_mk,pcK_of (covers_ok m b),kB_mk,pcK_of (covers_ok best m),kB_mk,W_i64 (by omega)]
  cases coversB m a<;>cases coversB m b<;>cases coversB best m<;>rfl
theorem join_ok (a b:Int):pcW cfgA 28 [.int .i64 a,.int .i64 b]=some (.tup [.int .i64 (joinB a b),.int .i64 (if (0<=a/\a < 7)/\0<=b/\b < 7 then 0 else 1)]):=by
 unfold joinB
 by_cases hab:(0<=a/\a < 7)/\0<=b/\b < 7
 ·rw [if_pos hab,if_pos hab]
  refine e28_run _ _ ?_ (join_loop a b 7 6 0 (by omega) (by omega))
  unfold e28
  rw [pcK_of (mthere_ok a),kB_mk,decide_eq_true hab.1,Bool.not_true,cond_false,pcK_of (mthere_ok b),kB_mk,decide_eq_true hab.2];rfl
 ·rw [if_neg hab,if_neg hab]
  refine e28_run _ _ ?_ (.refl _)
  unfold e28
  rw [pcK_of (mthere_ok a),kB_mk]
  by_cases ha:0<=a/\a < 7
  ·rw [decide_eq_true ha,Bool.not_true,cond_false,pcK_of (mthere_ok b),kB_mk,decide_eq_false fun hb=>hab ⟨ha,hb⟩];rfl
  ·rw [decide_eq_false ha];rfl
theorem clash_ok {a b:Int} (ha:0<=a/\a < 7) (hb:0<=b/\b < 7):pcW cfgA 73 [.int .i64 a,.int .i64 b]=some (.bool (clashB a b)):=by
 refine e73_done _ _ ?_
 unfold e73
 rw [pcK_of table_ok]
 rcases seven ha with rfl | rfl | rfl | rfl | rfl | rfl | rfl<;>rcases seven hb with rfl | rfl | rfl | rfl | rfl | rfl | rfl<;>kernel_rfl
theorem rfits_ok (a b:Int):pcW cfgA 53 [.int .i64 a,.int .i64 b]=some (.bool (fitsB a b)):=by
 refine e53_done _ _ ?_
 unfold e53
 rw [pcK_of (rthere_ok a),kB_mk]
 by_cases ha:0<=a/\a < 7
 ·rw [decide_eq_true ha,cond_true,pcK_of (rthere_ok b),kB_mk]
  by_cases hb:0<=b/\b < 7
  ·rw [decide_eq_true hb,cond_true,pcK_of (clash_ok ha hb),kB_mk,fitsB_in ha hb]
  ·rw [decide_eq_false hb,cond_false,fitsB_out fun h=>hb h.2]
 ·rw [decide_eq_false ha,cond_false,fitsB_out fun h=>ha h.1]
def covF (a b:Int):Nat->Int->Bool
 | 0,_=>true
 | n+1,m=>(!(clashB b m) || clashB a m) && covF a b n (m+1)
theorem rcov_loop {a b:Int} (ha:0<=a/\a < 7) (hb:0<=b/\b < 7):∀(n:Nat) (m:Int),m+(n:Int)=7->0<=m->Go kcA false 0 fa61 (.head 0 (T61_0 a b m)) (.done (.bool (covF a b n m)))
 | 0,m,h,_=>by
  refine s61_0_run _ _ _ ?_ (.refl _)
  unfold s61_0
  rw [decide_eq_false (by omega)];rfl
 | n+1,m,h,h0=>by
  by_cases hc:(!(clashB b m) || clashB a m)=true
  ·refine s61_0_run _ _ _ ?_ (by unfold covF;rw [hc,Bool.true_and];exact rcov_loop ha hb n (m+1) (by omega) (by omega))
   unfold s61_0
   rw [decide_eq_true (by omega),cond_true,pcK_of (clash_ok hb ⟨h0,by omega⟩),kB_mk,pcK_of (clash_ok ha ⟨h0,by omega⟩),kB_mk,W_i64 (by omega)]
   revert hc
   cases clashB b m<;>cases clashB a m<;>intro hc<;>first | rfl | cases hc
  ·refine s61_0_run _ _ _ ?_ (.refl _)
   unfold s61_0 covF
   rw [decide_eq_true (by omega),cond_true,pcK_of (clash_ok hb ⟨h0,by omega⟩),kB_mk,pcK_of (clash_ok ha ⟨h0,by omega⟩),kB_mk]
   revert hc
   cases clashB b m<;>cases clashB a m<;>intro hc<;>first | rfl | (exact absurd rfl hc)
theorem covF_eq {a b:Int} (ha:0<=a/\a < 7) (hb:0<=b/\b < 7) (h6:¬(b=6/\a≠6)):covF a b 7 0=coversB a b:=by
 rcases seven ha with rfl | rfl | rfl | rfl | rfl | rfl | rfl<;>rcases seven hb with rfl | rfl | rfl | rfl | rfl | rfl | rfl<;>first | rfl | exact absurd ⟨rfl,by decide⟩ h6
theorem rcovers_ok (a b:Int):pcW cfgA 61 [.int .i64 a,.int .i64 b]=some (.bool (coversB a b)):=by
 by_cases hab:(0<=a/\a < 7)/\0<=b/\b < 7
 ·obtain ⟨ha,hb⟩:=hab
  by_cases h6:b=6/\a≠6
  ·obtain ⟨rfl,h6⟩:=h6
   have:coversB a 6=false:=by
    unfold coversB
    rw [show (!((6:Int)==6) || a==6)=false by simp [h6],Bool.and_false]
   rw [this]
   refine e61_run _ _ ?_ (.refl _)
   unfold e61
   rw [pcK_of (rthere_ok a),kB_mk,decide_eq_true ha,Bool.not_true,cond_false,pcK_of (rthere_ok 6),kB_mk,ibne_t h6];rfl
  ·rw [<-covF_eq ha hb h6]
   refine e61_run _ _ ?_ (rcov_loop ha hb 7 0 (by omega) (by omega))
   unfold e61
   rw [pcK_of (rthere_ok a),kB_mk,decide_eq_true ha,Bool.not_true,cond_false,pcK_of (rthere_ok b),kB_mk,decide_eq_true hb,Bool.not_true,cond_false]
   by_cases hb6:b=6
   ·rw [ibeq_t hb6,cond_true,ibne_f (Classical.not_not.1 fun h=>h6 ⟨hb6,h⟩)];rfl
   ·rw [ibeq_f hb6];rfl
 ·rw [coversB_out hab]
  refine e61_run _ _ ?_ (.refl _)
  unfold e61
  rw [pcK_of (rthere_ok a),kB_mk]
  by_cases ha:0<=a/\a < 7
  ·rw [decide_eq_true ha,Bool.not_true,cond_false,pcK_of (rthere_ok b),kB_mk,decide_eq_false fun hb=>hab ⟨ha,hb⟩];rfl
  ·rw [decide_eq_false ha];rfl
abbrev tm (els:List V) (ms:List (List (V × V))) (lk ws:List (V × V)):List O:=[.arena 66 els,.marena 63 ms,.box 38 (.agg [.mp 3,.mp 4]) false,.map lk,.map ws]
def d30 (v:V) (k:Int->Int->List UInt8->Int->R):R:=kA v fun cs=>unc cs fun c cs=>kI .i64 c fun x0=>unc cs fun c cs=>kI .i64 c fun x1=>unc cs fun c cs=>kS c fun x2=>unc cs fun c cs=>kI .i64 c fun x3=>unn cs<|(k x0 x1 x2 x3)
@[simp] theorem d30_mk (x0:Int) (x1:Int) (x2:List UInt8) (x3:Int) (k:Int->Int->List UInt8->Int->R):d30 (.agg [V.int .i64 x0,V.int .i64 x1,V.str x2,V.int .i64 x3]) k=k x0 x1 x2 x3:=rfl
@[congr] theorem d30_wc {v v':V} {k:Int->Int->List UInt8->Int->R} (h:v=v'):d30 v k=d30 v' k:=by rw [h]
def d50 (v:V) (k:List UInt8->Int->R):R:=kA v fun cs=>unc cs fun c cs=>kS c fun x0=>unc cs fun c cs=>kI .i64 c fun x1=>unn cs<|(k x0 x1)
@[simp] theorem d50_mk (x0:List UInt8) (x1:Int) (k:List UInt8->Int->R):d50 (.agg [V.str x0,V.int .i64 x1]) k=k x0 x1:=rfl
@[congr] theorem d50_wc {v v':V} {k:List UInt8->Int->R} (h:v=v'):d50 v k=d50 v' k:=by rw [h]
def two (g:Int->Int->V):List V->Option V
 | [.int .i64 a,.int .i64 b]=>some (g a b)
 | _=>none
def lppB (f:Nat):Option (List V->Option V) :=
 if f=43 then some (cloneP 70 2) else if f=49 then some (two fun a b=>.bool (fitsB a b)) else if f=56 then some (two fun a b=>.bool (coversB a b))
 else if f=28 then some (two fun a b=>.tup [.int .i64 (joinB a b),.int .i64 (if (0<=a/\a < 7)/\0<=b/\b < 7 then 0 else 1)]) else if f=53 then some (two fun a b=>.bool (fitsB a b)) else if f=61 then some (two fun a b=>.bool (coversB a b)) else none
def lipB (f:Nat):Option (List V->List O->Option (V × List O)):=if f=29 then some canP else if f=21 then some behindP else lipA f
def lcan (f:Nat):Option CM :=
 if f=42 then some ⟨true,true⟩ else
 if ([35,39,36,9,11,14,5,6,52]:List Nat).contains f then some ⟨false,false⟩ else
 if ([58,27,63,37,59,77,30,8,13,10,15,19,17,23,25]:List Nat).contains f then some ⟨true,false⟩ else none
def lars (f:Nat):List Nat:=if ([99901,99902,99903,99904,99905,99906,3,7]:List Nat).contains f then [66,63] else []
noncomputable def cfgB:Cfg:={ P:=Tryz.prog,pure:=fun f=>!limp f,adopt:=fun f=>f==43 || f==22 || f==38,pprim:=lppB,iprim:=lipB,ars:=lars,can:=lcan,rxf:=fun f d=>f==30 && (d==5000005 || d==6000016) || f==99903 && (d==2000083 || d==2000101 || d==2000139 || d==2000171) || f==99901 && (d==8000062 || d==8000093) || f==5 && (d==8000023 || d==8000064) }
def likB (f:Nat) (args:List V) (mem:List O) (k:V->List O->R):R :=
 cond (f==29) (canK args mem k) (cond (f==21) (behindK args mem k) (likA f args mem k))
noncomputable def kcB0:KC:={ cfg:=cfgB,frs:=fun _=>true,ik:=likB }
theorem lipA_B {f:Nat} {g:List V->List O->Option (V × List O)} (h:lipA f=some g):lipB f=some g:=by
 unfold lipB
 rw [if_neg,if_neg,h]
 ·rintro rfl;cases h
 ·rintro rfl;cases h
theorem ikB0:IKOK kcB0:=by
 refine ⟨?_,fun _ _ _ _ _ _ h=>nomatch h⟩
 intro f av mem k r h
 rcases cond_some h with ⟨e,h⟩ | ⟨_,h⟩
 ·have e:f=29:=by simpa using e
  subst e
  obtain ⟨v,m,h1,h2⟩:=canK_some h
  exact ⟨v,m,icW_prim (cfg:=cfgB) (g:=canP) rfl h1,h2⟩
 rcases cond_some h with ⟨e,h⟩ | ⟨_,h⟩
 ·have e:f=21:=by simpa using e
  subst e
  obtain ⟨v,m,h1,h2⟩:=behindK_some h
  exact ⟨v,m,icW_prim (cfg:=cfgB) (g:=behindP) rfl h1,h2⟩
 exact lik_some (fun _ _ h=>lipA_B h) h
theorem joinW (a b:Int):pcW cfgB 28 [.int .i64 a,.int .i64 b]=some (.tup [.int .i64 (joinB a b),.int .i64 (if (0<=a/\a < 7)/\0<=b/\b < 7 then 0 else 1)]) :=
 pcW_prim (cfg:=cfgB) (g:=two fun a b=>.tup [.int .i64 (joinB a b),.int .i64 (if (0<=a/\a < 7)/\0<=b/\b < 7 then 0 else 1)]) rfl rfl
theorem rfitsW (a b:Int):pcW cfgB 53 [.int .i64 a,.int .i64 b]=some (.bool (fitsB a b)):=pcW_prim (cfg:=cfgB) (g:=two fun a b=>.bool (fitsB a b)) rfl rfl
theorem rcoversW (a b:Int):pcW cfgB 61 [.int .i64 a,.int .i64 b]=some (.bool (coversB a b)):=pcW_prim (cfg:=cfgB) (g:=two fun a b=>.bool (coversB a b)) rfl rfl
end Go.Proofs.YtpkeiaeaonmacaaGreat
