/-
  The library's functions on rows that change them (slices.Insert, slices.Delete): once, for elements of any number of cells, over the walks of their bodies.
-/
import Derived.Test.YtknapnnpmfhogaaLite22
import Derived.Lib.Walk
import Derived.Lib.Overlaps
import Derived.Lib.AppendZerosOnto
import Derived.Laws.Externs
import Derived.Laws.IdiomCopy
import Derived.Laws.CopyRow
import Derived.Lib.Bytealg
namespace Go.Lite
open Go
section
variable {P : Program} {Z Z' : Zs} {w w' : World} {j j' : J} {mem mem' : List O}
theorem run_copy_rowN (w : World) (dT sT ty elem : TypeId) (i : TypeInfo) (g o dLen dCap : Nat) (a : Addr) (sLen sCap : Nat) (cur : Array Value) (t : TypeId) (cs : List Value)
    (hu : P.underlying dT = some (.slice elem)) (hi : P.info? elem = some i)
    (hg : w.heap[g]? = some (.cells cur t (0, 0))) (hn : cs.length = Nat.min sLen dLen * i.size)
    (hsrc : ∀ j v, cs[j]? = some v → w.cell? (a.add j) = some v) (hfit : o + cs.length ≤ cur.size) (h1 : ∀ v ∈ cs, v.oneCell' = true) :
    (Builtin.copy_ #[dT, sT] ty #[.slice (some ⟨g, o, none⟩) dLen dCap, .slice (some a) sLen sCap]).run P w =
      .ok (goInt (Nat.min sLen dLen)) (w.setRow g (cur.toList.take o ++ cs ++ cur.toList.drop (o + cs.length)).toArray) := by
  have hf := run_firstCells_some (P := P) w i.size (Nat.min sLen dLen) a sLen sCap cs hn hsrc
  have hst := run_storeCells_at P g o t cs 0 cur w hg (by simpa using hfit) h1
  simp only [Nat.add_zero] at hst
  simp [Builtin.copy_, run_underlying hu, Builtin.lenOf, sizeOf, typeInfo, hi, hf, hst]
def spl (us : Array Value) (p : Nat) (vs : List Value) : Array Value := (us.toList.take p ++ vs ++ us.toList.drop (p + vs.length)).toArray
theorem spl_size {us : Array Value} {p : Nat} {vs : List Value} (h : p + vs.length ≤ us.size) : (spl us p vs).size = us.size := by
  simp only [spl, List.size_toArray, List.length_append, List.length_take, List.length_drop, Array.length_toList]
  omega
theorem spl_get {us : Array Value} {p : Nat} {vs : List Value} (h : p + vs.length ≤ us.size) (o : Nat) : (spl us p vs)[o]? = if o < p then us[o]? else if o < p + vs.length then vs[o - p]? else us[o]? := by
  have hto : (us.toList.take p).length = p := by simp; omega
  simp only [spl, List.getElem?_toArray, List.append_assoc]
  by_cases h1 : o < p
  · rw [if_pos h1, List.getElem?_append_left (by omega), List.getElem?_take, if_pos h1]
    simp
  · rw [if_neg h1, List.getElem?_append_right (by omega), hto]
    by_cases h2 : o < p + vs.length
    · rw [if_pos h2, List.getElem?_append_left (by omega)]
    · rw [if_neg h2, List.getElem?_append_right (by omega), List.getElem?_drop]
      simp only [Array.getElem?_toList]
      congr 1
      omega
theorem row_inplace (s : SR P Z w j mem) {id : Nat} {e : TypeId} {els els' : List V} (hm : mem[id]? = some (.row e els 0)) {g q n c : Nat} {us us' : Array Value} (hj : j id = some ⟨.slice (some ⟨g, q, none⟩) n c, P.cellsOf e⟩)
    (hg : w.heap[g]? = some (.cells us e (0, 0))) (hZ : ∀ o, ¬ Z g o) {w1 : World} (hg1 : w1.heap[g]? = some (.cells us' e (0, 0))) (hot : ∀ k, k ≠ g → w1.heap[k]? = w.heap[k]?)
    (hos : w1.os = w.os) (htape : w1.tape = w.tape) (hout : w1.output = w.output) (hsz : w1.heap.size = w.heap.size) (hpos : 0 < P.cellsOf e) (hall : ∀ x ∈ els', x.cells.length = P.cellsOf e) (hlc : els'.length ≤ c) (hcm : c ≤ maxLen) (hus : q + c * P.cellsOf e ≤ us'.size)
    (hcl : ∀ (k : Nat) (x : V) (i : Nat) (y : V), els'[k]? = some x → x.cells[i]? = some y → y.one = true ∧ ∃ u, us'[q + (k * P.cellsOf e + i)]? = some u ∧ VR Z w j0 y u) :
    PostRow P Z w j mem (mem.set id .dead).length (newRow (mem.set id .dead) e els' 0).2 (.slice (some ⟨g, q, none⟩) els'.length c) w1 := by
  have hlt : id < mem.length := (List.getElem?_eq_some_iff.1 hm).1
  have hown : Owned Z j mem g := ⟨id, _, hm, rfl, by simp [Blk, O.ar, blkOf, hj, Han.blk]⟩
  have hno : ¬ Owned Z j (mem.set id .dead) g := by
    rintro ⟨k, x, hx, hl, hb⟩
    by_cases e' : id = k
    · subst e'
      rw [List.getElem?_set_self hlt] at hx
      cases hx
      cases hl
    · rw [List.getElem?_set_ne e'] at hx
      exact e' (s.inj id k _ x g hm hx rfl hl (by simp [Blk, O.ar, blkOf, hj, Han.blk]) hb)
  have s1 := s.kill hm
  have hz' : ZExt Z w Z w1 := by
    refine .of fun g' o ho => ⟨ho, ?_⟩
    by_cases hgg : g' = g
    · subst hgg; exact (hZ o ho).elim
    · exact same_block (hot g' hgg) o
  have s2 : SR P Z w1 j (mem.set id .dead) := s1.world hz' (fun g' hg' => ⟨hot g' (fun e' => hno (e' ▸ hg')), fun _ => Iff.rfl⟩) (fun g' o ho => by rw [hsz]; exact s1.zin g' o ho)
  have s3 := s2.add (h := ⟨.slice (some ⟨g, q, none⟩) els'.length c, P.cellsOf e⟩) (o := .row e els' 0) (fun g' hg' => by
      simp [Han.blk] at hg'; subst hg'; exact hno)
    ⟨_, upd_same _ _ _, rfl, hpos, Nat.zero_le _, hall, .inr ⟨g, q, c, us', rfl, hlc, hcm, hg1, hus, fun k x hk i y hy => by
        obtain ⟨a, u', hu', hv⟩ := hcl k x i y hk hy
        refine ⟨a, u', ?_, hv.mono hz' (JExt.refl _)⟩
        rw [cell_heap hg1, ← hu']
        simp only [Nat.add_assoc], fun o ho => (hZ o ho).elim, fun o ho => by simp at ho⟩⟩
  refine ⟨Z, _, _, upd_same _ _ _, s3, ⟨hos, htape, hout, by omega, fun g' hg' hno' => ⟨hot g' (fun e' => hno' (e' ▸ hown)), fun _ => Iff.rfl⟩, fun g' hg' ho => ?_, hz', fun t h => ⟨(noA.set hm (fun n e => by cases e) h).add rfl, rfl⟩⟩, s1.ext _⟩
  · rcases Owned.add ho with ho | ho
    · exact (Stp.kill (Z := Z) (w := w) (j := j) hm).owned g' hg' ho
    · simp [Han.blk] at ho; subst ho; exact hown
theorem run_append_roomQ (w : World) (t ty e : TypeId) (i : TypeInfo) (ht : P.underlying t = some (.slice e)) (hi : P.info? e = some i)
    (g b sLen sCap : Nat) (cur : Array Value) (hg : w.heap[g]? = some (.cells cur e (0, 0)))
    (a : Addr) (m c : Nat) (news : List Value) (hl : news.length = m * i.size) (hnews : ∀ j u, news[j]? = some u → w.cell? (a.add j) = some u) (h1 : ∀ u ∈ news, u.oneCell' = true)
    (hroom : sLen + m ≤ sCap) (hfit : b + sLen * i.size + news.length ≤ cur.size) :
    (Builtin.append_ #[t, t] ty #[.slice (some ⟨g, b, none⟩) sLen sCap, .slice (some a) m c]).run P w =
      .ok (.slice (some ⟨g, b, none⟩) (sLen + m) sCap) (w.setRow g (cur.toList.take (b + sLen * i.size) ++ news ++ cur.toList.drop (b + sLen * i.size + news.length)).toArray) := by
  have hf := run_firstCells_some (P := P) w i.size m a m c news hl hnews
  have hst := run_storeCells_at P g (b + sLen * i.size) e news 0 cur w hg (by simpa using hfit) h1
  simp only [Nat.add_zero] at hst
  simp [Builtin.append_, run_underlying ht, sizeOf, typeInfo, hi, Builtin.lenOf, hroom, hf, Addr.add_lit, hst]
theorem modify_push_last {α : Type} (a : Array α) (x : α) (f : α → α) : (a.push x).modify a.size f = a.push (f x) := by
  apply Array.ext
  · simp
  · intro i h1 h2
    simp only [Array.size_modify, Array.size_push] at h1
    rw [Array.getElem_modify]
    by_cases hi : i < a.size
    · rw [if_neg (by omega)]
      simp [Array.getElem_push_lt hi]
    · have : i = a.size := by omega
      subst this
      simp
theorem setRow_alloc (w : World) (us us' : Array Value) (t : TypeId) : ((w.alloc (.cells us t)).setRow w.heap.size us').heap = w.heap.push (.cells us' t) := by
  unfold World.setRow World.alloc
  simp only
  exact modify_push_last _ _ _
def srcOf (mem : List O) (id : Nat) : V → Option (TypeId × List V)
  | .own id2 => if Nat.beq id id2 then none else
    match mem[id2]? with
    | some (.row t xs _) => some (t, xs)
    | _ => none
  | .lit t xs => some (t, xs)
  | _ => none
def insP (e : TypeId) (sz : Nat) : List V → List O → Option (V × List O)
  | [.own id, .int .i64 i, x], mem =>
    match mem[id]?, srcOf mem id x with
    | some (.row t els 0), some (t2, xs) =>
      if t = e ∧ t2 = e ∧ wfl sz xs = true ∧ 0 < xs.length ∧ 0 ≤ i ∧ i.toNat ≤ els.length ∧ els.length + xs.length ≤ 16777216 then
        some (newRow (mem.set id .dead) e (els.take i.toNat ++ xs ++ els.drop i.toNat) 0)
      else none
    | _, _ => none
  | _, _ => none
structure InsW (P : Program) (f ov : FuncId) (t e tn : TypeId) (kn : IntKind) : Prop where
  ht : P.underlying t = some (.slice e)
  htn : P.underlying tn = some (.int kn)
  row : rowTy P e = true
  ovr : ∀ (w : World) (g g2 o m c2 lb cb : Nat) (us us2 : Array Value), g2 ≠ g → w.heap[g]? = some (.cells us e (0, 0)) → w.heap[g2]? = some (.cells us2 e (0, 0)) → 0 < us.size →
    (callFunc ov #[.slice (some ⟨g2, 0, none⟩) m c2, .slice (some ⟨g, o, none⟩) lb cb]).run P w = .ok (.value (.bool false)) w
  shift : ∀ (g n c i g2 m c2 : Nat) (w w2 w3 : World) (k1 k2 : Value), i < n → 0 < m → n + m ≤ c → c ≤ 9223372036854775807 →
    (∀ lb cb o, (callFunc ov #[.slice (some ⟨g2, 0, none⟩) m c2, .slice (some ⟨g, o, none⟩) lb cb]).run P w = .ok (.value (.bool false)) w) →
    (∀ ty dc sc, (Builtin.copy_ #[t, t] ty #[.slice (some ⟨g, (i + m) * P.cellsOf e, none⟩) (n + m - (i + m)) dc, .slice (some ⟨g, i * P.cellsOf e, none⟩) (n + m - i) sc]).run P w.drew = .ok k1 w2) →
    (∀ ty dc, (Builtin.copy_ #[t, t] ty #[.slice (some ⟨g, i * P.cellsOf e, none⟩) (n + m - i) dc, .slice (some ⟨g2, 0, none⟩) m c2]).run P w2 = .ok k2 w3) →
    Calls P f #[.slice (some ⟨g, 0, none⟩) n c, .int .i64 i, .slice (some ⟨g2, 0, none⟩) m c2] w fun x w' => x = .returned (.slice (some ⟨g, 0, none⟩) (n + m) c) ∧ w' = w3
  atEnd : ∀ (A A2 : Option Addr) (n c m c2 : Nat) (w w1 : World) (r : Value), 0 < m → n ≤ c → c ≤ 9223372036854775807 → (A = none → n = 0 ∧ c = 0) → (∀ a, A = some a → ∃ g, a = ⟨g, 0, none⟩) →
    (∀ ty, (Builtin.append_ #[t, t] ty #[.slice A n c, .slice A2 m c2]).run P w = .ok r w1) →
    Calls P f #[.slice A n c, .int .i64 n, .slice A2 m c2] w fun x w' => x = .returned r ∧ w' = w1
  grow : ∀ (g n c i g2 m c2 N G : Nat) (w w1 w2 w3 : World) (k1 k2 : Value), i < n → 0 < m → n ≤ c → c < n + m → n + m ≤ 16777216 → n + m ≤ G → G ≤ 9223372036854775807 →
    (∀ ty, (Builtin.append_ #[t, tn] ty #[.slice (some ⟨g, 0, none⟩) i c, .int .i64 ((n : Int) + (m : Int) - (i : Int))]).run P w = .ok (.slice (some ⟨N, 0, none⟩) (n + m) G) w1) →
    (∀ ty dc, (Builtin.copy_ #[t, t] ty #[.slice (some ⟨N, i * P.cellsOf e, none⟩) (n + m - i) dc, .slice (some ⟨g2, 0, none⟩) m c2]).run P w1 = .ok k1 w2) →
    (∀ ty dc sc, (Builtin.copy_ #[t, t] ty #[.slice (some ⟨N, (i + m) * P.cellsOf e, none⟩) (n + m - (i + m)) dc, .slice (some ⟨g, i * P.cellsOf e, none⟩) (n - i) sc]).run P w2.drew = .ok k2 w3) →
    Calls P f #[.slice (some ⟨g, 0, none⟩) n c, .int .i64 i, .slice (some ⟨g2, 0, none⟩) m c2] w fun x w' => x = .returned (.slice (some ⟨N, 0, none⟩) (n + m) G) ∧ w' = w3
theorem div_lt' {o n sz : Nat} (h : o < n * sz) : o / sz < n := Nat.div_lt_of_lt_mul (by rwa [Nat.mul_comm])
theorem ins_ok {f ov : FuncId} {t e tn : TypeId} {kn : IntKind} (W : InsW P f ov t e tn kn) : ImpOK P fun f' as mem => if f' = f then insP e (P.cellsOf e) as mem else none := by
  intro f' as mem r mem' h hok Z w j us s ha
  simp only at h
  by_cases hf : f' = f
  rotate_left
  · rw [if_neg hf] at h; cases h
  subst hf
  rw [if_pos rfl] at h
  unfold insP at h
  split at h
  rotate_left
  · cases h
  rename_i id i x2
  split at h
  rotate_left
  · cases h
  rename_i te els t2 xs hm hm2
  split at h
  rotate_left
  · cases h
  rename_i hc
  obtain ⟨rfl, rfl, hw, hx0, hi0, hin, hlen⟩ := hc
  cases h
  have hxl : ∀ x ∈ xs, x.cells.length = P.cellsOf t2 := fun x hx => by
    have := List.all_eq_true.1 hw x hx
    simpa using this
  obtain ⟨hl, hv⟩ := ha
  match us, hl, hv with
  | [u, ui, ux], hl, hv =>
  have hu := hv 0 (.own id) u rfl rfl
  have hui := hv 1 (.int .i64 i) ui rfl rfl
  have hux := hv 2 x2 ux rfl rfl
  cases hui
  obtain ⟨h, hh, h1, h2, h3, h4, h5⟩ := s.obj id _ hm
  have hroom : roomy P t2 (els.length + xs.length) = true := by simp [roomy, hlen, W.row]
  obtain ⟨_, hby, hpos, inf, z, hinf, his, hib, hz, hzs⟩ := roomy_spec hroom
  cases hu with
  | own hju h00 =>
  rename_i A n c szu
  rw [hju] at hh
  cases hh
  simp only at h1 h2
  subst h1
  have h2 : 0 < P.cellsOf t2 := h2
  have hel2 : elems mem x2 = some xs := by
    cases x2 <;> simp only [srcOf] at hm2 <;> first | (cases hm2; done) | skip
    · split at hm2
      · cases hm2
      · split at hm2
        · rename_i hmm; cases hm2; simp only [elems, hmm]
        · cases hm2
    · cases hm2; rfl
  obtain ⟨g2, c2, us2, rfl, hg2, hcells2, hgn2⟩ : ∃ g2 c2 us2, ux = .slice (some ⟨g2, 0, none⟩) xs.length c2 ∧ w.heap[g2]? = some (.cells us2 t2 (0, 0)) ∧ (∀ k x, xs[k]? = some x → CellsAt Z w j0 g2 (0 + k * P.cellsOf t2) x.cells) ∧
      (∀ g, blkOf j id = some g → (∀ o, ¬ Z g o) → g2 ≠ g) := by
    cases x2 with
    | own id2 =>
      simp only [srcOf] at hm2
      split at hm2
      · cases hm2
      · rename_i hne
        split at hm2
        · rename_i t2' xs' fz2 hmm
          cases hm2
          obtain ⟨hb, hhb, b1, b2, b3, b4, b5⟩ := s.obj id2 _ hmm
          cases hux with
          | own hjx h01 =>
            rw [hjx] at hhb
            cases hhb
            simp only at b1 b2
            subst b1
            rcases b5 with ⟨hv2, he2⟩ | ⟨g2, q2, cc2, us2, hv2, hlc2, hcm2, hg2, hus2, hcells2, hz21, hz22⟩
            · subst he2; simp at hx0
            · simp only at hv2
              cases hv2
              have hq2 : q2 = 0 := h01 _ rfl
              subst hq2
              refine ⟨g2, _, us2, rfl, hg2, hcells2, fun g hg _ => ?_⟩
              rintro rfl
              exact hne (by rw [s.inj id id2 _ _ g2 hm hmm rfl rfl hg (by simp [Blk, O.ar, blkOf, hjx, Han.blk])]; exact Nat.beq_refl _)
        · cases hm2
    | lit t' l' =>
      simp only [srcOf] at hm2
      cases hm2
      cases hux with
      | lit hsl hk hz0 =>
        rename_i g2 n2
        have hk := hk hx0
        have hz0 := hz0 hx0
        simp only [kindOf] at hk
        split at hk
        · rename_i us2 tt fr hgg
          cases hk
          rcases hsl.slInv with ⟨A, c, he, _⟩ | ⟨g', b', c', sz', he, _, hsz', hh'⟩
          · subst he; simp at hx0
          · simp only [Value.slice.injEq, Option.some.injEq, Addr.mk.injEq, and_true, true_and] at he
            obtain ⟨⟨rfl, rfl⟩, hcc⟩ := he
            have e0 : xs[0]? = some xs[0] := List.getElem?_eq_getElem hx0
            have es : sz' = P.cellsOf t2 := by rw [← (hh' 0 _ e0).1, hxl _ (List.mem_of_getElem? e0)]
            subst es
            refine ⟨g2, _, us2, rfl, hgg, fun k x hk => (hh' k x hk).2.2, fun g hg hno => ?_⟩
            rintro rfl
            exact hno 0 hz0
        · cases hk
    | _ => simp [srcOf] at hm2
  · clear h2
    have hnc : n = els.length ∧ n ≤ c ∧ c ≤ 9223372036854775807 ∧ (A = none → n = 0 ∧ c = 0) ∧ (∀ a, A = some a → ∃ g, a = ⟨g, 0, none⟩) := by
      rcases h5 with ⟨hv1, he1⟩ | ⟨g, q, cc, us1, hv1, hlc, hcm, _⟩
      · simp only at hv1; cases hv1; subst he1; exact ⟨rfl, Nat.le_refl _, by omega, fun _ => ⟨rfl, rfl⟩, (by intro a h; cases h)⟩
      · simp only at hv1; cases hv1; have hq : q = 0 := h00 _ rfl; subst hq; exact ⟨rfl, hlc, by unfold maxLen at hcm; omega, (by intro h; cases h), (by intro a h; cases h; exact ⟨g, rfl⟩)⟩
    obtain ⟨hn, hnc, hc63, hA0, hA1⟩ := hnc
    obtain ⟨ii, rfl⟩ : ∃ ii : Nat, i = (ii : Int) := ⟨i.toNat, by omega⟩
    have eii : ((ii : Int)).toNat = ii := by omega
    rw [eii] at hin ⊢
    by_cases hend : ii = els.length
    · -- at the end
      have hap : appendM P mem t (.own id) x2 = some (newRow (mem.set id .dead) t2 (els ++ xs) 0) := by
        have hel3 : elemsS mem x2 = some xs := by cases x2 <;> first | exact hel2 | (cases hel2)
        simp only [appendM, elemOf, W.ht, Option.bind_some, hel3, hm, hroom, and_self, if_true]
        have : (xs.all fun y => y.cells.length == P.cellsOf t2) = true := hw
        rw [if_pos this]
      obtain ⟨r1, w1, hr, hpost⟩ := append_sound (t := t) (tx := t) (ty := t) (u := .slice A n c) (ux := .slice (some ⟨g2, 0, none⟩) xs.length c2) s (by cases x2 <;> first | (simp [appTy]; done) | (cases hel2)) hap (.own hju h00) hux
      have hr' : ∀ ty, (Builtin.append_ #[t, t] ty #[.slice A n c, .slice (some ⟨g2, 0, none⟩) xs.length c2]).run P w = .ok r1 w1 := fun ty => hr
      have e1 : els.take ii ++ xs ++ els.drop ii = els ++ xs := by rw [hend]; simp
      rw [e1]
      have hcall := W.atEnd A (some ⟨g2, 0, none⟩) n c xs.length c2 w w1 r1 hx0 hnc hc63 hA0 hA1 hr'
      have e2 : ii = n := by omega
      subst e2
      exact hcall.mono fun x w' hxw => by
        obtain ⟨rfl, rfl⟩ := hxw
        exact ⟨r1, rfl, hpost⟩
    · have hlt : ii < els.length := by omega
      rcases h5 with ⟨hv1, he1⟩ | ⟨g, q, cc, us1, hv1, hlc, hcm, hg, hus, hcells, hz1, hz2⟩
      · subst he1; simp at hlt
      · simp only at hv1
        cases hv1
        have hq : q = 0 := h00 _ rfl
        subst hq
        have hus : c * P.cellsOf t2 ≤ us1.size := by simpa using hus
        have hZ : ∀ o, ¬ Z g o := fun o ho => by have := (hz1 o ho).1; omega
        have hgne : g2 ≠ g := hgn2 g (by simp [blkOf, hju, Han.blk]) hZ
        obtain ⟨news, hnl, hnc', hnr⟩ := flat_cells hpos hxl hcells2
        obtain ⟨olds, hol, hoc, hor⟩ := flat_cells hpos h4 hcells
        have hn1 : ∀ v ∈ news, v.oneCell' = true := fun v hv => by
          obtain ⟨k, hk, rfl⟩ := List.getElem_of_mem hv
          exact (hnc' k _ (List.getElem?_eq_getElem hk)).2
        have ho1 : ∀ v ∈ olds.drop (ii * P.cellsOf t2), v.oneCell' = true := fun v hv => by
          obtain ⟨k, hk, rfl⟩ := List.getElem_of_mem (List.mem_of_mem_drop hv)
          exact (hoc k _ (List.getElem?_eq_getElem hk)).2
        have hdl : (olds.drop (ii * P.cellsOf t2)).length = (els.length - ii) * P.cellsOf t2 := by
          rw [List.length_drop, hol, ← Nat.sub_mul]
        have hget : ∀ k u, (olds.drop (ii * P.cellsOf t2))[k]? = some u → w.cell? ((⟨g, ii * P.cellsOf t2, none⟩ : Addr).add k) = some u := fun k u hk => by
          rw [List.getElem?_drop] at hk
          have := (hoc _ u hk).1
          rw [Addr.add_lit] at this ⊢
          rw [← this]
          congr 2
          omega
        have hmul1 : ii * P.cellsOf t2 ≤ els.length * P.cellsOf t2 := Nat.mul_le_mul_right _ hin
        have hM : (els.length + xs.length) * P.cellsOf t2 = els.length * P.cellsOf t2 + xs.length * P.cellsOf t2 := Nat.add_mul _ _ _
        have hIM : (ii + xs.length) * P.cellsOf t2 = ii * P.cellsOf t2 + xs.length * P.cellsOf t2 := Nat.add_mul _ _ _
        have hDD : (els.length - ii) * P.cellsOf t2 = els.length * P.cellsOf t2 - ii * P.cellsOf t2 := Nat.sub_mul _ _ _
        have hall : ∀ x ∈ els.take ii ++ xs ++ els.drop ii, x.cells.length = P.cellsOf t2 := fun x hx => by
          simp only [List.mem_append] at hx
          rcases hx with (hx | hx) | hx
          · exact h4 x (List.mem_of_mem_take hx)
          · exact hxl x hx
          · exact h4 x (List.mem_of_mem_drop hx)
        have hlen' : (els.take ii ++ xs ++ els.drop ii).length = els.length + xs.length := by simp; omega
        have key : ∀ (F : Array Value) (D : Array Value), (∀ o, o < ii * P.cellsOf t2 → F[o]? = olds[o]?) → (∀ o, o < xs.length * P.cellsOf t2 → F[ii * P.cellsOf t2 + o]? = news[o]?) → (∀ o, o < (els.length - ii) * P.cellsOf t2 → F[(ii + xs.length) * P.cellsOf t2 + o]? = olds[ii * P.cellsOf t2 + o]?) →
            ∀ (k : Nat) (x : V) (q : Nat) (y : V), (els.take ii ++ xs ++ els.drop ii)[k]? = some x → x.cells[q]? = some y → y.one = true ∧ ∃ u, F[k * P.cellsOf t2 + q]? = some u ∧ VR Z w j0 y u := by
          intro F _ f1 f2 f3 k x q y hk hy
          have hq : q < P.cellsOf t2 := by rw [← hall x (List.mem_of_getElem? hk)]; exact (List.getElem?_eq_some_iff.1 hy).1
          by_cases k1 : k < ii
          · rw [List.append_assoc, List.getElem?_append_left (by simp; omega), List.getElem?_take, if_pos k1] at hk
            obtain ⟨a, u', hu', hvr⟩ := hor k x q y hk hy
            refine ⟨a, u', ?_, hvr⟩
            rw [f1 _ ?_]
            · exact hu'
            · have : (k + 1) * P.cellsOf t2 ≤ ii * P.cellsOf t2 := Nat.mul_le_mul_right _ k1
              rw [Nat.succ_mul] at this
              omega
          · by_cases k2 : k < ii + xs.length
            · rw [List.append_assoc, List.getElem?_append_right (by simp; omega), List.getElem?_append_left (by simp; omega)] at hk
              have e3 : k - (els.take ii).length = k - ii := by simp; omega
              rw [e3] at hk
              obtain ⟨a, u', hu', hvr⟩ := hnr _ x q y hk hy
              refine ⟨a, u', ?_, hvr⟩
              have e4 : k * P.cellsOf t2 + q = ii * P.cellsOf t2 + ((k - ii) * P.cellsOf t2 + q) := by
                have : k * P.cellsOf t2 = ii * P.cellsOf t2 + (k - ii) * P.cellsOf t2 := by rw [← Nat.add_mul]; congr 1; omega
                omega
              rw [e4, f2 _ ?_]
              · exact hu'
              · have : (k - ii + 1) * P.cellsOf t2 ≤ xs.length * P.cellsOf t2 := Nat.mul_le_mul_right _ (by omega)
                rw [Nat.succ_mul] at this
                omega
            · rw [List.getElem?_append_right (by simp; omega)] at hk
              have e3 : k - (els.take ii ++ xs).length = k - ii - xs.length := by simp; omega
              rw [e3, List.getElem?_drop] at hk
              have hkl := (List.getElem?_eq_some_iff.1 hk).1
              obtain ⟨a, u', hu', hvr⟩ := hor _ x q y hk hy
              refine ⟨a, u', ?_, hvr⟩
              have e4 : k * P.cellsOf t2 + q = (ii + xs.length) * P.cellsOf t2 + ((k - ii - xs.length) * P.cellsOf t2 + q) := by
                have : k * P.cellsOf t2 = (ii + xs.length) * P.cellsOf t2 + (k - ii - xs.length) * P.cellsOf t2 := by rw [← Nat.add_mul]; congr 1; omega
                omega
              rw [e4, f3 _ ?_]
              · rw [← hu']
                congr 1
                have : (ii + (k - ii - xs.length)) * P.cellsOf t2 = ii * P.cellsOf t2 + (k - ii - xs.length) * P.cellsOf t2 := Nat.add_mul _ _ _
                omega
              · have : (k - ii - xs.length + 1) * P.cellsOf t2 ≤ (els.length - ii) * P.cellsOf t2 := Nat.mul_le_mul_right _ (by omega)
                rw [Nat.succ_mul] at this
                omega
        have hold : ∀ o, o < els.length * P.cellsOf t2 → us1[o]? = olds[o]? := fun o ho => by
          have hlt' : o < olds.length := by omega
          have hc0 := (hoc o _ (List.getElem?_eq_getElem hlt')).1
          rw [Addr.add_lit, cell_heap hg] at hc0
          rw [List.getElem?_eq_getElem hlt', ← hc0]
          congr 1
          simp
        by_cases hfit : els.length + xs.length ≤ c
        · -- in place
          have hfitm : (els.length + xs.length) * P.cellsOf t2 ≤ c * P.cellsOf t2 := Nat.mul_le_mul_right _ hfit
          have p1 : (ii + xs.length) * P.cellsOf t2 + (olds.drop (ii * P.cellsOf t2)).length ≤ us1.size := by rw [hdl]; omega
          have hcp1 : ∀ ty dc sc, (Builtin.copy_ #[t, t] ty #[.slice (some ⟨g, (ii + xs.length) * P.cellsOf t2, none⟩) (els.length + xs.length - (ii + xs.length)) dc, .slice (some ⟨g, ii * P.cellsOf t2, none⟩) (els.length + xs.length - ii) sc]).run P w.drew =
              .ok (goInt (els.length - ii : Nat)) (w.drew.setRow g (spl us1 ((ii + xs.length) * P.cellsOf t2) (olds.drop (ii * P.cellsOf t2)))) := fun ty dc sc => by
            have hmin : Nat.min (els.length + xs.length - ii) (els.length + xs.length - (ii + xs.length)) = els.length - ii := by simp only [Nat.min_def]; split <;> omega
            have := run_copy_rowN (P := P) w.drew t t ty t2 inf g ((ii + xs.length) * P.cellsOf t2) (els.length + xs.length - (ii + xs.length)) dc ⟨g, ii * P.cellsOf t2, none⟩ (els.length + xs.length - ii) sc us1 t2 (olds.drop (ii * P.cellsOf t2)) W.ht hinf hg (by rw [hmin, hdl, his]) hget p1 ho1
            rw [hmin] at this
            exact this
          obtain ⟨F1, hF1⟩ : ∃ F1, F1 = spl us1 ((ii + xs.length) * P.cellsOf t2) (olds.drop (ii * P.cellsOf t2)) := ⟨_, rfl⟩
          have sF1 : F1.size = us1.size := by rw [hF1]; exact spl_size p1
          rw [← hF1] at hcp1
          have hgF : (w.drew.setRow g F1).heap[g]? = some (.cells F1 t2 (0, 0)) := setRow_heap w.drew g us1 F1 t2 (0, 0) hg
          have p2 : ii * P.cellsOf t2 + news.length ≤ F1.size := by rw [sF1, hnl]; omega
          have hcp2 : ∀ ty dc, (Builtin.copy_ #[t, t] ty #[.slice (some ⟨g, ii * P.cellsOf t2, none⟩) (els.length + xs.length - ii) dc, .slice (some ⟨g2, 0, none⟩) xs.length c2]).run P (w.drew.setRow g F1) =
              .ok (goInt xs.length) ((w.drew.setRow g F1).setRow g (spl F1 (ii * P.cellsOf t2) news)) := fun ty dc => by
            have hmin : Nat.min xs.length (els.length + xs.length - ii) = xs.length := by simp only [Nat.min_def]; split <;> omega
            have := run_copy_rowN (P := P) (w.drew.setRow g F1) t t ty t2 inf g (ii * P.cellsOf t2) (els.length + xs.length - ii) dc ⟨g2, 0, none⟩ xs.length c2 F1 t2 news W.ht hinf hgF (by rw [hmin, hnl, his]) (fun k u hk => by
              have := (hnc' k u hk).1
              rw [Addr.add_lit] at this ⊢
              rw [← this]
              exact World.cell?_of_block (a := ⟨g2, 0 + k, none⟩) (setRow_other w.drew g g2 F1 hgne)) p2 hn1
            rw [hmin] at this
            exact this
          have hcall := W.shift g els.length c ii g2 xs.length c2 w _ _ _ _ hlt hx0 hfit hc63 (fun lb cb o => W.ovr w g g2 o xs.length c2 lb cb us1 us2 hgne hg hg2 (Nat.lt_of_lt_of_le (Nat.lt_of_lt_of_le (Nat.mul_pos (by omega) hpos) hfitm) hus)) hcp1 hcp2
          refine hcall.mono fun x w' hxw => ?_
          obtain ⟨rfl, rfl⟩ := hxw
          refine ⟨_, rfl, ?_⟩
          rw [setRow_setRow]
          have hk0 := key (spl F1 (ii * P.cellsOf t2) news) #[] (fun o ho => by
                rw [spl_get p2, if_pos ho, hF1, spl_get p1, if_pos (by omega)]
                exact hold o (by omega))
              (fun o ho => by
                rw [spl_get p2, if_neg (by omega), if_pos (by rw [hnl]; omega)]
                congr 1
                omega)
              (fun o ho => by
                rw [spl_get p2, if_neg (by omega), if_neg (by rw [hnl]; omega), hF1, spl_get p1, if_neg (by omega), if_pos (by rw [hdl]; omega), List.getElem?_drop]
                congr 1
                omega)
          have hp := row_inplace (els' := els.take ii ++ xs ++ els.drop ii) s hm hju hg hZ (w1 := w.drew.setRow g (spl F1 (ii * P.cellsOf t2) news)) (setRow_heap w.drew g us1 _ t2 (0, 0) hg) (fun k hk => setRow_other w.drew g k _ hk) rfl rfl rfl
            (by show (w.heap.modify g _).size = w.heap.size; simp) hpos hall (by rw [hlen']; exact hfit) hcm (by rw [spl_size p2, sF1, Nat.zero_add]; exact hus)
            (fun k x i y hk hy => by rw [Nat.zero_add]; exact hk0 k x i y hk hy)
          rw [hlen'] at hp
          exact hp.own (fun a ha => by cases ha; rfl)
        · -- a new block
          have hgrow : c < els.length + xs.length := by omega
          have hbytes : (els.length + xs.length) * inf.bytes ≤ 140737488355328 := by
            rw [hib]
            exact Nat.le_trans (Nat.mul_le_mul hlen hby) (by decide)
          obtain ⟨G, hG⟩ : ∃ G, G = grownCap w (els.length + xs.length) c t2 := ⟨_, rfl⟩
          have hGn : els.length + xs.length ≤ G := by rw [hG]; exact grownCap_ge w _ _ _
          have hGm : G ≤ maxLen := by rw [hG]; exact grownCap_le_maxLen w _ c t2 (by simp only [maxLen]; omega)
          have htk : (olds.take (ii * P.cellsOf t2)).length = ii * P.cellsOf t2 := by rw [List.length_take, hol]; omega
          have hfc : (Builtin.firstCells inf.size ii (.slice (some ⟨g, 0, none⟩) ii c)).run P w.drew = .ok (olds.take (ii * P.cellsOf t2)).toArray w.drew :=
            run_firstCells_some w.drew inf.size ii ⟨g, 0, none⟩ ii c _ (by rw [htk, his]) (fun k v hk => by
              rw [List.getElem?_take] at hk
              split at hk
              · exact (hoc k v hk).1
              · cases hk)
          have hik : ii + (els.length + xs.length - ii) = els.length + xs.length := by omega
          obtain ⟨ROW, hROW⟩ : ∃ ROW : Array Value, ROW = (olds.take (ii * P.cellsOf t2)).toArray ++ Builtin.zeroCells z.cells (els.length + xs.length - ii) ++ Builtin.zeroCells z.cells (G - (els.length + xs.length)) := ⟨_, rfl⟩
          have hRs : ROW.size = G * P.cellsOf t2 := by
            rw [hROW]
            simp only [Array.size_append, List.size_toArray, size_zeroCells, htk, hzs, ← Nat.add_mul]
            congr 1
            omega
          have hRl : (els.length + xs.length) * P.cellsOf t2 ≤ ROW.size := by rw [hRs]; exact Nat.mul_le_mul_right _ hGn
          have hrz : ∀ ty, (Builtin.append_ #[t, tn] ty #[.slice (some ⟨g, 0, none⟩) ii c, .int .i64 ((els.length : Int) + (xs.length : Int) - (ii : Int))]).run P w =
              .ok (.slice (some ⟨w.heap.size, 0, none⟩) (els.length + xs.length) G) (w.drew.alloc (.cells ROW t2)) := fun ty => by
            have hh := Lib.run_append_grow_zeros w t tn ty t2 inf z .i64 kn W.ht W.htn hinf hz (some ⟨g, 0, none⟩) ii c _ hfc (els.length + xs.length - ii) (by omega) (by rw [his]; exact hpos) (by omega) (by omega) (by
              have h7 : (els.length + xs.length - ii) * inf.bytes ≤ (els.length + xs.length) * inf.bytes := Nat.mul_le_mul_right _ (by omega)
              omega) (by rw [hik]; exact growslice_fits hgrow hbytes)
            rw [hik] at hh
            rw [show (els.length : Int) + (xs.length : Int) - (ii : Int) = ((els.length + xs.length - ii : Nat) : Int) by omega, hh, hROW, hG]
          have hgW : (w.drew.alloc (.cells ROW t2)).heap[w.heap.size]? = some (.cells ROW t2 (0, 0)) := heap_alloc_new w.drew _
          have hgl : g < w.heap.size := (Array.getElem?_eq_some_iff.1 hg).1
          have hgl2 : g2 < w.heap.size := (Array.getElem?_eq_some_iff.1 hg2).1
          have hoth : ∀ k, k < w.heap.size → (w.drew.alloc (.cells ROW t2)).heap[k]? = w.heap[k]? := fun k hk => by
            show (w.heap.push _)[k]? = _
            rw [Array.getElem?_push_lt hk, Array.getElem?_eq_getElem hk]
          have p2 : ii * P.cellsOf t2 + news.length ≤ ROW.size := by rw [hnl]; omega
          have hcpA : ∀ ty dc, (Builtin.copy_ #[t, t] ty #[.slice (some ⟨w.heap.size, ii * P.cellsOf t2, none⟩) (els.length + xs.length - ii) dc, .slice (some ⟨g2, 0, none⟩) xs.length c2]).run P (w.drew.alloc (.cells ROW t2)) =
              .ok (goInt xs.length) ((w.drew.alloc (.cells ROW t2)).setRow w.heap.size (spl ROW (ii * P.cellsOf t2) news)) := fun ty dc => by
            have hmin : Nat.min xs.length (els.length + xs.length - ii) = xs.length := by simp only [Nat.min_def]; split <;> omega
            have := run_copy_rowN (P := P) (w.drew.alloc (.cells ROW t2)) t t ty t2 inf w.heap.size (ii * P.cellsOf t2) (els.length + xs.length - ii) dc ⟨g2, 0, none⟩ xs.length c2 ROW t2 news W.ht hinf hgW (by rw [hmin, hnl, his]) (fun k u hk => by
              have := (hnc' k u hk).1
              rw [Addr.add_lit] at this ⊢
              rw [← this]
              exact World.cell?_of_block (a := ⟨g2, 0 + k, none⟩) (hoth g2 hgl2)) p2 hn1
            rw [hmin] at this
            exact this
          obtain ⟨F1, hF1⟩ : ∃ F1, F1 = spl ROW (ii * P.cellsOf t2) news := ⟨_, rfl⟩
          have sF1 : F1.size = ROW.size := by rw [hF1]; exact spl_size p2
          rw [← hF1] at hcpA
          have hgF : ((w.drew.alloc (.cells ROW t2)).setRow w.heap.size F1).drew.heap[w.heap.size]? = some (.cells F1 t2 (0, 0)) := setRow_heap _ w.heap.size ROW F1 t2 (0, 0) hgW
          have p1 : (ii + xs.length) * P.cellsOf t2 + (olds.drop (ii * P.cellsOf t2)).length ≤ F1.size := by rw [hdl, sF1]; omega
          have hcpB : ∀ ty dc sc, (Builtin.copy_ #[t, t] ty #[.slice (some ⟨w.heap.size, (ii + xs.length) * P.cellsOf t2, none⟩) (els.length + xs.length - (ii + xs.length)) dc, .slice (some ⟨g, ii * P.cellsOf t2, none⟩) (els.length - ii) sc]).run P ((w.drew.alloc (.cells ROW t2)).setRow w.heap.size F1).drew =
              .ok (goInt (els.length - ii : Nat)) (((w.drew.alloc (.cells ROW t2)).setRow w.heap.size F1).drew.setRow w.heap.size (spl F1 ((ii + xs.length) * P.cellsOf t2) (olds.drop (ii * P.cellsOf t2)))) := fun ty dc sc => by
            have hmin : Nat.min (els.length - ii) (els.length + xs.length - (ii + xs.length)) = els.length - ii := by simp only [Nat.min_def]; split <;> omega
            have := run_copy_rowN (P := P) ((w.drew.alloc (.cells ROW t2)).setRow w.heap.size F1).drew t t ty t2 inf w.heap.size ((ii + xs.length) * P.cellsOf t2) (els.length + xs.length - (ii + xs.length)) dc ⟨g, ii * P.cellsOf t2, none⟩ (els.length - ii) sc F1 t2 (olds.drop (ii * P.cellsOf t2)) W.ht hinf hgF (by rw [hmin, hdl, his]) (fun k u hk => by
              have := hget k u hk
              rw [Addr.add_lit] at this ⊢
              rw [← this]
              refine World.cell?_of_block (a := ⟨g, ii * P.cellsOf t2 + k, none⟩) ?_
              exact (setRow_other (w.drew.alloc (.cells ROW t2)) w.heap.size g F1 (by omega)).trans (hoth g hgl)) p1 ho1
            rw [hmin] at this
            exact this
          have hcall := W.grow g els.length c ii g2 xs.length c2 w.heap.size G w _ _ _ _ _ hlt hx0 hnc hgrow hlen hGn (by unfold maxLen at hGm; omega) hrz hcpA hcpB
          refine hcall.mono fun x w' hxw => ?_
          obtain ⟨rfl, rfl⟩ := hxw
          refine ⟨_, rfl, ?_⟩
          have hheap : (((w.drew.alloc (.cells ROW t2)).setRow w.heap.size F1).drew.setRow w.heap.size (spl F1 ((ii + xs.length) * P.cellsOf t2) (olds.drop (ii * P.cellsOf t2)))).heap = w.heap.push (.cells (spl F1 ((ii + xs.length) * P.cellsOf t2) (olds.drop (ii * P.cellsOf t2))) t2) := by
            show (((w.drew.alloc (.cells ROW t2)).setRow w.heap.size F1).setRow w.heap.size _).heap = _
            rw [setRow_setRow]
            exact setRow_alloc w.drew ROW _ t2
          have hp := row_sound (fz := 0) (els := els.take ii ++ xs ++ els.drop ii) (c := G) (s.kill hm) hheap rfl rfl rfl hpos hall (Nat.zero_le _) (by rw [hlen']; exact hGn) hGm (by rw [spl_size p1, sF1, hRs])
            (key _ #[] (fun o ho => by
                rw [spl_get p1, if_pos (by omega), hF1, spl_get p2, if_pos ho, hROW, Array.append_assoc, Array.getElem?_append_left (by simpa [htk] using ho)]
                simp only [List.getElem?_toArray, List.getElem?_take, if_pos ho])
              (fun o ho => by
                rw [spl_get p1, if_pos (by omega), hF1, spl_get p2, if_neg (by omega), if_pos (by rw [hnl]; omega)]
                congr 1
                omega)
              (fun o ho => by
                rw [spl_get p1, if_neg (by omega), if_pos (by rw [hdl]; omega), List.getElem?_drop]
                congr 1
                omega))
          rw [hlen'] at hp
          exact hp.stp (Stp.kill hm)
theorem setRow_same {w : World} {g : Nat} {us : Array Value} {t : TypeId} {fr : Nat × Nat} (hg : w.heap[g]? = some (.cells us t fr)) : w.setRow g us = w := by
  have hh : (w.setRow g us).heap = w.heap := by
    apply Array.ext_getElem?
    intro k
    by_cases hk : k = g
    · subst hk; rw [setRow_heap w k us us t fr hg, hg]
    · exact setRow_other w g k us hk
  cases w
  unfold World.setRow at hh ⊢
  simp only at hh
  simp only [hh]
def delM (e : TypeId) (mem : List O) (id : Nat) (i j : Int) : Option (List O) :=
  match mem[id]? with
  | some (.row t els 0) =>
    if t = e ∧ 0 ≤ i ∧ i ≤ j ∧ j.toNat ≤ els.length ∧ els.length ≤ 16777216 then
      some (newRow (mem.set id .dead) e (els.take i.toNat ++ els.drop j.toNat) 0).2
    else none
  | _ => none
def delP (e : TypeId) : List V → List O → Option (V × List O)
  | [.own id, .int .i64 i, .int .i64 j], mem => (delM e mem id i j).map fun m => (.own mem.length, m)
  | [.tail id 0, .int .i64 i, .int .i64 j], mem => (delM e mem id i j).map fun m => (.tail mem.length 0, m)
  | _, _ => none
theorem wp_clear_run (w : World) {o : Oper} {a : Act} {K : Act → World → Prop} {Q : Exit → Act → World → Prop} (x : Operand) (t : TypeId)
    (ho : o.op = .call { callee := .builtin .clear, args := #[x], argTypes := #[t] }) (v : Value) (hx : a.eval x = v) {v' : Value} {w' : World}
    (hr : (Builtin.clear_ #[t] o.type #[v]).run P w = .ok v' w') (h : K (a.put o.dst v') w') : o.wp P a w K Q := by
  unfold Oper.wp execOp
  simp only [ho, resolve, invoke, builtin, Sem.run_bind, Sem.run_pure, Result.andThen_ok, List.map_toArray, List.map_cons, List.map_nil, hx, hr]
  exact h
theorem wpList_clear_run (w : World) {ops : Array Oper} {rest : List Oper} {o : Oper} {a : Act} {Q : Exit → Act → World → Prop} (hgd : o.guard = none) (x : Operand) (t : TypeId)
    (ho : o.op = .call { callee := .builtin .clear, args := #[x], argTypes := #[t] }) (v : Value) (hx : a.eval x = v) {v' : Value} {w' : World}
    (hr : (Builtin.clear_ #[t] o.type #[v]).run P w = .ok v' w') (h : wpList P ops Q rest (a.put o.dst v') w') : wpList P ops Q (o :: rest) a w :=
  wpList_plain hgd fun _ hK => wp_clear_run w x t ho v hx hr (hK _ _ h)
theorem step_append_run {ops : Array Oper} {o : Oper} {a : Act} {w : World} {K : Act → World → Prop} {Q : Exit → Act → World → Prop} {E : Prop}
    (hg : o.guard = none) (d x : Operand) (dT sT : TypeId) (hop : o.op = Op.call { callee := Callee.builtin Builtin.append, args := #[d, x], argTypes := #[dT, sT] })
    (v u : Value) (hd : a.eval d = v) (hx : a.eval x = u) {v' : Value} {w' : World} (hr : (Builtin.append_ #[dT, sT] o.type #[v, u]).run P w = .ok v' w') (hK : K (a.put o.dst v') w') :
    if Region.wanted o (yielded ops a.tmps) = true then Oper.wp P o a w K Q else E := by
  have hw : Region.wanted o (yielded ops a.tmps) = true := by simp [Region.wanted, hg]
  rw [if_pos hw]
  unfold Oper.wp
  simp [execOp, hop, resolve, invoke, builtin, hd, hx, hr, Result.andThen]
  exact hK
structure DelW (P : Program) (f : FuncId) (t e : TypeId) : Prop where
  ht : P.underlying t = some (.slice e)
  row : rowTy P e = true
  z1 : ∀ i z, P.info? e = some i → i.zero = some z → ∀ v ∈ z.cells.toList, v.oneCell' = true
  same : ∀ (A : Option Addr) (n c i : Nat) (w : World), i ≤ n → n ≤ c → c ≤ 9223372036854775807 → (A = none → n = 0 ∧ c = 0) → (∀ a, A = some a → ∃ g q, a = ⟨g, q, none⟩) →
    Calls P f #[.slice A n c, .int .i64 i, .int .i64 i] w fun x w' => x = .returned (.slice A n c) ∧ w' = w
  cut : ∀ (g q n c i jj : Nat) (w w2 w3 : World) (k : Value), i < jj → jj ≤ n → n ≤ c → c ≤ 9223372036854775807 →
    (∀ ty A cp, (jj < n → A = some ⟨g, q + jj * P.cellsOf e, none⟩) → (Builtin.append_ #[t, t] ty #[.slice (some ⟨g, q, none⟩) i c, .slice A (n - jj) cp]).run P w.drew = .ok (.slice (some ⟨g, q, none⟩) (i + (n - jj)) c) w2) →
    (∀ ty cp, (Builtin.clear_ #[t] ty #[.slice (some ⟨g, q + (i + (n - jj)) * P.cellsOf e, none⟩) (n - (i + (n - jj))) cp]).run P w2 = .ok k w3) →
    Calls P f #[.slice (some ⟨g, q, none⟩) n c, .int .i64 i, .int .i64 jj] w fun x w' => x = .returned (.slice (some ⟨g, q, none⟩) (i + (n - jj)) c) ∧ w' = w3
theorem run_clear_rowN (w : World) (t ty elem : TypeId) (i : TypeInfo) (z : Value) (g o n cp : Nat) (cur : Array Value) (et : TypeId) (hu : P.underlying t = some (.slice elem)) (hi : P.info? elem = some i) (hz : i.zero = some z)
    (hg : w.heap[g]? = some (.cells cur et (0, 0))) (h0 : 0 < n) (hfit : o + n * z.cells.size ≤ cur.size) (h1 : ∀ v ∈ z.cells.toList, v.oneCell' = true) :
    (Builtin.clear_ #[t] ty #[.slice (some ⟨g, o, none⟩) n cp]).run P w = .ok (.tuple #[]) (w.setRow g (spl cur o (Builtin.zeroCells z.cells n).toList)) := by
  have hsz : (Builtin.zeroCells z.cells n).toList.length = n * z.cells.size := by simp [size_zeroCells]
  have hone : ∀ v ∈ (Builtin.zeroCells z.cells n).toList, v.oneCell' = true := fun v hv => by
    have : v ∈ z.cells.toList := by
      simp only [Builtin.zeroCells, Array.toList_map, List.mem_map, Array.mem_toList_iff, Array.mem_range] at hv
      obtain ⟨q, hq, rfl⟩ := hv
      have hpos : 0 < z.cells.size := by
        rcases Nat.eq_zero_or_pos z.cells.size with h | h
        · rw [h, Nat.mul_zero] at hq; omega
        · exact h
      have hlt : q % z.cells.size < z.cells.size := Nat.mod_lt _ hpos
      rw [getElem!_pos z.cells _ hlt]
      exact Array.getElem_mem_toList hlt
    exact h1 v this
  have hst := run_storeCells_at P g o et (Builtin.zeroCells z.cells n).toList 0 cur w hg (by rw [hsz]; simpa using hfit) hone
  simp only [Nat.add_zero] at hst
  obtain ⟨m, rfl⟩ : ∃ m, n = m + 1 := ⟨n - 1, by omega⟩
  simp [Builtin.clear_, run_underlying hu, zeroValue, typeInfo, hi, hz, hst, spl]
theorem del_ok {f : FuncId} {t e : TypeId} (W : DelW P f t e) : ImpOK P fun f' as mem => if f' = f then delP e as mem else none := by
  intro f' as mem r mem' h hok Z w j us s ha
  simp only at h
  by_cases hf : f' = f
  rotate_left
  · rw [if_neg hf] at h; cases h
  subst hf
  rw [if_pos rfl] at h
  have main : ∀ (id : Nat) (i jv : Int) (m : List O), delM e mem id i jv = some m → ∀ (A : Option Addr) (n c szu : Nat), j id = some ⟨.slice A n c, szu⟩ →
      Calls P f' #[.slice A n c, .int .i64 i, .int .i64 jv] w fun x w' => ∃ A' n' c', x = .returned (.slice A' n' c') ∧ PostRow P Z w j mem (mem.set id .dead).length m (.slice A' n' c') w' ∧ ((∀ a, A = some a → a.off = 0) → ∀ a, A' = some a → a.off = 0) := by
    clear h ha
    intro id i jv m h A n c szu hju
    unfold delM at h
    split at h
    rotate_left
    · cases h
    rename_i te els hm
    split at h
    rotate_left
    · cases h
    rename_i hc
    obtain ⟨rfl, hi0, hij, hjn, hlen⟩ := hc
    cases h
    obtain ⟨h, hh, h1, h2, h3, h4, h5⟩ := s.obj id _ hm
    have hroom : roomy P te els.length = true := by simp [roomy, hlen, W.row]
    obtain ⟨_, hby, hpos, inf, z, hinf, his, hib, hz, hzs⟩ := roomy_spec hroom
    rw [hju] at hh
    cases hh
    simp only at h1 h2
    subst h1
    obtain ⟨ii, rfl⟩ : ∃ ii : Nat, i = (ii : Int) := ⟨i.toNat, by omega⟩
    obtain ⟨jj, rfl⟩ : ∃ jj : Nat, jv = (jj : Int) := ⟨jv.toNat, by omega⟩
    have eii : ((ii : Int)).toNat = ii := by omega
    have ejj : ((jj : Int)).toNat = jj := by omega
    rw [ejj] at hjn
    rw [eii, ejj]
    have hijn : ii ≤ jj := by omega
    have hnc : n = els.length ∧ n ≤ c ∧ c ≤ 9223372036854775807 ∧ (A = none → n = 0 ∧ c = 0) ∧ (∀ a, A = some a → ∃ g q, a = ⟨g, q, none⟩) := by
      rcases h5 with ⟨hv1, he1⟩ | ⟨g, q, cc, us1, hv1, hlc, hcm, _⟩
      · simp only at hv1; cases hv1; subst he1; exact ⟨rfl, Nat.le_refl _, by omega, fun _ => ⟨rfl, rfl⟩, (by intro a h; cases h)⟩
      · simp only at hv1; cases hv1; exact ⟨rfl, hlc, by unfold maxLen at hcm; omega, (by intro h; cases h), (by intro a h; cases h; exact ⟨g, q, rfl⟩)⟩
    obtain ⟨hn, hnc, hc63, hA0, hA1⟩ := hnc
    have hlt : id < mem.length := (List.getElem?_eq_some_iff.1 hm).1
    have hblk : ∀ g, Han.blk ⟨.slice A n c, P.cellsOf te⟩ = some g → ¬ Owned Z j (mem.set id .dead) g ∧ Owned Z j mem g := by
      intro g hg
      refine ⟨?_, ⟨id, _, hm, rfl, by simp [Blk, O.ar, blkOf, hju, hg]⟩⟩
      rintro ⟨k, x, hx, hl, hb⟩
      by_cases e' : id = k
      · subst e'
        rw [List.getElem?_set_self hlt] at hx
        cases hx
        cases hl
      · rw [List.getElem?_set_ne e'] at hx
        exact e' (s.inj id k _ x g hm hx rfl hl (by simp [Blk, O.ar, blkOf, hju, hg]) hb)
    by_cases heq : ii = jj
    · subst heq
      have e1 : els.take ii ++ els.drop ii = els := List.take_append_drop _ _
      rw [e1]
      refine (W.same A n c ii w (by omega) hnc hc63 hA0 hA1).mono fun x w' hxw => ?_
      obtain ⟨rfl, rfl⟩ := hxw
      have hlm : (mem.set id O.dead).length = mem.length := by simp
      exact ⟨A, n, c, rfl, hlm ▸ row_again' (s.kill hm) (Stp.kill hm) ⟨rfl, h2, h3, h4, h5⟩ hblk, fun h => h⟩
    · have hltj : ii < jj := by omega
      rcases h5 with ⟨hv1, he1⟩ | ⟨g, q, cc, us1, hv1, hlc, hcm, hg, hus, hcells, hz1, hz2⟩
      · subst he1; simp at hjn; omega
      · simp only at hv1
        cases hv1
        have hus : q + c * P.cellsOf te ≤ us1.size := hus
        have hZ : ∀ o, ¬ Z g o := fun o ho => by have := (hz1 o ho).1; omega
        obtain ⟨olds, hol, hoc, hor⟩ := flat_cells hpos h4 hcells
        have ho1 : ∀ v ∈ olds.drop (jj * P.cellsOf te), v.oneCell' = true := fun v hv => by
          obtain ⟨k, hk, rfl⟩ := List.getElem_of_mem (List.mem_of_mem_drop hv)
          exact (hoc k _ (List.getElem?_eq_getElem hk)).2
        have hdl : (olds.drop (jj * P.cellsOf te)).length = (els.length - jj) * P.cellsOf te := by
          rw [List.length_drop, hol, ← Nat.sub_mul]
        have hDD : (els.length - jj) * P.cellsOf te = els.length * P.cellsOf te - jj * P.cellsOf te := Nat.sub_mul _ _ _
        have hmul1 : ii * P.cellsOf te ≤ jj * P.cellsOf te := Nat.mul_le_mul_right _ hijn
        have hmul2 : jj * P.cellsOf te ≤ els.length * P.cellsOf te := Nat.mul_le_mul_right _ hjn
        have hmul3 : els.length * P.cellsOf te ≤ c * P.cellsOf te := Nat.mul_le_mul_right _ hlc
        have hIM : (ii + (els.length - jj)) * P.cellsOf te = ii * P.cellsOf te + (els.length - jj) * P.cellsOf te := Nat.add_mul _ _ _
        have hRM : (els.length - (ii + (els.length - jj))) * P.cellsOf te = els.length * P.cellsOf te - (ii + (els.length - jj)) * P.cellsOf te := Nat.sub_mul _ _ _
        have p1 : q + ii * P.cellsOf te + (olds.drop (jj * P.cellsOf te)).length ≤ us1.size := by rw [hdl]; omega
        obtain ⟨F1, hF1⟩ : ∃ F1, F1 = spl us1 (q + ii * P.cellsOf te) (olds.drop (jj * P.cellsOf te)) := ⟨_, rfl⟩
        have sF1 : F1.size = us1.size := by rw [hF1]; exact spl_size p1
        have hap : ∀ ty A cp, (jj < els.length → A = some ⟨g, q + jj * P.cellsOf te, none⟩) → (Builtin.append_ #[t, t] ty #[.slice (some ⟨g, q, none⟩) ii c, .slice A (els.length - jj) cp]).run P w.drew = .ok (.slice (some ⟨g, q, none⟩) (ii + (els.length - jj)) c) (w.drew.setRow g F1) := fun ty A cp hA => by
          by_cases hz0 : jj < els.length
          · rw [hA hz0]
            have := run_append_roomQ (P := P) w.drew t ty te inf W.ht hinf g q ii c us1 hg ⟨g, q + jj * P.cellsOf te, none⟩ (els.length - jj) cp (olds.drop (jj * P.cellsOf te)) (by rw [hdl, his]) (fun k u hk => by
              rw [List.getElem?_drop] at hk
              have := (hoc _ u hk).1
              rw [Addr.add_lit] at this ⊢
              rw [← this]
              show w.cell? _ = _
              congr 2
              omega) ho1 (by omega) (by rw [his]; exact p1)
            rw [his] at this
            rw [hF1]
            exact this
          · have e0 : els.length - jj = 0 := by omega
            have e1 : olds.drop (jj * P.cellsOf te) = [] := by
              apply List.eq_nil_of_length_eq_zero
              rw [hdl, e0, Nat.zero_mul]
            have eF : F1 = us1 := by
              rw [hF1, e1]
              simp [spl]
            rw [e0, eF, Nat.add_zero]
            have hset : w.drew.setRow g us1 = w.drew := setRow_same (w := w.drew) hg
            rw [hset]
            exact run_append_zero W.ht hpos (by omega)
        have hgF : (w.drew.setRow g F1).heap[g]? = some (.cells F1 te (0, 0)) := setRow_heap w.drew g us1 F1 te (0, 0) hg
        have p2 : q + (ii + (els.length - jj)) * P.cellsOf te + (els.length - (ii + (els.length - jj))) * z.cells.size ≤ F1.size := by rw [hzs, sF1]; omega
        have hclr : ∀ ty cp, (Builtin.clear_ #[t] ty #[.slice (some ⟨g, q + (ii + (els.length - jj)) * P.cellsOf te, none⟩) (els.length - (ii + (els.length - jj))) cp]).run P (w.drew.setRow g F1) =
            .ok (.tuple #[]) ((w.drew.setRow g F1).setRow g (spl F1 (q + (ii + (els.length - jj)) * P.cellsOf te) (Builtin.zeroCells z.cells (els.length - (ii + (els.length - jj)))).toList)) := fun ty cp =>
          run_clear_rowN (w.drew.setRow g F1) t ty te inf z g _ _ cp F1 te W.ht hinf hz hgF (by omega) p2 (W.z1 inf z hinf hz)
        refine (W.cut g q els.length c ii jj w _ _ _ hltj hjn hlc hc63 hap hclr).mono fun x w' hxw => ?_
        obtain ⟨rfl, rfl⟩ := hxw
        refine ⟨_, _, _, rfl, ?_, fun h => h⟩
        rw [setRow_setRow]
        have hall : ∀ x ∈ els.take ii ++ els.drop jj, x.cells.length = P.cellsOf te := fun x hx => by
          simp only [List.mem_append] at hx
          rcases hx with hx | hx
          · exact h4 x (List.mem_of_mem_take hx)
          · exact h4 x (List.mem_of_mem_drop hx)
        have hlen' : (els.take ii ++ els.drop jj).length = ii + (els.length - jj) := by simp; omega
        have zl : (Builtin.zeroCells z.cells (els.length - (ii + (els.length - jj)))).toList.length = (els.length - (ii + (els.length - jj))) * z.cells.size := by simp [size_zeroCells]
        have hold : ∀ o, o < els.length * P.cellsOf te → us1[q + o]? = olds[o]? := fun o ho => by
          have hlt' : o < olds.length := by omega
          have hc0 := (hoc o _ (List.getElem?_eq_getElem hlt')).1
          rw [Addr.add_lit, cell_heap hg] at hc0
          rw [List.getElem?_eq_getElem hlt', ← hc0]
        have hp := row_inplace (els' := els.take ii ++ els.drop jj) s hm hju hg hZ (w1 := w.drew.setRow g (spl F1 (q + (ii + (els.length - jj)) * P.cellsOf te) (Builtin.zeroCells z.cells (els.length - (ii + (els.length - jj)))).toList)) (setRow_heap w.drew g us1 _ te (0, 0) hg) (fun k hk => setRow_other w.drew g k _ hk) rfl rfl rfl
          (by show (w.heap.modify g _).size = w.heap.size; simp) hpos hall (by rw [hlen']; omega) hcm (by rw [spl_size (by rw [zl]; exact p2), sF1]; exact hus)
          (fun k x qq y hk hy => by
            have hq : qq < P.cellsOf te := by rw [← hall x (List.mem_of_getElem? hk)]; exact (List.getElem?_eq_some_iff.1 hy).1
            have hkl : k < ii + (els.length - jj) := by rw [← hlen']; exact (List.getElem?_eq_some_iff.1 hk).1
            have hkm : (k + 1) * P.cellsOf te ≤ (ii + (els.length - jj)) * P.cellsOf te := Nat.mul_le_mul_right _ hkl
            rw [Nat.succ_mul] at hkm
            by_cases k1 : k < ii
            · rw [List.getElem?_append_left (by simp; omega), List.getElem?_take, if_pos k1] at hk
              obtain ⟨a, u', hu', hvr⟩ := hor k x qq y hk hy
              refine ⟨a, u', ?_, hvr⟩
              have hkm2 : (k + 1) * P.cellsOf te ≤ ii * P.cellsOf te := Nat.mul_le_mul_right _ k1
              rw [Nat.succ_mul] at hkm2
              rw [spl_get (by rw [zl]; exact p2), if_pos (by omega), hF1, spl_get p1, if_pos (by omega)]
              rw [hold _ (by omega)]
              exact hu'
            · rw [List.getElem?_append_right (by simp; omega)] at hk
              have e3 : k - (els.take ii).length = k - ii := by simp; omega
              rw [e3, List.getElem?_drop] at hk
              obtain ⟨a, u', hu', hvr⟩ := hor _ x qq y hk hy
              refine ⟨a, u', ?_, hvr⟩
              have e4 : k * P.cellsOf te = ii * P.cellsOf te + (k - ii) * P.cellsOf te := by rw [← Nat.add_mul]; congr 1; omega
              have e5 : (jj + (k - ii)) * P.cellsOf te = jj * P.cellsOf te + (k - ii) * P.cellsOf te := Nat.add_mul _ _ _
              rw [spl_get (by rw [zl]; exact p2), if_pos (by omega), hF1, spl_get p1, if_neg (by omega), if_pos (by rw [hdl]; omega), List.getElem?_drop, ← hu']
              congr 1
              omega)
        rw [hlen'] at hp
        exact hp
  unfold delP at h
  split at h
  · rename_i id i jv
    simp only [Option.map_eq_some_iff] at h
    obtain ⟨m, hm, h⟩ := h
    cases h
    obtain ⟨hl, hv⟩ := ha
    match us, hl, hv with
    | [u, ui, uj], hl, hv =>
    have hu := hv 0 (.own id) u rfl rfl
    have hui := hv 1 (.int .i64 i) ui rfl rfl
    have huj := hv 2 (.int .i64 jv) uj rfl rfl
    cases hui
    cases huj
    cases hu with
    | own hju h00 =>
    refine (main _ _ _ _ hm _ _ _ _ hju).mono fun x w' hx => ?_
    obtain ⟨A', n', c', rfl, hp, h0⟩ := hx
    have hp := hp.own (h0 h00)
    rw [List.length_set] at hp
    exact ⟨_, rfl, hp⟩
  · rename_i id i jv
    simp only [Option.map_eq_some_iff] at h
    obtain ⟨m, hm, h⟩ := h
    cases h
    obtain ⟨hl, hv⟩ := ha
    match us, hl, hv with
    | [u, ui, uj], hl, hv =>
    have hu := hv 0 (.tail id 0) u rfl rfl
    have hui := hv 1 (.int .i64 i) ui rfl rfl
    have huj := hv 2 (.int .i64 jv) uj rfl rfl
    cases hui
    cases huj
    have hrow : ∃ els', mem' = (newRow (mem.set id .dead) e els' 0).2 := by
      unfold delM at hm
      split at hm
      · split at hm
        · cases hm; exact ⟨_, rfl⟩
        · cases hm
      · cases hm
    obtain ⟨els', hm'⟩ := hrow
    cases hu with
    | tail hju hn hw =>
    rename_i n c sz A
    cases hw with
    | win hju2 hnn hlc hcc hA =>
    rename_i n2 c2 sz2 c2' A2 A2'
    rw [hju] at hju2
    cases hju2
    have e0 : A2' = A ∧ c2' = c := by
      refine ⟨?_, by omega⟩
      rcases hA with ⟨rfl, rfl⟩ | ⟨g, b, o, rfl, rfl, ho, _⟩
      · rfl
      · have : o = 0 := by simpa using ho
        subst this
        rfl
    obtain ⟨rfl, rfl⟩ := e0
    rw [Nat.sub_zero]
    refine (main _ _ _ _ hm _ _ _ _ hju).mono fun x w' hx => ?_
    obtain ⟨A', n', c', rfl, hp, _⟩ := hx
    have hp := hp.tail (fz := 0) (t := e) (els := els') (by rw [hm']; simp [newRow])
    rw [List.length_set] at hp
    exact ⟨_, rfl, hp⟩
  · cases h
def cloneP (e : TypeId) (sz : Nat) : List V → Option V
  | [.sl l] => if wfl sz l = true ∧ (l.all fun x => x.cells.all V.flat1) = true ∧ l.length ≤ 16777216 then some (.fr e l) else none
  | _ => none
structure CloneW (P : Program) (f : FuncId) (t e : TypeId) : Prop where
  ht : P.underlying t = some (.slice e)
  row : rowTy P e = true
  atNil : ∀ (n c : Nat) (w : World), Calls P f #[.slice none n c] w fun x w' => x = .returned (.slice none 0 0) ∧ w' = w
  atSome : ∀ (g b n c : Nat) (w w2 : World) (r : Value),
    (∀ ty, (Builtin.append_ #[t, t] ty #[.slice (some ⟨w.heap.size, 0, none⟩) 0 0, .slice (some ⟨g, b, none⟩) n c]).run P (w.alloc (.cells #[] e)) = .ok r w2) →
    Calls P f #[.slice (some ⟨g, b, none⟩) n c] w fun x w' => x = .returned r ∧ w' = w2
  atZero : ∀ (a : Addr) (c : Nat) (w : World), Calls P f #[.slice (some a) 0 c] w fun x w' => x = .returned (.slice (some ⟨w.heap.size, 0, none⟩) 0 0) ∧ w' = w.alloc (.cells #[] e)
theorem clone_ok {f : FuncId} {t e : TypeId} (W : CloneW P f t e) : PureOK P fun f' as => if f' = f then cloneP e (P.cellsOf e) as else none := by
  intro f' as r h hok Z w us hzin ha
  simp only at h
  by_cases hf : f' = f
  rotate_left
  · rw [if_neg hf] at h; cases h
  subst hf
  rw [if_pos rfl] at h
  unfold cloneP at h
  split at h
  rotate_left
  · cases h
  rename_i l
  split at h
  rotate_left
  · cases h
  rename_i hc
  obtain ⟨hw, hfl, hlen⟩ := hc
  cases h
  have hroom : roomy P e (([] : List V).length + l.length) = true := by simp [roomy, hlen, W.row]
  obtain ⟨_, hby, hpos, inf, z, hinf, his, hib, hz, hzs⟩ := roomy_spec hroom
  have hxl : ∀ x ∈ l, x.cells.length = P.cellsOf e := fun x hx => by
    have := List.all_eq_true.1 hw x hx
    simpa using this
  have hflat : ∀ x ∈ l, ∀ y ∈ x.cells, y.flat1 = true := fun x hx y hy => List.all_eq_true.1 (List.all_eq_true.1 hfl x hx) y hy
  obtain ⟨hl, hv⟩ := ha
  match us, hl, hv with
  | [u], hl, hv =>
  have hu := hv 0 (.sl l) u rfl rfl
  have s : SR P Z w j0 [] := ⟨fun id o h => by simp at h, fun id id' o o' g h => by simp at h, fun _ _ => rfl, hzin⟩
  have hp := row_sound (P := P) (Z := Z) (w := w) (j := j0) (mem := []) (w1 := w.alloc (.cells #[] e)) (t := e) (us := #[]) (els := []) (fz := 0) (c := 0) s rfl rfl rfl rfl hpos (by simp) (Nat.le_refl _) (Nat.le_refl _) (by simp) (by simp) (fun k x i y hk => by simp at hk)
  obtain ⟨Z1, j1, a1, a2, a3, a4⟩ := hp
  have fin : ∀ (Z2 : Zs) (w2 : World) (j2 : J) (mem2 : List O) (id : Nat) (u2 : Value), SR P Z2 w2 j2 mem2 → Stp Z w j0 [] Z2 w2 j2 mem2 → VR Z2 w2 j2 (.own id) u2 → mem2[id]? = some (.row e l 0) → RR P Z2 w w2 (.fr e l) u2 ∧ StpP Z w Z2 w2 := by
    intro Z2 w2 j2 mem2 id u2 e3 e4 hv2 hm2
    have st0 : StpP Z w Z2 w2 := ⟨e4.os, e4.tape, e4.output, e4.size, fun g hg => e4.keep g hg owned_nil, e3.zin, funext fun t => (e4.ar t fun id o n ho => by simp at ho).2, e4.z.i⟩
    refine ⟨?_, st0⟩
    obtain ⟨hn, hh, hrow⟩ := e3.obj id _ hm2
    cases hv2 with
    | own hj h00 =>
      rw [hj] at hh; cases hh
      have h1 := hrow.1
      simp only at h1
      subst h1
      refine ⟨_, _, _, rfl, hrow, hflat, fun g hg => ?_, h00⟩
      have ho : Owned Z2 j2 mem2 g := ⟨id, _, hm2, rfl, (Blk.plain rfl).2 (by simpa [blkOf, hj] using hg)⟩
      refine ⟨?_, Owned.lt e3 ho⟩
      rcases Nat.lt_or_ge g w.heap.size with hlt | hge
      · exact (owned_nil (e4.owned g hlt ho)).elim
      · exact hge
  rcases hu.slInv with ⟨A, c, rfl, rfl⟩ | ⟨g, b, c, sz, rfl, _⟩
  · cases A with
    | none =>
      refine (W.atNil 0 c w).mono fun x w' hxw => ?_
      obtain ⟨rfl, rfl⟩ := hxw
      exact ⟨_, Z, rfl, ⟨none, 0, 0, rfl, ⟨rfl, hpos, Nat.le_refl _, by simp, .inl ⟨rfl, rfl⟩⟩, by simp, fun g hg => by simp [Han.blk] at hg, fun a ha => by cases ha⟩, ⟨rfl, rfl, rfl, Nat.le_refl _, fun g hg => ⟨rfl, fun o => Iff.rfl⟩, hzin, rfl, rfl⟩⟩
    | some a =>
      refine (W.atZero a c w).mono fun x w' hxw => ?_
      obtain ⟨rfl, rfl⟩ := hxw
      obtain ⟨f1, f2⟩ := fin Z1 _ j1 _ 0 _ a2 a3 a1 rfl
      exact ⟨_, Z1, rfl, f1, f2⟩
  · have hx : VR Z1 (w.alloc (.cells #[] e)) j1 (.sl l) (.slice (some ⟨g, b, none⟩) l.length c) := hu.mono a3.z (JExt.zero _)
    have hap : appendM P (newRow [] e [] 0).2 t (.own 0) (.sl l) = some (newRow ((newRow [] e [] 0).2.set 0 .dead) e ([] ++ l) 0) := by
      have hw' : (l.all fun y => y.cells.length == P.cellsOf e) = true := hw
      simp only [appendM, elemOf, W.ht, Option.bind_some, elemsS, elems, hw', if_true]
      simp only [newRow, List.length_nil, List.nil_append, List.getElem?_cons_zero]
      rw [if_pos ⟨trivial, by simpa using hroom⟩]
    obtain ⟨r2, w2, hr, hpost⟩ := append_sound (t := t) (tx := t) (ty := t) a2 (by simp [appTy]) hap a1 hx
    obtain ⟨Z2, j2, b1, b2, b3, b4⟩ := hpost
    refine (W.atSome g b l.length c w w2 r2 (fun ty => hr)).mono fun x w' hxw => ?_
    obtain ⟨rfl, rfl⟩ := hxw
    obtain ⟨f1, f2⟩ := fin Z2 _ j2 _ 1 _ b2 (a3.trans b3) b1 rfl
    exact ⟨_, Z2, rfl, f1, f2⟩
def insK (e : TypeId) (sz : Nat) (args : List V) (mem : List O) (k : V → List O → R) : R :=
  match args with
  | [.own id, .int .i64 i, x] =>
    match mem[id]?, srcOf mem id x with
    | some (.row t els 0), some (t2, xs) => gd (t == e && t2 == e) <| gd (wfl sz xs) <| gd (Nat.blt 0 xs.length) <|
        gd (decide (0 ≤ i ∧ i.toNat ≤ els.length ∧ els.length + xs.length ≤ 16777216)) (k (.own (mem.set id .dead).length) (mem.set id .dead ++ [.row e (els.take i.toNat ++ xs ++ els.drop i.toNat) 0]))
    | _, _ => none
  | _ => none
def delK (e : TypeId) (args : List V) (mem : List O) (k : V → List O → R) : R :=
  match args with
  | [.own id, .int .i64 i, .int .i64 j] =>
    match mem[id]? with
    | some (.row t els 0) => gd (t == e) <| gd (decide (0 ≤ i ∧ i ≤ j ∧ j.toNat ≤ els.length ∧ els.length ≤ 16777216)) (k (.own mem.length) (mem.set id .dead ++ [.row e (els.take i.toNat ++ els.drop j.toNat) 0]))
    | _ => none
  | [.tail id 0, .int .i64 i, .int .i64 j] =>
    match mem[id]? with
    | some (.row t els 0) => gd (t == e) <| gd (decide (0 ≤ i ∧ i ≤ j ∧ j.toNat ≤ els.length ∧ els.length ≤ 16777216)) (k (.tail mem.length 0) (mem.set id .dead ++ [.row e (els.take i.toNat ++ els.drop j.toNat) 0]))
    | _ => none
  | _ => none
theorem insK_some {e : TypeId} {sz : Nat} {args : List V} {mem : List O} {k : V → List O → R} {r : Out} (h : insK e sz args mem k = some r) : ∃ v m, insP e sz args mem = some (v, m) ∧ k v m = some r := by
  unfold insK at h
  split at h
  · split at h
    · rename_i hm hm2
      obtain ⟨p1, h⟩ := gd_some h
      obtain ⟨p2, h⟩ := gd_some h
      obtain ⟨p3, h⟩ := gd_some h
      obtain ⟨p4, h⟩ := gd_some h
      simp only [Bool.and_eq_true, beq_iff_eq] at p1
      obtain ⟨a1, a2⟩ := p1
      have p4 := of_decide_eq_true p4
      refine ⟨_, _, ?_, h⟩
      unfold insP
      simp only [hm, hm2]
      rw [if_pos ⟨a1, a2, p2, (by simpa [Nat.blt_eq] using p3), p4.1, p4.2.1, p4.2.2⟩]
      rfl
    · cases h
  · cases h
theorem delK_some {e : TypeId} {args : List V} {mem : List O} {k : V → List O → R} {r : Out} (h : delK e args mem k = some r) : ∃ v m, delP e args mem = some (v, m) ∧ k v m = some r := by
  unfold delK at h
  split at h
  · split at h
    · rename_i hm
      obtain ⟨p1, h⟩ := gd_some h
      obtain ⟨p4, h⟩ := gd_some h
      have p4 := of_decide_eq_true p4
      refine ⟨_, _, ?_, h⟩
      unfold delP delM
      simp only [hm]
      rw [if_pos ⟨(by simpa using p1), p4.1, p4.2.1, p4.2.2.1, p4.2.2.2⟩]
      rfl
    · cases h
  · split at h
    · rename_i hm
      obtain ⟨p1, h⟩ := gd_some h
      obtain ⟨p4, h⟩ := gd_some h
      have p4 := of_decide_eq_true p4
      refine ⟨_, _, ?_, h⟩
      unfold delP delM
      simp only [hm]
      rw [if_pos ⟨(by simpa using p1), p4.1, p4.2.1, p4.2.2.1, p4.2.2.2⟩]
      rfl
    · cases h
  · cases h
def cmpPr : List V → Option V
  | [.str a, .str b] => some (.int .i64 (if a == b then 0 else if Op.bytesLess a b then -1 else 1))
  | _ => none
theorem cmp_bytes (a b : List UInt8) : Lib.compareBytes a b = if a == b then 0 else if Op.bytesLess a b then -1 else 1 := by
  induction a generalizing b with
  | nil => cases b <;> simp [Lib.compareBytes, Op.bytesLess]
  | cons x a ih =>
    cases b with
    | nil => simp [Lib.compareBytes, Op.bytesLess]
    | cons y b =>
      simp only [Lib.compareBytes, Op.bytesLess, ih, List.cons_beq_cons]
      by_cases e : x = y
      · subst e
        simp [UInt8.lt_irrefl]
      · have e1 : (x == y) = false := by simpa using e
        simp only [e1, Bool.false_and, Bool.or_false, Bool.false_eq_true, if_false, decide_eq_true_eq]
        by_cases h1 : x < y
        · rw [if_pos h1, if_pos h1]
        · rw [if_neg h1, if_neg h1, if_pos]
          rcases UInt8.lt_or_lt_of_ne e with h2 | h2
          · exact (h1 h2).elim
          · exact h2
theorem cmp_ok {f : FuncId} (W : ∀ (a b : ByteArray) (w : World), Calls P f #[.string a, .string b] w fun x w' => x = .returned (.int .i64 (Lib.compareBytes a.data.toList b.data.toList)) ∧ w' = w) : PureOK P fun f' as => if f' = f then cmpPr as else none := by
  intro f' as r h hok Z w us hzin ha
  simp only at h
  by_cases hf : f' = f
  rotate_left
  · rw [if_neg hf] at h; cases h
  subst hf
  rw [if_pos rfl] at h
  unfold cmpPr at h
  split at h
  rotate_left
  · cases h
  rename_i a b
  cases h
  obtain ⟨hl, hv⟩ := ha
  match us, hl, hv with
  | [u, v], hl, hv =>
  have hu := hv 0 (.str a) u rfl rfl
  have hv' := hv 1 (.str b) v rfl rfl
  cases hu with
  | @str _ sa =>
  cases hv' with
  | @str _ sb =>
  refine (W sa sb w).mono fun x w' hxw => ?_
  obtain ⟨rfl, rfl⟩ := hxw
  refine ⟨_, Z, rfl, ?_, ⟨rfl, rfl, rfl, Nat.le_refl _, fun g hg => ⟨rfl, fun o => Iff.rfl⟩, hzin, rfl, rfl⟩⟩
  rw [cmp_bytes]
  exact VR.int
end
end Go.Lite