/-
  What the interpreter's values and memory stand for in a world of the model: the relation, and how it is kept.
-/
import Derived.Test.YtknapnnpmfhogaaLite1
import Derived.MapKept
namespace Go.Lite
open Go
structure Han where
  u : Value
  sz : Nat
abbrev J := Nat → Option Han
structure Zs where
  z : Nat → Nat → Prop
  a : TypeId → Nat → Option Nat
  i : TypeId → Option Nat
instance : CoeFun Zs (fun _ => Nat → Nat → Prop) := ⟨Zs.z⟩
def j0 : J := fun _ => none
def Han.start : Han → Option (Nat × Nat)
  | ⟨.slice (some ⟨g, b, none⟩) _ _, _⟩ => some (g, b)
  | ⟨.pointer (some ⟨g, b, none⟩), _⟩ => some (g, b)
  | _ => none
def Han.blk : Han → Option Nat
  | ⟨.slice (some a) _ _, _⟩ => some a.block
  | ⟨.pointer (some a), _⟩ => some a.block
  | ⟨.map (some r), _⟩ => some r
  | _ => none
def blkOf (j : J) (id : Nat) : Option Nat := (j id).bind Han.blk
def kindOf (w : World) (g : Nat) : Option (Nat × TypeId × Nat × Nat) :=
  match w.heap[g]? with
  | some (.cells us t fr) => some (us.size, t, fr)
  | _ => none
theorem kindOf_block {w w' : World} {g : Nat} (h : w'.heap[g]? = w.heap[g]?) : kindOf w' g = kindOf w g := by simp only [kindOf, h]
theorem same_block {w w' : World} {g : Nat} (h : w'.heap[g]? = w.heap[g]?) (o : Nat) : w'.cell? ⟨g, o, none⟩ = w.cell? ⟨g, o, none⟩ ∧ kindOf w' g = kindOf w g :=
  ⟨World.cell?_of_block (a := ⟨g, o, none⟩) h, kindOf_block h⟩
inductive VR (Z : Zs) (w : World) : J → V → Value → Prop
  | junk {j : J} {u : Value} : VR Z w j .junk u
  | bool {j : J} {b : Bool} : VR Z w j (.bool b) (.bool b)
  | int {j : J} {k : IntKind} {n : Int} : VR Z w j (.int k n) (.int k n)
  | str {j : J} {s : ByteArray} : VR Z w j (.str s.data.toList) (.string s)
  | agg {j : J} {cs : List V} {us : List Value} (hl : cs.length = us.length) (h : ∀ (i : Nat) (c : V) (u : Value), cs[i]? = some c → us[i]? = some u → VR Z w j c u) : VR Z w j (.agg cs) (.agg us.toArray)
  | tup {j : J} {cs : List V} {us : List Value} (hl : cs.length = us.length) (h : ∀ (i : Nat) (c : V) (u : Value), cs[i]? = some c → us[i]? = some u → VR Z w j c u) : VR Z w j (.tup cs) (.tuple us.toArray)
  | nilS {j : J} : VR Z w j .nilS (.slice none 0 0)
  | sl0 {j : J} {A : Option Addr} {c : Nat} : VR Z w j (.sl []) (.slice A 0 c)
  | sl {j : J} {l : List V} {g b c sz : Nat} (f : Nat → Nat → Value) (hlc : l.length ≤ c) (hsz : 0 < sz) (hl : ∀ (k : Nat) (x : V), l[k]? = some x → x.cells.length = sz)
      (hc : ∀ (k : Nat) (x : V) (i : Nat) (y : V), l[k]? = some x → x.cells[i]? = some y → y.one = true ∧ Z g (b + (k * sz + i)) ∧ w.cell? ⟨g, b + (k * sz + i), none⟩ = some (f k i))
      (hv : ∀ (k : Nat) (x : V) (i : Nat) (y : V), l[k]? = some x → x.cells[i]? = some y → VR Z w j0 y (f k i)) : VR Z w j (.sl l) (.slice (some ⟨g, b, none⟩) l.length c)
  | own {j : J} {id : Nat} {A : Option Addr} {n c sz : Nat} (hj : j id = some ⟨.slice A n c, sz⟩) (h0 : ∀ a, A = some a → a.off = 0) : VR Z w j (.own id) (.slice A n c)
  | win {j : J} {id off len n c sz c' : Nat} {A A' : Option Addr} (hj : j id = some ⟨.slice A n c, sz⟩) (hn : off + len ≤ n) (hlc : len ≤ c') (hcc : off + c' = c)
      (ha : (A = none ∧ A' = none) ∨ ∃ g b o, A = some ⟨g, b, none⟩ ∧ A' = some ⟨g, b + o, none⟩ ∧ o ≤ off * sz ∧ (0 < c' → o = off * sz)) : VR Z w j (.win id off len) (.slice A' len c')
  | ptr {j : J} {id k off g b : Nat} {h : Han} (hj : j id = some h) (hs : h.start = some (g, b)) : VR Z w j (.ptr id k off) (.pointer (some ⟨g, b + (k * h.sz + off), none⟩))
  | ref {j : J} {x : V} {off g b : Nat} (f : Nat → Value)
      (hc : ∀ (i : Nat) (y : V), x.cells[i]? = some y → y.one = true ∧ Z g (b + i) ∧ w.cell? ⟨g, b + i, none⟩ = some (f i))
      (hv : ∀ (i : Nat) (y : V), x.cells[i]? = some y → VR Z w j0 y (f i)) : VR Z w j (.ref x off) (.pointer (some ⟨g, b + off, none⟩))
  | fn {j : J} {f : FuncId} {cs : List V} {us : List Value} (hl : cs.length = us.length) (h : ∀ (i : Nat) (c : V) (u : Value), cs[i]? = some c → us[i]? = some u → VR Z w j c u) : VR Z w j (.fn f cs) (.func (.func f) #[] us.toArray)
  | mp {j : J} {id r sz : Nat} (hj : j id = some ⟨.map (some r), sz⟩) : VR Z w j (.mp id) (.map (some r))
  | nilP {j : J} : VR Z w j .nilP (.pointer none)
  | nilF {j : J} : VR Z w j .nilF .nilFunc
  | nilM {j : J} : VR Z w j .nilM (.map none)
  | hp {j : J} {t : TypeId} {k off g : Nat} (h : Z.a t k = some g) : VR Z w j (.hp t k off) (.pointer (some ⟨g, off, none⟩))
  | hm {j : J} {t : TypeId} {k g : Nat} (h : Z.a t k = some g) : VR Z w j (.hm t k) (.map (some g))
  | rest {j : J} {ts : List TypeId} {l : List V} {u : Value} : VR Z w j (.rest ts l) u
  | tail {j : J} {id off n c sz : Nat} {A : Option Addr} {u : Value} (hj : j id = some ⟨.slice A n c, sz⟩) (hn : off ≤ n) (h : VR Z w j (.win id off (n - off)) u) : VR Z w j (.tail id off) u
  | lit {j : J} {t : TypeId} {l : List V} {g n : Nat} (h : VR Z w j (.sl l) (.slice (some ⟨g, 0, none⟩) l.length l.length)) (hk : 0 < l.length → kindOf w g = some (n, t, 0, 0)) (hz : 0 < l.length → Z g 0) : VR Z w j (.lit t l) (.slice (some ⟨g, 0, none⟩) l.length l.length)
section
variable {P : Program} {Z Z' : Zs} {w w' : World} {j j' : J}
def JExt (j j' : J) : Prop := ∀ id h, j id = some h → j' id = some h
theorem JExt.refl (j : J) : JExt j j := fun _ _ h => h
theorem JExt.trans {j1 : J} (h : JExt j j1) (h' : JExt j1 j') : JExt j j' := fun id x e => h' id x (h id x e)
theorem JExt.zero (j : J) : JExt j0 j := fun _ _ h => by cases h
structure ZExt (Z : Zs) (w : World) (Z' : Zs) (w' : World) : Prop where
  z : ∀ g o, Z g o → Z' g o ∧ w'.cell? ⟨g, o, none⟩ = w.cell? ⟨g, o, none⟩ ∧ kindOf w' g = kindOf w g
  a : ∀ t k g, Z.a t k = some g → Z'.a t k = some g
  i : Z'.i = Z.i
instance : CoeFun (ZExt Z w Z' w') (fun _ => ∀ g o, Z g o → Z' g o ∧ w'.cell? ⟨g, o, none⟩ = w.cell? ⟨g, o, none⟩ ∧ kindOf w' g = kindOf w g) := ⟨ZExt.z⟩
theorem ZExt.of (h : ∀ g o, Z g o → Z' g o ∧ w'.cell? ⟨g, o, none⟩ = w.cell? ⟨g, o, none⟩ ∧ kindOf w' g = kindOf w g) (ha : Z'.a = Z.a := by rfl) (hi : Z'.i = Z.i := by rfl) : ZExt Z w Z' w' :=
  ⟨h, fun t k g e => by rw [ha]; exact e, hi⟩
theorem ZExt.refl (Z : Zs) (w : World) : ZExt Z w Z w := .of fun _ _ h => ⟨h, rfl, rfl⟩
theorem ZExt.trans {Z1 : Zs} {w1 : World} (h : ZExt Z w Z1 w1) (h' : ZExt Z1 w1 Z' w') : ZExt Z w Z' w' := ⟨fun g o z =>
  ⟨(h' g o (h g o z).1).1, ((h' g o (h g o z).1).2.1).trans (h g o z).2.1, ((h' g o (h g o z).1).2.2).trans (h g o z).2.2⟩, fun t k g e => h'.a t k g (h.a t k g e), h'.i.trans h.i⟩
theorem VR.mono {v : V} {u : Value} (h : VR Z w j v u) (hz : ZExt Z w Z' w') : ∀ {j' : J}, JExt j j' → VR Z' w' j' v u := by
  induction h with
  | junk => intro j' _; exact .junk
  | bool => intro j' _; exact .bool
  | int => intro j' _; exact .int
  | str => intro j' _; exact .str
  | agg hl _ ih => intro j' hj; exact .agg hl fun i c u h1 h2 => ih i c u h1 h2 hj
  | tup hl _ ih => intro j' hj; exact .tup hl fun i c u h1 h2 => ih i c u h1 h2 hj
  | nilS => intro j' _; exact .nilS
  | sl0 => intro j' _; exact .sl0
  | sl f hlc hsz hl hc _ ih =>
    intro j' _
    refine .sl f hlc hsz hl (fun k x i y h1 h2 => ?_) (fun k x i y h1 h2 => ih k x i y h1 h2 (JExt.refl _))
    obtain ⟨a, b, c⟩ := hc k x i y h1 h2
    exact ⟨a, (hz _ _ b).1, (hz _ _ b).2.1.trans c⟩
  | own hj h0 => intro j' h'; exact .own (h' _ _ hj) h0
  | win hj hn hlc hcc ha => intro j' h'; exact .win (h' _ _ hj) hn hlc hcc ha
  | ptr hj hs => intro j' h'; exact .ptr (h' _ _ hj) hs
  | ref f hc _ ih =>
    intro j' _
    refine .ref f (fun i y h1 => ?_) (fun i y h1 => ih i y h1 (JExt.refl _))
    obtain ⟨a, b, c⟩ := hc i y h1
    exact ⟨a, (hz _ _ b).1, (hz _ _ b).2.1.trans c⟩
  | fn hl _ ih => intro j' hj; exact .fn hl fun i c u h1 h2 => ih i c u h1 h2 hj
  | mp hj => intro j' h'; exact .mp (h' _ _ hj)
  | nilP => intro j' _; exact .nilP
  | nilF => intro j' _; exact .nilF
  | nilM => intro j' _; exact .nilM
  | hp h => intro j' _; exact .hp (hz.a _ _ _ h)
  | hm h => intro j' _; exact .hm (hz.a _ _ _ h)
  | rest => intro j' _; exact .rest
  | tail hj hn _ ih => intro j' h'; exact .tail (h' _ _ hj) hn (ih h')
  | lit h hk hzz ih => intro j' hj; exact .lit (ih hj) (fun h0 => (hz _ _ (hzz h0)).2.2.trans (hk h0)) (fun h0 => (hz _ _ (hzz h0)).1)
theorem VR.up {v : V} {u : Value} (h : VR Z w j0 v u) (j : J) : VR Z w j v u := h.mono (ZExt.refl Z w) (JExt.zero j)
theorem VR.oneCell {v : V} {u : Value} (h : VR Z w j v u) (ho : v.one = true) : u.oneCell' = true := by
  cases h <;> first | rfl | (simp [V.one] at ho; done) | skip
  rename_i h
  cases h
  rfl
theorem cells_one {v : V} (h : v.one = true) : v.cells = [v] := by cases v <;> first | rfl | (simp [V.one] at h)
theorem ucells_one {u : Value} (h : u.oneCell' = true) : u.cells = #[u] := by cases u <;> first | rfl | (simp [Value.oneCell'] at h)
theorem VR.cellsOf {v : V} {u : Value} (h : VR Z w j v u) (ho : ∀ y ∈ v.cells, y.one = true) :
    u.cells.size = v.cells.length ∧ ∀ (i : Nat) (y : V), v.cells[i]? = some y → ∃ c, u.cells[i]? = some c ∧ VR Z w j y c := by
  have key : v.one = true → u.cells.size = v.cells.length ∧ ∀ (i : Nat) (y : V), v.cells[i]? = some y → ∃ c, u.cells[i]? = some c ∧ VR Z w j y c := by
    intro h1
    rw [cells_one h1, ucells_one (h.oneCell h1)]
    refine ⟨rfl, fun i y hy => ?_⟩
    cases i with
    | zero => simp at hy; subst hy; exact ⟨u, rfl, h⟩
    | succ i => simp at hy
  by_cases h1 : v.one = true
  · exact key h1
  · cases h with
    | agg hl hh =>
      refine ⟨by simp [V.cells, Value.cells, hl], fun i y hy => ?_⟩
      simp only [V.cells] at hy
      have hi : i < _ := (List.getElem?_eq_some_iff.1 hy).1
      rename_i cs us
      have : us[i]? = some (us[i]'(by omega)) := List.getElem?_eq_getElem (by omega)
      exact ⟨us[i]'(by omega), by simp [Value.cells, this], hh i y _ hy this⟩
    | junk => have := ho .junk (by simp [V.cells]); simp [V.one] at this
    | rest => have := ho _ (List.mem_singleton.2 rfl); simp [V.one] at this
    | tup hl hh => have := ho _ (List.mem_singleton.2 rfl); simp [V.one] at this
    | _ => simp [V.one] at h1
def CellsAt (Z : Zs) (w : World) (j : J) (g b : Nat) (cs : List V) : Prop :=
  ∀ (i : Nat) (y : V), cs[i]? = some y → y.one = true ∧ ∃ u, w.cell? ⟨g, b + i, none⟩ = some u ∧ VR Z w j y u
theorem CellsAt.mono {g b : Nat} {cs : List V} (h : CellsAt Z w j g b cs) (hz : ZExt Z w Z' w') (hj : JExt j j') (hb : w'.heap[g]? = w.heap[g]?) : CellsAt Z' w' j' g b cs := by
  intro i y hy
  obtain ⟨a, u, hu, hv⟩ := h i y hy
  exact ⟨a, u, (World.cell?_of_block (a := ⟨g, b + i, none⟩) hb).trans hu, hv.mono hz hj⟩
theorem VR.slInv {l : List V} {u : Value} (h : VR Z w j (.sl l) u) : (∃ A c, l = [] ∧ u = .slice A 0 c) ∨
    ∃ g b c sz, u = .slice (some ⟨g, b, none⟩) l.length c ∧ l.length ≤ c ∧ 0 < sz ∧ ∀ (k : Nat) (x : V), l[k]? = some x → x.cells.length = sz ∧ (∀ i, i < sz → Z g (b + (k * sz + i))) ∧ CellsAt Z w j0 g (b + k * sz) x.cells := by
  cases h with
  | sl0 => exact .inl ⟨_, _, rfl, rfl⟩
  | sl f hlc hsz hl hc hv =>
    refine .inr ⟨_, _, _, _, rfl, hlc, hsz, fun k x hk => ⟨hl k x hk, fun i hi => ?_, fun i y hy => ?_⟩⟩
    · have hx := hl k x hk
      exact (hc k x i (x.cells[i]'(by omega)) hk (List.getElem?_eq_getElem (by omega))).2.1
    · obtain ⟨a, b, c⟩ := hc k x i y hk hy
      exact ⟨a, _, by rw [Nat.add_assoc]; exact c, hv k x i y hk hy⟩
theorem VR.slMk {l : List V} {g b c sz : Nat} (hlc : l.length ≤ c) (hsz : 0 < sz) (h : ∀ (k : Nat) (x : V), l[k]? = some x → x.cells.length = sz ∧ (∀ i, i < sz → Z g (b + (k * sz + i))) ∧ CellsAt Z w j0 g (b + k * sz) x.cells) :
    VR Z w j (.sl l) (.slice (some ⟨g, b, none⟩) l.length c) := by
  refine .sl (fun k i => (w.cell? ⟨g, b + (k * sz + i), none⟩).getD undef) hlc hsz (fun k x hk => (h k x hk).1) (fun k x i y hk hy => ?_) (fun k x i y hk hy => ?_)
  · obtain ⟨h1, h2, h3⟩ := h k x hk
    obtain ⟨a, u, hu, _⟩ := h3 i y hy
    have hi : i < sz := by rw [← h1]; exact (List.getElem?_eq_some_iff.1 hy).1
    rw [Nat.add_assoc] at hu
    exact ⟨a, h2 i hi, by simp [hu]⟩
  · obtain ⟨h1, h2, h3⟩ := h k x hk
    obtain ⟨a, u, hu, hv⟩ := h3 i y hy
    rw [Nat.add_assoc] at hu
    simpa [hu] using hv
theorem VR.refInv {x : V} {off : Nat} {u : Value} (h : VR Z w j (.ref x off) u) :
    ∃ g b, u = .pointer (some ⟨g, b + off, none⟩) ∧ (∀ i, i < x.cells.length → Z g (b + i)) ∧ CellsAt Z w j0 g b x.cells := by
  cases h with
  | ref f hc hv =>
    refine ⟨_, _, rfl, fun i hi => (hc i _ (List.getElem?_eq_getElem hi)).2.1, fun i y hy => ?_⟩
    obtain ⟨a, b, c⟩ := hc i y hy
    exact ⟨a, _, c, hv i y hy⟩
theorem VR.refMk {x : V} {off g b : Nat} (hz : ∀ i, i < x.cells.length → Z g (b + i)) (h : CellsAt Z w j0 g b x.cells) : VR Z w j (.ref x off) (.pointer (some ⟨g, b + off, none⟩)) := by
  refine .ref (fun i => (w.cell? ⟨g, b + i, none⟩).getD undef) (fun i y hy => ?_) (fun i y hy => ?_)
  · obtain ⟨a, u, hu, _⟩ := h i y hy
    exact ⟨a, hz i (List.getElem?_eq_some_iff.1 hy).1, by simp [hu]⟩
  · obtain ⟨a, u, hu, hv⟩ := h i y hy
    simpa [hu] using hv
def O.live : O → Bool
  | .dead => false
  | _ => true
def RowAt (P : Program) (Z : Zs) (w : World) (h : Han) (t : TypeId) (els : List V) (fz : Nat) : Prop :=
  h.sz = P.cellsOf t ∧ 0 < h.sz ∧ fz ≤ els.length ∧ (∀ x ∈ els, x.cells.length = h.sz) ∧
  ((h.u = .slice none 0 0 ∧ els = []) ∨
   ∃ g b c us, h.u = .slice (some ⟨g, b, none⟩) els.length c ∧ els.length ≤ c ∧ c ≤ maxLen ∧ w.heap[g]? = some (.cells us t (0, 0)) ∧ b + c * h.sz ≤ us.size ∧
     (∀ k x, els[k]? = some x → CellsAt Z w j0 g (b + k * h.sz) x.cells) ∧ (∀ o, Z g o → 0 < fz ∧ o < b + fz * h.sz) ∧ (∀ o, o < fz * h.sz → Z g (b + o)))
structure Arena (Z : Zs) (id : Nat) (t : TypeId) (n : Nat) : Prop where
  i : Z.i t = some id
  get : ∀ k, k < n → ∃ g, Z.a t k = some g
  none : ∀ k, n ≤ k → Z.a t k = none
  inj : ∀ k k' g, Z.a t k = some g → Z.a t k' = some g → k = k'
def BoxAt (P : Program) (Z : Zs) (w : World) (t : TypeId) (g : Nat) (x : V) : Prop :=
  ∃ us, w.heap[g]? = some (.cells us t (0, 0)) ∧ x.cells.length = P.cellsOf t ∧ us.size = P.cellsOf t ∧ 0 < P.cellsOf t ∧ CellsAt Z w j0 g 0 x.cells ∧ ∀ o, ¬ Z g o
def MapIn (Z : Zs) (w : World) (g : Nat) (es : List (V × V)) : Prop :=
  ∃ es' clock, w.heap[g]? = some (.map es' clock) ∧ es.length = es'.size ∧
     (∀ (i : Nat) (a x : V), es[i]? = some (a, x) → ∃ e : MapEntry, es'[i]? = some e ∧ a.flat1 = true ∧ x.inMap = true ∧ VR Z w j0 a e.key ∧ VR Z w j0 x e.val) ∧ (∀ o, ¬ Z g o) ∧ MapKept.Stamped es' clock
def OR (P : Program) (Z : Zs) (w : World) (j : J) (id : Nat) : O → Prop
  | .row t els fz => ∃ h, j id = some h ∧ RowAt P Z w h t els fz
  | .box t v fz => ∃ g us, j id = some ⟨.pointer (some ⟨g, 0, none⟩), P.cellsOf t⟩ ∧ w.heap[g]? = some (.cells us t (0, 0)) ∧ v.cells.length = P.cellsOf t ∧ us.size = P.cellsOf t ∧
     CellsAt Z w j g 0 v.cells ∧ (∀ o, Z g o → fz = true) ∧ (fz = true → ∀ o, o < us.size → Z g o)
  | .map es => ∃ r es' clock, j id = some ⟨.map (some r), 0⟩ ∧ w.heap[r]? = some (.map es' clock) ∧ es.length = es'.size ∧
     (∀ (i : Nat) (a x : V), es[i]? = some (a, x) → ∃ e : MapEntry, es'[i]? = some e ∧ a.flat1 = true ∧ x.inMap = true ∧ VR Z w j0 a e.key ∧ VR Z w j0 x e.val) ∧ (∀ o, ¬ Z r o) ∧ MapKept.Stamped es' clock
  | .arena t els => Arena Z id t els.length ∧ ∀ (k : Nat) (x : V) (g : Nat), els[k]? = some x → Z.a t k = some g → BoxAt P Z w t g x
  | .marena t ms => Arena Z id t ms.length ∧ ∀ (k : Nat) (es : List (V × V)) (g : Nat), ms[k]? = some es → Z.a t k = some g → MapIn Z w g es
  | .dead => True
def Blk (Z : Zs) (j : J) (id : Nat) (o : O) (g : Nat) : Prop :=
  match o.ar with
  | some r => ∃ k, k < r.2 ∧ Z.a r.1 k = some g
  | none => blkOf j id = some g
structure SR (P : Program) (Z : Zs) (w : World) (j : J) (mem : List O) : Prop where
  obj : ∀ id o, mem[id]? = some o → OR P Z w j id o
  inj : ∀ id id' o o' g, mem[id]? = some o → mem[id']? = some o' → o.live = true → o'.live = true → Blk Z j id o g → Blk Z j id' o' g → id = id'
  out : ∀ id, mem.length ≤ id → j id = none
  zin : ∀ g o, Z g o → g < w.heap.size
def Owned (Z : Zs) (j : J) (mem : List O) (g : Nat) : Prop := ∃ id o, mem[id]? = some o ∧ o.live = true ∧ Blk Z j id o g
def noA (t : TypeId) (mem : List O) : Prop := ∀ (id : Nat) (o : O) (n : Nat), mem[id]? = some o → o.ar ≠ some (t, n)
structure Stp (Z : Zs) (w : World) (j : J) (mem : List O) (Z' : Zs) (w' : World) (j' : J) (mem' : List O) : Prop where
  os : w'.os = w.os
  tape : w'.tape = w.tape
  output : w'.output = w.output
  size : w.heap.size ≤ w'.heap.size
  keep : ∀ g, g < w.heap.size → ¬ Owned Z j mem g → w'.heap[g]? = w.heap[g]? ∧ ∀ o, Z' g o ↔ Z g o
  owned : ∀ g, g < w.heap.size → Owned Z' j' mem' g → Owned Z j mem g
  z : ZExt Z w Z' w'
  ar : ∀ t, noA t mem → noA t mem' ∧ Z'.a t = Z.a t
theorem Stp.refl (Z : Zs) (w : World) (j : J) (mem : List O) : Stp Z w j mem Z w j mem :=
  ⟨rfl, rfl, rfl, Nat.le_refl _, fun _ _ _ => ⟨rfl, fun _ => Iff.rfl⟩, fun _ _ h => h, ZExt.refl Z w, fun _ h => ⟨h, rfl⟩⟩
theorem Stp.trans {Z1 : Zs} {w1 : World} {j1 : J} {mem mem1 mem' : List O} (h : Stp Z w j mem Z1 w1 j1 mem1) (h' : Stp Z1 w1 j1 mem1 Z' w' j' mem') : Stp Z w j mem Z' w' j' mem' :=
  ⟨h'.os.trans h.os, h'.tape.trans h.tape, h'.output.trans h.output, Nat.le_trans h.size h'.size, fun g hg hn => by
    obtain ⟨a, b⟩ := h.keep g hg hn
    obtain ⟨c, d⟩ := h'.keep g (Nat.lt_of_lt_of_le hg h.size) (fun ho => hn (h.owned g hg ho))
    exact ⟨c.trans a, fun o => (d o).trans (b o)⟩, fun g hg ho => h.owned g hg (h'.owned g (Nat.lt_of_lt_of_le hg h.size) ho), h.z.trans h'.z,
    fun t hn => ⟨(h'.ar t (h.ar t hn).1).1, (h'.ar t (h.ar t hn).1).2.trans (h.ar t hn).2⟩⟩
theorem noA.set {id : Nat} {o o' : O} {mem : List O} {t : TypeId} (hm : mem[id]? = some o) (ho : ∀ n, o'.ar = some (t, n) → ∃ m, o.ar = some (t, m)) (h : noA t mem) : noA t (mem.set id o') := by
  intro k x n hx hn
  have hlt : id < mem.length := (List.getElem?_eq_some_iff.1 hm).1
  by_cases e : id = k
  · subst e
    rw [List.getElem?_set_self hlt] at hx
    cases hx
    obtain ⟨m, hm'⟩ := ho n hn
    exact h id o m hm hm'
  · rw [List.getElem?_set_ne e] at hx
    exact h k x n hx hn
theorem noA.add {o : O} {mem : List O} {t : TypeId} (ho : o.ar = none) (h : noA t mem) : noA t (mem ++ [o]) := by
  intro k x n hx hn
  by_cases e : k < mem.length
  · rw [List.getElem?_append_left e] at hx; exact h k x n hx hn
  · rw [List.getElem?_append_right (by omega)] at hx
    rcases Nat.eq_zero_or_pos (k - mem.length) with e0 | e0
    · rw [e0] at hx
      simp at hx
      subst hx
      rw [ho] at hn; cases hn
    · rw [List.getElem?_eq_none (by simp; omega)] at hx; cases hx
theorem Arena.same {id n : Nat} {t : TypeId} (h : Arena Z id t n) (ha : Z'.a t = Z.a t) (hi : Z'.i = Z.i) : Arena Z' id t n :=
  ⟨by rw [hi]; exact h.i, by rw [ha]; exact h.get, by rw [ha]; exact h.none, by rw [ha]; exact h.inj⟩
theorem BoxAt.mono {t : TypeId} {g : Nat} {x : V} (h : BoxAt P Z w t g x) (hz : ZExt Z w Z' w') (hb : w'.heap[g]? = w.heap[g]? ∧ ∀ o, Z' g o ↔ Z g o) : BoxAt P Z' w' t g x := by
  obtain ⟨us, h1, h2, h3, h4, h5, h6⟩ := h
  exact ⟨us, hb.1.trans h1, h2, h3, h4, h5.mono hz (JExt.refl _) hb.1, fun o ho => h6 o ((hb.2 o).1 ho)⟩
theorem MapIn.mono {g : Nat} {es : List (V × V)} (h : MapIn Z w g es) (hz : ZExt Z w Z' w') (hb : w'.heap[g]? = w.heap[g]? ∧ ∀ o, Z' g o ↔ Z g o) : MapIn Z' w' g es := by
  obtain ⟨es', clock, h1, h2, h3, h4⟩ := h
  refine ⟨es', clock, hb.1.trans h1, h2, fun i a x hi => ?_, ⟨fun o ho => h4.1 o ((hb.2 o).1 ho), h4.2⟩⟩
  obtain ⟨e, he, ha, hx, hva, hvx⟩ := h3 i a x hi
  exact ⟨e, he, ha, hx, hva.mono hz (JExt.refl _), hvx.mono hz (JExt.refl _)⟩
theorem RowAt.mono {h : Han} {t : TypeId} {els : List V} {fz : Nat} (r : RowAt P Z w h t els fz) (hz : ZExt Z w Z' w')
    (hb : ∀ g, h.blk = some g → w'.heap[g]? = w.heap[g]? ∧ ∀ o, Z' g o ↔ Z g o) : RowAt P Z' w' h t els fz := by
  obtain ⟨h1, h2, h3, h4, h5⟩ := r
  refine ⟨h1, h2, h3, h4, ?_⟩
  rcases h5 with h5 | ⟨g, b, c, us, hu, hc, hm, hg, hs, hcells, hz1, hz2⟩
  · exact .inl h5
  · have hbb := hb g (by cases h; simp at hu; simp [Han.blk, hu])
    exact .inr ⟨g, b, c, us, hu, hc, hm, hbb.1.trans hg, hs, fun k x hk => (hcells k x hk).mono hz (JExt.refl _) hbb.1, fun o ho => hz1 o ((hbb.2 o).1 ho), fun o ho => (hbb.2 _).2 (hz2 o ho)⟩
theorem OR.mono {id : Nat} {o : O} (r : OR P Z w j id o) (hz : ZExt Z w Z' w') (hj : JExt j j')
    (hb : ∀ g, Blk Z j id o g → w'.heap[g]? = w.heap[g]? ∧ ∀ o, Z' g o ↔ Z g o) (ha : ∀ t n, o.ar = some (t, n) → Z'.a t = Z.a t) : OR P Z' w' j' id o := by
  cases o with
  | dead => exact True.intro
  | arena t els =>
    obtain ⟨h1, h2⟩ := r
    have e := ha t els.length rfl
    refine ⟨h1.same e hz.i, fun k x g hk hg => ?_⟩
    rw [e] at hg
    exact (h2 k x g hk hg).mono hz (hb g ⟨k, (List.getElem?_eq_some_iff.1 hk).1, hg⟩)
  | marena t ms =>
    obtain ⟨h1, h2⟩ := r
    have e := ha t ms.length rfl
    refine ⟨h1.same e hz.i, fun k x g hk hg => ?_⟩
    rw [e] at hg
    exact (h2 k x g hk hg).mono hz (hb g ⟨k, (List.getElem?_eq_some_iff.1 hk).1, hg⟩)
  | row t els fz =>
    obtain ⟨h, hh, hr⟩ := r
    exact ⟨h, hj _ _ hh, hr.mono hz fun g hg => hb g (by simp [Blk, O.ar, blkOf, hh, hg])⟩
  | box t v fz =>
    obtain ⟨g, us, h1, h2, h3, h4, h5, h6, h7⟩ := r
    have hbb := hb g (by simp [Blk, O.ar, blkOf, h1, Han.blk])
    exact ⟨g, us, hj _ _ h1, hbb.1.trans h2, h3, h4, h5.mono hz hj hbb.1, fun o ho => h6 o ((hbb.2 o).1 ho), fun hf o ho => (hbb.2 o).2 (h7 hf o ho)⟩
  | map es =>
    obtain ⟨r, es', clock, h1, h2, h3, h4, h5⟩ := r
    have hbb := hb r (by simp [Blk, O.ar, blkOf, h1, Han.blk])
    refine ⟨r, es', clock, hj _ _ h1, hbb.1.trans h2, h3, fun i a x hi => ?_, ⟨fun o ho => h5.1 o ((hbb.2 o).1 ho), h5.2⟩⟩
    obtain ⟨e, he, ha, hx, hva, hvx⟩ := h4 i a x hi
    exact ⟨e, he, ha, hx, hva.mono hz (JExt.refl _), hvx.mono hz (JExt.refl _)⟩
end
end Go.Lite