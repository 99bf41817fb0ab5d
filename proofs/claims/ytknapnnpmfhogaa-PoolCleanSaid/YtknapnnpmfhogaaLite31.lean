/-
  slices.Sort and slices.Compact at []int, in place: once, over the library's contracts.
-/
import Derived.Test.YtknapnnpmfhogaaLite24
import Derived.Sort.OwnSortedInts
import Derived.Lib.SlicesCompact
namespace Go.Lite
open Go Go.Sort
def iV (n : Int) : V := .int .i64 n
def intOf : V → Option Int
  | .int .i64 n => some n
  | _ => none
def intsOf (l : List V) : Option (List Int) := mapO intOf l
theorem intsOf_iV : ∀ l : List Int, intsOf (l.map iV) = some l
  | [] => rfl
  | x :: l => by
    have := intsOf_iV l
    unfold intsOf at this ⊢
    simp [mapO, this, iV, intOf]
theorem intsOf_some : ∀ {l : List V} {xs : List Int}, intsOf l = some xs → l = xs.map iV
  | [], xs, h => by cases h; rfl
  | v :: l, xs, h => by
    unfold intsOf at h
    simp only [mapO, Option.bind_eq_some_iff, Option.map_eq_some_iff] at h
    obtain ⟨x, hx, ys, hy, rfl⟩ := h
    have e1 : v = iV x := by
      unfold intOf at hx
      split at hx
      · cases hx; rfl
      · cases hx
    rw [e1, intsOf_some hy]
    rfl
def srt (l : List Int) : List Int := l.mergeSort fun x y => decide (x ≤ y)
def idOf : V → Option Nat
  | .own id => some id
  | .tail id off => if off = 0 then some id else none
  | _ => none
theorem idOf_vr {P : Program} {Z : Zs} {w : World} {j : J} {x : V} {id : Nat} {u : Value} (h : idOf x = some id) (hv : VR Z w j x u) : ∃ A n c sz, j id = some ⟨.slice A n c, sz⟩ ∧ u = .slice A n c := by
  cases hv with
  | own hj h0 =>
    cases h
    exact ⟨_, _, _, _, hj, rfl⟩
  | @tail _ id' off n c sz A u hj hn hw =>
    simp only [idOf] at h
    split at h
    rotate_left
    · cases h
    rename_i e
    subst e
    cases h
    cases hw with
    | win hj' hn' hlc hcc ha =>
    rw [hj] at hj'
    cases hj'
    refine ⟨A, n, c, sz, hj, ?_⟩
    rcases ha with ⟨rfl, rfl⟩ | ⟨g, b, o, rfl, rfl, ho, _⟩
    · simp only [Nat.sub_zero, Nat.zero_add] at hcc ⊢
      rw [hcc]
    · have : o = 0 := by omega
      subst this
      simp only [Nat.sub_zero, Nat.zero_add] at hcc ⊢
      rw [hcc]
      rfl
  | _ => cases h
def sortP (e : TypeId) : List V → List O → Option (V × List O)
  | [x], mem => (idOf x).bind fun id =>
    match mem[id]? with
    | some (.row t els 0) => if t = e ∧ els.length ≤ 16777216 then (intsOf els).map fun xs => (.tup [], mem.set id (.row e ((srt xs).map iV) 0)) else none
    | _ => none
  | _, _ => none
def cpt (xs : List Int) : List Int := Lib.compact xs ++ List.replicate (xs.length - (Lib.compact xs).length) 0
def compactP (e : TypeId) : List V → List O → Option (V × List O)
  | [x], mem => (idOf x).bind fun id =>
    match mem[id]? with
    | some (.row t els 0) => if t = e ∧ els.length ≤ 16777216 then (intsOf els).map fun xs => (.win id 0 (Lib.compact xs).length, mem.set id (.row e ((cpt xs).map iV) 0)) else none
    | _ => none
  | _, _ => none
structure SortW (P : Program) (f : FuncId) : Prop where
  srt : ∀ (blk off cap : Nat) (zs : List Int) (w : World), Holds (Value.int .i64) w blk off zs.toArray → blk < w.heap.size → zs.length < 4611686018427387904 →
    Calls P f #[.slice (some ⟨blk, off, none⟩) zs.length cap] w fun e w' => e = .returned (.tuple #[]) ∧ ∃ n os, w' = grow (putRow (Value.int .i64) (Sort.ahead w n) blk off (zs.mergeSort fun x y => decide (x ≤ y)).toArray) os
  none : ∀ (p : Option Addr) (cap : Nat) (w : World), Calls P f #[.slice p 0 cap] w fun e w' => e = .returned (.tuple #[]) ∧ w' = w
structure CompactW (P : Program) (f : FuncId) : Prop where
  cut : ∀ (blk off cap : Nat) (zs : List Int) (w : World), Holds (Value.int .i64) w blk off zs.toArray → zs.length ≤ 9223372036854775807 → zs.length ≤ cap →
    Calls P f #[.slice (some ⟨blk, off, none⟩) zs.length cap] w fun e w' => e = .returned (.slice (some ⟨blk, off, none⟩) (Lib.compact zs).length cap) ∧ ∃ q, w' = putRow (Value.int .i64) (Sort.ahead w q) blk off (Lib.compact zs ++ List.replicate (zs.length - (Lib.compact zs).length) 0).toArray
  none : ∀ (p : Option Addr) (cap : Nat) (w : World), Calls P f #[.slice p 0 cap] w fun e w' => e = .returned (.slice p 0 cap) ∧ w' = w
theorem compact_le (zs : List Int) : (Lib.compact zs).length ≤ zs.length := by
  unfold Lib.compact Lib.compactUpTo
  rw [List.length_map]
  exact Nat.le_trans (List.length_filter_le _ _) (by simp)
section
variable {P : Program} {Z : Zs} {w : World} {j : J} {mem : List O}
theorem putRow_other {n g b : Nat} {os : Array Obj} {d : Array Int} {k : Nat} (hk : k ≠ g) : (grow (putRow (Value.int .i64) (Sort.ahead w n) g b d) os).heap[k]? = (grow (Sort.ahead w n) os).heap[k]? := by
  simp [grow, putRow, mapBlock, Sort.ahead, Array.getElem?_append, Array.getElem?_modify, Ne.symm hk]
theorem putRow_same {n g b : Nat} {os : Array Obj} {cur : Array Value} {e : TypeId} {fr : Nat × Nat} (d : Array Int) (hb : w.heap[g]? = some (.cells cur e fr)) :
    (grow (putRow (Value.int .i64) (Sort.ahead w n) g b d) os).heap[g]? = some (.cells (Sort.putCells (Value.int .i64) b d cur) e fr) := by
  have hg : g < w.heap.size := (Array.getElem?_eq_some_iff.1 hb).1
  rw [heap_grow_old _ _ (by simpa using hg)]
  simp [putRow, mapBlock, Sort.ahead, Array.getElem?_modify, hb, onCells]
theorem putCells_get {cur : Array Value} {d : List Int} {k b : Nat} {x : Int} (hk : d[k]? = some x) (hl : b + d.length ≤ cur.size) : (Sort.putCells (Value.int .i64) b d.toArray cur)[b + k]? = some (.int .i64 x) := by
  have hlt : k < d.length := (List.getElem?_eq_some_iff.1 hk).1
  have hx : d[k] = x := (List.getElem?_eq_some_iff.1 hk).2
  simp [Sort.putCells, hlt, show b + k < cur.size by omega, hx]
theorem holds_row {g b : Nat} {us : Array Value} {e : TypeId} {xs : List Int} (hc1 : P.cellsOf e = 1) (hg : w.heap[g]? = some (.cells us e (0, 0)))
    (hcells : ∀ k x, (xs.map iV)[k]? = some x → CellsAt Z w j0 g (b + k * P.cellsOf e) x.cells) : Holds (Value.int .i64) w g b xs.toArray := by
  intro k hk
  have hk' : k < xs.length := by simpa using hk
  refine ⟨?_, by simp [World.frozen?, hg]⟩
  obtain ⟨_, u, hu, hv⟩ := hcells k (iV xs[k]) (by simp [hk']) 0 (iV xs[k]) rfl
  cases hv
  rw [hc1] at hu
  simp only [Nat.mul_one, Nat.add_zero] at hu ⊢
  rw [hu]
  simp [hk']
theorem iV_len {e : TypeId} (hc1 : P.cellsOf e = 1) (ys : List Int) : ∀ x ∈ ys.map iV, x.cells.length = P.cellsOf e := fun x hx => by
  obtain ⟨y, _, rfl⟩ := List.mem_map.1 hx
  rw [hc1]; rfl
theorem sort_post (s : SR P Z w j mem) {id : Nat} {e : TypeId} {els : List V} (hm : mem[id]? = some (.row e els 0)) {g b n c : Nat} {us : Array Value} (hc1 : P.cellsOf e = 1)
    (hju : j id = some ⟨.slice (some ⟨g, b, none⟩) n c, P.cellsOf e⟩) (hg : w.heap[g]? = some (.cells us e (0, 0))) (hZ : ∀ o, ¬ Z g o) {ys : List Int} (hn : ys.length = n) (hnc : n ≤ c) (hcm : c ≤ maxLen) (hus : b + c ≤ us.size) (q : Nat) (os : Array Obj)
    {v : V} {u : Value} (hv : VR Z (grow (putRow (Value.int .i64) (Sort.ahead w q) g b ys.toArray) os) j v u) :
    PostOf P Z w j mem v (mem.set id (.row e (ys.map iV) 0)) u (grow (putRow (Value.int .i64) (Sort.ahead w q) g b ys.toArray) os) := by
  obtain ⟨wa, hwa⟩ : ∃ wa, wa = grow (Sort.ahead w q) os := ⟨_, rfl⟩
  have old : ∀ k, k < w.heap.size → wa.heap[k]? = w.heap[k]? := fun k hk => by rw [hwa, heap_grow_old _ _ (by simpa using hk)]; rfl
  have sza : w.heap.size ≤ wa.heap.size := by rw [hwa]; simp [grow, Sort.ahead]
  have za : ZExt Z w Z wa := .of fun g' o ho => ⟨ho, same_block (old g' (s.zin g' o ho)) o⟩
  have sa : SR P Z wa j mem := s.world za (fun g' hg' => ⟨old g' (Owned.lt s hg'), fun _ => Iff.rfl⟩) (fun g' o ho => Nat.lt_of_lt_of_le (s.zin g' o ho) sza)
  have ta : Stp Z w j mem Z wa j mem := ⟨by rw [hwa]; rfl, by rw [hwa]; rfl, by rw [hwa]; rfl, sza, fun g' hg' _ => ⟨old g' hg', fun _ => Iff.rfl⟩, fun _ _ h => h, za, fun _ h => ⟨h, rfl⟩⟩
  obtain ⟨w1, hw1⟩ : ∃ w1, w1 = grow (putRow (Value.int .i64) (Sort.ahead w q) g b ys.toArray) os := ⟨_, rfl⟩
  have hg1 : w1.heap[g]? = some (.cells (Sort.putCells (Value.int .i64) b ys.toArray us) e (0, 0)) := by rw [hw1]; exact putRow_same _ hg
  have hot : ∀ k, k ≠ g → w1.heap[k]? = wa.heap[k]? := fun k hk => by rw [hw1, hwa]; exact putRow_other hk
  have hsz : w1.heap.size = wa.heap.size := by rw [hw1, hwa]; simp [grow, putRow, mapBlock, Sort.ahead]
  have z1 : ZExt Z wa Z w1 := by
    refine .of fun g' o ho => ⟨ho, ?_⟩
    by_cases hgg : g' = g
    · subst hgg; exact (hZ o ho).elim
    · exact same_block (hot g' hgg) o
  have hne : ∀ g', blkOf j id ≠ some g' → g' ≠ g := by
    intro g' h e'
    subst e'
    exact h (by simp [blkOf, hju, Han.blk])
  have hor : OR P Z w1 j id (.row e (ys.map iV) 0) := by
    refine ⟨_, hju, rfl, by show 0 < P.cellsOf e; omega, Nat.zero_le _, iV_len hc1 ys, .inr ⟨g, b, c, _, by simp [hn], by simp [hn, hnc], hcm, hg1, by simp [hc1, Sort.putCells, hus], fun k x hk i y hy => ?_, fun o ho => (hZ o ho).elim, fun o ho => by simp at ho⟩⟩
    rw [List.getElem?_map] at hk
    cases hyk : ys[k]? with
    | none => rw [hyk] at hk; cases hk
    | some y0 =>
    rw [hyk] at hk
    cases hk
    cases i with
    | succ i => cases hy
    | zero =>
    cases hy
    refine ⟨rfl, .int .i64 y0, ?_, .int⟩
    rw [cell_heap hg1]
    show (Sort.putCells _ _ _ _)[b + k * P.cellsOf e + 0]? = _
    rw [hc1]
    simp only [Nat.mul_one, Nat.add_zero]
    exact putCells_get hyk (by omega)
  rw [← hw1] at hv ⊢
  refine ⟨Z, j, hv, sa.set hm (fun _ => rfl) z1 (fun g' hg' => ⟨hot g' (hne g' hg'), fun _ => Iff.rfl⟩) (fun g' x hx => by rw [hsz]; exact sa.zin g' x hx) (fun h => by cases h) hor, ?_, JExt.refl _⟩
  exact ta.trans (Stp.set hm (fun _ => rfl) rfl z1 (fun g' hg' => ⟨hot g' (hne g' hg'), fun _ => Iff.rfl⟩) (by rw [hw1, hwa]; rfl) (by rw [hw1, hwa]; rfl) (by rw [hw1, hwa]; rfl) (by rw [hsz]; exact Nat.le_refl _))
end
theorem sort_ok {P : Program} {f : FuncId} {e : TypeId} (W : SortW P f) (hc1 : P.cellsOf e = 1) : ImpOK P fun f' as mem => if f' = f then sortP e as mem else none := by
  intro f' as mem r mem' h hok Z w j us s ha
  simp only at h
  by_cases hf : f' = f
  rotate_left
  · rw [if_neg hf] at h; cases h
  subst hf
  rw [if_pos rfl] at h
  unfold sortP at h
  split at h
  rotate_left
  · cases h
  rename_i x0
  simp only [Option.bind_eq_some_iff] at h
  obtain ⟨id, hid, h⟩ := h
  split at h
  rotate_left
  · cases h
  rename_i te els hm
  split at h
  rotate_left
  · cases h
  rename_i hc
  obtain ⟨rfl, hlen⟩ := hc
  simp only [Option.map_eq_some_iff] at h
  obtain ⟨xs, hxs, h⟩ := h
  have := intsOf_some hxs
  subst this
  cases h
  obtain ⟨hl, hv⟩ := ha
  match us, hl, hv with
  | [u], hl, hv =>
  have hu := hv 0 x0 u rfl rfl
  obtain ⟨h, hh, h1, h2, h3, h4, h5⟩ := s.obj id _ hm
  obtain ⟨A, n, c, szu, hju, rfl⟩ := idOf_vr (P := P) hid hu
  rw [hju] at hh
  cases hh
  simp only at h1 h2
  subst h1
  have hlen : xs.length ≤ 16777216 := by simpa using hlen
  rcases h5 with ⟨hv1, he1⟩ | ⟨g, q, cc, us1, hv1, hlc, hcm, hg, hus, hcells, hz1, hz2⟩
  · simp only at hv1
    cases hv1
    have hx0 : xs = [] := by simpa using he1
    subst hx0
    refine (W.none none 0 w).mono fun x w' hxw => ?_
    obtain ⟨rfl, rfl⟩ := hxw
    refine ⟨_, rfl, ?_⟩
    have es0 : srt [] = [] := by simp [srt]
    have : mem.set id (.row te ((srt []).map iV) 0) = mem := by rw [es0]; exact set_self' hm
    rw [this]
    exact post_refl s (.tup (us := []) rfl (fun i c u hc => by simp at hc))
  · simp only at hv1
    cases hv1
    have hZ : ∀ o, ¬ Z g o := fun o ho => by have := (hz1 o ho).1; omega
    have hlx : (xs.map iV).length = xs.length := by simp
    have hH := holds_row (xs := xs) hc1 hg hcells
    have hC := W.srt g q c xs w hH (Array.getElem?_eq_some_iff.1 hg).1 (by omega)
    rw [← hlx] at hC
    refine hC.mono fun x w' hxw => ?_
    obtain ⟨rfl, k, os, rfl⟩ := hxw
    refine ⟨_, rfl, ?_⟩
    have hus' : q + c ≤ us1.size := by simpa [hc1] using hus
    exact sort_post s hm hc1 hju hg hZ (ys := srt xs) (by simp [srt]) hlc hcm hus' k os (.tup (us := []) rfl (fun i c u hc => by simp at hc))
theorem compact_ok {P : Program} {f : FuncId} {e : TypeId} (W : CompactW P f) (hc1 : P.cellsOf e = 1) : ImpOK P fun f' as mem => if f' = f then compactP e as mem else none := by
  intro f' as mem r mem' h hok Z w j us s ha
  simp only at h
  by_cases hf : f' = f
  rotate_left
  · rw [if_neg hf] at h; cases h
  subst hf
  rw [if_pos rfl] at h
  unfold compactP at h
  split at h
  rotate_left
  · cases h
  rename_i x0
  simp only [Option.bind_eq_some_iff] at h
  obtain ⟨id, hid, h⟩ := h
  split at h
  rotate_left
  · cases h
  rename_i te els hm
  split at h
  rotate_left
  · cases h
  rename_i hc
  obtain ⟨rfl, hlen⟩ := hc
  simp only [Option.map_eq_some_iff] at h
  obtain ⟨xs, hxs, h⟩ := h
  have := intsOf_some hxs
  subst this
  cases h
  obtain ⟨hl, hv⟩ := ha
  match us, hl, hv with
  | [u], hl, hv =>
  have hu := hv 0 x0 u rfl rfl
  obtain ⟨h, hh, h1, h2, h3, h4, h5⟩ := s.obj id _ hm
  obtain ⟨A, n, c, szu, hju, rfl⟩ := idOf_vr (P := P) hid hu
  rw [hju] at hh
  cases hh
  simp only at h1 h2
  subst h1
  have hlen : xs.length ≤ 16777216 := by simpa using hlen
  rcases h5 with ⟨hv1, he1⟩ | ⟨g, q, cc, us1, hv1, hlc, hcm, hg, hus, hcells, hz1, hz2⟩
  · simp only at hv1
    cases hv1
    have hx0 : xs = [] := by simpa using he1
    subst hx0
    refine (W.none none 0 w).mono fun x w' hxw => ?_
    obtain ⟨rfl, rfl⟩ := hxw
    refine ⟨_, rfl, ?_⟩
    have : mem.set id (.row te ((cpt []).map iV) 0) = mem := set_self' hm
    rw [this]
    exact post_refl s (.win hju (Nat.le_refl _) (Nat.le_refl _) rfl (.inl ⟨rfl, rfl⟩))
  · simp only at hv1
    cases hv1
    have hZ : ∀ o, ¬ Z g o := fun o ho => by have := (hz1 o ho).1; omega
    have hlx : (xs.map iV).length = xs.length := by simp
    have hH := holds_row (xs := xs) hc1 hg hcells
    have hC := W.cut g q c xs w hH (by omega) (by rw [hlx] at hlc; exact hlc)
    rw [← hlx] at hC
    refine hC.mono fun x w' hxw => ?_
    obtain ⟨rfl, k, rfl⟩ := hxw
    refine ⟨_, rfl, ?_⟩
    have hus' : q + c ≤ us1.size := by simpa [hc1] using hus
    have hcl := compact_le xs
    have e0 : ∀ d : Array Int, putRow (Value.int .i64) (Sort.ahead w k) g q d = grow (putRow (Value.int .i64) (Sort.ahead w k) g q d) #[] := fun d => by simp
    rw [hlx] at hlc
    rw [hlx, e0]
    exact sort_post s hm hc1 hju hg hZ (ys := cpt xs) (by simp [cpt]; omega) (by simpa using hlc) hcm hus' k #[] (.win hju (by simp; omega) (by omega) (Nat.zero_add _) (.inr ⟨g, q, 0, rfl, rfl, Nat.zero_le _, fun _ => by simp⟩))
def sortK (e : TypeId) (args : List V) (mem : List O) (k : V → List O → R) : R :=
  match args with
  | [x] => opt (idOf x) fun id =>
    match mem[id]? with
    | some (.row t els fz) => gd (t == e) <| gd (Nat.beq fz 0) <| gd (decide (els.length ≤ 16777216)) <| opt (intsOf els) fun xs => k (.tup []) (mem.set id (.row e ((srt xs).map iV) 0))
    | _ => none
  | _ => none
def compactK (e : TypeId) (args : List V) (mem : List O) (k : V → List O → R) : R :=
  match args with
  | [x] => opt (idOf x) fun id =>
    match mem[id]? with
    | some (.row t els fz) => gd (t == e) <| gd (Nat.beq fz 0) <| gd (decide (els.length ≤ 16777216)) <| opt (intsOf els) fun xs => k (.win id 0 (Lib.compact xs).length) (mem.set id (.row e ((cpt xs).map iV) 0))
    | _ => none
  | _ => none
theorem sortK_some {e : TypeId} {args : List V} {mem : List O} {k : V → List O → R} {r : Out} (h : sortK e args mem k = some r) : ∃ v m, sortP e args mem = some (v, m) ∧ k v m = some r := by
  unfold sortK at h
  split at h
  · rename_i x
    obtain ⟨id, hid, h⟩ := opt_some h
    split at h
    · rename_i t els fz hm
      obtain ⟨p1, h1⟩ := gd_some h
      obtain ⟨p2, h2⟩ := gd_some h1
      obtain ⟨p3, h3⟩ := gd_some h2
      obtain ⟨xs, hx, h4⟩ := opt_some h3
      clear h h1 h2 h3
      have p1 : t = e := by simpa using p1
      have p2 : fz = 0 := by simpa using p2
      subst p1 p2
      exact ⟨_, _, by simp only [sortP, hid, Option.bind_some, hm, if_pos (And.intro trivial (of_decide_eq_true p3)), hx, Option.map_some], h4⟩
    · cases h
  · cases h
theorem compactK_some {e : TypeId} {args : List V} {mem : List O} {k : V → List O → R} {r : Out} (h : compactK e args mem k = some r) : ∃ v m, compactP e args mem = some (v, m) ∧ k v m = some r := by
  unfold compactK at h
  split at h
  · rename_i x
    obtain ⟨id, hid, h⟩ := opt_some h
    split at h
    · rename_i t els fz hm
      obtain ⟨p1, h1⟩ := gd_some h
      obtain ⟨p2, h2⟩ := gd_some h1
      obtain ⟨p3, h3⟩ := gd_some h2
      obtain ⟨xs, hx, h4⟩ := opt_some h3
      clear h h1 h2 h3
      have p1 : t = e := by simpa using p1
      have p2 : fz = 0 := by simpa using p2
      subst p1 p2
      exact ⟨_, _, by simp only [compactP, hid, Option.bind_some, hm, if_pos (And.intro trivial (of_decide_eq_true p3)), hx, Option.map_some], h4⟩
    · cases h
  · cases h
end Go.Lite