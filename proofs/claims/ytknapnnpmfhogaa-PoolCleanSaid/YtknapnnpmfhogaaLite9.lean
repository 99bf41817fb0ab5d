/-
  The interpreter's operations that make or change memory, third part: literals, maps.
-/
import Derived.Test.YtknapnnpmfhogaaLite8
import Derived.Laws.MakeOwn
namespace Go.Lite
open Go Go.MapKept
section
variable {P : Program} {Z Z' : Zs} {w w' : World} {j j' : J} {mem mem' : List O}
theorem alloc_sound (s : SR P Z w j mem) {t : TypeId} {z : V} (hz : zeroV P t = some z) (hl : z.cells.length = P.cellsOf t) (ho : z.cells.all V.one = true) :
    ∃ r w1, (Instr.alloc t true (.tuple #[])).run P w = .ok r w1 ∧ PostOf P Z w j mem (newBox P mem t z).1 (newBox P mem t z).2 r w1 := by
  obtain ⟨i, zv, hi, hzz, hv, _⟩ := zeroV_sound (Z := Z) (w := w) (j := j) hz
  obtain ⟨r, w1, h1, h2⟩ := box_sound s hl ho hv
  refine ⟨r, w1, ?_, h2⟩
  rw [← h1]
  simp [Instr.alloc, Instr.box, zeroValue, typeInfo, hi, hzz]
theorem build_sound {t : TypeId} {ps : List (Nat × V)} {qs : Array (Nat × Value)} {v : V} (h : buildA P t ps = some v) (hp : PR Z w j ps qs.toList) : ∃ r, (Instr.build t qs).run P w = .ok r w ∧ VR Z w j v r := by
  unfold buildA at h
  cases hz : zeroV P t with
  | none => simp [hz] at h
  | some z =>
    obtain ⟨i, zv, hi, hzz, hv, _⟩ := zeroV_sound (Z := Z) (w := w) (j := j) hz
    cases z <;> simp only [hz] at h <;> first | (cases h; done) | skip
    rename_i zs
    obtain ⟨us, rfl, hr⟩ := hv.aggInv
    cases hpl : placesOf P t with
    | none => simp [hpl] at h
    | some pl =>
    cases hf : fillA (fun i => pl[i]?) zs ps with
    | none => simp [hpl, hf] at h
    | some out =>
    simp [hpl, hf] at h
    subst h
    obtain ⟨us', h1, h2⟩ := fill_sound ps qs.toList zs out us hf hp hr
    refine ⟨.agg us', ?_, h2.aggMk⟩
    unfold placesOf at hpl
    cases hu : P.underlying t with
    | none => simp [hu] at hpl
    | some d =>
      cases d <;> simp only [hu] at hpl <;> first | (cases hpl; done) | skip
      case array n e =>
        split at hpl
        · rename_i hpos
          obtain ⟨ie, hie, his, _⟩ := info_zero hpos
          cases hpl
          have hfl : Instr.fill (fun i => some (i * ie.size, ie.size)) us qs.toList = some us' := by
            have key : ∀ (l : List (Nat × Value)) (a b : Array Value), Instr.fill (fun i => ((List.range n).map fun i => (i * P.cellsOf e, P.cellsOf e))[i]?) a l = some b → Instr.fill (fun i => some (i * ie.size, ie.size)) a l = some b := by
              intro l
              induction l with
              | nil => intro a b h; exact h
              | cons q l ih =>
                intro a b h
                obtain ⟨i, v⟩ := q
                simp only [Instr.fill] at h ⊢
                by_cases hi : i < n
                · have hgi : ((List.range n).map fun i => (i * P.cellsOf e, P.cellsOf e))[i]? = some (i * P.cellsOf e, P.cellsOf e) := by simp [hi]
                  rw [hgi] at h
                  simp only at h
                  rw [his]
                  split at h
                  · cases h
                  · rename_i hc
                    rw [if_neg hc]
                    have := ih _ _ h
                    rwa [his] at this
                · have : ((List.range n).map fun i => (i * P.cellsOf e, P.cellsOf e))[i]? = none := List.getElem?_eq_none (by simp; omega)
                  simp [this] at h
            exact key _ _ _ h1
          simp [Instr.build, zeroValue, typeInfo, hi, hzz, Value.cells, run_underlying hu, sizeOf, hie, hfl]
        · cases hpl
      case struct fs =>
        split at hpl
        · rename_i hall
          cases hpl
          have run : ∀ (l : List Field), (∀ f ∈ l, 0 < P.cellsOf f.type) → (l.mapM (m := Sem) fun f => do pure (f.offset, ← sizeOf f.type)).run P w = .ok (l.map fun f => (f.offset, P.cellsOf f.type)) w := by
            intro l
            induction l with
            | nil => intro _; rfl
            | cons f l ih =>
              intro hl
              obtain ⟨ie, hie, his, _⟩ := info_zero (hl f (by simp))
              have ih' := ih fun f hf => hl f (by simp [hf])
              have hs : (sizeOf f.type).run P w = .ok (P.cellsOf f.type) w := by simp [sizeOf, typeInfo, hie, his]
              simp only [List.mapM_cons, Sem.run_bind, hs, Result.andThen_ok, Sem.run_pure, List.map_cons]
              rw [ih']
              rfl
          have hr := run fs.toList (fun f hf => by simpa using List.all_eq_true.1 hall f hf)
          have hfl : Instr.fill (fun i => (fs.toList.map fun f => (f.offset, P.cellsOf f.type)).toArray[i]?) us qs.toList = some us' := by
            have : (fun i : Nat => (fs.toList.map fun f => (f.offset, P.cellsOf f.type)).toArray[i]?) = fun i => (fs.toList.map fun f => (f.offset, P.cellsOf f.type))[i]? := by
              funext i; simp
            rw [this]; exact h1
          simp only [Instr.build, zeroValue, typeInfo, Sem.run_bind, run_program, hi, hzz, Result.andThen_ok, Sem.run_pure, Value.cells, run_underlying hu]
          rw [Array.mapM_eq_mapM_toList]
          simp only [Sem.run_map, hr, Result.andThen_ok]
          rw [hfl]
          rfl
        · cases hpl
theorem imm1_one {y y' : V} (h : imm1 y = some y') : y.one = true ∧ y'.one = true := by
  cases y <;> simp [imm1] at h <;> subst h <;> exact ⟨rfl, rfl⟩
theorem immX_cells {v x : V} (h : immX v = some x) : mapO imm1 v.cells = some x.cells := by
  have key : imm1 v = some x → mapO imm1 v.cells = some x.cells := fun h => by
    have h1 := imm1_one h
    rw [cells_one h1.1, cells_one h1.2]
    simp [mapO, h]
  cases v with
  | agg cs =>
    simp only [immX] at h
    cases hm : mapO imm1 cs with
    | none => simp [hm] at h
    | some ds => simp [hm] at h; subst h; simpa [V.cells] using hm
  | _ => exact key (by simpa [immX] using h)
theorem mapO_get' {α β : Type} {f : α → Option β} : ∀ {l : List α} {r : List β}, mapO f l = some r → ∀ (i : Nat) (x : α), l[i]? = some x → ∃ y, r[i]? = some y ∧ f x = some y := by
  intro l
  induction l with
  | nil => intro r h i x hx; simp at hx
  | cons a l ih =>
    intro r h i x hx
    simp only [mapO] at h
    cases h1 : f a with
    | none => simp [h1] at h
    | some b =>
      cases h2 : mapO f l with
      | none => simp [h1, h2] at h
      | some bs =>
        simp [h1, h2] at h
        subst h
        cases i with
        | zero => simp at hx; subst hx; exact ⟨b, rfl, h1⟩
        | succ i => exact ih h2 i x (by simpa using hx)
theorem lit_fill {sz : Nat} : ∀ (ps : List (Nat × V)) (k : Nat) (els : List V) (cs : List V), litEls k ps = some els → (∀ x ∈ els, x.cells.length = sz) → (k + ps.length) * sz ≤ cs.length →
    ∃ out, fillA (fun i => some (i * sz, sz)) cs ps = some out ∧ out.length = cs.length ∧ els.length = ps.length ∧ (∀ i, i < k * sz → out[i]? = cs[i]?) ∧
      (∀ (m : Nat) (x : V) (i : Nat) (y' : V), els[m]? = some x → x.cells[i]? = some y' → ∃ y, out[(k + m) * sz + i]? = some y ∧ imm1 y = some y') := by
  intro ps
  induction ps with
  | nil =>
    intro k els cs h _ _
    simp [litEls] at h
    subst h
    exact ⟨cs, rfl, rfl, rfl, fun _ _ => rfl, fun m x i y' hm => by simp at hm⟩
  | cons p ps ih =>
    intro k els cs h hel hle
    obtain ⟨i0, v⟩ := p
    simp only [litEls] at h
    split at h
    · rename_i hik
      subst hik
      cases hx : immX v with
      | none => simp [hx] at h
      | some x0 =>
        cases hr : litEls (i0 + 1) ps with
        | none => simp [hx, hr] at h
        | some rest =>
          simp [hx, hr] at h
          subst h
          have him := immX_cells hx
          obtain ⟨hl1, hg1⟩ := mapO_get him
          have hxl := hel x0 (by simp)
          have hvl : v.cells.length = sz := by omega
          have hone : v.cells.all V.one = true := by
            rw [List.all_eq_true]
            intro y hy
            obtain ⟨i, hi, rfl⟩ := List.getElem_of_mem hy
            obtain ⟨y', _, hy'⟩ := mapO_get' him i _ (List.getElem?_eq_getElem hi)
            exact (imm1_one hy').1
          have hle' : i0 * sz + sz ≤ cs.length := by
            have : (i0 + 1) * sz ≤ (i0 + (ps.length + 1)) * sz := Nat.mul_le_mul_right _ (by omega)
            rw [Nat.succ_mul] at this
            simp at hle
            omega
          have hcl : (cs.take (i0 * sz) ++ v.cells ++ cs.drop (i0 * sz + sz)).length = cs.length := by simp; omega
          obtain ⟨out, h1, h2, h3, h4, h5⟩ := ih (i0 + 1) rest (cs.take (i0 * sz) ++ v.cells ++ cs.drop (i0 * sz + sz)) hr (fun x hx => hel x (by simp [hx])) (by rw [hcl]; simp at hle; rwa [show i0 + 1 + ps.length = i0 + (ps.length + 1) by omega])
          have hto : (cs.take (i0 * sz)).length = i0 * sz := by simp; omega
          refine ⟨out, ?_, by omega, by simp [h3], fun i hi => ?_, fun m x i y' hm hy => ?_⟩
          · simp only [fillA, Option.bind_some]
            rw [if_pos ⟨hvl, hle', hone⟩]
            exact h1
          · rw [h4 i (by rw [Nat.succ_mul]; omega), List.append_assoc, List.getElem?_append_left (by omega), List.getElem?_take, if_pos hi]
          · cases m with
            | zero =>
              simp at hm
              subst hm
              have hi : i < sz := by rw [← hxl]; exact (List.getElem?_eq_some_iff.1 hy).1
              obtain ⟨y, hy1, hy2⟩ := hg1 i y' hy
              refine ⟨y, ?_, hy2⟩
              rw [Nat.add_zero, h4 _ (by rw [Nat.succ_mul]; omega), List.append_assoc, List.getElem?_append_right (by omega), hto, List.getElem?_append_left (by omega)]
              rw [← hy1]; congr 1; omega
            | succ m =>
              obtain ⟨y, hy1, hy2⟩ := h5 m x i y' (by simpa using hm) hy
              exact ⟨y, by rw [← hy1, show i0 + (m + 1) = i0 + 1 + m by omega], hy2⟩
    · cases h
theorem buildSlice_sound (s : SR P Z w j mem) {t e : TypeId} {len : Nat} {ps : List (Nat × V)} {qs : Array (Nat × Value)} {els : List V} (he : elemOf P t = some e) (hl : litEls 0 ps = some els) (hlen : els.length = len) (hroom : roomy P e len = true)
    (hcap : len * P.cellsOf e ≤ 16777216) (hall : els.all (fun y => y.cells.length == P.cellsOf e) = true) (hp : PR Z w j ps qs.toList) :
    ∃ r w1, (Instr.buildSlice t len qs).run P w = .ok r w1 ∧ PostOf P Z w j mem (newRow mem e els 0).1 (newRow mem e els 0).2 r w1 ∧ (PostOf P Z w j mem (.lit e els) mem r w1) := by
  have ht : P.underlying t = some (.slice e) := by
    unfold elemOf at he
    cases hu : P.underlying t with
    | none => simp [hu] at he
    | some d => cases d <;> simp [hu] at he; subst he; rfl
  obtain ⟨hn, hby, hpos, i, z, hi, his, hib, hz, hzs⟩ := roomy_spec hroom
  have hels : ∀ x ∈ els, x.cells.length = P.cellsOf e := fun x hx => by simpa using List.all_eq_true.1 hall x hx
  have hpl : ps.length = len := by
    obtain ⟨out, _, _, h3, _⟩ := lit_fill ps 0 els (List.replicate ((0 + ps.length) * P.cellsOf e) .junk) hl hels (by simp)
    omega
  obtain ⟨out, h1, h2, h3, h4, h5⟩ := lit_fill ps 0 els (List.replicate (len * P.cellsOf e) .junk) hl hels (by simp [hpl])
  obtain ⟨zero, hzero⟩ : ∃ zero : Array Value, (len * i.size = 0 ∧ zero = #[]) ∨ (len * i.size ≠ 0 ∧ zero = z.cells) := by
    by_cases h0 : len * i.size = 0
    · exact ⟨#[], .inl ⟨h0, rfl⟩⟩
    · exact ⟨z.cells, .inr ⟨h0, rfl⟩⟩
  obtain ⟨us', hf, hr⟩ := fill_sound ps qs.toList _ out ((Array.range (len * i.size)).map (zero[· % zero.size]!)) h1 hp
    ⟨by simp [his], fun k c hk => by
      have hlt := (List.getElem?_eq_some_iff.1 hk).1
      simp at hlt
      have : c = .junk := by simp [List.getElem?_replicate] at hk; exact hk.2.symm
      subst this
      exact ⟨_, Array.getElem?_eq_getElem (by simpa [his] using hlt), .junk⟩⟩
  refine ⟨.slice (some ⟨w.heap.size, 0, none⟩) len len, w.alloc (.cells us' e), ?_, ?_⟩
  · have hg : ¬ (len * i.size > 2 ^ 24) := by rw [his]; omega
    have hf' : Instr.fill (fun k => some (k * i.size, i.size)) ((Array.range (len * i.size)).map (zero[· % zero.size]!)) qs.toList = some us' := by rw [his] at hf ⊢; exact hf
    simp only [Instr.buildSlice, Sem.run_bind, run_underlying ht, Result.andThen_ok, sizeOf, typeInfo, run_program, hi, Sem.run_pure]
    rw [if_neg hg]
    have hzr : (zeroValue e).run P w = .ok z w := by simp [zeroValue, typeInfo, hi, hz]
    rcases hzero with ⟨h0, rfl⟩ | ⟨h0, rfl⟩
    · rw [if_pos h0]
      simp only [Sem.run_bind, Sem.run_pure, Result.andThen_ok, hf']
      simp [Go.newRow, newObj, Sem.run]
    · rw [if_neg h0]
      simp only [Sem.run_bind, Sem.run_pure, Result.andThen_ok, hzr, hf']
      simp [Go.newRow, newObj, Sem.run]
  · have hcl : ∀ (k : Nat) (x : V) (i : Nat) (y : V), els[k]? = some x → x.cells[i]? = some y → y.one = true ∧ ∃ u, us'[k * P.cellsOf e + i]? = some u ∧ VR Z w j0 y u := fun k x i y' hk hy => by
      obtain ⟨y, hy1, hy2⟩ := h5 k x i y' hk hy
      rw [Nat.zero_add] at hy1
      obtain ⟨u, hu, hv⟩ := hr.2 _ y hy1
      obtain ⟨q1, q2, _⟩ := imm1_sound hy2 hv
      exact ⟨q2, u, hu, q1⟩
    have a := row_sound (fz := 0) (els := els) (us := us') (c := len) (w1 := w.alloc (.cells us' e)) s rfl rfl rfl rfl hpos hels (by omega) (by omega) (by simp only [maxLen]; omega) (by rw [hr.1, h2]; simp) hcl
    have b := rowF_sound (els := els) (us := us') (c := len) (w1 := w.alloc (.cells us' e)) s rfl rfl rfl rfl hpos hels (by omega) hcl
    rw [hlen] at a b
    exact ⟨a, b.2 rfl⟩
theorem makeMap_sound (s : SR P Z w j mem) {t : TypeId} : ∃ r w1, (Instr.makeMap t none).run P w = .ok r w1 ∧ PostOf P Z w j mem (.mp mem.length) (mem ++ [.map []]) r w1 := by
  refine ⟨.map (some w.heap.size), w.alloc (.map #[] 0), rfl, ?_⟩
  obtain ⟨s1, st, je⟩ := s.push (w1 := w.alloc (.map #[] 0)) (ob := .map #[] 0) rfl rfl rfl rfl 0 (h := ⟨.map (some w.heap.size), 0⟩) (by simp [Han.blk]) (o := .map [])
    ⟨w.heap.size, #[], 0, upd_same _ _ _, heap_alloc_new w _, rfl, fun i a x h => by simp at h, fun o ho => by
      rcases ho with ho | ho
      · have := s.zin _ _ ho; omega
      · omega, MapKept.stamped_empty 0⟩
  exact ⟨_, _, .mp (upd_same _ _ _), s1, st, je⟩
theorem makeMapA_sound (s : SR P Z w j mem) {t : TypeId} : ∃ r w1, (Instr.makeMap t none).run P w = .ok r w1 ∧ PostOf P Z w j mem (newMapA mem t).1 (newMapA mem t).2 r w1 := by
  unfold newMapA
  cases hf : findM t 0 mem with
  | none => exact makeMap_sound s
  | some r =>
    obtain ⟨id, ms⟩ := r
    have hm := findM_mem hf
    refine ⟨.map (some w.heap.size), w.alloc (.map #[] 0), rfl, ?_⟩
    have hO := s.obj id _ hm
    obtain ⟨q1, q2⟩ := s.growA (o' := .marena t (ms ++ [[]])) hm (n := ms.length) (t := t) rfl (by simp [O.ar]) (w1 := w.alloc (.map #[] 0)) (ob := .map #[] 0) rfl rfl rfl rfl (fun hz hA => by
      refine ⟨by rw [List.length_append]; exact hA, fun k es g hk hg => ?_⟩
      by_cases hlt : k < ms.length
      · rw [List.getElem?_append_left hlt] at hk
        rw [Zgrow_old (by omega)] at hg
        have hs : g < w.heap.size := by
          obtain ⟨es', c, h1, _⟩ := hO.2 k es g hk hg
          exact (Array.getElem?_eq_some_iff.1 h1).1
        exact (hO.2 k es g hk hg).mono hz ⟨heap_push_old (w := w) (w1 := w.alloc (.map #[] 0)) rfl hs, fun _ => Iff.rfl⟩
      · have e : k = ms.length := by have := (List.getElem?_eq_some_iff.1 hk).1; simp at this; omega
        subst e
        rw [Zgrow_new] at hg
        cases hg
        simp at hk
        subst hk
        exact ⟨#[], 0, heap_alloc_new w _, rfl, fun i a x h => by simp at h, fun o ho => by have := s.zin _ _ ho; omega, MapKept.stamped_empty 0⟩)
    exact ⟨_, j, .hm (Zgrow_new _ _ _), q1, q2, JExt.refl _⟩
theorem boxA_sound (s : SR P Z w j mem) {t : TypeId} {v : V} {u : Value} {r : V × List O} (h : newBoxA P mem t v = some r) (hl : v.cells.length = P.cellsOf t) (ho : v.cells.all V.one = true) (hv : VR Z w j v u) :
    ∃ r' w1, (Instr.box t u).run P w = .ok r' w1 ∧ PostOf P Z w j mem r.1 r.2 r' w1 := by
  unfold newBoxA at h
  cases hf : findA t 0 mem with
  | none =>
    rw [hf] at h
    cases h
    exact box_sound s hl ho hv
  | some q =>
    obtain ⟨id, els⟩ := q
    rw [hf] at h
    simp only at h
    split at h
    rotate_left
    · cases h
    rename_i hpos
    simp only [Option.map_eq_some_iff] at h
    obtain ⟨y, hy, rfl⟩ := h
    have hm := findA_mem hf
    have hO := s.obj id _ hm
    obtain ⟨hsz, hcl⟩ := hv.cellsOf (one_of_all ho)
    obtain ⟨m1, m2⟩ := mapO_get (immX_cells hy)
    refine ⟨.pointer (some ⟨w.heap.size, 0, none⟩), w.alloc (.cells u.cells t), by simp [Instr.box, newVar, Go.newRow, newObj, Sem.run], ?_⟩
    obtain ⟨q1, q2⟩ := s.growA (o' := .arena t (els ++ [y])) hm (n := els.length) (t := t) rfl (by simp [O.ar]) (w1 := w.alloc (.cells u.cells t)) (ob := .cells u.cells t) rfl rfl rfl rfl (fun hz hA => by
      refine ⟨by rw [List.length_append]; exact hA, fun k x g hk hg => ?_⟩
      by_cases hlt : k < els.length
      · rw [List.getElem?_append_left hlt] at hk
        rw [Zgrow_old (by omega)] at hg
        have hs : g < w.heap.size := by
          obtain ⟨us, h1, _⟩ := hO.2 k x g hk hg
          exact (Array.getElem?_eq_some_iff.1 h1).1
        exact (hO.2 k x g hk hg).mono hz ⟨heap_push_old (w := w) (w1 := w.alloc (.cells u.cells t)) rfl hs, fun _ => Iff.rfl⟩
      · have e : k = els.length := by have := (List.getElem?_eq_some_iff.1 hk).1; simp at this; omega
        subst e
        rw [Zgrow_new] at hg
        cases hg
        simp at hk
        subst hk
        refine ⟨u.cells, heap_alloc_new w _, by omega, by omega, hpos, fun i c hc => ?_, fun o ho => by have := s.zin _ _ ho; omega⟩
        obtain ⟨x, hx, hxc⟩ := m2 i c hc
        obtain ⟨cu, hcu, hvr⟩ := hcl i x hx
        obtain ⟨p1, p2, _⟩ := imm1_sound hxc hvr
        refine ⟨p2, cu, ?_, p1.mono hz (JExt.refl _)⟩
        rw [cell_heap (heap_alloc_new w _), Nat.zero_add]
        exact hcu)
    exact ⟨_, j, .hp (Zgrow_new _ _ _), q1, q2, JExt.refl _⟩
theorem allocA_sound (s : SR P Z w j mem) {t : TypeId} {z : V} {r : V × List O} (h : newBoxA P mem t z = some r) (hz : zeroV P t = some z) (hl : z.cells.length = P.cellsOf t) (ho : z.cells.all V.one = true) :
    ∃ r' w1, (Instr.alloc t true (.tuple #[])).run P w = .ok r' w1 ∧ PostOf P Z w j mem r.1 r.2 r' w1 := by
  obtain ⟨i, zv, hi, hzz, hv, _⟩ := zeroV_sound (Z := Z) (w := w) (j := j) hz
  obtain ⟨r, w1, h1, h2⟩ := boxA_sound s h hl ho hv
  refine ⟨r, w1, ?_, h2⟩
  rw [← h1]
  simp [Instr.alloc, Instr.box, zeroValue, typeInfo, hi, hzz]
theorem eq1_now {d : TypeDesc} {k a : V} {uk ua : Value} {b : Bool} (hd : (∃ kk, d = .int kk) ∨ d = .string) (h : eq1 k a = some b) (hk : VR Z w j k uk) (ha : VR Z w j' a ua) (hfit : IsKey d uk) : Instr.sameNow d uk ua = some b := by
  cases hk <;> cases ha <;> simp [eq1] at h
  · rcases hd with ⟨kk, rfl⟩ | rfl <;> simp [IsKey] at hfit
  · obtain ⟨rfl, rfl⟩ := h
    rcases hd with ⟨kk, rfl⟩ | rfl <;> simp [IsKey] at hfit
    simp [Instr.sameNow]
  · rcases hd with ⟨kk, rfl⟩ | rfl <;> simp [IsKey] at hfit
    rw [← h]
    simp only [Instr.sameNow]
    rw [beq_toListBytes, toList_data, toList_data]
    simp
theorem find_now {d : TypeDesc} {k : V} {uk : Value} (hd : (∃ kk, d = .int kk) ∨ d = .string) (hk : VR Z w j k uk) (hfit : IsKey d uk) :
    ∀ (es : List (V × V)) (es' : List MapEntry) (n : Nat) (r : Option V), mapFind es k = some r → es.length = es'.length →
      (∀ (i : Nat) (a x : V), es[i]? = some (a, x) → ∃ e : MapEntry, es'[i]? = some e ∧ a.flat1 = true ∧ x.inMap = true ∧ VR Z w j0 a e.key ∧ VR Z w j0 x e.val) →
      (r = none ∧ Instr.findNow d uk es' n = some none) ∨ ∃ (i : Nat) (a x : V) (e : MapEntry), r = some x ∧ es[i]? = some (a, x) ∧ es'[i]? = some e ∧ Instr.findNow d uk es' n = some (some (n + i, e.val)) ∧ VR Z w j0 x e.val ∧
        eq1 k a = some true ∧ (∀ i' a' x', i' < i → es[i']? = some (a', x') → eq1 k a' = some false) := by
  intro es
  induction es with
  | nil =>
    intro es' n r h hl _
    simp [mapFind] at h
    subst h
    cases es' with
    | nil => exact .inl ⟨rfl, rfl⟩
    | cons _ _ => simp at hl
  | cons p es ih =>
    intro es' n r h hl hh
    obtain ⟨a, x⟩ := p
    cases es' with
    | nil => simp at hl
    | cons e es' =>
      simp only [mapFind] at h
      obtain ⟨e0, he0, hfa, hfx, hva, hvx⟩ := hh 0 a x rfl
      simp at he0
      subst he0
      cases hb : eq1 k a with
      | none => simp [hb] at h
      | some b =>
        have hn := eq1_now hd hb hk hva hfit
        cases b
        · simp [hb] at h
          rcases ih es' (n + 1) r h (by simpa using hl) (fun i a x hi => by simpa using hh (i + 1) a x (by simpa using hi)) with ⟨h1, h2⟩ | ⟨i, a', x', e', h1, h2, h3, h4, h5, h6, h7⟩
          · exact .inl ⟨h1, by simp [Instr.findNow, hn, h2]⟩
          · refine .inr ⟨i + 1, a', x', e', h1, by simpa using h2, by simpa using h3, by simp only [Instr.findNow, hn, h4]; rw [show n + 1 + i = n + (i + 1) by omega], h5, h6, fun i' a'' x'' hi' he'' => ?_⟩
            cases i' with
            | zero => simp at he''; rw [← he''.1]; exact hb
            | succ i' => exact h7 i' a'' x'' (by omega) (by simpa using he'')
        · simp [hb] at h
          subst h
          exact .inr ⟨0, a, x, e, rfl, rfl, rfl, by simp [Instr.findNow, hn], hvx, hb, fun i' _ _ hi' => by omega⟩
theorem key_fits {t : TypeId} {k : V} {uk : Value} (h : keyFits P t k = true) (hk : VR Z w j k uk) : ∃ kt e d, P.underlying t = some (.map kt e) ∧ P.underlying kt = some d ∧ ((∃ kk, d = .int kk) ∨ d = .string) ∧ IsKey d uk ∧ k.flat1 = true := by
  cases k <;> simp [keyFits] at h
  all_goals
    cases hu : P.underlying t with
    | none => simp [hu] at h
    | some dt =>
      cases dt <;> simp [hu] at h
      rename_i kt e
      cases hkt : P.underlying kt with
      | none => simp [hkt] at h
      | some d =>
        cases d <;> simp [hkt] at h
        cases hk
        first
        | (subst h; exact ⟨kt, e, _, rfl, hkt, .inl ⟨_, rfl⟩, rfl, rfl⟩)
        | exact ⟨kt, e, _, rfl, hkt, .inr rfl, trivial, rfl⟩
theorem lookup_sound (s : SR P Z w j mem) {t e : TypeId} {m : V} {es : List (V × V)} {k z : V} {r : Option V} {um uk : Value} {ok : Bool} (hm : mapAt mem m = some es) (hfit : keyFits P t k = true) (he : mapKey P t = some e) (hz : zeroV P e = some z)
    (hf : mapFind es k = some r) (hvm : VR Z w j m um) (hvk : VR Z w j k uk) :
    ∃ v, (Instr.lookup t um uk ok).run P w = .ok v w ∧ VR Z w j (if ok then .tup [r.getD z, .bool r.isSome] else r.getD z) v := by
  obtain ⟨kt, e', d, hu, hkt, hd, hik, hfl⟩ := key_fits hfit hvk
  have he' : e' = e := by
    simp only [mapKey, hu] at he
    cases hkt' : P.underlying kt with
    | none => simp [hkt'] at he
    | some d => cases d <;> simp [hkt'] at he <;> exact he
  subst he'
  obtain ⟨i, zv, hi, hzz, hzv, _⟩ := zeroV_sound (Z := Z) (w := w) (j := j) hz
  obtain ⟨rr, rfl, es', clock, h2, h3, h4, _⟩ := mapAt_sound s hm hvm
  have fin : ∀ (x : V) (b : Bool) (u : Value), VR Z w j x u → VR Z w j (if ok then .tup [x, .bool b] else x) (if ok then .tuple #[u, .bool b] else u) := by
    intro x b u hx
    cases ok
    · exact hx
    · refine VR.tup (us := [u, .bool b]) rfl fun i c v hc hv => ?_
      match i with
      | 0 => simp at hc hv; subst hc hv; exact hx
      | 1 => simp at hc hv; subst hc hv; exact .bool
      | i + 2 => simp at hc
  rcases find_now hd hvk hik es es'.toList 0 r hf (by simpa using h3) (by simpa using h4) with ⟨rfl, hn⟩ | ⟨i', a, x, e', rfl, _, _, hn, hx, _⟩
  · refine ⟨_, ?_, fin z false zv hzv⟩
    cases ok <;> simp [Instr.lookup, run_underlying hu, MapKept.run_getObj_map h2, run_checkKey hkt hik, run_findKey hkt hn, zeroValue, typeInfo, hi, hzz]
  · refine ⟨_, ?_, fin x true e'.val (hx.up j)⟩
    cases ok <;> simp [Instr.lookup, run_underlying hu, MapKept.run_getObj_map h2, run_checkKey hkt hik, run_findKey hkt hn]
theorem put_get {k x : V} : ∀ {es out : List (V × V)}, mapPut es k x = some out →
    (mapFind es k = some none ∧ out = es ++ [(k, x)]) ∨
    ∃ (i : Nat) (a y : V), es[i]? = some (a, y) ∧ eq1 k a = some true ∧ (∀ i' a' x', i' < i → es[i']? = some (a', x') → eq1 k a' = some false) ∧ mapFind es k = some (some y) ∧ out = es.set i (a, x) := by
  intro es
  induction es with
  | nil => intro out h; simp [mapPut] at h; subst h; exact .inl ⟨rfl, rfl⟩
  | cons p es ih =>
    intro out h
    obtain ⟨a, y⟩ := p
    simp only [mapPut] at h
    cases hb : eq1 k a with
    | none => simp [hb] at h
    | some b =>
      cases b
      · cases hr : mapPut es k x with
        | none => simp [hb, hr] at h
        | some rest =>
          simp [hb, hr] at h
          subst h
          rcases ih hr with ⟨h1, rfl⟩ | ⟨i, a', y', h1, h2, h3, h4, rfl⟩
          · exact .inl ⟨by simp [mapFind, hb, h1], rfl⟩
          · refine .inr ⟨i + 1, a', y', by simpa using h1, h2, fun i' a'' x'' hi he => ?_, by simp [mapFind, hb, h4], rfl⟩
            cases i' with
            | zero => simp at he; rw [← he.1]; exact hb
            | succ i' => exact h3 i' a'' x'' (by omega) (by simpa using he)
      · simp [hb] at h
        subst h
        exact .inr ⟨0, a, y, rfl, hb, fun i' _ _ hi => by omega, by simp [mapFind, hb], rfl⟩
theorem same_at {k : V} {es : List (V × V)} {i i' : Nat} {a y a' y' : V} (h1 : es[i]? = some (a, y)) (h2 : eq1 k a = some true) (h3 : ∀ i' a' x', i' < i → es[i']? = some (a', x') → eq1 k a' = some false)
    (g1 : es[i']? = some (a', y')) (g2 : eq1 k a' = some true) (g3 : ∀ i a x, i < i' → es[i]? = some (a, x) → eq1 k a = some false) : i = i' := by
  rcases Nat.lt_trichotomy i i' with h | h | h
  · rw [g3 i a y h h1] at h2; cases h2
  · exact h
  · rw [h3 i' a' y' h g1] at g2; cases g2
theorem eq1_eq {k a : V} (h : eq1 k a = some true) : k = a := by
  cases k <;> cases a <;> simp [eq1] at h
  · rw [h]
  · obtain ⟨rfl, rfl⟩ := h; rfl
  · rw [h]
theorem VR.strInv {a : List UInt8} {u : Value} (h : VR Z w j (.str a) u) : ∃ b : ByteArray, u = .string b ∧ b.data.toList = a := by
  cases h; exact ⟨_, rfl, rfl⟩
theorem flat_same {a : V} {u u' : Value} (hf : a.flat1 = true) (h : VR Z w j a u) (h' : VR Z w j' a u') : u = u' := by
  cases a <;> simp [V.flat1] at hf
  · cases h; cases h'; rfl
  · cases h; cases h'; rfl
  · obtain ⟨b, rfl, hb⟩ := h.strInv
    obtain ⟨b', rfl, hb'⟩ := h'.strInv
    congr 1
    exact WideShapes.bytes_inj (hb.trans hb'.symm)
theorem set_map {r : Nat} {es' : Array MapEntry} {clock : Nat} {o : Obj} (h2 : w.heap[r]? = some (.map es' clock)) (hz : ∀ o, ¬ Z r o) : ZExt Z w Z { w with heap := w.heap.setIfInBounds r o } :=
  .of fun g x hx => ⟨hx, same_block ((heap_set h2).2 g fun e => hz x (e ▸ hx)) x⟩
theorem VR.inMap0 {x : V} {u : Value} (h : VR Z w j x u) (hf : x.inMap = true) (j' : J) : VR Z w j' x u := by
  cases h <;> first | (simp [V.inMap] at hf; done) | (constructor; done) | (constructor; assumption)
theorem map_post (s : SR P Z w j mem) {m : V} {r : Nat} {es es2 : List (V × V)} {es' es2' : Array MapEntry} {clock clock2 : Nat} (hm : mapAt mem m = some es) (hvm : VR Z w j m (.map (some r))) (h2 : w.heap[r]? = some (.map es' clock))
    (hl : es2.length = es2'.size) (hh : ∀ (i : Nat) (a x : V), es2[i]? = some (a, x) → ∃ e : MapEntry, es2'[i]? = some e ∧ a.flat1 = true ∧ x.inMap = true ∧ VR Z w j0 a e.key ∧ VR Z w j0 x e.val) (hzz : ∀ o, ¬ Z r o) (hst : MapKept.Stamped es2' clock2) :
    PostOf P Z w j mem (.tup []) (mapTo mem m es2) undef { w with heap := w.heap.setIfInBounds r (.map es2' clock2) } := by
  have hz' := set_map (o := .map es2' clock2) h2 hzz
  have hlt : r < w.heap.size := (Array.getElem?_eq_some_iff.1 h2).1
  have hmi : MapIn Z { w with heap := w.heap.setIfInBounds r (.map es2' clock2) } r es2 := by
    refine ⟨es2', clock2, (heap_set h2).1, hl, fun i a x hi => ?_, hzz, hst⟩
    obtain ⟨e, h1, h3, h4, h5, h6⟩ := hh i a x hi
    exact ⟨e, h1, h3, h4, h5.mono hz' (JExt.refl _), h6.mono hz' (JExt.refl _)⟩
  have tup : ∀ (Z : Zs) (w : World), VR Z w j (.tup []) undef := fun Z w => .tup (us := []) rfl (fun i c u hc => by simp at hc)
  cases m with
  | mp id =>
    simp only [mapAt] at hm
    cases hmm : mem[id]? with
    | none => simp [hmm] at hm
    | some o =>
      cases o <;> simp only [hmm] at hm <;> first | (cases hm; done) | skip
      cases hm
      obtain ⟨r', es3, clock3, h1, _⟩ := s.obj id _ hmm
      cases hvm with
      | mp hj =>
        rw [hj] at h1; cases h1
        have hot : ∀ g, blkOf j id ≠ some g → ({ w with heap := w.heap.setIfInBounds r (.map es2' clock2) } : World).heap[g]? = w.heap[g]? := fun g hg => (heap_set h2).2 g fun e => hg (by simp [blkOf, hj, Han.blk, e])
        refine ⟨Z, j, tup _ _, s.set hmm (fun _ => rfl) hz' (fun g hg => ⟨hot g hg, fun _ => Iff.rfl⟩) (fun g o ho => by simpa using s.zin g o ho) (fun h => by cases h) ?_,
          Stp.set hmm (fun _ => rfl) rfl hz' (fun g hg => ⟨hot g hg, fun _ => Iff.rfl⟩) rfl rfl rfl (by simp), JExt.refl _⟩
        obtain ⟨a1, a2, a3, a4, a5, a6⟩ := hmi
        exact ⟨r, a1, a2, hj, a3, a4, a5, a6⟩
  | hm t k =>
    simp only [mapAt, Option.bind_eq_some_iff] at hm
    obtain ⟨⟨id, ms⟩, hf, hk⟩ := hm
    have hmm := findM_mem hf
    have hO := s.obj id _ hmm
    have hkl : k < ms.length := (List.getElem?_eq_some_iff.1 hk).1
    cases hvm with
    | hm hg =>
      have hot : ∀ g, g ≠ r → ({ w with heap := w.heap.setIfInBounds r (.map es2' clock2) } : World).heap[g]? = w.heap[g]? := fun g hg => (heap_set h2).2 g hg
      obtain ⟨q1, q2⟩ := s.setA (o' := .marena t (ms.set k es2)) (w' := { w with heap := w.heap.setIfInBounds r (.map es2' clock2) }) hmm (n := ms.length) (t := t) rfl (by simp [O.ar]) hz'
        (fun g' hg' => ⟨hot g' fun e => hg' ⟨k, hkl, by rw [e]; exact hg⟩, fun _ => Iff.rfl⟩) (fun g o ho => by simpa using s.zin g o ho) rfl rfl rfl (by simp) (by
          refine ⟨by rw [List.length_set]; exact hO.1, fun k' x' g' hk' hg' => ?_⟩
          by_cases e : k = k'
          · subst e
            rw [hg] at hg'; cases hg'
            rw [List.getElem?_set_self hkl] at hk'
            cases hk'
            exact hmi
          · rw [List.getElem?_set_ne e] at hk'
            exact (hO.2 k' x' g' hk' hg').mono hz' ⟨hot g' fun e' => e (hO.1.inj k k' r hg (by rw [← e']; exact hg')), fun _ => Iff.rfl⟩)
      simp only [mapTo, hf]
      exact ⟨Z, j, tup _ _, q1, q2, JExt.refl _⟩
  | _ => simp [mapAt] at hm
theorem find_none {k : V} : ∀ {es : List (V × V)}, mapFind es k = some none → ∀ p ∈ es, eq1 k p.1 = some false
  | [], _, p, hp => nomatch hp
  | (a, x) :: es, h, p, hp => by
    simp only [mapFind] at h
    cases hb : eq1 k a with
    | none => simp [hb] at h
    | some b =>
      cases b
      · simp [hb] at h
        rcases List.mem_cons.1 hp with rfl | hp
        · exact hb
        · exact find_none h p hp
      · simp [hb] at h
theorem key_ne {k a : V} {uk ua : Value} {j j' : J} (h : eq1 k a = some false) (hk : VR Z w j k uk) (ha : VR Z w j' a ua) : uk ≠ ua := by
  rintro rfl
  unfold eq1 at h
  split at h
  · cases hk; cases ha; simp at h
  · split at h
    · rename_i e
      subst e
      cases hk; cases ha; simp at h
    · cases h
  · cases hk; cases ha; simp at h
  · cases h
theorem update_sound (s : SR P Z w j mem) {t : TypeId} {m : V} {es out : List (V × V)} {k x : V} {um uk ux : Value} (hm : mapAt mem m = some es) (hfit : keyFits P t k = true) (hx : x.inMap = true)
    (hp : mapPut es k x = some out) (hvm : VR Z w j m um) (hvk : VR Z w j k uk) (hvx : VR Z w j x ux) :
    ∃ w1, (Instr.mapUpdate t um uk ux).run P w = .ok () w1 ∧ PostOf P Z w j mem (.tup []) (mapTo mem m out) undef w1 := by
  obtain ⟨kt, e', d, hu, hkt, hd, hik, hfl⟩ := key_fits hfit hvk
  obtain ⟨rr, rfl, es', clock, h2, h3, h4, h5⟩ := mapAt_sound s hm hvm
  rcases put_get hp with ⟨hf, rfl⟩ | ⟨i, a, y, g1, g2, g3, hf, rfl⟩
  · rcases find_now hd hvk hik es es'.toList 0 none hf (by simpa using h3) (by simpa using h4) with ⟨_, hn⟩ | ⟨i', a, x', e', hne, _⟩
    · refine ⟨_, by simp [Instr.mapUpdate, run_underlying hu, MapKept.run_getObj_map h2, run_checkKey hkt hik, run_findKey hkt hn, MapKept.run_setObj_map _ h2]; rfl, ?_⟩
      refine map_post s hm hvm h2 (by simp [h3]) (fun i a x' hi => ?_) h5.1 (MapKept.stamped_push h5.2 fun x hx e => ?_)
      rotate_left
      · obtain ⟨i, hi⟩ := List.getElem?_of_mem hx
        have hil := (List.getElem?_eq_some_iff.1 hi).1
        obtain ⟨e1, q1, q2, _, q3, _⟩ := h4 i _ _ (List.getElem?_eq_getElem (show i < es.length by simp at hil; omega))
        simp only [Array.getElem?_toList] at hi
        rw [hi] at q1; cases q1
        exact key_ne (find_none hf _ (List.getElem_mem _)) hvk q3 e.symm
      by_cases hlt : i < es.length
      · rw [List.getElem?_append_left hlt] at hi
        obtain ⟨e, q1, q2⟩ := h4 i a x' hi
        exact ⟨e, by rw [Array.getElem?_push_lt (by omega)]; rw [Array.getElem?_eq_getElem (by omega)] at q1; exact q1, q2⟩
      · rw [List.getElem?_append_right (by omega)] at hi
        have e0 : i = es.length := by have := (List.getElem?_eq_some_iff.1 hi).1; simp at this; omega
        subst e0
        simp at hi
        obtain ⟨rfl, rfl⟩ := hi
        exact ⟨⟨uk, ux, clock⟩, by rw [h3]; simp, hfl, hx, hvk.flat hfl j0, hvx.inMap0 hx j0⟩
    · cases hne
  · rcases find_now hd hvk hik es es'.toList 0 (some y) hf (by simpa using h3) (by simpa using h4) with ⟨hne, _⟩ | ⟨i', a', x', e', _, q1, q2, hn, _, q3, q4⟩
    · cases hne
    · have ei := same_at g1 g2 g3 q1 q3 q4
      subst ei
      rw [q1] at g1
      cases g1
      obtain ⟨e0, w1, w2, w3, w4, w5⟩ := h4 i a y q1
      have q2' : es'[i]? = some e' := by simpa using q2
      rw [q2'] at w1; cases w1
      have hkk : e'.key = uk := by
        rw [← eq1_eq q3] at w4
        exact flat_same hfl w4 hvk
      rw [Nat.zero_add] at hn
      refine ⟨_, by simp [Instr.mapUpdate, run_underlying hu, MapKept.run_getObj_map h2, run_checkKey hkt hik, run_findKey hkt hn, q2', hkk, run_keyThatStays hik, MapKept.run_setObj_map _ h2]; rfl, ?_⟩
      refine map_post s hm hvm h2 (by simp [h3]) (fun i2 a2 x2 hi => ?_) h5.1 (MapKept.stamped_modify h5.2 i _ (fun e _ => rfl) fun e _ he => ?_)
      rotate_left
      · rw [q2'] at he; cases he; exact hkk.symm
      by_cases e2 : i = i2
      · subst e2
        have hlt : i < es.length := (List.getElem?_eq_some_iff.1 q1).1
        rw [List.getElem?_set_self hlt] at hi
        cases hi
        refine ⟨{ e' with key := uk, val := ux }, by simp [Array.getElem?_modify, q2'], w2, hx, ?_, hvx.inMap0 hx j0⟩
        rw [← hkk]; exact w4
      · rw [List.getElem?_set_ne e2] at hi
        obtain ⟨e, r1, r2⟩ := h4 i2 a2 x2 hi
        exact ⟨e, by simp [Array.getElem?_modify, e2, r1], r2⟩
theorem del_get {k : V} : ∀ {es out : List (V × V)}, mapDel es k = some out →
    (mapFind es k = some none ∧ out = es) ∨
    ∃ (i : Nat) (a y : V), es[i]? = some (a, y) ∧ eq1 k a = some true ∧ (∀ i' a' x', i' < i → es[i']? = some (a', x') → eq1 k a' = some false) ∧ mapFind es k = some (some y) ∧ out = es.eraseIdx i := by
  intro es
  induction es with
  | nil => intro out h; simp [mapDel] at h; subst h; exact .inl ⟨rfl, rfl⟩
  | cons p es ih =>
    intro out h
    obtain ⟨a, y⟩ := p
    simp only [mapDel] at h
    cases hb : eq1 k a with
    | none => simp [hb] at h
    | some b =>
      cases b
      · cases hr : mapDel es k with
        | none => simp [hb, hr] at h
        | some rest =>
          simp [hb, hr] at h
          subst h
          rcases ih hr with ⟨h1, rfl⟩ | ⟨i, a', y', h1, h2, h3, h4, rfl⟩
          · exact .inl ⟨by simp [mapFind, hb, h1], rfl⟩
          · refine .inr ⟨i + 1, a', y', by simpa using h1, h2, fun i' a'' x'' hi he => ?_, by simp [mapFind, hb, h4], rfl⟩
            cases i' with
            | zero => simp at he; rw [← he.1]; exact hb
            | succ i' => exact h3 i' a'' x'' (by omega) (by simpa using he)
      · simp [hb] at h
        subst h
        exact .inr ⟨0, a, y, rfl, hb, fun i' _ _ hi => by omega, by simp [mapFind, hb], rfl⟩
theorem delete_sound (s : SR P Z w j mem) {t ty : TypeId} {m : V} {es out : List (V × V)} {k : V} {um uk : Value} {ts : Array TypeId} {us : Array Value} (ht : ts[0]? = some t) (hu0 : us[0]? = some um) (hu1 : us[1]? = some uk)
    (hm : mapAt mem m = some es) (hfit : keyFits P t k = true) (hp : mapDel es k = some out) (hvm : VR Z w j m um) (hvk : VR Z w j k uk) :
    ∃ w1, (Builtin.delete_ ts ty us).run P w = .ok undef w1 ∧ PostOf P Z w j mem (.tup []) (mapTo mem m out) undef w1 := by
  obtain ⟨kt, e', d, hu, hkt, hd, hik, hfl⟩ := key_fits hfit hvk
  obtain ⟨rr, rfl, es', clock, h2, h3, h4, h5⟩ := mapAt_sound s hm hvm
  rcases del_get hp with ⟨hf, he⟩ | ⟨i, a, y, g1, g2, g3, hf, rfl⟩
  · subst he
    rcases find_now hd hvk hik out es'.toList 0 none hf (by simpa using h3) (by simpa using h4) with ⟨_, hn⟩ | ⟨i', a, x', e', hne, _⟩
    · refine ⟨_, by simp [Builtin.delete_, ht, hu0, hu1, run_underlying hu, MapKept.run_getObj_map h2, run_checkKey hkt hik, run_findKey hkt hn, MapKept.run_setObj_map _ h2, undef]; rfl, ?_⟩
      exact map_post s hm hvm h2 h3 h4 h5.1 h5.2
    · cases hne
  · rcases find_now hd hvk hik es es'.toList 0 (some y) hf (by simpa using h3) (by simpa using h4) with ⟨hne, _⟩ | ⟨i', a', x', e', _, q1, q2, hn, _, q3, q4⟩
    · cases hne
    · have ei := same_at g1 g2 g3 q1 q3 q4
      subst ei
      rw [Nat.zero_add] at hn
      have hlt : i < es.length := (List.getElem?_eq_some_iff.1 q1).1
      refine ⟨_, by simp [Builtin.delete_, ht, hu0, hu1, run_underlying hu, MapKept.run_getObj_map h2, run_checkKey hkt hik, run_findKey hkt hn, MapKept.run_setObj_map _ h2, undef]; rfl, ?_⟩
      have her : es'.eraseIdxIfInBounds i = (es'.toList.eraseIdx i).toArray := by
        rw [Array.eraseIdxIfInBounds, dif_pos (by omega)]
        apply Array.ext'
        simp
      refine map_post s hm hvm h2 (by rw [her]; simp [List.length_eraseIdx, h3]) (fun i2 a2 x2 hi => ?_) h5.1 (MapKept.stamped_erase h5.2 i)
      rw [her]
      simp only [List.getElem?_toArray]
      rw [List.getElem?_eraseIdx] at hi ⊢
      by_cases hi2 : i2 < i
      · rw [if_pos hi2] at hi ⊢
        simpa using h4 i2 a2 x2 hi
      · rw [if_neg hi2] at hi ⊢
        simpa using h4 (i2 + 1) a2 x2 hi
theorem span_sound (s : SR P Z w j mem) {sv : V} {u : Value} {id off len fz : Nat} {e : TypeId} {els : List V} (h : spanM mem sv = some (id, off, len)) (hm : mem[id]? = some (.row e els fz)) (hv : VR Z w j sv u) : VR Z w j (.win id off len) u := by
  cases sv <;> simp only [spanM] at h <;> first | (cases h; done) | skip
  case win a b c => cases h; exact hv
  case tail a b =>
    split at h
    · rename_i hm'
      cases h
      rw [hm] at hm'; cases hm'
      exact (tail_win s hm hv).2
    · cases h
  case own a =>
    split at h
    · rename_i hm'
      cases h
      rw [hm] at hm'; cases hm'
      obtain ⟨hn, hh, hr⟩ := s.obj id _ hm
      cases hv with
      | own hj h0 =>
        rw [hj] at hh; cases hh
        obtain ⟨h1, h2, h3, h4, h5⟩ := hr
        rcases h5 with ⟨hu, he⟩ | ⟨g, b, c, us, hu, hlc, _⟩
        · cases hu; subst he
          exact .win hj (Nat.le_refl _) (Nat.le_refl _) rfl (.inl ⟨rfl, rfl⟩)
        · cases hu
          exact .win hj (by simp) hlc (by simp) (.inr ⟨g, b, 0, rfl, rfl, by simp, by simp⟩)
    · cases h
theorem copy_sound (s : SR P Z w j mem) {t tx ty : TypeId} {sv x v : V} {u ux : Value} (hty : appTy P t tx x = true) (h : copyM P mem t sv x = some (v, mem')) (hv : VR Z w j sv u) (hx : VR Z w j x ux) :
    ∃ r w1, (Builtin.copy_ #[t, tx] ty #[u, ux]).run P w = .ok r w1 ∧ PostOf P Z w j mem v mem' r w1 := by
  unfold copyM at h
  simp only [Option.bind_eq_some_iff] at h
  obtain ⟨e, he, xs, hxs, ⟨id, off, len⟩, hsp, h⟩ := h
  have ht : P.underlying t = some (.slice e) := by
    unfold elemOf at he
    cases hu : P.underlying t with
    | none => simp [hu] at he
    | some d => cases d <;> simp [hu] at he; subst he; rfl
  simp only at h
  split at h
  rotate_left
  · cases h
  rename_i e' els fz hm
  split at h
  rotate_left
  · cases h
  rename_i hc
  obtain ⟨rfl, hall, hfz, hend⟩ := hc
  cases h
  have hw := span_sound s hsp hm hv
  have hall' : ∀ y ∈ xs, y.cells.length = P.cellsOf e' := fun y hy => by simpa using List.all_eq_true.1 hall y hy
  obtain ⟨hn, hh, hr⟩ := s.obj id _ hm
  obtain ⟨h1, h2, h3, h4, h5⟩ := hr
  have hpos : 0 < P.cellsOf e' := by rw [← h1]; exact h2
  obtain ⟨news, ha, hnr⟩ := args_sound s hty ht hpos hxs hall' hx
  obtain ⟨i, hi, his, _⟩ := info_zero hpos
  cases hw with
  | win hj hnn hlc hcc hA =>
  rename_i n c sz c' A A'
  rw [hj] at hh; cases hh
  simp only at h1 h2 h4 h5
  subst h1
  obtain ⟨m, hmd⟩ : ∃ m, m = min xs.length len := ⟨_, rfl⟩
  rw [← hmd]
  have hml : m ≤ len := by omega
  have hmx : m ≤ xs.length := by omega
  have hnm : Nat.min xs.length len = m := hmd.symm
  have hfc := ha.cells m w hmx rfl
  rw [← his] at hfc
  have hrun : (Builtin.copy_ #[t, tx] ty #[.slice A' len c', ux]).run P w = (match A' with | some a => (storeCells a (news.take (m * i.size))).run P w | none => .ok () w).andThen fun _ w1 => .ok (goInt m) w1 := by
    have hlen := ha.len w
    cases A' <;> simp [Builtin.copy_, run_underlying ht, hlen, sizeOf, typeInfo, hi, hnm, hfc]
  by_cases hm0 : m = 0
  · subst hm0
    have he1 : els.take off ++ xs.take 0 ++ els.drop (off + 0) = els := by simp
    rw [he1]
    have he2 : mem.set id (.row e' els fz) = mem := by
      apply List.ext_getElem?
      intro k
      by_cases e : id = k
      · subst e; rw [List.getElem?_set_self (List.getElem?_eq_some_iff.1 hm).1, hm]
      · rw [List.getElem?_set_ne e]
    rw [he2]
    refine ⟨goInt 0, w, ?_, post_refl s .int⟩
    rw [hrun]
    cases A' <;> simp [storeCells]
  · rcases h5 with ⟨_, hel⟩ | ⟨g, b, c2, us, hu, hlc2, hcm, hg, hus, hcells, hz1, hz2⟩
    · subst hel; simp at hend; omega
    · simp only [Value.slice.injEq] at hu
      obtain ⟨rfl, rfl, rfl⟩ := hu
      rcases hA with ⟨hA, _⟩ | ⟨g', b', o, hA, rfl, ho1, ho2⟩
      · cases hA
      cases hA
      have ho : o = off * P.cellsOf e' := ho2 (by omega)
      subst ho
      obtain ⟨vals, hvd⟩ : ∃ vals, vals = news.take (m * P.cellsOf e') := ⟨_, rfl⟩
      have hvl : vals.length = m * P.cellsOf e' := by
        rw [hvd, List.length_take, ha.size]
        exact Nat.min_eq_left (Nat.mul_le_mul_right _ hmx)
      have hsz1 : (off + m) * P.cellsOf e' ≤ els.length * P.cellsOf e' := Nat.mul_le_mul_right _ (by omega)
      have hsz2 : els.length * P.cellsOf e' ≤ c * P.cellsOf e' := Nat.mul_le_mul_right _ hlc2
      rw [Nat.add_mul] at hsz1
      have hus : b + c * P.cellsOf e' ≤ us.size := hus
      obtain ⟨p, hp⟩ : ∃ p, p = b + off * P.cellsOf e' := ⟨_, rfl⟩
      have hpl : p + vals.length ≤ us.size := by omega
      obtain ⟨q1, q2, q3⟩ := store_cells (w := w) (p := p) (vals := vals) hg hpl
      have hone : ∀ v ∈ vals, v.oneCell' = true := fun v hv => ha.one v (List.mem_of_mem_take (hvd ▸ hv))
      have hst := run_storeCells_at P g p e' vals 0 us w hg (by simpa using hpl) hone
      simp only [Nat.add_zero] at hst
      refine ⟨goInt m, w.setRow g (us.toList.take p ++ vals ++ us.toList.drop (p + vals.length)).toArray, ?_, ?_⟩
      · rw [hrun, his, ← hvd]
        show ((storeCells ⟨g, b + off * P.cellsOf e', none⟩ vals).run P w).andThen _ = _
        rw [← hp, hst]
        rfl
      obtain ⟨w1, hw1⟩ : ∃ w1, w1 = w.setRow g (us.toList.take p ++ vals ++ us.toList.drop (p + vals.length)).toArray := ⟨_, rfl⟩
      have hot : ∀ k, k ≠ g → w1.heap[k]? = w.heap[k]? := fun k hk => by rw [hw1]; exact setRow_other w g k _ hk
      rw [← hw1] at q1 q3 ⊢
      have hfz' : fz * P.cellsOf e' ≤ off * P.cellsOf e' := Nat.mul_le_mul_right _ hfz
      have hz' : ZExt Z w Z w1 := by
        refine .of fun g' x hx => ⟨hx, ?_⟩
        by_cases e : g' = g
        · subst e
          have h7 : x < b + fz * P.cellsOf e' := (hz1 x hx).2
          refine ⟨by rw [q3 x, if_neg (by omega), cell_heap hg], ?_⟩
          simp only [kindOf, q1, hg, q2]
        · exact same_block (hot g' e) x
      have hbk : blkOf j id = some g := by simp [blkOf, hj, Han.blk]
      have hne : ∀ g', blkOf j id ≠ some g' → g' ≠ g := by
        intro g' h e
        subst e
        exact h hbk
      have hrow : OR P Z w1 j id (.row e' (els.take off ++ xs.take m ++ els.drop (off + m)) fz) := by
        have hto : (els.take off).length = off := by simp; omega
        have htx : (xs.take m).length = m := by simp; omega
        have hlen' : (els.take off ++ xs.take m ++ els.drop (off + m)).length = els.length := by simp; omega
        refine ⟨_, hj, rfl, hpos, by rw [hlen']; exact h3, fun z hz => ?_, .inr ⟨g, b, c, _, by rw [hlen'], by rw [hlen']; exact hlc2, hcm, q1, by rw [q2]; exact hus, fun k x hk i y hy => ?_, hz1, hz2⟩⟩
        · rcases List.mem_append.1 hz with hz | hz
          · rcases List.mem_append.1 hz with hz | hz
            · exact h4 z (List.mem_of_mem_take hz)
            · exact hall' z (List.mem_of_mem_take hz)
          · exact h4 z (List.mem_of_mem_drop hz)
        · show _ ∧ ∃ u, w1.cell? ⟨g, b + k * P.cellsOf e' + i, none⟩ = some u ∧ _
          rw [q3]
          have old : ∀ x, els[k]? = some x → x.cells[i]? = some y → (k < off ∨ off + m ≤ k) → y.one = true ∧ ∃ u, (if p ≤ b + k * P.cellsOf e' + i ∧ b + k * P.cellsOf e' + i < p + vals.length then vals[b + k * P.cellsOf e' + i - p]? else us[b + k * P.cellsOf e' + i]?) = some u ∧ VR Z w1 j0 y u := by
            intro x hk hy hkk
            have hil : i < P.cellsOf e' := by rw [← h4 x (List.mem_of_getElem? hk)]; exact (List.getElem?_eq_some_iff.1 hy).1
            have hout : ¬ (p ≤ b + k * P.cellsOf e' + i ∧ b + k * P.cellsOf e' + i < p + vals.length) := by
              rintro ⟨r1, r2⟩
              rcases hkk with hk1 | hk1
              · have : (k + 1) * P.cellsOf e' ≤ off * P.cellsOf e' := Nat.mul_le_mul_right _ hk1
                rw [Nat.succ_mul] at this
                omega
              · have : (off + m) * P.cellsOf e' ≤ k * P.cellsOf e' := Nat.mul_le_mul_right _ hk1
                rw [Nat.add_mul] at this
                omega
            rw [if_neg hout]
            obtain ⟨a, u', hu'', hvv⟩ := hcells k x hk i y hy
            rw [cell_heap hg] at hu''
            exact ⟨a, u', hu'', hvv.mono hz' (JExt.refl _)⟩
          by_cases hk1 : k < off
          · rw [List.append_assoc, List.getElem?_append_left (by omega), List.getElem?_take, if_pos hk1] at hk
            exact old x hk hy (.inl hk1)
          · rw [List.append_assoc, List.getElem?_append_right (by omega), hto] at hk
            by_cases hk2 : k - off < m
            · rw [List.getElem?_append_left (by omega), List.getElem?_take, if_pos hk2] at hk
              have hil : i < P.cellsOf e' := by rw [← hall' x (List.mem_of_getElem? hk)]; exact (List.getElem?_eq_some_iff.1 hy).1
              obtain ⟨a, u', hu', hvv⟩ := hnr _ x i y hk hy
              have e1 : k * P.cellsOf e' = off * P.cellsOf e' + (k - off) * P.cellsOf e' := by rw [← Nat.add_mul]; congr 1; omega
              have e2 : (k - off + 1) * P.cellsOf e' ≤ m * P.cellsOf e' := Nat.mul_le_mul_right _ (by omega)
              rw [Nat.succ_mul] at e2
              rw [if_pos (by omega), show b + k * P.cellsOf e' + i - p = (k - off) * P.cellsOf e' + i by omega, hvd, List.getElem?_take, if_pos (by omega)]
              exact ⟨a, u', hu', hvv.mono hz' (JExt.refl _)⟩
            · rw [List.getElem?_append_right (by omega), htx, List.getElem?_drop, show off + m + (k - off - m) = k by omega] at hk
              exact old x hk hy (.inr (by omega))
      refine ⟨Z, j, .int, s.set hm (fun _ => rfl) hz' (fun g' hg' => ⟨hot g' (hne g' hg'), fun _ => Iff.rfl⟩) (fun g' x hx => ?_) (fun h => by cases h) hrow, ?_, JExt.refl _⟩
      · have := s.zin g' x hx
        rw [hw1]; simpa using this
      · exact Stp.set hm (fun _ => rfl) rfl hz' (fun g' hg' => ⟨hot g' (hne g' hg'), fun _ => Iff.rfl⟩) (by rw [hw1]; rfl) (by rw [hw1]; rfl) (by rw [hw1]; rfl) (by rw [hw1]; simp)
theorem lay_over (s : SR P Z w j mem) {id off m fz : Nat} {e' : TypeId} {els xs : List V} {vals : List Value} {v : V} {r : Value} (hm : mem[id]? = some (.row e' els fz)) {g b c : Nat} {us : Array Value}
    (hj : j id = some ⟨.slice (some ⟨g, b, none⟩) els.length c, P.cellsOf e'⟩) (hlc2 : els.length ≤ c) (hcm : c ≤ maxLen) (hg : w.heap[g]? = some (.cells us e' (0, 0))) (hus : b + c * P.cellsOf e' ≤ us.size) (hpos : 0 < P.cellsOf e')
    (h3 : fz ≤ els.length) (h4 : ∀ x ∈ els, x.cells.length = P.cellsOf e') (hcells : ∀ k x, els[k]? = some x → CellsAt Z w j0 g (b + k * P.cellsOf e') x.cells) (hz1 : ∀ o, Z g o → 0 < fz ∧ o < b + fz * P.cellsOf e') (hz2 : ∀ o, o < fz * P.cellsOf e' → Z g (b + o))
    (hfz : fz ≤ off) (hend : off + m ≤ els.length) (hxm : xs.length = m) (hall' : ∀ y ∈ xs, y.cells.length = P.cellsOf e') (hvl : vals.length = m * P.cellsOf e')
    (hnr : ∀ (k : Nat) (x : V) (i : Nat) (y : V), xs[k]? = some x → x.cells[i]? = some y → y.one = true ∧ ∃ u, vals[k * P.cellsOf e' + i]? = some u ∧ VR Z w j0 y u) (hv : ∀ Z' w', VR Z' w' j v r) :
    PostOf P Z w j mem v (mem.set id (.row e' (els.take off ++ xs ++ els.drop (off + m)) fz)) r (w.setRow g (us.toList.take (b + off * P.cellsOf e') ++ vals ++ us.toList.drop (b + off * P.cellsOf e' + vals.length)).toArray) := by
  have hsz1 : (off + m) * P.cellsOf e' ≤ els.length * P.cellsOf e' := Nat.mul_le_mul_right _ (by omega)
  have hsz2 : els.length * P.cellsOf e' ≤ c * P.cellsOf e' := Nat.mul_le_mul_right _ hlc2
  rw [Nat.add_mul] at hsz1
  obtain ⟨p, hp⟩ : ∃ p, p = b + off * P.cellsOf e' := ⟨_, rfl⟩
  rw [← hp]
  have hpl : p + vals.length ≤ us.size := by omega
  obtain ⟨q1, q2, q3⟩ := store_cells (w := w) (p := p) (vals := vals) hg hpl
  obtain ⟨w1, hw1⟩ : ∃ w1, w1 = w.setRow g (us.toList.take p ++ vals ++ us.toList.drop (p + vals.length)).toArray := ⟨_, rfl⟩
  have hot : ∀ k, k ≠ g → w1.heap[k]? = w.heap[k]? := fun k hk => by rw [hw1]; exact setRow_other w g k _ hk
  rw [← hw1] at q1 q3 ⊢
  have hfz' : fz * P.cellsOf e' ≤ off * P.cellsOf e' := Nat.mul_le_mul_right _ hfz
  have hz' : ZExt Z w Z w1 := by
    refine .of fun g' x hx => ⟨hx, ?_⟩
    by_cases e : g' = g
    · subst e
      have h7 : x < b + fz * P.cellsOf e' := (hz1 x hx).2
      refine ⟨by rw [q3 x, if_neg (by omega), cell_heap hg], ?_⟩
      simp only [kindOf, q1, hg, q2]
    · exact same_block (hot g' e) x
  have hbk : blkOf j id = some g := by simp [blkOf, hj, Han.blk]
  have hne : ∀ g', blkOf j id ≠ some g' → g' ≠ g := by
    intro g' h e
    subst e
    exact h hbk
  have hrow : OR P Z w1 j id (.row e' (els.take off ++ xs ++ els.drop (off + m)) fz) := by
    have hto : (els.take off).length = off := by simp; omega
    have hlen' : (els.take off ++ xs ++ els.drop (off + m)).length = els.length := by simp; omega
    refine ⟨_, hj, rfl, hpos, by rw [hlen']; exact h3, fun z hz => ?_, .inr ⟨g, b, c, _, by rw [hlen'], by rw [hlen']; exact hlc2, hcm, q1, by rw [q2]; exact hus, fun k x hk i y hy => ?_, hz1, hz2⟩⟩
    · rcases List.mem_append.1 hz with hz | hz
      · rcases List.mem_append.1 hz with hz | hz
        · exact h4 z (List.mem_of_mem_take hz)
        · exact hall' z hz
      · exact h4 z (List.mem_of_mem_drop hz)
    · show _ ∧ ∃ u, w1.cell? ⟨g, b + k * P.cellsOf e' + i, none⟩ = some u ∧ _
      rw [q3]
      have old : ∀ x, els[k]? = some x → x.cells[i]? = some y → (k < off ∨ off + m ≤ k) → y.one = true ∧ ∃ u, (if p ≤ b + k * P.cellsOf e' + i ∧ b + k * P.cellsOf e' + i < p + vals.length then vals[b + k * P.cellsOf e' + i - p]? else us[b + k * P.cellsOf e' + i]?) = some u ∧ VR Z w1 j0 y u := by
        intro x hk hy hkk
        have hil : i < P.cellsOf e' := by rw [← h4 x (List.mem_of_getElem? hk)]; exact (List.getElem?_eq_some_iff.1 hy).1
        have hout : ¬ (p ≤ b + k * P.cellsOf e' + i ∧ b + k * P.cellsOf e' + i < p + vals.length) := by
          rintro ⟨r1, r2⟩
          rcases hkk with hk1 | hk1
          · have : (k + 1) * P.cellsOf e' ≤ off * P.cellsOf e' := Nat.mul_le_mul_right _ hk1
            rw [Nat.succ_mul] at this
            omega
          · have : (off + m) * P.cellsOf e' ≤ k * P.cellsOf e' := Nat.mul_le_mul_right _ hk1
            rw [Nat.add_mul] at this
            omega
        rw [if_neg hout]
        obtain ⟨a, u', hu'', hvv⟩ := hcells k x hk i y hy
        rw [cell_heap hg] at hu''
        exact ⟨a, u', hu'', hvv.mono hz' (JExt.refl _)⟩
      by_cases hk1 : k < off
      · rw [List.append_assoc, List.getElem?_append_left (by omega), List.getElem?_take, if_pos hk1] at hk
        exact old x hk hy (.inl hk1)
      · rw [List.append_assoc, List.getElem?_append_right (by omega), hto] at hk
        by_cases hk2 : k - off < m
        · rw [List.getElem?_append_left (by omega)] at hk
          have hil : i < P.cellsOf e' := by rw [← hall' x (List.mem_of_getElem? hk)]; exact (List.getElem?_eq_some_iff.1 hy).1
          obtain ⟨a, u', hu', hvv⟩ := hnr _ x i y hk hy
          have e1 : k * P.cellsOf e' = off * P.cellsOf e' + (k - off) * P.cellsOf e' := by rw [← Nat.add_mul]; congr 1; omega
          have e2 : (k - off + 1) * P.cellsOf e' ≤ m * P.cellsOf e' := Nat.mul_le_mul_right _ (by omega)
          rw [Nat.succ_mul] at e2
          rw [if_pos (by omega), show b + k * P.cellsOf e' + i - p = (k - off) * P.cellsOf e' + i by omega]
          exact ⟨a, u', hu', hvv.mono hz' (JExt.refl _)⟩
        · rw [List.getElem?_append_right (by omega), hxm, List.getElem?_drop, show off + m + (k - off - m) = k by omega] at hk
          exact old x hk hy (.inr (by omega))
  refine ⟨Z, j, hv _ _, s.set hm (fun _ => rfl) hz' (fun g' hg' => ⟨hot g' (hne g' hg'), fun _ => Iff.rfl⟩) (fun g' x hx => ?_) (fun h => by cases h) hrow, ?_, JExt.refl _⟩
  · have := s.zin g' x hx
    rw [hw1]; simpa using this
  · exact Stp.set hm (fun _ => rfl) rfl hz' (fun g' hg' => ⟨hot g' (hne g' hg'), fun _ => Iff.rfl⟩) (by rw [hw1]; rfl) (by rw [hw1]; rfl) (by rw [hw1]; rfl) (by rw [hw1]; simp)
theorem clear_sound (s : SR P Z w j mem) {t ty : TypeId} {sv v : V} {u : Value} (h : clearM P mem t sv = some (v, mem')) (hv : VR Z w j sv u) :
    ∃ r w1, (Builtin.clear_ #[t] ty #[u]).run P w = .ok r w1 ∧ PostOf P Z w j mem v mem' r w1 := by
  unfold clearM at h
  simp only [Option.bind_eq_some_iff] at h
  obtain ⟨e, he, ⟨id, off, len⟩, hsp, h⟩ := h
  have ht : P.underlying t = some (.slice e) := by
    unfold elemOf at he
    cases hu : P.underlying t with
    | none => simp [hu] at he
    | some d => cases d <;> simp [hu] at he; subst he; rfl
  simp only at h
  split at h
  rotate_left
  · cases h
  rename_i e' els fz hm
  split at h
  rotate_left
  · cases h
  rename_i hc
  obtain ⟨rfl, hroom, hfz, hend⟩ := hc
  simp only [Option.bind_eq_some_iff, Option.map_eq_some_iff] at h
  obtain ⟨z, hz, z', hz', h⟩ := h
  cases h
  have tup : ∀ (Z : Zs) (w : World), VR Z w j (.tup []) (.tuple #[]) := fun Z w => .tup (us := []) rfl (fun i c u hc => by simp at hc)
  have hw := span_sound s hsp hm hv
  obtain ⟨hn, hh, h1, h2, h3, h4, h5⟩ := s.obj id _ hm
  have hpos : 0 < P.cellsOf e' := by rw [← h1]; exact h2
  cases hw with
  | win hj hnn hlc hcc hA =>
  rename_i n c sz c' A A'
  rw [hj] at hh; cases hh
  simp only at h1 h2 h4 h5
  subst h1
  by_cases hm0 : len = 0
  · subst hm0
    have he1 : els.take off ++ List.replicate 0 z' ++ els.drop (off + 0) = els := by simp
    rw [he1]
    have he2 : mem.set id (.row e' els fz) = mem := by
      apply List.ext_getElem?
      intro k
      by_cases e : id = k
      · subst e; rw [List.getElem?_set_self (List.getElem?_eq_some_iff.1 hm).1, hm]
      · rw [List.getElem?_set_ne e]
    rw [he2]
    refine ⟨.tuple #[], w, ?_, post_refl s (tup _ _)⟩
    cases A' <;> simp [Builtin.clear_, run_underlying ht]
  · rcases h5 with ⟨_, hel⟩ | ⟨g, b, c2, us, hu, hlc2, hcm, hg, hus, hcells, hz1, hz2⟩
    · subst hel; simp at hend; omega
    · simp only [Value.slice.injEq] at hu
      obtain ⟨rfl, rfl, rfl⟩ := hu
      rcases hA with ⟨hA, _⟩ | ⟨g', b', o, hA, rfl, ho1, ho2⟩
      · cases hA
      cases hA
      have ho : o = off * P.cellsOf e' := ho2 (by omega)
      subst ho
      obtain ⟨i, zv, hi, hzv, hvz, _⟩ := zeroV_sound (P := P) (Z := Z) (w := w) (j := j) hz
      have hcellsz := immX_cells hz'
      obtain ⟨hm1, hm2⟩ := mapO_get hcellsz
      have hone : ∀ y ∈ z.cells, y.one = true := by
        intro y hy
        obtain ⟨k, hk, rfl⟩ := List.getElem_of_mem hy
        obtain ⟨y', _, hy'⟩ := mapO_get' hcellsz k _ (List.getElem?_eq_getElem hk)
        exact (imm1_one hy').1
      obtain ⟨hcs, hcl⟩ := hvz.cellsOf hone
      obtain ⟨x0, hx0⟩ : ∃ x0, els[off]? = some x0 := ⟨_, List.getElem?_eq_getElem (by omega)⟩
      obtain ⟨i2, hi2, his, _⟩ := info_zero hpos
      rw [hi] at hi2; cases hi2
      have hzs : zv.cells.size = P.cellsOf e' := by
        obtain ⟨_, _, _, i3, zv3, hi3, _, _, hz3, hzs3⟩ := roomy_spec hroom
        rw [hi] at hi3; cases hi3
        rw [hzv] at hz3; cases hz3
        exact hzs3
      have hzl : z'.cells.length = P.cellsOf e' := by rw [hm1, ← hcs, hzs]
      have hzone : ∀ v ∈ zv.cells.toList, v.oneCell' = true := by
        intro v hv
        obtain ⟨k, hk, rfl⟩ := List.getElem_of_mem hv
        have hk' : k < zv.cells.size := by simpa using hk
        obtain ⟨cu, hcu, hvr⟩ := hcl k _ (List.getElem?_eq_getElem (by omega))
        have : zv.cells.toList[k] = cu := by
          rw [Array.getElem?_eq_getElem hk'] at hcu
          simpa using hcu
        rw [this]
        exact hvr.oneCell (hone _ (List.getElem_mem _))
      obtain ⟨vals, hvd⟩ : ∃ vals, vals = (Builtin.zeroCells zv.cells len).toList := ⟨_, rfl⟩
      have hvl : vals.length = len * P.cellsOf e' := by rw [hvd]; simp [Builtin.zeroCells, hzs]
      have hvone : ∀ v ∈ vals, v.oneCell' = true := by
        intro v hv
        rw [hvd] at hv
        simp only [Builtin.zeroCells, Array.toList_map, List.mem_map, Array.mem_toList_iff, Array.mem_range] at hv
        obtain ⟨q, hq, rfl⟩ := hv
        have hlt : q % zv.cells.size < zv.cells.size := Nat.mod_lt _ (by omega)
        rw [getElem!_pos zv.cells _ hlt]
        exact hzone _ (Array.getElem_mem_toList hlt)
      have hsz1 : (off + len) * P.cellsOf e' ≤ els.length * P.cellsOf e' := Nat.mul_le_mul_right _ (by omega)
      have hsz2 : els.length * P.cellsOf e' ≤ c * P.cellsOf e' := Nat.mul_le_mul_right _ hlc2
      rw [Nat.add_mul] at hsz1
      have hst := run_storeCells_at P g (b + off * P.cellsOf e') e' vals 0 us w hg (by simp; have hus : b + c * P.cellsOf e' ≤ us.size := hus; omega) hvone
      simp only [Nat.add_zero] at hst
      refine ⟨.tuple #[], _, ?_, lay_over (vals := vals) (m := len) (xs := List.replicate len z') s hm hj hlc2 hcm hg hus hpos h3 h4 hcells hz1 hz2 hfz hend (by simp) (fun y hy => by rw [List.eq_of_mem_replicate hy]; exact hzl) hvl (fun k x q y hk hy => ?_) tup⟩
      · obtain ⟨m, rfl⟩ : ∃ m, len = m + 1 := ⟨len - 1, by omega⟩
        simp [Builtin.clear_, run_underlying ht, zeroValue, typeInfo, hi, hzv, ← hvd, hst]
      · have hx := List.eq_of_mem_replicate (List.mem_of_getElem? hk)
        subst hx
        have hkl : k < len := by have := (List.getElem?_eq_some_iff.1 hk).1; simpa using this
        have hq : q < P.cellsOf e' := by rw [← hzl]; exact (List.getElem?_eq_some_iff.1 hy).1
        obtain ⟨y0, hy0, hyi⟩ := hm2 q y hy
        obtain ⟨cu, hcu, hvr⟩ := hcl q y0 hy0
        obtain ⟨p1, p2, _⟩ := imm1_sound hyi hvr
        refine ⟨p2, cu, ?_, p1⟩
        have hlt2 : k * P.cellsOf e' + q < len * zv.cells.size := by
          have : (k + 1) * P.cellsOf e' ≤ len * P.cellsOf e' := Nat.mul_le_mul_right _ (by omega)
          rw [Nat.succ_mul] at this
          rw [hzs]; omega
        rw [hvd]
        unfold Builtin.zeroCells
        rw [Array.getElem?_toList, Array.getElem?_map, Array.getElem?_range, if_pos hlt2]
        simp only [Option.map_some]
        have hmod : (k * P.cellsOf e' + q) % zv.cells.size = q := by
          rw [hzs, Nat.add_comm, Nat.add_mul_mod_self_right, Nat.mod_eq_of_lt hq]
        rw [hmod]
        have hqs : q < zv.cells.size := by rw [hzs]; exact hq
        rw [getElem!_pos zv.cells q hqs]
        rw [Array.getElem?_eq_getElem hqs] at hcu
        exact hcu
theorem make_sound (s : SR P Z w j mem) {t : TypeId} {a b v : V} {ua ub : Value} (h : makeM P mem t a b = some (v, mem')) (ha : VR Z w j a ua) (hb : VR Z w j b ub) :
    ∃ r w1, (Instr.makeSlice t ua ub).run P w = .ok r w1 ∧ PostOf P Z w j mem v mem' r w1 := by
  unfold makeM at h
  simp only [Option.bind_eq_some_iff] at h
  obtain ⟨e, he, h⟩ := h
  have ht : P.underlying t = some (.slice e) := by
    unfold elemOf at he
    cases hu : P.underlying t with
    | none => simp [hu] at he
    | some d => cases d <;> simp [hu] at he; subst he; rfl
  split at h
  rotate_left
  · cases h
  rename_i kl l kc c
  cases ha; cases hb
  split at h
  rotate_left
  · cases h
  rename_i hc
  obtain ⟨h0, hlc, hroom⟩ := hc
  simp only [Option.bind_eq_some_iff, Option.map_eq_some_iff] at h
  obtain ⟨z, hz, z', hz', h⟩ := h
  cases h
  obtain ⟨hn, hby, hpos, i, zv, hi, his, hib, hzv, hzs⟩ := roomy_spec hroom
  obtain ⟨i2, zv2, hi2, hzv2, hvz, _⟩ := zeroV_sound (P := P) (Z := Z) (w := w) (j := j) hz
  rw [hi] at hi2; cases hi2
  rw [hzv] at hzv2; cases hzv2
  have hcells := immX_cells hz'
  obtain ⟨hm1, hm2⟩ := mapO_get hcells
  have hone : ∀ y ∈ z.cells, y.one = true := by
    intro y hy
    obtain ⟨k, hk, rfl⟩ := List.getElem_of_mem hy
    obtain ⟨y', _, hy'⟩ := mapO_get' hcells k _ (List.getElem?_eq_getElem hk)
    exact (imm1_one hy').1
  obtain ⟨hcs, hcl⟩ := hvz.cellsOf hone
  have hzl : z'.cells.length = P.cellsOf e := by rw [hm1, ← hcs, hzs]
  have hbytes : (i.bytes : Int) * c ≤ 281474976710656 := by
    have h1 : i.bytes * c.toNat ≤ 4096 * 16777216 := Nat.mul_le_mul (by rw [hib]; exact hby) hn
    have h2 : ((i.bytes * c.toNat : Nat) : Int) = (i.bytes : Int) * c := by rw [Int.natCast_mul]; congr 1; omega
    omega
  have hrun := run_make (P := P) w t e i zv ht hi hzv kl kc l c h0 hlc hbytes (by omega)
  refine ⟨_, _, hrun, ?_⟩
  have hlt : l.toNat ≤ c.toNat := by omega
  have hp := row_sound (els := List.replicate l.toNat z') (fz := 0) (c := c.toNat) (t := e) (us := madeCells zv.cells (c.toNat * i.size)) (w1 := w.alloc (.cells (madeCells zv.cells (c.toNat * i.size)) e)) s rfl rfl rfl rfl hpos (fun x hx => by rw [List.eq_of_mem_replicate hx]; exact hzl) (Nat.zero_le _) (by simpa using hlt) (by simp only [maxLen]; omega) (by rw [size_madeCells, his])
    (fun k x q y hk hy => by
      have hx := List.eq_of_mem_replicate (List.mem_of_getElem? hk)
      subst hx
      have hkl : k < l.toNat := by have := (List.getElem?_eq_some_iff.1 hk).1; simpa using this
      have hq : q < P.cellsOf e := by rw [← hzl]; exact (List.getElem?_eq_some_iff.1 hy).1
      obtain ⟨y0, hy0, hyi⟩ := hm2 q y hy
      obtain ⟨cu, hcu, hvr⟩ := hcl q y0 hy0
      obtain ⟨p1, p2, _⟩ := imm1_sound hyi hvr
      refine ⟨p2, cu, ?_, p1⟩
      have hlt2 : k * P.cellsOf e + q < c.toNat * i.size := by
        have : (k + 1) * P.cellsOf e ≤ c.toNat * P.cellsOf e := Nat.mul_le_mul_right _ (by omega)
        rw [Nat.succ_mul] at this
        rw [his]; omega
      unfold madeCells
      rw [Array.getElem?_map, Array.getElem?_range, if_pos hlt2]
      simp only [Option.map_some]
      have hmod : (k * P.cellsOf e + q) % zv.cells.size = q := by
        rw [hzs, Nat.add_comm, Nat.add_mul_mod_self_right, Nat.mod_eq_of_lt hq]
      rw [hmod]
      have hqs : q < zv.cells.size := by rw [hzs]; exact hq
      rw [getElem!_pos zv.cells q hqs]
      rw [Array.getElem?_eq_getElem hqs] at hcu
      exact hcu)
  rw [List.length_replicate] at hp
  exact hp
end
end Go.Lite