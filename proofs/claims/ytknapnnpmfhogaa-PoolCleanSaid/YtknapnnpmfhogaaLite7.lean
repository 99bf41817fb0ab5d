/-
  The interpreter's operations that make or change memory: each one is what the model's operation does.
-/
import Derived.Test.YtknapnnpmfhogaaLite6
import Derived.Lib.ConvBytes
namespace Go.Lite
open Go
section
variable {P : Program} {Z Z' : Zs} {w w' : World} {j j' : J} {mem mem' : List O}
theorem cell_heap {g b : Nat} {us : Array Value} {t : TypeId} {fr : Nat × Nat} (h : w.heap[g]? = some (.cells us t fr)) : w.cell? ⟨g, b, none⟩ = us[b]? := cell_of_row w g b us t fr h
theorem tailed_sound (s : SR P Z w j mem) {v : V} {u : Value} (hv : VR Z w j v u) : VR Z w j (tailed mem v) u := by
  cases v <;> simp only [tailed] <;> first | exact hv | skip
  rename_i id
  cases hm : mem[id]? with
  | none => exact hv
  | some o =>
    cases o <;> simp only <;> first | exact hv | skip
    rename_i t els fz
    obtain ⟨hn, hh, h1, h2, h3, h4, h5⟩ := s.obj id _ hm
    cases hv with
    | own hj h0 =>
      rw [hj] at hh
      cases hh
      rcases h5 with ⟨hu, he⟩ | ⟨g, b, c, us, hu, hlc, _⟩
      · simp only [Value.slice.injEq] at hu
        obtain ⟨rfl, rfl, rfl⟩ := hu
        exact .tail hj (Nat.zero_le _) (.win hj (by simp) (by simp) (by simp) (.inl ⟨rfl, rfl⟩))
      · simp only [Value.slice.injEq] at hu
        obtain ⟨rfl, rfl, rfl⟩ := hu
        exact .tail hj (Nat.zero_le _) (.win hj (by simp) hlc (by simp) (.inr ⟨g, b, 0, rfl, by simp, by simp, by simp⟩))
theorem tailed_one {v : V} : (tailed mem v).one = v.one := by
  cases v <;> simp only [tailed]
  split <;> rfl
theorem boxed_sound : ∀ (ts : List TypeId) (vs : List V) (us : List Value) (mem : List O) (j : J), SR P Z w j mem → vs.length = us.length → (∀ (i : Nat) (v : V) (u : Value), vs[i]? = some v → us[i]? = some u → VR Z w j v u) →
    ∃ j', SR P Z w j' (boxed P ts vs mem).2 ∧ Stp Z w j mem Z w j' (boxed P ts vs mem).2 ∧ JExt j j' ∧ (boxed P ts vs mem).1.length = vs.length ∧
      (∀ (i : Nat) (v : V) (u : Value), (boxed P ts vs mem).1[i]? = some v → us[i]? = some u → VR Z w j' v u) ∧ ((∀ v ∈ vs, v.one = true) → ∀ v ∈ (boxed P ts vs mem).1, v.one = true) := by
  intro ts
  induction ts with
  | nil =>
    intro vs us mem j s hl hv
    have e : boxed P [] vs mem = (vs, mem) := by cases vs <;> rfl
    rw [e]
    exact ⟨j, s, Stp.refl _ _ _ _, JExt.refl _, rfl, hv, fun h => h⟩
  | cons t ts ih =>
    intro vs us mem j s hl hv
    cases vs with
    | nil => exact ⟨j, s, Stp.refl _ _ _ _, JExt.refl _, rfl, hv, fun h => h⟩
    | cons v vs =>
      cases us with
      | nil => simp at hl
      | cons u us =>
        have hv0 := hv 0 v u rfl rfl
        have hvs : ∀ (i : Nat) (v : V) (u : Value), vs[i]? = some v → us[i]? = some u → VR Z w j v u := fun i v u h1 h2 => hv (i + 1) v u (by simpa using h1) (by simpa using h2)
        have hl' : vs.length = us.length := by simpa using hl
        have same : ∀ (x : V), VR Z w j x u → x.one = v.one → boxed P (t :: ts) (v :: vs) mem = (x :: (boxed P ts vs mem).1, (boxed P ts vs mem).2) → _ := fun x hx h1 e => (by
          rw [e]
          obtain ⟨j', a1, a2, a3, a4, a5, a6⟩ := ih vs us mem j s hl' hvs
          refine ⟨j', a1, a2, a3, by simp [a4], fun i y z hy hz => ?_, fun h y hy => ?_⟩
          · cases i with
            | zero => simp at hy hz; subst hy hz; exact hx.mono (ZExt.refl _ _) a3
            | succ i => exact a5 i y z (by simpa using hy) (by simpa using hz)
          · rcases List.mem_cons.1 hy with rfl | hy
            · rw [h1]; exact h v (by simp)
            · exact a6 (fun z hz => h z (by simp [hz])) y hy : ∃ j', SR P Z w j' (boxed P (t :: ts) (v :: vs) mem).2 ∧ Stp Z w j mem Z w j' (boxed P (t :: ts) (v :: vs) mem).2 ∧ JExt j j' ∧ (boxed P (t :: ts) (v :: vs) mem).1.length = (v :: vs).length ∧
      (∀ (i : Nat) (x : V) (z : Value), (boxed P (t :: ts) (v :: vs) mem).1[i]? = some x → (u :: us)[i]? = some z → VR Z w j' x z) ∧ ((∀ x ∈ v :: vs, x.one = true) → ∀ x ∈ (boxed P (t :: ts) (v :: vs) mem).1, x.one = true))
        by_cases hn : v = .nilS
        · subst hn
          cases he : elemOf P t with
          | none => exact same .nilS hv0 rfl (by simp only [boxed, he])
          | some e =>
            by_cases hr : roomy P e 0 = true
            · have e1 : boxed P (t :: ts) (.nilS :: vs) mem = (.tail mem.length 0 :: (boxed P ts vs (mem ++ [.row e [] 0])).1, (boxed P ts vs (mem ++ [.row e [] 0])).2) := by simp only [boxed, he, hr, if_true]
              rw [e1]
              have hpos : 0 < P.cellsOf e := by
                simp only [roomy, rowTy, Bool.and_eq_true, decide_eq_true_eq] at hr
                exact hr.2.1.2
              obtain ⟨s1, st, je⟩ := s.pushV (h := ⟨.slice none 0 0, P.cellsOf e⟩) rfl (o := .row e [] 0) ⟨_, upd_same _ _ _, rfl, hpos, Nat.le_refl _, by simp, .inl ⟨rfl, rfl⟩⟩
              obtain ⟨j', a1, a2, a3, a4, a5, a6⟩ := ih vs us _ _ s1 hl' (fun i v u h1 h2 => (hvs i v u h1 h2).mono (ZExt.refl _ _) je)
              refine ⟨j', a1, st.trans a2, je.trans a3, by simp [a4], fun i y z hy hz => ?_, fun h y hy => ?_⟩
              · cases i with
                | zero =>
                  simp at hy hz
                  subst hy hz
                  cases hv0
                  have hj := a3 mem.length _ (upd_same j mem.length ⟨.slice none 0 0, P.cellsOf e⟩)
                  exact .tail hj (Nat.le_refl _) (.win hj (by simp) (by simp) (by simp) (.inl ⟨rfl, rfl⟩))
                | succ i => exact a5 i y z (by simpa using hy) (by simpa using hz)
              · rcases List.mem_cons.1 hy with rfl | hy
                · rfl
                · exact a6 (fun z hz => h z (by simp [hz])) y hy
            · exact same .nilS hv0 rfl (by simp only [boxed, he]; rw [if_neg hr])
        · exact same (tailed mem v) (tailed_sound s hv0) tailed_one (by cases v <;> first | exact (hn rfl).elim | rfl)
theorem box_sound0 (s : SR P Z w j mem) {t : TypeId} {v : V} {u : Value} (hl : v.cells.length = P.cellsOf t) (ho : v.cells.all V.one = true) (hv : VR Z w j v u) :
    ∃ r w1, (Instr.box t u).run P w = .ok r w1 ∧ PostOf P Z w j mem (.ptr mem.length 0 0) (mem ++ [.box t v false]) r w1 := by
  obtain ⟨hsz, hcl⟩ := hv.cellsOf (one_of_all ho)
  refine ⟨.pointer (some ⟨w.heap.size, 0, none⟩), w.alloc (.cells u.cells t), by simp [Instr.box, newVar, Go.newRow, newObj, Sem.run], ?_⟩
  have hz := ZExt.heap (Z := Z) (w1 := w.alloc (.cells u.cells t)) (ob := .cells u.cells t) rfl s.zin 0
  obtain ⟨s1, st, je⟩ := s.push (w1 := w.alloc (.cells u.cells t)) (ob := .cells u.cells t) rfl rfl rfl rfl 0 (h := ⟨.pointer (some ⟨w.heap.size, 0, none⟩), P.cellsOf t⟩) (by simp [Han.blk]) (o := .box t v false)
    (by
      refine ⟨w.heap.size, u.cells, upd_same _ _ _, heap_alloc_new w _, hl, by omega, fun i y hy => ?_, fun o ho => ?_, fun h => by cases h⟩
      · obtain ⟨c, hc, hvr⟩ := hcl i y hy
        refine ⟨one_of_all ho y (List.mem_of_getElem? hy), c, ?_, hvr.mono hz (s.ext _)⟩
        rw [cell_heap (heap_alloc_new w _)]
        simpa using hc
      · rcases ho with ho | ho
        · have := s.zin _ _ ho; omega
        · omega)
  refine ⟨_, _, ?_, s1, st, je⟩
  have := VR.ptr (Z := Zmore Z w.heap.size 0) (w := w.alloc (.cells u.cells t)) (j := upd j mem.length ⟨.pointer (some ⟨w.heap.size, 0, none⟩), P.cellsOf t⟩) (id := mem.length) (k := 0) (off := 0) (g := w.heap.size) (b := 0) (upd_same _ _ _) rfl
  simpa using this
theorem box_sound (s : SR P Z w j mem) {t : TypeId} {v : V} {u : Value} (hl : v.cells.length = P.cellsOf t) (ho : v.cells.all V.one = true) (hv : VR Z w j v u) :
    ∃ r w1, (Instr.box t u).run P w = .ok r w1 ∧ PostOf P Z w j mem (newBox P mem t v).1 (newBox P mem t v).2 r w1 := by
  have fin : ∀ (v' : V) (m' : List O) (j' : J), boxVal P mem t v = (v', m') → SR P Z w j' m' → Stp Z w j mem Z w j' m' → JExt j j' → v'.cells.length = P.cellsOf t → v'.cells.all V.one = true → VR Z w j' v' u →
      ∃ r w1, (Instr.box t u).run P w = .ok r w1 ∧ PostOf P Z w j mem (newBox P mem t v).1 (newBox P mem t v).2 r w1 := by
    intro v' m' j' e s' st je hl' ho' hv'
    obtain ⟨r, w1, h1, Z2, j2, h2, h3, h4, h5⟩ := box_sound0 s' hl' ho' hv'
    refine ⟨r, w1, h1, ?_⟩
    unfold newBox
    rw [e]
    exact ⟨Z2, j2, h2, h3, st.trans h4, je.trans h5⟩
  have single : (∀ cs, v ≠ .agg cs) → ∃ r w1, (Instr.box t u).run P w = .ok r w1 ∧ PostOf P Z w j mem (newBox P mem t v).1 (newBox P mem t v).2 r w1 := by
    intro hna
    obtain ⟨j', a1, a2, a3, a4, a5, a6⟩ := boxed_sound (P := P) (cellTys P t) [v] [u] mem j s rfl (fun i x z hx hz => by
      cases i with
      | zero => simp at hx hz; subst hx hz; exact hv
      | succ i => simp at hx)
    have hc1 : v.cells = [v] := by cases v <;> first | rfl | exact (hna _ rfl).elim
    have h1 : v.one = true := by rw [hc1] at ho; simpa using ho
    match hb : boxed P (cellTys P t) [v] mem, a1, a2, a4, a5, a6 with
    | ([x], m), a1, a2, a4, a5, a6 =>
      have hx1 : x.one = true := a6 (fun y hy => by simp at hy; subst hy; exact h1) x (by simp)
      have hxc := cells_one hx1
      refine fin x m j' ?_ a1 a2 a3 (by rw [hxc]; rw [hc1] at hl; exact hl) (by rw [hxc]; simp [hx1]) (a5 0 x u rfl rfl)
      unfold boxVal
      cases v <;> first | exact (hna _ rfl).elim | (simp only [hb])
    | ([], m), a1, a2, a4, a5, a6 => simp at a4
    | (_ :: _ :: _, m), a1, a2, a4, a5, a6 => simp at a4
  cases v with
  | agg cs =>
    cases hv with
    | agg hl2 hh =>
      rename_i us
      obtain ⟨j', a1, a2, a3, a4, a5, a6⟩ := boxed_sound (P := P) (cellTys P t) cs us mem j s hl2 hh
      refine fin _ _ j' rfl a1 a2 a3 ?_ ?_ (.agg (by rw [a4]; exact hl2) a5)
      · simp only [V.cells] at hl ⊢
        rw [a4]; exact hl
      · simp only [V.cells, List.all_eq_true] at ho ⊢
        exact a6 ho
  | _ => exact single (by intro cs h; cases h)
def PostRow (P : Program) (Z : Zs) (w : World) (j : J) (mem : List O) (id : Nat) (mem' : List O) (u : Value) (w' : World) : Prop :=
  ∃ Z' j' sz, j' id = some ⟨u, sz⟩ ∧ SR P Z' w' j' mem' ∧ Stp Z w j mem Z' w' j' mem' ∧ JExt j j'
theorem PostRow.own {id : Nat} {mem' : List O} {A : Option Addr} {n c : Nat} {w' : World} (h : PostRow P Z w j mem id mem' (.slice A n c) w') (h0 : ∀ a, A = some a → a.off = 0) : PostOf P Z w j mem (.own id) mem' (.slice A n c) w' :=
  let ⟨Z', j', _, h1, h2, h3, h4⟩ := h
  ⟨Z', j', .own h1 h0, h2, h3, h4⟩
theorem PostRow.tail {id : Nat} {mem' : List O} {u : Value} {w' : World} {t : TypeId} {els : List V} {fz : Nat} (h : PostRow P Z w j mem id mem' u w') (hm : mem'[id]? = some (.row t els fz)) : PostOf P Z w j mem (.tail id 0) mem' u w' := by
  obtain ⟨Z', j', sz, h1, h2, h3, h4⟩ := h
  obtain ⟨hn, hh, q1, q2, q3, q4, q5⟩ := h2.obj id _ hm
  rw [h1] at hh; cases hh
  rcases q5 with ⟨hv, he⟩ | ⟨g, b, c, us, hv, hlc, _⟩
  · simp only at hv
    subst hv he
    exact ⟨Z', j', .tail h1 (Nat.zero_le _) (.win h1 (by simp) (by simp) (by simp) (.inl ⟨rfl, rfl⟩)), h2, h3, h4⟩
  · simp only at hv
    subst hv
    exact ⟨Z', j', .tail h1 (Nat.zero_le _) (.win h1 (by simp) hlc (by simp) (.inr ⟨g, b, 0, rfl, by simp, by simp, by simp⟩)), h2, h3, h4⟩
theorem row_sound' (s : SR P Z w j mem) {w1 : World} {t : TypeId} {us : Array Value} {els : List V} {fz c : Nat} (hh : w1.heap = w.heap.push (.cells us t)) (hos : w1.os = w.os) (htape : w1.tape = w.tape) (hout : w1.output = w.output)
    (hpos : 0 < P.cellsOf t) (hels : ∀ x ∈ els, x.cells.length = P.cellsOf t) (hfz : fz ≤ els.length) (hlc : els.length ≤ c) (hc : c ≤ maxLen) (hus : us.size = c * P.cellsOf t)
    (hcl : ∀ (k : Nat) (x : V) (i : Nat) (y : V), els[k]? = some x → x.cells[i]? = some y → y.one = true ∧ ∃ u, us[k * P.cellsOf t + i]? = some u ∧ VR Z w j0 y u) :
    PostRow P Z w j mem mem.length (newRow mem t els fz).2 (.slice (some ⟨w.heap.size, 0, none⟩) els.length c) w1 := by
  have hz := ZExt.heap (Z := Z) hh s.zin (fz * P.cellsOf t)
  have hg : w1.heap[w.heap.size]? = some (.cells us t (0, 0)) := by rw [hh]; simp
  obtain ⟨s1, st, je⟩ := s.push hh hos htape hout (fz * P.cellsOf t) (h := ⟨.slice (some ⟨w.heap.size, 0, none⟩) els.length c, P.cellsOf t⟩) (by simp [Han.blk]) (o := .row t els fz)
    (by
      refine ⟨_, upd_same _ _ _, rfl, hpos, hfz, hels, .inr ⟨w.heap.size, 0, c, us, rfl, hlc, hc, hg, by simpa using Nat.le_of_eq hus.symm, fun k x hk i y hy => ?_, fun o ho => ?_, fun o ho => .inr ⟨rfl, by simpa using ho⟩⟩⟩
      · obtain ⟨h1, u, hu, hv⟩ := hcl k x i y hk hy
        refine ⟨h1, u, ?_, hv.mono hz (JExt.refl _)⟩
        rw [cell_heap hg, ← hu]
        simp
      · rcases ho with ho | ho
        · have := s.zin _ _ ho; omega
        · have ho := ho.2
          exact ⟨Nat.pos_of_ne_zero fun e => by subst e; simp at ho, by simpa using ho⟩)
  exact ⟨_, _, _, upd_same _ _ _, s1, st, je⟩
theorem row_sound (s : SR P Z w j mem) {w1 : World} {t : TypeId} {us : Array Value} {els : List V} {fz c : Nat} (hh : w1.heap = w.heap.push (.cells us t)) (hos : w1.os = w.os) (htape : w1.tape = w.tape) (hout : w1.output = w.output)
    (hpos : 0 < P.cellsOf t) (hels : ∀ x ∈ els, x.cells.length = P.cellsOf t) (hfz : fz ≤ els.length) (hlc : els.length ≤ c) (hc : c ≤ maxLen) (hus : us.size = c * P.cellsOf t)
    (hcl : ∀ (k : Nat) (x : V) (i : Nat) (y : V), els[k]? = some x → x.cells[i]? = some y → y.one = true ∧ ∃ u, us[k * P.cellsOf t + i]? = some u ∧ VR Z w j0 y u) :
    PostOf P Z w j mem (newRow mem t els fz).1 (newRow mem t els fz).2 (.slice (some ⟨w.heap.size, 0, none⟩) els.length c) w1 :=
  (row_sound' s hh hos htape hout hpos hels hfz hlc hc hus hcl).own (fun a ha => by cases ha; rfl)
theorem rowF_sound (s : SR P Z w j mem) {w1 : World} {t : TypeId} {us : Array Value} {els : List V} {c : Nat} (hh : w1.heap = w.heap.push (.cells us t)) (hos : w1.os = w.os) (htape : w1.tape = w.tape) (hout : w1.output = w.output)
    (hpos : 0 < P.cellsOf t) (hels : ∀ x ∈ els, x.cells.length = P.cellsOf t) (hlc : els.length ≤ c)
    (hcl : ∀ (k : Nat) (x : V) (i : Nat) (y : V), els[k]? = some x → x.cells[i]? = some y → y.one = true ∧ ∃ u, us[k * P.cellsOf t + i]? = some u ∧ VR Z w j0 y u) :
    PostOf P Z w j mem (.sl els) mem (.slice (some ⟨w.heap.size, 0, none⟩) els.length c) w1 ∧ (c = els.length → PostOf P Z w j mem (.lit t els) mem (.slice (some ⟨w.heap.size, 0, none⟩) els.length c) w1) := by
  have hz := ZExt.heap (Z := Z) hh s.zin (els.length * P.cellsOf t)
  have iff : ∀ g, g < w.heap.size → ∀ o, Zmore Z w.heap.size (els.length * P.cellsOf t) g o ↔ Z g o := fun g hg o => ⟨fun h => h.resolve_right fun h => by omega, .inl⟩
  have hsz : w1.heap.size = w.heap.size + 1 := by rw [hh]; simp
  have hg : w1.heap[w.heap.size]? = some (.cells us t (0, 0)) := by rw [hh]; simp
  have hv : VR (Zmore Z w.heap.size (els.length * P.cellsOf t)) w1 j (.sl els) (.slice (some ⟨w.heap.size, 0, none⟩) els.length c) := by
    refine VR.slMk (b := 0) hlc hpos fun k x hk => ?_
    have hx := hels x (List.mem_of_getElem? hk)
    have hkl : k < els.length := (List.getElem?_eq_some_iff.1 hk).1
    refine ⟨hx, fun i hi => .inr ⟨rfl, ?_⟩, fun i y hy => ?_⟩
    · have : (k + 1) * P.cellsOf t ≤ els.length * P.cellsOf t := Nat.mul_le_mul_right _ hkl
      rw [Nat.succ_mul] at this
      omega
    · obtain ⟨h1, u, hu, hv⟩ := hcl k x i y hk hy
      refine ⟨h1, u, ?_, hv.mono hz (JExt.refl _)⟩
      rw [cell_heap hg, ← hu]
      simp
  have s1 : SR P (Zmore Z w.heap.size (els.length * P.cellsOf t)) w1 j mem := s.world hz (fun g hg => ⟨heap_push_old hh (Owned.lt s hg), iff g (Owned.lt s hg)⟩) (fun g o h => by
    rcases h with h | ⟨h, _⟩
    · have := s.zin g o h; omega
    · omega)
  have st : Stp Z w j mem (Zmore Z w.heap.size (els.length * P.cellsOf t)) w1 j mem := ⟨hos, htape, hout, by omega, fun g hg _ => ⟨heap_push_old hh hg, iff g hg⟩, fun _ _ ho => ho, hz, fun _ h => ⟨h, rfl⟩⟩
  refine ⟨⟨_, j, hv, s1, st, JExt.refl _⟩, fun hc => ⟨_, j, by subst hc; exact .lit (n := us.size) hv (fun _ => by simp only [kindOf, hg]) (fun h0 => .inr ⟨rfl, Nat.mul_pos h0 hpos⟩), s1, st, JExt.refl _⟩⟩
theorem rowZ_sound (s : SR P Z w j mem) {w1 : World} {t : TypeId} {us : Array Value} {fr : Nat × Nat} {els : List V} {c : Nat} (hsz : w1.heap.size = w.heap.size + 1) (hold : ∀ g, g < w.heap.size → w1.heap[g]? = w.heap[g]?) (hg : w1.heap[w.heap.size]? = some (.cells us t fr))
    (hos : w1.os = w.os) (htape : w1.tape = w.tape) (hout : w1.output = w.output) {sz : Nat} (hpos : 0 < sz) (hels : ∀ x ∈ els, x.cells.length = sz) (hlc : els.length ≤ c)
    (hcl : ∀ (k : Nat) (x : V) (i : Nat) (y : V), els[k]? = some x → x.cells[i]? = some y → y.one = true ∧ ∃ u, us[k * sz + i]? = some u ∧ VR Z w j0 y u) :
    PostOf P Z w j mem (.sl els) mem (.slice (some ⟨w.heap.size, 0, none⟩) els.length c) w1 := by
  have hz : ZExt Z w (Zmore Z w.heap.size (els.length * sz)) w1 := .of fun g o h => ⟨.inl h, same_block (hold g (s.zin g o h)) o⟩
  have iff : ∀ g, g < w.heap.size → ∀ o, Zmore Z w.heap.size (els.length * sz) g o ↔ Z g o := fun g hg o => ⟨fun h => h.resolve_right fun h => by omega, .inl⟩
  have hv : VR (Zmore Z w.heap.size (els.length * sz)) w1 j (.sl els) (.slice (some ⟨w.heap.size, 0, none⟩) els.length c) := by
    refine VR.slMk (b := 0) hlc hpos fun k x hk => ?_
    have hx := hels x (List.mem_of_getElem? hk)
    have hkl : k < els.length := (List.getElem?_eq_some_iff.1 hk).1
    refine ⟨hx, fun i hi => .inr ⟨rfl, ?_⟩, fun i y hy => ?_⟩
    · have : (k + 1) * sz ≤ els.length * sz := Nat.mul_le_mul_right _ hkl
      rw [Nat.succ_mul] at this
      omega
    · obtain ⟨h1, u, hu, hv⟩ := hcl k x i y hk hy
      refine ⟨h1, u, ?_, hv.mono hz (JExt.refl _)⟩
      rw [cell_heap hg, ← hu]
      simp
  have s1 : SR P (Zmore Z w.heap.size (els.length * sz)) w1 j mem := s.world hz (fun g hg => ⟨hold g (Owned.lt s hg), iff g (Owned.lt s hg)⟩) (fun g o h => by
    rcases h with h | ⟨h, _⟩
    · have := s.zin g o h; omega
    · omega)
  exact ⟨_, j, hv, s1, ⟨hos, htape, hout, by omega, fun g hg _ => ⟨hold g hg, iff g hg⟩, fun _ _ ho => ho, hz, fun _ h => ⟨h, rfl⟩⟩, JExt.refl _⟩
theorem elems_none {x : V} {xs : List V} (h : elems [] x = some xs) : elems mem x = some xs := by
  cases x <;> simp [elems] at h ⊢ <;> exact h
theorem bytesV_get {s : List UInt8} {k : Nat} {x : V} (h : (bytesV s)[k]? = some x) : ∃ b, s[k]? = some b ∧ x = .int .u8 (b.toNat : Int) := by
  unfold bytesV at h
  rw [List.getElem?_map] at h
  cases hb : s[k]? with
  | none => simp [hb] at h
  | some b => simp [hb] at h; exact ⟨b, rfl, h.symm⟩
theorem conv_sound (s : SR P Z w j mem) {m : List O} (hm : m = mem ∨ m = []) {st d : TypeId} {x v : V} {u : Value} (h : convA P m st d x = some v) (hx : VR Z w j x u) : ∃ r w1, (convert st d u).run P w = .ok r w1 ∧ PostOf P Z w j mem v mem r w1 := by
  unfold convA at h
  split at h
  · cases h; cases hx
    exact ⟨_, w, by simp [convert, run_underlying, *, Conv.intToInt], post_refl s .int⟩
  · cases h; cases hx
    rename_i ss h1 h2 s'
    refine ⟨_, w, ?_, post_refl s .str⟩
    simp [convert, run_underlying h1, run_underlying h2]
  · rename_i h1 h2 _
    simp only [Option.bind_eq_some_iff] at h
    obtain ⟨xs, h3, h4⟩ := h
    have h3 := (hm.elim (fun e => by rw [← e]; exact h3) (fun e => by rw [e] at h3; exact elems_none h3) : elems mem _ = some xs)
    obtain ⟨A, c, rfl, hel⟩ := elems_sound s h3 hx
    obtain ⟨r, q1, q2⟩ := text_sound (j := j) (c := c) h1 h2 h4 hel
    exact ⟨r, w, q1, post_refl s q2⟩
  · rename_i e bs h1 h2
    split at h
    · rename_i he
      cases h
      cases hx
      rename_i b
      refine ⟨_, _, Lib.run_convert_string_bytes w st d e b h1 h2 he, ?_⟩
      have hl : (bytesV b.data.toList).length = b.size := by simp [bytesV]
      have := rowZ_sound (els := bytesV b.data.toList) (c := grownCap w b.size 0 e) (sz := 1) s (Lib.bytesWorld_size w e b) (Lib.bytesWorld_at_old w e b) (Lib.bytesWorld_at_new w e b) rfl rfl rfl Nat.one_pos (fun x hx => by
          obtain ⟨k, hk, rfl⟩ := List.getElem_of_mem hx
          obtain ⟨c, _, e⟩ := bytesV_get (List.getElem?_eq_getElem hk)
          rw [e]; rfl) (by rw [hl]; have := grownCap_ge w b.size 0 e; omega) (fun k x i y hk hy => by
          obtain ⟨c, hc, rfl⟩ := bytesV_get hk
          cases i with
          | succ i => simp [V.cells] at hy
          | zero =>
            simp [V.cells] at hy
            subst hy
            refine ⟨rfl, _, ?_, .int⟩
            have hlt : k < b.data.size := by have := (List.getElem?_eq_some_iff.1 hc).1; simpa using this
            rw [Nat.mul_one, Nat.add_zero]
            unfold Lib.bytesCells
            rw [Array.getElem?_append_left (by simpa using hlt), Array.getElem?_map]
            have : b.data[k]? = some c := by rw [← hc]; simp
            rw [this]; rfl)
      rw [hl] at this
      exact this
    · cases h
  · cases h
theorem rowV_sound (s : SR P Z w j mem) {t : TypeId} (hpos : 0 < P.cellsOf t) : PostOf P Z w j mem (newRow mem t [] 0).1 (newRow mem t [] 0).2 (.slice none 0 0) w := by
  obtain ⟨s1, st, je⟩ := s.pushV (h := ⟨.slice none 0 0, P.cellsOf t⟩) rfl (o := .row t [] 0) ⟨_, upd_same _ _ _, rfl, hpos, Nat.le_refl _, by simp, .inl ⟨rfl, rfl⟩⟩
  exact ⟨_, _, .own (upd_same _ _ _) (fun a ha => by cases ha), s1, st, je⟩
theorem PostRow.stp {id : Nat} {u : Value} {w1 : World} {mem1 mem2 : List O} (h : PostRow P Z w j mem1 id mem2 u w1) (hs : Stp Z w j mem Z w j mem1) : PostRow P Z w j mem id mem2 u w1 := by
  obtain ⟨Z', j', sz, h1, h2, h3, h4⟩ := h
  exact ⟨Z', j', sz, h1, h2, hs.trans h3, h4⟩
theorem PostOf.stp {v : V} {u : Value} {w1 : World} {mem1 mem2 : List O} (h : PostOf P Z w j mem1 v mem2 u w1) (hs : Stp Z w j mem Z w j mem1) : PostOf P Z w j mem v mem2 u w1 := by
  obtain ⟨Z', j', a, b, c, d⟩ := h
  exact ⟨Z', j', a, b, hs.trans c, d⟩
theorem Stp.kill {id : Nat} {o : O} (hm : mem[id]? = some o) (har : o.ar = none := by rfl) : Stp Z w j mem Z w j (mem.set id .dead) :=
  ⟨rfl, rfl, rfl, Nat.le_refl _, fun _ _ _ => ⟨rfl, fun _ => Iff.rfl⟩, fun _ _ ho => ho.set hm (by intro h; cases h) har, ZExt.refl _ _, fun _ h => ⟨h.set hm (fun n e => by cases e), rfl⟩⟩
theorem flat_get {els : List V} {sz : Nat} (h : ∀ x ∈ els, x.cells.length = sz) : ∀ (k : Nat) (x : V) (i : Nat), els[k]? = some x → i < sz → (els.flatMap V.cells)[k * sz + i]? = x.cells[i]? := by
  induction els with
  | nil => intro k x i hk; simp at hk
  | cons e els ih =>
    intro k x i hk hi
    have he := h e (by simp)
    simp only [List.flatMap_cons]
    cases k with
    | zero =>
      simp at hk
      subst hk
      rw [Nat.zero_mul, Nat.zero_add, List.getElem?_append_left (by omega)]
    | succ k =>
      rw [List.getElem?_append_right (by rw [he, Nat.succ_mul]; omega)]
      rw [show (k + 1) * sz + i - e.cells.length = k * sz + i by rw [he, Nat.succ_mul]; omega]
      exact ih (fun x hx => h x (by simp [hx])) k x i (by simpa using hk) hi
theorem flat_len {els : List V} {sz : Nat} (h : ∀ x ∈ els, x.cells.length = sz) : (els.flatMap V.cells).length = els.length * sz := by
  induction els with
  | nil => simp
  | cons e els ih =>
    rw [List.flatMap_cons, List.length_append, h e (by simp), ih (fun x hx => h x (by simp [hx])), List.length_cons, Nat.succ_mul, Nat.add_comm]
theorem flat_cells {els : List V} {sz g b : Nat} (hsz : 0 < sz) (h : ∀ x ∈ els, x.cells.length = sz) (hc : ∀ (k : Nat) (x : V), els[k]? = some x → CellsAt Z w j0 g (b + k * sz) x.cells) :
    ∃ us : List Value, us.length = els.length * sz ∧ (∀ (i : Nat) (u : Value), us[i]? = some u → w.cell? ((⟨g, b, none⟩ : Addr).add i) = some u ∧ u.oneCell' = true) ∧
      (∀ (k : Nat) (x : V) (i : Nat) (y : V), els[k]? = some x → x.cells[i]? = some y → y.one = true ∧ ∃ u, us[k * sz + i]? = some u ∧ VR Z w j0 y u) := by
  have hcell : CellsAt Z w j0 g b (els.flatMap V.cells) := by
    intro i y hy
    have hlt : i < els.length * sz := by rw [← flat_len h]; exact (List.getElem?_eq_some_iff.1 hy).1
    have hk : i / sz < els.length := Nat.div_lt_of_lt_mul (by rwa [Nat.mul_comm])
    have e1 : els[i / sz]? = some (els[i / sz]) := List.getElem?_eq_getElem hk
    have e2 := flat_get h (i / sz) _ (i % sz) e1 (Nat.mod_lt _ hsz)
    have e3 : i / sz * sz + i % sz = i := by rw [Nat.mul_comm]; exact Nat.div_add_mod i sz
    rw [e3, hy] at e2
    obtain ⟨a, u, hu, hv⟩ := hc _ _ e1 _ _ e2.symm
    exact ⟨a, u, by rw [← hu, Nat.add_assoc, e3], hv⟩
  obtain ⟨us, h1, _, h3, h4⟩ := run_cells (P := default) hcell
  rw [flat_len h] at h1
  refine ⟨us, h1, fun i u hu => ?_, fun k x i y hk hy => ?_⟩
  · rw [add_none]; exact h4 i u hu
  · have hx := h x (List.mem_of_getElem? hk)
    have hi : i < sz := by rw [← hx]; exact (List.getElem?_eq_some_iff.1 hy).1
    have e := flat_get h k x i hk hi
    rw [hy] at e
    have hlt : k * sz + i < us.length := by
      rw [h1, ← flat_len h]; exact (List.getElem?_eq_some_iff.1 e).1
    refine ⟨(hcell _ _ e).1, us[k * sz + i], List.getElem?_eq_getElem hlt, h3 _ _ _ e (List.getElem?_eq_getElem hlt)⟩
theorem roomy_spec {t : TypeId} {n : Nat} (h : roomy P t n = true) : n ≤ 16777216 ∧ P.bytesOf t ≤ 4096 ∧ 0 < P.cellsOf t ∧
    ∃ i z, P.info? t = some i ∧ i.size = P.cellsOf t ∧ i.bytes = P.bytesOf t ∧ i.zero = some z ∧ z.cells.size = P.cellsOf t := by
  simp only [roomy, rowTy, Bool.and_eq_true, decide_eq_true_eq] at h
  obtain ⟨h1, ⟨h2, h3⟩, h4⟩ := h
  refine ⟨h1, h2, h3, ?_⟩
  cases hi : P.info? t with
  | none => simp [Program.cellsOf, hi] at h3
  | some i =>
    simp only [hi, Option.bind_some] at h4
    cases hz : i.zero with
    | none => simp [hz] at h4
    | some z =>
      simp only [hz, beq_iff_eq] at h4
      exact ⟨i, z, rfl, by simp [Program.cellsOf, hi], by simp [Program.bytesOf, hi], hz, h4⟩
theorem info_zero {t : TypeId} (h : 0 < P.cellsOf t) : ∃ i, P.info? t = some i ∧ i.size = P.cellsOf t ∧ i.bytes = P.bytesOf t := by
  cases hi : P.info? t with
  | none => simp [Program.cellsOf, hi] at h
  | some i => exact ⟨i, rfl, by simp [Program.cellsOf, hi], by simp [Program.bytesOf, hi]⟩
structure ArgC (P : Program) (w : World) (tx : TypeId) (ux : Value) (sz m : Nat) (news : List Value) : Prop where
  ty : P.underlying tx = some .string ∨ ∃ e, P.underlying tx = some (.slice e)
  len : ∀ w2 : World, (Builtin.lenOf ux).run P w2 = .ok m w2
  size : news.length = m * sz
  cells : ∀ (n : Nat) (w2 : World), n ≤ m → w2.heap = w.heap → (Builtin.firstCells sz n ux).run P w2 = .ok (news.take (n * sz)).toArray w2
  one : ∀ u ∈ news, u.oneCell' = true
theorem ArgC.all {tx : TypeId} {ux : Value} {sz m : Nat} {news : List Value} (h : ArgC P w tx ux sz m news) (w2 : World) (hw : w2.heap = w.heap) : (Builtin.firstCells sz m ux).run P w2 = .ok news.toArray w2 := by
  rw [h.cells m w2 (Nat.le_refl _) hw, ← h.size, List.take_length]
theorem run_append_room0 (w : World) {t tx ty e : TypeId} {i : TypeInfo} (ht : P.underlying t = some (.slice e)) (hi : P.info? e = some i) {m : Nat} {ux : Value} {news : List Value} (ha : ArgC P w tx ux i.size m news) {B : Option Addr} {sLen sCap : Nat} (hroom : sLen + m ≤ sCap) :
    (Builtin.append_ #[t, tx] ty #[.slice B sLen sCap, ux]).run P w = (match B with | some a => (storeCells (a.add (sLen * i.size)) news).run P w | none => .ok () w).andThen fun _ w1 => .ok (.slice B (sLen + m) sCap) w1 := by
  have h1 := ha.len w
  have h2 := ha.all w rfl
  rcases ha.ty with hd | ⟨e', hd⟩ <;> cases B <;> simp [Builtin.append_, run_underlying ht, run_underlying hd, sizeOf, typeInfo, hi, h1, hroom, h2]
theorem run_append_grow0 (w : World) {t tx ty e : TypeId} {i : TypeInfo} {z : Value} (ht : P.underlying t = some (.slice e)) (hi : P.info? e = some i) (hz : i.zero = some z) {m : Nat} {ux : Value} {news : List Value} (ha : ArgC P w tx ux i.size m news) {B : Option Addr} {sLen sCap : Nat} {olds : List Value}
    (hfo : (Builtin.firstCells i.size sLen (.slice B sLen sCap)).run P w.drew = .ok olds.toArray w.drew) (hg : sCap < sLen + m) (h63 : ((sLen + m : Nat) : Int) ≤ 9223372036854775807) (hfit : Builtin.nextslicecap (sLen + m) sCap * i.bytes ≤ 281474976710656) :
    (Builtin.append_ #[t, tx] ty #[.slice B sLen sCap, ux]).run P w = .ok (.slice (some ⟨w.heap.size, 0, none⟩) (sLen + m) (grownCap w (sLen + m) sCap e))
        (w.drew.alloc (.cells (olds.toArray ++ news.toArray ++ Builtin.zeroCells z.cells (grownCap w (sLen + m) sCap e - (sLen + m))) e)) := by
  have h1 := ha.len w
  have h2 := ha.all w.drew rfl
  have hn : ¬ (sLen + m ≤ sCap) := by omega
  have h63' : ¬ (9223372036854775807 < ((sLen : Int) + (m : Int))) := by omega
  have h48' : ¬ (281474976710656 < Builtin.nextslicecap (sLen + m) sCap * i.bytes) := by omega
  rcases ha.ty with hd | ⟨e', hd⟩ <;>
    (simp [Builtin.append_, run_underlying ht, run_underlying hd, sizeOf, typeInfo, zeroValue, hi, hz, h1, hn, h63', h48', Question.forced, h2, hfo, Go.newRow, grownCap]; congr 2; apply Array.ext'; simp [List.append_assoc])
theorem run_append_no {t tx ty e : TypeId} (ht : P.underlying t = some (.slice e)) (hp : 0 < P.cellsOf e) {B : Option Addr} {n cap : Nat} {ux : Value} (ha : ArgC P w tx ux (P.cellsOf e) 0 []) (hn : n ≤ cap) :
    (Builtin.append_ #[t, tx] ty #[.slice B n cap, ux]).run P w = .ok (.slice B n cap) w := by
  obtain ⟨i, hi, his, _⟩ := info_zero hp
  rw [← his] at ha
  rw [run_append_room0 w ht hi ha (by omega)]
  cases B <;> simp [storeCells]
theorem row_again' {mem1 : List O} {t : TypeId} {u : Value} {els : List V} {fz : Nat} (s1 : SR P Z w j mem1) (st1 : Stp Z w j mem Z w j mem1) (hr : RowAt P Z w ⟨u, P.cellsOf t⟩ t els fz)
    (hblk : ∀ g, Han.blk ⟨u, P.cellsOf t⟩ = some g → ¬ Owned Z j mem1 g ∧ Owned Z j mem g) : PostRow P Z w j mem mem1.length (newRow mem1 t els fz).2 u w := by
  have s2 := s1.add (h := ⟨u, P.cellsOf t⟩) (o := .row t els fz) (fun g hg => (hblk g hg).1) ⟨_, upd_same _ _ _, hr⟩
  refine ⟨Z, _, _, upd_same _ _ _, s2, ⟨rfl, rfl, rfl, Nat.le_refl _, fun _ _ _ => ⟨rfl, fun _ => Iff.rfl⟩, fun g hg ho => ?_, ZExt.refl _ _, fun _ h => ⟨(st1.ar _ h).1.add rfl, rfl⟩⟩, s1.ext _⟩
  · rcases Owned.add ho with ho | ho
    · exact st1.owned g hg ho
    · exact (hblk g ho).2
theorem run_append_roomB (w : World) {t tx ty e : TypeId} {i : TypeInfo} (ht : P.underlying t = some (.slice e)) (hi : P.info? e = some i)
    (g b sLen sCap : Nat) (cur : Array Value) (hg : w.heap[g]? = some (.cells cur e (0, 0)))
    {ux : Value} {m : Nat} {news : List Value} (ha : ArgC P w tx ux i.size m news)
    (hroom : sLen + m ≤ sCap) (hfit : b + sLen * i.size + news.length ≤ cur.size) :
    (Builtin.append_ #[t, tx] ty #[.slice (some ⟨g, b, none⟩) sLen sCap, ux]).run P w =
      .ok (.slice (some ⟨g, b, none⟩) (sLen + m) sCap) (w.setRow g (cur.toList.take (b + sLen * i.size) ++ news ++ cur.toList.drop (b + sLen * i.size + news.length)).toArray) := by
  have hst := run_storeCells_at P g (b + sLen * i.size) e news 0 cur w hg (by simpa using hfit) ha.one
  simp only [Nat.add_zero] at hst
  rw [run_append_room0 w ht hi ha hroom]
  simp [Addr.add_lit, hst]
theorem ArgC.of {tx e : TypeId} {A : Option Addr} {xs : List V} {c : Nat} (ht : P.underlying tx = some (.slice e)) (hpos : 0 < P.cellsOf e) (hxs : ∀ y ∈ xs, y.cells.length = P.cellsOf e)
    (hel : xs = [] ∨ ∃ g b sz, A = some ⟨g, b, none⟩ ∧ 0 < sz ∧ ∀ (k : Nat) (y : V), xs[k]? = some y → y.cells.length = sz ∧ CellsAt Z w j0 g (b + k * sz) y.cells) :
    ∃ news, ArgC P w tx (.slice A xs.length c) (P.cellsOf e) xs.length news ∧ ∀ (k : Nat) (x : V) (i : Nat) (y : V), xs[k]? = some x → x.cells[i]? = some y → y.one = true ∧ ∃ u, news[k * P.cellsOf e + i]? = some u ∧ VR Z w j0 y u := by
  by_cases hx0 : xs = []
  · subst hx0
    refine ⟨[], ⟨.inr ⟨_, ht⟩, fun w2 => by simp [Builtin.lenOf], by simp, fun n w2 hn _ => ?_, by simp⟩, fun k x i y hk => by simp at hk⟩
    have : n = 0 := by simpa using hn
    subst this
    cases A <;> simp [Builtin.firstCells, loadCells, loadCellsFrom]
  · obtain ⟨ga, ba, sz, hA, hsz, hcl⟩ := hel.resolve_left hx0
    have hxl : 0 < xs.length := List.length_pos_iff.2 hx0
    have hsz' : sz = P.cellsOf e := by
      have e0 : xs[0]? = some xs[0] := List.getElem?_eq_getElem hxl
      rw [← (hcl 0 _ e0).1, hxs _ (List.mem_of_getElem? e0)]
    subst hsz'
    subst hA
    obtain ⟨news, hnl, hnc', hnr⟩ := flat_cells hpos hxs (fun k x hk => (hcl k x hk).2)
    refine ⟨news, ⟨.inr ⟨_, ht⟩, fun w2 => by simp [Builtin.lenOf], hnl, fun n w2 hn hw => ?_, fun u hu => ?_⟩, hnr⟩
    · refine run_firstCells_some (P := P) w2 _ n _ _ c _ (by rw [List.length_take, hnl]; exact Nat.min_eq_left (Nat.mul_le_mul_right _ hn)) (fun k u hk => ?_)
      have hk' : news[k]? = some u := by
        rw [List.getElem?_take] at hk
        split at hk
        · exact hk
        · cases hk
      have := (hnc' k u hk').1
      simpa [World.cell?, hw] using this
    · obtain ⟨k, hk, rfl⟩ := List.getElem_of_mem hu
      exact (hnc' k _ (List.getElem?_eq_getElem hk)).2
theorem run_append_zero {t ty e : TypeId} (ht : P.underlying t = some (.slice e)) (hp : 0 < P.cellsOf e) {B A : Option Addr} {n cap c : Nat} (hn : n ≤ cap) :
    (Builtin.append_ #[t, t] ty #[.slice B n cap, .slice A 0 c]).run P w = .ok (.slice B n cap) w := by
  obtain ⟨news, ha, _⟩ := ArgC.of (Z := ⟨fun _ _ => False, fun _ _ => none, fun _ => none⟩) (w := w) (xs := []) (A := A) (c := c) ht hp (by simp) (.inl rfl)
  have : news = [] := by have := ha.size; simpa using this
  subst this
  exact run_append_no ht hp ha hn
theorem ArgC.str {tx : TypeId} {bs : ByteArray} (ht : P.underlying tx = some .string) :
    ∃ news, ArgC P w tx (.string bs) 1 (bytesV bs.data.toList).length news ∧ ∀ (k : Nat) (x : V) (i : Nat) (y : V), (bytesV bs.data.toList)[k]? = some x → x.cells[i]? = some y → y.one = true ∧ ∃ u, news[k * 1 + i]? = some u ∧ VR Z w j0 y u := by
  have hl : (bytesV bs.data.toList).length = bs.size := by simp [bytesV]
  refine ⟨bs.data.toList.map fun b => Value.int .u8 b.toNat, ⟨.inl ht, fun w2 => by simp [Builtin.lenOf, hl], by rw [hl]; simp, fun n w2 hn _ => ?_, fun u hu => ?_⟩, fun k x i y hk hy => ?_⟩
  · simp only [Builtin.firstCells, Sem.run_pure, Nat.mul_one]
    congr 1
    apply Array.ext'
    simp
  · obtain ⟨x, _, rfl⟩ := List.mem_map.1 hu
    rfl
  · obtain ⟨b, hb, rfl⟩ := bytesV_get hk
    cases i with
    | succ i => simp [V.cells] at hy
    | zero =>
      simp [V.cells] at hy
      subst hy
      refine ⟨rfl, _, ?_, .int⟩
      rw [Nat.mul_one, Nat.add_zero, List.getElem?_map, hb]
      rfl
theorem append_main {t tx ty e : TypeId} {u ux : Value} {els xs : List V} {news : List Value} {fz : Nat} {mem1 : List O} {B : Option Addr} {n cap : Nat} (ht : P.underlying t = some (.slice e)) (s1 : SR P Z w j mem1) (st1 : Stp Z w j mem Z w j mem1)
    (hu : u = .slice B n cap) (hr : RowAt P Z w ⟨u, P.cellsOf e⟩ e els fz) (hroom : roomy P e (els.length + xs.length) = true) (hxs : ∀ y ∈ xs, y.cells.length = P.cellsOf e)
    (ha : ArgC P w tx ux (P.cellsOf e) xs.length news) (hnr : ∀ (k : Nat) (x : V) (i : Nat) (y : V), xs[k]? = some x → x.cells[i]? = some y → y.one = true ∧ ∃ u, news[k * P.cellsOf e + i]? = some u ∧ VR Z w j0 y u)
    (hblk : ∀ g, Han.blk ⟨u, P.cellsOf e⟩ = some g → ¬ Owned Z j mem1 g ∧ Owned Z j mem g) :
    ∃ A' n' c' w1, (Builtin.append_ #[t, tx] ty #[u, ux]).run P w = .ok (.slice A' n' c') w1 ∧ PostRow P Z w j mem mem1.length (newRow mem1 e (els ++ xs) fz).2 (.slice A' n' c') w1 ∧ ((∀ a, B = some a → a.off = 0) → ∀ a, A' = some a → a.off = 0) := by
  obtain ⟨hn, hby, hpos, i, z, hi, his, hib, hz, hzs⟩ := roomy_spec hroom
  obtain ⟨h1, h2, h3, h4, h5⟩ := hr
  simp only at h2 h4 h5
  have hnc : n = els.length ∧ n ≤ cap := by
    rcases h5 with ⟨hv, he⟩ | ⟨g, b, c', us, hv, hlc, _⟩
    · rw [hu] at hv; cases hv; subst he; exact ⟨rfl, Nat.le_refl _⟩
    · rw [hu] at hv; cases hv; exact ⟨rfl, hlc⟩
  have hnl := ha.size
  have ha' := ha
  rw [← his] at ha'
  by_cases hx0 : xs = []
  · subst hx0
    have : news = [] := by simpa using hnl
    subst this
    refine ⟨B, n, cap, w, ?_, ?_, fun h => h⟩
    · rw [hu]; exact run_append_no ht hpos ha hnc.2
    · rw [List.append_nil, ← hu]
      exact row_again' s1 st1 ⟨rfl, h2, h3, h4, h5⟩ hblk
  · have hxl : 0 < xs.length := List.length_pos_iff.2 hx0
    have hbytes : (els.length + xs.length) * i.bytes ≤ 140737488355328 := by
      rw [hib]
      exact Nat.le_trans (Nat.mul_le_mul hn hby) (by decide)
    have fresh : ∀ (cells : Array Value) (cp : Nat) (olds : List Value), cells = (olds.toArray ++ news.toArray ++ Builtin.zeroCells z.cells (cp - (els.length + xs.length))) → olds.length = els.length * P.cellsOf e → els.length + xs.length ≤ cp → cp ≤ maxLen →
        (∀ (k : Nat) (x : V) (i : Nat) (y : V), els[k]? = some x → x.cells[i]? = some y → y.one = true ∧ ∃ u, olds[k * P.cellsOf e + i]? = some u ∧ VR Z w j0 y u) →
        PostRow P Z w j mem mem1.length (newRow mem1 e (els ++ xs) fz).2 (.slice (some ⟨w.heap.size, 0, none⟩) (els.length + xs.length) cp) (w.drew.alloc (.cells cells e)) := by
      intro cells cp olds hcells hol hcp hcm hold
      have hall : ∀ x ∈ els ++ xs, x.cells.length = P.cellsOf e := fun x hx => (List.mem_append.1 hx).elim (h4 x) (hxs x)
      have hp := row_sound' (fz := fz) (els := els ++ xs) (us := cells) (c := cp) (w1 := w.drew.alloc (.cells cells e)) s1 rfl rfl rfl rfl hpos hall (by simp; omega) (by simpa using hcp) hcm
        (by rw [hcells]; simp only [Array.size_append, List.size_toArray, size_zeroCells, hol, hnl, hzs, ← Nat.add_mul]; congr 1; omega)
        (fun k x i y hk hy => by
          have hi : i < P.cellsOf e := by rw [← hall x (List.mem_of_getElem? hk)]; exact (List.getElem?_eq_some_iff.1 hy).1
          by_cases hk' : k < els.length
          · rw [List.getElem?_append_left hk'] at hk
            obtain ⟨a, u', hu', hv⟩ := hold k x i y hk hy
            refine ⟨a, u', ?_, hv⟩
            have hlt := (List.getElem?_eq_some_iff.1 hu').1
            rw [hcells, Array.append_assoc, Array.getElem?_append_left (by simpa using hlt)]
            simpa using hu'
          · rw [List.getElem?_append_right (by omega)] at hk
            obtain ⟨a, u', hu', hv⟩ := hnr _ x i y hk hy
            refine ⟨a, u', ?_, hv⟩
            have hlt := (List.getElem?_eq_some_iff.1 hu').1
            have e1 : k * P.cellsOf e + i - olds.length = (k - els.length) * P.cellsOf e + i := by
              rw [hol, Nat.sub_mul]
              have : els.length * P.cellsOf e ≤ k * P.cellsOf e := Nat.mul_le_mul_right _ (by omega)
              omega
            have hle : olds.length ≤ k * P.cellsOf e + i := by
              rw [hol]
              have : els.length * P.cellsOf e ≤ k * P.cellsOf e := Nat.mul_le_mul_right _ (by omega)
              omega
            rw [hcells, Array.append_assoc, Array.getElem?_append_right (by simpa using hle)]
            simp only [List.size_toArray, e1]
            rw [Array.getElem?_append_left (by simpa using hlt)]
            simpa using hu')
      rw [List.length_append] at hp
      exact hp.stp st1
    rcases h5 with ⟨hv, he⟩ | ⟨g, b, c', us, hv, hlc, hcm, hg, hus, hcells, hz1, hz2⟩
    · subst he
      rw [hu] at hv; cases hv
      have hn' : xs.length ≤ 16777216 := by simpa using hn
      have hrun := run_append_grow0 (ty := ty) w ht hi hz ha' (B := none) (sLen := 0) (sCap := 0) (olds := []) (run_firstCells_none w.drew i.size 0 0 0) (by omega) (by omega) (growslice_fits (by omega) (by simpa using hbytes))
      refine ⟨_, _, _, _, by rw [hu]; exact hrun, ?_, fun _ a ha => by cases ha; rfl⟩
      exact fresh _ (grownCap w (0 + xs.length) 0 e) [] (by simp) (by simp) (by simpa using grownCap_ge w (0 + xs.length) 0 e) (grownCap_le_maxLen w _ 0 e (by simp only [maxLen]; omega)) (fun k x i y hk => by simp at hk)
    · rw [hu] at hv; cases hv
      have hcut : ∀ k x, els[k]? = some x → CellsAt Z w j0 g (b + k * P.cellsOf e) x.cells := hcells
      by_cases hfit : els.length + xs.length ≤ cap
      · have hul : b + els.length * P.cellsOf e + news.length ≤ us.size := by
          have : (els.length + xs.length) * P.cellsOf e ≤ cap * P.cellsOf e := Nat.mul_le_mul_right _ hfit
          rw [Nat.add_mul] at this; rw [hnl]; omega
        have hrun := run_append_roomB (ty := ty) w ht hi g b els.length cap us hg ha' hfit (by rw [his]; exact hul)
        rw [his] at hrun
        refine ⟨_, _, _, _, by rw [hu]; exact hrun, ?_, fun h a ha => h a ha⟩
        have hblk' := hblk g (by simp [Han.blk, hu])
        have hlt : g < w.heap.size := (Array.getElem?_eq_some_iff.1 hg).1
        obtain ⟨cells, hcdef⟩ : ∃ cells : Array Value, cells = (us.toList.take (b + els.length * P.cellsOf e) ++ news ++ us.toList.drop (b + els.length * P.cellsOf e + news.length)).toArray := ⟨_, rfl⟩
        rw [← hcdef]
        have hg' := setRow_heap w g us cells e (0, 0) hg
        have hot : ∀ k, k ≠ g → (w.setRow g cells).heap[k]? = w.heap[k]? := fun k hk => setRow_other w g k cells hk
        have hfrom : ∀ o, o < b + els.length * P.cellsOf e → cells[o]? = us[o]? := by
          intro o ho
          rw [hcdef]
          simp only [List.getElem?_toArray, List.append_assoc]
          rw [List.getElem?_append_left (by simp; omega), List.getElem?_take, if_pos ho]
          simp
        have hz' : ZExt Z w Z (w.setRow g cells) := by
          refine .of fun g' o ho => ?_
          refine ⟨ho, ?_⟩
          by_cases hgg : g' = g
          · subst hgg
            have h7 := (hz1 o ho).2
            have h8 : fz * P.cellsOf e ≤ els.length * P.cellsOf e := Nat.mul_le_mul_right _ h3
            refine ⟨by rw [cell_heap hg', cell_heap hg, hfrom o (by omega)], ?_⟩
            simp only [kindOf, hg', hg]
            rw [show cells.size = us.size by rw [hcdef]; simp; omega]
          · exact same_block (hot g' hgg) o
        have s2 : SR P Z (w.setRow g cells) j mem1 := s1.world hz' (fun g' hg' => ⟨hot g' (fun e => hblk'.1 (e ▸ hg')), fun _ => Iff.rfl⟩) (fun g' o ho => by simpa using s1.zin g' o ho)
        have hall : ∀ x ∈ els ++ xs, x.cells.length = P.cellsOf e := fun x hx => (List.mem_append.1 hx).elim (h4 x) (hxs x)
        have s3 := s2.add (h := ⟨.slice (some ⟨g, b, none⟩) (els.length + xs.length) cap, P.cellsOf e⟩) (o := .row e (els ++ xs) fz) (fun g' hg' => by
            simp [Han.blk] at hg'; subst hg'; exact hblk'.1)
          ⟨_, upd_same _ _ _, rfl, hpos, by simp; omega, hall, .inr ⟨g, b, cap, cells, by simp, by simpa using hfit, hcm, hg', by
              rw [hcdef]
              simp only [List.size_toArray, List.length_append, List.length_take, List.length_drop, Array.length_toList]
              omega, fun k x hk i y hy => by
              have hi : i < P.cellsOf e := by rw [← hall x (List.mem_of_getElem? hk)]; exact (List.getElem?_eq_some_iff.1 hy).1
              by_cases hk' : k < els.length
              · rw [List.getElem?_append_left hk'] at hk
                obtain ⟨a, u', hu', hv⟩ := hcut k x hk i y hy
                refine ⟨a, u', ?_, hv.mono hz' (JExt.refl _)⟩
                rw [cell_heap hg] at hu'
                rw [cell_heap hg', hfrom _ ?_]
                · exact hu'
                · have h9 : (k + 1) * P.cellsOf e ≤ els.length * P.cellsOf e := Nat.mul_le_mul_right _ hk'
                  rw [Nat.succ_mul] at h9
                  show b + k * P.cellsOf e + i < b + els.length * P.cellsOf e
                  have hi' : i < P.cellsOf e := hi
                  omega
              · rw [List.getElem?_append_right (by omega)] at hk
                obtain ⟨a, u', hu', hv⟩ := hnr _ x i y hk hy
                refine ⟨a, u', ?_, hv.mono hz' (JExt.refl _)⟩
                rw [cell_heap hg', hcdef]
                have hle2 : els.length * P.cellsOf e ≤ k * P.cellsOf e := Nat.mul_le_mul_right _ (by omega)
                have hsub : (k - els.length) * P.cellsOf e = k * P.cellsOf e - els.length * P.cellsOf e := Nat.sub_mul _ _ _
                have hlt' := (List.getElem?_eq_some_iff.1 hu').1
                have hto : (us.toList.take (b + els.length * P.cellsOf e)).length = b + els.length * P.cellsOf e := by simp; omega
                simp only [List.getElem?_toArray, List.append_assoc]
                rw [List.getElem?_append_right (by omega), hto, List.getElem?_append_left (by omega)]
                rw [← hu']
                congr 1
                omega, fun o ho => by simpa using hz1 o ho, fun o ho => by simpa using hz2 o ho⟩⟩
        refine ⟨Z, _, _, upd_same _ _ _, s3, ⟨rfl, rfl, rfl, by simp, fun g' hg' hno => ⟨hot g' (fun e => hno (e ▸ hblk'.2)), fun _ => Iff.rfl⟩, fun g' hg' ho => ?_, hz', fun _ h => ⟨(st1.ar _ h).1.add rfl, rfl⟩⟩, s1.ext _⟩
        rcases Owned.add ho with ho | ho
        · exact st1.owned g' hg' ho
        · simp [Han.blk] at ho; subst ho; exact hblk'.2
      · obtain ⟨olds, hol, hoc, hor⟩ := flat_cells hpos h4 hcut
        have hrun := run_append_grow0 (ty := ty) w ht hi hz ha' (run_firstCells_some (P := P) w.drew i.size els.length ⟨g, b, none⟩ els.length cap olds (by rw [his]; exact hol) (fun k u hk => by simpa using (hoc k u hk).1)) (by omega) (by omega) (growslice_fits (by omega) hbytes)
        refine ⟨_, _, _, _, by rw [hu]; exact hrun, ?_, fun _ a ha => by cases ha; rfl⟩
        exact fresh _ (grownCap w (els.length + xs.length) cap e) olds rfl hol (grownCap_ge w _ cap e) (grownCap_le_maxLen w _ cap e (by simp only [maxLen]; omega)) hor
end
end Go.Lite