/-
  The interpreter's memory, changed: what the relation asks, and what it keeps.
-/
import Derived.Test.YtnaidbmgibmnbaaLite2
namespace Go.Lite
open Go
set_option linter.unusedVariables false

section
variable {P : Program} {Z Z' : Zs} {w w' : World} {j j' : J} {mem : List O}

def upd (j : J) (i : Nat) (h : Han) : J := fun id => if id = i then some h else j id
theorem upd_same (j : J) (i : Nat) (h : Han) : upd j i h i = some h := by simp [upd]
theorem upd_ne (j : J) {i k : Nat} (h : Han) (hne : k ≠ i) : upd j i h k = j k := by simp [upd, hne]
theorem SR.ext (s : SR P Z w j mem) (h : Han) : JExt j (upd j mem.length h) := by
  intro id x hx
  by_cases e : id = mem.length
  · rw [e, s.out _ (Nat.le_refl _)] at hx; cases hx
  · rw [upd_ne j h e]; exact hx

theorem SR.world (s : SR P Z w j mem) (hz : ZExt Z w Z' w') (hb : ∀ g, Owned j mem g → w'.heap[g]? = w.heap[g]? ∧ ∀ o, Z' g o ↔ Z g o)
    (hin : ∀ g o, Z' g o → g < w'.heap.size) : SR P Z' w' j mem where
  obj := fun id o ho => by
    by_cases hl : o.live = true
    · exact (s.obj id o ho).mono hz (JExt.refl _) fun g hg => hb g ⟨id, o, ho, hl, hg⟩
    · cases o <;> first | exact True.intro | (simp [O.live] at hl)
  inj := s.inj
  out := s.out
  zin := hin

theorem SR.add (s : SR P Z w j mem) {h : Han} {o : O} (hn : ∀ g, h.blk = some g → ¬ Owned j mem g) (ho : OR P Z w (upd j mem.length h) mem.length o) :
    SR P Z w (upd j mem.length h) (mem ++ [o]) where
  obj := fun id x hx => by
    by_cases e : id < mem.length
    · rw [List.getElem?_append_left e] at hx
      exact (s.obj id x hx).mono (ZExt.refl _ _) (s.ext h) fun _ _ => ⟨rfl, fun _ => Iff.rfl⟩
    · rw [List.getElem?_append_right (by omega)] at hx
      have e0 : id - mem.length = 0 := by
        rcases Nat.eq_zero_or_pos (id - mem.length) with e0 | e0
        · exact e0
        · rw [List.getElem?_eq_none (by simp; omega)] at hx; cases hx
      rw [e0] at hx
      simp at hx
      subst hx
      rw [show id = mem.length by omega]
      exact ho
  inj := fun id id' x x' g hx hx' hl hl' hg hg' => by
    have side : ∀ id x, (mem ++ [o])[id]? = some x → id < mem.length ∧ mem[id]? = some x ∨ id = mem.length := by
      intro id x hx
      by_cases e : id < mem.length
      · rw [List.getElem?_append_left e] at hx; exact .inl ⟨e, hx⟩
      · right
        have := (List.getElem?_eq_some_iff.1 hx).1
        simp at this
        omega
    have old : ∀ id x, id < mem.length → mem[id]? = some x → x.live = true → blkOf (upd j mem.length h) id = some g → Owned j mem g := by
      intro id x e hx hl hg
      refine ⟨id, x, hx, hl, ?_⟩
      unfold blkOf at hg ⊢
      rwa [upd_ne j h (by omega)] at hg
    have new : ∀ id, id = mem.length → blkOf (upd j mem.length h) id = some g → h.blk = some g := by
      intro id e hg
      unfold blkOf at hg
      rw [e, upd_same] at hg
      exact hg
    rcases side id x hx with ⟨e, hx⟩ | e <;> rcases side id' x' hx' with ⟨e', hx'⟩ | e'
    · refine s.inj id id' x x' g hx hx' hl hl' ?_ ?_
      · unfold blkOf at hg ⊢; rwa [upd_ne j h (by omega)] at hg
      · unfold blkOf at hg' ⊢; rwa [upd_ne j h (by omega)] at hg'
    · exact (hn g (new id' e' hg') (old id x e hx hl hg)).elim
    · exact (hn g (new id e hg) (old id' x' e' hx' hl' hg')).elim
    · omega
  out := fun id hid => by
    simp at hid
    rw [upd_ne j h (by omega)]
    exact s.out id (by omega)
  zin := s.zin

theorem SR.set (s : SR P Z w j mem) {id : Nat} {o o' : O} (hm : mem[id]? = some o) (hl : o'.live = true → o.live = true) (hz : ZExt Z w Z' w')
    (hb : ∀ g, blkOf j id ≠ some g → w'.heap[g]? = w.heap[g]? ∧ ∀ o, Z' g o ↔ Z g o) (hin : ∀ g o, Z' g o → g < w'.heap.size)
    (hd : o.live = false → ∀ g, w'.heap[g]? = w.heap[g]? ∧ ∀ o, Z' g o ↔ Z g o)
    (ho : OR P Z' w' j id o') : SR P Z' w' j (mem.set id o') where
  obj := fun k x hx => by
    have hlt : id < mem.length := (List.getElem?_eq_some_iff.1 hm).1
    by_cases e : id = k
    · subst e
      rw [List.getElem?_set_self hlt] at hx
      cases hx
      exact ho
    · rw [List.getElem?_set_ne e] at hx
      by_cases hlx : x.live = true
      · refine (s.obj k x hx).mono hz (JExt.refl _) fun g hg => ?_
        by_cases hlo : o.live = true
        · exact hb g fun hg' => e (s.inj id k o x g hm hx hlo hlx hg' hg)
        · exact hd (by simpa using hlo) g
      · cases x <;> first | exact True.intro | (simp [O.live] at hlx)
  inj := fun a b x y g hx hy hlx hly hg hg' => by
    have hlt : id < mem.length := (List.getElem?_eq_some_iff.1 hm).1
    have side : ∀ (k : Nat) (x : O), (mem.set id o')[k]? = some x → x.live = true → ∃ x' : O, mem[k]? = some x' ∧ x'.live = true := by
      intro k x hx hlx
      by_cases e : id = k
      · subst e
        rw [List.getElem?_set_self hlt] at hx
        cases hx
        exact ⟨o, hm, hl hlx⟩
      · rw [List.getElem?_set_ne e] at hx; exact ⟨x, hx, hlx⟩
    obtain ⟨x', hx', hlx'⟩ := side a x hx hlx
    obtain ⟨y', hy', hly'⟩ := side b y hy hly
    exact s.inj a b x' y' g hx' hy' hlx' hly' hg hg'
  out := fun k hk => s.out k (by simpa using hk)
  zin := hin

/-- an object that nobody asks for any more -/
theorem SR.kill (s : SR P Z w j mem) {id : Nat} {o : O} (hm : mem[id]? = some o) : SR P Z w j (mem.set id .dead) :=
  s.set hm (by intro h; cases h) (ZExt.refl _ _) (fun _ _ => ⟨rfl, fun _ => Iff.rfl⟩) s.zin (fun _ _ => ⟨rfl, fun _ => Iff.rfl⟩) True.intro

theorem Owned.set {id : Nat} {o o' : O} {g : Nat} (hm : mem[id]? = some o) (hl : o'.live = true → o.live = true) (h : Owned j (mem.set id o') g) : Owned j mem g := by
  obtain ⟨k, x, hx, hlx, hg⟩ := h
  have hlt : id < mem.length := (List.getElem?_eq_some_iff.1 hm).1
  by_cases e : id = k
  · subst e
    rw [List.getElem?_set_self hlt] at hx
    cases hx
    exact ⟨id, o, hm, hl hlx, hg⟩
  · rw [List.getElem?_set_ne e] at hx
    exact ⟨k, x, hx, hlx, hg⟩

theorem Owned.add {h : Han} {o : O} {g : Nat} (hg : Owned (upd j mem.length h) (mem ++ [o]) g) : Owned j mem g ∨ h.blk = some g := by
  obtain ⟨k, x, hx, hlx, hb⟩ := hg
  by_cases e : k < mem.length
  · rw [List.getElem?_append_left e] at hx
    refine .inl ⟨k, x, hx, hlx, ?_⟩
    unfold blkOf at hb ⊢
    rwa [upd_ne j h (by omega)] at hb
  · right
    have := (List.getElem?_eq_some_iff.1 hx).1
    simp at this
    have e : k = mem.length := by omega
    unfold blkOf at hb
    rw [e, upd_same] at hb
    exact hb

/-! ### one more object, in one more block -/

/-- the cells of the new block that never change: the first n -/
def Zmore (Z : Zs) (g n : Nat) : Zs := fun b o => Z b o ∨ (b = g ∧ o < n)

theorem ZExt.heap {w1 : World} {ob : Obj} (hh : w1.heap = w.heap.push ob) (hin : ∀ g o, Z g o → g < w.heap.size) (n : Nat) : ZExt Z w (Zmore Z w.heap.size n) w1 := by
  intro g o h
  refine ⟨.inl h, same_block ?_ o⟩
  rw [hh, Array.getElem?_push_lt (hin g o h), Array.getElem?_eq_getElem (hin g o h)]

theorem heap_push_old {w1 : World} {ob : Obj} (hh : w1.heap = w.heap.push ob) {g : Nat} (hg : g < w.heap.size) : w1.heap[g]? = w.heap[g]? := by
  rw [hh, Array.getElem?_push_lt hg, Array.getElem?_eq_getElem hg]

theorem Owned.lt (s : SR P Z w j mem) {g : Nat} (h : Owned j mem g) : g < w.heap.size := by
  obtain ⟨id, o, ho, hl, hg⟩ := h
  have hO := s.obj id o ho
  cases o with
  | dead => simp [O.live] at hl
  | row t els fz =>
    obtain ⟨h, hh, hr⟩ := hO
    rcases hr.2.2.2.2 with ⟨hu, _⟩ | ⟨g', b, c, us, hu, _, _, hgg, _⟩
    · cases h; simp at hu; simp [blkOf, hh, Han.blk, hu] at hg
    · cases h; simp at hu; simp [blkOf, hh, Han.blk, hu] at hg
      subst hg
      exact (Array.getElem?_eq_some_iff.1 hgg).1
  | box t v fz =>
    obtain ⟨g', us, h1, h2, _⟩ := hO
    simp [blkOf, h1, Han.blk] at hg
    subst hg
    exact (Array.getElem?_eq_some_iff.1 h2).1
  | map es =>
    obtain ⟨r, es', clock, h1, h2, _⟩ := hO
    simp [blkOf, h1, Han.blk] at hg
    subst hg
    exact (Array.getElem?_eq_some_iff.1 h2).1

theorem SR.push (s : SR P Z w j mem) {w1 : World} {ob : Obj} (hh : w1.heap = w.heap.push ob) (hos : w1.os = w.os) (htape : w1.tape = w.tape) (hout : w1.output = w.output)
    (n : Nat) {h : Han} (hb : ∀ g, h.blk = some g → g = w.heap.size) {o : O} (ho : OR P (Zmore Z w.heap.size n) w1 (upd j mem.length h) mem.length o) :
    SR P (Zmore Z w.heap.size n) w1 (upd j mem.length h) (mem ++ [o]) ∧ Stp Z w j mem (Zmore Z w.heap.size n) w1 (upd j mem.length h) (mem ++ [o]) ∧ JExt j (upd j mem.length h) := by
  have hz := ZExt.heap (Z := Z) hh s.zin n
  have iff : ∀ g, g < w.heap.size → ∀ o, Zmore Z w.heap.size n g o ↔ Z g o := fun g hg o => ⟨fun h => h.resolve_right fun h => by omega, .inl⟩
  have hsz : w1.heap.size = w.heap.size + 1 := by rw [hh]; simp
  have s1 : SR P (Zmore Z w.heap.size n) w1 j mem := s.world hz (fun g hg => ⟨heap_push_old hh (Owned.lt s hg), iff g (Owned.lt s hg)⟩) (fun g o h => by
    rcases h with h | h
    · have := s.zin g o h; omega
    · omega)
  refine ⟨s1.add (fun g hg ho => ?_) ho, ⟨hos, htape, hout, by omega, fun g hg _ => ⟨heap_push_old hh hg, iff g hg⟩, fun g hg ho => ?_, hz⟩, s.ext h⟩
  · have := hb g hg
    have := Owned.lt s ho
    omega
  · rcases Owned.add ho with ho | ho
    · exact ho
    · have := hb g ho; omega

/-- an object with no block -/
theorem SR.pushV (s : SR P Z w j mem) {h : Han} (hb : h.blk = none) {o : O} (ho : OR P Z w (upd j mem.length h) mem.length o) :
    SR P Z w (upd j mem.length h) (mem ++ [o]) ∧ Stp Z w j mem Z w (upd j mem.length h) (mem ++ [o]) ∧ JExt j (upd j mem.length h) := by
  refine ⟨s.add (fun _ hg => by rw [hb] at hg; cases hg) ho, ⟨rfl, rfl, rfl, Nat.le_refl _, fun _ _ _ => ⟨rfl, fun _ => Iff.rfl⟩, fun _ _ ho => ?_, ZExt.refl _ _⟩, s.ext h⟩
  rcases Owned.add ho with ho | ho
  · exact ho
  · rw [hb] at ho; cases ho

/-- an object changed in its block -/
theorem Stp.set {id : Nat} {o o' : O} (hm : mem[id]? = some o) (hl : o'.live = true → o.live = true) (hlo : o.live = true) (hz : ZExt Z w Z' w')
    (hb : ∀ g, blkOf j id ≠ some g → w'.heap[g]? = w.heap[g]? ∧ ∀ o, Z' g o ↔ Z g o)
    (hos : w'.os = w.os) (htape : w'.tape = w.tape) (hout : w'.output = w.output) (hsz : w.heap.size ≤ w'.heap.size) : Stp Z w j mem Z' w' j (mem.set id o') :=
  ⟨hos, htape, hout, hsz, fun g _ hn => hb g fun hg => hn ⟨id, o, hm, hlo, hg⟩, fun g _ ho => ho.set hm hl, hz⟩

/-! ### reading -/

theorem look_sound (s : SR P Z w j mem) {p x : V} {off : Nat} {u : Value} (h : look mem p = some (x, off)) (hv : VR Z w j p u) :
    ∃ g b, u = .pointer (some ⟨g, b + off, none⟩) ∧ CellsAt Z w j g b x.cells := by
  cases p with
  | ref y o =>
    simp [look] at h
    obtain ⟨rfl, rfl⟩ := h
    obtain ⟨g, b, hu, _, hc⟩ := hv.refInv
    exact ⟨g, b, hu, hc.mono (ZExt.refl _ _) (JExt.zero _) rfl⟩
  | ptr id k o =>
    cases hv with
    | ptr hj hs =>
      rename_i g b hn
      simp only [look] at h
      cases hm : mem[id]? with
      | none => simp [hm] at h
      | some ob =>
        have hO := s.obj id ob hm
        cases ob with
        | dead => simp [hm] at h
        | map es => simp [hm] at h
        | row t els fz =>
          simp only [hm] at h
          obtain ⟨hn', hh, hr⟩ := hO
          rw [hj] at hh
          cases hh
          cases hk : els[k]? with
          | none => simp [hk] at h
          | some y =>
            simp [hk] at h
            obtain ⟨rfl, rfl⟩ := h
            rcases hr.2.2.2.2 with ⟨_, he⟩ | ⟨g', b', c, us, hu, _, _, _, _, hcells, _⟩
            · subst he; simp at hk
            · have e : (g', b') = (g, b) := by
                cases hn; simp at hu; subst hu; simpa [Han.start] using hs
              cases e
              exact ⟨g, b + k * hn.sz, by rw [Nat.add_assoc], (hcells k y hk).mono (ZExt.refl _ _) (JExt.zero _) rfl⟩
        | box t v fz =>
          simp only [hm] at h
          by_cases hk : k = 0
          · simp [hk] at h
            obtain ⟨rfl, rfl⟩ := h
            obtain ⟨g', us, h1, h2, h3, h4, h5, _⟩ := hO
            rw [hj] at h1
            cases h1
            simp [Han.start] at hs
            obtain ⟨rfl, rfl⟩ := hs
            subst hk
            exact ⟨g', 0, by simp, h5⟩
          · simp [hk] at h
  | _ => simp [look] at h

theorem info_of_underlying {t : TypeId} {d : TypeDesc} (h : P.underlying t = some d) : ∃ i, P.info? t = some i ∧ P.cellsOf t = i.size ∧ P.bytesOf t = i.bytes := by
  unfold Program.underlying at h
  cases hi : P.info? t with
  | none => simp [hi] at h
  | some i => exact ⟨i, rfl, by simp [Program.cellsOf, hi], by simp [Program.bytesOf, hi]⟩

theorem CellsAt.drop {g b : Nat} {cs : List V} (h : CellsAt Z w j g b cs) (off n : Nat) : CellsAt Z w j g (b + off) ((cs.drop off).take n) := by
  intro i y hy
  rw [List.getElem?_take] at hy
  split at hy
  · rw [List.getElem?_drop] at hy
    obtain ⟨a, u, hu, hv⟩ := h (off + i) y hy
    exact ⟨a, u, by rw [Nat.add_assoc]; exact hu, hv⟩
  · cases hy

/-- so many cells, read -/
theorem run_cells {g b : Nat} {cs : List V} (h : CellsAt Z w j g b cs) :
    ∃ us : List Value, us.length = cs.length ∧ (loadCells ⟨g, b, none⟩ cs.length).run P w = .ok us.toArray w ∧ (∀ (i : Nat) (c : V) (u : Value), cs[i]? = some c → us[i]? = some u → VR Z w j c u) ∧
      ∀ (i : Nat) (u : Value), us[i]? = some u → w.cell? ⟨g, b + i, none⟩ = some u ∧ u.oneCell' = true := by
  have add : ∀ i, (⟨g, b, none⟩ : Addr).add i = ⟨g, b + i, none⟩ := by intro i; unfold Addr.add; split <;> simp_all
  refine ⟨(List.range cs.length).map fun i => (w.cell? ⟨g, b + i, none⟩).getD undef, by simp, run_loadCells w _ _ _ (fun i hi => ?_), fun i c u hc hu => ?_, fun i u hu => ?_⟩
  · obtain ⟨_, u, hu, _⟩ := h i _ (List.getElem?_eq_getElem hi)
    rw [add, hu]; rfl
  · obtain ⟨_, u', hu', hv⟩ := h i c hc
    have hi : i < cs.length := (List.getElem?_eq_some_iff.1 hc).1
    simp [hi, hu'] at hu
    subst hu
    exact hv
  · have hi : i < cs.length := by have := (List.getElem?_eq_some_iff.1 hu).1; simpa using this
    obtain ⟨ho, u', hu', hv⟩ := h i _ (List.getElem?_eq_getElem hi)
    simp [hi, hu'] at hu
    subst hu
    exact ⟨hu', hv.oneCell ho⟩

theorem mkV_sound {t : TypeId} {g b : Nat} {cs : List V} {v : V} (hl : cs.length = P.cellsOf t) (h : mkV P t cs = some v) (hc : CellsAt Z w j g b cs) :
    ∃ u, (loadVar t ⟨g, b, none⟩).run P w = .ok u w ∧ VR Z w j v u := by
  unfold mkV at h
  cases hu : P.underlying t with
  | none => simp [hu] at h
  | some d =>
    obtain ⟨i, hi, hsz, _⟩ := info_of_underlying hu
    have agg : (d matches .struct _ | .array _ _) = true → v = .agg cs → ∃ u, (loadVar t ⟨g, b, none⟩).run P w = .ok u w ∧ VR Z w j v u := by
      intro hd hv
      subst hv
      obtain ⟨us, hul, hrun, hvr, _⟩ := run_cells (P := P) hc
      refine ⟨.agg us.toArray, ?_, .agg hul.symm hvr⟩
      rw [hl, hsz] at hrun
      cases d <;> first | (simp at hd; done) | simp [loadVar, isAgg, run_underlying hu, sizeOf, typeInfo, hi, hrun]
    have one : (d matches .struct _ | .array _ _) = false → single cs = some v → ∃ u, (loadVar t ⟨g, b, none⟩).run P w = .ok u w ∧ VR Z w j v u := by
      intro hd hv
      unfold single at hv
      split at hv
      · cases hv
        obtain ⟨_, u, hu', hvr⟩ := hc 0 _ rfl
        refine ⟨u, ?_, hvr⟩
        simp only [Nat.add_zero] at hu'
        cases d <;> first | (simp at hd; done) | simp [loadVar, isAgg, run_underlying hu, hu']
      · cases hv
    cases d <;> simp only [hu] at h <;> first | (cases h; exact agg rfl rfl) | exact one rfl h

theorem load_sound (s : SR P Z w j mem) {t : TypeId} {p v : V} {u : Value} (h : loadM P mem t p = some v) (hv : VR Z w j p u) :
    ∃ u', (Instr.loadAt t u).run P w = .ok u' w ∧ VR Z w j v u' := by
  unfold loadM at h
  cases hl : look mem p with
  | none => simp [hl] at h
  | some r =>
    obtain ⟨x, off⟩ := r
    simp only [hl, Option.bind_some] at h
    split at h
    · rename_i hlen
      obtain ⟨g, b, hu, hc⟩ := look_sound s hl hv
      subst hu
      obtain ⟨u', h1, h2⟩ := mkV_sound (P := P) hlen h (hc.drop off _)
      exact ⟨u', by simpa [Instr.loadAt, Instr.sureAddr] using h1, h2⟩
    · cases h
end

end Go.Lite
