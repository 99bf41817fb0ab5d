/-
  The interpreter's memory, changed: what the relation asks, and what it keeps.
-/
import Derived.Test.YtknapnnpmfhogaaLite2
namespace Go.Lite
open Go
set_option linter.unusedVariables false
section
variable {P : Program} {Z Z' : Zs} {w w' : World} {j j' : J} {mem : List O}
def upd (j : J) (i : Nat) (h : Han) : J := fun id => if id = i then some h else j id
theorem upd_same (j : J) (i : Nat) (h : Han) : upd j i h i = some h := by simp [upd]
theorem upd_ne (j : J) {i k : Nat} (h : Han) (hne : k ≠ i) : upd j i h k = j k := by simp [upd, hne]
theorem SR.ext (s : SR P Z w j mem) (h : Han) : JExt j (upd j mem.length h) := by
  intro id x hx
  by_cases e : id = mem.length
  · rw [e, s.out _ (Nat.le_refl _)] at hx; cases hx
  · rw [upd_ne j h e]; exact hx
theorem Blk.eqA {id g : Nat} {o : O} (ha : Z'.a = Z.a) : Blk Z' j id o g ↔ Blk Z j id o g := by unfold Blk; rw [ha]
theorem Blk.plain {id g : Nat} {o : O} (ho : o.ar = none) : Blk Z j id o g ↔ blkOf j id = some g := by unfold Blk; rw [ho]
theorem Blk.jeq {id g : Nat} {o : O} (h : j' id = j id) : Blk Z j' id o g ↔ Blk Z j id o g := by
  unfold Blk blkOf; rw [h]
theorem Owned.eqA {g : Nat} (ha : Z'.a = Z.a) : Owned Z' j mem g ↔ Owned Z j mem g :=
  ⟨fun ⟨id, o, h1, h2, h3⟩ => ⟨id, o, h1, h2, (Blk.eqA ha).1 h3⟩, fun ⟨id, o, h1, h2, h3⟩ => ⟨id, o, h1, h2, (Blk.eqA ha).2 h3⟩⟩
theorem SR.world (s : SR P Z w j mem) (hz : ZExt Z w Z' w') (hb : ∀ g, Owned Z j mem g → w'.heap[g]? = w.heap[g]? ∧ ∀ o, Z' g o ↔ Z g o)
    (hin : ∀ g o, Z' g o → g < w'.heap.size) (ha : Z'.a = Z.a := by rfl) : SR P Z' w' j mem where
  obj := fun id o ho => by
    by_cases hl : o.live = true
    · exact (s.obj id o ho).mono hz (JExt.refl _) (fun g hg => hb g ⟨id, o, ho, hl, hg⟩) (fun t n _ => by rw [ha])
    · cases o <;> first | exact True.intro | (simp [O.live] at hl)
  inj := fun id id' o o' g h1 h2 h3 h4 h5 h6 => s.inj id id' o o' g h1 h2 h3 h4 ((Blk.eqA ha).1 h5) ((Blk.eqA ha).1 h6)
  out := s.out
  zin := hin
theorem SR.add (s : SR P Z w j mem) {h : Han} {o : O} (hn : ∀ g, h.blk = some g → ¬ Owned Z j mem g) (ho : OR P Z w (upd j mem.length h) mem.length o) (har : o.ar = none := by rfl) :
    SR P Z w (upd j mem.length h) (mem ++ [o]) where
  obj := fun id x hx => by
    by_cases e : id < mem.length
    · rw [List.getElem?_append_left e] at hx
      exact (s.obj id x hx).mono (ZExt.refl _ _) (s.ext h) (fun _ _ => ⟨rfl, fun _ => Iff.rfl⟩) (fun _ _ _ => rfl)
    · rw [List.getElem?_append_right (by omega)] at hx
      have e0 : id - mem.length = 0 := by
        rcases Nat.eq_zero_or_pos (id - mem.length) with e0 | e0
        · exact e0
        · rw [List.getElem?_eq_none (by simp; omega)] at hx; cases hx
      rw [e0] at hx
      simp at hx
      subst hx
      rw [show id = mem.length by omega]
      exact ho
  inj := fun id id' x x' g hx hx' hl hl' hg hg' => by
    have side : ∀ id x, (mem ++ [o])[id]? = some x → id < mem.length ∧ mem[id]? = some x ∨ id = mem.length ∧ x = o := by
      intro id x hx
      by_cases e : id < mem.length
      · rw [List.getElem?_append_left e] at hx; exact .inl ⟨e, hx⟩
      · right
        have := (List.getElem?_eq_some_iff.1 hx).1
        simp at this
        have e : id = mem.length := by omega
        rw [e] at hx
        simp at hx
        exact ⟨e, hx.symm⟩
    have up : ∀ id x, id < mem.length → Blk Z (upd j mem.length h) id x g → Blk Z j id x g := fun id x e hg => (Blk.jeq (upd_ne j h (by omega))).1 hg
    have old : ∀ id x, id < mem.length → mem[id]? = some x → x.live = true → Blk Z (upd j mem.length h) id x g → Owned Z j mem g := fun id x e hx hl hg => ⟨id, x, hx, hl, up id x e hg⟩
    have new : ∀ id x, id = mem.length → x = o → Blk Z (upd j mem.length h) id x g → h.blk = some g := by
      intro id x e ex hg
      subst ex
      have hg := (Blk.plain har).1 hg
      unfold blkOf at hg
      rw [e, upd_same] at hg
      exact hg
    rcases side id x hx with ⟨e, hx⟩ | ⟨e, ex⟩ <;> rcases side id' x' hx' with ⟨e', hx'⟩ | ⟨e', ex'⟩
    · exact s.inj id id' x x' g hx hx' hl hl' (up id x e hg) (up id' x' e' hg')
    · exact (hn g (new id' x' e' ex' hg') (old id x e hx hl hg)).elim
    · exact (hn g (new id x e ex hg) (old id' x' e' hx' hl' hg')).elim
    · omega
  out := fun id hid => by
    simp at hid
    rw [upd_ne j h (by omega)]
    exact s.out id (by omega)
  zin := s.zin
theorem SR.set (s : SR P Z w j mem) {id : Nat} {o o' : O} (hm : mem[id]? = some o) (hl : o'.live = true → o.live = true) (hz : ZExt Z w Z' w')
    (hb : ∀ g, blkOf j id ≠ some g → w'.heap[g]? = w.heap[g]? ∧ ∀ o, Z' g o ↔ Z g o) (hin : ∀ g o, Z' g o → g < w'.heap.size)
    (hd : o.live = false → ∀ g, w'.heap[g]? = w.heap[g]? ∧ ∀ o, Z' g o ↔ Z g o)
    (ho : OR P Z' w' j id o') (har : o.ar = none := by rfl) (har' : o'.ar = none := by rfl) (ha : Z'.a = Z.a := by rfl) : SR P Z' w' j (mem.set id o') where
  obj := fun k x hx => by
    have hlt : id < mem.length := (List.getElem?_eq_some_iff.1 hm).1
    by_cases e : id = k
    · subst e
      rw [List.getElem?_set_self hlt] at hx
      cases hx
      exact ho
    · rw [List.getElem?_set_ne e] at hx
      by_cases hlx : x.live = true
      · refine (s.obj k x hx).mono hz (JExt.refl _) (fun g hg => ?_) (fun _ _ _ => by rw [ha])
        by_cases hlo : o.live = true
        · exact hb g fun hg' => e (s.inj id k o x g hm hx hlo hlx ((Blk.plain har).2 hg') hg)
        · exact hd (by simpa using hlo) g
      · cases x <;> first | exact True.intro | (simp [O.live] at hlx)
  inj := fun a b x y g hx hy hlx hly hg hg' => by
    have hlt : id < mem.length := (List.getElem?_eq_some_iff.1 hm).1
    have side : ∀ (k : Nat) (x : O), (mem.set id o')[k]? = some x → x.live = true → Blk Z' j k x g → ∃ x' : O, mem[k]? = some x' ∧ x'.live = true ∧ Blk Z j k x' g := by
      intro k x hx hlx hg
      have hg := (Blk.eqA ha).1 hg
      by_cases e : id = k
      · subst e
        rw [List.getElem?_set_self hlt] at hx
        cases hx
        exact ⟨o, hm, hl hlx, (Blk.plain har).2 ((Blk.plain har').1 hg)⟩
      · rw [List.getElem?_set_ne e] at hx; exact ⟨x, hx, hlx, hg⟩
    obtain ⟨x', hx', hlx', hgx⟩ := side a x hx hlx hg
    obtain ⟨y', hy', hly', hgy⟩ := side b y hy hly hg'
    exact s.inj a b x' y' g hx' hy' hlx' hly' hgx hgy
  out := fun k hk => s.out k (by simpa using hk)
  zin := hin
theorem SR.kill (s : SR P Z w j mem) {id : Nat} {o : O} (hm : mem[id]? = some o) (har : o.ar = none := by rfl) : SR P Z w j (mem.set id .dead) :=
  s.set hm (by intro h; cases h) (ZExt.refl _ _) (fun _ _ => ⟨rfl, fun _ => Iff.rfl⟩) s.zin (fun _ _ => ⟨rfl, fun _ => Iff.rfl⟩) True.intro har
theorem Owned.set {id : Nat} {o o' : O} {g : Nat} (hm : mem[id]? = some o) (hl : o'.live = true → o.live = true) (h : Owned Z j (mem.set id o') g) (har : o.ar = none := by rfl) (har' : o'.ar = none := by rfl) : Owned Z j mem g := by
  obtain ⟨k, x, hx, hlx, hg⟩ := h
  have hlt : id < mem.length := (List.getElem?_eq_some_iff.1 hm).1
  by_cases e : id = k
  · subst e
    rw [List.getElem?_set_self hlt] at hx
    cases hx
    exact ⟨id, o, hm, hl hlx, (Blk.plain har).2 ((Blk.plain har').1 hg)⟩
  · rw [List.getElem?_set_ne e] at hx
    exact ⟨k, x, hx, hlx, hg⟩
theorem Owned.add {h : Han} {o : O} {g : Nat} (hg : Owned Z (upd j mem.length h) (mem ++ [o]) g) (har : o.ar = none := by rfl) : Owned Z j mem g ∨ h.blk = some g := by
  obtain ⟨k, x, hx, hlx, hb⟩ := hg
  by_cases e : k < mem.length
  · rw [List.getElem?_append_left e] at hx
    exact .inl ⟨k, x, hx, hlx, (Blk.jeq (upd_ne j h (by omega))).1 hb⟩
  · right
    have := (List.getElem?_eq_some_iff.1 hx).1
    simp at this
    have e : k = mem.length := by omega
    rw [e] at hx
    simp at hx
    subst hx
    have hb := (Blk.plain har).1 hb
    unfold blkOf at hb
    rw [e, upd_same] at hb
    exact hb
def Zmore (Z : Zs) (g n : Nat) : Zs := { Z with z := fun b o => Z b o ∨ (b = g ∧ o < n) }
theorem ZExt.heap {w1 : World} {ob : Obj} (hh : w1.heap = w.heap.push ob) (hin : ∀ g o, Z g o → g < w.heap.size) (n : Nat) : ZExt Z w (Zmore Z w.heap.size n) w1 := by
  refine .of fun g o h => ?_
  refine ⟨.inl h, same_block ?_ o⟩
  rw [hh, Array.getElem?_push_lt (hin g o h), Array.getElem?_eq_getElem (hin g o h)]
theorem heap_push_old {w1 : World} {ob : Obj} (hh : w1.heap = w.heap.push ob) {g : Nat} (hg : g < w.heap.size) : w1.heap[g]? = w.heap[g]? := by
  rw [hh, Array.getElem?_push_lt hg, Array.getElem?_eq_getElem hg]
theorem heap_push_old' {w1 : World} {ob : Obj} (hh : w1.heap = w.heap.push ob) {g : Nat} (hg : g < w.heap.size) : w1.heap[g]? = w.heap[g]? := heap_push_old hh hg
theorem Owned.lt (s : SR P Z w j mem) {g : Nat} (h : Owned Z j mem g) : g < w.heap.size := by
  obtain ⟨id, o, ho, hl, hg⟩ := h
  have hO := s.obj id o ho
  cases o with
  | arena t els =>
    obtain ⟨k, hk, hg⟩ := hg
    obtain ⟨us, h1, _⟩ := hO.2 k _ g (List.getElem?_eq_getElem hk) hg
    exact (Array.getElem?_eq_some_iff.1 h1).1
  | marena t ms =>
    obtain ⟨k, hk, hg⟩ := hg
    obtain ⟨es', clock, h1, _⟩ := hO.2 k _ g (List.getElem?_eq_getElem hk) hg
    exact (Array.getElem?_eq_some_iff.1 h1).1
  | dead => simp [O.live] at hl
  | row t els fz =>
    obtain ⟨h, hh, hr⟩ := hO
    rcases hr.2.2.2.2 with ⟨hu, _⟩ | ⟨g', b, c, us, hu, _, _, hgg, _⟩
    · cases h; simp at hu; simp [Blk, O.ar, blkOf, hh, Han.blk, hu] at hg
    · cases h; simp at hu; simp [Blk, O.ar, blkOf, hh, Han.blk, hu] at hg
      subst hg
      exact (Array.getElem?_eq_some_iff.1 hgg).1
  | box t v fz =>
    obtain ⟨g', us, h1, h2, _⟩ := hO
    simp [Blk, O.ar, blkOf, h1, Han.blk] at hg
    subst hg
    exact (Array.getElem?_eq_some_iff.1 h2).1
  | map es =>
    obtain ⟨r, es', clock, h1, h2, _⟩ := hO
    simp [Blk, O.ar, blkOf, h1, Han.blk] at hg
    subst hg
    exact (Array.getElem?_eq_some_iff.1 h2).1
theorem SR.push (s : SR P Z w j mem) {w1 : World} {ob : Obj} (hh : w1.heap = w.heap.push ob) (hos : w1.os = w.os) (htape : w1.tape = w.tape) (hout : w1.output = w.output)
    (n : Nat) {h : Han} (hb : ∀ g, h.blk = some g → g = w.heap.size) {o : O} (ho : OR P (Zmore Z w.heap.size n) w1 (upd j mem.length h) mem.length o) (har : o.ar = none := by rfl) :
    SR P (Zmore Z w.heap.size n) w1 (upd j mem.length h) (mem ++ [o]) ∧ Stp Z w j mem (Zmore Z w.heap.size n) w1 (upd j mem.length h) (mem ++ [o]) ∧ JExt j (upd j mem.length h) := by
  have hz := ZExt.heap (Z := Z) hh s.zin n
  have iff : ∀ g, g < w.heap.size → ∀ o, Zmore Z w.heap.size n g o ↔ Z g o := fun g hg o => ⟨fun h => h.resolve_right fun h => by omega, .inl⟩
  have hsz : w1.heap.size = w.heap.size + 1 := by rw [hh]; simp
  have s1 : SR P (Zmore Z w.heap.size n) w1 j mem := s.world hz (fun g hg => ⟨heap_push_old hh (Owned.lt s hg), iff g (Owned.lt s hg)⟩) (fun g o h => by
    rcases h with h | h
    · have := s.zin g o h; omega
    · omega)
  refine ⟨s1.add (fun g hg ho => ?_) ho har, ⟨hos, htape, hout, by omega, fun g hg _ => ⟨heap_push_old hh hg, iff g hg⟩, fun g hg ho => ?_, hz, fun t hn => ⟨hn.add har, rfl⟩⟩, s.ext h⟩
  · have := hb g hg
    have := Owned.lt s ho
    omega
  · rcases Owned.add ho har with ho | ho
    · exact ho
    · have := hb g ho; omega
theorem SR.pushV (s : SR P Z w j mem) {h : Han} (hb : h.blk = none) {o : O} (ho : OR P Z w (upd j mem.length h) mem.length o) (har : o.ar = none := by rfl) :
    SR P Z w (upd j mem.length h) (mem ++ [o]) ∧ Stp Z w j mem Z w (upd j mem.length h) (mem ++ [o]) ∧ JExt j (upd j mem.length h) := by
  refine ⟨s.add (fun _ hg => by rw [hb] at hg; cases hg) ho har, ⟨rfl, rfl, rfl, Nat.le_refl _, fun _ _ _ => ⟨rfl, fun _ => Iff.rfl⟩, fun _ _ ho => ?_, ZExt.refl _ _, fun t hn => ⟨hn.add har, rfl⟩⟩, s.ext h⟩
  rcases Owned.add ho har with ho | ho
  · exact ho
  · rw [hb] at ho; cases ho
theorem Stp.set {id : Nat} {o o' : O} (hm : mem[id]? = some o) (hl : o'.live = true → o.live = true) (hlo : o.live = true) (hz : ZExt Z w Z' w')
    (hb : ∀ g, blkOf j id ≠ some g → w'.heap[g]? = w.heap[g]? ∧ ∀ o, Z' g o ↔ Z g o)
    (hos : w'.os = w.os) (htape : w'.tape = w.tape) (hout : w'.output = w.output) (hsz : w.heap.size ≤ w'.heap.size) (har : o.ar = none := by rfl) (har' : o'.ar = none := by rfl) (ha : Z'.a = Z.a := by rfl) : Stp Z w j mem Z' w' j (mem.set id o') :=
  ⟨hos, htape, hout, hsz, fun g _ hn => hb g fun hg => hn ⟨id, o, hm, hlo, (Blk.plain har).2 hg⟩, fun g _ ho => ((Owned.eqA ha).1 ho).set hm hl har har', hz, fun t hn => ⟨hn.set hm fun n e => (by rw [har'] at e; cases e), by rw [ha]⟩⟩
theorem findA_get {t : TypeId} : ∀ (mem : List O) (i id : Nat) (els : List V), findA t i mem = some (id, els) → i ≤ id ∧ mem[id - i]? = some (.arena t els)
  | [], _, _, _, h => by simp [findA] at h
  | .arena t' els' :: l, i, id, els, h => by
    simp only [findA] at h
    by_cases e : (t' == t) = true
    · rw [e] at h; cases h; exact ⟨Nat.le_refl _, by rw [Nat.sub_self]; simp [eq_of_beq e]⟩
    · simp only [e, cond_false] at h
      obtain ⟨a, b⟩ := findA_get l (i + 1) id els h
      exact ⟨by omega, by rw [show id - i = (id - (i + 1)) + 1 by omega]; simpa using b⟩
  | .row .. :: l, i, id, els, h => by
    obtain ⟨a, b⟩ := findA_get l (i + 1) id els h
    exact ⟨by omega, by rw [show id - i = (id - (i + 1)) + 1 by omega]; simpa using b⟩
  | .box .. :: l, i, id, els, h => by
    obtain ⟨a, b⟩ := findA_get l (i + 1) id els h
    exact ⟨by omega, by rw [show id - i = (id - (i + 1)) + 1 by omega]; simpa using b⟩
  | .map .. :: l, i, id, els, h => by
    obtain ⟨a, b⟩ := findA_get l (i + 1) id els h
    exact ⟨by omega, by rw [show id - i = (id - (i + 1)) + 1 by omega]; simpa using b⟩
  | .marena .. :: l, i, id, els, h => by
    obtain ⟨a, b⟩ := findA_get l (i + 1) id els h
    exact ⟨by omega, by rw [show id - i = (id - (i + 1)) + 1 by omega]; simpa using b⟩
  | .dead :: l, i, id, els, h => by
    obtain ⟨a, b⟩ := findA_get l (i + 1) id els h
    exact ⟨by omega, by rw [show id - i = (id - (i + 1)) + 1 by omega]; simpa using b⟩
theorem findM_get {t : TypeId} : ∀ (mem : List O) (i id : Nat) (ms : List (List (V × V))), findM t i mem = some (id, ms) → i ≤ id ∧ mem[id - i]? = some (.marena t ms)
  | [], _, _, _, h => by simp [findM] at h
  | .marena t' els' :: l, i, id, els, h => by
    simp only [findM] at h
    by_cases e : (t' == t) = true
    · rw [e] at h; cases h; exact ⟨Nat.le_refl _, by rw [Nat.sub_self]; simp [eq_of_beq e]⟩
    · simp only [e, cond_false] at h
      obtain ⟨a, b⟩ := findM_get l (i + 1) id els h
      exact ⟨by omega, by rw [show id - i = (id - (i + 1)) + 1 by omega]; simpa using b⟩
  | .row .. :: l, i, id, els, h => by
    obtain ⟨a, b⟩ := findM_get l (i + 1) id els h
    exact ⟨by omega, by rw [show id - i = (id - (i + 1)) + 1 by omega]; simpa using b⟩
  | .box .. :: l, i, id, els, h => by
    obtain ⟨a, b⟩ := findM_get l (i + 1) id els h
    exact ⟨by omega, by rw [show id - i = (id - (i + 1)) + 1 by omega]; simpa using b⟩
  | .map .. :: l, i, id, els, h => by
    obtain ⟨a, b⟩ := findM_get l (i + 1) id els h
    exact ⟨by omega, by rw [show id - i = (id - (i + 1)) + 1 by omega]; simpa using b⟩
  | .arena .. :: l, i, id, els, h => by
    obtain ⟨a, b⟩ := findM_get l (i + 1) id els h
    exact ⟨by omega, by rw [show id - i = (id - (i + 1)) + 1 by omega]; simpa using b⟩
  | .dead :: l, i, id, els, h => by
    obtain ⟨a, b⟩ := findM_get l (i + 1) id els h
    exact ⟨by omega, by rw [show id - i = (id - (i + 1)) + 1 by omega]; simpa using b⟩
theorem findA_mem {t : TypeId} {id : Nat} {els : List V} (h : findA t 0 mem = some (id, els)) : mem[id]? = some (.arena t els) := by simpa using (findA_get mem 0 id els h).2
theorem findM_mem {t : TypeId} {id : Nat} {ms : List (List (V × V))} (h : findM t 0 mem = some (id, ms)) : mem[id]? = some (.marena t ms) := by simpa using (findM_get mem 0 id ms h).2
theorem OR.arena {id n : Nat} {o : O} {t : TypeId} (h : OR P Z w j id o) (ho : o.ar = some (t, n)) : Arena Z id t n := by
  cases o <;> simp [O.ar] at ho <;> (obtain ⟨rfl, rfl⟩ := ho; exact h.1)
theorem ar_live {o : O} {r : TypeId × Nat} (h : o.ar = some r) : o.live = true := by
  cases o <;> simp [O.ar] at h <;> rfl
theorem SR.setA (s : SR P Z w j mem) {id n : Nat} {o o' : O} {t : TypeId} (hm : mem[id]? = some o) (hn : o.ar = some (t, n)) (hn' : o'.ar = some (t, n)) (hz : ZExt Z w Z' w')
    (hb : ∀ g, ¬ Blk Z j id o g → w'.heap[g]? = w.heap[g]? ∧ ∀ o, Z' g o ↔ Z g o) (hin : ∀ g o, Z' g o → g < w'.heap.size)
    (hos : w'.os = w.os) (htape : w'.tape = w.tape) (hout : w'.output = w.output) (hsz : w.heap.size ≤ w'.heap.size)
    (ho : OR P Z' w' j id o') (ha : Z'.a = Z.a := by rfl) : SR P Z' w' j (mem.set id o') ∧ Stp Z w j mem Z' w' j (mem.set id o') := by
  have hlt : id < mem.length := (List.getElem?_eq_some_iff.1 hm).1
  have same : ∀ g, Blk Z j id o' g ↔ Blk Z j id o g := fun g => by unfold Blk; rw [hn, hn']
  have side : ∀ (g k : Nat) (x : O), (mem.set id o')[k]? = some x → x.live = true → Blk Z' j k x g → ∃ x' : O, mem[k]? = some x' ∧ x'.live = true ∧ Blk Z j k x' g := by
    intro g k x hx hlx hg
    have hg := (Blk.eqA ha).1 hg
    by_cases e : id = k
    · subst e
      rw [List.getElem?_set_self hlt] at hx
      cases hx
      exact ⟨o, hm, ar_live hn, (same g).1 hg⟩
    · rw [List.getElem?_set_ne e] at hx; exact ⟨x, hx, hlx, hg⟩
  refine ⟨⟨fun k x hx => ?_, fun a b x y g hx hy hlx hly hg hg' => ?_, fun k hk => s.out k (by simpa using hk), hin⟩,
    ⟨hos, htape, hout, hsz, fun g _ hno => hb g fun hg => hno ⟨id, o, hm, ar_live hn, hg⟩, fun g _ ho => ?_, hz, fun t' h => ⟨h.set hm fun m e => ?_, by rw [ha]⟩⟩⟩
  · by_cases e : id = k
    · subst e
      rw [List.getElem?_set_self hlt] at hx
      cases hx
      exact ho
    · rw [List.getElem?_set_ne e] at hx
      by_cases hlx : x.live = true
      · exact (s.obj k x hx).mono hz (JExt.refl _) (fun g hg => hb g fun hg' => e (s.inj id k o x g hm hx (ar_live hn) hlx hg' hg)) (fun _ _ _ => by rw [ha])
      · cases x <;> first | exact True.intro | (simp [O.live] at hlx)
  · obtain ⟨x', hx', hlx', hgx⟩ := side g a x hx hlx hg
    obtain ⟨y', hy', hly', hgy⟩ := side g b y hy hly hg'
    exact s.inj a b x' y' g hx' hy' hlx' hly' hgx hgy
  · obtain ⟨k, x, hx, hlx, hg⟩ := ho
    obtain ⟨x', hx', hlx', hgx⟩ := side g k x hx hlx hg
    exact ⟨k, x', hx', hlx', hgx⟩
  · rw [hn'] at e; cases e; exact ⟨n, hn⟩
def Zgrow (Z : Zs) (t : TypeId) (k g : Nat) : Zs := { Z with a := fun t' k' => if t' = t ∧ k' = k then some g else Z.a t' k' }
theorem Zgrow_new (t : TypeId) (k g : Nat) : (Zgrow Z t k g).a t k = some g := by simp [Zgrow]
theorem Zgrow_old {t t' : TypeId} {k k' g : Nat} (h : ¬ (t' = t ∧ k' = k)) : (Zgrow Z t k g).a t' k' = Z.a t' k' := by simp only [Zgrow, if_neg h]
theorem SR.growA (s : SR P Z w j mem) {id n : Nat} {o o' : O} {t : TypeId} (hm : mem[id]? = some o) (hn : o.ar = some (t, n)) (hn' : o'.ar = some (t, n + 1)) {w1 : World} {ob : Obj}
    (hh : w1.heap = w.heap.push ob) (hos : w1.os = w.os) (htape : w1.tape = w.tape) (hout : w1.output = w.output)
    (ho : ZExt Z w (Zgrow Z t n w.heap.size) w1 → Arena (Zgrow Z t n w.heap.size) id t (n + 1) → OR P (Zgrow Z t n w.heap.size) w1 j id o') :
    SR P (Zgrow Z t n w.heap.size) w1 j (mem.set id o') ∧ Stp Z w j mem (Zgrow Z t n w.heap.size) w1 j (mem.set id o') := by
  have hlt : id < mem.length := (List.getElem?_eq_some_iff.1 hm).1
  have hA := (s.obj id o hm).arena hn
  have hz : ZExt Z w (Zgrow Z t n w.heap.size) w1 := by
    refine ⟨fun g x h => ⟨h, same_block (heap_push_old' hh (s.zin g x h)) x⟩, fun t' k' g h => ?_, rfl⟩
    by_cases e : t' = t ∧ k' = n
    · obtain ⟨rfl, rfl⟩ := e; rw [hA.none _ (Nat.le_refl _)] at h; cases h
    · rw [Zgrow_old e]; exact h
  have lt : ∀ k g, Z.a t k = some g → g < w.heap.size := fun k g hg => Owned.lt s ⟨id, o, hm, ar_live hn, by
    unfold Blk; rw [hn]
    refine ⟨k, ?_, hg⟩
    rcases Nat.lt_or_ge k n with h | h
    · exact h
    · rw [hA.none k h] at hg; cases hg⟩
  have hA' : Arena (Zgrow Z t n w.heap.size) id t (n + 1) := by
    refine ⟨hA.i, fun k hk => ?_, fun k hk => ?_, fun k k' g h h' => ?_⟩
    · by_cases e : k = n
      · subst e; exact ⟨_, Zgrow_new _ _ _⟩
      · rw [Zgrow_old (by omega)]; exact hA.get k (by omega)
    · rw [Zgrow_old (by omega)]; exact hA.none k (by omega)
    · by_cases e : k = n
      · subst e
        rw [Zgrow_new] at h; cases h
        by_cases e' : k' = k
        · exact e'.symm
        · rw [Zgrow_old (by omega)] at h'; have := lt _ _ h'; omega
      · rw [Zgrow_old (by omega)] at h
        by_cases e' : k' = n
        · subst e'; rw [Zgrow_new] at h'; cases h'; have := lt _ _ h; omega
        · rw [Zgrow_old (by omega)] at h'; exact hA.inj _ _ _ h h'
  have back : ∀ (g k : Nat) (x : O), g < w.heap.size → (mem.set id o')[k]? = some x → x.live = true → Blk (Zgrow Z t n w.heap.size) j k x g → ∃ x' : O, mem[k]? = some x' ∧ x'.live = true ∧ Blk Z j k x' g := by
    intro g k x hlg hx hlx hg
    by_cases e : id = k
    · subst e
      rw [List.getElem?_set_self hlt] at hx
      cases hx
      refine ⟨o, hm, ar_live hn, ?_⟩
      unfold Blk at hg ⊢
      rw [hn'] at hg
      rw [hn]
      obtain ⟨m, hmm, hg⟩ := hg
      by_cases em : m = n
      · subst em; rw [Zgrow_new] at hg; cases hg; omega
      · simp only at hmm hg
        rw [Zgrow_old (by omega)] at hg; exact ⟨m, by simp only; omega, hg⟩
    · rw [List.getElem?_set_ne e] at hx
      refine ⟨x, hx, hlx, ?_⟩
      unfold Blk at hg ⊢
      cases hr : x.ar with
      | none => rw [hr] at hg; exact hg
      | some r =>
        obtain ⟨t', m⟩ := r
        rw [hr] at hg
        have hne : t' ≠ t := fun e' => e (by subst e'; have h1 := ((s.obj k x hx).arena hr).i; rw [hA.i] at h1; exact Option.some.inj h1)
        obtain ⟨m', hm', hg⟩ := hg
        simp only at hg
        rw [Zgrow_old (fun h => hne h.1)] at hg
        exact ⟨m', hm', hg⟩
  have new : ∀ (g k : Nat) (x : O), ¬ g < w.heap.size → (mem.set id o')[k]? = some x → x.live = true → Blk (Zgrow Z t n w.heap.size) j k x g → k = id := by
    intro g k x hlg hx hlx hg
    apply Classical.byContradiction
    intro e
    have e : ¬ id = k := fun h => e h.symm
    rw [List.getElem?_set_ne e] at hx
    refine hlg (Owned.lt s ⟨k, x, hx, hlx, ?_⟩)
    unfold Blk at hg ⊢
    cases hr : x.ar with
    | none => rw [hr] at hg; exact hg
    | some r =>
      obtain ⟨t', m⟩ := r
      rw [hr] at hg
      have hne : t' ≠ t := fun e' => e (by subst e'; have h1 := ((s.obj k x hx).arena hr).i; rw [hA.i] at h1; exact Option.some.inj h1)
      obtain ⟨m', hm', hg⟩ := hg
      simp only at hg
      rw [Zgrow_old (fun h => hne h.1)] at hg
      exact ⟨m', hm', hg⟩
  have hsz : w1.heap.size = w.heap.size + 1 := by rw [hh]; simp
  refine ⟨⟨fun k x hx => ?_, fun a b x y g hx hy hlx hly hg hg' => ?_, fun k hk => s.out k (by simpa using hk), fun g x h => by have := s.zin g x h; omega⟩,
    ⟨hos, htape, hout, by omega, fun g hg _ => ⟨heap_push_old' hh hg, fun _ => Iff.rfl⟩, fun g hg ho => ?_, hz, fun t' h => ⟨h.set hm fun m e => ?_, ?_⟩⟩⟩
  · by_cases e : id = k
    · subst e
      rw [List.getElem?_set_self hlt] at hx
      cases hx
      exact ho hz hA'
    · rw [List.getElem?_set_ne e] at hx
      by_cases hlx : x.live = true
      · refine (s.obj k x hx).mono hz (JExt.refl _) (fun g hg => ⟨heap_push_old' hh (Owned.lt s ⟨k, x, hx, hlx, hg⟩), fun _ => Iff.rfl⟩) (fun t' m hr => ?_)
        have hne : t' ≠ t := fun e' => e (by subst e'; have h1 := ((s.obj k x hx).arena hr).i; rw [hA.i] at h1; exact Option.some.inj h1)
        funext k'
        exact Zgrow_old fun h => hne h.1
      · cases x <;> first | exact True.intro | (simp [O.live] at hlx)
  · by_cases hlg : g < w.heap.size
    · obtain ⟨x', hx', hlx', hgx⟩ := back g a x hlg hx hlx hg
      obtain ⟨y', hy', hly', hgy⟩ := back g b y hlg hy hly hg'
      exact s.inj a b x' y' g hx' hy' hlx' hly' hgx hgy
    · rw [new g a x hlg hx hlx hg, new g b y hlg hy hly hg']
  · obtain ⟨k, x, hx, hlx, hb⟩ := ho
    obtain ⟨x', hx', hlx', hgx⟩ := back g k x hg hx hlx hb
    exact ⟨k, x', hx', hlx', hgx⟩
  · rw [hn'] at e; cases e; exact ⟨n, hn⟩
  · have hne : t' ≠ t := fun e => h id o n hm (by rw [hn, e])
    funext k'
    exact Zgrow_old fun h => hne h.1
theorem look_sound (s : SR P Z w j mem) {p x : V} {off : Nat} {u : Value} (h : look mem p = some (x, off)) (hv : VR Z w j p u) :
    ∃ g b, u = .pointer (some ⟨g, b + off, none⟩) ∧ CellsAt Z w j g b x.cells := by
  cases p with
  | ref y o =>
    simp [look] at h
    obtain ⟨rfl, rfl⟩ := h
    obtain ⟨g, b, hu, _, hc⟩ := hv.refInv
    exact ⟨g, b, hu, hc.mono (ZExt.refl _ _) (JExt.zero _) rfl⟩
  | ptr id k o =>
    cases hv with
    | ptr hj hs =>
      rename_i g b hn
      simp only [look] at h
      cases hm : mem[id]? with
      | none => simp [hm] at h
      | some ob =>
        have hO := s.obj id ob hm
        cases ob with
        | dead => simp [hm] at h
        | map es => simp [hm] at h
        | arena t els => simp [hm] at h
        | marena t els => simp [hm] at h
        | row t els fz =>
          simp only [hm] at h
          obtain ⟨hn', hh, hr⟩ := hO
          rw [hj] at hh
          cases hh
          cases hk : els[k]? with
          | none => simp [hk] at h
          | some y =>
            simp [hk] at h
            obtain ⟨rfl, rfl⟩ := h
            rcases hr.2.2.2.2 with ⟨_, he⟩ | ⟨g', b', c, us, hu, _, _, _, _, hcells, _⟩
            · subst he; simp at hk
            · have e : (g', b') = (g, b) := by
                cases hn; simp at hu; subst hu; simpa [Han.start] using hs
              cases e
              exact ⟨g, b + k * hn.sz, by rw [Nat.add_assoc], (hcells k y hk).mono (ZExt.refl _ _) (JExt.zero _) rfl⟩
        | box t v fz =>
          simp only [hm] at h
          by_cases hk : k = 0
          · simp [hk] at h
            obtain ⟨rfl, rfl⟩ := h
            obtain ⟨g', us, h1, h2, h3, h4, h5, _⟩ := hO
            rw [hj] at h1
            cases h1
            simp [Han.start] at hs
            obtain ⟨rfl, rfl⟩ := hs
            subst hk
            exact ⟨g', 0, by simp, h5⟩
          · simp [hk] at h
  | hp t k o =>
    cases hv with
    | hp hg =>
      rename_i g
      simp only [look, Option.bind_eq_some_iff, Option.map_eq_some_iff] at h
      obtain ⟨⟨id, els⟩, hf, y, hk, e⟩ := h
      cases e
      obtain ⟨us, _, _, _, _, hc, _⟩ := (s.obj id _ (findA_mem hf)).2 k _ g hk hg
      exact ⟨g, 0, by simp, hc.mono (ZExt.refl _ _) (JExt.zero _) rfl⟩
  | _ => simp [look] at h
theorem mapAt_sound (s : SR P Z w j mem) {m : V} {es : List (V × V)} {u : Value} (h : mapAt mem m = some es) (hv : VR Z w j m u) : ∃ r, u = .map (some r) ∧ MapIn Z w r es := by
  cases m with
  | mp id =>
    simp only [mapAt] at h
    cases hm : mem[id]? with
    | none => simp [hm] at h
    | some o =>
      cases o <;> simp only [hm] at h <;> first | (cases h; done) | skip
      cases h
      obtain ⟨r, es', clock, h1, h2, h3, h4, h5⟩ := s.obj id _ hm
      cases hv with
      | mp hj => rw [hj] at h1; cases h1; exact ⟨_, rfl, es', clock, h2, h3, h4, h5⟩
  | hm t k =>
    simp only [mapAt, Option.bind_eq_some_iff] at h
    obtain ⟨⟨id, ms⟩, hf, hk⟩ := h
    cases hv with
    | hm hg => exact ⟨_, rfl, (s.obj id _ (findM_mem hf)).2 k es _ hk hg⟩
  | _ => simp [mapAt] at h
theorem info_of_underlying {t : TypeId} {d : TypeDesc} (h : P.underlying t = some d) : ∃ i, P.info? t = some i ∧ P.cellsOf t = i.size ∧ P.bytesOf t = i.bytes := by
  unfold Program.underlying at h
  cases hi : P.info? t with
  | none => simp [hi] at h
  | some i => exact ⟨i, rfl, by simp [Program.cellsOf, hi], by simp [Program.bytesOf, hi]⟩
theorem CellsAt.drop {g b : Nat} {cs : List V} (h : CellsAt Z w j g b cs) (off n : Nat) : CellsAt Z w j g (b + off) ((cs.drop off).take n) := by
  intro i y hy
  rw [List.getElem?_take] at hy
  split at hy
  · rw [List.getElem?_drop] at hy
    obtain ⟨a, u, hu, hv⟩ := h (off + i) y hy
    exact ⟨a, u, by rw [Nat.add_assoc]; exact hu, hv⟩
  · cases hy
theorem run_cells {g b : Nat} {cs : List V} (h : CellsAt Z w j g b cs) :
    ∃ us : List Value, us.length = cs.length ∧ (loadCells ⟨g, b, none⟩ cs.length).run P w = .ok us.toArray w ∧ (∀ (i : Nat) (c : V) (u : Value), cs[i]? = some c → us[i]? = some u → VR Z w j c u) ∧
      ∀ (i : Nat) (u : Value), us[i]? = some u → w.cell? ⟨g, b + i, none⟩ = some u ∧ u.oneCell' = true := by
  have add : ∀ i, (⟨g, b, none⟩ : Addr).add i = ⟨g, b + i, none⟩ := by intro i; unfold Addr.add; split <;> simp_all
  refine ⟨(List.range cs.length).map fun i => (w.cell? ⟨g, b + i, none⟩).getD undef, by simp, run_loadCells w _ _ _ (fun i hi => ?_), fun i c u hc hu => ?_, fun i u hu => ?_⟩
  · obtain ⟨_, u, hu, _⟩ := h i _ (List.getElem?_eq_getElem hi)
    rw [add, hu]; rfl
  · obtain ⟨_, u', hu', hv⟩ := h i c hc
    have hi : i < cs.length := (List.getElem?_eq_some_iff.1 hc).1
    simp [hi, hu'] at hu
    subst hu
    exact hv
  · have hi : i < cs.length := by have := (List.getElem?_eq_some_iff.1 hu).1; simpa using this
    obtain ⟨ho, u', hu', hv⟩ := h i _ (List.getElem?_eq_getElem hi)
    simp [hi, hu'] at hu
    subst hu
    exact ⟨hu', hv.oneCell ho⟩
theorem mkV_sound {t : TypeId} {g b : Nat} {cs : List V} {v : V} (hl : cs.length = P.cellsOf t) (h : mkV P t cs = some v) (hc : CellsAt Z w j g b cs) :
    ∃ u, (loadVar t ⟨g, b, none⟩).run P w = .ok u w ∧ VR Z w j v u := by
  unfold mkV at h
  cases hu : P.underlying t with
  | none => simp [hu] at h
  | some d =>
    obtain ⟨i, hi, hsz, _⟩ := info_of_underlying hu
    have agg : (d matches .struct _ | .array _ _) = true → v = .agg cs → ∃ u, (loadVar t ⟨g, b, none⟩).run P w = .ok u w ∧ VR Z w j v u := by
      intro hd hv
      subst hv
      obtain ⟨us, hul, hrun, hvr, _⟩ := run_cells (P := P) hc
      refine ⟨.agg us.toArray, ?_, .agg hul.symm hvr⟩
      rw [hl, hsz] at hrun
      cases d <;> first | (simp at hd; done) | simp [loadVar, isAgg, run_underlying hu, sizeOf, typeInfo, hi, hrun]
    have one : (d matches .struct _ | .array _ _) = false → single cs = some v → ∃ u, (loadVar t ⟨g, b, none⟩).run P w = .ok u w ∧ VR Z w j v u := by
      intro hd hv
      unfold single at hv
      split at hv
      · cases hv
        obtain ⟨_, u, hu', hvr⟩ := hc 0 _ rfl
        refine ⟨u, ?_, hvr⟩
        simp only [Nat.add_zero] at hu'
        cases d <;> first | (simp at hd; done) | simp [loadVar, isAgg, run_underlying hu, hu']
      · cases hv
    cases d <;> simp only [hu] at h <;> first | (cases h; exact agg rfl rfl) | exact one rfl h
theorem load_sound (s : SR P Z w j mem) {t : TypeId} {p v : V} {u : Value} (h : loadM P mem t p = some v) (hv : VR Z w j p u) :
    ∃ u', (Instr.loadAt t u).run P w = .ok u' w ∧ VR Z w j v u' := by
  unfold loadM at h
  cases hl : look mem p with
  | none => simp [hl] at h
  | some r =>
    obtain ⟨x, off⟩ := r
    simp only [hl, Option.bind_some] at h
    split at h
    · rename_i hlen
      obtain ⟨g, b, hu, hc⟩ := look_sound s hl hv
      subst hu
      obtain ⟨u', h1, h2⟩ := mkV_sound (P := P) hlen h (hc.drop off _)
      exact ⟨u', by simpa [Instr.loadAt, Instr.sureAddr] using h1, h2⟩
    · cases h
end
end Go.Lite