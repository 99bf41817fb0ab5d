/-
  A range over a function: what the model lays beside the interpreter's memory (a record, a block for deferred calls), and the loop itself.
-/
import Derived.Test.YtknapnnpmfhogaaLite16
namespace Go.Lite
open Go Go.MapKept
set_option linter.unusedVariables false
section
variable {P : Program} {Z Z' : Zs} {w w' : World} {j j' : J} {mem mem' : List O}
theorem JK.refl (n0 : Nat) (j : J) : JK n0 j j := fun _ _ _ h => h
theorem JK.trans {n0 : Nat} {j1 : J} (h : JK n0 j j1) (h' : JK n0 j1 j') : JK n0 j j' := fun id x hl e => h' id x hl (h id x hl e)
theorem JK.of {n0 : Nat} (h : JExt j j') : JK n0 j j' := fun id x _ e => h id x e
def isBook : Obj → Bool
  | .loop _ => true
  | .deferred _ => true
  | _ => false
theorem owned_kind (s : SR P Z w j mem) {g : Nat} (h : Owned Z j mem g) : ∃ o, w.heap[g]? = some o ∧ isBook o = false := by
  obtain ⟨id, o, hm, hl, hb⟩ := h
  have hO := s.obj id o hm
  cases o with
  | dead => cases hl
  | row t els fz =>
    obtain ⟨h, hh, _, _, _, _, h5⟩ := hO
    rcases h5 with ⟨hu, _⟩ | ⟨g', b, c, us, hu, _, _, hg, _⟩
    · cases h; simp only at hu; subst hu; simp [Blk, O.ar, blkOf, hh, Han.blk] at hb
    · cases h; simp only at hu; subst hu; simp [Blk, O.ar, blkOf, hh, Han.blk] at hb; subst hb; exact ⟨_, hg, rfl⟩
  | arena t els =>
    obtain ⟨k, hk, hg⟩ := hb
    obtain ⟨us, h1, _⟩ := hO.2 k _ g (List.getElem?_eq_getElem hk) hg
    exact ⟨_, h1, rfl⟩
  | marena t ms =>
    obtain ⟨k, hk, hg⟩ := hb
    obtain ⟨es', clock, h1, _⟩ := hO.2 k _ g (List.getElem?_eq_getElem hk) hg
    exact ⟨_, h1, rfl⟩
  | box t v fz =>
    obtain ⟨g', us, h1, h2, _⟩ := hO
    simp [Blk, O.ar, blkOf, h1, Han.blk] at hb
    subst hb
    exact ⟨_, h2, rfl⟩
  | map es =>
    obtain ⟨r, es', clock, h1, h2, _⟩ := hO
    simp [Blk, O.ar, blkOf, h1, Han.blk] at hb
    subst hb
    exact ⟨_, h2, rfl⟩
theorem not_owned (s : SR P Z w j mem) {g : Nat} {o : Obj} (h : w.heap[g]? = some o) (hk : isBook o = true) : ¬ Owned Z j mem g := by
  intro ho
  obtain ⟨o', h1, h2⟩ := owned_kind s ho
  rw [h] at h1; cases h1
  rw [hk] at h2; cases h2
theorem book_cell {g x : Nat} {o : Obj} (h : w.heap[g]? = some o) (hk : isBook o = true) : w.cell? ⟨g, x, none⟩ = none ∧ kindOf w g = none := by
  cases o <;> first | (cases hk; done) | (exact ⟨by simp [World.cell?, h], by simp [kindOf, h]⟩)
theorem book_z {L : Nat} {o o' : Obj} (h : w.heap[L]? = some o) (hk : isBook o = true) (hk' : isBook o' = true) : ZExt Z w Z (w.putObj L o') := by
  have hlt := (Array.getElem?_eq_some_iff.1 h).1
  refine .of fun g x hz => ⟨hz, ?_⟩
  by_cases e : g = L
  · subst e
    obtain ⟨a, b⟩ := book_cell (x := x) h hk
    obtain ⟨a', b'⟩ := book_cell (x := x) (World.putObj_heap_same (o := o') hlt) hk'
    exact ⟨a'.trans a.symm, b'.trans b.symm⟩
  · exact same_block (World.putObj_heap_other e) x
theorem SR.book (s : SR P Z w j mem) {L : Nat} {o o' : Obj} (h : w.heap[L]? = some o) (hk : isBook o = true) (hk' : isBook o' = true) : SR P Z (w.putObj L o') j mem :=
  s.world (book_z h hk hk') (fun g hg => ⟨World.putObj_heap_other fun e => not_owned s h hk (e ▸ hg), fun _ => Iff.rfl⟩) (fun g x hz => by rw [World.putObj_size]; exact s.zin g x hz)
theorem Stp.book {Z0 : Zs} {w0 : World} {j0' : J} {mem0 : List O} (st : Stp Z0 w0 j0' mem0 Z w j mem) {L : Nat} {o o' : Obj} (hL : w0.heap.size ≤ L) (h : w.heap[L]? = some o) (hk : isBook o = true) (hk' : isBook o' = true) :
    Stp Z0 w0 j0' mem0 Z (w.putObj L o') j mem :=
  ⟨st.os, st.tape, st.output, by rw [World.putObj_size]; exact st.size, fun g hg hno => ⟨(World.putObj_heap_other (by omega)).trans (st.keep g hg hno).1, (st.keep g hg hno).2⟩, st.owned, st.z.trans (book_z h hk hk'), st.ar⟩
def Same (w w' : World) : Prop := w'.heap = w.heap ∧ w'.os = w.os ∧ w'.tape = w.tape ∧ w'.output = w.output
theorem same_z (h : Same w w') : ZExt Z w Z w' := .of fun g x hz => ⟨hz, same_block (by rw [h.1]) x⟩
theorem SR.same (s : SR P Z w j mem) (h : Same w w') : SR P Z w' j mem := s.world (same_z h) (fun g _ => ⟨by rw [h.1], fun _ => Iff.rfl⟩) (fun g x hz => by rw [h.1]; exact s.zin g x hz)
theorem Stp.same {Z0 : Zs} {w0 : World} {j0' : J} {mem0 : List O} (st : Stp Z0 w0 j0' mem0 Z w j mem) (h : Same w w') : Stp Z0 w0 j0' mem0 Z w' j mem :=
  ⟨h.2.1.trans st.os, h.2.2.1.trans st.tape, h.2.2.2.trans st.output, by rw [h.1]; exact st.size, fun g hg hno => ⟨by rw [h.1]; exact (st.keep g hg hno).1, (st.keep g hg hno).2⟩, st.owned, st.z.trans (same_z h), st.ar⟩
def mark (D : Nat) : Deferred := { target := .collected D, args := #[] }
def Mk (B : Nat) (w : World) (ds ds' : List Deferred) : Prop := ∃ Ds : List Nat, ds' = Ds.map mark ++ ds ∧ Ds.Nodup ∧ ∀ D ∈ Ds, B ≤ D ∧ w.heap[D]? = some (.deferred (some []))
structure KeptC (ws : List Nat) (w : World) (a a' : Act) (w' : World) : Prop where
  marks : Mk w.heap.size w' a.defers a'.defers
  size : a'.tmps.size = a.tmps.size
  tmps : ∀ i, i ∉ ws → a'.tmps[i]? = a.tmps[i]?
theorem Mk.refl (B : Nat) (w : World) (ds : List Deferred) : Mk B w ds ds := ⟨[], rfl, .nil, fun D h => by simp at h⟩
theorem KeptC.refl (ws : List Nat) (w : World) (a : Act) (w' : World) : KeptC ws w a a w' := ⟨Mk.refl _ _ _, rfl, fun _ _ => rfl⟩
theorem KeptC.of {l : List OpA} {a a' : Act} (h : Kept l a a') (w w' : World) : KeptC (l.filterMap (·.dst)) w a a' w' :=
  ⟨by rw [h.defs]; exact Mk.refl _ _ _, h.size, fun i hi => h.tmps i fun o ho e => hi (List.mem_filterMap.2 ⟨o, ho, e⟩)⟩
theorem KeptC.weak {ws ws' : List Nat} {a a' : Act} (h : KeptC ws w a a' w') (hs : ∀ i ∈ ws, i ∈ ws') : KeptC ws' w a a' w' := ⟨h.marks, h.size, fun i hi => h.tmps i fun e => hi (hs i e)⟩
theorem KeptC.trans {ws ws' : List Nat} {a a1 a2 : Act} {w0 w1 w2 : World} {Z1 Z2 : Zs} {j1 j2 : J} {mem1 mem2 : List O} (h : KeptC ws w0 a a1 w1) (s1 : SR P Z1 w1 j1 mem1) (st : Stp Z1 w1 j1 mem1 Z2 w2 j2 mem2) (hs : w0.heap.size ≤ w1.heap.size) (h' : KeptC ws' w1 a1 a2 w2) :
    KeptC (ws ++ ws') w0 a a2 w2 := by
  obtain ⟨⟨D1, e1, n1, k1⟩, z1, t1⟩ := h
  obtain ⟨⟨D2, e2, n2, k2⟩, z2, t2⟩ := h'
  have lt1 : ∀ D ∈ D1, D < w1.heap.size := fun D hD => (Array.getElem?_eq_some_iff.1 (k1 D hD).2).1
  refine ⟨⟨D2 ++ D1, by rw [e2, e1]; simp, ?_, fun D hD => ?_⟩, z2.trans z1, fun i hi => ?_⟩
  · rw [List.nodup_append]
    refine ⟨n2, n1, fun x hx y hy e => ?_⟩
    have := (k2 x hx).1
    have := lt1 y hy
    omega
  · rcases List.mem_append.1 hD with hD | hD
    · exact ⟨Nat.le_trans hs (k2 D hD).1, (k2 D hD).2⟩
    · exact ⟨(k1 D hD).1, ((st.keep D (lt1 D hD) (not_owned s1 (k1 D hD).2 rfl)).1).trans (k1 D hD).2⟩
  · simp only [List.mem_append, not_or] at hi
    exact (t2 i hi.2).trans (t1 i hi.1)
def AfterC (P : Program) (n0 : Nat) (Z : Zs) (w : World) (j : J) (mem : List O) (s' : S) (a : Act) (w' : World) : Prop :=
  ∃ Z' j', St Z' w' j' s'.env a ∧ SR P Z' w' j' s'.mem ∧ Stp Z w j mem Z' w' j' s'.mem ∧ JK n0 j j'
theorem AfterC.trans {n0 : Nat} {Z1 : Zs} {w1 : World} {j1 : J} {mem1 : List O} {s' : S} {a : Act} (h : Stp Z w j mem Z1 w1 j1 mem1) (hj : JK n0 j j1) (h' : AfterC P n0 Z1 w1 j1 mem1 s' a w') : AfterC P n0 Z w j mem s' a w' :=
  let ⟨Z2, j2, a1, a2, a3, a4⟩ := h'
  ⟨Z2, j2, a1, a2, h.trans a3, hj.trans a4⟩
def Ex.toExit : Ex → Exit
  | .norm => .normal
  | .exit i => .exit i
  | .ret => .ret
theorem iter_from {step : S → Option (Ex × S)} {Q : Ex → Prop} (hq : ∀ s r, step s = some r → r.1 ≠ .norm → Q r.1) : ∀ (n : Nat) (s : S) (r : Ex × S), iter step n s = some r → Q r.1 ∧ r.1 ≠ .norm := by
  intro n
  induction n with
  | zero => intro s r h; simp [iter] at h
  | succ n ih =>
    intro s r h
    simp only [iter] at h
    cases hs : step s with
    | none => simp [hs] at h
    | some r1 =>
      obtain ⟨x, s1⟩ := r1
      simp only [hs, Option.bind_some] at h
      cases x with
      | norm => exact ih _ _ h
      | exit i => cases h; exact ⟨hq _ _ hs (by simp), by simp⟩
      | ret => cases h; exact ⟨hq _ _ hs (by simp), by simp⟩
theorem exec_exits {cfg : Cfg} {call : CallF} {n n0 : Nat} : ∀ (c : C) (s : S) (i : Nat) (s' : S), exec cfg call n n0 c s = some (.exit i, s') → i ∈ exits c := by
  intro c
  induction c with
  | skip => intro s i s' h; simp [exec] at h
  | ops dr l =>
    intro s i s' h
    simp only [exec, Option.bind_eq_some_iff] at h
    obtain ⟨_, _, h⟩ := h
    split at h <;> cases h
  | seq a b iha ihb =>
    intro s i s' h
    simp only [exec] at h
    cases h1 : exec cfg call n n0 a s with
    | none => simp [h1] at h
    | some r =>
      obtain ⟨x, s1⟩ := r
      simp only [h1, Option.bind_some] at h
      cases x with
      | norm => exact List.mem_append.2 (.inr (ihb _ _ _ h))
      | exit k => cases h; exact List.mem_append.2 (.inl (iha _ _ _ h1))
      | ret => cases h
  | cseq f a b iha ihb =>
    intro s i s' h
    simp only [exec] at h
    cases h1 : exec cfg call n n0 a s with
    | none => simp [h1] at h
    | some r =>
      obtain ⟨x, s1⟩ := r
      simp only [h1, Option.bind_some] at h
      cases x with
      | norm => exact List.mem_append.2 (.inr (ihb _ _ _ h))
      | exit k => cases h; exact List.mem_append.2 (.inl (iha _ _ _ h1))
      | ret => cases h
  | cond c a b iha ihb =>
    intro s i s' h
    simp only [exec] at h
    cases h1 : evalO s.env c with
    | none => simp [h1] at h
    | some v =>
      cases v <;> simp only [h1, Option.bind_some] at h <;> first | (cases h; done) | skip
      split at h
      · exact List.mem_append.2 (.inl (iha _ _ _ h))
      · exact List.mem_append.2 (.inr (ihb _ _ _ h))
  | block id c ih =>
    intro s i s' h
    simp only [exec, Option.map_eq_some_iff] at h
    obtain ⟨⟨x, s1⟩, h1, h2⟩ := h
    cases x with
    | norm => cases h2
    | ret => cases h2
    | exit k =>
      simp only at h2
      split at h2
      · cases h2
      · cases h2; exact ih _ _ _ h1
  | loop f c ih =>
    intro s i s' h
    simp only [exec, Option.map_eq_some_iff] at h
    obtain ⟨⟨x, s1⟩, h1, h2⟩ := h
    cases h2
    have := iter_from (Q := fun x => ∀ k, x = .exit k → k ∈ exits c) (fun s r hr _ k e => ih _ k r.2 (by rw [← e]; exact hr)) _ _ _ h1
    exact this.1 i rfl
  | exit k => intro s i s' h; simp only [exec, Option.some.injEq, Prod.mk.injEq, Ex.exit.injEq] at h; rw [← h.1]; exact List.mem_singleton.2 rfl
  | ret => intro s i s' h; simp [exec] at h
  | start g => intro s i s' h; simp only [exec, Option.map_eq_some_iff] at h; obtain ⟨_, _, h⟩ := h; cases h
  | uncons g ps ws a b iha ihb =>
    intro s i s' h
    simp only [exec] at h
    split at h
    · exact List.mem_append.2 (.inr (ihb _ _ _ h))
    · split at h
      · simp only [Option.map_eq_some_iff] at h
        obtain ⟨⟨x, s1⟩, h1, h2⟩ := h
        cases h2
        exact List.mem_append.2 (.inl (iha _ _ _ h1))
      · cases h
    · cases h
theorem straight_norm {cfg : Cfg} {call : CallF} {n n0 : Nat} : ∀ (c : C), straight c = true → ∀ (s : S) (x : Ex) (s' : S), exec cfg call n n0 c s = some (x, s') → x = .norm := by
  intro c
  induction c with
  | skip => intro _ s x s' h; simp [exec] at h; exact h.1.symm
  | ops dr l =>
    intro _ s x s' h
    simp only [exec, Option.bind_eq_some_iff] at h
    obtain ⟨_, _, h⟩ := h
    split at h <;> cases h
    rfl
  | seq a b iha ihb =>
    intro hs s x s' h
    simp only [straight, Bool.and_eq_true] at hs
    simp only [exec] at h
    cases h1 : exec cfg call n n0 a s with
    | none => simp [h1] at h
    | some r =>
      obtain ⟨x1, s1⟩ := r
      have := iha hs.1 _ _ _ h1
      subst this
      simp only [h1, Option.bind_some] at h
      exact ihb hs.2 _ _ _ h
  | _ => intro hs; cases hs
theorem forget_get : ∀ (f : List Nat) (env : List V) (i : Nat), (forget env f)[i]? = env[i]? ∨ (forget env f)[i]? = some .junk := by
  intro f
  induction f with
  | nil => intro env i; exact .inl rfl
  | cons t f ih =>
    intro env i
    simp only [forget]
    rcases ih (env.set t .junk) i with h | h
    · rw [h]
      by_cases e : t = i
      · subst e
        by_cases hl : t < env.length
        · exact .inr (List.getElem?_set_self hl)
        · left; rw [List.set_eq_of_length_le (by omega)]
      · exact .inl (List.getElem?_set_ne e)
    · exact .inr h
theorem forget_len : ∀ (f : List Nat) (env : List V), (forget env f).length = env.length := by
  intro f
  induction f with
  | nil => intro env; rfl
  | cons t f ih => intro env; simp only [forget]; rw [ih, List.length_set]
theorem forget_junk : ∀ (f : List Nat) (env : List V) (i : Nat) (v : V), (forget env f)[i]? = some v → v = .junk ∨ (i ∉ f ∧ env[i]? = some v) := by
  intro f
  induction f with
  | nil => intro env i v h; exact .inr ⟨by simp, h⟩
  | cons t f ih =>
    intro env i v h
    simp only [forget] at h
    rcases ih _ i v h with e | ⟨h1, h2⟩
    · exact .inl e
    · by_cases e : t = i
      · subst e
        have hlt : t < env.length := by have := (List.getElem?_eq_some_iff.1 h2).1; simpa using this
        rw [List.getElem?_set_self hlt] at h2
        exact .inl (Option.some.inj h2).symm
      · rw [List.getElem?_set_ne e] at h2
        exact .inr ⟨by simp [h1, Ne.symm e], h2⟩
theorem clean_len (n0 : Nat) (f : List Nat) (s : S) : (clean n0 f s).env.length = s.env.length := by simp [clean, tidy, tidyWith, forget_len]
theorem clean_rest {n0 : Nat} {f : List Nat} {s : S} {g : Nat} {ts : List TypeId} {l : List V} (h : s.env[g]? = some (.rest ts l)) : (clean n0 f s).env[g]? = some (.rest ts l) ∨ (clean n0 f s).env[g]? = some .junk := by
  simp only [clean, tidy, tidyWith, List.getElem?_map]
  rcases forget_get f s.env g with e | e
  · rw [e, h]; exact .inl rfl
  · rw [e]; exact .inr rfl
end
end Go.Lite