/-
  Forgetting, and putting the memory in order.
-/
import Derived.Test.YtknapnnpmfhogaaLite15
namespace Go.Lite
open Go Go.MapKept
section
variable {P : Program} {Z Z' : Zs} {w w' : World} {j j' : J} {mem mem' : List O}
theorem tidy_sound {s : S} {a : Act} {n0 : Nat} {ids : List Nat} (hn : n0 ≤ s.mem.length) (hnd : ids.Nodup) (hge : ∀ i ∈ ids, n0 ≤ i) (st : St Z w j s.env a) (sr : SR P Z w j s.mem) :
    St Z w (jOf n0 ids j) (tidyWith n0 ids s).env a ∧ SR P Z w (jOf n0 ids j) (tidyWith n0 ids s).mem ∧ Stp Z w j s.mem Z w (jOf n0 ids j) (tidyWith n0 ids s).mem ∧ ∀ id, id < n0 → jOf n0 ids j id = j id := by
  obtain ⟨h1, h2, h3⟩ := tidy_core hn hnd hge sr
  refine ⟨⟨by simp [tidyWith, st.len], fun i v hv => ?_⟩, h1, ⟨rfl, rfl, rfl, Nat.le_refl _, fun _ _ _ => ⟨rfl, fun _ => Iff.rfl⟩, fun g _ hg => ?_, ZExt.refl _ _, fun t hno => ⟨fun k o n ho hr => ?_, rfl⟩⟩, h3⟩
  · simp only [tidyWith, List.getElem?_map, Option.map_eq_some_iff] at hv
    obtain ⟨v0, h0, rfl⟩ := hv
    obtain ⟨u, hu, hvr⟩ := st.val i v0 h0
    exact ⟨u, hu, hvr.ren2 (rho_ok n0 ids j)⟩
  · obtain ⟨k, o, ho, hl, hb⟩ := hg
    obtain ⟨i, o0, h0, hl0, ha, hji, _⟩ := h2 k o ho hl
    exact ⟨i, o0, h0, hl0, tidy_blk ha hji hb⟩
  · obtain ⟨i, o0, h0, hl0, ha, _, _⟩ := h2 k o ho (ar_live hr)
    exact hno i o0 n h0 (by rw [← ha]; exact hr)
theorem forget_sound {a : Act} : ∀ (ts : List Nat) (env : List V), St Z w j env a → St Z w j (forget env ts) a := by
  intro ts
  induction ts with
  | nil => intro env h; exact h
  | cons t ts ih =>
    intro env h
    refine ih _ ⟨by simp [h.len], fun i v hv => ?_⟩
    by_cases e : t = i
    · subst e
      have hlt : t < env.length := by have := (List.getElem?_eq_some_iff.1 hv).1; simpa using this
      rw [List.getElem?_set_self hlt] at hv
      cases hv
      exact ⟨a.tmps[t]'(by rw [h.len]; exact hlt), Array.getElem?_eq_getElem _, .junk⟩
    · rw [List.getElem?_set_ne e] at hv
      exact h.val i v hv
def JK (n0 : Nat) (j j' : J) : Prop := ∀ id h, id < n0 → j id = some h → j' id = some h
theorem clean_sound {s : S} {a : Act} (n0 : Nat) (f : List Nat) (st : St Z w j s.env a) (sr : SR P Z w j s.mem) :
    ∃ j', St Z w j' (clean n0 f s).env a ∧ SR P Z w j' (clean n0 f s).mem ∧ Stp Z w j s.mem Z w j' (clean n0 f s).mem ∧ JK n0 j j' := by
  obtain ⟨h1, h2⟩ := idsOf_ok (min n0 s.mem.length) ⟨forget s.env f, s.mem⟩
  obtain ⟨a1, a2, a3, a4⟩ := tidy_sound (s := ⟨forget s.env f, s.mem⟩) (Nat.min_le_right n0 s.mem.length) h1 h2 (forget_sound f s.env st) sr
  refine ⟨_, a1, a2, a3, fun id h hid hj => ?_⟩
  by_cases hl : id < s.mem.length
  · rw [a4 id (by omega)]; exact hj
  · rw [sr.out id (by omega)] at hj; cases hj
end
end Go.Lite