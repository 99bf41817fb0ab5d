/-
  Forgetting, and putting the memory in order.
-/
import Derived.Test.YtnaidbmgibmnbaaLite15
namespace Go.Lite
open Go Go.MapKept

section
variable {P : Program} {Z Z' : Zs} {w w' : World} {j j' : J} {mem mem' : List O}

theorem addIds_ok {n0 : Nat} : ∀ (is acc : List Nat), acc.Nodup → (∀ i ∈ acc, n0 ≤ i) → (addIds n0 acc is).Nodup ∧ ∀ i ∈ addIds n0 acc is, n0 ≤ i := by
  intro is
  induction is with
  | nil => intro acc h1 h2; exact ⟨h1, h2⟩
  | cons i is ih =>
    intro acc h1 h2
    simp only [addIds]
    split
    · exact ih acc h1 h2
    · rename_i h
      simp only [Bool.or_eq_true, decide_eq_true_eq, not_or, List.contains_iff_mem] at h
      refine ih _ ?_ ?_
      · rw [List.nodup_append]
        refine ⟨h1, by simp, fun a ha b hb => ?_⟩
        simp at hb
        subst hb
        intro e; subst e; exact h.2 ha
      · intro k hk
        simp at hk
        rcases hk with hk | rfl
        · exact h2 k hk
        · omega

theorem reach_ok {n0 : Nat} {mem : List O} : ∀ (k : Nat) (acc : List Nat), acc.Nodup → (∀ i ∈ acc, n0 ≤ i) → (reach n0 mem k acc).Nodup ∧ ∀ i ∈ reach n0 mem k acc, n0 ≤ i := by
  intro k
  induction k with
  | zero => intro acc h1 h2; exact ⟨h1, h2⟩
  | succ k ih =>
    intro acc h1 h2
    simp only [reach]
    split
    · exact ⟨h1, h2⟩
    · obtain ⟨a, b⟩ := addIds_ok (acc.flatMap (refsO mem)) acc h1 h2
      exact ih _ a b

theorem idsOf_ok (n0 : Nat) (s : S) : (idsOf n0 s).Nodup ∧ ∀ i ∈ idsOf n0 s, n0 ≤ i := by
  obtain ⟨a, b⟩ := addIds_ok (n0 := n0) (s.env.flatMap refs2 ++ (List.range n0).flatMap fun i => refsO s.mem i) [] List.nodup_nil (by simp)
  exact reach_ok _ _ a b

theorem ren2_cells {ρ : Nat → Option Nat} {v : V} : (ren2 ρ v).cells.length = v.cells.length ∧ ∀ (i : Nat) (y : V), (ren2 ρ v).cells[i]? = some y → ∃ x, v.cells[i]? = some x ∧ (y = ren1 ρ x ∨ y = ren2 ρ x) := by
  have one : ∀ (v v' : V), v.cells = [v] → v' = ren2 ρ v → v'.cells = [v'] → v'.cells.length = v.cells.length ∧ ∀ (i : Nat) (y : V), v'.cells[i]? = some y → ∃ x, v.cells[i]? = some x ∧ (y = ren1 ρ x ∨ y = ren2 ρ x) := by
    intro v v' h1 h2 h3
    rw [h1, h3]
    refine ⟨rfl, fun i y hy => ?_⟩
    cases i with
    | zero => simp at hy; subst hy; exact ⟨v, rfl, .inr h2⟩
    | succ i => simp at hy
  cases v with
  | agg cs =>
    refine ⟨by simp [ren2, V.cells], fun i y hy => ?_⟩
    simp only [ren2, V.cells, List.getElem?_map, Option.map_eq_some_iff] at hy
    obtain ⟨x, hx, rfl⟩ := hy
    exact ⟨x, hx, .inl rfl⟩
  | own id => exact one _ _ rfl rfl (by simp only [ren2, ren1, ren0]; split <;> rfl)
  | win id a b => exact one _ _ rfl rfl (by simp only [ren2, ren1, ren0]; split <;> rfl)
  | tail id a => exact one _ _ rfl rfl (by simp only [ren2, ren1, ren0]; split <;> rfl)
  | ptr id a b => exact one _ _ rfl rfl (by simp only [ren2, ren1, ren0]; split <;> rfl)
  | mp id => exact one _ _ rfl rfl (by simp only [ren2, ren1, ren0]; split <;> rfl)
  | _ => exact one _ _ rfl rfl rfl

theorem OR.ren {ρ : Nat → Option Nat} (hr : RhoOK ρ j j') {i k : Nat} (hk : j' k = j i) {o : O} (h : OR P Z w j i o) : OR P Z w j' k (renO ρ o) := by
  cases o with
  | dead => exact True.intro
  | row t els fz => obtain ⟨hn, h1, h2⟩ := h; exact ⟨hn, hk.trans h1, h2⟩
  | map es => obtain ⟨r, es', clock, h1, h2⟩ := h; exact ⟨r, es', clock, hk.trans h1, h2⟩
  | box t v fz =>
    simp only [renO]
    split
    · rename_i hall
      obtain ⟨g, us, h1, h2, h3, h4, h5, h6⟩ := h
      obtain ⟨r1, r2⟩ := ren2_cells (ρ := ρ) (v := v)
      refine ⟨g, us, hk.trans h1, h2, by omega, h4, fun n y hy => ?_, h6⟩
      obtain ⟨x, hx, hyx⟩ := r2 n y hy
      obtain ⟨_, u, hu, hv⟩ := h5 n x hx
      refine ⟨List.all_eq_true.1 hall y (List.mem_of_getElem? hy), u, hu, ?_⟩
      rcases hyx with rfl | rfl
      · exact hv.ren1 hr
      · exact hv.ren2 hr
    · exact True.intro

theorem renO_live {ρ : Nat → Option Nat} {o : O} (h : (renO ρ o).live = true) : o.live = true := by
  cases o <;> first | rfl | exact h

def jOf (n0 : Nat) (ids : List Nat) (j : J) : J := fun k => if k < n0 then j k else (ids[k - n0]?).bind j

theorem idxO_get {i : Nat} : ∀ {l : List Nat} {m : Nat}, idxO i l = some m → l[m]? = some i := by
  intro l
  induction l with
  | nil => intro m h; simp [idxO] at h
  | cons x l ih =>
    intro m h
    simp only [idxO] at h
    split at h
    · rename_i e; cases h; simp [e]
    · simp only [Option.map_eq_some_iff] at h
      obtain ⟨m', hm, rfl⟩ := h
      simpa using ih hm

theorem rho_ok (n0 : Nat) (ids : List Nat) (j : J) : RhoOK (rhoOf n0 ids) j (jOf n0 ids j) := by
  intro i k h
  simp only [rhoOf] at h
  unfold jOf
  split at h
  · rename_i hlt; cases h; rw [if_pos hlt]
  · simp only [Option.map_eq_some_iff] at h
    obtain ⟨m, hm, rfl⟩ := h
    have hm' : ids[m]? = some i := idxO_get hm
    rw [if_neg (by omega), show n0 + m - n0 = m by omega, hm']
    rfl

/-- the memory in order -/
theorem tidy_sound {s : S} {a : Act} {n0 : Nat} {ids : List Nat} (hn : n0 ≤ s.mem.length) (hnd : ids.Nodup) (hge : ∀ i ∈ ids, n0 ≤ i) (st : St Z w j s.env a) (sr : SR P Z w j s.mem) :
    St Z w (jOf n0 ids j) (tidyWith n0 ids s).env a ∧ SR P Z w (jOf n0 ids j) (tidyWith n0 ids s).mem ∧ Stp Z w j s.mem Z w (jOf n0 ids j) (tidyWith n0 ids s).mem ∧ ∀ id, id < n0 → jOf n0 ids j id = j id := by
  have hρ := rho_ok n0 ids j
  have hj : ∀ id, id < n0 → jOf n0 ids j id = j id := fun id h => by simp [jOf, h]
  have hto : ((s.mem.take n0).map (renO (rhoOf n0 ids))).length = n0 := by simp; omega
  -- which object it was
  have pre : ∀ (k : Nat) (o : O), (tidyWith n0 ids s).mem[k]? = some o → o.live = true → ∃ i o0, s.mem[i]? = some o0 ∧ o = renO (rhoOf n0 ids) o0 ∧ jOf n0 ids j k = j i ∧ ((k < n0 ∧ i = k) ∨ (n0 ≤ k ∧ ids[k - n0]? = some i)) := by
    intro k o ho hl
    simp only [tidyWith] at ho
    by_cases hk : k < n0
    · rw [List.getElem?_append_left (by omega)] at ho
      simp only [List.getElem?_map, Option.map_eq_some_iff, List.getElem?_take, if_pos hk] at ho
      obtain ⟨o0, h0, rfl⟩ := ho
      exact ⟨k, o0, h0, rfl, hj k hk, .inl ⟨hk, rfl⟩⟩
    · rw [List.getElem?_append_right (by omega), hto] at ho
      simp only [List.getElem?_map, Option.map_eq_some_iff] at ho
      obtain ⟨i, hi, rfl⟩ := ho
      cases hm : s.mem[i]? with
      | none => rw [hm] at hl; simp [renO, O.live] at hl
      | some o0 => exact ⟨i, o0, hm, by simp, by simp [jOf, hk, hi], .inr ⟨by omega, hi⟩⟩
  refine ⟨⟨by simp [tidyWith, st.len], fun i v hv => ?_⟩, ⟨fun k o ho => ?_, fun k k' o o' g ho ho' hl hl' hb hb' => ?_, fun k hk => ?_, sr.zin⟩, ⟨rfl, rfl, rfl, Nat.le_refl _, fun _ _ _ => ⟨rfl, fun _ => Iff.rfl⟩, fun g _ hg => ?_, ZExt.refl _ _⟩, hj⟩
  · simp only [tidyWith, List.getElem?_map, Option.map_eq_some_iff] at hv
    obtain ⟨v0, h0, rfl⟩ := hv
    obtain ⟨u, hu, hvr⟩ := st.val i v0 h0
    exact ⟨u, hu, hvr.ren2 hρ⟩
  · by_cases hl : o.live = true
    · obtain ⟨i, o0, h0, rfl, hji, _⟩ := pre k o ho hl
      exact (sr.obj i o0 h0).ren hρ hji
    · cases o <;> first | exact True.intro | (simp [O.live] at hl)
  · obtain ⟨i, o0, h0, rfl, hji, hc⟩ := pre k o ho hl
    obtain ⟨i', o0', h0', rfl, hji', hc'⟩ := pre k' o' ho' hl'
    have e : i = i' := sr.inj i i' o0 o0' g h0 h0' (renO_live hl) (renO_live hl') (by simpa [blkOf, hji] using hb) (by simpa [blkOf, hji'] using hb')
    subst e
    rcases hc with ⟨a1, a2⟩ | ⟨a1, a2⟩ <;> rcases hc' with ⟨b1, b2⟩ | ⟨b1, b2⟩
    · omega
    · have := hge i (List.mem_of_getElem? b2); omega
    · have := hge i (List.mem_of_getElem? a2); omega
    · have hlt := (List.getElem?_eq_some_iff.1 a2).1
      have hlt' := (List.getElem?_eq_some_iff.1 b2).1
      have e1 := (List.getElem?_eq_some_iff.1 a2).2
      have e2 := (List.getElem?_eq_some_iff.1 b2).2
      have := List.pairwise_iff_getElem.1 hnd
      rcases Nat.lt_trichotomy (k - n0) (k' - n0) with h | h | h
      · exact (this _ _ hlt hlt' h (e1.trans e2.symm)).elim
      · omega
      · exact (this _ _ hlt' hlt h (e2.trans e1.symm)).elim
  · simp only [tidyWith, List.length_append, hto, List.length_map] at hk
    unfold jOf
    rw [if_neg (by omega), List.getElem?_eq_none (by omega)]
    rfl
  · obtain ⟨k, o, ho, hl, hb⟩ := hg
    obtain ⟨i, o0, h0, rfl, hji, _⟩ := pre k o ho hl
    exact ⟨i, o0, h0, renO_live hl, by simpa [blkOf, hji] using hb⟩

theorem forget_sound {a : Act} : ∀ (ts : List Nat) (env : List V), St Z w j env a → St Z w j (forget env ts) a := by
  intro ts
  induction ts with
  | nil => intro env h; exact h
  | cons t ts ih =>
    intro env h
    refine ih _ ⟨by simp [h.len], fun i v hv => ?_⟩
    by_cases e : t = i
    · subst e
      have hlt : t < env.length := by have := (List.getElem?_eq_some_iff.1 hv).1; simpa using this
      rw [List.getElem?_set_self hlt] at hv
      cases hv
      exact ⟨a.tmps[t]'(by rw [h.len]; exact hlt), Array.getElem?_eq_getElem _, .junk⟩
    · rw [List.getElem?_set_ne e] at hv
      exact h.val i v hv

/-- numbers below n0 stay -/
def JK (n0 : Nat) (j j' : J) : Prop := ∀ id h, id < n0 → j id = some h → j' id = some h

theorem clean_sound {s : S} {a : Act} (n0 : Nat) (f : List Nat) (st : St Z w j s.env a) (sr : SR P Z w j s.mem) :
    ∃ j', St Z w j' (clean n0 f s).env a ∧ SR P Z w j' (clean n0 f s).mem ∧ Stp Z w j s.mem Z w j' (clean n0 f s).mem ∧ JK n0 j j' := by
  obtain ⟨h1, h2⟩ := idsOf_ok (min n0 s.mem.length) ⟨forget s.env f, s.mem⟩
  obtain ⟨a1, a2, a3, a4⟩ := tidy_sound (s := ⟨forget s.env f, s.mem⟩) (Nat.min_le_right n0 s.mem.length) h1 h2 (forget_sound f s.env st) sr
  refine ⟨_, a1, a2, a3, fun id h hid hj => ?_⟩
  by_cases hl : id < s.mem.length
  · rw [a4 id (by omega)]; exact hj
  · rw [sr.out id (by omega)] at hj; cases hj
end

end Go.Lite
