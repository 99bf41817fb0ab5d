/-
  Numbers turned: the relation is kept; a call over what its arguments lead to alone, in an order of its own.
-/
import Derived.Test.YtknapnnpmfhogaaLite10
namespace Go.Lite
open Go Go.MapKept
set_option linter.unusedVariables false
section
variable {P : Program} {Z Z' : Zs} {w w' : World} {j j' : J} {mem mem' : List O}
def RhoOK (ρ : Nat → Option Nat) (j j' : J) : Prop := ∀ i k, ρ i = some k → j' k = j i
theorem VR.ren0 {ρ : Nat → Option Nat} (hr : RhoOK ρ j j') {v : V} {u : Value} (h : VR Z w j v u) : VR Z w j' (ren0 ρ v) u := by
  cases h with
  | junk => exact .junk
  | rest => exact .rest
  | bool => exact .bool
  | int => exact .int
  | str => exact .str
  | agg _ _ => exact .junk
  | tup hl hh =>
    rename_i cs us
    simp only [Lite.ren0]
    split
    · rename_i hc
      have : cs = [] := by simpa using hc
      subst this
      exact .tup hl fun i c u hc => by simp at hc
    · exact .junk
  | nilS => exact .nilS
  | sl0 => exact .sl0
  | sl f a b c d e => exact .sl f a b c d e
  | lit h hk hz => exact .lit (h.down _) hk hz
  | own hj h0 =>
    simp only [Lite.ren0]
    split
    · rename_i k hk; exact .own ((hr _ _ hk).trans hj) h0
    · exact .junk
  | win hj a b c d =>
    simp only [Lite.ren0]
    split
    · rename_i k hk; exact .win ((hr _ _ hk).trans hj) a b c d
    · exact .junk
  | tail hj hn h =>
    simp only [Lite.ren0]
    split
    · rename_i k hk
      cases h with
      | win hj' a b c d => exact .tail ((hr _ _ hk).trans hj) hn (.win ((hr _ _ hk).trans hj') a b c d)
    · exact .junk
  | ptr hj a =>
    simp only [Lite.ren0]
    split
    · rename_i k hk; exact .ptr ((hr _ _ hk).trans hj) a
    · exact .junk
  | ref f a b => exact .ref f a b
  | fn hl hh =>
    rename_i cs us
    simp only [Lite.ren0]
    split
    · rename_i hc
      have : cs = [] := by simpa using hc
      subst this
      exact .fn hl fun i c u hc => by simp at hc
    · exact .junk
  | mp hj =>
    simp only [Lite.ren0]
    split
    · rename_i k hk; exact .mp ((hr _ _ hk).trans hj)
    · exact .junk
  | nilP => exact .nilP
  | nilF => exact .nilF
  | nilM => exact .nilM
  | hp h => exact .hp h
  | hm h => exact .hm h
theorem VR.ren1 {ρ : Nat → Option Nat} (hr : RhoOK ρ j j') {v : V} {u : Value} (h : VR Z w j v u) : VR Z w j' (ren1 ρ v) u := by
  cases h with
  | fn hl hh =>
    refine .fn (by simpa using hl) fun i c u hc hu => ?_
    simp only [List.getElem?_map, Option.map_eq_some_iff] at hc
    obtain ⟨c0, h0, rfl⟩ := hc
    exact (hh i c0 u h0 hu).ren0 hr
  | agg hl hh => exact VR.ren0 hr (.agg hl hh)
  | tup hl hh => exact VR.ren0 hr (.tup hl hh)
  | junk => exact VR.ren0 hr .junk
  | rest => exact VR.ren0 hr .rest
  | bool => exact VR.ren0 hr .bool
  | int => exact VR.ren0 hr .int
  | str => exact VR.ren0 hr .str
  | nilS => exact VR.ren0 hr .nilS
  | sl0 => exact VR.ren0 hr .sl0
  | sl f a b c d e => exact VR.ren0 hr (.sl f a b c d e)
  | lit h hk hz => exact VR.ren0 hr (.lit h hk hz)
  | own hj h0 => exact VR.ren0 hr (.own hj h0)
  | win hj a b c d => exact VR.ren0 hr (.win hj a b c d)
  | tail hj hn h => exact VR.ren0 hr (.tail hj hn h)
  | ptr hj a => exact VR.ren0 hr (.ptr hj a)
  | ref f a b => exact VR.ren0 hr (.ref f a b)
  | mp hj => exact VR.ren0 hr (.mp hj)
  | nilP => exact VR.ren0 hr .nilP
  | nilF => exact VR.ren0 hr .nilF
  | nilM => exact VR.ren0 hr .nilM
  | hp h => exact VR.ren0 hr (.hp h)
  | hm h => exact VR.ren0 hr (.hm h)
theorem VR.ren2 {ρ : Nat → Option Nat} (hr : RhoOK ρ j j') {v : V} {u : Value} (h : VR Z w j v u) : VR Z w j' (ren2 ρ v) u := by
  have lst : ∀ {cs : List V} {us : List Value}, (∀ (i : Nat) (c : V) (u : Value), cs[i]? = some c → us[i]? = some u → VR Z w j c u) → ∀ (i : Nat) (c : V) (u : Value), (cs.map (Lite.ren1 ρ))[i]? = some c → us[i]? = some u → VR Z w j' c u := by
    intro cs us hh i c u hc hu
    simp only [List.getElem?_map, Option.map_eq_some_iff] at hc
    obtain ⟨c0, h0, rfl⟩ := hc
    exact (hh i c0 u h0 hu).ren1 hr
  cases h with
  | agg hl hh => exact .agg (by simpa using hl) (lst hh)
  | tup hl hh => exact .tup (by simpa using hl) (lst hh)
  | fn hl hh => exact .fn (by simpa using hl) (lst hh)
  | junk => exact VR.ren1 hr .junk
  | rest => exact VR.ren1 hr .rest
  | bool => exact VR.ren1 hr .bool
  | int => exact VR.ren1 hr .int
  | str => exact VR.ren1 hr .str
  | nilS => exact VR.ren1 hr .nilS
  | sl0 => exact VR.ren1 hr .sl0
  | sl f a b c d e => exact VR.ren1 hr (.sl f a b c d e)
  | lit h hk hz => exact VR.ren1 hr (.lit h hk hz)
  | own hj h0 => exact VR.ren1 hr (.own hj h0)
  | win hj a b c d => exact VR.ren1 hr (.win hj a b c d)
  | tail hj hn h => exact VR.ren1 hr (.tail hj hn h)
  | ptr hj a => exact VR.ren1 hr (.ptr hj a)
  | ref f a b => exact VR.ren1 hr (.ref f a b)
  | mp hj => exact VR.ren1 hr (.mp hj)
  | nilP => exact VR.ren1 hr .nilP
  | nilF => exact VR.ren1 hr .nilF
  | nilM => exact VR.ren1 hr .nilM
  | hp h => exact VR.ren1 hr (.hp h)
  | hm h => exact VR.ren1 hr (.hm h)
theorem addIds_ok {n0 : Nat} : ∀ (is acc : List Nat), acc.Nodup → (∀ i ∈ acc, n0 ≤ i) → (addIds n0 acc is).Nodup ∧ ∀ i ∈ addIds n0 acc is, n0 ≤ i := by
  intro is
  induction is with
  | nil => intro acc h1 h2; exact ⟨h1, h2⟩
  | cons i is ih =>
    intro acc h1 h2
    simp only [addIds]
    split
    · exact ih acc h1 h2
    · rename_i h
      simp only [Bool.or_eq_true, decide_eq_true_eq, not_or, List.contains_iff_mem] at h
      refine ih _ ?_ ?_
      · rw [List.nodup_append]
        refine ⟨h1, by simp, fun a ha b hb => ?_⟩
        simp at hb
        subst hb
        intro e; subst e; exact h.2 ha
      · intro k hk
        simp at hk
        rcases hk with hk | rfl
        · exact h2 k hk
        · omega
theorem reach_ok {n0 : Nat} {mem : List O} : ∀ (k : Nat) (acc : List Nat), acc.Nodup → (∀ i ∈ acc, n0 ≤ i) → (reach n0 mem k acc).Nodup ∧ ∀ i ∈ reach n0 mem k acc, n0 ≤ i := by
  intro k
  induction k with
  | zero => intro acc h1 h2; exact ⟨h1, h2⟩
  | succ k ih =>
    intro acc h1 h2
    simp only [reach]
    split
    · exact ⟨h1, h2⟩
    · obtain ⟨a, b⟩ := addIds_ok (acc.flatMap (refsO mem)) acc h1 h2
      exact ih _ a b
theorem idsOf_ok (n0 : Nat) (s : S) : (idsOf n0 s).Nodup ∧ ∀ i ∈ idsOf n0 s, n0 ≤ i := by
  obtain ⟨a, b⟩ := addIds_ok (n0 := n0) (s.env.flatMap refs2 ++ (List.range n0).flatMap fun i => refsO s.mem i) [] List.nodup_nil (by simp)
  exact reach_ok _ _ a b
theorem ren2_cells {ρ : Nat → Option Nat} {v : V} : (ren2 ρ v).cells.length = v.cells.length ∧ ∀ (i : Nat) (y : V), (ren2 ρ v).cells[i]? = some y → ∃ x, v.cells[i]? = some x ∧ (y = ren1 ρ x ∨ y = ren2 ρ x) := by
  have one : ∀ (v v' : V), v.cells = [v] → v' = ren2 ρ v → v'.cells = [v'] → v'.cells.length = v.cells.length ∧ ∀ (i : Nat) (y : V), v'.cells[i]? = some y → ∃ x, v.cells[i]? = some x ∧ (y = ren1 ρ x ∨ y = ren2 ρ x) := by
    intro v v' h1 h2 h3
    rw [h1, h3]
    refine ⟨rfl, fun i y hy => ?_⟩
    cases i with
    | zero => simp at hy; subst hy; exact ⟨v, rfl, .inr h2⟩
    | succ i => simp at hy
  cases v with
  | agg cs =>
    refine ⟨by simp [ren2, V.cells], fun i y hy => ?_⟩
    simp only [ren2, V.cells, List.getElem?_map, Option.map_eq_some_iff] at hy
    obtain ⟨x, hx, rfl⟩ := hy
    exact ⟨x, hx, .inl rfl⟩
  | own id => exact one _ _ rfl rfl (by simp only [ren2, ren1, ren0]; split <;> rfl)
  | win id a b => exact one _ _ rfl rfl (by simp only [ren2, ren1, ren0]; split <;> rfl)
  | tail id a => exact one _ _ rfl rfl (by simp only [ren2, ren1, ren0]; split <;> rfl)
  | ptr id a b => exact one _ _ rfl rfl (by simp only [ren2, ren1, ren0]; split <;> rfl)
  | mp id => exact one _ _ rfl rfl (by simp only [ren2, ren1, ren0]; split <;> rfl)
  | _ => exact one _ _ rfl rfl rfl
theorem OR.ren {ρ : Nat → Option Nat} (hr : RhoOK ρ j j') {i k : Nat} (hk : j' k = j i) {o : O} (h : OR P Z w j i o) (hik : noArena o = false → k = i) : OR P Z w j' k (renO ρ o) := by
  cases o with
  | dead => exact True.intro
  | arena t els => rw [hik rfl]; exact h
  | marena t els => rw [hik rfl]; exact h
  | row t els fz => obtain ⟨hn, h1, h2⟩ := h; exact ⟨hn, hk.trans h1, h2⟩
  | map es => obtain ⟨r, es', clock, h1, h2⟩ := h; exact ⟨r, es', clock, hk.trans h1, h2⟩
  | box t v fz =>
    simp only [renO]
    split
    · rename_i hall
      obtain ⟨g, us, h1, h2, h3, h4, h5, h6⟩ := h
      obtain ⟨r1, r2⟩ := ren2_cells (ρ := ρ) (v := v)
      refine ⟨g, us, hk.trans h1, h2, by omega, h4, fun n y hy => ?_, h6⟩
      obtain ⟨x, hx, hyx⟩ := r2 n y hy
      obtain ⟨_, u, hu, hv⟩ := h5 n x hx
      refine ⟨List.all_eq_true.1 hall y (List.mem_of_getElem? hy), u, hu, ?_⟩
      rcases hyx with rfl | rfl
      · exact hv.ren1 hr
      · exact hv.ren2 hr
    · exact True.intro
theorem OR.renD {ρ : Nat → Option Nat} (hr : RhoOK ρ j j') {i k : Nat} (hk : j' k = j i) {o : O} (h : OR P Z w j i o) : OR P Z w j' k (renD ρ o) := by
  unfold Lite.renD
  cases ha : noArena o with
  | true => exact h.ren hr hk (fun h => by rw [ha] at h; cases h)
  | false => exact True.intro
theorem renO_ar {ρ : Nat → Option Nat} {o : O} (h : (renO ρ o).live = true) : (renO ρ o).ar = o.ar := by
  cases o <;> first | rfl | skip
  simp only [renO]
  split
  · rfl
  · rename_i hc; simp only [renO, if_neg hc] at h; cases h
theorem renD_ar {ρ : Nat → Option Nat} {o : O} : (renD ρ o).ar = none := by
  cases o with
  | box t v fz =>
    show (renO ρ (.box t v fz)).ar = none
    simp only [renO]
    by_cases hc : (ren2 ρ v).cells.all V.one = true
    · rw [if_pos hc]; rfl
    · rw [if_neg hc]; rfl
  | _ => rfl
theorem renO_live {ρ : Nat → Option Nat} {o : O} (h : (renO ρ o).live = true) : o.live = true := by
  cases o <;> first | rfl | exact h
theorem renD_live {ρ : Nat → Option Nat} {o : O} (h : (renD ρ o).live = true) : o.live = true ∧ noArena o = true := by
  unfold Lite.renD at h
  cases ha : noArena o with
  | true => rw [ha] at h; exact ⟨renO_live h, rfl⟩
  | false => rw [ha] at h; cases h
def jOf (n0 : Nat) (ids : List Nat) (j : J) : J := fun k => if k < n0 then j k else (ids[k - n0]?).bind j
theorem idxO_get {i : Nat} : ∀ {l : List Nat} {m : Nat}, idxO i l = some m → l[m]? = some i := by
  intro l
  induction l with
  | nil => intro m h; simp [idxO] at h
  | cons x l ih =>
    intro m h
    simp only [idxO] at h
    split at h
    · rename_i e; cases h; simp [e]
    · simp only [Option.map_eq_some_iff] at h
      obtain ⟨m', hm, rfl⟩ := h
      simpa using ih hm
theorem rho_ok (n0 : Nat) (ids : List Nat) (j : J) : RhoOK (rhoOf n0 ids) j (jOf n0 ids j) := by
  intro i k h
  simp only [rhoOf] at h
  unfold jOf
  split at h
  · rename_i hlt; cases h; rw [if_pos hlt]
  · simp only [Option.map_eq_some_iff] at h
    obtain ⟨m, hm, rfl⟩ := h
    have hm' : ids[m]? = some i := idxO_get hm
    rw [if_neg (by omega), show n0 + m - n0 = m by omega, hm']
    rfl
theorem tidy_core {s : S} {n0 : Nat} {ids : List Nat} (hn : n0 ≤ s.mem.length) (hnd : ids.Nodup) (hge : ∀ i ∈ ids, n0 ≤ i) (sr : SR P Z w j s.mem) :
    SR P Z w (jOf n0 ids j) (tidyWith n0 ids s).mem ∧ (∀ k o, (tidyWith n0 ids s).mem[k]? = some o → o.live = true → ∃ i o0, s.mem[i]? = some o0 ∧ o0.live = true ∧ o.ar = o0.ar ∧ jOf n0 ids j k = j i ∧
      ((k < n0 ∧ i = k) ∨ (n0 ≤ k ∧ ids[k - n0]? = some i ∧ o.ar = none))) ∧ ∀ id, id < n0 → jOf n0 ids j id = j id := by
  have hρ := rho_ok n0 ids j
  have hj : ∀ id, id < n0 → jOf n0 ids j id = j id := fun id h => by simp [jOf, h]
  have hto : ((s.mem.take n0).map (renO (rhoOf n0 ids))).length = n0 := by simp; omega
  have pre : ∀ (k : Nat) (o : O), (tidyWith n0 ids s).mem[k]? = some o → o.live = true → ∃ i o0, s.mem[i]? = some o0 ∧ jOf n0 ids j k = j i ∧ ((k < n0 ∧ i = k ∧ o = renO (rhoOf n0 ids) o0) ∨ (n0 ≤ k ∧ ids[k - n0]? = some i ∧ o = renD (rhoOf n0 ids) o0)) := by
    intro k o ho hl
    simp only [tidyWith] at ho
    by_cases hk : k < n0
    · rw [List.getElem?_append_left (by omega)] at ho
      simp only [List.getElem?_map, Option.map_eq_some_iff, List.getElem?_take, if_pos hk] at ho
      obtain ⟨o0, h0, rfl⟩ := ho
      exact ⟨k, o0, h0, hj k hk, .inl ⟨hk, rfl, rfl⟩⟩
    · rw [List.getElem?_append_right (by omega), hto] at ho
      simp only [List.getElem?_map, Option.map_eq_some_iff] at ho
      obtain ⟨i, hi, rfl⟩ := ho
      cases hm : s.mem[i]? with
      | none => rw [hm] at hl; simp [Lite.renD, noArena, O.ar, renO, O.live] at hl
      | some o0 => exact ⟨i, o0, hm, by simp [jOf, hk, hi], .inr ⟨by omega, hi, by simp⟩⟩
  have pre2 : ∀ k o, (tidyWith n0 ids s).mem[k]? = some o → o.live = true → ∃ i o0, s.mem[i]? = some o0 ∧ o0.live = true ∧ o.ar = o0.ar ∧ jOf n0 ids j k = j i ∧
      ((k < n0 ∧ i = k) ∨ (n0 ≤ k ∧ ids[k - n0]? = some i ∧ o.ar = none)) := by
    intro k o ho hl
    obtain ⟨i, o0, h0, hji, ⟨a1, a2, rfl⟩ | ⟨a1, a2, rfl⟩⟩ := pre k o ho hl
    · exact ⟨i, o0, h0, renO_live hl, renO_ar hl, hji, .inl ⟨a1, a2⟩⟩
    · obtain ⟨b1, b2⟩ := renD_live hl
      have : o0.ar = none := by simpa [noArena] using b2
      exact ⟨i, o0, h0, b1, renD_ar.trans this.symm, hji, .inr ⟨a1, a2, renD_ar⟩⟩
  have blk : ∀ {k i : Nat} {o o0 : O} {g : Nat}, o.ar = o0.ar → jOf n0 ids j k = j i → Blk Z (jOf n0 ids j) k o g → Blk Z j i o0 g := by
    intro k i o o0 g ha hji hb
    unfold Blk at hb ⊢
    rw [ha] at hb
    cases hr : o0.ar with
    | none => rw [hr] at hb; simpa [blkOf, hji] using hb
    | some r => rw [hr] at hb; exact hb
  refine ⟨⟨fun k o ho => ?_, fun k k' o o' g ho ho' hl hl' hb hb' => ?_, fun k hk => ?_, sr.zin⟩, pre2, hj⟩
  · by_cases hl : o.live = true
    · obtain ⟨i, o0, h0, hji, ⟨a1, a2, rfl⟩ | ⟨a1, a2, rfl⟩⟩ := pre k o ho hl
      · exact (sr.obj i o0 h0).ren hρ hji (fun _ => a2.symm)
      · exact (sr.obj i o0 h0).renD hρ hji
    · cases o <;> first | exact True.intro | (simp [O.live] at hl)
  · obtain ⟨i, o0, h0, hl0, ha, hji, hc⟩ := pre2 k o ho hl
    obtain ⟨i', o0', h0', hl0', ha', hji', hc'⟩ := pre2 k' o' ho' hl'
    have e : i = i' := sr.inj i i' o0 o0' g h0 h0' hl0 hl0' (blk ha hji hb) (blk ha' hji' hb')
    subst e
    rcases hc with ⟨a1, a2⟩ | ⟨a1, a2, _⟩ <;> rcases hc' with ⟨b1, b2⟩ | ⟨b1, b2, _⟩
    · omega
    · have := hge i (List.mem_of_getElem? b2); omega
    · have := hge i (List.mem_of_getElem? a2); omega
    · have hlt := (List.getElem?_eq_some_iff.1 a2).1
      have hlt' := (List.getElem?_eq_some_iff.1 b2).1
      have e1 := (List.getElem?_eq_some_iff.1 a2).2
      have e2 := (List.getElem?_eq_some_iff.1 b2).2
      have := List.pairwise_iff_getElem.1 hnd
      rcases Nat.lt_trichotomy (k - n0) (k' - n0) with h | h | h
      · exact (this _ _ hlt hlt' h (e1.trans e2.symm)).elim
      · omega
      · exact (this _ _ hlt' hlt h (e2.trans e1.symm)).elim
  · simp only [tidyWith, List.length_append, hto, List.length_map] at hk
    unfold jOf
    rw [if_neg (by omega), List.getElem?_eq_none (by omega)]
    rfl
theorem tidy_blk {n0 : Nat} {ids : List Nat} {k i : Nat} {o o0 : O} {g : Nat} (ha : o.ar = o0.ar) (hji : jOf n0 ids j k = j i) (hb : Blk Z (jOf n0 ids j) k o g) : Blk Z j i o0 g := by
  unfold Blk at hb ⊢
  rw [ha] at hb
  cases hr : o0.ar with
  | none => rw [hr] at hb; simpa [blkOf, hji] using hb
  | some r => rw [hr] at hb; exact hb
theorem tidy_blk' {jc : J} {k i : Nat} {o o0 : O} {g : Nat} (ha : o.ar = o0.ar) (hji : jc k = j i) (hb : Blk Z jc k o g) : Blk Z j i o0 g := by
  unfold Blk at hb ⊢
  rw [ha] at hb
  cases hr : o0.ar with
  | none => rw [hr] at hb; simpa [blkOf, hji] using hb
  | some r => rw [hr] at hb; exact hb
theorem frontA_spec : ∀ (mem : List O), frontA mem ≤ mem.length ∧ ∀ k, k < frontA mem → ∃ o, mem[k]? = some o ∧ noArena o = false
  | [] => ⟨Nat.le_refl _, fun k h => by simp [frontA] at h⟩
  | o :: l => by
    obtain ⟨h1, h2⟩ := frontA_spec l
    cases ha : noArena o with
    | true => exact ⟨by simp [frontA, ha], fun k h => by simp [frontA, ha] at h⟩
    | false =>
      refine ⟨by simpa [frontA, ha] using h1, fun k h => ?_⟩
      cases k with
      | zero => exact ⟨o, rfl, ha⟩
      | succ k => simpa using h2 k (by simpa [frontA, ha] using h)
theorem front_of : ∀ (c : List O) (n : Nat), (∀ k, k < n → ∃ o, c[k]? = some o ∧ noArena o = false) → n ≤ frontA c
  | [], n, h => by
    cases n with
    | zero => exact Nat.le_refl _
    | succ n => obtain ⟨o, ho, _⟩ := h 0 (by omega); simp at ho
  | o :: l, n, h => by
    cases n with
    | zero => omega
    | succ n =>
      obtain ⟨o', ho, hn⟩ := h 0 (by omega)
      simp at ho
      subst ho
      have := front_of l n fun k hk => by simpa using h (k + 1) (by omega)
      simp only [frontA, hn, cond_false]
      omega
theorem front_le (args : List V) (mem : List O) : frontA mem ≤ frontA (canS args mem).mem := by
  obtain ⟨f1, f2⟩ := frontA_spec mem
  refine front_of _ _ fun k hk => ?_
  obtain ⟨o, ho, hna⟩ := f2 k hk
  refine ⟨renO (rhoOf (frontA mem) (canIds args mem)) o, ?_, ?_⟩
  · simp only [canS, tidyWith]
    rw [List.getElem?_append_left (by simp; omega), List.getElem?_map, List.getElem?_take, if_pos hk, ho]
    rfl
  · cases o <;> first | exact hna | (simp [noArena, O.ar] at hna)
theorem canIds_ok (args : List V) (mem : List O) : (canIds args mem).Nodup ∧ ∀ i ∈ canIds args mem, frontA mem ≤ i := by
  obtain ⟨a, b⟩ := addIds_ok (n0 := frontA mem) (args.flatMap refs2) [] List.nodup_nil (by simp)
  exact reach_ok _ _ a b
theorem canNew_ok (rd : Bool) (n0 : Nat) (c m1 : List O) (v : V) : (canNew rd n0 c m1 v).Nodup ∧ ∀ i ∈ canNew rd n0 c m1 v, n0 ≤ i ∧ stayAt rd c m1 i = false := by
  obtain ⟨a, b⟩ := addIds_ok (n0 := n0) ((List.range c.length).filter (stayAt rd c m1) ++ refs2 v) [] List.nodup_nil (by simp)
  obtain ⟨a, b⟩ := reach_ok (mem := m1) m1.length _ a b
  refine ⟨a.filter _, fun i hi => ?_⟩
  unfold canNew at hi
  rw [List.mem_filter] at hi
  exact ⟨b i hi.1, by simpa using hi.2⟩
theorem oldFrom_get (g : Nat → O → O) : ∀ (l : List O) (i : Nat), (oldFrom g i l).length = l.length ∧ ∀ k, (oldFrom g i l)[k]? = (l[k]?).map fun o => g (i + k) o
  | [], i => ⟨rfl, fun k => by simp [oldFrom]⟩
  | o :: l, i => by
    obtain ⟨h1, h2⟩ := oldFrom_get g l (i + 1)
    refine ⟨by simp [oldFrom, h1], fun k => ?_⟩
    cases k with
    | zero => simp [oldFrom]
    | succ k => simp only [oldFrom, List.getElem?_cons_succ, h2 k, show i + 1 + k = i + (k + 1) by omega]
theorem idxO_none {i : Nat} : ∀ {l : List Nat}, idxO i l = none → i ∉ l := by
  intro l
  induction l with
  | nil => intro _ h; cases h
  | cons x l ih =>
    intro h
    simp only [idxO] at h
    split at h
    · cases h
    · rename_i hne
      simp only [Option.map_eq_none_iff] at h
      intro hm
      rcases List.mem_cons.1 hm with e | hm
      · exact hne e.symm
      · exact ih h hm
theorem nodup_idx {l : List Nat} (h : l.Nodup) {a b i : Nat} (ha : l[a]? = some i) (hb : l[b]? = some i) : a = b := by
  have hlt := (List.getElem?_eq_some_iff.1 ha).1
  have hlt' := (List.getElem?_eq_some_iff.1 hb).1
  have e1 := (List.getElem?_eq_some_iff.1 ha).2
  have e2 := (List.getElem?_eq_some_iff.1 hb).2
  have := List.pairwise_iff_getElem.1 h
  rcases Nat.lt_trichotomy a b with q | q | q
  · exact (this _ _ hlt hlt' q (e1.trans e2.symm)).elim
  · exact q
  · exact (this _ _ hlt' hlt q (e2.trans e1.symm)).elim
theorem VR.ren3 {ρ : Nat → Option Nat} (hr : RhoOK ρ j j') {v : V} {u : Value} (h : VR Z w j v u) : VR Z w j' (ren3 ρ v) u := by
  cases v with
  | tup vs =>
    cases h with
    | tup hl hh =>
      refine .tup (by simpa using hl) fun i c u hc hu => ?_
      simp only [List.getElem?_map, Option.map_eq_some_iff] at hc
      obtain ⟨c0, h0, rfl⟩ := hc
      exact (hh i c0 u h0 hu).ren2 hr
  | _ => exact h.ren2 hr
theorem SR.han (s : SR P Z w j mem) {k : Nat} {o : O} (hm : mem[k]? = some o) (hl : o.live = true) (ha : o.ar = none) : ∃ h, j k = some h := by
  have hO := s.obj k o hm
  cases o with
  | dead => cases hl
  | row t els fz => obtain ⟨h, hh, _⟩ := hO; exact ⟨h, hh⟩
  | box t v fz => obtain ⟨g, us, hh, _⟩ := hO; exact ⟨_, hh⟩
  | map es => obtain ⟨r, es', c, hh, _⟩ := hO; exact ⟨_, hh⟩
  | arena t els => cases ha
  | marena t els => cases ha
theorem canBack_core {n0 : Nat} {ids : List Nat} {c : List O} {jc : J} (hn : n0 ≤ mem.length) (hnd : ids.Nodup) (s : SR P Z w j mem) (sc : SR P Z w jc c)
    (pre : ∀ k o, c[k]? = some o → o.live = true → ∃ i o0, mem[i]? = some o0 ∧ o0.live = true ∧ o.ar = o0.ar ∧ jc k = j i ∧ ((k < n0 ∧ i = k) ∨ (n0 ≤ k ∧ ids[k - n0]? = some i ∧ o.ar = none)))
    {rd : Bool} {v1 : V} {m1 : List O} {u : Value} {w1 : World} (hp : PostOf P Z w jc c v1 m1 u w1) :
    PostOf P Z w j mem (canBackW rd n0 ids c mem v1 m1).1 (canBackW rd n0 ids c mem v1 m1).2 u w1 := by
  obtain ⟨Z1, j1, q1, q2, q3, q4⟩ := hp
  unfold canBackW
  obtain ⟨news, hnews⟩ : ∃ news, news = canNew rd n0 c m1 v1 := ⟨_, rfl⟩
  obtain ⟨nnd, nge⟩ := canNew_ok rd n0 c m1 v1
  simp only
  rw [← hnews] at nnd nge ⊢
  obtain ⟨σ, hσd⟩ : ∃ σ, σ = canSig rd n0 mem.length ids news c m1 := ⟨_, rfl⟩
  rw [← hσd]
  obtain ⟨j2, hj2⟩ : ∃ j2 : J, j2 = fun id => if id < mem.length then j id else (news[id - mem.length]?).bind j1 := ⟨_, rfl⟩
  have j2lo : ∀ id, id < mem.length → j2 id = j id := fun id h => by rw [hj2]; simp only; rw [if_pos h]
  have j2hi : ∀ id, j2 (mem.length + id) = (news[id]?).bind j1 := fun id => by rw [hj2]; simp only; rw [if_neg (by omega), show mem.length + id - mem.length = id by omega]
  have stay : ∀ i, n0 ≤ i → stayAt rd c m1 i = true → ∃ k h, ids[i - n0]? = some k ∧ k < mem.length ∧ j k = some h ∧ j1 i = some h := by
    intro i hi hs
    unfold stayAt liveAt at hs
    rw [Bool.and_eq_true] at hs
    cases hci : c[i]? with
    | none => rw [hci] at hs; simp at hs
    | some o =>
      have hl : o.live = true := by
        rw [hci] at hs
        cases o <;> first | rfl | (simp at hs)
      obtain ⟨k, o0, h0, hl0, ha, hji, hcc⟩ := pre i o hci hl
      rcases hcc with ⟨h1, _⟩ | ⟨h1, h2, h3⟩
      · omega
      · obtain ⟨h, hh⟩ := sc.han hci hl h3
        exact ⟨k, h, h2, (List.getElem?_eq_some_iff.1 h0).1, hji ▸ hh, q4 i h hh⟩
  have hσ : RhoOK σ j1 j2 := by
    intro i k hk
    rw [hσd] at hk
    unfold canSig at hk
    split at hk
    · cases hk
    · rename_i hlt
      cases hs : stayAt rd c m1 i with
      | true =>
        rw [hs, cond_true] at hk
        obtain ⟨k', h, a1, a2, a3, a4⟩ := stay i (by omega) hs
        rw [hk] at a1
        cases a1
        rw [j2lo k a2, a3, a4]
      | false =>
        rw [hs, cond_false] at hk
        simp only [Option.map_eq_some_iff] at hk
        obtain ⟨q, hq, rfl⟩ := hk
        rw [j2hi, idxO_get hq]
        rfl
  have jext : JExt j j2 := fun id h hh => by
    rw [j2lo id (Nat.lt_of_not_le fun hle => by rw [s.out id hle] at hh; cases hh)]
    exact hh
  obtain ⟨mem', hmem'⟩ : ∃ mem', mem' = oldFrom (canOld rd n0 ids σ c m1) 0 mem ++ news.map fun i => renD σ ((m1[i]?).getD .dead) := ⟨_, rfl⟩
  rw [← hmem']
  have olen : (oldFrom (canOld rd n0 ids σ c m1) 0 mem).length = mem.length := (oldFrom_get _ mem 0).1
  have mlen : mem'.length = mem.length + news.length := by rw [hmem', List.length_append, olen, List.length_map]
  have blkD : ∀ {i k : Nat} {o1 : O} {g : Nat}, j2 k = j1 i → (renD σ o1).live = true → Blk Z1 j2 k (renD σ o1) g → Blk Z1 j1 i o1 g := by
    intro i k o1 g hji hl hb
    have h1 : o1.ar = none := by simpa [noArena] using (renD_live hl).2
    have hb := (Blk.plain renD_ar).1 hb
    exact (Blk.plain h1).2 (by simpa [blkOf, hji] using hb)
  have cls : ∀ k o, mem'[k]? = some o → o.live = true →
      (∃ i o1, m1[i]? = some o1 ∧ o1.live = true ∧ OR P Z1 w1 j2 k o ∧ (∀ g, Blk Z1 j2 k o g → Blk Z1 j1 i o1 g) ∧ (∀ t n, o.ar = some (t, n) → o1.ar = some (t, n)) ∧
        ((k < n0 ∧ i = k) ∨ (n0 ≤ k ∧ k < mem.length ∧ n0 ≤ i ∧ ids[i - n0]? = some k ∧ stayAt rd c m1 i = true) ∨ (mem.length ≤ k ∧ news[k - mem.length]? = some i))) ∨
      (n0 ≤ k ∧ k < mem.length ∧ k ∉ ids ∧ mem[k]? = some o) := by
    intro k o ho hl
    rw [hmem'] at ho
    by_cases hk : k < mem.length
    · rw [List.getElem?_append_left (by omega), (oldFrom_get _ mem 0).2 k, Nat.zero_add] at ho
      simp only [Option.map_eq_some_iff] at ho
      obtain ⟨o0, h0, ho⟩ := ho
      unfold canOld at ho
      split at ho
      · rename_i hkn
        left
        unfold canFront at ho
        cases hm1 : m1[k]? with
        | none => rw [hm1] at ho; subst ho; cases hl
        | some o1 =>
          rw [hm1] at ho
          simp only at ho
          cases hna : noArena o1 with
          | true => rw [hna, cond_true] at ho; subst ho; cases hl
          | false =>
            rw [hna, cond_false] at ho
            subst ho
            refine ⟨k, o1, hm1, hl, ?_, fun g hb => ?_, fun _ _ h => h, .inl ⟨hkn, rfl⟩⟩
            · have := q2.obj k o1 hm1
              cases o1 <;> first | exact this | (simp [noArena, O.ar] at hna)
            · unfold Blk at hb ⊢
              cases hr : o1.ar with
              | none => simp [noArena, hr] at hna
              | some r => rw [hr] at hb; exact hb
      · rename_i hkn
        cases hid : idxO k ids with
        | none =>
          rw [hid] at ho
          subst ho
          exact .inr ⟨by omega, hk, idxO_none hid, h0⟩
        | some q =>
          rw [hid] at ho
          simp only at ho
          cases hs : stayAt rd c m1 (n0 + q) with
          | false => rw [hs, cond_false] at ho; subst ho; cases hl
          | true =>
            rw [hs, cond_true] at ho
            subst ho
            have hq := idxO_get hid
            obtain ⟨k', h, a1, a2, a3, a4⟩ := stay (n0 + q) (by omega) hs
            rw [show n0 + q - n0 = q by omega, hq] at a1
            cases a1
            cases hm1 : m1[n0 + q]? with
            | none => rw [hm1] at hl; simp [Lite.renD, noArena, O.ar, renO, O.live] at hl
            | some o1 =>
              rw [hm1] at hl
              simp only [Option.getD_some] at hl ⊢
              have hji : j2 k = j1 (n0 + q) := by rw [j2lo k hk, a3, a4]
              exact .inl ⟨n0 + q, o1, hm1, (renD_live hl).1, (q2.obj _ _ hm1).renD hσ hji, fun g hb => blkD hji hl hb, (fun t n h => by rw [renD_ar] at h; cases h), .inr (.inl ⟨by omega, hk, by omega, by rw [show n0 + q - n0 = q by omega]; exact hq, hs⟩)⟩
    · rw [List.getElem?_append_right (by omega), olen] at ho
      simp only [List.getElem?_map, Option.map_eq_some_iff] at ho
      obtain ⟨i, hi, rfl⟩ := ho
      cases hm1 : m1[i]? with
      | none => rw [hm1] at hl; simp [Lite.renD, noArena, O.ar, renO, O.live] at hl
      | some o1 =>
        rw [hm1] at hl
        simp only [Option.getD_some] at hl ⊢
        have hji : j2 k = j1 i := by
          have := j2hi (k - mem.length)
          rw [show mem.length + (k - mem.length) = k by omega, hi] at this
          exact this
        exact .inl ⟨i, o1, hm1, (renD_live hl).1, (q2.obj _ _ hm1).renD hσ hji, fun g hb => blkD hji hl hb, (fun t n h => by rw [renD_ar] at h; cases h), .inr (.inr ⟨by omega, hi⟩)⟩
  have ownC : ∀ g, Owned Z jc c g → ∃ i o0, mem[i]? = some o0 ∧ o0.live = true ∧ Blk Z j i o0 g ∧ (i < n0 ∨ i ∈ ids) := by
    rintro g ⟨k, o, ho, hl, hb⟩
    obtain ⟨i, o0, h0, hl0, ha, hji, hcc⟩ := pre k o ho hl
    refine ⟨i, o0, h0, hl0, tidy_blk' ha hji hb, ?_⟩
    rcases hcc with ⟨h1, rfl⟩ | ⟨_, h2, _⟩
    · exact .inl h1
    · exact .inr (List.mem_of_getElem? h2)
  have noAc : ∀ t, noA t mem → noA t c := by
    intro t hno k o n ho hr
    have hl := ar_live hr
    obtain ⟨i, o0, h0, hl0, ha, _, _⟩ := pre k o ho hl
    exact hno i o0 n h0 (by rw [← ha]; exact hr)
  have besA : ∀ k o t n, n0 ≤ k → mem[k]? = some o → o.ar = some (t, n) → Z1.a t = Z.a t := by
    intro k o t n hk hm hr
    refine (q3.ar t fun k' o' n' ho' hr' => ?_).2
    obtain ⟨i, o0, h0, hl0, ha, _, hcc⟩ := pre k' o' ho' (ar_live hr')
    rcases hcc with ⟨h1, rfl⟩ | ⟨_, _, h3⟩
    · have e1 := ((s.obj k o hm).arena hr).i
      have e2 := ((s.obj i o0 h0).arena (ha ▸ hr')).i
      rw [e1] at e2
      cases e2
      omega
    · rw [h3] at hr'; cases hr'
  have besB : ∀ k o g, n0 ≤ k → k < mem.length → mem[k]? = some o → Blk Z1 j2 k o g → Blk Z j k o g := by
    intro k o g hk hlt hm hb
    unfold Blk at hb ⊢
    cases hr : o.ar with
    | none => rw [hr] at hb; simpa [blkOf, j2lo k hlt] using hb
    | some r =>
      obtain ⟨t, n⟩ := r
      rw [hr] at hb
      simp only at hb ⊢
      rw [besA k o t n hk hm hr] at hb
      exact hb
  have besN : ∀ k o g, n0 ≤ k → k ∉ ids → mem[k]? = some o → o.live = true → Blk Z j k o g → ¬ Owned Z jc c g := by
    intro k o g hk hni hm hl hb ho
    obtain ⟨i, o0, h0, hl0, hb0, hi⟩ := ownC g ho
    have := s.inj k i o o0 g hm h0 hl hl0 hb hb0
    subst this
    rcases hi with hi | hi
    · omega
    · exact hni hi
  have lt : ∀ k o g, mem[k]? = some o → o.live = true → Blk Z j k o g → g < w.heap.size := fun k o g hm hl hb => Owned.lt s ⟨k, o, hm, hl, hb⟩
  have cross : ∀ {k o g i o1}, n0 ≤ k → k ∉ ids → mem[k]? = some o → o.live = true → Blk Z j k o g → m1[i]? = some o1 → o1.live = true → Blk Z1 j1 i o1 g → False := by
    intro k o g i o1 hk hni hm hl hb hm1 hl1 hb1
    exact besN k o g hk hni hm hl hb (q3.owned g (lt k o g hm hl hb) ⟨i, o1, hm1, hl1, hb1⟩)
  refine ⟨Z1, j2, q1.ren3 hσ, ⟨fun k o ho => ?_, fun k k' o o' g ho ho' hl hl' hb hb' => ?_, fun k hk => ?_, q2.zin⟩, ⟨q3.os, q3.tape, q3.output, q3.size, fun g hg hn => q3.keep g hg fun ho => ?_, fun g hg ho => ?_, q3.z, fun t hno => ⟨fun k o n ho hr => ?_, (q3.ar t (noAc t hno)).2⟩⟩, jext⟩
  · by_cases hl : o.live = true
    · rcases cls k o ho hl with ⟨i, o1, _, _, h3, _⟩ | ⟨h1, h2, h3, h4⟩
      · exact h3
      · refine (s.obj k o h4).mono q3.z jext (fun g hg => q3.keep g (lt k o g h4 hl hg) (besN k o g h1 h3 h4 hl hg)) (fun t n hr => besA k o t n h1 h4 hr)
    · cases o <;> first | exact True.intro | (simp [O.live] at hl)
  · rcases cls k o ho hl with ⟨i, o1, h1, h2, _, h4, _, h5⟩ | ⟨h1, h2, h3, h4⟩
    · rcases cls k' o' ho' hl' with ⟨i', o1', h1', h2', _, h4', _, h5'⟩ | ⟨h1', h2', h3', h4'⟩
      · have e := q2.inj i i' o1 o1' g h1 h1' h2 h2' (h4 g hb) (h4' g hb')
        subst e
        rcases h5 with ⟨a1, a2⟩ | ⟨a1, a2, a3, a4, a5⟩ | ⟨a1, a2⟩ <;> rcases h5' with ⟨b1, b2⟩ | ⟨b1, b2, b3, b4, b5⟩ | ⟨b1, b2⟩
        · omega
        · omega
        · have := (nge i (List.mem_of_getElem? b2)).1; omega
        · omega
        · rw [a4] at b4; exact Option.some.inj b4
        · have := (nge i (List.mem_of_getElem? b2)).2; rw [a5] at this; cases this
        · have := (nge i (List.mem_of_getElem? a2)).1; omega
        · have := (nge i (List.mem_of_getElem? a2)).2; rw [b5] at this; cases this
        · have := nodup_idx nnd a2 b2; omega
      · exact (cross h1' h3' h4' hl' (besB k' o' g h1' h2' h4' hb') h1 h2 (h4 g hb)).elim
    · rcases cls k' o' ho' hl' with ⟨i', o1', h1', h2', _, h4', _, h5'⟩ | ⟨h1', h2', h3', h4'⟩
      · exact (cross h1 h3 h4 hl (besB k o g h1 h2 h4 hb) h1' h2' (h4' g hb')).elim
      · exact s.inj k k' o o' g h4 h4' hl hl' (besB k o g h1 h2 h4 hb) (besB k' o' g h1' h2' h4' hb')
  · rw [mlen] at hk
    have := j2hi (k - mem.length)
    rw [show mem.length + (k - mem.length) = k by omega, List.getElem?_eq_none (by omega)] at this
    exact this
  · obtain ⟨i, o0, h0, hl0, hb0, _⟩ := ownC g ho
    exact hn ⟨i, o0, h0, hl0, hb0⟩
  · obtain ⟨k, o, ho, hl, hb⟩ := ho
    rcases cls k o ho hl with ⟨i, o1, h1, h2, _, h4, _, _⟩ | ⟨h1, h2, h3, h4⟩
    · obtain ⟨i', o0, h0, hl0, hb0, _⟩ := ownC g (q3.owned g hg ⟨i, o1, h1, h2, h4 g hb⟩)
      exact ⟨i', o0, h0, hl0, hb0⟩
    · exact ⟨k, o, h4, hl, besB k o g h1 h2 h4 hb⟩
  · rcases cls k o ho (ar_live hr) with ⟨i, o1, h1, h2, _, _, h6, _⟩ | ⟨h1, h2, h3, h4⟩
    · exact (q3.ar t (noAc t hno)).1 i o1 n h1 (h6 t n hr)
    · exact hno k o n h4 hr
theorem winV_sound (s : SR P Z w j mem) {v : V} {u : Value} (hv : VR Z w j v u) : VR Z w j (winV mem v) u := by
  unfold winV
  split
  · rename_i r hr
    obtain ⟨id, off, len⟩ := r
    simp only
    split
    · rename_i hm
      exact span_sound s hr hm hv
    · exact hv
  · exact hv
theorem can_sound {call : CallF} (hi : ImpOK P call.ic) {rd : CM} {f : FuncId} {args : List V} {us : List Value} {v : V} (s : SR P Z w j mem) (h : canA call rd f args mem = some (v, mem')) (hok : fnOk P f = true) (ha : VRs Z w j args us) :
    Calls P f us.toArray w fun e w1 => ∃ u, e = .returned u ∧ PostOf P Z w j mem v mem' u w1 := by
  unfold canA at h
  simp only [Option.map_eq_some_iff] at h
  obtain ⟨⟨v1, m1⟩, h1, h2⟩ := h
  obtain ⟨a1, a2⟩ := frontA_spec mem
  obtain ⟨b1, b2⟩ := canIds_ok args mem
  obtain ⟨sc, pre, _⟩ := tidy_core (s := ⟨args, mem⟩) a1 b1 b2 s
  have hv : VRs Z w (jOf (frontA mem) (canIds args mem) j) (canS args mem).env us := by
    refine ⟨by simpa [canS, tidyWith] using ha.1, fun i c u hc hu => ?_⟩
    simp only [canS, tidyWith, List.getElem?_map, Option.map_eq_some_iff] at hc
    obtain ⟨c0, h0, rfl⟩ := hc
    exact (ha.2 i c0 u h0 hu).ren2 (rho_ok _ _ _)
  refine (hi f _ _ v1 m1 h1 hok Z w _ us sc hv).mono ?_
  rintro e w1 ⟨u, rfl, hp⟩
  refine ⟨u, rfl, ?_⟩
  replace sc : SR P Z w (jOf (frontA mem) (canIds args mem) j) (canS args mem).mem := sc
  obtain ⟨pre⟩ : Nonempty (∀ k o, (canS args mem).mem[k]? = some o → o.live = true → ∃ i o0, mem[i]? = some o0 ∧ o0.live = true ∧ o.ar = o0.ar ∧ jOf (frontA mem) (canIds args mem) j k = j i ∧ ((k < frontA mem ∧ i = k) ∨ (frontA mem ≤ k ∧ (canIds args mem)[k - frontA mem]? = some i ∧ o.ar = none))) := ⟨pre⟩
  obtain ⟨c, hc⟩ : ∃ c, c = (canS args mem).mem := ⟨_, rfl⟩
  rw [← hc] at hp sc pre h2
  obtain ⟨f1, f2⟩ := frontA_spec c
  replace hp : PostOf P Z w (jOf (frontA mem) (canIds args mem) j) c (cond rd.wv (winV m1 v1) v1) m1 u w1 := by
    obtain ⟨Z1, j1, p1, p2, p3, p4⟩ := hp
    cases rd.wv with
    | true => exact ⟨Z1, j1, winV_sound p2 p1, p2, p3, p4⟩
    | false => exact ⟨Z1, j1, p1, p2, p3, p4⟩
  have norm := canBack_core (rd := rd.rd) f1 List.nodup_range' sc sc (fun k o ho hl => ⟨k, o, ho, hl, rfl, rfl, by
    by_cases hk : k < frontA c
    · exact .inl ⟨hk, rfl⟩
    · have hkl := (List.getElem?_eq_some_iff.1 ho).1
      refine .inr ⟨by omega, ?_, ?_⟩
      · rw [List.getElem?_range' (show k - frontA c < c.length - frontA c by omega)]
        rw [show frontA c + 1 * (k - frontA c) = k by omega]
      · have hle : frontA mem ≤ frontA c := by
          rw [hc]
          exact front_le args mem
        obtain ⟨i, o0, h0, hl0, ha, hji, hcc⟩ := pre k o ho hl
        rcases hcc with ⟨h1, _⟩ | ⟨_, _, h3⟩
        · omega
        · exact h3⟩) hp
  have := canBack_core (rd := rd.rd) a1 b1 s sc pre norm
  unfold canBack at h2
  rw [← hc] at h2
  unfold canNorm at h2
  rw [h2] at this
  exact this
end
end Go.Lite