/-
  Calls: what is handed to a function that only reads, and what comes back.
-/
import Derived.Test.YtknapnnpmfhogaaLite9
namespace Go.Lite
open Go Go.MapKept
set_option linter.unusedVariables false
section
variable {P : Program} {Z Z' : Zs} {w w' : World} {j j' : J} {mem mem' : List O}
def offOf (j : J) (id : Nat) : Nat := match (j id).bind Han.start with | some r => r.2 | none => 0
def objLen (P : Program) (j : J) (mem : List O) (id : Nat) : Nat :=
  match mem[id]? with
  | some (.row t els _) => offOf j id + els.length * P.cellsOf t
  | some (.box t _ _) => P.cellsOf t
  | _ => 0
def Fz (P : Program) (j : J) (mem : List O) (ids : List Nat) : Nat → Nat → Prop := fun g o => ∃ id, id ∈ ids ∧ blkOf j id = some g ∧ offOf j id ≤ o ∧ o < objLen P j mem id
def Zor (A : Zs) (B : Nat → Nat → Prop) : Zs := { A with z := fun g o => A g o ∨ B g o }
theorem ZExt.or (A : Zs) (B : Nat → Nat → Prop) (w : World) : ZExt A w (Zor A B) w := .of fun _ _ h => ⟨.inl h, rfl, rfl⟩
theorem freeze_len (mem : List O) (i : Nat) : (freeze mem i).length = mem.length := by
  unfold freeze; split <;> simp
theorem objLen_freeze (mem : List O) (i k : Nat) : objLen P j (freeze mem i) k = objLen P j mem k := by
  unfold freeze
  split
  · rename_i t els fz hm
    have hlt : i < mem.length := (List.getElem?_eq_some_iff.1 hm).1
    unfold objLen
    by_cases e : i = k
    · subst e; rw [List.getElem?_set_self hlt, hm]
    · rw [List.getElem?_set_ne e]
  · rename_i t v fz hm
    have hlt : i < mem.length := (List.getElem?_eq_some_iff.1 hm).1
    unfold objLen
    by_cases e : i = k
    · subst e; rw [List.getElem?_set_self hlt, hm]
    · rw [List.getElem?_set_ne e]
  · rfl
theorem objLen_block (s : SR P Z w j mem) {id g o : Nat} (hb : blkOf j id = some g) (ho : offOf j id ≤ o ∧ o < objLen P j mem id) : Owned Z j mem g := by
  have ho := ho.2
  unfold objLen at ho
  cases hm : mem[id]? with
  | none => simp [hm] at ho
  | some x =>
    cases x with
    | dead => simp [hm] at ho
    | map es => simp [hm] at ho
    | arena t els => simp [hm] at ho
    | marena t ms => simp [hm] at ho
    | row t els fz => exact ⟨id, _, hm, rfl, hb⟩
    | box t v fz => exact ⟨id, _, hm, rfl, hb⟩
theorem freeze_sound (s : SR P Z w j mem) (i : Nat) : SR P (Zor Z (Fz P j mem [i])) w j (freeze mem i) ∧ (∀ g, Owned Z j (freeze mem i) g ↔ Owned Z j mem g) := by
  have hin : ∀ g o, Zor Z (Fz P j mem [i]) g o → g < w.heap.size := by
    intro g o h
    rcases h with h | ⟨id, hid, hb, ho⟩
    · exact s.zin g o h
    · exact Owned.lt s (objLen_block s hb ho)
  have hne : ∀ g, blkOf j i ≠ some g → w.heap[g]? = w.heap[g]? ∧ ∀ o, Zor Z (Fz P j mem [i]) g o ↔ Z g o := fun g hg => ⟨rfl, fun o => ⟨fun h => h.resolve_right fun ⟨id, hid, hb, _⟩ => by
    simp at hid; subst hid; exact hg hb, .inl⟩⟩
  have live : ∀ (o o' : O), mem[i]? = some o → o.live = true → o'.live = true → o.ar = none → o'.ar = none → ∀ g, Owned Z j (mem.set i o') g ↔ Owned Z j mem g := by
    intro o o' hm hl hl' har har' g
    refine ⟨fun h => h.set hm (fun _ => hl) har har', ?_⟩
    rintro ⟨k, x, hx, hlx, hb⟩
    have hlt : i < mem.length := (List.getElem?_eq_some_iff.1 hm).1
    by_cases e : i = k
    · subst e
      rw [hm] at hx; cases hx
      exact ⟨i, o', by rw [List.getElem?_set_self hlt], hl', (Blk.plain har').2 ((Blk.plain har).1 hb)⟩
    · exact ⟨k, x, by rw [List.getElem?_set_ne e]; exact hx, hlx, hb⟩
  unfold freeze
  split
  · rename_i t els fz hm
    refine ⟨s.set hm (fun _ => rfl) (ZExt.or _ _ _) hne hin (fun h => by cases h) ?_, live _ _ hm rfl rfl rfl rfl⟩
    obtain ⟨h, hh, h1, h2, h3, h4, h5⟩ := s.obj i _ hm
    refine ⟨h, hh, h1, h2, Nat.le_refl _, h4, ?_⟩
    rcases h5 with h5 | ⟨g, b, c, us, hu, hlc, hcm, hg, hsz, hcells, hz1, hz2⟩
    · exact .inl h5
    · have hbk : blkOf j i = some g := by cases h; simp at hu; subst hu; simp [blkOf, hh, Han.blk]
      have hof : offOf j i = b := by cases h; simp at hu; subst hu; simp [offOf, hh, Han.start]
      have hol : objLen P j mem i = b + els.length * h.sz := by simp [objLen, hof, hm, h1]
      refine .inr ⟨g, b, c, us, hu, hlc, hcm, hg, hsz, fun k x hk => (hcells k x hk).mono (ZExt.or _ _ _) (JExt.refl _) rfl, fun o ho => ?_, fun o ho => .inr ⟨i, by simp, hbk, by rw [hof]; omega, by rw [hol]; omega⟩⟩
      rcases ho with ho | ⟨id, hid, _, ho⟩
      · have := hz1 o ho
        have : fz * h.sz ≤ els.length * h.sz := Nat.mul_le_mul_right _ h3
        omega
      · simp at hid; subst hid; rw [hof, hol] at ho
        refine ⟨?_, by omega⟩
        rcases Nat.eq_zero_or_pos els.length with e | e
        · rw [e] at ho; omega
        · exact e
  · rename_i t v fz hm
    refine ⟨s.set hm (fun _ => rfl) (ZExt.or _ _ _) hne hin (fun h => by cases h) ?_, live _ _ hm rfl rfl rfl rfl⟩
    obtain ⟨g, us, h1, h2, h3, h4, h5, h6, h7⟩ := s.obj i _ hm
    have hol : objLen P j mem i = P.cellsOf t := by simp [objLen, hm]
    exact ⟨g, us, h1, h2, h3, h4, h5.mono (ZExt.or _ _ _) (JExt.refl _) rfl, fun _ _ => rfl, fun _ o ho => .inr ⟨i, by simp, by simp [blkOf, h1, Han.blk], by simp [offOf, h1, Han.start], by omega⟩⟩
  · rename_i h1 h2
    refine ⟨s.world (ZExt.or _ _ _) (fun g _ => ⟨rfl, fun o => ⟨fun h => h.resolve_right fun ⟨id, hid, hb, ho⟩ => ?_, .inl⟩⟩) hin, fun g => Iff.rfl⟩
    simp at hid
    subst hid
    have ho := ho.2
    unfold objLen at ho
    split at ho
    · rename_i e; exact h1 _ _ _ e
    · rename_i e; exact h2 _ _ _ e
    · omega
theorem freezeAll_sound : ∀ (ids : List Nat) (Z : Zs) (mem : List O), SR P Z w j mem → SR P (Zor Z (Fz P j mem ids)) w j (freezeAll ids mem) ∧ (∀ g, Owned Z j (freezeAll ids mem) g ↔ Owned Z j mem g) := by
  intro ids
  induction ids with
  | nil =>
    intro Z mem s
    refine ⟨s.world (ZExt.or _ _ _) (fun g _ => ⟨rfl, fun o => ⟨fun h => h.resolve_right fun ⟨_, h, _⟩ => by simp at h, .inl⟩⟩) (fun g o h => ?_), fun g => Iff.rfl⟩
    rcases h with h | ⟨_, h, _⟩
    · exact s.zin g o h
    · simp at h
  | cons i is ih =>
    intro Z mem s
    obtain ⟨s1, o1⟩ := freeze_sound s i
    obtain ⟨s2, o2⟩ := ih _ _ s1
    have e : Zor (Zor Z (Fz P j mem [i])) (Fz P j (freeze mem i) is) = Zor Z (Fz P j mem (i :: is)) := by
      show Zs.mk _ _ _ = Zs.mk _ _ _
      congr 1
      funext g o
      apply propext
      constructor
      · rintro ((h | ⟨id, hid, hb, ho⟩) | ⟨id, hid, hb, ho⟩)
        · exact .inl h
        · exact .inr ⟨id, by simp at hid; simp [hid], hb, ho⟩
        · exact .inr ⟨id, by simp [hid], hb, by rwa [objLen_freeze] at ho⟩
      · rintro (h | ⟨id, hid, hb, ho⟩)
        · exact .inl (.inl h)
        · simp at hid
          rcases hid with rfl | hid
          · exact .inl (.inr ⟨id, by simp, hb, ho⟩)
          · exact .inr ⟨id, hid, hb, by rwa [objLen_freeze]⟩
    rw [e] at s2
    exact ⟨s2, fun g => ((Owned.eqA rfl).symm.trans (o2 g)).trans ((Owned.eqA rfl).trans (o1 g))⟩
theorem snap1_one {v v' : V} (h : snap1 mem v = some v') : v'.one = true ∧ v.one = true := by
  cases v <;> simp [snap1] at h
  all_goals first
    | (subst h; exact ⟨rfl, rfl⟩)
    | (obtain ⟨_, _, rfl⟩ := h; exact ⟨rfl, rfl⟩)
    | (obtain ⟨_, rfl⟩ := h; exact ⟨rfl, rfl⟩)
theorem snap_win (s : SR P Z w j mem) {id off len : Nat} {xs : List V} {u : Value} {ids : List Nat} (he : elems mem (.win id off len) = some xs) (hi : id ∈ ids) (hv : VR Z w j (.win id off len) u) : VR (Zor Z (Fz P j mem ids)) w j0 (.sl xs) u := by
  have hz : ZExt Z w (Zor Z (Fz P j mem ids)) w := ZExt.or _ _ _
  have he0 := he
  obtain ⟨A, c, rfl, hel⟩ := elems_sound s he hv
  have hlc := slice_le s he hv
  rcases hel with rfl | ⟨g, b, sz, rfl, hsz, hcl⟩
  · exact .sl0
  · simp only [elems] at he
    cases hm : mem[id]? with
    | none => simp [hm] at he
    | some o =>
      cases o <;> simp [hm] at he
      obtain ⟨hle, rfl⟩ := he
      rename_i t els fz
      obtain ⟨hn, hh, h1, h2, h3, h4, h5⟩ := s.obj id _ hm
      generalize hxs : (els.drop off).take len = xs at *
      generalize hU : Value.slice (some ⟨g, b, none⟩) xs.length c = U at hv
      cases hv with
      | win hj hnn hlc' _ ha =>
        cases hU
        rw [hj] at hh; cases hh
        refine VR.slMk hlc hsz fun k x hk => ⟨(hcl k x hk).1, fun i hi' => ?_, (hcl k x hk).2.mono hz (JExt.refl _) rfl⟩
        have hkl : k < xs.length := (List.getElem?_eq_some_iff.1 hk).1
        obtain ⟨g0, b0, o0, hA, hA', _, ho0⟩ := ha.resolve_left (fun h => by cases h.2)
        have ho0 := ho0 (by omega)
        subst ho0
        simp at hA'
        obtain ⟨rfl, rfl⟩ := hA'
        subst hA
        have hx := h4 x (by rw [← hxs] at hk; exact List.mem_of_mem_drop (List.mem_of_mem_take (List.mem_of_getElem? hk)))
        simp only at hx h1
        have e1 : sz = P.cellsOf t := by rw [← (hcl k x hk).1, hx, h1]
        rcases h5 with ⟨hu, _⟩ | ⟨g', b', c', us, hu, _⟩
        · cases hu
        · simp at hu
          obtain ⟨⟨rfl, rfl⟩, hnl, _⟩ := hu
          have hof : offOf j id = b0 := by simp [offOf, hj, Han.start]
          refine .inr ⟨id, hi, by simp [blkOf, hj, Han.blk], by omega, ?_⟩
          have : objLen P j mem id = b0 + els.length * sz := by simp [objLen, hof, hm, e1]
          rw [this, h1, ← e1]
          have h8 : (off + k + 1) * sz ≤ els.length * sz := Nat.mul_le_mul_right _ (by omega)
          rw [Nat.succ_mul, Nat.add_mul] at h8
          omega
theorem snap1_sound (s : SR P Z w j mem) {v v' : V} {u : Value} {ids : List Nat} (h : snap1 mem v = some v') (hi : ∀ i ∈ ids1 v, i ∈ ids) (hv : VR Z w j v u) : VR (Zor Z (Fz P j mem ids)) w j0 v' u := by
  have hz : ZExt Z w (Zor Z (Fz P j mem ids)) w := ZExt.or _ _ _
  cases v <;> simp only [snap1] at h
  case bool => cases h; cases hv; exact .bool
  case int => cases h; cases hv; exact .int
  case str => cases h; exact (hv.mono hz (JExt.refl _)).flat rfl j0
  case nilP => cases h; cases hv; exact .nilP
  case nilF => cases h; cases hv; exact .nilF
  case nilM => cases h; cases hv; exact .nilM
  case hp => cases h; cases hv; rename_i hg; exact .hp hg
  case hm => cases h; cases hv; rename_i hg; exact .hm hg
  case nilS => cases h; cases hv; exact .sl0
  case sl => cases h; exact (hv.mono hz (JExt.refl _)).down j0
  case lit => cases h; exact (hv.litSl.mono hz (JExt.refl _)).down j0
  case ref x off =>
    cases h
    obtain ⟨g, b, rfl, h1, h2⟩ := hv.refInv
    exact VR.refMk (fun i hi => .inl (h1 i hi)) (h2.mono hz (JExt.refl _) rfl)
  case fn f caps =>
    split at h
    · rename_i hc
      cases h
      have : caps = [] := by simpa using hc
      subst this
      cases hv with
      | fn hl hh => exact .fn hl fun i c u hc => by simp at hc
    · cases h
  case own id =>
    cases he : elems mem (.own id) with
    | none => simp [he] at h
    | some els =>
      simp [he] at h
      subst h
      obtain ⟨A, c, rfl, hel⟩ := elems_sound s he hv
      have hlc := slice_le s he hv
      rcases hel with rfl | ⟨g, b, sz, rfl, hsz, hcl⟩
      · exact .sl0
      · refine VR.slMk hlc hsz fun k x hk => ⟨(hcl k x hk).1, fun i hi' => .inr ⟨id, hi id (by simp [ids1]), ?_, ?_⟩, (hcl k x hk).2.mono hz (JExt.refl _) rfl⟩
        · cases hv with
          | own hj => simp [blkOf, hj, Han.blk]
        · simp only [elems] at he
          cases hm : mem[id]? with
          | none => simp [hm] at he
          | some o =>
            cases o <;> simp [hm] at he
            subst he
            rename_i t els fz
            obtain ⟨hn, hh, h1, h2, h3, h4, h5⟩ := s.obj id _ hm
            have hx := h4 x (List.mem_of_getElem? hk)
            have e1 : sz = P.cellsOf t := by rw [← (hcl k x hk).1, hx, h1]
            rcases h5 with ⟨_, he⟩ | ⟨g', b', c', us, hu, _⟩
            · subst he; simp at hk
            · cases hv with
              | own hj =>
                rw [hj] at hh; cases hh
                simp at hu
                obtain ⟨⟨rfl, rfl⟩, _⟩ := hu
                have hkl : k < els.length := (List.getElem?_eq_some_iff.1 hk).1
                have : (k + 1) * sz ≤ els.length * sz := Nat.mul_le_mul_right _ hkl
                rw [Nat.succ_mul] at this
                have hof : offOf j id = b := by simp [offOf, hj, Han.start]
                have : objLen P j mem id = b + els.length * sz := by simp [objLen, hof, hm, e1]
                omega
  case win id off len =>
    cases he : elems mem (.win id off len) with
    | none => simp [he] at h
    | some xs =>
      simp [he] at h
      subst h
      exact snap_win s he (hi id (by simp [ids1])) hv
  case tail id off =>
    cases he : elems mem (.tail id off) with
    | none => simp [he] at h
    | some xs =>
      simp [he] at h
      subst h
      have he0 := he
      simp only [elems] at he
      cases hm : mem[id]? with
      | none => simp [hm] at he
      | some o =>
        cases o <;> simp [hm] at he
        subst he
        obtain ⟨h1, h2⟩ := tail_win s hm hv
        exact snap_win s (tail_elems hm h1) (hi id (by simp [ids1])) h2
  all_goals (cases h)
theorem snapL {mem : List O} {Z1 : Zs} {cs ds : List V} (hm : mapO (snap1 mem) cs = some ds) (key : ∀ (i : Nat) (c d : V) (u : Value), cs[i]? = some c → snap1 mem c = some d → VR Z w j c u → VR Z1 w j0 d u) {us : Array Value} (hr : LR Z w j cs us) : LR Z1 w j0 ds us := by
  obtain ⟨hl, hg⟩ := mapO_get hm
  refine ⟨by rw [hr.1, hl], fun i d hd => ?_⟩
  obtain ⟨c, hc, hs⟩ := hg i d hd
  obtain ⟨u, hu, hv⟩ := hr.2 i c hc
  exact ⟨u, hu, key i c d u hc hs hv⟩
theorem ptr_cells (s : SR P Z w j mem) {id k off : Nat} {x : V} {off' : Nat} {u : Value} {ids : List Nat} (hl : look mem (.ptr id k off) = some (x, off')) (hid : id ∈ ids) (hv : VR Z w j (.ptr id k off) u) :
    ∃ g b, u = .pointer (some ⟨g, b + off', none⟩) ∧ CellsAt Z w j g b x.cells ∧ ∀ i, i < x.cells.length → Zor Z (Fz P j mem ids) g (b + i) := by
  cases hv with
  | ptr hj hs =>
    rename_i g b0 hn
    simp only [look] at hl
    cases hm : mem[id]? with
    | none => simp [hm] at hl
    | some ob =>
      have hO := s.obj id ob hm
      cases ob with
      | dead => simp [hm] at hl
      | map es => simp [hm] at hl
      | arena t els => simp [hm] at hl
      | marena t ms => simp [hm] at hl
      | row t els fz =>
        simp only [hm] at hl
        obtain ⟨hn', hh, h1, h2, h3, h4, h5⟩ := hO
        rw [hj] at hh; cases hh
        cases hk : els[k]? with
        | none => simp [hk] at hl
        | some y =>
          simp [hk] at hl
          obtain ⟨rfl, rfl⟩ := hl
          have hkl : k < els.length := (List.getElem?_eq_some_iff.1 hk).1
          rcases h5 with ⟨_, he⟩ | ⟨g', b', c, us, hu, _, _, _, _, hcells, _⟩
          · subst he; simp at hk
          · have e : (g', b') = (g, b0) := by cases hn; simp at hu; subst hu; simpa [Han.start] using hs
            cases e
            refine ⟨g, b0 + k * hn.sz, by rw [Nat.add_assoc], (hcells k y hk).mono (ZExt.refl _ _) (JExt.zero _) rfl, fun i hi => .inr ⟨id, hid, by cases hn; simp at hu; subst hu; simp [blkOf, hj, Han.blk], by
              have : offOf j id = b0 := by simp [offOf, hj, hs]
              omega, ?_⟩⟩
            have hy := h4 y (List.mem_of_getElem? hk)
            have : objLen P j mem id = b0 + els.length * hn.sz := by simp [objLen, offOf, hj, hs, hm, h1]
            rw [this]
            have h8 : (k + 1) * hn.sz ≤ els.length * hn.sz := Nat.mul_le_mul_right _ hkl
            rw [Nat.succ_mul] at h8
            omega
      | box t v fz =>
        simp only [hm] at hl
        by_cases hk : k = 0
        · simp [hk] at hl
          obtain ⟨rfl, rfl⟩ := hl
          obtain ⟨g', us, h1, h2, h3, h4, h5, _⟩ := hO
          rw [hj] at h1; cases h1
          simp [Han.start] at hs
          obtain ⟨rfl, rfl⟩ := hs
          subst hk
          refine ⟨g', 0, by simp, h5, fun i hi => .inr ⟨id, hid, by simp [blkOf, hj, Han.blk], by simp [offOf, hj, Han.start], ?_⟩⟩
          have : objLen P j mem id = P.cellsOf t := by simp [objLen, hm]
          omega
        · simp [hk] at hl
theorem snap2_sound (s : SR P Z w j mem) {v v' : V} {u : Value} {ids : List Nat} (h : snap2 mem v = some v') (hi : ∀ i ∈ ids2 mem v, i ∈ ids) (hv : VR Z w j v u) : VR (Zor Z (Fz P j mem ids)) w j0 v' u := by
  have hz : ZExt Z w (Zor Z (Fz P j mem ids)) w := ZExt.or _ _ _
  cases v with
  | agg cs =>
    simp only [snap2] at h
    cases hm : mapO (snap1 mem) cs with
    | none => simp [hm] at h
    | some ds =>
      simp [hm] at h
      subst h
      obtain ⟨us, rfl, hr⟩ := hv.aggInv
      refine (snapL hm (fun i c d u hc hs hvv => snap1_sound s hs (fun k hk => hi k ?_) hvv) hr).aggMk
      simp only [ids2, List.mem_flatMap]
      exact ⟨c, List.mem_of_getElem? hc, hk⟩
  | ptr id k off =>
    simp only [snap2] at h
    cases hl : look mem (.ptr id k off) with
    | none => simp [hl] at h
    | some r =>
      obtain ⟨x, off'⟩ := r
      simp only [hl, Option.bind_some] at h
      obtain ⟨g, b, rfl, hc, hfz⟩ := ptr_cells s hl (hi id (by simp [ids2])) hv
      have sub : ∀ (y : V) (i : Nat), x.cells[i]? = some y → ∀ (n : Nat), n ∈ ids1 y → (∃ y', snap1 mem y = some y') → n ∈ ids := by
        intro y i hy n hn hsn
        refine hi n ?_
        simp only [look] at hl
        cases hm : mem[id]? with
        | none => simp [hm] at hl
        | some ob =>
          cases ob with
          | dead => simp [hm] at hl
          | map es => simp [hm] at hl
          | arena t els => simp [hm] at hl
          | marena t ms => simp [hm] at hl
          | row t els fz =>
            exfalso
            simp only [hm] at hl
            cases hk : els[k]? with
            | none => simp [hk] at hl
            | some z =>
              simp [hk] at hl
              obtain ⟨rfl, rfl⟩ := hl
              obtain ⟨hn', hh, h1, h2, h3, h4, h5⟩ := s.obj id _ hm
              rcases h5 with ⟨_, he⟩ | ⟨g', b', c, us, hu, _, _, _, _, hcells, _⟩
              · subst he; simp at hk
              · obtain ⟨_, u0, _, hv0⟩ := hcells k z hk i y hy
                cases y <;> simp [ids1] at hn
                · cases hv0 with
                  | own hj => cases hj
                · cases hv0 with
                  | win hj _ _ _ => cases hj
                · cases hv0 with
                  | tail hj _ _ => cases hj
          | box t v fz =>
            simp only [hm] at hl
            by_cases hk : k = 0
            · simp [hk] at hl
              obtain ⟨rfl, rfl⟩ := hl
              simp only [ids2, hm, List.mem_cons, List.mem_flatMap]
              exact .inr ⟨y, List.mem_of_getElem? hy, hn⟩
            · simp [hk] at hl
      have fin : ∀ (x' : V), x'.cells.length = x.cells.length → (∀ (i : Nat) (d : V), x'.cells[i]? = some d → ∃ c, x.cells[i]? = some c ∧ snap1 mem c = some d) → VR (Zor Z (Fz P j mem ids)) w j0 (.ref x' off') (.pointer (some ⟨g, b + off', none⟩)) := by
        intro x' hlen hcc
        refine VR.refMk (fun i hi' => hfz i (by omega)) (fun i d hd => ?_)
        obtain ⟨c, hcx, hs⟩ := hcc i d hd
        obtain ⟨_, u0, hu0, hv0⟩ := hc i c hcx
        exact ⟨(snap1_one hs).1, u0, hu0, snap1_sound s hs (fun n hn => sub c i hcx n hn ⟨d, hs⟩) hv0⟩
      cases x with
      | agg cs =>
        simp only at h
        cases hm : mapO (snap1 mem) cs with
        | none => simp [hm] at h
        | some ds =>
          simp [hm] at h
          subst h
          obtain ⟨hl', hg⟩ := mapO_get hm
          exact fin (.agg ds) hl' hg
      | _ =>
        simp only at h
        revert h
        generalize hx0 : snap1 mem _ = sx
        intro h
        cases sx with
        | none => simp at h
        | some y =>
          simp at h
          subst h
          obtain ⟨o1, o2⟩ := snap1_one hx0
          refine fin y (by rw [cells_one o1, cells_one o2]; rfl) (fun i d hd => ?_)
          rw [cells_one o1] at hd
          cases i with
          | zero => simp at hd; subst hd; exact ⟨_, by rw [cells_one o2]; rfl, hx0⟩
          | succ i => simp at hd
  | _ => exact snap1_sound s (by simpa [snap2] using h) (by simpa [ids2] using hi) hv
theorem snap3_sound (s : SR P Z w j mem) {v v' : V} {u : Value} {ids : List Nat} (h : snap3 mem v = some v') (hi : ∀ i ∈ ids3 mem v, i ∈ ids) (hv : VR Z w j v u) : VR (Zor Z (Fz P j mem ids)) w j0 v' u := by
  cases v with
  | fn f caps =>
    simp only [snap3] at h
    cases hm : mapO (snap2 mem) caps with
    | none => simp [hm] at h
    | some ds =>
      simp [hm] at h
      subst h
      cases hv with
      | fn hl hh =>
        obtain ⟨hl', hg⟩ := mapO_get hm
        refine .fn (by rw [hl', hl]) fun i d u hd hu => ?_
        obtain ⟨c, hc, hs⟩ := hg i d hd
        refine snap2_sound s hs (fun n hn => hi n ?_) (hh i c u hc hu)
        simp only [ids3, List.mem_flatMap]
        exact ⟨c, List.mem_of_getElem? hc, hn⟩
  | _ => exact snap2_sound s (by simpa [snap3] using h) (by simpa [ids3] using hi) hv
def VRs (Z : Zs) (w : World) (j : J) (vs : List V) (us : List Value) : Prop := vs.length = us.length ∧ ∀ (i : Nat) (v : V) (u : Value), vs[i]? = some v → us[i]? = some u → VR Z w j v u
theorem snaps_sound (s : SR P Z w j mem) {vs vs' : List V} {us : List Value} (h : mapO (snap3 mem) vs = some vs') (hv : VRs Z w j vs us) : VRs (Zor Z (Fz P j mem (vs.flatMap (ids3 mem)))) w j0 vs' us := by
  obtain ⟨hl, hg⟩ := mapO_get h
  refine ⟨by rw [hl]; exact hv.1, fun i d u hd hu => ?_⟩
  obtain ⟨c, hc, hs⟩ := hg i d hd
  refine snap3_sound s hs (fun n hn => ?_) (hv.2 i c u hc hu)
  simp only [List.mem_flatMap]
  exact ⟨c, List.mem_of_getElem? hc, hn⟩
structure StpP (Z : Zs) (w : World) (Z' : Zs) (w' : World) : Prop where
  os : w'.os = w.os
  tape : w'.tape = w.tape
  output : w'.output = w.output
  size : w.heap.size ≤ w'.heap.size
  keep : ∀ g, g < w.heap.size → w'.heap[g]? = w.heap[g]? ∧ ∀ o, Z' g o ↔ Z g o
  zin : ∀ g o, Z' g o → g < w'.heap.size
  a : Z'.a = Z.a
  i : Z'.i = Z.i
def R1 (P : Program) (Z : Zs) (w0 w : World) (v : V) (u : Value) : Prop :=
  match v with
  | .fr t els => ∃ A n c, u = .slice A n c ∧ RowAt P Z w ⟨u, P.cellsOf t⟩ t els 0 ∧ (∀ x ∈ els, ∀ y ∈ x.cells, y.flat1 = true) ∧ (∀ g, Han.blk ⟨u, P.cellsOf t⟩ = some g → w0.heap.size ≤ g ∧ g < w.heap.size) ∧ ∀ a, A = some a → a.off = 0
  | v => VR Z w j0 v u
def RR (P : Program) (Z : Zs) (w0 w : World) (v : V) (u : Value) : Prop :=
  match v with
  | .tup vs => ∃ us : List Value, u = .tuple us.toArray ∧ vs.length = us.length ∧ ∀ (i : Nat) (v : V) (x : Value), vs[i]? = some v → us[i]? = some x → R1 P Z w0 w v x
  | v => R1 P Z w0 w v u
def PureOK (P : Program) (pc : FuncId → List V → Option V) : Prop :=
  ∀ f as r, pc f as = some r → fnOk P f = true → ∀ (Z : Zs) (w : World) (us : List Value), (∀ g o, Z g o → g < w.heap.size) → VRs Z w j0 as us →
    Calls P f us.toArray w fun e w1 => ∃ u Z1, e = .returned u ∧ RR P Z1 w w1 r u ∧ StpP Z w Z1 w1
def ImpOK (P : Program) (ic : FuncId → List V → List O → Option (V × List O)) : Prop :=
  ∀ f as mem r mem', ic f as mem = some (r, mem') → fnOk P f = true → ∀ (Z : Zs) (w : World) (j : J) (us : List Value), SR P Z w j mem → VRs Z w j as us →
    Calls P f us.toArray w fun e w1 => ∃ u, e = .returned u ∧ PostOf P Z w j mem r mem' u w1
theorem alloc_z {o : Obj} (hin : ∀ g x, Z g x → g < w.heap.size) : ZExt Z w Z (w.alloc o) := .of fun g x hz => ⟨hz, same_block (heap_push_old (w := w) (w1 := w.alloc o) rfl (hin g x hz)) x⟩
theorem SR.alloc (s : SR P Z w j mem) (o : Obj) : SR P Z (w.alloc o) j mem :=
  s.world (alloc_z s.zin) (fun g hg => ⟨heap_push_old (w := w) (w1 := w.alloc o) rfl (Owned.lt s hg), fun _ => Iff.rfl⟩) (fun g x hz => by rw [World.size_alloc]; have := s.zin g x hz; omega)
theorem Stp.alloc (s : SR P Z w j mem) (o : Obj) : Stp Z w j mem Z (w.alloc o) j mem :=
  ⟨rfl, rfl, rfl, by rw [World.size_alloc]; omega, fun g hg _ => ⟨heap_push_old (w := w) (w1 := w.alloc o) rfl hg, fun _ => Iff.rfl⟩, fun _ _ h => h, alloc_z s.zin, fun _ h => ⟨h, rfl⟩⟩
end
end Go.Lite