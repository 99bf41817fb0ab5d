/-
  The interpreter's operations on parts, literals, lengths: each one is what the model's operation does.
-/
import Derived.Test.YtknapnnpmfhogaaLite5
namespace Go.Lite
open Go
section
variable {P : Program} {Z Z' : Zs} {w w' : World} {j j' : J} {mem mem' : List O}
def LR (Z : Zs) (w : World) (j : J) (cs : List V) (us : Array Value) : Prop :=
  us.size = cs.length ∧ ∀ (i : Nat) (c : V), cs[i]? = some c → ∃ u, us[i]? = some u ∧ VR Z w j c u
theorem LR.of {cs : List V} {us : List Value} (hl : cs.length = us.length) (h : ∀ (i : Nat) (c : V) (u : Value), cs[i]? = some c → us[i]? = some u → VR Z w j c u) : LR Z w j cs us.toArray := by
  refine ⟨by simp [hl], fun i c hc => ?_⟩
  have hi : i < cs.length := (List.getElem?_eq_some_iff.1 hc).1
  exact ⟨us[i]'(by omega), by simp, h i c _ hc (List.getElem?_eq_getElem (by omega))⟩
theorem LR.aggMk {cs : List V} {us : Array Value} (h : LR Z w j cs us) : VR Z w j (.agg cs) (.agg us) := by
  have e : us = us.toList.toArray := by simp
  rw [e]
  refine .agg (by simpa using h.1.symm) fun i c u hc hu => ?_
  obtain ⟨u', hu', hv⟩ := h.2 i c hc
  simp at hu
  rw [hu] at hu'
  cases hu'
  exact hv
theorem VR.aggInv {cs : List V} {u : Value} (h : VR Z w j (.agg cs) u) : ∃ us, u = .agg us ∧ LR Z w j cs us := by
  cases h with
  | agg hl hh => exact ⟨_, rfl, LR.of hl hh⟩
theorem VR.tupInv {cs : List V} {u : Value} (h : VR Z w j (.tup cs) u) : ∃ us, u = .tuple us ∧ LR Z w j cs us := by
  cases h with
  | tup hl hh => exact ⟨_, rfl, LR.of hl hh⟩
theorem LR.tupMk {cs : List V} {us : Array Value} (h : LR Z w j cs us) : VR Z w j (.tup cs) (.tuple us) := by
  have e : us = us.toList.toArray := by simp
  rw [e]
  refine .tup (by simpa using h.1.symm) fun i c u hc hu => ?_
  obtain ⟨u', hu', hv⟩ := h.2 i c hc
  simp at hu
  rw [hu] at hu'
  cases hu'
  exact hv
theorem LR.extract {cs : List V} {us : Array Value} (h : LR Z w j cs us) {off n : Nat} (hl : ((cs.drop off).take n).length = n) : LR Z w j ((cs.drop off).take n) (us.extract off (off + n)) := by
  have h1 := h.1
  simp at hl
  refine ⟨by simp; omega, fun i c hc => ?_⟩
  rw [List.getElem?_take] at hc
  split at hc
  · rw [List.getElem?_drop] at hc
    obtain ⟨u, hu, hv⟩ := h.2 _ c hc
    refine ⟨u, ?_, hv⟩
    have hlt : off + i < us.size := (Array.getElem?_eq_some_iff.1 hu).1
    rw [Array.getElem?_extract]
    rw [if_pos (by omega)]
    exact hu
  · cases hc
theorem part_sound {t : TypeId} {cs : List V} {us : Array Value} {off : Nat} {v : V} (h : partA P t cs off = some v) (hr : LR Z w j cs us) : ∃ r, (part t us off).run P w = .ok r w ∧ VR Z w j v r := by
  unfold partA at h
  simp only at h
  split at h
  · rename_i hlen
    unfold mkV at h
    cases hu : P.underlying t with
    | none => simp [hu] at h
    | some d =>
      obtain ⟨i, hi, hsz, _⟩ := info_of_underlying hu
      have ex := hr.extract hlen
      have agg : isAggD d = true → v = .agg ((cs.drop off).take (P.cellsOf t)) → ∃ r, (part t us off).run P w = .ok r w ∧ VR Z w j v r := by
        intro hd hv
        subst hv
        refine ⟨.agg (us.extract off (off + P.cellsOf t)), ?_, ex.aggMk⟩
        cases d <;> first | (simp [isAggD] at hd; done) | simp [part, isAgg, run_underlying hu, sizeOf, typeInfo, hi, hsz]
      have one : isAggD d = false → single ((cs.drop off).take (P.cellsOf t)) = some v → ∃ r, (part t us off).run P w = .ok r w ∧ VR Z w j v r := by
        intro hd hv
        unfold single at hv
        split at hv
        · cases hv
          rename_i c he
          have h0 : cs[off]? = some v := by
            have h9 : ((cs.drop off).take (P.cellsOf t))[0]? = some v := by rw [he]; rfl
            rw [List.getElem?_take] at h9
            split at h9
            · simpa using h9
            · cases h9
          obtain ⟨u, hu', hvv⟩ := hr.2 off v h0
          exact ⟨u, run_part_one hu hd hu', hvv⟩
        · cases hv
      cases d <;> simp only [hu] at h <;> first | (cases h; exact agg rfl rfl) | exact one rfl h
  · cases h
theorem field_sound {st : TypeId} {cs : List V} {u : Value} {f off : Nat} {t : TypeId} {v : V} (hf : fieldOf P st f = some (off, t)) (h : partA P t cs off = some v) (hv : VR Z w j (.agg cs) u) :
    ∃ r, (Instr.field st u f).run P w = .ok r w ∧ VR Z w j v r := by
  obtain ⟨us, rfl, hr⟩ := hv.aggInv
  unfold fieldOf at hf
  cases hu : P.underlying st with
  | none => simp [hu] at hf
  | some d =>
    cases d <;> simp [hu] at hf
    obtain ⟨fl, hf, rfl, rfl⟩ := hf
    obtain ⟨r, h1, h2⟩ := part_sound h hr
    exact ⟨r, by simp [Instr.field, run_underlying hu, hf, asAgg, h1], h2⟩
theorem index_sound {t : TypeId} {x i v : V} {u ui : Value} (h : indexA P t x i = some v) (hv : VR Z w j x u) (hi : VR Z w j i ui) : ∃ r, (Instr.index t u ui).run P w = .ok r w ∧ VR Z w j v r := by
  unfold indexA at h
  split at h
  · rename_i s k n hu
    cases hv; cases hi
    rename_i sb
    split at h
    · rename_i h0
      cases hb : sb.data.toList[n.toNat]? with
      | none => simp [hb] at h
      | some b =>
        simp [hb] at h
        subst h
        have hlt : n.toNat < sb.size := by have := (List.getElem?_eq_some_iff.1 hb).1; simpa using this
        have hg : sb[n.toNat]? = some b := by
          rw [getElem?_pos sb n.toNat hlt]
          congr 1
          simp at hb
          rw [Array.getElem?_eq_getElem (by simpa using hlt)] at hb
          have hb' := Option.some.inj hb
          exact hb'
        exact ⟨.int .u8 (b.toNat : Int), by simp [Instr.index, asIntOf, run_underlying hu, h0, hg], .int⟩
    · cases h
  · rename_i len e cs k n hu
    cases hi
    split at h
    · rename_i hc
      obtain ⟨us, rfl, hr⟩ := hv.aggInv
      have hc1 : n < (len : Int) := by omega
      have hpos : ∃ i, P.info? e = some i ∧ i.size = P.cellsOf e := by
        unfold partA mkV at h
        simp only at h
        split at h
        · cases hu' : P.underlying e with
          | none => simp [hu'] at h
          | some d => obtain ⟨i, hi, hs, _⟩ := info_of_underlying hu'; exact ⟨i, hi, hs.symm⟩
        · cases h
      obtain ⟨i, hi, hisz⟩ := hpos
      obtain ⟨r, h1, h2⟩ := part_sound h hr
      exact ⟨r, by simp [Instr.index, asIntOf, run_underlying hu, hc.1, hc1, sizeOf, typeInfo, hi, hisz, h1], h2⟩
    · cases h
  · cases h
theorem len_sound (s : SR P Z w j mem) {t ty : TypeId} {x v : V} {u : Value} {ts : Array TypeId} {us : Array Value} (ht : ts[0]? = some t) (hu0 : us[0]? = some u) (h : lenA P mem t x = some v) (hv : VR Z w j x u) :
    ∃ r, (Builtin.len_ ts ty us).run P w = .ok r w ∧ VR Z w j v r := by
  unfold lenA at h
  split at h
  · rename_i hu; cases h; cases hv
    rename_i sb
    exact ⟨goInt (sb.size : Int), by simp [Builtin.len_, ht, hu0, run_underlying hu], .int⟩
  · rename_i n e hu; cases h
    exact ⟨goInt n, by cases u <;> simp [Builtin.len_, ht, hu0, run_underlying hu], .int⟩
  · rename_i y _ _ e hu
    cases hx : elems mem y with
    | none => simp [hx] at h
    | some xs =>
      simp only [hx, Option.map_some] at h
      cases h
      obtain ⟨A, c, rfl, _⟩ := elems_sound s hx hv
      exact ⟨goInt xs.length, by simp [Builtin.len_, ht, hu0, run_underlying hu], .int⟩
  · rename_i x _ _ k e hu
    cases hm : mapAt mem x with
    | none => simp [hm] at h
    | some es =>
      simp only [hm, Option.map_some] at h
      cases h
      obtain ⟨r, rfl, es', clock, h2, h3, _⟩ := mapAt_sound s hm hv
      refine ⟨goInt es'.size, ?_, by rw [h3]; exact .int⟩
      simp [Builtin.len_, ht, hu0, run_underlying hu, getObj, Sem.run, h2]
  · cases h
theorem min2_sound {a b v : V} {u u' : Value} (h : min2 a b = some v) (ha : VR Z w j a u) (hb : VR Z w j b u') : ∃ r, (Builtin.min2 u u').run P w = .ok r w ∧ VR Z w j v r := by
  cases a <;> cases b <;> simp [min2] at h
  obtain ⟨rfl, rfl⟩ := h
  cases ha; cases hb
  exact ⟨_, rfl, .int⟩
theorem max2_sound {a b v : V} {u u' : Value} (h : max2 a b = some v) (ha : VR Z w j a u) (hb : VR Z w j b u') : ∃ r, (Builtin.max2 u u').run P w = .ok r w ∧ VR Z w j v r := by
  cases a <;> cases b <;> simp [max2] at h
  obtain ⟨rfl, rfl⟩ := h
  cases ha; cases hb
  exact ⟨_, rfl, .int⟩
theorem fold_sound {f : V → V → Option V} {g : Value → Value → Sem Value} (hf : ∀ (a b v : V) (u u' : Value), f a b = some v → VR Z w j a u → VR Z w j b u' → ∃ r, (g u u').run P w = .ok r w ∧ VR Z w j v r) :
    ∀ (xs : List V) (us : List Value) (x v : V) (u : Value), foldO f x xs = some v → VR Z w j x u → us.length = xs.length → (∀ (i : Nat) (c : V) (u : Value), xs[i]? = some c → us[i]? = some u → VR Z w j c u) →
      ∃ r, (us.foldlM g u).run P w = .ok r w ∧ VR Z w j v r := by
  intro xs
  induction xs with
  | nil =>
    intro us x v u h hx hl _
    simp [foldO] at h
    subst h
    cases us with
    | nil => exact ⟨u, rfl, hx⟩
    | cons _ _ => simp at hl
  | cons y ys ih =>
    intro us x v u h hx hl hh
    cases us with
    | nil => simp at hl
    | cons u1 us =>
      simp only [foldO] at h
      cases h1 : f x y with
      | none => simp [h1] at h
      | some z =>
        simp [h1] at h
        obtain ⟨r, hr, hv⟩ := hf x y z u u1 h1 hx (hh 0 y u1 rfl rfl)
        obtain ⟨r2, hr2, hv2⟩ := ih us z v r h hv (by simpa using hl) (fun i c u hc hu => hh (i + 1) c u (by simpa using hc) (by simpa using hu))
        exact ⟨r2, by simp [List.foldlM_cons, hr, hr2], hv2⟩
theorem foldl_set {cs : Array Value} {off : Nat} (vs : List Value) : ∀ (k : Nat) (acc : Array Value), acc.size = cs.size → (∀ i, acc[i]? = if off ≤ i ∧ i < off + k then vs[i - off]? else cs[i]?) →
    k ≤ vs.length → off + vs.length ≤ cs.size →
    (((vs.drop k).zipIdx k).foldl (fun a (x : Value × Nat) => a.setIfInBounds (off + x.2) x.1) acc).size = cs.size ∧
    ∀ i, (((vs.drop k).zipIdx k).foldl (fun a (x : Value × Nat) => a.setIfInBounds (off + x.2) x.1) acc)[i]? = if off ≤ i ∧ i < off + vs.length then vs[i - off]? else cs[i]? := by
  intro k
  generalize hn : vs.length - k = n
  induction n generalizing k with
  | zero =>
    intro acc hsz hacc hk hle
    have e : vs.drop k = [] := List.drop_eq_nil_of_le (by omega)
    rw [e]
    refine ⟨hsz, fun i => ?_⟩
    simp only [List.zipIdx_nil, List.foldl_nil]
    rw [hacc i, show k = vs.length by omega]
  | succ n ih =>
    intro acc hsz hacc hk hle
    have hk' : k < vs.length := by omega
    rw [List.drop_eq_getElem_cons hk']
    simp only [List.zipIdx_cons, List.foldl_cons]
    refine ih (k + 1) (by omega) _ (by simpa using hsz) (fun i => ?_) (by omega) hle
    rw [Array.getElem?_setIfInBounds]
    by_cases hi : off + k = i
    · subst hi
      rw [if_pos rfl, if_pos (by omega), if_pos (by omega)]
      simp [List.getElem?_eq_getElem hk']
    · rw [if_neg hi, hacc i]
      by_cases h1 : off ≤ i ∧ i < off + k
      · rw [if_pos h1, if_pos (by omega)]
      · rw [if_neg h1, if_neg (by omega)]
def PR (Z : Zs) (w : World) (j : J) : List (Nat × V) → List (Nat × Value) → Prop
  | [], [] => True
  | (i, v) :: ps, (k, u) :: qs => i = k ∧ VR Z w j v u ∧ PR Z w j ps qs
  | _, _ => False
theorem parts_sound {env : List V} {ρ : Operand → Value} (hρ : ∀ x v, evalO env x = some v → VR Z w j v (ρ x)) : ∀ (l : List (Nat × Operand)) (ps : List (Nat × V)), mapO (partO env) l = some ps → PR Z w j ps (l.map fun p => (p.1, ρ p.2)) := by
  intro l
  induction l with
  | nil => intro ps h; simp [mapO] at h; subst h; trivial
  | cons p l ih =>
    intro ps h
    simp only [mapO, partO] at h
    cases h1 : evalO env p.2 with
    | none => simp [h1] at h
    | some v =>
      cases h2 : mapO (partO env) l with
      | none => simp [h1, h2] at h
      | some qs =>
        simp [h1, h2] at h
        subst h
        exact ⟨rfl, hρ _ _ h1, ih _ h2⟩
theorem one_of_all {v : V} (h : v.cells.all V.one = true) : ∀ y ∈ v.cells, y.one = true := List.all_eq_true.1 h
theorem fill_sound {place : Nat → Option (Nat × Nat)} : ∀ (ps : List (Nat × V)) (qs : List (Nat × Value)) (cs out : List V) (us : Array Value), fillA place cs ps = some out → PR Z w j ps qs → LR Z w j cs us →
    ∃ us', Instr.fill place us qs = some us' ∧ LR Z w j out us' := by
  intro ps
  induction ps with
  | nil =>
    intro qs cs out us h hp hr
    cases qs with
    | nil => simp [fillA] at h; subst h; exact ⟨us, rfl, hr⟩
    | cons _ _ => exact hp.elim
  | cons p ps ih =>
    intro qs cs out us h hp hr
    obtain ⟨i, v⟩ := p
    cases qs with
    | nil => exact hp.elim
    | cons q qs =>
      obtain ⟨k, u⟩ := q
      obtain ⟨rfl, hv, hp⟩ := hp
      simp only [fillA] at h
      cases hpl : place i with
      | none => simp [hpl] at h
      | some os =>
        obtain ⟨off, size⟩ := os
        simp only [hpl, Option.bind_some] at h
        split at h
        · rename_i hc
          obtain ⟨h1, h2, h3⟩ := hc
          obtain ⟨hsz, hcl⟩ := hv.cellsOf (one_of_all h3)
          have hus := hr.1
          have hle : off + u.cells.toList.length ≤ us.size := by simp; omega
          have fs := foldl_set (cs := us) (off := off) u.cells.toList 0 us rfl (fun i => by rw [if_neg (by omega)]) (by omega) hle
          simp only [List.drop_zero] at fs
          have hr' : LR Z w j (cs.take off ++ v.cells ++ cs.drop (off + size)) ((u.cells.toList.zipIdx 0).foldl (fun a (x : Value × Nat) => a.setIfInBounds (off + x.2) x.1) us) := by
            refine ⟨by rw [fs.1]; simp; omega, fun i c hc => ?_⟩
            rw [fs.2 i]
            have hto : (cs.take off).length = off := by simp; omega
            by_cases hi : i < off
            · rw [if_neg (by omega)]
              rw [List.append_assoc, List.getElem?_append_left (by omega), List.getElem?_take, if_pos hi] at hc
              exact hr.2 i c hc
            · rw [List.append_assoc, List.getElem?_append_right (by omega), hto] at hc
              by_cases hi2 : i - off < v.cells.length
              · rw [List.getElem?_append_left hi2] at hc
                rw [if_pos (by simp; omega)]
                obtain ⟨c', hc', hvr⟩ := hcl _ c hc
                exact ⟨c', by simpa using hc', hvr⟩
              · rw [List.getElem?_append_right (by omega), List.getElem?_drop] at hc
                rw [if_neg (by simp; omega)]
                have e : off + size + (i - off - v.cells.length) = i := by omega
                rw [e] at hc
                exact hr.2 i c hc
          obtain ⟨us', h4, h5⟩ := ih qs _ out _ h hp hr'
          refine ⟨us', ?_, h5⟩
          have g1 : ¬ (u.cells.size ≠ size) := by omega
          have g2 : ¬ (off + u.cells.size > us.size) := by simp at hle; omega
          simp only [Instr.fill, hpl]
          rw [if_neg (by simp only [Bool.or_eq_true, decide_eq_true_eq]; omega)]
          rw [← h4]
          congr 1
          rw [← Array.foldl_toList, Array.toList_zipIdx]
        · cases h
theorem zeroV_sound {t : TypeId} {z : V} (h : zeroV P t = some z) : ∃ i zv, P.info? t = some i ∧ i.zero = some zv ∧ VR Z w j z zv ∧ P.cellsOf t = i.size := by
  unfold zeroV at h
  cases hi : P.info? t with
  | none => simp [hi] at h
  | some i =>
    simp only [hi, Option.bind_some] at h
    have sz : P.cellsOf t = i.size := by simp [Program.cellsOf, hi]
    cases hz : i.zero with
    | none => simp [hz] at h
    | some zv =>
      refine ⟨i, zv, rfl, hz, ?_, sz⟩
      simp only [hz] at h
      split at h
      · rename_i cs he
        cases he
        cases hm : mapO constV cs.toList with
        | none => simp [hm] at h
        | some vs =>
          simp [hm] at h
          subst h
          have key : ∀ (l : List Value) (vs : List V), mapO constV l = some vs → vs.length = l.length ∧ ∀ (i : Nat) (c : V) (u : Value), vs[i]? = some c → l[i]? = some u → VR Z w j c u := by
            intro l
            induction l with
            | nil => intro vs h; simp [mapO] at h; subst h; exact ⟨rfl, fun i c u h => by simp at h⟩
            | cons x l ih =>
              intro vs h
              simp only [mapO] at h
              cases h1 : constV x with
              | none => simp [h1] at h
              | some y =>
                cases h2 : mapO constV l with
                | none => simp [h1, h2] at h
                | some ys =>
                  simp [h1, h2] at h
                  subst h
                  obtain ⟨a, b⟩ := ih ys h2
                  refine ⟨by simp [a], fun i c u hc hu => ?_⟩
                  cases i with
                  | zero => simp at hc hu; subst hc hu; exact constV_sound h1
                  | succ i => exact b i c u (by simpa using hc) (by simpa using hu)
          obtain ⟨a, b⟩ := key _ _ hm
          have e : cs = cs.toList.toArray := by simp
          rw [e]
          exact .agg a b
      · cases ‹some _ = some _›
        exact constV_sound h
      · cases h
end
end Go.Lite