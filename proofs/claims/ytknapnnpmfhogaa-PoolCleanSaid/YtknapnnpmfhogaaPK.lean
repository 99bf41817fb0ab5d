/-
  slices.Sorted over maps.Keys.
-/
import Derived.Test.YtknapnnpmfhogaaPL
import Derived.Test.YtknapnnpmfhogaaP0
import Derived.Maps.Own
namespace Go.Proofs.Ytknapnnpmfhogaa
open Go Go.Lite Go.WideElems Go.Maps
theorem mapO_get {α β : Type} {f : α → Option β} : ∀ {l : List α} {r : List β}, mapO f l = some r → r.length = l.length ∧ ∀ (i : Nat) (x : α), l[i]? = some x → ∃ y, r[i]? = some y ∧ f x = some y
  | [], r, h => by cases h; exact ⟨rfl, fun i x hx => by simp at hx⟩
  | a :: l, r, h => by
    simp only [mapO, Option.bind_eq_some_iff, Option.map_eq_some_iff] at h
    obtain ⟨y, hy, ys, hys, rfl⟩ := h
    obtain ⟨h1, h2⟩ := mapO_get hys
    refine ⟨by simp [h1], fun i x hx => ?_⟩
    cases i with
    | zero => simp at hx; subst hx; exact ⟨y, rfl, hy⟩
    | succ i => simpa using h2 i x (by simpa using hx)
theorem keyI_some {v : V} {n : Int} (h : keyI v = some n) : v = .int .i64 n ∧ -9223372036854775808 ≤ n ∧ n ≤ 9223372036854775807 := by
  unfold keyI at h
  split at h
  · split at h
    · rename_i hr; cases h; exact ⟨rfl, hr⟩
    · cases h
  · cases h
abbrev RU : Value → Option (DataW Unit × List MemPlace) := fun _ => some (.nil, [])
theorem u3 : Try.prog.underlying 3 = some (.int .i64) := by kernel_rfl
theorem ce3 : Try.prog.cellsOf 3 = 1 := by kernel_rfl
theorem rd_key {x : MapEntry} {n : Int} (hk : x.key = .int .i64 n) (h1 : -9223372036854775808 ≤ n) (h2 : n ≤ 9223372036854775807) : rd Try.prog 3 RU x = some (.int .i64 n, .nil) := by
  have hwf : (Lit.int .i64 n).wf = true := by
    simp only [Lit.wf, Bool.and_eq_true, decide_eq_true_eq]
    exact ⟨by simpa [IntKind.min, IntKind.signed, IntKind.bits] using h1, by simpa [IntKind.max, IntKind.signed, IntKind.bits] using h2⟩
  have : keyOf Try.prog 3 (.int .i64 n) = some (.int .i64 n) := by
    unfold keyOf
    rw [u3]
    dsimp only
    unfold mapKey
    rw [u3]
    dsimp only
    rw [if_pos ⟨rfl, hwf⟩]
  unfold rd
  rw [hk, this]
  rfl
set_option maxHeartbeats 4000000 in
set_option maxRecDepth 100000 in
theorem sortedK_ok : ImpOK Try.prog fun f' av mem => if f' = 37 then sortedKP 52 av mem else none := by
  intro f av mem r mem' h hok Z w j us sr ha
  dsimp only at h
  split at h
  rotate_left
  · cases h
  rename_i e
  subst e
  unfold sortedKP at h
  split at h
  rotate_left
  · cases h
  rename_i ff b
  split at h
  rotate_left
  · cases h
  rename_i t m fz hb
  split at h
  rotate_left
  · cases h
  rename_i e
  subst e
  simp only [Option.bind_eq_some_iff] at h
  obtain ⟨es, hes, ks, hks, h⟩ := h
  split at h
  rotate_left
  · cases h
  rename_i hlen
  cases h
  obtain ⟨hl, hv⟩ := ha
  match us, hl, hv with
  | [u1], hl, hv =>
  have v1 := hv 0 _ u1 rfl rfl
  cases v1 with
  | fn hcl hcv =>
  rename_i uc
  match uc, hcl, hcv with
  | [c1], hcl, hcv =>
  have vc := hcv 0 _ c1 rfl rfl
  obtain ⟨g, us0, q1, q2, q3, q4, q5, _⟩ := sr.obj b _ hb
  cases vc with
  | ptr hj hs =>
  rw [q1] at hj
  cases hj
  simp only [Han.start, Option.some.injEq, Prod.mk.injEq] at hs
  obtain ⟨rfl, rfl⟩ := hs
  have hmc : m.cells = [m] := by
    cases m <;> first | rfl | (simp [mapAt] at hes; done)
  rw [hmc] at q5
  obtain ⟨_, um, hum, hvm⟩ := q5 0 m rfl
  obtain ⟨rr, rfl, es', clock, h2, h3, h4, hz, hst⟩ := mapAt_sound sr hes hvm
  obtain ⟨k1, k2⟩ := mapO_get hks
  have hkey : ∀ (i : Nat) (x : MapEntry), es'[i]? = some x → ∃ n, ks[i]? = some n ∧ x.key = .int .i64 n ∧ -9223372036854775808 ≤ n ∧ n ≤ 9223372036854775807 := by
    intro i x hx
    have hi : i < es.length := by have := (Array.getElem?_eq_some_iff.1 hx).1; omega
    obtain ⟨n, e1, e2⟩ := k2 i _ (List.getElem?_eq_getElem hi)
    obtain ⟨e3, e4, e5⟩ := keyI_some e2
    obtain ⟨x', p1, _, _, p4, _⟩ := h4 i es[i].1 es[i].2 (List.getElem?_eq_getElem hi)
    rw [hx] at p1; cases p1
    rw [e3] at p4
    generalize x.key = kk at p4
    cases p4
    exact ⟨n, e1, rfl, e4, e5⟩
  have hrd : ∀ (i : Nat) (x : MapEntry), es'.toList[i]? = some x → ∃ n, ks[i]? = some n ∧ rg Try.prog 3 RU x = (.int .i64 n, .nil) := by
    intro i x hx
    obtain ⟨n, e1, e2, e3, e4⟩ := hkey i x (by simpa using hx)
    refine ⟨n, e1, ?_⟩
    unfold rg
    rw [rd_key e2 e3 e4]; rfl
  have hsz : es'.size = ks.length := by omega
  have hown : w.ownsMap Try.prog 3 RU rr es'.size (.map ((es'.toList.map (rg Try.prog 3 RU)).foldr DataW.insert [])) := by
    refine ⟨es', clock, h2, ⟨by simp only [maxLen]; omega, hst, fun x hx => ?_⟩, Nat.le_refl _, rfl⟩
    obtain ⟨i, hi⟩ := List.getElem?_of_mem hx
    obtain ⟨n, _, e2, e3, e4⟩ := hkey i x (by simpa using hi)
    exact ⟨_, rd_key e2 e3 e4⟩
  have hints : (intKeys (DataW.map ((es'.toList.map (rg Try.prog 3 RU)).foldr DataW.insert []))).Perm ks := by
    unfold intKeys
    dsimp only
    refine ((WideShapes.sorted_perm _).map _).trans (List.Perm.of_eq ?_)
    apply List.ext_getElem?
    intro i
    rw [List.map_map, List.getElem?_map]
    cases hx : es'.toList[i]? with
    | none =>
      rw [List.getElem?_eq_none_iff] at hx
      simp only [Array.length_toList] at hx
      rw [Option.map_none, List.getElem?_eq_none (by omega)]
    | some x =>
      obtain ⟨n, e1, e2⟩ := hrd i x hx
      rw [Option.map_some, e1]
      simp only [Function.comp, e2]
      rfl
  have hlt : g < w.heap.size := (Array.getElem?_eq_some_iff.1 q2).1
  have hmsz : Maps.size (DataW.map ((es'.toList.map (rg Try.prog 3 RU)).foldr DataW.insert [])) = ks.length := by
    rw [Maps.size_eq, (WideShapes.sorted_perm _).length_eq, List.length_map, Array.length_toList, hsz]
  have hseq : SeqGives Fence.wide 2 Try.prog 52 #[.pointer (some ⟨g, 0, none⟩)] encZ (fun ss => ss.Perm (intKeys (DataW.map ((es'.toList.map (rg Try.prog 3 RU)).foldr DataW.insert [])))) (Maps.size (DataW.map ((es'.toList.map (rg Try.prog 3 RU)).foldr DataW.insert []))) w :=
    AnyZI.keys_gives (ρ := keysL_ren) { keysL with } Fence.wide _ trivial rfl (by omega) g rr es'.size _ w hlt (by simpa using hum) hown
  have cS := AnyZI.sorted_in sortedL Fence.wide 5 trivial trivial trivial trivial rfl (by omega) (sortsL _) (enters_of Try.func51 (by kernel_rfl) rfl) 52 #[.pointer (some ⟨g, 0, none⟩)] trivial (enters_of Try.func52 (by kernel_rfl) rfl) _ _ (by rw [hmsz]; simp only [maxLen]; omega) (by rw [hmsz]; omega) w hseq
  have cS2 := (callsIn_wide (n := 5)).1 cS
  have ev : (⟨g, 0 + (0 * (Try.prog.cellsOf t) + 0), none⟩ : Addr) = ⟨g, 0, none⟩ := by simp
  have eu : #[Value.func (.func 52) #[] [Value.pointer (some ⟨g, 0 + (0 * (Try.prog.cellsOf t) + 0), none⟩)].toArray] = #[Value.func (.func 52) #[] #[.pointer (some ⟨g, 0, none⟩)]] := by rw [ev]
  show Calls Try.prog 37 #[Value.func (.func 52) #[] [Value.pointer (some ⟨g, 0 + (0 * (Try.prog.cellsOf t) + 0), none⟩)].toArray] w _
  rw [eu]
  refine Calls.mono cS2 ?_
  rintro e w' ⟨v, ss, rfl, hS, hrow, hnil, hbel⟩
  refine ⟨v, rfl, ?_⟩
  have hss : ss.Perm ks := hS.trans hints
  have hsort : (ss.mergeSort fun x y => decide (x ≤ y)) = srt ks := mergeSort_of_perm_i hss
  have hsl : ss.length = (srt ks).length := by rw [hss.length_eq]; exact (List.mergeSort_perm ks _).length_eq.symm
  rw [hsort] at hrow
  have hks0 : ks.length = (srt ks).length := (List.mergeSort_perm ks _).length_eq.symm
  have hz' : ZExt Z w Z w' := .of fun g o ho => ⟨ho, same_block (hbel.block g (sr.zin g o ho)) o⟩
  have s1 : SR Try.prog Z w' j mem := sr.world hz' (fun g hg => ⟨hbel.block g (Owned.lt sr hg), fun _ => Iff.rfl⟩) (fun g o ho => Nat.lt_of_lt_of_le (sr.zin g o ho) hbel.size)
  have stp0 : ∀ (h : Han), (∀ g, h.blk = some g → w.heap.size ≤ g) → SR Try.prog Z w' (upd j mem.length h) (mem ++ [.row 3 ((srt ks).map iV) 0]) →
      Stp Z w j mem Z w' (upd j mem.length h) (mem ++ [.row 3 ((srt ks).map iV) 0]) := fun h hh s2 =>
    ⟨hbel.os, hbel.tape, hbel.output, hbel.size, fun g hg _ => ⟨hbel.block g hg, fun _ => Iff.rfl⟩, fun g hg ho => by
      rcases Owned.add ho rfl with ho | ho
      · exact ho
      · have := hh g ho; omega, hz', fun t hn => ⟨hn.add rfl, rfl⟩⟩
  rcases hrow.2 with ⟨rfl, hn0⟩ | ⟨gb, cap, cur, rfl, hgb, hcur, hncap, hcap, hcs, htake⟩
  · have hnk : srt ks = [] := List.length_eq_zero_iff.1 (by omega)
    have s2 := s1.add (h := ⟨.slice none 0 0, 1⟩) (o := .row 3 ((srt ks).map iV) 0) (by simp [Han.blk]) ⟨_, upd_same _ _ _, by
      refine ⟨ce3.symm, Nat.one_pos, Nat.zero_le _, ?_, .inl ⟨rfl, by rw [hnk]; rfl⟩⟩
      rw [hnk]; simp⟩
    exact ⟨Z, _, .own (upd_same _ _ _) (by simp), s2, stp0 _ (by simp [Han.blk]) s2, sr.ext _⟩
  · have hcell : ∀ k x, (srt ks)[k]? = some x → w'.cell? ⟨gb, 0 + k * 1 + 0, none⟩ = some (.int .i64 x) := by
      intro k x hx
      have hkl : k < (srt ks).length := (List.getElem?_eq_some_iff.1 hx).1
      have : cur.toList[k]? = some (.int .i64 x) := by
        have h1 : (cur.toList.take (ss.length * 1))[k]? = some (.int .i64 x) := by rw [htake]; simp [hx, encZ]
        rwa [List.getElem?_take_of_lt (by omega)] at h1
      simp only [World.cell?, hcur]
      simpa using this
    have s2 := s1.add (h := ⟨.slice (some ⟨gb, 0, none⟩) ss.length cap, 1⟩) (o := .row 3 ((srt ks).map iV) 0) (fun g hg ho => by
        have : gb = g := by simpa [Han.blk] using hg
        have := Owned.lt sr ho
        omega) ⟨_, upd_same _ _ _, by
      refine ⟨ce3.symm, Nat.one_pos, Nat.zero_le _, ?_, .inr ⟨gb, 0, cap, cur, ?_, ?_, hcap, hcur, by simp; omega, ?_, ?_, ?_⟩⟩
      · intro x hx
        obtain ⟨y, _, rfl⟩ := List.mem_map.1 hx; rfl
      · rw [List.length_map, hsl]
      · rw [List.length_map]; omega
      · intro k x hx i y hy
        rw [List.getElem?_map, Option.map_eq_some_iff] at hx
        obtain ⟨n, hn, rfl⟩ := hx
        match i, hy with
        | 0, hy =>
          cases hy
          exact ⟨rfl, _, hcell k n hn, .int⟩
        | i + 1, hy => simp [iV, V.cells] at hy
      · intro o ho
        have := sr.zin gb o ho
        omega
      · intro o ho; simp at ho⟩
    exact ⟨Z, _, .own (upd_same _ _ _) (by simp), s2, stp0 _ (by simp [Han.blk]; exact hgb) s2, sr.ext _⟩
end Go.Proofs.Ytknapnnpmfhogaa