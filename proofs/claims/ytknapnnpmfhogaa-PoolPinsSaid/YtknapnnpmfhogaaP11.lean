/-
  PoolPins.
-/
import Derived.Test.YtknapnnpmfhogaaPU
import Derived.Test.YtknapnnpmfhogaaPWP
namespace Go.Proofs.Ytknapnnpmfhogaa
open Go Go.Lite
set_option linter.unusedSimpArgs false
set_option linter.unusedVariables false
set_option linter.unnecessarySimpa false
set_option maxRecDepth 10000
structure One (N k : Nat) (L : List Pg) : Prop where
  pg : pgs L = (List.range (min k N)).map fun (j : Nat) => (j : Int)
  one : ∀ x ∈ L, x.pins = 1 ∧ x.dirty = false
theorem One.len {N k : Nat} {L : List Pg} (h : One N k L) : L.length = min k N := by
  have := congrArg List.length h.pg
  simpa [pgs] using this
theorem one_step {N k : Nat} {L : List Pg} {ws : Ws} (hN : 1 ≤ N) (h : One N k L) (hk : k < 16) (hw : ws = []) :
    ∃ s, pinS (N : Int) 0 16 L ws (k : Int) = (s, if k < N then 0 else 6, if k < N then L ++ [newX ws (k : Int)] else L, ws) ∧ One N (k + 1) (if k < N then L ++ [newX ws (k : Int)] else L) := by
  subst hw
  have hf : findP L (k : Int) = none := by
    unfold findP
    rw [List.find?_eq_none]
    intro x hx hc
    have hx' : x.page ∈ pgs L := List.mem_map.2 ⟨x, hx, rfl⟩
    rw [h.pg] at hx'
    obtain ⟨j, hj, e⟩ := List.mem_map.1 hx'
    have : x.page = (k : Int) := by simpa using hc
    have := List.mem_range.1 hj
    omega
  unfold pinS
  rw [if_pos ⟨by omega, by omega⟩, hf]
  dsimp only
  have hl := h.len
  by_cases hkN : k < N
  · rw [if_pos hkN, if_pos hkN]
    have : freeS (N : Int) 0 L [] = some (L, []) := by unfold freeS; rw [if_pos (by rw [hl]; omega)]
    rw [this]
    refine ⟨_, rfl, ?_, ?_⟩
    · rw [pgs_app, h.pg, show min k N = k by omega, show min (k + 1) N = k + 1 by omega, List.range_succ, List.map_append]; rfl
    · intro x hx
      rcases List.mem_append.1 hx with hx | hx
      · exact h.one x hx
      · simp only [List.mem_singleton] at hx; rw [hx]; exact ⟨rfl, rfl⟩
  · rw [if_neg hkN, if_neg hkN]
    have : freeS (N : Int) 0 L [] = none := by
      unfold freeS
      rw [if_neg (by rw [hl]; omega), List.find?_eq_none.2]
      · rfl
      · intro x hx hc
        simp only [goesP, (h.one x hx).1] at hc
        simp at hc
    rw [this]
    refine ⟨_, rfl, ?_, h.one⟩
    rw [h.pg, show min k N = min (k + 1) N by omega]
structure Zero (N m : Nat) (L : List Pg) : Prop where
  x : ∃ x, findP L 0 = some x ∧ x.pins = (m : Int)
  low : ∀ x ∈ L, x.page < (N : Int)
  clean : ∀ x ∈ L, x.dirty = false
  len : L.length = N
theorem zero_pin {N m : Nat} {L : List Pg} (hN : 1 ≤ N) (hn : (pgs L).Nodup) (h : Zero N m L) (hm : m < 1000) :
    ∃ s L', pinS (N : Int) 0 16 L [] 0 = (s, 0, L', []) ∧ Zero N (m + 1) L' ∧ ((findP L' 0).map Pg.pins).getD 0 = ((m + 1 : Nat) : Int) := by
  obtain ⟨x, hf, hp⟩ := h.x
  obtain ⟨hx, hx0⟩ := findP_some hf
  have hl := (cut_perm hn hx).length_eq
  simp only [List.length_append, List.length_singleton] at hl
  rw [hx0] at hl
  have hfl : findP (cutP L 0 ++ [pinX x]) 0 = some (pinX x) := by
    unfold findP
    rw [List.find?_append, List.find?_eq_none.2]
    · simp [pinX, hx0]
    · intro y hy
      have := (List.mem_filter.1 hy).2
      simpa using this
  have hpx : (pinX x).pins = ((m + 1 : Nat) : Int) := by
    show W .i64 (x.pins + 1) = _
    rw [hp, wi m (by omega)]
  refine ⟨x.s, cutP L 0 ++ [pinX x], by unfold pinS; rw [if_pos (by omega), hf], ⟨⟨_, hfl, hpx⟩, ?_, ?_, ?_⟩, ?_⟩
  · intro y hy
    rcases List.mem_append.1 hy with hy | hy
    · exact h.low y (List.mem_filter.1 hy).1
    · simp only [List.mem_singleton] at hy; rw [hy]; exact h.low x hx
  · intro y hy
    rcases List.mem_append.1 hy with hy | hy
    · exact h.clean y (List.mem_filter.1 hy).1
    · simp only [List.mem_singleton] at hy; rw [hy]; exact h.clean x hx
  · simp; have := h.len; omega
  · rw [hfl]; exact hpx
theorem zero_unpin {N m : Nat} {L : List Pg} (h : Zero N (m + 1) L) (hm : m < 1000) :
    heldE L 0 = 0 ∧ Zero N m (if heldE L 0 = 0 then updP L 0 fun y => { y with pins := W .i64 (y.pins - 1) } else L) := by
  obtain ⟨x, hf, hp⟩ := h.x
  have hh := held_y hf (by omega)
  rw [hh, if_pos rfl]
  refine ⟨rfl, ⟨_, find_upd (f := fun y => { y with pins := W .i64 (y.pins - 1) }) (fun _ => rfl) hf, ?_⟩, ?_, ?_, ?_⟩
  · show W .i64 (x.pins - 1) = _
    rw [hp, W_i64 (by omega)]; omega
  · intro y hy
    obtain ⟨w, hw, e | ⟨e, _⟩⟩ := mem_upd hy
    · exact e ▸ h.low w hw
    · rw [e]; exact h.low w hw
  · intro y hy
    obtain ⟨w, hw, e | ⟨e, _⟩⟩ := mem_upd hy
    · exact e ▸ h.clean w hw
    · rw [e]; exact h.clean w hw
  · have := h.len; simpa [updP] using this
theorem zero_last {N : Nat} {L : List Pg} (hN : N ≤ 8) (hn : (pgs L).Nodup) (h : Zero N 0 L) :
    heldE L 0 = 9 ∧ ∃ s L', pinS (N : Int) 0 16 L [] 15 = (s, 0, L', []) ∧ ((findP L' 0).map Pg.pins).getD 0 = 0 := by
  obtain ⟨x, hf, hp⟩ := h.x
  obtain ⟨hx, hx0⟩ := findP_some hf
  refine ⟨held_s hf (by simpa using hp), ?_⟩
  have h15 : findP L 15 = none := by
    unfold findP
    rw [List.find?_eq_none]
    intro y hy hc
    have := h.low y hy
    have : y.page = 15 := by simpa using hc
    omega
  obtain ⟨c, hc⟩ : ∃ c, L.find? (goesP 0) = some c := by
    cases hq : L.find? (goesP 0) with
    | some c => exact ⟨c, rfl⟩
    | none =>
      have := List.find?_eq_none.1 hq x hx
      refine absurd ?_ this
      simp [goesP, h.clean x hx]
      simpa using hp
  have hcm := List.mem_of_find?_eq_some hc
  have hfs : freeS (N : Int) 0 L [] = some (cutP L c.page, []) := by
    unfold freeS
    rw [if_neg (by rw [h.len]; omega), hc, Option.map_some, h.clean c hcm]
    rfl
  refine ⟨cont [] 15, cutP L c.page ++ [newX [] 15], by unfold pinS; rw [if_pos (by omega), h15]; dsimp only; rw [hfs], ?_⟩
  cases hq : findP (cutP L c.page ++ [newX [] 15]) 0 with
  | none => rfl
  | some y =>
    obtain ⟨hy, hy0⟩ := findP_some hq
    rcases List.mem_append.1 hy with hy | hy
    · have hyL := (List.mem_filter.1 hy).1
      have e := findP_of hn hyL
      rw [hy0, hf] at e
      cases e
      simpa using hp
    · simp only [List.mem_singleton] at hy
      rw [hy] at hy0
      exact absurd hy0 (by decide)
theorem one_zero (N : Nat) (hN : 1 ≤ N ∧ N ≤ 8) {L : List Pg} (h : One N 16 L) : Zero N 1 L := by
  have hm : min 16 N = N := by omega
  have hpg := h.pg
  rw [hm] at hpg
  have h0 : (0 : Int) ∈ pgs L := by rw [hpg]; exact List.mem_map.2 ⟨0, List.mem_range.2 (by omega), rfl⟩
  obtain ⟨x, hf, hx, hx0⟩ := findP_in h0
  refine ⟨⟨x, hf, (h.one x hx).1⟩, ?_, fun y hy => (h.one y hy).2, by rw [h.len, hm]⟩
  intro y hy
  have : y.page ∈ pgs L := List.mem_map.2 ⟨y, hy, rfl⟩
  rw [hpg] at this
  obtain ⟨j, hj, e⟩ := List.mem_map.1 this
  have := List.mem_range.1 hj
  omega
section
variable (N : Nat) (hN : 1 ≤ N ∧ N ≤ 8)
  include hN
theorem pins_loop0 (tm : Int) : ∀ (d k : Nat) (L : List Pg) (ar : List V) (ks : List Int) (ix : Int → Nat) (z : Nat), k + d = 16 → One N k L → Good (N : Int) 16 L [] → Rep ar ks ix L →
    ∃ ar' ks' ix' z' L', One N 16 L' ∧ Good (N : Int) 16 L' [] ∧ Rep ar' ks' ix' L' ∧
      ∀ o, Go qk true 2 fa6 (.head 1 (T6_1 ((W .i64 tm).tmod 9) 0 ar' [] (N : Int) 0 16 (mpV ks' ix') (ints (pgs L')) [] (wsV []) z')) o →
        Go qk true 2 fa6 (.head 0 (T6_0 tm (N : Int) (k : Int) ar [] (N : Int) 0 16 (mpV ks ix) (ints (pgs L)) [] (wsV []) z)) o := by
  intro d
  induction d with
  | zero =>
    intro k L ar ks ix z hk h1 g r
    have : k = 16 := by omega
    subst this
    refine ⟨ar, ks, ix, z, L, h1, g, r, fun o ho => s6_0_run _ _ _ _ _ _ _ _ _ _ _ _ _ ?_ ho⟩
    unfold s6_0
    rw [decide_eq_false (by decide)]; rfl
  | succ d ih =>
    intro k L ar ks ix z hk h1 g r
    obtain ⟨s, e1, e2⟩ := one_step hN.1 h1 (by omega) rfl
    obtain ⟨ar', ks', ix', z', r', g', c⟩ := pin_at (a1 := []) (sure := 0) (p := (k : Int)) (z := z) r g (by simp) e1
    obtain ⟨ar2, ks2, ix2, z2, L2, q1, q2, q3, q4⟩ := ih (k + 1) _ ar' ks' ix' z' (by omega) e2 g' r'
    refine ⟨ar2, ks2, ix2, z2, L2, q1, q2, q3, fun o ho => s6_0_run _ _ _ _ _ _ _ _ _ _ _ _ _ ?_ (q4 o ho)⟩
    unfold s6_0
    rw [decide_eq_true (by omega), cond_true, icM_of mk9_inj c]
    dsimp only
    rw [wi k (by omega)]
    by_cases hkN : k < N
    · simp only [if_pos hkN]
      rw [decide_eq_true (by omega)]; rfl
    · simp only [if_neg hkN]
      rw [decide_eq_false (by omega)]; rfl
theorem pins_loop1 (t : Nat) (ht : t ≤ 8) : ∀ (d i : Nat) (L : List Pg) (ar : List V) (ks : List Int) (ix : Int → Nat) (z : Nat), i + d = t → Zero N (i + 1) L → Good (N : Int) 16 L [] → Rep ar ks ix L →
    ∃ ar' ks' ix' z' L', Zero N (t + 1) L' ∧ Good (N : Int) 16 L' [] ∧ Rep ar' ks' ix' L' ∧
      ∀ o, Go qk true 2 fa6 (.head 2 (T6_2 (t : Int) 0 ar' [] (N : Int) 0 16 (mpV ks' ix') (ints (pgs L')) [] (wsV []) z')) o →
        Go qk true 2 fa6 (.head 1 (T6_1 (t : Int) (i : Int) ar [] (N : Int) 0 16 (mpV ks ix) (ints (pgs L)) [] (wsV []) z)) o := by
  intro d
  induction d with
  | zero =>
    intro i L ar ks ix z hk h1 g r
    have : i = t := by omega
    subst this
    refine ⟨ar, ks, ix, z, L, h1, g, r, fun o ho => s6_1_run _ _ _ _ _ _ _ _ _ _ _ _ ?_ ho⟩
    unfold s6_1
    rw [decide_eq_false (by omega)]; rfl
  | succ d ih =>
    intro i L ar ks ix z hk h1 g r
    obtain ⟨s, L1, e1, e2, e3⟩ := zero_pin hN.1 r.nd h1 (by omega)
    obtain ⟨ar', ks', ix', z', r', g', c⟩ := pin_at (a1 := []) (sure := 0) (p := 0) (z := z) r g (by simp) e1
    have c2 := pins_ok (a1 := []) (pl := (N : Int)) (sure := 0) (n := 16) (ws := []) (z := z') r' 0
    rw [e3] at c2
    obtain ⟨ar2, ks2, ix2, z2, L2, q1, q2, q3, q4⟩ := ih (i + 1) L1 ar' ks' ix' z' (by omega) e2 g' r'
    refine ⟨ar2, ks2, ix2, z2, L2, q1, q2, q3, fun o ho => s6_1_run _ _ _ _ _ _ _ _ _ _ _ _ ?_ (q4 o ho)⟩
    unfold s6_1
    rw [decide_eq_true (by omega), cond_true, icM_of mk9_inj c]
    dsimp only
    rw [ibne_f rfl, cond_false, icM_of mk20_inj c2]
    dsimp only
    rw [ibne_f (by rw [W_i64 (by omega)]; omega), cond_false, wi i (by omega)]
theorem pins_loop2 (t : Nat) (ht : t ≤ 8) : ∀ (d i : Nat) (L : List Pg) (ar : List V) (ks : List Int) (ix : Int → Nat) (z : Nat), i + d = t + 1 → Zero N d L → Good (N : Int) 16 L [] → Rep ar ks ix L →
    ∃ m, Go qk true 2 fa6 (.head 2 (T6_2 (t : Int) (i : Int) ar [] (N : Int) 0 16 (mpV ks ix) (ints (pgs L)) [] (wsV []) z)) (.doneM (.bool true) m) := by
  intro d
  induction d with
  | zero =>
    intro i L ar ks ix z hk h1 g r
    have : i = t + 1 := by omega
    subst this
    obtain ⟨e1, s, L1, e2, e3⟩ := zero_last hN.2 r.nd h1
    obtain ⟨ar1, r1, g1, -, c1⟩ := unpin_at (a1 := []) (sure := 0) (p := 0) (z := z) (pl := (N : Int)) (n := 16) (ws := []) r g (e := 9) (L' := L) e1 (by rw [e1]; rfl)
    obtain ⟨ar2, ks2, ix2, z2, r2, g2, c2⟩ := pin_at (a1 := []) (sure := 0) (p := 15) (z := z) r1 g1 (by simp) e2
    have c3 := pins_ok (a1 := []) (pl := (N : Int)) (sure := 0) (n := 16) (ws := []) (z := z2) r2 0
    rw [e3] at c3
    apply Exists.intro
    refine s6_2_run _ _ _ _ _ _ _ _ _ _ _ _ ?_ (.refl _)
    unfold s6_2
    rw [decide_eq_false (by omega), cond_false, icM_of mk10_inj c1]
    dsimp only
    rw [icM_of mk9_inj c2]
    dsimp only
    simp only [beq_self_eq_true, cond_true]
    rw [icM_of mk20_inj c3]
    dsimp only
    simp only [beq_self_eq_true, cond_true]
    rw [pcK_of fixedL_ok, kB_mk]
  | succ d ih =>
    intro i L ar ks ix z hk h1 g r
    obtain ⟨e1, e2⟩ := zero_unpin h1 (by omega)
    obtain ⟨ar1, r1, g1, hpg, c1⟩ := unpin_at (a1 := []) (sure := 0) (p := 0) (z := z) (pl := (N : Int)) (n := 16) (ws := []) r g (e := 0) e1 rfl
    obtain ⟨m, q⟩ := ih (i + 1) _ ar1 ks ix z (by omega) e2 g1 r1
    refine ⟨m, s6_2_run _ _ _ _ _ _ _ _ _ _ _ _ ?_ q⟩
    unfold s6_2
    rw [decide_eq_true (by omega), cond_true, icM_of mk10_inj c1]
    dsimp only
    rw [ibne_f rfl, cond_false, wi i (by omega)]
end
theorem poolPins_ok (pl tm : Int) (ht : 0 ≤ tm ∧ tm < 256) : pcW qcfg 6 [.int .i64 pl, .int .u8 tm] = some (.bool true) := by
  obtain ⟨q, hq, e⟩ := and7 pl
  have hN : 1 ≤ q + 1 ∧ q + 1 ≤ 8 := by omega
  have w1 : W .i64 (1 + (q : Int)) = ((q + 1 : Nat) : Int) := by rw [W_i64 (by omega)]; omega
  obtain ⟨t, ht1, ht2⟩ : ∃ t : Nat, t ≤ 8 ∧ (W .i64 tm).tmod 9 = (t : Int) := by
    obtain ⟨k, rfl⟩ : ∃ k : Nat, tm = (k : Int) := ⟨tm.toNat, by omega⟩
    exact ⟨k % 9, by omega, by rw [W_i64 (by omega)]; rfl⟩
  have hone : One (q + 1) 0 [] := ⟨by simp [pgs], by simp⟩
  obtain ⟨ar1, ks1, ix1, z1, L1, a1, a2, a3, a4⟩ := pins_loop0 (q + 1) hN tm 16 0 [] [] [] (fun _ => 0) 0 rfl hone (.mt (by omega)) Rep.mt
  obtain ⟨ar2, ks2, ix2, z2, L2, b1, b2, b3, b4⟩ := pins_loop1 (q + 1) hN t ht1 t 0 L1 ar1 ks1 ix1 z1 (by omega) (one_zero _ hN a1) a2 a3
  obtain ⟨m, c⟩ := pins_loop2 (q + 1) hN t ht1 (t + 1) 0 L2 ar2 ks2 ix2 z2 (by omega) b1 b2 b3
  rw [ht2] at a4
  refine law_run rfl fa6_eq rfl rfl rfl rfl ((e6_eq pl tm).trans ?_) (a4 _ (b4 _ c))
  unfold e6
  rw [e, w1, decide_eq_false (by omega), cond_false, decide_eq_false (by omega), cond_false]
  rfl
end Go.Proofs.Ytknapnnpmfhogaa