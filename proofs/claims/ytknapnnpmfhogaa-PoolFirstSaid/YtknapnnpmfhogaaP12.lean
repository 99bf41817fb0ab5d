/-
  PoolFirst.
-/
import Derived.Test.YtknapnnpmfhogaaPU
import Derived.Test.YtknapnnpmfhogaaPWF
namespace Go.Proofs.Ytknapnnpmfhogaa
open Go Go.Lite
set_option linter.unusedSimpArgs false
set_option linter.unusedVariables false
set_option linter.unnecessarySimpa false
set_option maxRecDepth 10000
def num8 (s : Bs) : Nat := unle (s.take 8)
theorem unle_zeros : ∀ k, unle (List.replicate k 0) = 0
  | 0 => rfl
  | k + 1 => by rw [List.replicate_succ]; simp [unle, unle_zeros k]
theorem num8_zeros : num8 (zeros 252) = 0 := by
  unfold num8 zeros
  rw [List.take_replicate]
  exact unle_zeros _
theorem num8_leN (m : Nat) (h : m < 18446744073709551616) : num8 (padW (leN 8 m)) = m := by
  unfold num8 padW
  rw [List.take_left' (leN_len 8 m), unle_leN 8 m (by simpa using h)]
theorem cont_mem (ws : Ws) (p : Int) : cont ws p = zeros 252 ∨ ∃ w ∈ ws, cont ws p = w.2 := by
  refine snoc_ind (P := fun ws => cont ws p = zeros 252 ∨ ∃ w ∈ ws, cont ws p = w.2) (.inl rfl) ?_ ws
  intro ws w ih
  rw [cont_snoc]
  split
  · exact .inr ⟨w, by simp, rfl⟩
  · rcases ih with h | ⟨v, hv, e⟩
    · exact .inl h
    · exact .inr ⟨v, by simp [hv], e⟩
structure FI (sure : Int) (L : List Pg) (ws : Ws) : Prop where
  l : ∀ x ∈ L, (num8 x.s : Int) ≤ if x.dirty then x.last else sure
  w : ∀ w ∈ ws, (num8 w.2 : Int) ≤ sure
  z : 0 ≤ sure
section
variable {p : Int} {pl sure n : Int} {L : List Pg} {ws : Ws}
theorem FI.cont (h : FI sure L ws) (p : Int) : (num8 (cont ws p) : Int) ≤ sure := by
  rcases cont_mem ws p with e | ⟨w, hw, e⟩
  · rw [e, num8_zeros]; exact h.z
  · rw [e]; exact h.w w hw
theorem FI.may (h : FI sure L ws) {x : Pg} (hx : x ∈ L) (hm : x.dirty = false ∨ x.last ≤ sure) : (num8 x.s : Int) ≤ sure := by
  have := h.l x hx
  cases hd : x.dirty
  · rw [hd] at this; simpa using this
  · rw [hd] at this hm
    simp at this hm
    omega
theorem FI.pin (h : FI sure L ws) (p : Int) : FI sure (pinS pl sure n L ws p).2.2.1 (pinS pl sure n L ws p).2.2.2 := by
  unfold pinS
  split
  · cases hf : findP L p with
    | some x =>
      obtain ⟨hx, rfl⟩ := findP_some hf
      refine ⟨?_, h.w, h.z⟩
      intro y hy
      rcases List.mem_append.1 hy with hy | hy
      · exact h.l y (List.mem_filter.1 hy).1
      · simp only [List.mem_singleton] at hy; rw [hy]; exact h.l x hx
    | none =>
      cases hq : freeS pl sure L ws with
      | none => exact h
      | some r =>
        obtain ⟨L', ws'⟩ := r
        have h1 := freeS_pgs hq
        have h2 : ∀ w ∈ ws', (num8 w.2 : Int) ≤ sure := by
          unfold freeS at hq
          split at hq
          · cases hq; exact h.w
          · obtain ⟨c, hc, e⟩ := Option.map_eq_some_iff.1 hq
            cases e
            intro w hw
            split at hw
            · rename_i hd
              rcases List.mem_append.1 hw with hw | hw
              · exact h.w w hw
              · simp only [List.mem_singleton] at hw
                rw [hw]
                have hg := List.find?_some hc
                simp only [goesP, Bool.and_eq_true, Bool.or_eq_true, Bool.not_eq_true', decide_eq_true_eq] at hg
                exact h.may (List.mem_of_find?_eq_some hc) hg.2
            · exact h.w w hw
        refine ⟨?_, h2, h.z⟩
        intro y hy
        rcases List.mem_append.1 hy with hy | hy
        · exact h.l y (h1 y hy)
        · simp only [List.mem_singleton] at hy; rw [hy]; exact h.cont p
  · exact h
theorem FI.unpin (h : FI sure L ws) (p : Int) : FI sure (if heldE L p = 0 then updP L p fun y => { y with pins := W .i64 (y.pins - 1) } else L) ws := by
  split
  · refine ⟨?_, h.w, h.z⟩
    intro y hy
    obtain ⟨w, hw, e | ⟨e, _⟩⟩ := mem_upd hy
    · exact e ▸ h.l w hw
    · rw [e]; exact h.l w hw
  · exact h
theorem FI.put (h : FI sure L ws) (p : Int) (m : Nat) (lsn : Int) (hm : 1 ≤ lsn → (m : Int) = lsn) (hl : m < 18446744073709551616) : FI sure (if putE L p (leN 8 m) lsn = 0 then updP L p (putX (leN 8 m) lsn) else L) ws := by
  split
  · rename_i he
    have h1 : 1 ≤ lsn := by
      unfold putE at he
      split at he
      · split at he
        · cases he
        · split at he
          · cases he
          · omega
      · rename_i h2; exact absurd he h2
    refine ⟨?_, h.w, h.z⟩
    intro y hy
    obtain ⟨w, hw, e | ⟨e, _⟩⟩ := mem_upd hy
    · exact e ▸ h.l w hw
    · rw [e]
      show (num8 (padW (leN 8 m)) : Int) ≤ lsn
      rw [num8_leN m hl, hm h1]
      exact Int.le_refl _
  · exact h
theorem FI.clean1 {s : List Pg × Ws × Nat} (h : FI sure s.1 s.2.1) (hn : (pgs s.1).Nodup) (c : Int) : FI sure (clean1 sure s c).1 (clean1 sure s c).2.1 := by
  rcases clean1_cases sure s c with e | ⟨x, hx, hc, hd, hl, hf, e⟩
  · rw [e]; exact h
  · rw [e]
    have hn1 := h.may hx (.inr hl)
    refine ⟨?_, ?_, h.z⟩
    · intro y hy
      obtain ⟨w, hw, e | ⟨e, hp⟩⟩ := mem_upd hy
      · exact e ▸ h.l w hw
      · rw [e]
        show (num8 w.s : Int) ≤ sure
        have := findP_of hn hw
        rw [hp, hf] at this
        cases this
        exact hn1
    · intro w hw
      rcases List.mem_append.1 hw with hw | hw
      · exact h.w w hw
      · simp only [List.mem_singleton] at hw; rw [hw]; exact hn1
theorem FI.clean (h : FI sure L ws) (hn : (pgs L).Nodup) (r : List Int) (k : Nat) : FI sure (cleanF sure r (L, ws, k)).1 (cleanF sure r (L, ws, k)).2.1 :=
  (cleanF_ind (P := fun s => FI sure s.1 s.2.1 ∧ (pgs s.1).Nodup) (fun s c h => ⟨h.1.clean1 h.2 c, by rw [pgs_clean1]; exact h.2⟩) r ⟨h, hn⟩).1
theorem FI.more (h : FI sure L ws) {s2 : Int} (h2 : sure ≤ s2) : FI s2 L ws :=
  ⟨fun x hx => by have := h.l x hx; split <;> rename_i hd <;> simp [hd] at this <;> omega, fun w hw => by have := h.w w hw; omega, by have := h.z; omega⟩
end
theorem num_ok (k : Int) : ∃ m : Nat, m < 18446744073709551616 ∧ (1 ≤ k → k < 9223372036854775808 → (m : Int) = k) ∧ pcW qcfg 12 [.int .i64 k] = some (.str (leN 8 m)) := by
  obtain ⟨m, hm, e⟩ : ∃ m : Nat, m < 18446744073709551616 ∧ W .u64 k = (m : Int) := by
    have : W .u64 k = k % 18446744073709551616 := by
      simp [W, IntKind.wrap, IntKind.bits, IntKind.signed]
    rw [this]
    exact ⟨(k % 18446744073709551616).toNat, by omega, by omega⟩
  refine ⟨m, hm, fun h1 h2 => ?_, ?_⟩
  · rw [← e, W_u64 (by omega)]
  · refine e12_done _ ?_
    unfold e12
    have hp : putB [32, 32, 32, 32, 32, 32, 32, 32] 0 8 m = (leN 8 m, 0) := by
      unfold putB
      rw [roomE_ok (by decide) (by decide) (by decide) (by decide), if_pos rfl, if_pos (by simpa using hm)]
      simp [overB, leN_len]
    rw [e, pcK_of (putR_ok _ 0 8 m hm (by decide)), hp, d32_mk]
abbrev T31 (sc : List V) (i k : Nat) (N : Nat) (sure : Int) (ar : List V) (ks : List Int) (ix : Int → Nat) (L : List Pg) (ws : Ws) (z : Nat) : Out :=
  .head 1 (T3_1 sc sure (i : Int) (k : Int) ar [] 8 (N : Int) sure [] (wsV ws) z (mpV ks ix) (ints (pgs L)))
abbrev T30 (sc : List V) (i : Nat) (N : Nat) (sure : Int) (ar : List V) (ks : List Int) (ix : Int → Nat) (L : List Pg) (ws : Ws) (z : Nat) : Out :=
  .head 0 (T3_0 sc sure (i : Int) ar [] 8 (N : Int) sure [] (wsV ws) z (mpV ks ix) (ints (pgs L)))
theorem first_in (sc : List V) (i : Nat) (hi : i ≤ 80) (N : Nat) (sure : Int) (hs : sure < 9223372036854775808) (ar : List V) (ks : List Int) (ix : Int → Nat) (L : List Pg) (ws : Ws) (hw : ws.length ≤ 100000) (g : Good (N : Int) 8 L ws) (f : FI sure L ws) : ∀ (d k : Nat) (z : Nat), k + d = 8 →
    ∃ z', ∀ o, Go qk true 2 fa3 (T30 sc (i + 1) N sure ar ks ix L ws z') o → Go qk true 2 fa3 (T31 sc i k N sure ar ks ix L ws z) o := by
  intro d
  induction d with
  | zero =>
    intro k z hk
    have : k = 8 := by omega
    subst this
    refine ⟨z, fun o ho => s3_1_run _ _ _ _ _ _ _ _ _ _ _ _ _ _ ?_ ho⟩
    unfold s3_1
    rw [decide_eq_false (by decide), cond_false, wi i (by omega)]
  | succ d ih =>
    intro k z hk
    obtain ⟨z', q⟩ := ih (k + 1) ws.length (by omega)
    refine ⟨z', fun o ho => s3_1_run _ _ _ _ _ _ _ _ _ _ _ _ _ _ ?_ (q o ho)⟩
    have hc := cont_len g.ok (k : Int)
    have hg : getB (cont ws (k : Int)) 0 8 = ((num8 (cont ws (k : Int)) : Int), 0) := by
      unfold getB
      rw [roomE_ok (by decide) (by decide) (by decide) (by rw [hc]; decide), if_pos rfl]; rfl
    have hf := f.cont (k : Int)
    have hz := f.z
    unfold s3_1
    rw [decide_eq_true (by omega), cond_true, icM_of mk15_inj (read_ok ar [] 8 ws z (k : Int) (by omega) (by omega) hw g.ok)]
    dsimp only
    rw [pcK_of (getR_ok _ 0 8 (by unfold small; omega)), hg, d40_mk]
    dsimp only
    rw [ibne_f rfl, cond_false, cond_false, W_u64 (by omega), decide_eq_false (by omega), cond_false, wi k (by omega)]
section
variable (N : Nat) (hN : 1 ≤ N ∧ N ≤ 8)
  include hN
theorem first_step (ops : List Op) (i : Nat) (hi : i < 80) (o : Op) (ho : ops[i]? = some o) (hon : -9223372036854775808 ≤ o.n ∧ o.n < 9223372036854775808) (sure : Int) (hs : sure < 9223372036854775808) (ar : List V) (ks : List Int) (ix : Int → Nat) (L : List Pg) (ws : Ws) (z : Nat)
    (hw : ws.length ≤ 100 * i) (r : Rep ar ks ix L) (g : Good (N : Int) 8 L ws) (f : FI sure L ws) :
    ∃ sure' ar' ks' ix' L' ws' z', sure' < 9223372036854775808 ∧ ws'.length ≤ 100 * (i + 1) ∧ Rep ar' ks' ix' L' ∧ Good (N : Int) 8 L' ws' ∧ FI sure' L' ws' ∧
      ∀ q, Go qk true 2 fa3 (T31 (ops.map opV) i 0 N sure' ar' ks' ix' L' ws' z') q → Go qk true 2 fa3 (T30 (ops.map opV) i N sure ar ks ix L ws z) q := by
  obtain ⟨k, hk, ek⟩ := and7 o.page
  have hlt : i < ops.length := (List.getElem?_eq_some_iff.1 ho).1
  have hdec : decide ((i : Int) < ((ops.map opV).length : Int)) = true := decide_eq_true (by simp; omega)
  have hget : ∀ q : V → R, idxK (ops.map opV) ((i : Int)).toNat q = q (opV o) := fun q => idxK_c ho
  have hLl : L.length ≤ 64 := by have := g.len; have := g.pl; omega
  by_cases h0 : o.kind = 0
  · obtain ⟨ar', ks', ix', z', r', g', c⟩ := pin_at (a1 := []) (sure := sure) (p := (k : Int)) (z := z) r g (by omega) rfl
    have f' := f.pin (pl := (N : Int)) (n := 8) (k : Int)
    have hl := (g.pin (sure := sure) r.nd (k : Int)).2
    refine ⟨sure, ar', ks', ix', _, _, z', hs, Nat.le_trans hl (by omega), r', g', f', fun q hq => s3_0_run _ _ _ _ _ _ _ _ _ _ _ _ _ ?_ hq⟩
    unfold s3_0
    rw [hdec, cond_true, decide_eq_true (by omega), cond_true, gd_of (by simp), hget, d31_op, ibeq_t h0, cond_true, ek, icM_of mk9_inj c]
    rfl
  by_cases h1 : o.kind = 1
  · obtain ⟨ar', r', g', -, c⟩ := unpin_at (a1 := []) (sure := sure) (p := (k : Int)) (z := z) r g rfl rfl
    have f' := f.unpin (k : Int)
    refine ⟨sure, ar', ks, ix, _, ws, z, hs, by omega, r', g', f', fun q hq => s3_0_run _ _ _ _ _ _ _ _ _ _ _ _ _ ?_ hq⟩
    unfold s3_0
    rw [hdec, cond_true, decide_eq_true (by omega), cond_true, gd_of (by simp), hget, d31_op, ibeq_f h0, cond_false, ibeq_t h1, cond_true, ek, icM_of mk10_inj c]
    rfl
  by_cases h2 : o.kind = 2
  · obtain ⟨m, hm1, hm2, hm3⟩ := num_ok o.n
    obtain ⟨ar', r', g', -, c⟩ := put_at (a1 := []) (sure := sure) (p := (k : Int)) (z := z) r g (s := leN 8 m) (lsn := o.n) rfl rfl
    have f' := f.put (k : Int) m o.n (fun h => hm2 h hon.2) hm1
    refine ⟨sure, ar', ks, ix, _, ws, z, hs, by omega, r', g', f', fun q hq => s3_0_run _ _ _ _ _ _ _ _ _ _ _ _ _ ?_ hq⟩
    unfold s3_0
    rw [hdec, cond_true, decide_eq_true (by omega), cond_true, gd_of (by simp), hget, d31_op, ibeq_f h0, cond_false, ibeq_f h1, cond_false, ibeq_t h2, cond_true, pcK_of hm3, kS_mk, ek, icM_of mk11_inj c]
    rfl
  by_cases h3 : o.kind = 3
  · refine ⟨if sure < o.n then o.n else sure, ar, ks, ix, L, ws, z, by split <;> omega, by omega, r, g, f.more (by split <;> omega), fun q hq => s3_0_run _ _ _ _ _ _ _ _ _ _ _ _ _ ?_ hq⟩
    unfold s3_0
    rw [hdec, cond_true, decide_eq_true (by omega), cond_true, gd_of (by simp), hget, d31_op, ibeq_f h0, cond_false, ibeq_f h1, cond_false, ibeq_f h2, cond_false, ibeq_t h3, cond_true]
    rfl
  · obtain ⟨ar', cnt, L', ws', r', e, g', hl, hpg, c⟩ := clean_at (sure := sure) (z := z) r g (by decide) (by omega)
    have f' := f.clean r.nd (srt ks) 0
    rw [← e] at f'
    refine ⟨sure, ar', ks, ix, L', ws', z, hs, by omega, r', g', f', fun q hq => s3_0_run _ _ _ _ _ _ _ _ _ _ _ _ _ ?_ hq⟩
    unfold s3_0
    rw [hdec, cond_true, decide_eq_true (by omega), cond_true, gd_of (by simp), hget, d31_op, ibeq_f h0, cond_false, ibeq_f h1, cond_false, ibeq_f h2, cond_false, ibeq_f h3, cond_false, icM_of mk14_inj c]
    rfl
theorem first_out (ops : List Op) (hon : ∀ o ∈ ops, -9223372036854775808 ≤ o.n ∧ o.n < 9223372036854775808) : ∀ (d i : Nat) (sure : Int) (ar : List V) (ks : List Int) (ix : Int → Nat) (L : List Pg) (ws : Ws) (z : Nat), i + d = 80 →
    sure < 9223372036854775808 → ws.length ≤ 100 * i → Rep ar ks ix L → Good (N : Int) 8 L ws → FI sure L ws →
    ∃ m, Go qk true 2 fa3 (T30 (ops.map opV) i N sure ar ks ix L ws z) (.doneM (.bool true) m) := by
  intro d
  induction d with
  | zero =>
    intro i sure ar ks ix L ws z hi hs hw r g f
    have : i = 80 := by omega
    subst this
    by_cases hl : 80 < ops.length
    · apply Exists.intro
      refine s3_0_run _ _ _ _ _ _ _ _ _ _ _ _ _ ?_ (.refl _)
      unfold s3_0
      rw [decide_eq_true (by simp; omega), cond_true, decide_eq_false (by decide), cond_false, pcK_of fixedL_ok, kB_mk]
    · apply Exists.intro
      refine s3_0_run _ _ _ _ _ _ _ _ _ _ _ _ _ ?_ (.refl _)
      unfold s3_0
      rw [decide_eq_false (by simp; omega), cond_false, pcK_of fixedL_ok, kB_mk]
  | succ d ih =>
    intro i sure ar ks ix L ws z hi hs hw r g f
    by_cases hl : i < ops.length
    · obtain ⟨o, ho⟩ : ∃ o, ops[i]? = some o := ⟨_, List.getElem?_eq_getElem hl⟩
      obtain ⟨sure', ar', ks', ix', L', ws', z', a1, a2, a3, a4, a5, a6⟩ := first_step N hN ops i (by omega) o ho (hon o (List.mem_of_getElem? ho)) sure hs ar ks ix L ws z hw r g f
      obtain ⟨z2, b⟩ := first_in (ops.map opV) i (by omega) N sure' a1 ar' ks' ix' L' ws' (by omega) a4 a5 8 0 z' rfl
      obtain ⟨m, c⟩ := ih (i + 1) sure' ar' ks' ix' L' ws' z2 (by omega) a1 a2 a3 a4 a5
      exact ⟨m, a6 _ (b _ c)⟩
    · apply Exists.intro
      refine s3_0_run _ _ _ _ _ _ _ _ _ _ _ _ _ ?_ (.refl _)
      unfold s3_0
      rw [decide_eq_false (by simp; omega), cond_false, pcK_of fixedL_ok, kB_mk]
end
theorem poolFirst_ok (pl : Int) (ops : List Op) (hon : ∀ o ∈ ops, -9223372036854775808 ≤ o.n ∧ o.n < 9223372036854775808) (hpl : plainL [.int .i64 pl, .sl (ops.map opV)] = true) : pcW qcfg 3 [.int .i64 pl, .sl (ops.map opV)] = some (.bool true) := by
  obtain ⟨q, hq, e⟩ := and7 pl
  have hN : 1 ≤ q + 1 ∧ q + 1 ≤ 8 := by omega
  have w1 : W .i64 (1 + (q : Int)) = ((q + 1 : Nat) : Int) := by rw [W_i64 (by omega)]; omega
  obtain ⟨m, c⟩ := first_out (q + 1) hN ops hon 80 0 0 [] [] (fun _ => 0) [] [] 0 rfl (by decide) (by simp) Rep.mt (.mt (by omega)) ⟨by simp, by simp, by decide⟩
  refine law_run rfl fa3_eq rfl rfl ?_ rfl ((e3_eq pl _).trans ?_) c
  · unfold arsOk
    rw [hpl]; rfl
  · unfold e3
    rw [e, w1, decide_eq_false (by omega), cond_false, decide_eq_false (by omega), cond_false]
    rfl
end Go.Proofs.Ytknapnnpmfhogaa