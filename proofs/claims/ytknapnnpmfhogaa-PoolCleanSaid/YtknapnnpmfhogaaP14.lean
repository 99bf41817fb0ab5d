/-
  PoolClean: what stays true.
-/
import Derived.Test.YtknapnnpmfhogaaPU
import Derived.Test.YtknapnnpmfhogaaPWC
namespace Go.Proofs.Ytknapnnpmfhogaa
open Go Go.Lite
set_option linter.unusedSimpArgs false
set_option linter.unusedVariables false
set_option linter.unnecessarySimpa false
set_option maxRecDepth 10000
section
variable {p q : Int} {pl sure n : Int} {L : List Pg} {ws : Ws} {ks : List Int}
theorem mem_upd2 {f : Pg → Pg} {y : Pg} (h : y ∈ updP L p f) : ∃ x ∈ L, (x.page ≠ p ∧ y = x) ∨ (x.page = p ∧ y = f x) := by
  obtain ⟨x, hx, e⟩ := List.mem_map.1 h
  by_cases hp : x.page = p
  · rw [if_pos hp] at e; exact ⟨x, hx, .inr ⟨hp, e.symm⟩⟩
  · rw [if_neg hp] at e; exact ⟨x, hx, .inl ⟨hp, e.symm⟩⟩
theorem find_upd_ne {f : Pg → Pg} (hf : ∀ y, (f y).page = y.page) (h : q ≠ p) : findP (updP L p f) q = findP L q := by
  induction L with
  | nil => rfl
  | cons y L ih =>
    unfold findP updP at *
    rw [List.map_cons, List.find?_cons, List.find?_cons]
    by_cases hp : y.page = p
    · rw [if_pos hp, show ((f y).page == q) = false by simp [hf, hp]; exact fun e => h e.symm, show (y.page == q) = false by simp [hp]; exact fun e => h e.symm]
      exact ih
    · rw [if_neg hp]
      cases y.page == q
      · exact ih
      · rfl
theorem find_upd_no {f : Pg → Pg} (hf : ∀ y, (f y).page = y.page) (h : findP L p = none) : findP (updP L p f) p = none := by
  cases hq : findP (updP L p f) p with
  | none => rfl
  | some y =>
    have h1 := findP_some hq
    have : p ∈ pgs (updP L p f) := List.mem_map.2 ⟨y, h1.1, h1.2⟩
    rw [pgs_upd hf] at this
    exact absurd this (findP_none h)
theorem find_cut (c : Int) : findP (cutP L c) q = if q = c then none else findP L q := by
  unfold findP cutP
  rw [List.find?_filter]
  by_cases h : q = c
  · rw [if_pos h, List.find?_eq_none]
    intro x _
    simp; intro hx e; exact hx (by rw [e, h])
  · rw [if_neg h]
    congr 1
    funext x
    by_cases hx : x.page = q
    · simp [hx, h]
    · simp [hx]
theorem find_app (A B : List Pg) : findP (A ++ B) q = (findP A q).or (findP B q) := by unfold findP; rw [List.find?_append]
theorem find_one (x : Pg) : findP [x] q = if q = x.page then some x else none := by
  unfold findP
  by_cases h : q = x.page
  · rw [if_pos h]; simp [h]
  · rw [if_neg h]; simp; exact fun e => h e.symm
def cur (L : List Pg) (ws : Ws) (q : Int) : Bs := match findP L q with | some x => x.s | none => cont ws q
theorem cur_s {x : Pg} (h : findP L q = some x) : cur L ws q = x.s := by unfold cur; rw [h]
theorem cur_n (h : findP L q = none) : cur L ws q = cont ws q := by unfold cur; rw [h]
structure CI (ops : List Op) (has : List Bs) (L : List Pg) (ws : Ws) : Prop where
  len : has.length = 8
  cur : ∀ (k : Nat) s, has[k]? = some s → s ≠ [] → Go.Proofs.Ytknapnnpmfhogaa.cur L ws (k : Int) = s
  cl : ∀ x ∈ L, x.dirty = false → x.s = cont ws x.page
  di : ∀ x ∈ L, x.dirty = true → 1 ≤ x.last ∧ ∃ o ∈ ops, o.n = x.last
theorem CI.pin {ops : List Op} {has : List Bs} (h : CI ops has L ws) (hn : (pgs L).Nodup) (p : Int) : CI ops has (pinS pl 0 n L ws p).2.2.1 (pinS pl 0 n L ws p).2.2.2 := by
  unfold pinS
  split
  · cases hf : findP L p with
    | some x =>
      obtain ⟨hx, rfl⟩ := findP_some hf
      refine ⟨h.len, ?_, ?_, ?_⟩
      · intro k s hk hs
        rw [← h.cur k s hk hs]
        dsimp only
        by_cases e : (k : Int) = x.page
        · rw [e, cur_s hf, cur_s (x := pinX x)]
          · rfl
          · rw [find_app, find_cut, if_pos rfl, find_one, if_pos (show x.page = (pinX x).page from rfl)]; rfl
        · have : findP (cutP L x.page ++ [pinX x]) (k : Int) = findP L (k : Int) := by
            rw [find_app, find_cut, if_neg e, find_one, if_neg (show ¬ (k : Int) = (pinX x).page from e)]; cases findP L (k : Int) <;> rfl
          unfold Go.Proofs.Ytknapnnpmfhogaa.cur
          rw [this]
      · intro y hy hd
        rcases List.mem_append.1 hy with hy | hy
        · exact h.cl y (List.mem_filter.1 hy).1 hd
        · simp only [List.mem_singleton] at hy; subst hy; exact h.cl x hx hd
      · intro y hy hd
        rcases List.mem_append.1 hy with hy | hy
        · exact h.di y (List.mem_filter.1 hy).1 hd
        · simp only [List.mem_singleton] at hy; subst hy; exact h.di x hx hd
    | none =>
      cases hq : freeS pl 0 L ws with
      | none => exact h
      | some r =>
        obtain ⟨L', ws'⟩ := r
        have hsub := freeS_pgs hq
        have key : ws' = ws ∧ ∀ q, q ≠ p → (findP L' q = findP L q ∨ (findP L' q = none ∧ ∃ c, findP L q = some c ∧ c.s = cont ws q)) := by
          unfold freeS at hq
          split at hq
          · cases hq; exact ⟨rfl, fun q _ => .inl rfl⟩
          · obtain ⟨c, hc, e⟩ := Option.map_eq_some_iff.1 hq
            cases e
            have hcm := List.mem_of_find?_eq_some hc
            have hg := List.find?_some hc
            simp only [goesP, Bool.and_eq_true, Bool.or_eq_true, Bool.not_eq_true', decide_eq_true_eq] at hg
            have hcd : c.dirty = false := by
              rcases hg.2 with hd | hd
              · exact hd
              · cases hd2 : c.dirty
                · rfl
                · have := (h.di c hcm hd2).1; omega
            rw [hcd]
            refine ⟨rfl, fun q hqp => ?_⟩
            rw [find_cut]
            by_cases e : q = c.page
            · rw [if_pos e, e]
              exact .inr ⟨rfl, c, findP_of hn hcm, h.cl c hcm hcd⟩
            · rw [if_neg e]; exact .inl rfl
        obtain ⟨e1, e2⟩ := key
        subst e1
        have hnp : findP L' p = none := by
          cases hx : findP L' p with
          | none => rfl
          | some y =>
            obtain ⟨hy, e⟩ := findP_some hx
            exact absurd (List.mem_map.2 ⟨y, hsub y hy, e⟩) (findP_none hf)
        refine ⟨h.len, ?_, ?_, ?_⟩
        · intro k s hk hs
          rw [← h.cur k s hk hs]
          dsimp only
          by_cases e : (k : Int) = p
          · rw [e, cur_n hf, cur_s (x := newX ws' p)]
            · rfl
            · rw [find_app, hnp, find_one, if_pos (show p = (newX ws' p).page from rfl)]; rfl
          · have hfa : findP (L' ++ [newX ws' p]) (k : Int) = findP L' (k : Int) := by
              rw [find_app, find_one, if_neg (show ¬ (k : Int) = (newX ws' p).page from e)]; cases findP L' (k : Int) <;> rfl
            rcases e2 _ e with e3 | ⟨e3, c, e4, e5⟩
            · unfold Go.Proofs.Ytknapnnpmfhogaa.cur
              rw [hfa, e3]
            · rw [cur_n (by rw [hfa, e3]), cur_s e4, e5]
        · intro y hy hd
          rcases List.mem_append.1 hy with hy | hy
          · exact h.cl y (hsub y hy) hd
          · simp only [List.mem_singleton] at hy; subst hy; rfl
        · intro y hy hd
          rcases List.mem_append.1 hy with hy | hy
          · exact h.di y (hsub y hy) hd
          · simp only [List.mem_singleton] at hy; subst hy; cases hd
  · exact h
theorem CI.unpin {ops : List Op} {has : List Bs} (h : CI ops has L ws) (p : Int) : CI ops has (if heldE L p = 0 then updP L p fun y => { y with pins := W .i64 (y.pins - 1) } else L) ws := by
  split
  · refine ⟨h.len, ?_, ?_, ?_⟩
    · intro k s hk hs
      rw [← h.cur k s hk hs]
      by_cases e : (k : Int) = p
      · rw [e]
        cases hf : findP L p with
        | some x =>
          have := find_upd (f := fun y => { y with pins := W .i64 (y.pins - 1) }) (fun _ => rfl) hf
          rw [cur_s hf, cur_s this]
        | none =>
          have := find_upd_no (f := fun y => { y with pins := W .i64 (y.pins - 1) }) (fun _ => rfl) hf
          rw [cur_n hf, cur_n this]
      · have := find_upd_ne (L := L) (f := fun y => { y with pins := W .i64 (y.pins - 1) }) (fun _ => rfl) e
        unfold Go.Proofs.Ytknapnnpmfhogaa.cur
        rw [this]
    · intro y hy hd
      obtain ⟨w, hw, ⟨_, e⟩ | ⟨_, e⟩⟩ := mem_upd2 hy
      · subst e; exact h.cl _ hw hd
      · subst e; exact h.cl w hw hd
    · intro y hy hd
      obtain ⟨w, hw, ⟨_, e⟩ | ⟨_, e⟩⟩ := mem_upd2 hy
      · subst e; exact h.di _ hw hd
      · subst e; exact h.di w hw hd
  · exact h
theorem put_zero {s : Bs} {lsn : Int} (he : putE L p s lsn = 0) : s.length ≤ 252 ∧ 1 ≤ lsn ∧ ∃ x, findP L p = some x := by
  unfold putE at he
  split at he
  · rename_i hh
    split at he
    · cases he
    · split at he
      · cases he
      · refine ⟨by omega, by omega, ?_⟩
        cases hf : findP L p with
        | some x => exact ⟨x, rfl⟩
        | none => rw [held_n hf] at hh; cases hh
  · rename_i h2; exact absurd he h2
theorem padW_id {s : Bs} (h : s.length = 252) : padW s = s := by unfold padW; rw [h]; exact List.append_nil _
theorem CI.put {ops : List Op} {has : List Bs} (h : CI ops has L ws) (k : Nat) (hk : k < 8) (s : Bs) (hs : s.length = 252) (o : Op) (ho : o ∈ ops) :
    CI ops (if putE L (k : Int) s o.n = 0 then has.set k s else has) (if putE L (k : Int) s o.n = 0 then updP L (k : Int) (putX s o.n) else L) ws := by
  split
  · rename_i he
    obtain ⟨h1, h2, x, hf⟩ := put_zero he
    refine ⟨by simp [h.len], ?_, ?_, ?_⟩
    · intro j t hj ht
      by_cases e : k = j
      · subst e
        rw [List.getElem?_set_self (by rw [h.len]; exact hk)] at hj
        cases hj
        rw [cur_s (find_upd (f := putX s o.n) (fun _ => rfl) hf)]
        exact padW_id hs
      · rw [List.getElem?_set_ne e] at hj
        rw [← h.cur j t hj ht]
        have := find_upd_ne (L := L) (f := putX s o.n) (p := (k : Int)) (q := (j : Int)) (fun _ => rfl) (by omega)
        unfold Go.Proofs.Ytknapnnpmfhogaa.cur
        rw [this]
    · intro y hy hd
      obtain ⟨w, hw, ⟨_, e⟩ | ⟨_, e⟩⟩ := mem_upd2 hy
      · subst e; exact h.cl _ hw hd
      · subst e; cases hd
    · intro y hy hd
      obtain ⟨w, hw, ⟨_, e⟩ | ⟨_, e⟩⟩ := mem_upd2 hy
      · subst e; exact h.di _ hw hd
      · subst e; exact ⟨h2, o, ho, rfl⟩
  · exact h
theorem clean1_cur {s : List Pg × Ws × Nat} (c q : Int) : cur (clean1 sure s c).1 (clean1 sure s c).2.1 q = cur s.1 s.2.1 q := by
  rcases clean1_cases sure s c with e | ⟨x, hx, hc, hd, hl, hf, e⟩
  · rw [e]
  · rw [e]
    dsimp only
    by_cases hq : q = c
    · subst hq
      rw [cur_s hf, cur_s (find_upd (f := washX) (fun _ => rfl) hf)]; rfl
    · have := find_upd_ne (L := s.1) (f := washX) (p := c) (q := q) (fun _ => rfl) hq
      unfold cur
      rw [this, cont_snoc, if_neg (fun e => hq e.symm)]
theorem clean1_cl {s : List Pg × Ws × Nat} (hn : (pgs s.1).Nodup) (h : ∀ x ∈ s.1, x.dirty = false → x.s = cont s.2.1 x.page) (c : Int) : ∀ x ∈ (clean1 sure s c).1, x.dirty = false → x.s = cont (clean1 sure s c).2.1 x.page := by
  rcases clean1_cases sure s c with e | ⟨x, hx, hc, hd, hl, hf, e⟩
  · rw [e]; exact h
  · rw [e]
    intro y hy hyd
    dsimp only
    rw [cont_snoc]
    obtain ⟨w, hw, ⟨e1, e2⟩ | ⟨e1, e2⟩⟩ := mem_upd2 hy
    · subst e2
      rw [if_neg (fun e => e1 e.symm)]
      exact h _ hw hyd
    · have := findP_of hn hw
      rw [e1, hf] at this
      cases this
      subst e2
      rw [if_pos (show (c, x.s).1 = (washX x).page from hc.symm)]; rfl
theorem clean1_mem {s : List Pg × Ws × Nat} (c : Int) : ∀ x ∈ (clean1 sure s c).1, x.dirty = true → x ∈ s.1 := by
  rcases clean1_cases sure s c with e | ⟨x, hx, hc, hd, hl, hf, e⟩
  · rw [e]; exact fun x hx _ => hx
  · rw [e]
    intro y hy hyd
    obtain ⟨w, hw, ⟨_, e2⟩ | ⟨_, e2⟩⟩ := mem_upd2 hy
    · subst e2; exact hw
    · subst e2; cases hyd
theorem cleanF_left : ∀ (r : List Int) (s : List Pg × Ws × Nat), (pgs s.1).Nodup → ∀ x ∈ (cleanF sure r s).1, x.dirty = true → x ∈ s.1 ∧ (x.page ∈ r → sure < x.last)
  | [], s, _, x, hx, hd => ⟨hx, fun h => nomatch h⟩
  | c :: r, s, hn, x, hx, hd => by
    obtain ⟨h1, h2⟩ := cleanF_left r (clean1 sure s c) (by rw [pgs_clean1]; exact hn) x hx hd
    have h3 := clean1_mem c x h1 hd
    refine ⟨h3, fun hp => ?_⟩
    rcases List.mem_cons.1 hp with e | hp
    · have hf := findP_of hn h3
      rw [e] at hf
      unfold clean1 at h1
      rw [hf] at h1
      dsimp only at h1
      by_cases hm : mayP sure x = true
      · rw [if_pos hm] at h1
        obtain ⟨w, hw, ⟨e1, e2⟩ | ⟨e1, e2⟩⟩ := mem_upd2 h1
        · subst e2; exact absurd e e1
        · subst e2; cases hd
      · simp only [mayP, hd, Bool.true_and, decide_eq_true_eq] at hm
        omega
    · exact h2 hp
theorem dirtyB_clean1 {s : List Pg × Ws × Nat} (hn : (pgs s.1).Nodup) (c d : Int) (h : dirtyB (clean1 sure s c).1 d = true) : dirtyB s.1 d = true := by
  unfold dirtyB at h
  split at h
  · rename_i x hf
    obtain ⟨hx, e⟩ := findP_some hf
    have := clean1_mem c x hx h
    unfold dirtyB
    rw [← e, findP_of hn this]
    exact h
  · cases h
theorem filter_le {f g : Int → Bool} (h : ∀ d, f d = true → g d = true) : ∀ r : List Int, (r.filter f).length ≤ (r.filter g).length
  | [] => Nat.le_refl _
  | d :: r => by
    have ih := filter_le h r
    by_cases hf : f d = true
    · rw [List.filter_cons_of_pos hf, List.filter_cons_of_pos (h d hf)]; simp; exact ih
    · rw [List.filter_cons_of_neg hf]
      by_cases hg : g d = true
      · rw [List.filter_cons_of_pos hg]; simp; omega
      · rw [List.filter_cons_of_neg hg]; exact ih
theorem cleanF_cnt : ∀ (r : List Int) (s : List Pg × Ws × Nat), (pgs s.1).Nodup → (cleanF sure r s).2.2 ≤ s.2.2 + (r.filter (dirtyB s.1)).length
  | [], s, _ => by simp [cleanF]
  | c :: r, s, hn => by
    have h1 := cleanF_cnt r (clean1 sure s c) (by rw [pgs_clean1]; exact hn)
    have h2 := filter_le (fun d h => dirtyB_clean1 (sure := sure) hn c d h) r
    show (cleanF sure r (clean1 sure s c)).2.2 ≤ _
    rcases clean1_cases sure s c with e | ⟨x, hx, hc, hd, hl, hf, e⟩
    · have h3 : (clean1 sure s c).2.2 = s.2.2 := by rw [e]
      have h4 : (r.filter (dirtyB s.1)).length ≤ ((c :: r).filter (dirtyB s.1)).length := ((List.sublist_cons_self c r).filter _).length_le
      omega
    · have h3 : (clean1 sure s c).2.2 = s.2.2 + 1 := by rw [e]
      have hb : dirtyB s.1 c = true := by unfold dirtyB; rw [hf]; exact hd
      rw [List.filter_cons_of_pos hb, List.length_cons]
      omega
end
theorem more_loop (ops : List Op) (hl : ops.length ≤ 9223372036854775807) : ∀ (r : List Op) (k : Nat), ops.drop k = r → k ≤ ops.length → (∃ o ∈ r, o.n > 4611686018427387904) →
    Go qk false 0 fa23 (.head 0 (T23_0 (ops.map opV) (k : Int))) (.done (.bool true))
  | [], k, e, hk, h => by obtain ⟨o, ho, _⟩ := h; cases ho
  | c :: r, k, e, hk, h => by
    obtain ⟨h1, h2, h3⟩ := drop_cons e
    have w : W .i64 ((k : Int) + 1) = ((k + 1 : Nat) : Int) := by rw [W_i64 (by omega)]; omega
    by_cases hc : c.n > 4611686018427387904
    · refine s23_0_run _ _ ?_ (.refl _)
      unfold s23_0
      rw [decide_eq_true (by simp; omega), cond_true, gd_of (by simp), idxK_c h2, d31_op, decide_eq_true hc]; rfl
    · have h' : ∃ o ∈ r, o.n > 4611686018427387904 := by
        obtain ⟨o, ho, hn⟩ := h
        rcases List.mem_cons.1 ho with rfl | ho
        · exact absurd hn hc
        · exact ⟨o, ho, hn⟩
      refine s23_0_run _ _ ?_ (more_loop ops hl r (k + 1) h3 (by omega) h')
      unfold s23_0
      rw [decide_eq_true (by simp; omega), cond_true, gd_of (by simp), idxK_c h2, d31_op, decide_eq_false hc, w]; rfl
theorem more_ok (ops : List Op) (hl : ops.length ≤ 9223372036854775807) (h : ∃ o ∈ ops, o.n > 4611686018427387904) : pcW qcfg 23 [.sl (ops.map opV)] = some (.bool true) :=
  e23_run _ (o := .head 0 (T23_0 (ops.map opV) 0)) rfl (more_loop ops hl ops 0 rfl (by omega) h)
abbrev T50 (ops : List Op) (i : Nat) (N : Nat) (has : List Bs) (ar : List V) (ks : List Int) (ix : Int → Nat) (L : List Pg) (ws : Ws) (z : Nat) : Out :=
  .head 0 (T5_0 (ops.map opV) (i : Int) ar [] 8 (N : Int) 0 (has.map V.str) [] (wsV ws) z (mpV ks ix) (ints (pgs L)))
theorem clean_read (N : Nat) (ops : List Op) (has : List Bs) (hhl : has.length = 8) (ar : List V) (ks : List Int) (ix : Int → Nat) (L : List Pg) (ws : Ws) (hw : ws.length ≤ 100000) (g : Good (N : Int) 8 L ws) (r : Rep ar ks ix L)
    (hcont : ∀ (k : Nat) s, has[k]? = some s → s ≠ [] → cont ws (k : Int) = s) (hleast : leastS ks L = (0, false)) (n7 : Nat) : ∀ (d k z : Nat), k + d = 8 →
    ∃ m, Go qk true 2 fa5 (.head 1 (T5_1 (ops.map opV) (n7 : Int) (k : Int) ar [] 8 (N : Int) 4611686018427387904 (has.map V.str) [] (wsV ws) z (mpV ks ix) (ints (pgs L)))) (.doneM (.bool true) m) := by
  intro d
  induction d with
  | zero =>
    intro k z hk
    have : k = 8 := by omega
    subst this
    have c22 := least_ok (a1 := []) (pl := (N : Int)) (sure := 4611686018427387904) (n := 8) (ws := ws) (z := z) r (by have := g.len; have := g.pl; omega) (g.in64 (by decide))
    rw [hleast] at c22
    apply Exists.intro
    refine s5_1_run _ _ _ _ _ _ _ _ _ _ _ _ _ _ ?_ (.refl _)
    unfold s5_1
    rw [decide_eq_false (by decide), cond_false, icM_of mk22_inj c22]
    dsimp only
    rw [decide_eq_true (show (n7 : Int) ≥ 0 by omega), cond_true, decide_eq_false (show ¬ (n7 : Int) < 0 by omega), cond_false, Bool.not_false, cond_true, pcK_of fixedL_ok, kB_mk]
  | succ d ih =>
    intro k z hk
    obtain ⟨m, q⟩ := ih (k + 1) ws.length (by omega)
    refine ⟨m, s5_1_run _ _ _ _ _ _ _ _ _ _ _ _ _ _ ?_ q⟩
    have hkl : k < has.length := by omega
    have hg : has[k]? = some has[k] := List.getElem?_eq_getElem hkl
    have hix : ∀ q : V → R, idxK (has.map V.str) ((k : Int)).toNat q = q (.str has[k]) := fun q => idxK_c hg
    have hgd : gd (decide (((k : Nat) : Int).toNat < (has.map V.str).length)) = fun q => q := by funext q; exact gd_of (by simp; omega)
    unfold s5_1
    rw [decide_eq_true (by omega), cond_true, decide_eq_true (show (n7 : Int) ≥ 0 by omega), cond_true, icM_of mk15_inj (read_ok ar [] 8 ws z (k : Int) (by omega) (by omega) hw g.ok)]
    dsimp only
    rw [ibne_f rfl, cond_false, gd_of (by simp), hgd, hix, kS_mk, wi k (by omega)]
    by_cases he : has[k] = []
    · rw [he]; rfl
    · have h1 : (has[k] == []) = false := by simpa using he
      have h2 := hcont k has[k] hg he
      rw [h1, Bool.not_false, cond_true, gd_of (by simp), hix, kS_mk, h2]
      simp only [beq_self_eq_true, Bool.not_true, cond_false]
theorem min_if (l : Nat) : (if (252 : Int) < (l : Int) then (252 : Int) else (l : Int)) = ((min l 252 : Nat) : Int) := by split <;> omega
section
variable (N : Nat) (hN : 1 ≤ N ∧ N ≤ 8)
  include hN
theorem clean_end (ops : List Op) (hlen : ops.length ≤ 9223372036854775807) (i : Nat) (hi : i = 60 ∨ ops.length ≤ i) (hi2 : i ≤ 60) (has : List Bs) (ar : List V) (ks : List Int) (ix : Int → Nat) (L : List Pg) (ws : Ws) (z : Nat)
    (hw : ws.length ≤ 1000) (r : Rep ar ks ix L) (g : Good (N : Int) 8 L ws) (h : CI ops has L ws) :
    ∃ m, Go qk true 2 fa5 (T50 ops i N has ar ks ix L ws z) (.doneM (.bool true) m) := by
  by_cases hlt : i < ops.length
  · have hi60 : i = 60 := by omega
    subst hi60
    have hLl : L.length ≤ 64 := by have := g.len; have := g.pl; omega
    obtain ⟨k7, row7, u1, u2, u3, c7⟩ := dirty_ok (a1 := []) (pl := (N : Int)) (sure := 0) (n := 8) (ws := ws) (z := z) r (by omega) (g.in64 (by decide))
    obtain ⟨ar8, cnt, L8, ws8, r8, e8, g8, hl8, hpg8, c8⟩ := clean_at (sure := 4611686018427387904) (z := z) r g (by decide) (by omega)
    obtain ⟨k9, row9, v1, v2, v3, c9⟩ := dirty_ok (a1 := []) (pl := (N : Int)) (sure := 4611686018427387904) (n := 8) (ws := ws8) (z := z) r8 (by have := g8.len; have := g8.pl; omega) (g8.in64 (by decide))
    have hcnt : cnt ≤ (dirtL ks L).length := by
      have := cleanF_cnt (sure := 4611686018427387904) (srt ks) (L, ws, 0) r.nd
      rw [← e8] at this
      simpa [dirtL] using this
    by_cases hd : dirtL ks L8 = []
    · have hcl : ∀ x ∈ L8, x.dirty = false := by
        intro x hx
        cases hxd : x.dirty
        · rfl
        · have hxs : x.page ∈ srt ks := (srt_perm ks).mem_iff.2 (r8.perm.mem_iff.2 (List.mem_map.2 ⟨x, hx, rfl⟩))
          have : x.page ∈ dirtL ks L8 := List.mem_filter.2 ⟨hxs, by unfold dirtyB; rw [findP_of r8.nd hx]; exact hxd⟩
          rw [hd] at this; cases this
      have hI := cleanF_ind (sure := 4611686018427387904) (P := fun s => (∀ q, cur s.1 s.2.1 q = cur L ws q) ∧ (pgs s.1).Nodup ∧ ∀ x ∈ s.1, x.dirty = false → x.s = cont s.2.1 x.page)
        (fun s c h => ⟨fun q => (clean1_cur c q).trans (h.1 q), by rw [pgs_clean1]; exact h.2.1, clean1_cl h.2.1 h.2.2 c⟩) (srt ks) (s := (L, ws, 0)) ⟨fun _ => rfl, r.nd, h.cl⟩
      rw [← e8] at hI
      have hcont : ∀ (k : Nat) s, has[k]? = some s → s ≠ [] → cont ws8 (k : Int) = s := by
        intro k s hk hs
        rw [← h.cur k s hk hs, ← hI.1]
        cases hq : findP L8 (k : Int) with
        | none => rw [cur_n hq]
        | some x =>
          obtain ⟨hx, hxp⟩ := findP_some hq
          rw [cur_s hq, hI.2.2 x hx (hcl x hx), hxp]
      have hleast : leastS ks L8 = (0, false) := by unfold leastS; rw [hd]
      rw [hd] at v1 v2
      simp only [List.length_nil] at v2
      subst v2
      obtain ⟨m, w⟩ := clean_read N ops has h.len ar8 ks ix L8 ws8 (by omega) g8 r8 hcont hleast k7 8 0 z rfl
      refine ⟨m, s5_0_run _ _ _ _ _ _ _ _ _ _ _ _ _ ?_ w⟩
      unfold s5_0
      rw [decide_eq_true (by simp; omega), cond_true, decide_eq_false (by decide), cond_false]
      rw [icM_of mk21_inj c7]
      dsimp only
      rw [gd_of (by simpa using u3), show (if (0 : Int) < 4611686018427387904 then (4611686018427387904 : Int) else 0) = 4611686018427387904 from rfl, icM_of mk14_inj c8]
      dsimp only
      rw [List.drop_zero, u1, ints_len, decide_eq_false (by omega), cond_false, icM_of mk21_inj c9]
      dsimp only
      rw [gd_of (by simp), List.drop_zero, v1, show (((ints []).length : Nat) : Int) = 0 from rfl, ibne_f rfl, cond_false, ← u2]
      rfl
    · obtain ⟨c, hc⟩ : ∃ c, c ∈ dirtL ks L8 := by
        cases hq : dirtL ks L8 with
        | nil => exact absurd hq hd
        | cons c l => exact ⟨c, by simp⟩
      have hcs := (List.mem_filter.1 hc).1
      obtain ⟨x, hf, hx, hxc⟩ := findP_in (srt_in r8 c hcs)
      have hxd : x.dirty = true := by
        have := (List.mem_filter.1 hc).2
        unfold dirtyB at this
        rw [hf] at this
        exact this
      have hleft := cleanF_left (sure := 4611686018427387904) (srt ks) (L, ws, 0) r.nd x (by rw [← e8]; exact hx) hxd
      obtain ⟨_, o, ho, hon2⟩ := h.di x hleft.1 hxd
      have hmore : ∃ o ∈ ops, o.n > 4611686018427387904 := ⟨o, ho, by rw [hon2]; exact hleft.2 (hxc ▸ hcs)⟩
      have hm := more_ok ops hlen hmore
      have c22 := least_ok (a1 := []) (pl := (N : Int)) (sure := 4611686018427387904) (n := 8) (ws := ws8) (z := z) r8 (by have := g8.len; have := g8.pl; omega) (g8.in64 (by decide))
      apply Exists.intro
      refine s5_0_run _ _ _ _ _ _ _ _ _ _ _ _ _ (o := .head 1 (T5_1 (ops.map opV) (-1) 0 ar8 [] 8 (N : Int) 4611686018427387904 (has.map V.str) [] (wsV ws8) z (mpV ks ix) (ints (pgs L8)))) ?_ (s5_1_run _ _ _ _ _ _ _ _ _ _ _ _ _ _ ?_ (.refl _))
      · unfold s5_0
        rw [decide_eq_true (by simp; omega), cond_true, decide_eq_false (by decide), cond_false]
        rw [icM_of mk21_inj c7]
        dsimp only
        rw [gd_of (by simpa using u3), show (if (0 : Int) < 4611686018427387904 then (4611686018427387904 : Int) else 0) = 4611686018427387904 from rfl, icM_of mk14_inj c8]
        dsimp only
        rw [List.drop_zero, u1, ints_len, decide_eq_false (by omega), cond_false, icM_of mk21_inj c9]
        dsimp only
        rw [gd_of (by simpa using v3), List.drop_zero, v1, ints_len, ibne_t (by
          have : (dirtL ks L8).length ≠ 0 := fun e => hd (List.length_eq_zero_iff.1 e)
          omega), cond_true]
      · unfold s5_1
        rw [decide_eq_true (by decide), cond_true, decide_eq_false (by decide), cond_false, icM_of mk22_inj c22]
        dsimp only
        rw [cond_false, pcK_of hm, kB_mk, cond_true, decide_eq_true (by decide), cond_true, pcK_of fixedL_ok, kB_mk]
  · skip
    have hLl : L.length ≤ 64 := by have := g.len; have := g.pl; omega
    obtain ⟨k7, row7, u1, u2, u3, c7⟩ := dirty_ok (a1 := []) (pl := (N : Int)) (sure := 0) (n := 8) (ws := ws) (z := z) r (by omega) (g.in64 (by decide))
    obtain ⟨ar8, cnt, L8, ws8, r8, e8, g8, hl8, hpg8, c8⟩ := clean_at (sure := 4611686018427387904) (z := z) r g (by decide) (by omega)
    obtain ⟨k9, row9, v1, v2, v3, c9⟩ := dirty_ok (a1 := []) (pl := (N : Int)) (sure := 4611686018427387904) (n := 8) (ws := ws8) (z := z) r8 (by have := g8.len; have := g8.pl; omega) (g8.in64 (by decide))
    have hcnt : cnt ≤ (dirtL ks L).length := by
      have := cleanF_cnt (sure := 4611686018427387904) (srt ks) (L, ws, 0) r.nd
      rw [← e8] at this
      simpa [dirtL] using this
    by_cases hd : dirtL ks L8 = []
    · have hcl : ∀ x ∈ L8, x.dirty = false := by
        intro x hx
        cases hxd : x.dirty
        · rfl
        · have hxs : x.page ∈ srt ks := (srt_perm ks).mem_iff.2 (r8.perm.mem_iff.2 (List.mem_map.2 ⟨x, hx, rfl⟩))
          have : x.page ∈ dirtL ks L8 := List.mem_filter.2 ⟨hxs, by unfold dirtyB; rw [findP_of r8.nd hx]; exact hxd⟩
          rw [hd] at this; cases this
      have hI := cleanF_ind (sure := 4611686018427387904) (P := fun s => (∀ q, cur s.1 s.2.1 q = cur L ws q) ∧ (pgs s.1).Nodup ∧ ∀ x ∈ s.1, x.dirty = false → x.s = cont s.2.1 x.page)
        (fun s c h => ⟨fun q => (clean1_cur c q).trans (h.1 q), by rw [pgs_clean1]; exact h.2.1, clean1_cl h.2.1 h.2.2 c⟩) (srt ks) (s := (L, ws, 0)) ⟨fun _ => rfl, r.nd, h.cl⟩
      rw [← e8] at hI
      have hcont : ∀ (k : Nat) s, has[k]? = some s → s ≠ [] → cont ws8 (k : Int) = s := by
        intro k s hk hs
        rw [← h.cur k s hk hs, ← hI.1]
        cases hq : findP L8 (k : Int) with
        | none => rw [cur_n hq]
        | some x =>
          obtain ⟨hx, hxp⟩ := findP_some hq
          rw [cur_s hq, hI.2.2 x hx (hcl x hx), hxp]
      have hleast : leastS ks L8 = (0, false) := by unfold leastS; rw [hd]
      rw [hd] at v1 v2
      simp only [List.length_nil] at v2
      subst v2
      obtain ⟨m, w⟩ := clean_read N ops has h.len ar8 ks ix L8 ws8 (by omega) g8 r8 hcont hleast k7 8 0 z rfl
      refine ⟨m, s5_0_run _ _ _ _ _ _ _ _ _ _ _ _ _ ?_ w⟩
      unfold s5_0
      rw [decide_eq_false (by simp; omega), cond_false]
      rw [icM_of mk21_inj c7]
      dsimp only
      rw [gd_of (by simpa using u3), show (if (0 : Int) < 4611686018427387904 then (4611686018427387904 : Int) else 0) = 4611686018427387904 from rfl, icM_of mk14_inj c8]
      dsimp only
      rw [List.drop_zero, u1, ints_len, decide_eq_false (by omega), cond_false, icM_of mk21_inj c9]
      dsimp only
      rw [gd_of (by simp), List.drop_zero, v1, show (((ints []).length : Nat) : Int) = 0 from rfl, ibne_f rfl, cond_false, ← u2]
      rfl
    · obtain ⟨c, hc⟩ : ∃ c, c ∈ dirtL ks L8 := by
        cases hq : dirtL ks L8 with
        | nil => exact absurd hq hd
        | cons c l => exact ⟨c, by simp⟩
      have hcs := (List.mem_filter.1 hc).1
      obtain ⟨x, hf, hx, hxc⟩ := findP_in (srt_in r8 c hcs)
      have hxd : x.dirty = true := by
        have := (List.mem_filter.1 hc).2
        unfold dirtyB at this
        rw [hf] at this
        exact this
      have hleft := cleanF_left (sure := 4611686018427387904) (srt ks) (L, ws, 0) r.nd x (by rw [← e8]; exact hx) hxd
      obtain ⟨_, o, ho, hon2⟩ := h.di x hleft.1 hxd
      have hmore : ∃ o ∈ ops, o.n > 4611686018427387904 := ⟨o, ho, by rw [hon2]; exact hleft.2 (hxc ▸ hcs)⟩
      have hm := more_ok ops hlen hmore
      have c22 := least_ok (a1 := []) (pl := (N : Int)) (sure := 4611686018427387904) (n := 8) (ws := ws8) (z := z) r8 (by have := g8.len; have := g8.pl; omega) (g8.in64 (by decide))
      apply Exists.intro
      refine s5_0_run _ _ _ _ _ _ _ _ _ _ _ _ _ (o := .head 1 (T5_1 (ops.map opV) (-1) 0 ar8 [] 8 (N : Int) 4611686018427387904 (has.map V.str) [] (wsV ws8) z (mpV ks ix) (ints (pgs L8)))) ?_ (s5_1_run _ _ _ _ _ _ _ _ _ _ _ _ _ _ ?_ (.refl _))
      · unfold s5_0
        rw [decide_eq_false (by simp; omega), cond_false]
        rw [icM_of mk21_inj c7]
        dsimp only
        rw [gd_of (by simpa using u3), show (if (0 : Int) < 4611686018427387904 then (4611686018427387904 : Int) else 0) = 4611686018427387904 from rfl, icM_of mk14_inj c8]
        dsimp only
        rw [List.drop_zero, u1, ints_len, decide_eq_false (by omega), cond_false, icM_of mk21_inj c9]
        dsimp only
        rw [gd_of (by simpa using v3), List.drop_zero, v1, ints_len, ibne_t (by
          have : (dirtL ks L8).length ≠ 0 := fun e => hd (List.length_eq_zero_iff.1 e)
          omega), cond_true]
      · unfold s5_1
        rw [decide_eq_true (by decide), cond_true, decide_eq_false (by decide), cond_false, icM_of mk22_inj c22]
        dsimp only
        rw [cond_false, pcK_of hm, kB_mk, cond_true, decide_eq_true (by decide), cond_true, pcK_of fixedL_ok, kB_mk]
theorem clean_step (ops : List Op) (i : Nat) (hi : i < 60) (o : Op) (ho : ops[i]? = some o) (has : List Bs) (ar : List V) (ks : List Int) (ix : Int → Nat) (L : List Pg) (ws : Ws) (z : Nat)
    (hw : ws.length ≤ i) (r : Rep ar ks ix L) (g : Good (N : Int) 8 L ws) (h : CI ops has L ws) :
    ∃ has' ar' ks' ix' L' ws' z', ws'.length ≤ i + 1 ∧ Rep ar' ks' ix' L' ∧ Good (N : Int) 8 L' ws' ∧ CI ops has' L' ws' ∧
      ∀ q, Go qk true 2 fa5 (T50 ops (i + 1) N has' ar' ks' ix' L' ws' z') q → Go qk true 2 fa5 (T50 ops i N has ar ks ix L ws z) q := by
  have _ := hN
  obtain ⟨k, hk, ek⟩ := and7 o.page
  have hom := List.mem_of_getElem? ho
  have hlt : i < ops.length := (List.getElem?_eq_some_iff.1 ho).1
  have hdec : decide ((i : Int) < ((ops.map opV).length : Int)) = true := decide_eq_true (by simp; omega)
  have hget : ∀ q : V → R, idxK (ops.map opV) ((i : Int)).toNat q = q (opV o) := fun q => idxK_c ho
  have hmin : (min o.s.length 252) ≤ 252 := Nat.min_le_right _ _
  have htl : (o.s.take (min o.s.length 252)).length ≤ 252 := by simp; omega
  have hp18 := padR_ok (o.s.take (min o.s.length 252)) 252 (by unfold small; omega)
  rw [padB_252 htl] at hp18
  have hsl := padW_len htl
  generalize padW (o.s.take (min o.s.length 252)) = s0 at *
  have hmi := min_if o.s.length
  by_cases h0 : o.kind = 0
  · obtain ⟨ar', ks', ix', z', r', g', c⟩ := pin_at (a1 := []) (sure := 0) (p := (k : Int)) (z := z) r g (by omega) rfl
    have h' := h.pin (pl := (N : Int)) (n := 8) r.nd (k : Int)
    have hl := (g.pin (sure := 0) r.nd (k : Int)).2
    refine ⟨has, ar', ks', ix', _, _, z', Nat.le_trans hl (by omega), r', g', h', fun q hq => s5_0_run _ _ _ _ _ _ _ _ _ _ _ _ _ ?_ hq⟩
    unfold s5_0
    rw [hdec, cond_true, decide_eq_true (by omega), cond_true, gd_of (by simp), hget, d31_op, ibeq_t h0, cond_true, ek, icM_of mk9_inj c]
    dsimp only
    rw [ibeq_f (show o.kind ≠ 1 by omega), cond_false, hmi, toNat_cast, gd_of (decide_eq_true (Int.natCast_nonneg _)), gd_of (decide_eq_true (Nat.min_le_left _ _)), pcK_of hp18, d32_mk, ibeq_f (show o.kind ≠ 2 by omega), cond_false, wi i (by omega)]
    rfl
  by_cases h1 : o.kind = 1
  · obtain ⟨ar', r', g', -, c⟩ := unpin_at (a1 := []) (sure := 0) (p := (k : Int)) (z := z) r g rfl rfl
    have h' := h.unpin (k : Int)
    refine ⟨has, ar', ks, ix, _, ws, z, by omega, r', g', h', fun q hq => s5_0_run _ _ _ _ _ _ _ _ _ _ _ _ _ ?_ hq⟩
    unfold s5_0
    rw [hdec, cond_true, decide_eq_true (by omega), cond_true, gd_of (by simp), hget, d31_op, ibeq_f h0, cond_false, ibeq_t h1, cond_true, ek, icM_of mk10_inj c]
    dsimp only
    rw [hmi, toNat_cast, gd_of (decide_eq_true (Int.natCast_nonneg _)), gd_of (decide_eq_true (Nat.min_le_left _ _)), pcK_of hp18, d32_mk, ibeq_f (show o.kind ≠ 2 by omega), cond_false, wi i (by omega)]
  by_cases h2 : o.kind = 2
  · obtain ⟨ar', r', g', -, c⟩ := put_at (a1 := []) (sure := 0) (p := (k : Int)) (z := z) r g (s := s0) (lsn := o.n) rfl rfl
    have h' := h.put k hk s0 hsl o hom
    refine ⟨_, ar', ks, ix, _, ws, z, by omega, r', g', h', fun q hq => s5_0_run _ _ _ _ _ _ _ _ _ _ _ _ _ ?_ hq⟩
    unfold s5_0
    rw [hdec, cond_true, decide_eq_true (by omega), cond_true, gd_of (by simp), hget, d31_op, ibeq_f h0, cond_false, ibeq_f h1, cond_false, hmi, toNat_cast, gd_of (decide_eq_true (Int.natCast_nonneg _)), gd_of (decide_eq_true (Nat.min_le_left _ _)), pcK_of hp18, d32_mk, ibeq_t h2, cond_true, ek, icM_of mk11_inj c]
    dsimp only
    have hkl : k < has.length := by rw [h.len]; exact hk
    by_cases he : putE L (k : Int) s0 o.n = 0
    · rw [ibeq_t he, cond_true, gd_of (by simp), toNat_cast, gd_of (by simp; omega), idxK_map (List.getElem?_eq_getElem hkl), kS_mk, wi i (by omega), if_pos he, if_pos he]
      unfold T50
      rw [List.map_set]
    · rw [ibeq_f he, cond_false, wi i (by omega), if_neg he, if_neg he]
  · refine ⟨has, ar, ks, ix, L, ws, z, by omega, r, g, h, fun q hq => s5_0_run _ _ _ _ _ _ _ _ _ _ _ _ _ ?_ hq⟩
    unfold s5_0
    rw [hdec, cond_true, decide_eq_true (by omega), cond_true, gd_of (by simp), hget, d31_op, ibeq_f h0, cond_false, ibeq_f h1, cond_false, hmi, toNat_cast, gd_of (decide_eq_true (Int.natCast_nonneg _)), gd_of (decide_eq_true (Nat.min_le_left _ _)), pcK_of hp18, d32_mk, ibeq_f h2, cond_false, wi i (by omega)]
theorem clean_loop (ops : List Op) (hlen : ops.length ≤ 9223372036854775807) : ∀ (d i : Nat) (has : List Bs) (ar : List V) (ks : List Int) (ix : Int → Nat) (L : List Pg) (ws : Ws) (z : Nat), i + d = 60 → ws.length ≤ i → Rep ar ks ix L → Good (N : Int) 8 L ws → CI ops has L ws →
    ∃ m, Go qk true 2 fa5 (T50 ops i N has ar ks ix L ws z) (.doneM (.bool true) m) := by
  intro d
  induction d with
  | zero =>
    intro i has ar ks ix L ws z hi hw r g h
    exact clean_end N hN ops hlen i (by omega) (by omega) has ar ks ix L ws z (by omega) r g h
  | succ d ih =>
    intro i has ar ks ix L ws z hi hw r g h
    by_cases hl : i < ops.length
    · obtain ⟨o, ho⟩ : ∃ o, ops[i]? = some o := ⟨_, List.getElem?_eq_getElem hl⟩
      obtain ⟨has', ar', ks', ix', L', ws', z', a1, a2, a3, a4, a5⟩ := clean_step N hN ops i (by omega) o ho has ar ks ix L ws z hw r g h
      obtain ⟨m, c⟩ := ih (i + 1) has' ar' ks' ix' L' ws' z' (by omega) a1 a2 a3 a4
      exact ⟨m, a5 _ c⟩
    · exact clean_end N hN ops hlen i (by omega) (by omega) has ar ks ix L ws z (by omega) r g h
end
theorem poolClean_ok (pl : Int) (ops : List Op) (hlen : ops.length ≤ 9223372036854775807) (hpl : plainL [.int .i64 pl, .sl (ops.map opV)] = true) : pcW qcfg 5 [.int .i64 pl, .sl (ops.map opV)] = some (.bool true) := by
  obtain ⟨q, hq, e⟩ := and7 pl
  have hN : 1 ≤ q + 1 ∧ q + 1 ≤ 8 := by omega
  have w1 : W .i64 (1 + (q : Int)) = ((q + 1 : Nat) : Int) := by rw [W_i64 (by omega)]; omega
  have hci : CI ops (List.replicate 8 []) [] [] := ⟨by simp, fun k s hk hs => by
    have := List.mem_of_getElem? hk
    exact absurd (List.eq_of_mem_replicate this) hs, by simp, by simp⟩
  obtain ⟨m, c⟩ := clean_loop (q + 1) hN ops hlen 60 0 (List.replicate 8 []) [] [] (fun _ => 0) [] [] 0 rfl (by simp) Rep.mt (.mt (by omega)) hci
  refine law_run rfl fa5_eq rfl rfl ?_ rfl ((e5_eq pl _).trans ?_) c
  · unfold arsOk
    rw [hpl]; rfl
  · unfold e5
    rw [e, w1, decide_eq_false (by omega), cond_false, decide_eq_false (by omega), cond_false]
    rfl
end Go.Proofs.Ytknapnnpmfhogaa