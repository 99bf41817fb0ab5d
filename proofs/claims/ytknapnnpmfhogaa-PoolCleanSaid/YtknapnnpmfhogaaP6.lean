/-
  Making room, pinning.
-/
import Derived.Test.YtknapnnpmfhogaaP5
namespace Go.Proofs.Ytknapnnpmfhogaa
open Go Go.Lite
set_option linter.unusedSimpArgs false
set_option linter.unusedVariables false
set_option linter.unnecessarySimpa false
set_option maxRecDepth 10000
section
variable {p : Int} {ar a1 : List V} {pl sure n : Int} {ks : List Int} {ix : Int → Nat} {L : List Pg} {ws : Ws} {z : Nat}
def goesP (sure : Int) (x : Pg) : Bool := decide (x.pins = 0) && (!x.dirty || decide (x.last ≤ sure))
theorem pgs_get {k : Nat} {x : Pg} (h : L[k]? = some x) : (pgs L)[k]? = some x.page := by simp [pgs, h]
theorem pgs_len : (pgs L).length = L.length := by simp [pgs]
theorem ints_pgs_get {k : Nat} {x : Pg} {q : V → R} (h : L[k]? = some x) : idxK (ints (pgs L)) k q = q (.int .i64 x.page) := idxK_ints (pgs_get h)
abbrev frm (ar a1 : List V) (pl sure n : Int) (mp : List (V × V)) (ages : List V) (ws : List V) (z : Nat) : List O :=
  [.arena 63 ar, .arena 7 a1, .row 3 ages 0, .box 27 (.ptr 4 0 0) false, .box 59 (.agg [.ptr 5 0 0, .int .i64 pl, .mp 6, .tail 2 0, .int .i64 sure]) false, .box 56 (.agg [.int .i64 n, .mp 7, .tail 8 0]) false, .map mp, .map [], .row 88 ws z]
theorem idxa_loop (h : Rep ar ks ix L) (hL : L.length ≤ 100000) : ∀ (r : List Pg) (k : Nat), L.drop k = r → k ≤ L.length →
    Go qk true 9 fa42 (.head 0 (T42_0 (L.length : Int) (k : Int) ar a1 (ints (pgs L)) pl sure n (mpV ks ix) [] (wsV ws) z)) (.doneM (.int .i64 (idxF (goesP sure) k r)) (frm ar a1 pl sure n (mpV ks ix) (ints (pgs L)) (wsV ws) z))
  | [], k, e, hk => by
    have : L.length ≤ k := List.drop_eq_nil_iff.1 e
    refine s42_0_run _ _ _ _ _ _ _ _ _ _ _ _ ?_ (.refl _)
    unfold s42_0
    rw [decide_eq_false (by omega)]; rfl
  | c :: r, k, e, hk => by
    obtain ⟨h1, h2, h3⟩ := drop_cons e
    have hc : c ∈ L := List.mem_of_getElem? h2
    have hg : gd (decide (((k : Nat) : Int).toNat < (ints (pgs L)).length)) = fun q => q := by funext q; exact gd_of (by simp [ints_len, pgs_len]; omega)
    have ih := idxa_loop h hL r (k + 1) h3 (by omega)
    by_cases hq : goesP sure c = true
    · refine s42_0_run _ _ _ _ _ _ _ _ _ _ _ _ ?_ (.refl _)
      unfold s42_0 idxF
      rw [decide_eq_true (by omega), cond_true, gd_of (by simp), hg, toNat_cast, Nat.zero_add, ints_pgs_get h2, kI_mk, h.mf hc, kP_mk, h.ax hc, d63_pl, if_pos hq]
      simp only [goesP, Bool.and_eq_true, decide_eq_true_eq, Bool.or_eq_true, Bool.not_eq_true'] at hq
      rw [ibeq_t hq.1, cond_true, h.ax hc, d63_pl, h.ax hc, d63_pl, h.ax hc, d63_pl]
      rcases hq.2 with hd | hd
      · rw [hd]; rfl
      · rw [decide_eq_true hd]; cases c.dirty <;> rfl
    · refine s42_0_run _ _ _ _ _ _ _ _ _ _ _ _ ?_ (by unfold idxF; rw [if_neg hq]; exact ih)
      unfold s42_0
      rw [decide_eq_true (by omega), cond_true, gd_of (by simp), hg, toNat_cast, Nat.zero_add, ints_pgs_get h2, kI_mk, h.mf hc, kP_mk, h.ax hc, d63_pl, wi k (by omega), h.ax hc, d63_pl, h.ax hc, d63_pl, h.ax hc, d63_pl]
      simp only [goesP, Bool.and_eq_true, decide_eq_true_eq, Bool.or_eq_true, Bool.not_eq_true', not_and, not_or] at hq
      by_cases hp : c.pins = 0
      · have := hq hp
        rw [ibeq_t hp, cond_true, decide_eq_false this.2]
        have hd : c.dirty = true := by simpa using this.1
        rw [hd]; rfl
      · rw [ibeq_f hp, cond_false]
theorem idxa_ok (h : Rep ar ks ix L) (hL : L.length ≤ 100000) :
    icC qcfg ⟨true, false⟩ 42 [.tail 2 0, .fn 41 [.ptr 3 0 0]] (frm ar a1 pl sure n (mpV ks ix) (ints (pgs L)) (wsV ws) z) = some (mk42 (idxF (goesP sure) 0 L, ar, a1, ints (pgs L), pl, sure, n, mpV ks ix, [], wsV ws, z)) := by
  refine e42_run _ _ _ _ _ _ _ _ _ _ ?_ ⟨_, _, idxa_loop (a1 := a1) (pl := pl) (sure := sure) (n := n) (ws := ws) (z := z) h hL L 0 rfl (by omega), by kernel_rfl⟩
  unfold e42
  rw [ints_len, pgs_len]; rfl
def freeS (pl sure : Int) (L : List Pg) (ws : Ws) : Option (List Pg × Ws) :=
  if (L.length : Int) < pl then some (L, ws) else (L.find? (goesP sure)).map fun x => (cutP L x.page, if x.dirty then ws ++ [(x.page, x.s)] else ws)
theorem find_split {α : Type} {q : α → Bool} : ∀ {L pre post : List α} {c : α}, L = pre ++ c :: post → (∀ x ∈ pre, q x = false) → q c = true → L.find? q = some c
  | _, [], post, c, rfl, _, h => by simp [h]
  | _, x :: pre, post, c, rfl, h1, h => by
    rw [List.cons_append, List.find?_cons, h1 x (by simp)]
    exact find_split rfl (fun y hy => h1 y (by simp [hy])) h
theorem cut_split (hn : (pgs L).Nodup) {pre post : List Pg} {c : Pg} (e : L = pre ++ c :: post) : cutP L c.page = pre ++ post := by
  subst e
  have hn' : (pgs pre ++ c.page :: pgs post).Nodup := by simpa [pgs] using hn
  rw [List.nodup_append] at hn'
  have h2 := List.nodup_cons.1 hn'.2.1
  unfold cutP
  rw [List.filter_append, List.filter_cons_of_neg (by simp), List.filter_eq_self.2, List.filter_eq_self.2]
  · intro y hy
    have : y.page ≠ c.page := fun e => h2.1 (e ▸ List.mem_map.2 ⟨y, hy, rfl⟩)
    simpa using this
  · intro y hy
    have : y.page ≠ c.page := hn'.2.2 _ (List.mem_map.2 ⟨y, hy, rfl⟩) _ (by simp)
    simpa using this
theorem Rep.off (h : Rep ar ks ix L) {i : Nat} (hi : ∀ y ∈ L, ix y.page ≠ i) (v : V) : Rep (ar.set i v) ks ix L :=
  ⟨h.perm, h.nd, fun y hy => by rw [List.getElem?_set_ne (fun e => hi y hy e.symm)]; exact h.at_ y hy, h.inj⟩
structure Good (pl n : Int) (L : List Pg) (ws : Ws) : Prop where
  len : (L.length : Int) ≤ pl
  pl : pl ≤ 64
  bs : ∀ x ∈ L, x.s.length = 252
  pg : ∀ x ∈ L, 0 ≤ x.page ∧ x.page < n
  ok : wsOk ws
theorem Good.l100 (g : Good pl n L ws) : L.length ≤ 100000 := by have := g.len; have := g.pl; omega
theorem free_ok (h : Rep ar ks ix L) (g : Good pl n L ws) (hw : ws.length ≤ 100000) :
    (freeS pl sure L ws = none ∧ icC qcfg ⟨false, false⟩ 25 [.ptr 2 0 0] (plm ar a1 pl sure n (mpV ks ix) (pgs L) ws z) = some (mk25 (6, ar, a1, pl, sure, n, mpV ks ix, [], ints (pgs L), wsV ws, z))) ∨
    ∃ L' ws' ar' ks', freeS pl sure L ws = some (L', ws') ∧ Rep ar' ks' ix L' ∧
      icC qcfg ⟨false, false⟩ 25 [.ptr 2 0 0] (plm ar a1 pl sure n (mpV ks ix) (pgs L) ws z) = some (mk25 (0, ar', a1, pl, sure, n, mpV ks' ix, [], ints (pgs L'), wsV ws', z)) := by
  have hL := g.l100
  by_cases hlt : (L.length : Int) < pl
  · right
    refine ⟨L, ws, ar, ks, by unfold freeS; rw [if_pos hlt], h, ?_⟩
    refine e25_run _ _ _ _ _ _ _ _ _ _ (o := .doneM ?v1 ?m1) ?h1 (.done ?n1)
    case h1 =>
      unfold e25
      rw [h.len, decide_eq_true hlt, cond_true]
    case n1 => kernel_rfl
  rcases idxF_spec (goesP sure) L 0 with ⟨h1, h2⟩ | ⟨pre, c, post, h1, h2, h3, h4⟩
  · left
    refine ⟨by unfold freeS; rw [if_neg hlt, List.find?_eq_none.2 fun x hx => by rw [h2 x hx]; simp]; rfl, ?_⟩
    refine e25_run _ _ _ _ _ _ _ _ _ _ (o := .doneM ?v2 ?m2) ?h2 (.done ?n2)
    case h2 =>
      unfold e25
      rw [h.len, decide_eq_false hlt, cond_false, icM_of mk42_inj (idxa_ok h hL), h1]
      rfl
    case n2 => kernel_rfl
  · right
    rw [Nat.zero_add] at h4
    have hc : c ∈ L := by rw [h1]; simp
    have hk : L[pre.length]? = some c := by rw [h1]; simp
    have hlen : pre.length < L.length := by rw [h1]; simp
    have hcut := cut_split h.nd h1
    have hrow : (ints (pgs L)).take pre.length ++ (ints (pgs L)).drop (pre.length + 1) = ints (pgs (cutP L c.page)) := by
      rw [hcut, h1]
      simp [pgs, ints, List.take_append, List.drop_append]
    have hfs : freeS pl sure L ws = some (cutP L c.page, if c.dirty then ws ++ [(c.page, c.s)] else ws) := by
      unfold freeS; rw [if_neg hlt, find_split h1 h2 h3]; rfl
    have hgd : ∀ q : R, gd (decide (0 ≤ ((pre.length : Nat) : Int) ∧ ((pre.length : Nat) : Int) ≤ W .i64 (((pre.length : Nat) : Int) + 1) ∧ (W .i64 (((pre.length : Nat) : Int) + 1)).toNat ≤ (ints (pgs L)).length ∧ (ints (pgs L)).length ≤ 16777216)) q = q := fun q => by
      rw [wi _ (by omega), toNat_cast, ints_len, pgs_len]
      exact gd_of (by simp; omega)
    have hg : gd (decide (((pre.length : Nat) : Int).toNat < (ints (pgs L)).length)) = fun q => q := by funext q; exact gd_of (by simp [ints_len, pgs_len]; omega)
    cases hd : c.dirty
    · refine ⟨_, _, ar, ks.erase c.page, hfs, h.cut c.page, ?_⟩
      rw [hd, if_neg (by simp)]
      refine e25_run _ _ _ _ _ _ _ _ _ _ (o := .doneM ?v3 ?m3) ?h3 (.done ?n3)
      case h3 =>
        unfold e25
        rw [h.len, decide_eq_false hlt, cond_false, icM_of mk42_inj (idxa_ok h hL), h4]
        dsimp only
        rw [decide_eq_false (show ¬ ((pre.length : Nat) : Int) < 0 by omega), cond_false, gd_of (by simp), hg, toNat_cast, Nat.zero_add, ints_pgs_get hk, kI_mk, h.mf hc, kP_mk, h.ax hc, d63_pl, hd, cond_false, del_in, opt_mk, hgd, wi _ (by omega), toNat_cast, hrow]
        all_goals rfl
      case n3 => kernel_rfl
    · have hoff : Rep (ar.set (ix c.page) (.agg [.str c.s, .int .i64 c.pins, .bool false, .int .i64 c.first, .int .i64 c.last])) (ks.erase c.page) ix (cutP L c.page) :=
        (h.cut c.page).off (fun y hy e => by
          have := List.mem_filter.1 hy
          exact (show y.page ≠ c.page by simpa using this.2) (h.inj y this.1 c hc e)) _
      refine ⟨_, _, _, ks.erase c.page, hfs, hoff, ?_⟩
      rw [hd, if_pos rfl]
      have hpg := g.pg c hc
      refine e25_run _ _ _ _ _ _ _ _ _ _ (o := .doneM ?v4 ?m4) ?h4 (.done ?n4)
      case h4 =>
        unfold e25
        rw [h.len, decide_eq_false hlt, cond_false, icM_of mk42_inj (idxa_ok h hL), h4]
        dsimp only
        rw [decide_eq_false (show ¬ ((pre.length : Nat) : Int) < 0 by omega), cond_false, gd_of (by simp), hg, toNat_cast, Nat.zero_add, ints_pgs_get hk, kI_mk, h.mf hc, kP_mk, h.ax hc, d63_pl, hd, cond_true, h.mf hc, kP_mk, h.ax hc, d63_pl, icM_of mk45_inj (write_ok ar a1 n ws z c.page c.s hpg.1 hpg.2 hw (g.bs c hc))]
        dsimp only
        rw [h.mf hc, kP_mk, h.ax hc, d63_pl, del_in, opt_mk, hgd, wi _ (by omega), toNat_cast, hrow]
        all_goals rfl
      case n4 => kernel_rfl
end
end Go.Proofs.Ytknapnnpmfhogaa