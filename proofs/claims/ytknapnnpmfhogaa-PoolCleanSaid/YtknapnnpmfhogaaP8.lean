/-
  Writing all that may be written; the dirty pages; the least number.
-/
import Derived.Test.YtknapnnpmfhogaaP7
namespace Go.Proofs.Ytknapnnpmfhogaa
open Go Go.Lite
set_option linter.unusedSimpArgs false
set_option linter.unusedVariables false
set_option linter.unnecessarySimpa false
set_option maxRecDepth 10000
section
variable {p : Int} {ar a1 : List V} {pl sure n : Int} {ks : List Int} {ix : Int → Nat} {L : List Pg} {ws : Ws} {z : Nat}
def washX (y : Pg) : Pg := { y with dirty := false }
def mayP (sure : Int) (x : Pg) : Bool := x.dirty && decide (x.last ≤ sure)
def clean1 (sure : Int) (s : List Pg × Ws × Nat) (p : Int) : List Pg × Ws × Nat :=
  match findP s.1 p with
  | some x => if mayP sure x then (updP s.1 p washX, s.2.1 ++ [(p, x.s)], s.2.2 + 1) else s
  | none => s
def cleanF (sure : Int) (r : List Int) (s : List Pg × Ws × Nat) : List Pg × Ws × Nat := r.foldl (clean1 sure) s
structure Gd (n : Int) (L : List Pg) (ws : Ws) : Prop where
  bs : ∀ x ∈ L, x.s.length = 252
  pg : ∀ x ∈ L, 0 ≤ x.page ∧ x.page < n
  ok : wsOk ws
theorem mem_upd {f : Pg → Pg} {y : Pg} (h : y ∈ updP L p f) : ∃ x ∈ L, y = x ∨ (y = f x ∧ x.page = p) := by
  obtain ⟨x, hx, e⟩ := List.mem_map.1 h
  by_cases hp : x.page = p
  · rw [if_pos hp] at e; exact ⟨x, hx, .inr ⟨e.symm, hp⟩⟩
  · rw [if_neg hp] at e; exact ⟨x, hx, .inl e.symm⟩
theorem Gd.wash (g : Gd n L ws) {x : Pg} (hx : x ∈ L) : Gd n (updP L x.page washX) (ws ++ [(x.page, x.s)]) := by
  refine ⟨?_, ?_, ?_⟩
  · intro y hy
    obtain ⟨w, hw, e | ⟨e, _⟩⟩ := mem_upd hy
    · exact e ▸ g.bs w hw
    · rw [e]; exact g.bs w hw
  · intro y hy
    obtain ⟨w, hw, e | ⟨e, _⟩⟩ := mem_upd hy
    · exact e ▸ g.pg w hw
    · rw [e]; exact g.pg w hw
  · intro w hw
    rcases List.mem_append.1 hw with hw | hw
    · exact g.ok w hw
    · simp only [List.mem_singleton] at hw
      rw [hw]; exact g.bs x hx
theorem findP_in {c : Int} (h : c ∈ pgs L) : ∃ x, findP L c = some x ∧ x ∈ L ∧ x.page = c := by
  cases hf : findP L c with
  | none => exact absurd h (findP_none hf)
  | some x => exact ⟨x, rfl, findP_some hf⟩
theorem cleanB (pl : Int) (l : List Int) (hl : l.length ≤ 100000) (ag : List V) (z : Nat) : ∀ (r : List Int) (k : Nat) (L : List Pg) (ws : Ws) (cnt : Nat) (ar : List V), Rep ar ks ix L → Gd n L ws → ws.length + r.length ≤ 100000 → cnt + r.length ≤ 100000 →
    (∀ c ∈ r, c ∈ pgs L) → l.drop k = r → k ≤ l.length →
    ∃ ar', Rep ar' ks ix (cleanF sure r (L, ws, cnt)).1 ∧ Go qk true 8 fa14 (.head 0 (T14_0b (cnt : Int) (l.length : Int) (k : Int) ar a1 pl sure n (mpV ks ix) ag [] (ints l) (wsV ws) z))
      (.doneM (.int .i64 ((cleanF sure r (L, ws, cnt)).2.2 : Int)) [.arena 63 ar', .arena 7 a1, .box 59 (.agg [.ptr 3 0 0, .int .i64 pl, .mp 4, .tail 5 0, .int .i64 sure]) false, .box 56 (.agg [.int .i64 n, .mp 6, .tail 9 0]) false, .map (mpV ks ix), .row 3 ag 0, .map [], .dead, .row 3 (ints l) 0, .row 88 (wsV (cleanF sure r (L, ws, cnt)).2.1) z])
  | [], k, L, ws, cnt, ar, h, g, hw, hc, hm, e, hk => by
    have : l.length ≤ k := List.drop_eq_nil_iff.1 e
    refine ⟨ar, h, ?_⟩
    refine s14_0b_run _ _ _ _ _ _ _ _ _ _ _ _ _ _ ?_ (.refl _)
    unfold s14_0b
    rw [decide_eq_false (by omega)]; rfl
  | c :: r, k, L, ws, cnt, ar, h, g, hw, hc, hm, e, hk => by
    obtain ⟨h1, h2, h3⟩ := drop_cons e
    obtain ⟨x, hf, hx, hxc⟩ := findP_in (hm c (by simp))
    subst hxc
    have hg : gd (decide (((k : Nat) : Int).toNat < (ints l).length)) = fun q => q := by funext q; exact gd_of (by simp [ints_len]; omega)
    simp only [List.length_cons] at hw hc
    have hpg := g.pg x hx
    cases hmay : mayP sure x
    · have ef : cleanF sure (x.page :: r) (L, ws, cnt) = cleanF sure r (L, ws, cnt) := by
        show cleanF sure r (clean1 sure (L, ws, cnt) x.page) = _
        unfold clean1; rw [hf]; dsimp only; rw [hmay]; rfl
      obtain ⟨ar', r1, r2⟩ := cleanB pl l hl ag z r (k + 1) L ws cnt ar h g (by omega) (by omega) (fun c hc => hm c (by simp [hc])) h3 (by omega)
      rw [ef]
      refine ⟨ar', r1, s14_0b_run _ _ _ _ _ _ _ _ _ _ _ _ _ _ ?_ r2⟩
      unfold s14_0b
      rw [decide_eq_true (by omega), cond_true, gd_of (by simp), hg, toNat_cast, idxK_ints h2, kI_mk, h.mf hx, kP_mk, h.ax hx, d63_pl, wi k (by omega), h.ax hx, d63_pl]
      unfold mayP at hmay
      cases hd : x.dirty
      · rfl
      · rw [hd, Bool.true_and] at hmay; rw [hmay]; rfl
    · have ef : cleanF sure (x.page :: r) (L, ws, cnt) = cleanF sure r (updP L x.page washX, ws ++ [(x.page, x.s)], cnt + 1) := by
        show cleanF sure r (clean1 sure (L, ws, cnt) x.page) = _
        unfold clean1; rw [hf]; dsimp only; rw [hmay]; rfl
      have hu := h.upd hx (f := washX) fun _ => rfl
      obtain ⟨ar', r1, r2⟩ := cleanB pl l hl ag z r (k + 1) (updP L x.page washX) (ws ++ [(x.page, x.s)]) (cnt + 1) _ hu (g.wash hx) (by simp; omega) (by omega) (fun c hc => by rw [pgs_upd (f := washX) fun _ => rfl]; exact hm c (by simp [hc])) h3 (by omega)
      rw [ef]
      refine ⟨ar', r1, s14_0b_run _ _ _ _ _ _ _ _ _ _ _ _ _ _ ?_ r2⟩
      unfold s14_0b
      simp only [mayP, Bool.and_eq_true, decide_eq_true_eq] at hmay
      rw [decide_eq_true (by omega), cond_true, gd_of (by simp), hg, toNat_cast, idxK_ints h2, kI_mk, h.mf hx, kP_mk, h.ax hx, d63_pl, hmay.1, cond_true, wi k (by omega), h.ax hx, d63_pl, decide_eq_true hmay.2, cond_true, h.mf hx, kP_mk, h.ax hx, d63_pl,
        icM_of mk45_inj (write_ok ar a1 n ws z x.page x.s hpg.1 hpg.2 (by omega) (g.bs x hx))]
      dsimp only
      rw [h.mf hx, kP_mk, h.ax hx, d63_pl, wi cnt (by omega)]
      rfl
theorem cleanA (m0 : List O) (pl : Int) (l : List Int) (hl : l.length ≤ 100000) (ag : List V) (z : Nat) (L : List Pg) (ws : Ws) (ar : List V) (h : Rep ar ks ix L) (g : Gd n L ws) (hm0 : ∃ a b c d e f ag0 wl k, m0 = plm a b c d e f ag0 wl k) : ∀ (r : List Int) (k : Nat), ws.length + r.length ≤ 100000 →
    (∀ c ∈ r, c ∈ pgs L) → l.drop k = r → k ≤ l.length →
    ∃ ar', Rep ar' ks ix (cleanF sure r (L, ws, 0)).1 ∧ GoN qk 8 fa14 ⟨false, false⟩ m0 (.head 0 (T14_0 (l.length : Int) (k : Int) ar a1 pl sure n (mpV ks ix) ag [] (wsV ws) z (ints l)))
      (mk14 (((cleanF sure r (L, ws, 0)).2.2 : Int), ar', a1, pl, sure, n, mpV ks ix, [], ag, wsV (cleanF sure r (L, ws, 0)).2.1, z))
  | [], k, hw, hm, e, hk => by
    have : l.length ≤ k := List.drop_eq_nil_iff.1 e
    refine ⟨ar, h, .step (fun o'' hg => s14_0_run _ _ _ _ _ _ _ _ _ _ _ _ _ (o := .doneM (.int .i64 0) [.arena 63 ar, .arena 7 a1, .box 59 (.agg [.ptr 3 0 0, .int .i64 pl, .mp 4, .tail 5 0, .int .i64 sure]) false, .box 56 (.agg [.int .i64 n, .mp 6, .tail 7 0]) false, .map (mpV ks ix), .row 3 ag 0, .map [], .row 88 (wsV ws) z, .row 3 (ints l) 0]) ?_ hg) (.done ?_)⟩
    · unfold s14_0
      rw [decide_eq_false (by omega)]; rfl
    · obtain ⟨_, _, _, _, _, _, _, _, _, rfl⟩ := hm0
      show _ = _
      kernel_rfl
  | c :: r, k, hw, hm, e, hk => by
    obtain ⟨h1, h2, h3⟩ := drop_cons e
    obtain ⟨x, hf, hx, hxc⟩ := findP_in (hm c (by simp))
    subst hxc
    have hg : gd (decide (((k : Nat) : Int).toNat < (ints l).length)) = fun q => q := by funext q; exact gd_of (by simp [ints_len]; omega)
    simp only [List.length_cons] at hw
    have hpg := g.pg x hx
    cases hmay : mayP sure x
    · have ef : cleanF sure (x.page :: r) (L, ws, 0) = cleanF sure r (L, ws, 0) := by
        show cleanF sure r (clean1 sure (L, ws, 0) x.page) = _
        unfold clean1; rw [hf]; dsimp only; rw [hmay]; rfl
      obtain ⟨ar', r1, r2⟩ := cleanA m0 pl l hl ag z L ws ar h g hm0 r (k + 1) (by omega) (fun c hc => hm c (by simp [hc])) h3 (by omega)
      rw [ef]
      refine ⟨ar', r1, .step (fun o'' hg' => s14_0_run _ _ _ _ _ _ _ _ _ _ _ _ _ ?_ hg') r2⟩
      unfold s14_0
      rw [decide_eq_true (by omega), cond_true, gd_of (by simp), hg, toNat_cast, idxK_ints h2, kI_mk, h.mf hx, kP_mk, h.ax hx, d63_pl, wi k (by omega), h.ax hx, d63_pl]
      unfold mayP at hmay
      cases hd : x.dirty
      · rfl
      · rw [hd, Bool.true_and] at hmay; rw [hmay]; rfl
    · have ef : cleanF sure (x.page :: r) (L, ws, 0) = cleanF sure r (updP L x.page washX, ws ++ [(x.page, x.s)], 1) := by
        show cleanF sure r (clean1 sure (L, ws, 0) x.page) = _
        unfold clean1; rw [hf]; dsimp only; rw [hmay]; rfl
      have hu := h.upd hx (f := washX) fun _ => rfl
      obtain ⟨ar', r1, r2⟩ := cleanB (sure := sure) (a1 := a1) pl l hl ag z r (k + 1) (updP L x.page washX) (ws ++ [(x.page, x.s)]) 1 _ hu (g.wash hx) (by simp; omega) (by have := hw; omega) (fun c hc => by rw [pgs_upd (f := washX) fun _ => rfl]; exact hm c (by simp [hc])) h3 (by omega)
      rw [ef]
      refine ⟨ar', r1, .step (fun o'' hg' => s14_0_run _ _ _ _ _ _ _ _ _ _ _ _ _ ?_ hg') ⟨_, _, r2, ?_⟩⟩
      · unfold s14_0
        simp only [mayP, Bool.and_eq_true, decide_eq_true_eq] at hmay
        rw [decide_eq_true (by omega), cond_true, gd_of (by simp), hg, toNat_cast, idxK_ints h2, kI_mk, h.mf hx, kP_mk, h.ax hx, d63_pl, hmay.1, cond_true, wi k (by omega), h.ax hx, d63_pl, decide_eq_true hmay.2, cond_true, h.mf hx, kP_mk, h.ax hx, d63_pl,
          icM_of mk45_inj (write_ok ar a1 n ws z x.page x.s hpg.1 hpg.2 (by omega) (g.bs x hx))]
        dsimp only
        rw [h.mf hx, kP_mk, h.ax hx, d63_pl]
        rfl
      · obtain ⟨_, _, _, _, _, _, _, _, _, rfl⟩ := hm0
        show _ = _
        kernel_rfl
theorem srt_perm (l : List Int) : (srt l).Perm l := List.mergeSort_perm l _
theorem srt_in (h : Rep ar ks ix L) : ∀ c ∈ srt ks, c ∈ pgs L := fun c hc => h.perm.mem_iff.1 ((srt_perm ks).mem_iff.1 hc)
theorem srt_len (h : Rep ar ks ix L) : (srt ks).length = L.length := by rw [(srt_perm ks).length_eq, h.perm.length_eq, pgs_len]
theorem clean_ok (h : Rep ar ks ix L) (g : Gd n L ws) (hL : L.length ≤ 100) (h64 : In64 L) (hw : ws.length ≤ 90000) :
    ∃ ar', Rep ar' ks ix (cleanF sure (srt ks) (L, ws, 0)).1 ∧
      icC qcfg ⟨false, false⟩ 14 [.ptr 2 0 0] (plm ar a1 pl sure n (mpV ks ix) (pgs L) ws z) =
        some (mk14 (((cleanF sure (srt ks) (L, ws, 0)).2.2 : Int), ar', a1, pl, sure, n, mpV ks ix, [], ints (pgs L), wsV (cleanF sure (srt ks) (L, ws, 0)).2.1, z)) := by
  have hl := srt_len h
  obtain ⟨ar', r1, r2⟩ := cleanA (sure := sure) (a1 := a1) (plm ar a1 pl sure n (mpV ks ix) (pgs L) ws z) pl (srt ks) (by omega) (ints (pgs L)) z L ws ar h g ⟨_, _, _, _, _, _, _, _, _, rfl⟩ (srt ks) 0 (by omega) (srt_in h) rfl (by omega)
  refine ⟨ar', r1, e14_run _ _ _ _ _ _ _ _ _ _ ?_ r2⟩
  unfold e14
  rw [icM_of mk19_inj (pages_ok h (by omega) h64)]
  dsimp only
  rw [ints_len]
  rfl
end
end Go.Proofs.Ytknapnnpmfhogaa