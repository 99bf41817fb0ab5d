/-
  The dirty pages; the least number.
-/
import Derived.Test.YtknapnnpmfhogaaP8
namespace Go.Proofs.Ytknapnnpmfhogaa
open Go Go.Lite
set_option linter.unusedSimpArgs false
set_option linter.unusedVariables false
set_option linter.unnecessarySimpa false
set_option maxRecDepth 10000
section
variable {p : Int} {ar a1 : List V} {pl sure n : Int} {ks : List Int} {ix : Int → Nat} {L : List Pg} {ws : Ws} {z : Nat}
def dirtyB (L : List Pg) (c : Int) : Bool := match findP L c with | some x => x.dirty | none => false
abbrev drm (ar a1 : List V) (pl sure n : Int) (mp : List (V × V)) (row : List V) (ages : List Int) (ws : Ws) (z : Nat) : List O :=
  [.arena 63 ar, .arena 7 a1, .row 3 row 0, .box 27 (.ptr 4 0 0) false, .box 59 (.agg [.ptr 5 0 0, .int .i64 pl, .mp 6, .tail 7 0, .int .i64 sure]) false, .box 56 (.agg [.int .i64 n, .mp 8, .tail 9 0]) false, .map mp, .row 3 (ints ages) 0, .map [], .row 88 (wsV ws) z]
theorem idxb_loop (h : Rep ar ks ix L) (a : List Int) (ha : a.length ≤ 100000) (hm : ∀ c ∈ a, c ∈ pgs L) : ∀ (r : List Int) (k : Nat), a.drop k = r → k ≤ a.length →
    Go qk true 10 fa42 (.head 0 (T42b_0 (a.length : Int) (k : Int) ar a1 (ints a) pl sure n (mpV ks ix) (ints (pgs L)) [] (wsV ws) z)) (.doneM (.int .i64 (idxF (fun c => !dirtyB L c) k r)) (drm ar a1 pl sure n (mpV ks ix) (ints a) (pgs L) ws z))
  | [], k, e, hk => by
    have : a.length ≤ k := List.drop_eq_nil_iff.1 e
    refine s42b_0_run _ _ _ _ _ _ _ _ _ _ _ _ _ ?_ (.refl _)
    unfold s42b_0
    rw [decide_eq_false (by omega)]; rfl
  | c :: r, k, e, hk => by
    obtain ⟨h1, h2, h3⟩ := drop_cons e
    obtain ⟨x, hf, hx, hxc⟩ := findP_in (hm c (List.mem_of_getElem? h2))
    subst hxc
    have hg : gd (decide (((k : Nat) : Int).toNat < (ints a).length)) = fun q => q := by funext q; exact gd_of (by simp [ints_len]; omega)
    have ih := idxb_loop h a ha hm r (k + 1) h3 (by omega)
    have hb : dirtyB L x.page = x.dirty := by unfold dirtyB; rw [hf]
    cases hd : x.dirty
    · refine s42b_0_run _ _ _ _ _ _ _ _ _ _ _ _ _ ?_ (.refl _)
      unfold s42b_0 idxF
      rw [decide_eq_true (by omega), cond_true, gd_of (by simp), hg, toNat_cast, idxK_ints h2, kI_mk, h.mf hx, kP_mk, h.ax hx, d63_pl, hd, hb, hd]; rfl
    · refine s42b_0_run _ _ _ _ _ _ _ _ _ _ _ _ _ ?_ (by unfold idxF; rw [hb, hd, if_neg (by simp)]; exact ih)
      unfold s42b_0
      rw [decide_eq_true (by omega), cond_true, gd_of (by simp), hg, toNat_cast, idxK_ints h2, kI_mk, h.mf hx, kP_mk, h.ax hx, d63_pl, hd, wi k (by omega)]; rfl
theorem idxb_ok (h : Rep ar ks ix L) (a : List Int) (ha : a.length ≤ 100000) (hm : ∀ c ∈ a, c ∈ pgs L) :
    icC qcfg ⟨true, false⟩ 42 [.own 2, .fn 40 [.ptr 3 0 0]] (drm ar a1 pl sure n (mpV ks ix) (ints a) (pgs L) ws z) = some (mk42b (idxF (fun c => !dirtyB L c) 0 a, ar, a1, ints a, pl, sure, n, mpV ks ix, ints (pgs L), [], wsV ws, z)) := by
  refine e42b_run _ _ _ _ _ _ _ _ _ _ _ ?_ ⟨_, _, idxb_loop (a1 := a1) (pl := pl) (sure := sure) (n := n) (ws := ws) (z := z) h a ha hm a 0 rfl (by omega), by kernel_rfl⟩
  unfold e42b
  rw [ints_len]; rfl
theorem dela_loop (h : Rep ar ks ix L) (m : Nat) (hn : m ≤ 100000) : ∀ (r row : List Int) (i j : Nat), row.drop j = r → row.length = m → j ≤ m → i ≤ j → (∀ c ∈ r, c ∈ pgs L) →
    ∃ row' : List Int, row'.length = m ∧ row'.take (i + (r.filter (dirtyB L)).length) = row.take i ++ r.filter (dirtyB L) ∧ i + (r.filter (dirtyB L)).length ≤ m ∧
      Go qk true 10 fa39 (.head 0 (T39_0 (i : Int) (j : Int) ar a1 (ints row) pl sure n (mpV ks ix) (ints (pgs L)) [] (wsV ws) z))
        (.doneM (.win 2 0 (i + (r.filter (dirtyB L)).length)) (drm ar a1 pl sure n (mpV ks ix) (delRow row' (i + (r.filter (dirtyB L)).length)) (pgs L) ws z ++ [.row 3 [] 0]))
  | [], row, i, j, e, hr, hj, hi, hm => by
    have hjl : row.length ≤ j := List.drop_eq_nil_iff.1 e
    refine ⟨row, hr, by simp, by simp; omega, ?_⟩
    refine s39_0_run _ _ _ _ _ _ _ _ _ _ _ _ _ ?_ (.refl _)
    unfold s39_0
    rw [decide_eq_false (by rw [ints_len]; omega), cond_false, gd_of (wfl_ints row), gd_of (by simp), toNat_cast, gd_of (by simp [ints_len]; omega), gd_of (by simp [ints_len]; omega)]
    rw [gd_of (wfl_zero2 _ (wfl_ints row) _ _ _), gd_of (by simp), gd_of (by simp [ints_len]; omega)]
    rfl
  | c :: r, row, i, j, e, hr, hj, hi, hm => by
    obtain ⟨h1, h2, h3⟩ := drop_cons e
    obtain ⟨x, hf, hx, hxc⟩ := findP_in (hm c (by simp))
    subst hxc
    have hgi : ∀ k : Nat, k < m → gd (decide (((k : Nat) : Int).toNat < (ints row).length)) = fun q => q := fun k hk => by funext q; exact gd_of (by simp [ints_len]; omega)
    obtain ⟨d, hd⟩ : ∃ d, row[i]? = some d := ⟨_, List.getElem?_eq_getElem (by omega)⟩
    have hb : dirtyB L x.page = x.dirty := by unfold dirtyB; rw [hf]
    cases hq : x.dirty
    · obtain ⟨row', e1, e2, e3, e4⟩ := dela_loop h m hn r row i (j + 1) h3 hr (by omega) (by omega) (fun c hc => hm c (by simp [hc]))
      have hff : (x.page :: r).filter (dirtyB L) = r.filter (dirtyB L) := List.filter_cons_of_neg (by rw [hb, hq]; simp)
      rw [hff]
      refine ⟨row', e1, e2, e3, ?_⟩
      refine s39_0_run _ _ _ _ _ _ _ _ _ _ _ _ _ ?_ e4
      unfold s39_0
      rw [decide_eq_true (by rw [ints_len]; omega), cond_true, gd_of (by simp), hgi j (by omega), toNat_cast, idxK_ints h2, kI_mk, h.mf hx, kP_mk, h.ax hx, d63_pl, hq, wi j (by omega)]; rfl
    · have hs : (row.set i x.page).drop (j + 1) = r := by rw [List.drop_set_of_lt (by omega)]; exact h3
      obtain ⟨row', e1, e2, e3, e4⟩ := dela_loop h m hn r (row.set i x.page) (i + 1) (j + 1) hs (by simpa using hr) (by omega) (by omega) (fun c hc => hm c (by simp [hc]))
      have hff : (x.page :: r).filter (dirtyB L) = x.page :: r.filter (dirtyB L) := List.filter_cons_of_pos (by rw [hb, hq])
      have hl : i + 1 + (r.filter (dirtyB L)).length = i + (x.page :: r.filter (dirtyB L)).length := by simp; omega
      rw [hl] at e2 e3 e4
      rw [hff]
      refine ⟨row', e1, by rw [e2, set_take (by omega), List.append_assoc]; rfl, e3, ?_⟩
      refine s39_0_run _ _ _ _ _ _ _ _ _ _ _ _ _ ?_ e4
      unfold s39_0
      rw [decide_eq_true (by rw [ints_len]; omega), cond_true, gd_of (by simp), hgi j (by omega), toNat_cast, idxK_ints h2, kI_mk, h.mf hx, kP_mk, h.ax hx, d63_pl, hq, Bool.not_true, Bool.not_false, cond_true, gd_of (by simp), hgi i (by omega), toNat_cast, idxK_ints hd, kI_mk, wi j (by omega), wi i (by omega), ints_set]
theorem filter_preD {pre post : List Int} {c : Int} (h1 : ∀ y ∈ pre, (!dirtyB L y) = false) (h2 : (!dirtyB L c) = true) : (pre ++ c :: post).filter (dirtyB L) = pre ++ post.filter (dirtyB L) := by
  rw [List.filter_append, List.filter_cons_of_neg (by simpa using h2), List.filter_eq_self.2 fun y hy => by have := h1 y hy; simpa using this]
theorem dfa_ok (h : Rep ar ks ix L) (a : List Int) (ha : a.length ≤ 100000) (hm : ∀ c ∈ a, c ∈ pgs L) :
    ∃ (k : Nat) (row : List V), row.take k = ints (a.filter (dirtyB L)) ∧ k = (a.filter (dirtyB L)).length ∧ k ≤ row.length ∧ k ≤ a.length ∧
      icC qcfg ⟨true, true⟩ 39 [.own 2, .fn 40 [.ptr 3 0 0]] (drm ar a1 pl sure n (mpV ks ix) (ints a) (pgs L) ws z) = some (mk39 (k, ar, a1, row, pl, sure, n, mpV ks ix, ints (pgs L), [], wsV ws, z)) := by
  rcases idxF_spec (fun c => !dirtyB L c) a 0 with ⟨h1, h2⟩ | ⟨pre, c, post, h1, h2, h3, h4⟩
  · have hfs : a.filter (dirtyB L) = a := List.filter_eq_self.2 fun y hy => by have := h2 y hy; simpa using this
    refine ⟨a.length, ints a, ?_, by rw [hfs], by rw [ints_len]; omega, by omega, ?_⟩
    · rw [List.take_of_length_le (by rw [ints_len]; omega), hfs]
    · refine e39_run _ _ _ _ _ _ _ _ _ _ _ (o := .doneM ?v1 ?m1) ?h1 (.done ?n1)
      case h1 =>
        unfold e39
        rw [icM_of mk42b_inj (idxb_ok h a ha hm), h1]
        rfl
      case n1 =>
        have : (mk39 ((ints a).length - 0, ar, a1, ints a, pl, sure, n, mpV ks ix, ints (pgs L), [], wsV ws, z)) = mk39 (a.length, ar, a1, ints a, pl, sure, n, mpV ks ix, ints (pgs L), [], wsV ws, z) := by rw [ints_len]; rfl
        rw [← this]
        show _ = _
        kernel_rfl
  · have hl : pre.length < a.length := by rw [h1]; simp
    have hd : a.drop (pre.length + 1) = post := by rw [h1]; simp
    obtain ⟨row', e1, e2, e3, e4⟩ := dela_loop (a1 := a1) (pl := pl) (sure := sure) (n := n) (ws := ws) (z := z) h a.length ha post a pre.length (pre.length + 1) hd rfl (by omega) (by omega) (fun c hc => hm c (by rw [h1]; simp [hc]))
    have hf : a.filter (dirtyB L) = pre ++ post.filter (dirtyB L) := by rw [h1]; exact filter_preD h2 h3
    have ht : a.take pre.length = pre := by rw [h1]; simp
    refine ⟨_, delRow row' (pre.length + (post.filter (dirtyB L)).length), ?_, ?_, ?_, e3, e39_run _ _ _ _ _ _ _ _ _ _ _ ?_ ⟨_, _, e4, by kernel_rfl⟩⟩
    · rw [delRow_take (by omega), e2, hf, ht]
    · rw [hf]; simp
    · rw [delRow_len (by omega)]; omega
    · unfold e39
      rw [icM_of mk42b_inj (idxb_ok h a ha hm), h4]
      dsimp only
      simp only [Nat.zero_add]
      rw [ibeq_f (by omega), cond_false, wi _ (by omega)]
def dirtL (ks : List Int) (L : List Pg) : List Int := (srt ks).filter (dirtyB L)
theorem dirty_ok (h : Rep ar ks ix L) (hL : L.length ≤ 100000) (h64 : In64 L) :
    ∃ (k : Nat) (row : List V), row.take k = ints (dirtL ks L) ∧ k = (dirtL ks L).length ∧ k ≤ row.length ∧
      icC qcfg ⟨true, true⟩ 21 [.ptr 2 0 0] (plm ar a1 pl sure n (mpV ks ix) (pgs L) ws z) = some (mk21 (k, ar, a1, pl, sure, n, mpV ks ix, ints (pgs L), [], wsV ws, z, row)) := by
  obtain ⟨k, row, h1, h2, h3, _, h4⟩ := dfa_ok (a1 := a1) (pl := pl) (sure := sure) (n := n) (ws := ws) (z := z) h (srt ks) (by rw [srt_len h]; omega) (srt_in h)
  refine ⟨k, row, h1, h2, h3, ?_⟩
  refine e21_run _ _ _ _ _ _ _ _ _ _ (o := .doneM ?v2 ?m2) ?h2 (.done ?n2)
  case h2 =>
    unfold e21
    rw [icM_of mk19_inj (pages_ok h hL h64)]
    dsimp only
    rw [icM_of mk39_inj h4]
  case n2 => kernel_rfl
def firstOf (L : List Pg) (c : Int) : Int := match findP L c with | some x => x.first | none => 0
def minF (L : List Pg) (a : Int) (c : Int) : Int := if firstOf L c < a then firstOf L c else a
def leastS (ks : List Int) (L : List Pg) : Int × Bool := match dirtL ks L with | [] => (0, false) | c :: r => ((c :: r).foldl (minF L) (firstOf L c), true)
theorem least_loop (h : Rep ar ks ix L) (d : List Int) (row : List V) (hd : row.take d.length = ints d) (hr : d.length ≤ row.length) (hl : d.length ≤ 100000) (hm : ∀ c ∈ d, c ∈ pgs L) : ∀ (r : List Int) (k : Nat) (a : Int), d.drop k = r → k ≤ d.length →
    Go qk true 8 fa22 (.head 0 (T22_0 a d.length (d.length : Int) (k : Int) ar a1 pl sure n (mpV ks ix) (ints (pgs L)) [] (wsV ws) z row))
      (.doneM (.tup [.int .i64 (r.foldl (minF L) a), .bool true]) (plm ar a1 pl sure n (mpV ks ix) (pgs L) ws z ++ [.row 3 row 0]))
  | [], k, a, e, hk => by
    have : d.length ≤ k := List.drop_eq_nil_iff.1 e
    refine s22_0_run _ _ _ _ _ _ _ _ _ _ _ _ _ _ _ ?_ (.refl _)
    unfold s22_0
    rw [decide_eq_false (by omega)]; rfl
  | c :: r, k, a, e, hk => by
    obtain ⟨h1, h2, h3⟩ := drop_cons e
    obtain ⟨x, hf, hx, hxc⟩ := findP_in (hm c (List.mem_of_getElem? h2))
    subst hxc
    have ih := least_loop h d row hd hr hl hm r (k + 1) (minF L a x.page) h3 (by omega)
    have hb : firstOf L x.page = x.first := by unfold firstOf; rw [hf]
    have hg : row[k]? = some (.int .i64 x.page) := by
      have : (row.take d.length)[k]? = some (.int .i64 x.page) := by rw [hd]; simp [ints, h2]
      rwa [List.getElem?_take_of_lt h1] at this
    refine s22_0_run _ _ _ _ _ _ _ _ _ _ _ _ _ _ _ ?_ ih
    unfold s22_0
    rw [decide_eq_true (by omega), cond_true, gd_of (by simp), toNat_cast, gd_of (by simp; omega), gd_of (by simp; omega), Nat.zero_add, idxK_of hg, kI_mk, h.mf hx, kP_mk, h.ax hx, d63_pl, wi k (by omega)]
    unfold minF
    rw [hb]
theorem least_ok (h : Rep ar ks ix L) (hL : L.length ≤ 100000) (h64 : In64 L) :
      icC qcfg ⟨true, false⟩ 22 [.ptr 2 0 0] (plm ar a1 pl sure n (mpV ks ix) (pgs L) ws z) = some (mk22 ((leastS ks L).1, (leastS ks L).2, ar, a1, pl, sure, n, mpV ks ix, ints (pgs L), [], wsV ws, z)) := by
  obtain ⟨k, row, h1, h2, h3, h4⟩ := dirty_ok (a1 := a1) (pl := pl) (sure := sure) (n := n) (ws := ws) (z := z) h hL h64
  have hm : ∀ c ∈ dirtL ks L, c ∈ pgs L := fun c hc => srt_in h c (List.mem_filter.1 hc).1
  have hlen : (dirtL ks L).length ≤ L.length := by rw [← srt_len h]; exact List.length_filter_le _ _
  unfold leastS
  cases hd : dirtL ks L with
  | nil =>
    rw [hd] at h1 h2
    simp only [List.length_nil] at h2
    subst h2
    refine e22_run _ _ _ _ _ _ _ _ _ _ (o := .doneM ?v3 ?m3) ?h3 (.done ?n3)
    case h3 =>
      unfold e22
      rw [icM_of mk21_inj h4]
      dsimp only
      rw [gd_of (by simp), List.drop_zero, h1]
      all_goals rfl
    case n3 => kernel_rfl
  | cons c r =>
    rw [hd] at h1 h2 hm hlen
    subst h2
    obtain ⟨x, hf, hx, hxc⟩ := findP_in (hm c (by simp))
    have hb : firstOf L c = x.first := by unfold firstOf; rw [hf]
    have hg : row[0]? = some (.int .i64 c) := by
      have : (row.take (c :: r).length)[0]? = some (.int .i64 c) := by rw [h1]; rfl
      rwa [List.getElem?_take_of_lt (by simp)] at this
    refine e22_run _ _ _ _ _ _ _ _ _ _ ?_ ⟨_, _, least_loop (a1 := a1) (pl := pl) (sure := sure) (n := n) (ws := ws) (z := z) h (c :: r) row h1 h3 (by omega) hm (c :: r) 0 (firstOf L c) rfl (by omega), by kernel_rfl⟩
    unfold e22
    rw [icM_of mk21_inj h4]
    dsimp only
    rw [gd_of (by simpa using h3), List.drop_zero, h1, ints_len, ibeq_f (by simp; omega), cond_false, gd_of (by simp), gd_of (by simpa using h3), Nat.zero_add, idxK_of hg, kI_mk]
    subst hxc
    rw [h.mf hx, kP_mk, h.ax hx, d63_pl, gd_of (by simpa using h3), hb]
    all_goals rfl
end
end Go.Proofs.Ytknapnnpmfhogaa