/-
  The statements, one by one: the second part.
-/
import Derived.Test.YtnaidbmgibmnbaaM16
namespace Go.Proofs.Ytnaidbmgibmnbaa
open Go Go.Lite
set_option linter.unusedSimpArgs false
set_option linter.unusedVariables false

/-! ### side by side -/

theorem hsI_cons (b : Int) (n : Nat) : hsI b (n + 1) = b :: hsI (b + 1) n := by
  unfold hsI
  rw [List.range_succ_eq_map, List.map_cons, List.map_map]
  congr 1
  · simp
  · apply List.map_congr_left
    intro i _
    simp only [Function.comp_apply]
    omega
theorem brkF_hsI : ∀ (n : Nat) (b : Int), 0 ≤ b → b + n ≤ 65536 → brkF b (hsI (b + 1) n) = 0
  | 0, _, _, _ => rfl
  | n + 1, b, h0, h1 => by
    rw [hsI_cons]
    simp only [brkF]
    rw [if_pos (W_i64 (by omega)), brkF_hsI n (b + 1) (by omega) (by omega)]
theorem brk_hsI (n : Nat) (b : Int) (h0 : 0 ≤ b) (h1 : b + n ≤ 65536) : brk (hsI b n) = 0 := by
  cases n with
  | zero => rfl
  | succ n => rw [hsI_cons, brkF_cons]; exact brkF_hsI n b h0 (by omega)
theorem hsI_ok (n : Nat) (b : Int) (h0 : 0 ≤ b) (h1 : b + n ≤ 1024) : Ok (hsI b n) := by
  constructor
  · intro x hx
    simp only [hsI, List.mem_map, List.mem_range] at hx
    obtain ⟨i, hi, rfl⟩ := hx
    omega
  · unfold hsI List.Nodup
    rw [List.pairwise_map]
    exact List.pairwise_lt_range.imp fun h => by omega
theorem intoOk_iff {l : List Int} {b : Int} : intoOk l b = true ↔ okB l = true ∧ 0 ≤ b ∧ b < 1024 ∧ b + l.length ≤ 1024 := by
  simp [intoOk, pgB]
  intro _
  omega

theorem into_end (b : Int) (n : Nat) (hn : n ≤ 60) (h0 : 0 ≤ b) (h1 : b < 1024) (h2 : b + n ≤ 1024) : ∀ (d k : Nat), k + d = n →
    Go kcC false 0 fa5 (.head 0 (T5_0 b ((hsI b n).map iV) (k : Int))) (.done (.bool true)) := by
  intro d
  induction d with
  | zero =>
    intro k hk
    have hl := hsI_len b n
    have hok := hsI_ok n b h0 h2
    have e1 : intoS (hsI b n) b = ([], 0) := by
      unfold intoS
      rw [if_pos (intoOk_iff.2 ⟨okB_of (by omega) hok, h0, h1, by omega⟩), hl, rgo_id]
    have p0 : pcW cfgB 10 [.sl ((hsI b n).map iV), .int .i64 b] = some (.tup [.sl [], .int .i64 0]) := by
      have := into_ok (hsI b n) b (by omega)
      rw [e1] at this
      exact this
    have d0 : decide ((k : Int) < (((hsI b n).map iV).length : Int)) = false := decide_eq_false (by rw [List.length_map]; omega)
    refine s5_0_run _ _ _ ?_ (.refl _)
    unfold s5_0
    rw [d0, cond_false, pcK_of p0, d25_mk, ibeq_t rfl, cond_true, ibeq_t (show (([] : List V).length : Int) = 0 from rfl), cond_true, pcK_of fixed_ok, kB_mk]
  | succ d ih =>
    intro k hk
    have hl := hsI_len b n
    have w : W .i64 ((k : Int) + 1) = ((k + 1 : Nat) : Int) := by rw [W_i64 (by omega)]; omega
    have d0 : decide ((k : Int) < (((hsI b n).map iV).length : Int)) = true := decide_eq_true (by rw [List.length_map]; omega)
    refine s5_0_run _ _ _ (o := .head 0 (T5_0 b ((hsI b n).map iV) ((k + 1 : Nat) : Int))) ?_ (ih (k + 1) (by omega))
    unfold s5_0
    rw [d0, cond_true, gd_of (by simp), toNat_cast, idxK_iV (hsI_get b (show k < n by omega)), kI_mk, W_i64 (n := b + k) (by omega), ibne_f rfl, cond_false, w]
theorem movesInto_true (l : List Int) (b : Int) : pcW cfgB 5 [.sl (l.map iV), .int .i64 b] = some (.bool true) := by
  have hp : (l.take 60).length ≤ 60 := by simp; omega
  by_cases h : intoOk (l.take 60) b = true
  · obtain ⟨h1, h2, h3, h4⟩ := intoOk_iff.1 h
    refine e5_run _ _ (o := .head 0 (T5_0 b ((hsI b (l.take 60).length).map iV) ((0 : Nat) : Int))) ?_ (into_end b _ hp h2 h3 h4 (l.take 60).length 0 (by omega))
    unfold e5
    rw [gd_of (iV_wfl l), cap0, cap1, take60, mt]
    generalize l.take 60 = p at hp h h1 h4
    have hs := intoS_len p b
    have e1 : intoS p b = ((rgo (hsI b p.length) p.length 0 p).2, 0) := by unfold intoS; rw [if_pos h]
    have hl := hsI_len b p.length
    have hh := (rgo_home (hsI_ok p.length b h2 h4) p.length 0 p (by omega) (inv0 (by omega) (ok_of h1))).2
    have e2 : applyS p (intoS p b).1 = (0, hsI b p.length) := by
      unfold applyS
      rw [if_pos h1, e1]
      exact hh
    have p1 : pcW cfgB 12 [.sl (p.map iV), .sl ((intoS p b).1.map eSp)] = some (.tup [.sl ((hsI b p.length).map iV), .int .i64 0]) := by
      have := apply_ok p (intoS p b).1 (by omega) (by omega)
      rw [e2] at this
      exact this
    have p0 := into_ok p b (by omega)
    rw [show (intoS p b).2 = 0 by rw [e1]] at p0
    rw [pcK_of p0, d25_mk, ibne_f rfl, cond_false, pcK_of p1, d32_mk, ibne_f rfl, cond_false, List.length_map, List.length_map, hl, ibne_f rfl, cond_false, List.length_map, decide_eq_false (by omega), cond_false, pcK_of (breaks_ok _ (by omega)), kI_mk, brk_hsI _ _ h2 (by omega), ibne_f (show ((0 : Nat) : Int) = 0 from rfl), cond_false]
    rfl
  · refine e5_run _ _ ?_ (.refl _)
    unfold e5
    rw [gd_of (iV_wfl l), cap0, cap1, take60, mt]
    generalize l.take 60 = p at hp h
    have e1 : intoS p b = ([], 1) := by unfold intoS; rw [if_neg h]
    have p0 : pcW cfgB 10 [.sl (p.map iV), .int .i64 b] = some (.tup [.sl [], .int .i64 1]) := by
      have := into_ok p b (by omega)
      rw [e1] at this
      exact this
    rw [pcK_of p0, d25_mk, ibne_t (by decide), cond_true, ibeq_t (show (([] : List V).length : Int) = 0 from rfl), cond_true, pcK_of fixed_ok, kB_mk]

/-! ### back -/

theorem back_end (p out : List Int) (q : List Sp) (hp : p.length ≤ 60) (hq : q.length ≤ 60) (hop : okB p = true) (ha : appS p q = (0, out)) : ∀ (k : Nat), k ≤ q.length →
    Go kcC false 0 fa6 (.head 0 (T6_0 (q.map eSp) (p.map iV) (out.map iV) ((k : Int) - 1) (((q.drop k).reverse.map flip1).map eSp))) (.done (.bool true)) := by
  intro k
  induction k with
  | zero =>
    intro hk
    obtain ⟨h1, h2⟩ := appS_back (ok_of hop) ha
    have hl := appS_len ha
    have hob := okB_of (by omega) h1
    have e1 : applyS out (q.reverse.map flip1) = (0, p) := by unfold applyS; rw [if_pos hob, h2]
    have p1 := apply_ok out (q.reverse.map flip1) (by omega) (by simp; omega)
    rw [e1] at p1
    refine s6_0_run _ _ _ _ _ ?_ (.refl _)
    unfold s6_0
    rw [decide_eq_false (by omega), cond_false, List.drop_zero, pcK_of p1, d32_mk, ibeq_t rfl, cond_true, pcK_of (ints_ok p p (by omega)), kB_mk, beq_self_eq_true, cond_true, pcK_of (rightR_ok out (by omega)), kB_mk, hob, cond_true, pcK_of fixed_ok, kB_mk]
  | succ k ih =>
    intro hk
    obtain ⟨⟨f, t, sw⟩, hx⟩ : ∃ x, q[k]? = some x := ⟨_, List.getElem?_eq_getElem (show k < q.length by omega)⟩
    have w0 : (((k + 1 : Nat) : Int) - 1) = (k : Int) := by omega
    have w : W .i64 ((k : Int) - 1) = (k : Int) - 1 := W_i64 (by omega)
    have i0 : idxK (q.map eSp) k = fun r => r (V.agg [.int .i64 f, .int .i64 t, .bool sw]) := by funext r; rw [idxK_sp hx]
    have g0 : gd (decide (0 ≤ (k : Int))) = fun r => r := by funext r; exact gd_of (by simp)
    have e1 : q.drop k = (f, t, sw) :: q.drop (k + 1) := by
      rw [List.drop_eq_getElem_cons (show k < q.length by omega)]
      congr 1
      exact (List.getElem?_eq_some_iff.1 hx).2
    have e2 : (q.drop k).reverse.map flip1 = (q.drop (k + 1)).reverse.map flip1 ++ [(t, f, sw)] := by
      rw [e1, List.reverse_cons, List.map_append]; rfl
    have hlen : ((q.drop (k + 1)).reverse.map flip1).length ≤ 60 := by simp; omega
    generalize hb : (q.drop (k + 1)).reverse.map flip1 = bk at e2 hlen
    have g1 : ∀ v : V, gd (decide ((bk.map eSp).length + ([v] : List V).length ≤ 16777216)) = fun r => r := by intro v; funext r; exact gd_of (by simp; omega)
    have := ih (by omega)
    rw [e2] at this
    refine s6_0_run _ _ _ _ _ (o := .head 0 (T6_0 (q.map eSp) (p.map iV) (out.map iV) ((k : Int) - 1) ((bk ++ [(t, f, sw)]).map eSp))) ?_ this
    rw [w0]
    have d0 : decide ((k : Int) ≥ 0) = true := decide_eq_true (by omega)
    simp only [s6_0, d0, cond_true, gd_true, g0, toNat_cast, i0, d44_mk, g1, w, appSp]
theorem movesBack_true (l : List Int) (st : List Sp) : pcW cfgB 6 [.sl (l.map iV), .sl (st.map eSp)] = some (.bool true) := by
  have hp : (l.take 60).length ≤ 60 := by simp; omega
  have hq : (st.take 60).length ≤ 60 := by simp; omega
  have en : e6 (l.map iV) (st.map eSp) = pcK cfgB 12 [.sl ((l.take 60).map iV), .sl ((st.take 60).map eSp)] fun r => d32 r fun r12_0 r12_1 =>
      cond (r12_1 != (0 : Int))
       (cond ((r12_0.length : Int) == (0 : Int))
       (pcK cfgB 21 [] fun r_1 => kB r_1 fun r21 => some (.done (V.bool r21)))
       (some (.done (V.bool false))))
       (some (.head 0 (T6_0 ((st.take 60).map eSp) ((l.take 60).map iV) r12_0 (W .i64 ((((st.take 60).map eSp).length : Int) - 1)) []))) := by
    unfold e6
    rw [gd_of (iV_wfl l), cap0, cap1, gd_of (eSp_wfl st), cap0, cap1, take60, take60, mt, mt]
  generalize l.take 60 = p at hp en
  generalize st.take 60 = q at hq en
  rw [pcK_of (apply_ok p q (by omega) (by omega)), d32_mk] at en
  by_cases h : (applyS p q).1 = 0
  · have hop : okB p = true := by
      unfold applyS at h
      split at h
      · assumption
      · cases h
    have ha : appS p q = (0, (applyS p q).2) := by
      unfold applyS at h ⊢
      rw [if_pos hop] at h ⊢
      rw [← h]
    have := back_end p (applyS p q).2 q hp hq hop ha q.length (Nat.le_refl _)
    rw [List.drop_length] at this
    refine e6_run _ _ (en.trans ?_) this
    rw [ibne_f h, cond_false, List.length_map, W_i64 (by omega)]
    rfl
  · refine e6_run _ _ (en.trans ?_) (.refl _)
    have h2 : (applyS p q).2 = [] := by
      unfold applyS at h ⊢
      split
      · rename_i hop
        rw [if_pos hop] at h
        exact appS_err h
      · rfl
    rw [ibne_t h, cond_true, h2, ibeq_t (show ((([] : List Int).map iV).length : Int) = 0 from rfl), cond_true, pcK_of fixed_ok, kB_mk]
end Go.Proofs.Ytnaidbmgibmnbaa

/-
  The statements, one by one: the third part.
-/
namespace Go.Proofs.Ytnaidbmgibmnbaa
open Go Go.Lite
set_option linter.unusedSimpArgs false
set_option linter.unusedVariables false

theorem sort_bad {p : List Int} (hp : p.length ≤ 60) (h : okB p = false) : pcW cfgB 8 [.sl (p.map iV)] = some (.tup [.sl [], .int .i64 1]) ∧ pcW cfgB 17 [.sl (p.map iV)] = some (.int .i64 0) := by
  constructor
  · have := sort_ok p (by omega)
    rw [show sortS p = ([], 1) by unfold sortS; rw [h]; rfl] at this
    exact this
  · have := cycles_ok p (by omega)
    rw [show cyc p = 0 by unfold cyc; rw [h]; rfl] at this
    exact this
theorem sort_good {p : List Int} (hp : p.length ≤ 60) (h : okB p = true) :
    pcW cfgB 8 [.sl (p.map iV)] = some (.tup [.sl ((rgo (srt p) p.length 0 p).2.map eSp), .int .i64 0]) ∧ pcW cfgB 17 [.sl (p.map iV)] = some (.int .i64 (cycS p : Int)) ∧
      pcW cfgB 12 [.sl (p.map iV), .sl ((rgo (srt p) p.length 0 p).2.map eSp)] = some (.tup [.sl ((srt p).map iV), .int .i64 0]) ∧ cycS p + (rgo (srt p) p.length 0 p).2.length = p.length ∧ (rgo (srt p) p.length 0 p).2.length ≤ p.length := by
  have hl := srt_len p
  have hok := ok_of h
  have hos := srt_ok hok
  have hsr : srt (srt p) = srt p := srt_of_perm (srt_perm p)
  have hv : Inv (srt p) 0 p := inv0 (by omega) hok
  have h1 := (rgo_home hos p.length 0 p (by omega) hv).2
  have h2 := rgo_count hos hsr p.length 0 p (by omega) hv (srt_perm p).symm
  have h3 := (rgo_len (srt p) p.length 0 p).2
  refine ⟨?_, ?_, ?_, by omega, h3⟩
  · have := sort_ok p (by omega)
    rw [show sortS p = ((rgo (srt p) p.length 0 p).2, 0) by unfold sortS; rw [h]; rfl] at this
    exact this
  · have := cycles_ok p (by omega)
    rw [show cyc p = (cycS p : Int) by unfold cyc; rw [h]; rfl] at this
    exact this
  · have := apply_ok p (rgo (srt p) p.length 0 p).2 (by omega) (by omega)
    rw [show applyS p (rgo (srt p) p.length 0 p).2 = (0, srt p) by unfold applyS; rw [if_pos h, h1]] at this
    exact this

/-! ### rising, and the same pages -/

theorem among_loop (p out : List Int) (i : Nat) (x : Int) (hp : p.length ≤ 60) (hx : out[i]? = some x) : ∀ (r : List Int) (k : Nat) (b : Bool), p.drop k = r → k ≤ p.length → (b = true ∨ x ∈ r) →
    Go kcC false 0 fa4 (.head 1 (T4_1 (p.map iV) (out.map iV) (i : Int) b (k : Int))) (.head 1 (T4_1 (p.map iV) (out.map iV) (i : Int) true (p.length : Int))) := by
  intro r
  induction r with
  | nil =>
    intro k b hr hkl hb
    have h1 := drop_nil hr
    have hb : b = true := hb.elim id fun h => by simp at h
    subst hb
    have e : k = p.length := by omega
    subst e; exact .refl _
  | cons y r ih =>
    intro k b hr hkl hb
    obtain ⟨h1, h2, h3⟩ := drop_cons hr
    have w : W .i64 ((k : Int) + 1) = ((k + 1 : Nat) : Int) := by rw [W_i64 (by omega)]; omega
    have d0 : decide ((k : Int) < ((p.map iV).length : Int)) = true := decide_eq_true (by rw [List.length_map]; omega)
    have g0 : gd (decide (0 ≤ (k : Int))) = fun q => q := by funext q; exact gd_of (by simp)
    have g1 : gd (decide (0 ≤ (i : Int))) = fun q => q := by funext q; exact gd_of (by simp)
    have i0 : idxK (p.map iV) k = fun q => q (V.int .i64 y) := by funext q; rw [idxK_iV h1]
    have i1 : idxK (out.map iV) i = fun q => q (V.int .i64 x) := by funext q; rw [idxK_iV hx]
    cases b with
    | true =>
      refine s4_1_run _ _ _ _ _ (o := .head 1 (T4_1 (p.map iV) (out.map iV) (i : Int) true ((k + 1 : Nat) : Int))) ?_ (ih (k + 1) true h2 (by omega) (.inl rfl))
      simp only [s4_1, d0, cond_true, w]
    | false =>
      have hb : x = y ∨ x ∈ r := by
        rcases hb with h | h
        · cases h
        · exact List.mem_cons.1 h
      refine s4_1_run _ _ _ _ _ (o := .head 1 (T4_1 (p.map iV) (out.map iV) (i : Int) (y == x) ((k + 1 : Nat) : Int))) ?_ (ih (k + 1) (y == x) h2 (by omega) ?_)
      · simp only [s4_1, d0, cond_true, cond_false, gd_true, g0, g1, toNat_cast, i0, i1, kI_mk, w]
      · rcases hb with h | h
        · exact .inl (ibeq_t h.symm)
        · exact .inr h
theorem sort_end (p out : List Int) (hp : p.length ≤ 60) (hol : out.length ≤ 60) (hin : ∀ x ∈ out, x ∈ p) (hs : out.Pairwise (· < ·)) : ∀ (d i : Nat), i + d = out.length →
    Go kcC false 0 fa4 (.head 0 (T4_0 (p.map iV) (out.map iV) (i : Int))) (.done (.bool true)) := by
  intro d
  induction d with
  | zero =>
    intro i hi
    refine s4_0_run _ _ _ ?_ (.refl _)
    have d0 : decide ((i : Int) < ((out.map iV).length : Int)) = false := decide_eq_false (by rw [List.length_map]; omega)
    unfold s4_0
    rw [d0, cond_false, pcK_of fixed_ok, kB_mk]
  | succ d ih =>
    intro i hi
    have hil : i < out.length := by omega
    obtain ⟨x, hx⟩ : ∃ x, out[i]? = some x := ⟨_, List.getElem?_eq_getElem hil⟩
    have w : W .i64 ((i : Int) + 1) = ((i + 1 : Nat) : Int) := by rw [W_i64 (by omega)]; omega
    have d0 : decide ((i : Int) < ((out.map iV).length : Int)) = true := decide_eq_true (by rw [List.length_map]; omega)
    refine s4_0_run _ _ _ (o := .head 1 (T4_1 (p.map iV) (out.map iV) (i : Int) false ((0 : Nat) : Int))) ?_ ((among_loop p out i x hp hx p 0 false rfl (by omega) (.inr (hin x (List.mem_of_getElem? hx)))).trans ?_)
    · unfold s4_0
      rw [d0, cond_true]
      rfl
    · refine s4_1_run _ _ _ _ _ (o := .head 0 (T4_0 (p.map iV) (out.map iV) ((i + 1 : Nat) : Int))) ?_ (ih (i + 1) (by omega))
      have d1 : decide ((p.length : Int) < ((p.map iV).length : Int)) = false := decide_eq_false (by rw [List.length_map]; omega)
      unfold s4_1
      rw [d1, cond_false, Bool.not_true, cond_false, w]
      by_cases h0 : 0 < i
      · obtain ⟨y, hy⟩ : ∃ y, out[i - 1]? = some y := ⟨_, List.getElem?_eq_getElem (by omega)⟩
        have hlt : y < x := by
          obtain ⟨q1, e1⟩ := List.getElem?_eq_some_iff.1 hx
          obtain ⟨q2, e2⟩ := List.getElem?_eq_some_iff.1 hy
          have := List.pairwise_iff_getElem.1 hs (i - 1) i q2 q1 (by omega)
          rw [e1, e2] at this
          exact this
        have w2 : W .i64 ((i : Int) - 1) = ((i - 1 : Nat) : Int) := by rw [W_i64 (by omega)]; omega
        rw [decide_eq_true (show (i : Int) > 0 by omega), cond_true, w2, gd_of (by simp), toNat_cast, idxK_iV hy, kI_mk, gd_of (by simp), toNat_cast, idxK_iV hx, kI_mk, decide_eq_false (by omega), cond_false]
      · rw [decide_eq_false (show ¬ (i : Int) > 0 by omega), cond_false]
theorem movesSort_true (l : List Int) : pcW cfgB 4 [.sl (l.map iV)] = some (.bool true) := by
  have hp : (l.take 60).length ≤ 60 := by simp; omega
  cases h : okB (l.take 60) with
  | false =>
    refine e4_run _ ?_ (.refl _)
    unfold e4
    rw [gd_of (iV_wfl l), cap0, cap1, take60, mt]
    generalize l.take 60 = p at hp h
    obtain ⟨p0, p1⟩ := sort_bad hp h
    rw [pcK_of p0, d25_mk, ibne_t (by decide), cond_true, ibeq_t (show (([] : List V).length : Int) = 0 from rfl), cond_true, pcK_of p1, kI_mk, ibeq_t rfl, cond_true, pcK_of fixed_ok, kB_mk]
  | true =>
    refine e4_run _ (o := .head 0 (T4_0 ((l.take 60).map iV) ((srt (l.take 60)).map iV) ((0 : Nat) : Int))) ?_ ?_
    · unfold e4
      rw [gd_of (iV_wfl l), cap0, cap1, take60, mt]
      generalize l.take 60 = p at hp h
      obtain ⟨p0, p1, p2, p3, p4⟩ := sort_good hp h
      have hl := srt_len p
      rw [pcK_of p0, d25_mk, ibne_f rfl, cond_false, pcK_of p2, d32_mk, ibne_f rfl, cond_false, List.length_map, List.length_map, hl, ibne_f rfl, cond_false, pcK_of p1, kI_mk, List.length_map, W_i64 (by omega), ibne_f (by omega), cond_false]
      rfl
    · have hok := ok_of h
      exact sort_end _ _ hp (by rw [srt_len]; exact hp) (fun x hx => srt_mem.1 hx) (srt_lt hok.2) _ 0 (Nat.zero_add _)

/-! ### step by step -/

theorem still_loop (p hs : List Int) (st : List Sp) (hp : p.length ≤ 60) (hst : st.length ≤ 60) (hop : okB p = true) (hhs : hs = srt p) (hap : appS p st = (0, hs)) : ∀ (r : List Sp) (k d i : Nat) (l : List Int), st.drop k = r → k ≤ st.length →
    i + d = hs.length → Inv hs i l → l.Perm hs → (rgo hs d i l).2 = r →
    Go kcC false 0 fa7 (.head 0 (T7_0 (p.map iV) (st.map eSp) (l.map iV) (cycS l : Int) (k : Int))) (.done (.bool true)) := by
  have hok : Ok hs := by rw [hhs]; exact srt_ok (ok_of hop)
  have hsr : srt hs = hs := by rw [hhs]; exact srt_of_perm (srt_perm p)
  have hlen : hs.length = p.length := by rw [hhs]; exact srt_len p
  have okl : ∀ l : List Int, l.Perm hs → okB l = true := fun l h => by rw [okB_perm (h.trans (hhs ▸ srt_perm p))]; exact hop
  intro r
  induction r with
  | nil =>
    intro k d i l hr hk hd v hpm he
    have h1 := drop_nil hr
    have hl : l = hs := by
      have := (rgo_home hok d i l hd v).2
      rw [he] at this
      exact (Prod.mk.inj this).2
    subst hl
    have p0 : pcW cfgB 8 [.sl (l.map iV)] = some (.tup [.sl [], .int .i64 0]) := by
      have := sort_ok l (by omega)
      rw [show sortS l = ([], 0) by unfold sortS; rw [if_pos (okl l (List.Perm.refl _)), hsr, rgo_id]] at this
      exact this
    have p1 : pcW cfgB 12 [.sl (p.map iV), .sl (st.map eSp)] = some (.tup [.sl (l.map iV), .int .i64 0]) := by
      have := apply_ok p st (by omega) (by omega)
      rw [show applyS p st = (0, l) by unfold applyS; rw [if_pos hop, hap]] at this
      exact this
    have hc := cyc_home hok hsr
    have hb := brk_le l
    have d0 : decide ((k : Int) < ((st.map eSp).length : Int)) = false := decide_eq_false (by rw [List.length_map]; omega)
    refine s7_0_run _ _ _ _ _ ?_ (.refl _)
    unfold s7_0
    rw [d0, cond_false, pcK_of p0, d25_mk, pcK_of p1, d32_mk, ibeq_t rfl, cond_true, ibeq_t (show (([] : List V).length : Int) = 0 from rfl), cond_true, List.length_map, ibeq_t (by omega), cond_true, cond_true, pcK_of (ints_ok l l (by omega)), kB_mk, beq_self_eq_true, cond_true, pcK_of (breaks_ok l (by omega)), kI_mk, List.length_map, W_i64 (by omega),
      decide_eq_true (by split <;> omega), cond_true, pcK_of fixed_ok, kB_mk]
  | cons s r ih =>
    intro k d i l hr hk hd v hpm he
    obtain ⟨h1, h2, h3⟩ := drop_cons hr
    obtain ⟨l', d', i', hd', v', hpm', ha, hc, he'⟩ := rgo_first hok hsr d i l hd v hpm s r he
    have hll : l.length = hs.length := hpm.length_eq
    have hll' : l'.length = hs.length := hpm'.length_eq
    have w : W .i64 ((k : Int) + 1) = ((k + 1 : Nat) : Int) := by rw [W_i64 (by omega)]; omega
    have hcl : cycS l ≤ l.length := cgo_le _ _ _ _ _
    have w2 : W .i64 ((cycS l : Int) + 1) = ((cycS l' : Nat) : Int) := by rw [W_i64 (by omega)]; omega
    have e1 : ((st.map eSp).take (k + 1)).drop k = [s].map eSp := by
      rw [← List.map_take, ← List.map_drop, List.take_add_one, h1]
      rw [List.drop_append_of_le_length (by simp; omega), List.drop_of_length_le (by simp; omega)]
      rfl
    have p1 : pcW cfgB 12 [.sl (l.map iV), .sl ([s].map eSp)] = some (.tup [.sl (l'.map iV), .int .i64 0]) := by
      have := apply_ok l [s] (by omega) (by simp)
      rw [show applyS l [s] = (0, l') by unfold applyS; rw [if_pos (okl l hpm)]; simp only [appS, ha, if_true]] at this
      exact this
    have p2 : pcW cfgB 17 [.sl (l'.map iV)] = some (.int .i64 (cycS l' : Int)) := by
      have := cycles_ok l' (by omega)
      rw [show cyc l' = (cycS l' : Int) by unfold cyc; rw [if_pos (okl l' hpm')]] at this
      exact this
    have d0 : decide ((k : Int) < ((st.map eSp).length : Int)) = true := decide_eq_true (by rw [List.length_map]; omega)
    refine s7_0_run _ _ _ _ _ (o := .head 0 (T7_0 (p.map iV) (st.map eSp) (l'.map iV) (cycS l' : Int) ((k + 1 : Nat) : Int))) ?_ (ih (k + 1) d' i' l' h2 (by omega) hd' v' hpm' he')
    unfold s7_0
    rw [d0, cond_true, gd_of (eSp_wfl st), gd_of (by simp), w, gd_of (by simp; omega), toNat_cast, toNat_cast, gd_of (by simp), gd_of (by simp; omega), e1, pcK_of p1, d32_mk, ibne_f rfl, cond_false, pcK_of p2, kI_mk, w2, ibne_f rfl, cond_false]
theorem movesStill_true (l : List Int) : pcW cfgB 7 [.sl (l.map iV)] = some (.bool true) := by
  have hp : (l.take 60).length ≤ 60 := by simp; omega
  cases h : okB (l.take 60) with
  | false =>
    refine e7_run _ ?_ (.refl _)
    unfold e7
    rw [gd_of (iV_wfl l), cap0, cap1, take60, mt]
    generalize l.take 60 = p at hp h
    obtain ⟨p0, p1⟩ := sort_bad hp h
    rw [pcK_of p0, d25_mk, ibne_t (by decide), cond_true, pcK_of p1, kI_mk, ibeq_t rfl, cond_true, pcK_of fixed_ok, kB_mk]
  | true =>
    refine e7_run _ (o := .head 0 (T7_0 ((l.take 60).map iV) ((rgo (srt (l.take 60)) (l.take 60).length 0 (l.take 60)).2.map eSp) ((l.take 60).map iV) (cycS (l.take 60) : Int) ((0 : Nat) : Int))) ?_ ?_
    · unfold e7
      rw [gd_of (iV_wfl l), cap0, cap1, take60, mt]
      generalize l.take 60 = p at hp h
      obtain ⟨p0, p1, p2, p3, p4⟩ := sort_good hp h
      rw [pcK_of p0, d25_mk, ibne_f rfl, cond_false, pcK_of p1, kI_mk]
      rfl
    · generalize l.take 60 = p at hp h
      obtain ⟨p0, p1, p2, p3, p4⟩ := sort_good hp h
      have hl := srt_len p
      have hok := ok_of h
      have hv : Inv (srt p) 0 p := inv0 (by omega) hok
      have h1 := (rgo_home (srt_ok hok) p.length 0 p (by omega) hv).2
      exact still_loop p (srt p) _ hp (by omega) h rfl h1 _ 0 p.length 0 p rfl (by omega) (by omega) hv (srt_perm p).symm rfl
end Go.Proofs.Ytnaidbmgibmnbaa
