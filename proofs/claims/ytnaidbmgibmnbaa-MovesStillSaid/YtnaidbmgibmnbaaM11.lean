/-
  What the functions hand back: the third part.
-/
import Derived.Test.YtnaidbmgibmnbaaM9
namespace Go.Proofs.Ytnaidbmgibmnbaa
open Go Go.Lite
set_option linter.unusedSimpArgs false
set_option linter.unusedVariables false

/-! ### Apply -/

def applyS (l : List Int) (r : List Sp) : Int × List Int := if okB l then appS l r else (1, [])
theorem ix_lt0 (l : List Int) (x : Int) : decide (ix l x < 0) = decide (x ∉ l) := decide_eq_decide.2 ix_neg

theorem apply_loop (st : List Sp) (hst : st.length ≤ 65536) : ∀ (r : List Sp) (k : Nat) (l : List Int), st.drop k = r → l.length ≤ 65536 →
    Go kcB false 0 fa12 (.head 0 (T12_0 (st.map eSp) (st.length : Int) (k : Int) (l.map iV))) (.done (.tup [.sl ((appS l r).2.map iV), .int .i64 (appS l r).1])) := by
  intro r
  induction r with
  | nil =>
    intro k l hr hl
    have h1 := drop_nil hr
    refine s12_0_run _ _ _ _ ?_ (.refl _)
    have d0 : decide ((k : Int) < (st.length : Int)) = false := decide_eq_false (by omega)
    simp only [s12_0, d0, cond_false]
    rfl
  | cons s r ih =>
    intro k l hr hl
    obtain ⟨h1, h2, h3⟩ := drop_cons hr
    obtain ⟨f, t, sw⟩ := s
    have w : W .i64 ((k : Int) + 1) = ((k + 1 : Nat) : Int) := by rw [W_i64 (by omega)]; omega
    have d0 : decide ((k : Int) < (st.length : Int)) = true := decide_eq_true (by omega)
    have g0 : gd (decide (0 ≤ (k : Int))) = fun q => q := by funext q; exact gd_of (by simp)
    have i0 : idxK (st.map eSp) k = fun q => q (V.agg [.int .i64 f, .int .i64 t, .bool sw]) := by funext q; rw [idxK_sp h1]
    have pf : pcK cfgB 36 [.sl (l.map iV), .int .i64 f] = fun q => q (.int .i64 (ix l f)) := by funext q; rw [pcK_of (index_ok l f hl)]
    have pt : pcK cfgB 36 [.sl (l.map iV), .int .i64 t] = fun q => q (.int .i64 (ix l t)) := by funext q; rw [pcK_of (index_ok l t hl)]
    have pp : pcK cfgB 31 [.int .i64 t] = fun q => q (.bool (pgB t)) := by funext q; rw [pcK_of (page_ok t)]
    -- it ends here
    have stop : ∀ e : Int, app1 l (f, t, sw) = (e, []) → e ≠ 0 → s12_0 (st.map eSp) (st.length : Int) (k : Int) (l.map iV) = some (.done (.tup [.sl [], .int .i64 e])) →
        Go kcB false 0 fa12 (.head 0 (T12_0 (st.map eSp) (st.length : Int) (k : Int) (l.map iV))) (.done (.tup [.sl ((appS l ((f, t, sw) :: r)).2.map iV), .int .i64 (appS l ((f, t, sw) :: r)).1])) := by
      intro e he hne hs
      refine s12_0_run _ _ _ _ (hs.trans ?_) (.refl _)
      simp only [appS, he, if_neg hne]
      rfl
    have next : ∀ l' : List Int, app1 l (f, t, sw) = (0, l') → s12_0 (st.map eSp) (st.length : Int) (k : Int) (l.map iV) = some (.head 0 (T12_0 (st.map eSp) (st.length : Int) ((k + 1 : Nat) : Int) (l'.map iV))) →
        Go kcB false 0 fa12 (.head 0 (T12_0 (st.map eSp) (st.length : Int) (k : Int) (l.map iV))) (.done (.tup [.sl ((appS l ((f, t, sw) :: r)).2.map iV), .int .i64 (appS l ((f, t, sw) :: r)).1])) := by
      intro l' he hs
      refine s12_0_run _ _ _ _ hs ?_
      have hl' : l'.length = l.length := by have := app1_len (l := l) (s := (f, t, sw)) (by rw [he]); rwa [he] at this
      have := ih (k + 1) l' h2 (by omega)
      simp only [appS, he, if_true]
      exact this
    by_cases hf : f ∈ l
    rotate_left
    · have df : decide (ix l f < 0) = true := by rw [ix_lt0, decide_eq_true hf]
      refine stop 7 (by simp [app1, hf]) (by decide) ?_
      simp only [s12_0, d0, cond_true, g0, toNat_cast, i0, d44_mk, pf, pt, kI_mk, df]
    have df : decide (ix l f < 0) = false := by rw [ix_lt0, decide_eq_false (by simpa using hf)]
    have hfl := idx_lt hf
    have gf : gd (decide (0 ≤ ix l f)) = fun q => q := by funext q; exact gd_of (by rw [ix_of hf]; simp)
    have gf2 : gd (decide ((ix l f).toNat < (l.map iV).length)) = fun q => q := by funext q; exact gd_of (by rw [ix_of hf]; simp; omega)
    have jf : idxK (l.map iV) (ix l f).toNat = fun q => q (V.int .i64 f) := by funext q; rw [ix_of hf, toNat_cast, idxK_iV (idx_get hf)]
    cases sw with
    | true =>
      by_cases ht : t ∈ l
      · have dt : decide (ix l t < 0) = false := by rw [ix_lt0, decide_eq_false (by simpa using ht)]
        have htl := idx_lt ht
        have gt : gd (decide (0 ≤ ix l t)) = fun q => q := by funext q; exact gd_of (by rw [ix_of ht]; simp)
        have gt2 : gd (decide ((ix l t).toNat < (l.map iV).length)) = fun q => q := by funext q; exact gd_of (by rw [ix_of ht]; simp; omega)
        have jt : idxK (l.map iV) (ix l t).toNat = fun q => q (V.int .i64 t) := by funext q; rw [ix_of ht, toNat_cast, idxK_iV (idx_get ht)]
        have gt3 : gd (decide ((ix l t).toNat < ((l.map iV).set (ix l f).toNat (V.int .i64 t)).length)) = fun q => q := by funext q; exact gd_of (by rw [ix_of ht]; simp; omega)
        obtain ⟨y, hy⟩ : ∃ y, (l.set (l.idxOf f) t)[l.idxOf t]? = some y := ⟨_, List.getElem?_eq_getElem (by simp; omega)⟩
        have jt3 : idxK ((l.map iV).set (ix l f).toNat (V.int .i64 t)) (ix l t).toNat = fun q => q (V.int .i64 y) := by funext q; rw [ix_of ht, ix_of hf, toNat_cast, toNat_cast, setV, idxK_iV hy]
        refine next ((l.set (l.idxOf f) t).set (l.idxOf t) f) (by simp [app1, hf, ht]) ?_
        simp only [s12_0, d0, cond_true, cond_false, g0, toNat_cast, i0, d44_mk, pf, pt, kI_mk, df, dt, gf, gf2, jf, gt, gt2, jt, gt3, jt3, w]
        simp only [ix_of hf, ix_of ht, toNat_cast, setV]
      · have dt : decide (ix l t < 0) = true := by rw [ix_lt0, decide_eq_true ht]
        refine stop 7 (by simp [app1, hf, ht]) (by decide) ?_
        simp only [s12_0, d0, cond_true, cond_false, g0, toNat_cast, i0, d44_mk, pf, pt, kI_mk, df, dt]
    | false =>
      cases hp : pgB t with
      | false =>
        refine stop 1 (by simp [app1, hf, hp]) (by decide) ?_
        simp only [s12_0, d0, cond_true, cond_false, g0, toNat_cast, i0, d44_mk, pf, pt, kI_mk, df, pp, hp, kB_mk, Bool.not_false]
      | true =>
        by_cases ht : t ∈ l
        · have dt : decide (ix l t ≥ 0) = true := by rw [ix_ge, decide_eq_true ht]
          refine stop 8 (by simp [app1, hf, hp, ht]) (by decide) ?_
          simp only [s12_0, d0, cond_true, cond_false, g0, toNat_cast, i0, d44_mk, pf, pt, kI_mk, df, pp, hp, kB_mk, Bool.not_true, dt]
        · have dt : decide (ix l t ≥ 0) = false := by rw [ix_ge, decide_eq_false ht]
          refine next (l.set (l.idxOf f) t) (by simp [app1, hf, hp, ht]) ?_
          simp only [s12_0, d0, cond_true, cond_false, g0, toNat_cast, i0, d44_mk, pf, pt, kI_mk, df, pp, hp, kB_mk, Bool.not_true, dt, gf, gf2, jf, w]
          simp only [ix_of hf, toNat_cast, setV]
theorem apply_ok (l : List Int) (st : List Sp) (hl : l.length ≤ 65536) (hst : st.length ≤ 65536) : pcW cfgB 12 [.sl (l.map iV), .sl (st.map eSp)] = some (.tup [.sl ((applyS l st).2.map iV), .int .i64 (applyS l st).1]) := by
  unfold applyS
  cases h : okB l with
  | false =>
    refine e12_run _ _ ?_ (.refl _)
    unfold e12
    rw [pcK_of (right_ok l hl), kB_mk, h]
    rfl
  | true =>
    refine e12_run _ _ (o := .head 0 (T12_0 (st.map eSp) (st.length : Int) ((0 : Nat) : Int) (l.map iV))) ?_ (apply_loop st hst st 0 l rfl hl)
    unfold e12
    rw [pcK_of (right_ok l hl), kB_mk, h, Bool.not_true, cond_false, pcK_of (clone_ok l hl), kF_mk, List.length_map]
    rfl
theorem applyR_loop (st : List Sp) (hst : st.length ≤ 65536) : ∀ (r : List Sp) (k : Nat) (l : List Int), st.drop k = r → l.length ≤ 65536 →
    Go kcB false 0 fa13 (.head 0 (T13_0 (st.map eSp) (k : Int) (l.map iV))) (.done (.tup [.sl ((appS l r).2.map iV), .int .i64 (appS l r).1])) := by
  intro r
  induction r with
  | nil =>
    intro k l hr hl
    have h1 := drop_nil hr
    refine s13_0_run _ _ _ ?_ (.refl _)
    have d0 : decide ((k : Int) < (st.length : Int)) = false := decide_eq_false (by omega)
    simp only [s13_0, List.length_map, d0, cond_false]
    rfl
  | cons s r ih =>
    intro k l hr hl
    obtain ⟨h1, h2, h3⟩ := drop_cons hr
    obtain ⟨f, t, sw⟩ := s
    have w : W .i64 ((k : Int) + 1) = ((k + 1 : Nat) : Int) := by rw [W_i64 (by omega)]; omega
    have d0 : decide ((k : Int) < ((st.map eSp).length : Int)) = true := decide_eq_true (by simp; omega)
    have g0 : gd (decide (0 ≤ (k : Int))) = fun q => q := by funext q; exact gd_of (by simp)
    have i0 : idxK (st.map eSp) k = fun q => q (V.agg [.int .i64 f, .int .i64 t, .bool sw]) := by funext q; rw [idxK_sp h1]
    have pf : pcK cfgB 34 [.sl (l.map iV), .int .i64 f] = fun q => q (.int .i64 (ix l f)) := by funext q; rw [pcK_of (find_ok l f hl)]
    have pt : pcK cfgB 34 [.sl (l.map iV), .int .i64 t] = fun q => q (.int .i64 (ix l t)) := by funext q; rw [pcK_of (find_ok l t hl)]
    have stop : ∀ e : Int, app1 l (f, t, sw) = (e, []) → e ≠ 0 → s13_0 (st.map eSp) (k : Int) (l.map iV) = some (.done (.tup [.sl [], .int .i64 e])) →
        Go kcB false 0 fa13 (.head 0 (T13_0 (st.map eSp) (k : Int) (l.map iV))) (.done (.tup [.sl ((appS l ((f, t, sw) :: r)).2.map iV), .int .i64 (appS l ((f, t, sw) :: r)).1])) := by
      intro e he hne hs
      refine s13_0_run _ _ _ (hs.trans ?_) (.refl _)
      simp only [appS, he, if_neg hne]
      rfl
    have next : ∀ l' : List Int, app1 l (f, t, sw) = (0, l') → s13_0 (st.map eSp) (k : Int) (l.map iV) = some (.head 0 (T13_0 (st.map eSp) ((k + 1 : Nat) : Int) (l'.map iV))) →
        Go kcB false 0 fa13 (.head 0 (T13_0 (st.map eSp) (k : Int) (l.map iV))) (.done (.tup [.sl ((appS l ((f, t, sw) :: r)).2.map iV), .int .i64 (appS l ((f, t, sw) :: r)).1])) := by
      intro l' he hs
      refine s13_0_run _ _ _ hs ?_
      have hl' : l'.length = l.length := by have := app1_len (l := l) (s := (f, t, sw)) (by rw [he]); rwa [he] at this
      have := ih (k + 1) l' h2 (by omega)
      simp only [appS, he, if_true]
      exact this
    by_cases hf : f ∈ l
    rotate_left
    · have df : decide (ix l f < 0) = true := by rw [ix_lt0, decide_eq_true hf]
      refine stop 7 (by simp [app1, hf]) (by decide) ?_
      simp only [s13_0, d0, cond_true, g0, toNat_cast, i0, d59_mk, pf, pt, kI_mk, df]
    have df : decide (ix l f < 0) = false := by rw [ix_lt0, decide_eq_false (by simpa using hf)]
    have hfl := idx_lt hf
    have gf : gd (decide (0 ≤ ix l f)) = fun q => q := by funext q; exact gd_of (by rw [ix_of hf]; simp)
    have gf2 : gd (decide ((ix l f).toNat < (l.map iV).length)) = fun q => q := by funext q; exact gd_of (by rw [ix_of hf]; simp; omega)
    have jf : idxK (l.map iV) (ix l f).toNat = fun q => q (V.int .i64 f) := by funext q; rw [ix_of hf, toNat_cast, idxK_iV (idx_get hf)]
    cases sw with
    | true =>
      by_cases ht : t ∈ l
      · have dt : decide (ix l t < 0) = false := by rw [ix_lt0, decide_eq_false (by simpa using ht)]
        have htl := idx_lt ht
        have gt : gd (decide (0 ≤ ix l t)) = fun q => q := by funext q; exact gd_of (by rw [ix_of ht]; simp)
        have gt2 : gd (decide ((ix l t).toNat < (l.map iV).length)) = fun q => q := by funext q; exact gd_of (by rw [ix_of ht]; simp; omega)
        have jt : idxK (l.map iV) (ix l t).toNat = fun q => q (V.int .i64 t) := by funext q; rw [ix_of ht, toNat_cast, idxK_iV (idx_get ht)]
        have gt3 : gd (decide ((ix l f).toNat < ((l.map iV).set (ix l t).toNat (V.int .i64 f)).length)) = fun q => q := by funext q; exact gd_of (by rw [ix_of hf]; simp; omega)
        obtain ⟨y, hy⟩ : ∃ y, (l.set (l.idxOf t) f)[l.idxOf f]? = some y := ⟨_, List.getElem?_eq_getElem (by simp; omega)⟩
        have jt3 : idxK ((l.map iV).set (ix l t).toNat (V.int .i64 f)) (ix l f).toNat = fun q => q (V.int .i64 y) := by funext q; rw [ix_of ht, ix_of hf, toNat_cast, toNat_cast, setV, idxK_iV hy]
        refine next ((l.set (l.idxOf f) t).set (l.idxOf t) f) (by simp [app1, hf, ht]) ?_
        simp only [s13_0, d0, cond_true, cond_false, g0, toNat_cast, i0, d59_mk, pf, pt, kI_mk, df, dt, gf, gf2, jf, gt, gt2, jt, gt3, jt3, w, Bool.not_true]
        simp only [ix_of hf, ix_of ht, toNat_cast, setV, swap_comm hf ht]
      · have dt : decide (ix l t < 0) = true := by rw [ix_lt0, decide_eq_true ht]
        refine stop 7 (by simp [app1, hf, ht]) (by decide) ?_
        simp only [s13_0, d0, cond_true, cond_false, g0, toNat_cast, i0, d59_mk, pf, pt, kI_mk, df, dt]
    | false =>
      cases hp : pgB t with
      | false =>
        refine stop 1 (by simp [app1, hf, hp]) (by decide) ?_
        simp only [s13_0, d0, cond_true, cond_false, g0, toNat_cast, i0, d59_mk, pf, pt, kI_mk, df, Bool.not_false]
        by_cases hp1 : t < 0
        · simp only [decide_eq_true hp1, cond_true]
        · have hp2 : t > 1023 := by simp [pgB] at hp; omega
          simp only [decide_eq_false hp1, decide_eq_true hp2, cond_true, cond_false]
      | true =>
        have hp' : 0 ≤ t ∧ t < 1024 := by simpa [pgB] using hp
        have dp1 : decide (t < 0) = false := decide_eq_false (by omega)
        have dp2 : decide (t > 1023) = false := decide_eq_false (by omega)
        by_cases ht : t ∈ l
        · have dt : decide (ix l t ≥ 0) = true := by rw [ix_ge, decide_eq_true ht]
          refine stop 8 (by simp [app1, hf, hp, ht]) (by decide) ?_
          simp only [s13_0, d0, cond_true, cond_false, g0, toNat_cast, i0, d59_mk, pf, pt, kI_mk, df, Bool.not_false, dp1, dp2, dt]
        · have dt : decide (ix l t ≥ 0) = false := by rw [ix_ge, decide_eq_false ht]
          refine next (l.set (l.idxOf f) t) (by simp [app1, hf, hp, ht]) ?_
          simp only [s13_0, d0, cond_true, cond_false, g0, toNat_cast, i0, d59_mk, pf, pt, kI_mk, df, Bool.not_false, dp1, dp2, dt, gf, gf2, jf, w]
          simp only [ix_of hf, toNat_cast, setV]
theorem applyR_ok (l : List Int) (st : List Sp) (hl : l.length ≤ 65536) (hst : st.length ≤ 65536) : pcW cfgB 13 [.sl (l.map iV), .sl (st.map eSp)] = some (.tup [.sl ((applyS l st).2.map iV), .int .i64 (applyS l st).1]) := by
  unfold applyS
  cases h : okB l with
  | false =>
    refine e13_run _ _ ?_ (.refl _)
    unfold e13
    rw [pcK_of (rightR_ok l hl), kB_mk, h]
    rfl
  | true =>
    refine e13_run _ _ (o := .head 0 (T13_0 (st.map eSp) ((0 : Nat) : Int) (l.map iV))) ?_ (applyR_loop st hst st 0 l rfl hl)
    unfold e13
    rw [pcK_of (rightR_ok l hl), kB_mk, h, Bool.not_true, cond_false, gd_of (iV_wfl l), gd_dec (by simp; omega)]
    rfl
end Go.Proofs.Ytnaidbmgibmnbaa

/-
  What the functions hand back: the fourth part.
-/
namespace Go.Proofs.Ytnaidbmgibmnbaa
open Go Go.Lite
set_option linter.unusedSimpArgs false
set_option linter.unusedVariables false

/-! ### Breaks -/

/-- how often, behind a page -/
def brkF (a : Int) : List Int → Nat
  | [] => 0
  | b :: r => (if W .i64 (a + 1) = b then 0 else 1) + brkF b r
theorem brkF_cons (a : Int) : ∀ r : List Int, brk (a :: r) = brkF a r
  | [] => rfl
  | b :: r => by simp only [brk, brkF, brkF_cons b r]
theorem brkF_le : ∀ (a : Int) (r : List Int), brkF a r ≤ r.length
  | _, [] => Nat.le_refl _
  | a, b :: r => by
    have := brkF_le b r
    simp only [brkF, List.length_cons]
    split <;> omega
theorem breaks_loop (l : List Int) (hl : l.length ≤ 65536) : ∀ (r : List Int) (k c : Nat) (a : Int), l.drop (k + 1) = r → l[k]? = some a → c ≤ k →
    Go kcB false 0 fa19 (.head 0 (T19_0 (l.map iV) (c : Int) (l.length : Int) ((k + 1 : Nat) : Int))) (.done (.int .i64 ((c + brkF a r : Nat) : Int))) := by
  intro r
  induction r with
  | nil =>
    intro k c a hr ha hc
    have h1 := drop_nil hr
    refine s19_0_run _ _ _ _ ?_ (.refl _)
    have d0 : decide (((k + 1 : Nat) : Int) < (l.length : Int)) = false := decide_eq_false (by omega)
    simp only [s19_0, d0, cond_false]
    rfl
  | cons b r ih =>
    intro k c a hr ha hc
    obtain ⟨h1, h2, h3⟩ := drop_cons hr
    have w : W .i64 (((k + 1 : Nat) : Int) + 1) = ((k + 1 + 1 : Nat) : Int) := by rw [W_i64 (by omega)]; omega
    have w2 : W .i64 (((k + 1 : Nat) : Int) - 1) = (k : Int) := by rw [W_i64 (by omega)]; omega
    have w3 : W .i64 ((c : Int) + 1) = ((c + 1 : Nat) : Int) := by rw [W_i64 (by omega)]; omega
    have d0 : decide (((k + 1 : Nat) : Int) < (l.length : Int)) = true := decide_eq_true (by omega)
    have d1 : decide (((k + 1 : Nat) : Int) > 0) = true := decide_eq_true (by omega)
    have g0 : gd (decide (0 ≤ ((k + 1 : Nat) : Int))) = fun q => q := by funext q; exact gd_of (by simp; omega)
    have g1 : gd (decide (0 ≤ (k : Int))) = fun q => q := by funext q; exact gd_of (by simp)
    have i0 : idxK (l.map iV) (k + 1) = fun q => q (V.int .i64 b) := by funext q; rw [idxK_iV h1]
    have i1 : idxK (l.map iV) k = fun q => q (V.int .i64 a) := by funext q; rw [idxK_iV ha]
    by_cases e : W .i64 (a + 1) = b
    · refine s19_0_run _ _ _ _ (o := .head 0 (T19_0 (l.map iV) (c : Int) (l.length : Int) ((k + 1 + 1 : Nat) : Int))) ?_ ?_
      · have c0 : (b != W .i64 (a + 1)) = false := ibne_f e.symm
        simp only [s19_0, d0, d1, cond_true, g0, toNat_cast, i0, kI_mk, w2, g1, i1, c0, cond_false, w]
      · have := ih (k + 1) c b h2 h1 (by omega)
        simp only [brkF, if_pos e, Nat.zero_add]
        exact this
    · refine s19_0_run _ _ _ _ (o := .head 0 (T19_0 (l.map iV) ((c + 1 : Nat) : Int) (l.length : Int) ((k + 1 + 1 : Nat) : Int))) ?_ ?_
      · have c0 : (b != W .i64 (a + 1)) = true := ibne_t (fun h => e h.symm)
        simp only [s19_0, d0, d1, cond_true, g0, toNat_cast, i0, kI_mk, w2, g1, i1, c0, w, w3]
      · have := ih (k + 1) (c + 1) b h2 h1 (by omega)
        simp only [brkF, if_neg e, ← Nat.add_assoc]
        exact this
theorem breaks_ok (l : List Int) (hl : l.length ≤ 65536) : pcW cfgB 19 [.sl (l.map iV)] = some (.int .i64 (brk l : Int)) := by
  have en : e19 (l.map iV) = some (.head 0 (T19_0 (l.map iV) ((0 : Nat) : Int) (l.length : Int) ((0 : Nat) : Int))) := by unfold e19; rw [List.length_map]; rfl
  refine e19_run _ en ?_
  cases l with
  | nil =>
    refine s19_0_run _ _ _ _ ?_ (.refl _)
    rfl
  | cons a r =>
    have d0 : decide (((0 : Nat) : Int) < ((a :: r).length : Int)) = true := decide_eq_true (by rw [List.length_cons]; omega)
    refine s19_0_run _ _ _ _ (o := .head 0 (T19_0 ((a :: r).map iV) ((0 : Nat) : Int) ((a :: r).length : Int) ((0 + 1 : Nat) : Int))) ?_ ?_
    · simp only [s19_0, d0, cond_true]
      rfl
    · have := breaks_loop (a :: r) hl r 0 0 a rfl rfl (Nat.le_refl _)
      rw [brkF_cons]
      simpa using this
theorem breaksR_loop (l : List Int) (hl : l.length ≤ 65536) : ∀ (r : List Int) (k c : Nat) (a : Int), l.drop (k + 1) = r → l[k]? = some a → c ≤ k →
    Go kcB false 0 fa20 (.head 0 (T20_0 (l.map iV) (c : Int) ((k + 1 : Nat) : Int))) (.done (.int .i64 ((c + brkF a r : Nat) : Int))) := by
  intro r
  induction r with
  | nil =>
    intro k c a hr ha hc
    have h1 := drop_nil hr
    refine s20_0_run _ _ _ ?_ (.refl _)
    have d0 : decide (((k + 1 : Nat) : Int) < ((l.map iV).length : Int)) = false := decide_eq_false (by simp; omega)
    simp only [s20_0, d0, cond_false]
    rfl
  | cons b r ih =>
    intro k c a hr ha hc
    obtain ⟨h1, h2, h3⟩ := drop_cons hr
    have w : W .i64 (((k + 1 : Nat) : Int) + 1) = ((k + 1 + 1 : Nat) : Int) := by rw [W_i64 (by omega)]; omega
    have w2 : W .i64 (((k + 1 : Nat) : Int) - 1) = (k : Int) := by rw [W_i64 (by omega)]; omega
    have w3 : W .i64 ((c : Int) + 1) = ((c + 1 : Nat) : Int) := by rw [W_i64 (by omega)]; omega
    have d0 : decide (((k + 1 : Nat) : Int) < ((l.map iV).length : Int)) = true := decide_eq_true (by simp; omega)
    have g0 : gd (decide (0 ≤ ((k + 1 : Nat) : Int))) = fun q => q := by funext q; exact gd_of (by simp; omega)
    have g1 : gd (decide (0 ≤ (k : Int))) = fun q => q := by funext q; exact gd_of (by simp)
    have i0 : idxK (l.map iV) (k + 1) = fun q => q (V.int .i64 b) := by funext q; rw [idxK_iV h1]
    have i1 : idxK (l.map iV) k = fun q => q (V.int .i64 a) := by funext q; rw [idxK_iV ha]
    by_cases e : W .i64 (a + 1) = b
    · refine s20_0_run _ _ _ (o := .head 0 (T20_0 (l.map iV) (c : Int) ((k + 1 + 1 : Nat) : Int))) ?_ ?_
      · have c0 : (W .i64 (a + 1) != b) = false := ibne_f e
        simp only [s20_0, d0, cond_true, g0, toNat_cast, i0, kI_mk, w2, g1, i1, c0, cond_false, w]
      · have := ih (k + 1) c b h2 h1 (by omega)
        simp only [brkF, if_pos e, Nat.zero_add]
        exact this
    · refine s20_0_run _ _ _ (o := .head 0 (T20_0 (l.map iV) ((c + 1 : Nat) : Int) ((k + 1 + 1 : Nat) : Int))) ?_ ?_
      · have c0 : (W .i64 (a + 1) != b) = true := ibne_t e
        simp only [s20_0, d0, cond_true, g0, toNat_cast, i0, kI_mk, w2, g1, i1, c0, w, w3]
      · have := ih (k + 1) (c + 1) b h2 h1 (by omega)
        simp only [brkF, if_neg e, ← Nat.add_assoc]
        exact this
theorem breaksR_ok (l : List Int) (hl : l.length ≤ 65536) : pcW cfgB 20 [.sl (l.map iV)] = some (.int .i64 (brk l : Int)) := by
  refine e20_run _ (o := .head 0 (T20_0 (l.map iV) ((0 : Nat) : Int) ((0 + 1 : Nat) : Int))) rfl ?_
  cases l with
  | nil =>
    refine s20_0_run _ _ _ ?_ (.refl _)
    rfl
  | cons a r =>
    have := breaksR_loop (a :: r) hl r 0 0 a rfl rfl (Nat.le_refl _)
    rw [brkF_cons]
    simpa using this

/-! ### alike -/

theorem ints_loop (a b : List Int) (hab : a.length = b.length) (hl : a.length ≤ 65536) : ∀ (r s : List Int) (k : Nat), a.drop k = r → b.drop k = s →
    Go kcB false 0 fa16 (.head 0 (T16_0 (a.map iV) (b.map iV) (k : Int))) (.done (.bool (r == s))) := by
  intro r
  induction r with
  | nil =>
    intro s k hr hs
    have h1 := drop_nil hr
    have : s = [] := by rw [← hs]; exact List.drop_eq_nil_iff.2 (by omega)
    subst this
    refine s16_0_run _ _ _ ?_ (.refl _)
    have d0 : decide ((k : Int) < ((a.map iV).length : Int)) = false := decide_eq_false (by simp; omega)
    simp only [s16_0, d0, cond_false]
    rfl
  | cons x r ih =>
    intro s k hr hs
    obtain ⟨h1, h2, h3⟩ := drop_cons hr
    cases s with
    | nil => have := drop_nil hs; omega
    | cons y s =>
      obtain ⟨h4, h5, h6⟩ := drop_cons hs
      have w : W .i64 ((k : Int) + 1) = ((k + 1 : Nat) : Int) := by rw [W_i64 (by omega)]; omega
      have d0 : decide ((k : Int) < ((a.map iV).length : Int)) = true := decide_eq_true (by simp; omega)
      have g0 : gd (decide (0 ≤ (k : Int))) = fun q => q := by funext q; exact gd_of (by simp)
      have i0 : idxK (a.map iV) k = fun q => q (V.int .i64 x) := by funext q; rw [idxK_iV h1]
      have i1 : idxK (b.map iV) k = fun q => q (V.int .i64 y) := by funext q; rw [idxK_iV h4]
      by_cases e : x = y
      · subst e
        refine s16_0_run _ _ _ (o := .head 0 (T16_0 (a.map iV) (b.map iV) ((k + 1 : Nat) : Int))) ?_ ?_
        · have c0 : (x != x) = false := ibne_f rfl
          simp only [s16_0, d0, cond_true, g0, toNat_cast, i0, i1, kI_mk, c0, cond_false, w]
        · have := ih s (k + 1) h2 h5
          simpa using this
      · refine s16_0_run _ _ _ ?_ (.refl _)
        have c0 : (x != y) = true := ibne_t e
        have e2 : ((x :: r) == (y :: s)) = false := by simp [e]
        simp only [s16_0, d0, cond_true, g0, toNat_cast, i0, i1, kI_mk, c0, e2]
theorem ints_ok (a b : List Int) (hl : a.length ≤ 65536) : pcW cfgB 16 [.sl (a.map iV), .sl (b.map iV)] = some (.bool (a == b)) := by
  by_cases h : a.length = b.length
  · refine e16_run _ _ (o := .head 0 (T16_0 (a.map iV) (b.map iV) ((0 : Nat) : Int))) ?_ (ints_loop a b h hl a b 0 rfl rfl)
    have c0 : (((a.map iV).length : Int) != ((b.map iV).length : Int)) = false := ibne_f (by simp; omega)
    simp only [e16, c0, cond_false]
    rfl
  · refine e16_run _ _ ?_ (.refl _)
    have : (a == b) = false := by
      simp only [beq_eq_false_iff_ne, ne_eq]
      rintro rfl
      exact h rfl
    have c0 : (((a.map iV).length : Int) != ((b.map iV).length : Int)) = true := ibne_t (by simp; omega)
    simp only [e16, c0, cond_true, this]
theorem same_loop (a b : List Sp) (hab : a.length = b.length) (hl : a.length ≤ 65536) : ∀ (r s : List Sp) (k : Nat), a.drop k = r → b.drop k = s →
    Go kcB false 0 fa15 (.head 0 (T15_0 (a.map eSp) (b.map eSp) (k : Int))) (.done (.bool (r == s))) := by
  intro r
  induction r with
  | nil =>
    intro s k hr hs
    have h1 := drop_nil hr
    have : s = [] := by rw [← hs]; exact List.drop_eq_nil_iff.2 (by omega)
    subst this
    refine s15_0_run _ _ _ ?_ (.refl _)
    have d0 : decide ((k : Int) < ((a.map eSp).length : Int)) = false := decide_eq_false (by simp; omega)
    simp only [s15_0, d0, cond_false]
    rfl
  | cons x r ih =>
    intro s k hr hs
    obtain ⟨h1, h2, h3⟩ := drop_cons hr
    cases s with
    | nil => have := drop_nil hs; omega
    | cons y s =>
      obtain ⟨h4, h5, h6⟩ := drop_cons hs
      obtain ⟨x1, x2, x3⟩ := x
      obtain ⟨y1, y2, y3⟩ := y
      have w : W .i64 ((k : Int) + 1) = ((k + 1 : Nat) : Int) := by rw [W_i64 (by omega)]; omega
      have d0 : decide ((k : Int) < ((a.map eSp).length : Int)) = true := decide_eq_true (by simp; omega)
      have g0 : gd (decide (0 ≤ (k : Int))) = fun q => q := by funext q; exact gd_of (by simp)
      have i0 : idxK (a.map eSp) k = fun q => q (V.agg [.int .i64 x1, .int .i64 x2, .bool x3]) := by funext q; rw [idxK_sp h1]
      have i1 : idxK (b.map eSp) k = fun q => q (V.agg [.int .i64 y1, .int .i64 y2, .bool y3]) := by funext q; rw [idxK_sp h4]
      have ee : ((x1 == y1) && ((x2 == y2) && ((x3 == y3) && true))) = ((x1, x2, x3) == (y1, y2, y3)) := by
        rw [Bool.eq_iff_iff]; simp
      by_cases e : ((x1, x2, x3) : Sp) = (y1, y2, y3)
      · refine s15_0_run _ _ _ (o := .head 0 (T15_0 (a.map eSp) (b.map eSp) ((k + 1 : Nat) : Int))) ?_ ?_
        · have c0 : (((x1, x2, x3) : Sp) == (y1, y2, y3)) = true := by simpa using e
          simp only [s15_0, d0, cond_true, g0, toNat_cast, i0, i1, d59_mk, ee, c0, Bool.not_true, cond_false, w]
        · have := ih s (k + 1) h2 h5
          rw [e]
          simpa using this
      · refine s15_0_run _ _ _ ?_ (.refl _)
        have c0 : (((x1, x2, x3) : Sp) == (y1, y2, y3)) = false := by simpa using e
        have e2 : ((((x1, x2, x3) : Sp) :: r) == ((y1, y2, y3) :: s)) = false := by
          simp only [beq_eq_false_iff_ne, ne_eq, List.cons.injEq, not_and]
          exact fun h => (e h).elim
        simp only [s15_0, d0, cond_true, g0, toNat_cast, i0, i1, d59_mk, ee, c0, Bool.not_false, e2]
theorem same_ok (a b : List Sp) (hl : a.length ≤ 65536) : pcW cfgB 15 [.sl (a.map eSp), .sl (b.map eSp)] = some (.bool (a == b)) := by
  by_cases h : a.length = b.length
  · refine e15_run _ _ (o := .head 0 (T15_0 (a.map eSp) (b.map eSp) ((0 : Nat) : Int))) ?_ (same_loop a b h hl a b 0 rfl rfl)
    have c0 : (((a.map eSp).length : Int) != ((b.map eSp).length : Int)) = false := ibne_f (by simp; omega)
    simp only [e15, c0, cond_false]
    rfl
  · refine e15_run _ _ ?_ (.refl _)
    have : (a == b) = false := by
      simp only [beq_eq_false_iff_ne, ne_eq]
      rintro rfl
      exact h rfl
    have c0 : (((a.map eSp).length : Int) != ((b.map eSp).length : Int)) = true := ibne_t (by simp; omega)
    simp only [e15, c0, cond_true, this]
theorem stL_loop (st : List Sp) (hl : st.length ≤ 65536) : ∀ (d k : Nat), k + d = st.length →
    Go kcB false 0 fa14 (.head 0 (T14_0 (st.map eSp) (k : Int) ((st.take k).map eSp))) (.done (.fr 59 (st.map eSp))) := by
  intro d
  induction d with
  | zero =>
    intro k hk
    refine s14_0_run _ _ _ ?_ (.refl _)
    have d0 : decide ((k : Int) < ((st.map eSp).length : Int)) = false := decide_eq_false (by simp; omega)
    have g9 : ∀ q, gd (((st.take k).map eSp).all fun x => x.cells.all V.flat1) q = q := fun q => gd_of (eSp_flat _)
    simp only [s14_0, d0, cond_false, g9]
    rw [List.take_of_length_le (by omega)]
  | succ d ih =>
    intro k hk
    have hkl : k < st.length := by omega
    obtain ⟨⟨x1, x2, x3⟩, hx⟩ : ∃ x, st[k]? = some x := ⟨_, List.getElem?_eq_getElem hkl⟩
    have w : W .i64 ((k : Int) + 1) = ((k + 1 : Nat) : Int) := by rw [W_i64 (by omega)]; omega
    have d0 : decide ((k : Int) < ((st.map eSp).length : Int)) = true := decide_eq_true (by simp; omega)
    have g0 : gd (decide (0 ≤ (k : Int))) = fun q => q := by funext q; exact gd_of (by simp)
    have i0 : idxK (st.map eSp) k = fun q => q (V.agg [.int .i64 x1, .int .i64 x2, .bool x3]) := by funext q; rw [idxK_sp hx]
    have g1 : ∀ v : V, gd (decide (((st.take k).map eSp).length + ([v] : List V).length ≤ 16777216)) = fun q => q := by intro v; funext q; exact gd_of (by simp; omega)
    have e1 : st.take (k + 1) = st.take k ++ [(x1, x2, x3)] := by rw [List.take_add_one, hx]; rfl
    refine s14_0_run _ _ _ (o := .head 0 (T14_0 (st.map eSp) ((k + 1 : Nat) : Int) ((st.take (k + 1)).map eSp))) ?_ (ih (k + 1) (by omega))
    simp only [s14_0, d0, cond_true, g0, toNat_cast, i0, d44_mk, g1, appSp, w, e1]
theorem stL_ok (st : List Sp) (hl : st.length ≤ 65536) : pcW cfgB 14 [.sl (st.map eSp)] = some (.fr 59 (st.map eSp)) :=
  e14_run _ (o := .head 0 (T14_0 (st.map eSp) ((0 : Nat) : Int) ((st.take 0).map eSp))) rfl (stL_loop st hl st.length 0 (by omega))
end Go.Proofs.Ytnaidbmgibmnbaa

/-
  Rounds: what Cycles hands back.
-/
namespace Go.Proofs.Ytnaidbmgibmnbaa
open Go Go.Lite
set_option linter.unusedSimpArgs false
set_option linter.unusedVariables false

def bV (b : Bool) : V := .bool b
theorem idxK_bV {l : List Bool} {n : Nat} {x : Bool} {k : V → R} (h : l[n]? = some x) : idxK (l.map bV) n k = k (.bool x) := idxK_map h
theorem setB (l : List Bool) (j : Nat) (x : Bool) : (l.map bV).set j (.bool x) = (l.set j x).map bV := by rw [List.map_set]; rfl
theorem repB (n : Nat) : List.replicate n (V.bool false) = (List.replicate n false).map bV := by simp [bV]

theorem indexB_loop (l : List Bool) (hl : l.length ≤ 65536) : ∀ (r : List Bool) (k : Nat), l.drop k = r →
    Go kcB false 0 fa35 (.head 0 (T35_0 (l.map bV) false (l.length : Int) (k : Int))) (.done (.int .i64 (fi (fun y => !y) r k))) := by
  intro r
  induction r with
  | nil =>
    intro k hr
    have h1 := drop_nil hr
    refine s35_0_run _ _ _ _ ?_ (.refl _)
    unfold s35_0
    rw [decide_eq_false (by omega)]
    rfl
  | cons y r ih =>
    intro k hr
    obtain ⟨h1, h2, h3⟩ := drop_cons hr
    have w : W .i64 ((k : Int) + 1) = ((k + 1 : Nat) : Int) := by rw [W_i64 (by omega)]; omega
    cases y with
    | false =>
      refine s35_0_run _ _ _ _ ?_ (.refl _)
      unfold s35_0
      rw [decide_eq_true (by omega), cond_true, gd_of (by simp), toNat_cast, idxK_bV h1, kB_mk]
      simp [fi]
    | true =>
      refine s35_0_run _ _ _ _ (o := .head 0 (T35_0 (l.map bV) false (l.length : Int) ((k + 1 : Nat) : Int))) ?_ ?_
      · unfold s35_0
        rw [decide_eq_true (by omega), cond_true, gd_of (by simp), toNat_cast, idxK_bV h1, kB_mk, w]
        rfl
      · have := ih (k + 1) h2
        simp only [fi, Bool.not_true, Bool.false_eq_true, if_false]
        exact this
theorem indexB_ok (l : List Bool) (hl : l.length ≤ 65536) : pcW cfgB 35 [.sl (l.map bV), .bool false] = some (.int .i64 (fi (fun y => !y) l 0)) := by
  refine e35_run _ _ (o := .head 0 (T35_0 (l.map bV) false (l.length : Int) ((0 : Nat) : Int))) ?_ (indexB_loop l hl l 0 rfl)
  unfold e35
  rw [List.length_map]
  rfl
/-- the first one that is not seen -/
theorem fi_first : ∀ (l : List Bool) (k i : Nat), (∀ j, j < i → l[j]? = some true) → l[i]? = some false → fi (fun y => !y) l k = ((k + i : Nat) : Int)
  | [], _, _, _, h => by simp at h
  | x :: l, k, 0, _, h => by
    simp at h
    subst h
    simp [fi]
  | x :: l, k, i + 1, h0, h => by
    have hx := h0 0 (by omega)
    simp at hx
    subst hx
    simp only [fi, Bool.not_true, Bool.false_eq_true, if_false]
    rw [fi_first l (k + 1) i (fun j hj => by have := h0 (j + 1) (by omega); simpa using this) (by simpa using h)]
    congr 1; omega
theorem fi_all : ∀ (l : List Bool) (k : Nat), (∀ j, j < l.length → l[j]? = some true) → fi (fun y => !y) l k = -1
  | [], _, _ => rfl
  | x :: l, k, h0 => by
    have hx := h0 0 (by simp)
    simp at hx
    subst hx
    simp only [fi, Bool.not_true, Bool.false_eq_true, if_false]
    exact fi_all l (k + 1) fun j hj => by have := h0 (j + 1) (by simp; omega); simpa using this

/-- how many are not seen -/
def uns (l : List Bool) : Nat := l.countP fun y => !y
theorem uns_set : ∀ (l : List Bool) (i : Nat), l[i]? = some false → uns l = uns (l.set i true) + 1
  | [], _, h => by simp at h
  | x :: l, 0, h => by
    simp at h
    subst h
    simp [uns]
  | x :: l, i + 1, h => by
    have := uns_set l i (by simpa using h)
    simp only [uns] at this
    simp only [uns, List.set_cons_succ, List.countP_cons, this]
    omega
theorem uns_pos : ∀ (l : List Bool) (i : Nat), l[i]? = some false → 0 < uns l := fun l i h => by rw [uns_set l i h]; omega
theorem uns_le (l : List Bool) : uns l ≤ l.length := List.countP_le_length

theorem nxt_lt {l hs : List Int} (hh : hs.length = l.length) (hin : ∀ x ∈ hs, x ∈ l) {i : Nat} (hi : i < l.length) : ∃ x, hs[i]? = some x ∧ nxt hs l i = l.idxOf x ∧ ix l x = (nxt hs l i : Int) ∧ nxt hs l i < l.length := by
  obtain ⟨x, hx⟩ : ∃ x, hs[i]? = some x := ⟨_, List.getElem?_eq_getElem (by omega)⟩
  have hm := hin x (List.mem_of_getElem? hx)
  refine ⟨x, hx, by simp only [nxt, hx], by simp only [nxt, hx, ix_of hm], by simp only [nxt, hx]; exact idx_lt hm⟩

theorem around_loop {l hs : List Int} (hl : l.length ≤ 65536) (hh : hs.length = l.length) (hin : ∀ x ∈ hs, x ∈ l) (c : Int) : ∀ (m : Nat) (seen : List Bool) (i : Nat), seen.length = l.length → seen[i]? = some false → uns seen ≤ m →
    Go kcB false 0 fa17 (.head 1 (T17_1 (l.map iV) (hs.map iV) c (i : Int) (seen.map bV))) (.head 0 (T17_0 (l.map iV) (hs.map iV) c ((mark (nxt hs l) m seen i).map bV))) := by
  intro m
  induction m with
  | zero => intro seen i hs1 hi hm; have := uns_pos seen i hi; omega
  | succ m ih =>
    intro seen i hs1 hi hm
    have hil := (List.getElem?_eq_some_iff.1 hi).1
    obtain ⟨x, hx, n1, n2, n3⟩ := nxt_lt hh hin (i := i) (by omega)
    have hu := uns_set seen i hi
    have g0 : gd (decide (0 ≤ (i : Int))) = fun q => q := by funext q; exact gd_of (by simp)
    have g1 : gd (decide (i < (seen.map bV).length)) = fun q => q := by funext q; exact gd_of (by simp; omega)
    have i0 : idxK (seen.map bV) i = fun q => q (V.bool false) := by funext q; rw [idxK_bV hi]
    have i1 : idxK (hs.map iV) i = fun q => q (V.int .i64 x) := by funext q; rw [idxK_iV hx]
    have p0 : pcK cfgB 36 [.sl (l.map iV), .int .i64 x] = fun q => q (.int .i64 (nxt hs l i : Int)) := by funext q; rw [pcK_of (index_ok l x hl), n2]
    have g2 : gd (decide (0 ≤ (nxt hs l i : Int))) = fun q => q := by funext q; exact gd_of (by simp)
    have hlen : (seen.set i true).length = l.length := by simp [hs1]
    have g3 : gd (decide (nxt hs l i < ((seen.set i true).map bV).length)) = fun q => q := by funext q; exact gd_of (by simp; omega)
    obtain ⟨b, hb⟩ : ∃ b, (seen.set i true)[nxt hs l i]? = some b := ⟨_, List.getElem?_eq_getElem (by omega)⟩
    have i2 : idxK ((seen.set i true).map bV) (nxt hs l i) = fun q => q (V.bool b) := by funext q; rw [idxK_bV hb]
    have em : mark (nxt hs l) (m + 1) seen i = mark (nxt hs l) m (seen.set i true) (nxt hs l i) := by simp only [mark, if_pos hi]
    cases b with
    | true =>
      have e2 : mark (nxt hs l) m (seen.set i true) (nxt hs l i) = seen.set i true := by
        cases m with
        | zero => rfl
        | succ m => simp only [mark, hb]; rfl
      rw [em, e2]
      refine s17_1_run _ _ _ _ _ ?_ (.refl _)
      simp only [s17_1, g0, toNat_cast, g1, i0, kB_mk, i1, kI_mk, p0, g2, setB, g3, i2, cond_true]
    | false =>
      rw [em]
      refine s17_1_run _ _ _ _ _ (o := .head 1 (T17_1 (l.map iV) (hs.map iV) c (nxt hs l i : Int) ((seen.set i true).map bV))) ?_ (ih (seen.set i true) (nxt hs l i) hlen hb (by omega))
      simp only [s17_1, g0, toNat_cast, g1, i0, kB_mk, i1, kI_mk, p0, g2, setB, g3, i2, cond_false]

theorem begin_loop {l hs : List Int} (hl : l.length ≤ 65536) (hh : hs.length = l.length) (hin : ∀ x ∈ hs, x ∈ l) : ∀ (n i c : Nat) (seen : List Bool), i + n = l.length → seen.length = l.length → (∀ j, j < i → seen[j]? = some true) → c ≤ i →
    Go kcB false 0 fa17 (.head 0 (T17_0 (l.map iV) (hs.map iV) (c : Int) (seen.map bV))) (.done (.int .i64 ((c + cgo (nxt hs l) l.length n i seen : Nat) : Int))) := by
  intro n
  induction n with
  | zero =>
    intro i c seen hi hs1 hall hc
    refine s17_0_run _ _ _ _ ?_ (.refl _)
    have p0 : pcK cfgB 35 [.sl (seen.map bV), .bool false] = fun q => q (.int .i64 (-1)) := by funext q; rw [pcK_of (indexB_ok seen (by omega)), fi_all seen 0 fun j hj => hall j (by omega)]
    simp only [s17_0, p0, kI_mk]
    rfl
  | succ n ih =>
    intro i c seen hi hs1 hall hc
    obtain ⟨b, hb⟩ : ∃ b, seen[i]? = some b := ⟨_, List.getElem?_eq_getElem (by omega)⟩
    cases b with
    | true =>
      have e : cgo (nxt hs l) l.length (n + 1) i seen = cgo (nxt hs l) l.length n (i + 1) seen := by simp only [cgo, hb]; rfl
      rw [e]
      exact ih (i + 1) c seen (by omega) hs1 (fun j hj => by
        by_cases e : j = i
        · subst e; exact hb
        · exact hall j (by omega)) (by omega)
    | false =>
      have e : cgo (nxt hs l) l.length (n + 1) i seen = cgo (nxt hs l) l.length n (i + 1) (mark (nxt hs l) l.length seen i) + 1 := by simp only [cgo, hb, if_true]
      have p0 : pcK cfgB 35 [.sl (seen.map bV), .bool false] = fun q => q (.int .i64 (i : Int)) := by
        funext q; rw [pcK_of (indexB_ok seen (by omega)), fi_first seen 0 i hall hb]; simp
      have w : W .i64 ((c : Int) + 1) = ((c + 1 : Nat) : Int) := by rw [W_i64 (by omega)]; omega
      have d0 : decide ((i : Int) < 0) = false := decide_eq_false (by omega)
      rw [e]
      refine s17_0_run _ _ _ _ (o := .head 1 (T17_1 (l.map iV) (hs.map iV) ((c + 1 : Nat) : Int) (i : Int) (seen.map bV))) ?_ ?_
      · simp only [s17_0, p0, kI_mk, d0, cond_false, w]
      · refine (around_loop hl hh hin ((c + 1 : Nat) : Int) l.length seen i hs1 hb (by have := uns_le seen; omega)).trans ?_
        · have := ih (i + 1) (c + 1) (mark (nxt hs l) l.length seen i) (by omega) (by rw [mark_len]; exact hs1) (fun j hj => by
            by_cases e : j = i
            · subst e
              obtain ⟨m, hm⟩ : ∃ m, l.length = m + 1 := ⟨l.length - 1, by omega⟩
              rw [hm]
              exact mark_self _ _ _ _ hb
            · exact mark_keep _ _ _ _ _ (hall j (by omega))) (by omega)
          rw [show c + (cgo (nxt hs l) l.length n (i + 1) (mark (nxt hs l) l.length seen i) + 1) = c + 1 + cgo (nxt hs l) l.length n (i + 1) (mark (nxt hs l) l.length seen i) by omega]
          exact this

/-! the document's -/

theorem inner_loop {l hs : List Int} (hl : l.length ≤ 65536) (hh : hs.length = l.length) (hin : ∀ x ∈ hs, x ∈ l) (c : Int) (i0 : Nat) : ∀ (m : Nat) (seen : List Bool) (i : Nat), i < l.length → seen.length = l.length → uns seen ≤ m →
    Go kcB false 0 fa18 (.head 1 (T18_1 (l.map iV) (hs.map iV) c (i0 : Int) (i : Int) (seen.map bV))) (.head 0 (T18_0 (l.map iV) (hs.map iV) c (W .i64 ((i0 : Int) + 1)) ((mark (nxt hs l) m seen i).map bV))) := by
  intro m
  induction m with
  | zero =>
    intro seen i hil hs1 hm
    have g0 : gd (decide (0 ≤ (i : Int))) = fun q => q := by funext q; exact gd_of (by simp)
    have g1 : gd (decide (i < (seen.map bV).length)) = fun q => q := by funext q; exact gd_of (by simp; omega)
    have hi : seen[i]? = some true := by
      rcases bools _ (rfl : seen[i]? = seen[i]?) (by omega) with h | h
      · exact h
      · have := uns_pos seen i h; omega
    have i0 : idxK (seen.map bV) i = fun q => q (V.bool true) := by funext q; rw [idxK_bV hi]
    refine s18_1_run _ _ _ _ _ _ ?_ (.refl _)
    simp only [s18_1, g0, toNat_cast, g1, i0, kB_mk, Bool.not_true, cond_false]
    rfl
  | succ m ih =>
    intro seen i hil hs1 hm
    have g0 : gd (decide (0 ≤ (i : Int))) = fun q => q := by funext q; exact gd_of (by simp)
    have g1 : gd (decide (i < (seen.map bV).length)) = fun q => q := by funext q; exact gd_of (by simp; omega)
    rcases bools _ (rfl : seen[i]? = seen[i]?) (by omega) with hi | hi
    · have i0 : idxK (seen.map bV) i = fun q => q (V.bool true) := by funext q; rw [idxK_bV hi]
      have em : mark (nxt hs l) (m + 1) seen i = seen := by simp only [mark, hi]; rfl
      rw [em]
      refine s18_1_run _ _ _ _ _ _ ?_ (.refl _)
      simp only [s18_1, g0, toNat_cast, g1, i0, kB_mk, Bool.not_true, cond_false]
    · obtain ⟨x, hx, n1, n2, n3⟩ := nxt_lt hh hin (i := i) (by omega)
      have hu := uns_set seen i hi
      have i0 : idxK (seen.map bV) i = fun q => q (V.bool false) := by funext q; rw [idxK_bV hi]
      have i1 : idxK (hs.map iV) i = fun q => q (V.int .i64 x) := by funext q; rw [idxK_iV hx]
      have p0 : pcK cfgB 34 [.sl (l.map iV), .int .i64 x] = fun q => q (.int .i64 (nxt hs l i : Int)) := by funext q; rw [pcK_of (find_ok l x hl), n2]
      have em : mark (nxt hs l) (m + 1) seen i = mark (nxt hs l) m (seen.set i true) (nxt hs l i) := by simp only [mark, if_pos hi]
      rw [em]
      refine s18_1_run _ _ _ _ _ _ (o := .head 1 (T18_1 (l.map iV) (hs.map iV) c (_ : Int) (nxt hs l i : Int) ((seen.set i true).map bV))) ?_ (ih (seen.set i true) (nxt hs l i) n3 (by simp [hs1]) (by omega))
      simp only [s18_1, g0, toNat_cast, g1, i0, kB_mk, Bool.not_false, cond_true, i1, kI_mk, p0, setB]
theorem outer_loop {l hs : List Int} (hl : l.length ≤ 65536) (hh : hs.length = l.length) (hin : ∀ x ∈ hs, x ∈ l) : ∀ (n i c : Nat) (seen : List Bool), i + n = l.length → seen.length = l.length → c ≤ i →
    Go kcB false 0 fa18 (.head 0 (T18_0 (l.map iV) (hs.map iV) (c : Int) (i : Int) (seen.map bV))) (.done (.int .i64 ((c + cgo (nxt hs l) l.length n i seen : Nat) : Int))) := by
  intro n
  induction n with
  | zero =>
    intro i c seen hi hs1 hc
    refine s18_0_run _ _ _ _ _ ?_ (.refl _)
    have d0 : decide ((i : Int) < ((l.map iV).length : Int)) = false := decide_eq_false (by simp; omega)
    simp only [s18_0, d0, cond_false]
    rfl
  | succ n ih =>
    intro i c seen hi hs1 hc
    have g0 : gd (decide (0 ≤ (i : Int))) = fun q => q := by funext q; exact gd_of (by simp)
    have g1 : gd (decide (i < (seen.map bV).length)) = fun q => q := by funext q; exact gd_of (by simp; omega)
    have d0 : decide ((i : Int) < ((l.map iV).length : Int)) = true := decide_eq_true (by simp; omega)
    have w0 : W .i64 ((i : Int) + 1) = ((i + 1 : Nat) : Int) := by rw [W_i64 (by omega)]; omega
    have w : W .i64 ((c : Int) + 1) = ((c + 1 : Nat) : Int) := by rw [W_i64 (by omega)]; omega
    have hu := uns_le seen
    obtain ⟨m, hm⟩ : ∃ m, l.length = m + 1 := ⟨l.length - 1, by omega⟩
    rcases bools _ (rfl : seen[i]? = seen[i]?) (by omega) with hb | hb
    · have e : cgo (nxt hs l) l.length (n + 1) i seen = cgo (nxt hs l) l.length n (i + 1) seen := by simp only [cgo, hb]; rfl
      have i0 : idxK (seen.map bV) i = fun q => q (V.bool true) := by funext q; rw [idxK_bV hb]
      rw [e]
      refine s18_0_run _ _ _ _ _ (o := .head 1 (T18_1 (l.map iV) (hs.map iV) (c : Int) (i : Int) (i : Int) (seen.map bV))) ?_ ?_
      · simp only [s18_0, d0, cond_true, g0, toNat_cast, g1, i0, kB_mk, Bool.not_true, cond_false]
      · have em : mark (nxt hs l) l.length seen i = seen := by rw [hm]; simp only [mark, hb]; rfl
        have h1 := inner_loop hl hh hin (c : Int) i l.length seen i (by omega) hs1 (by omega)
        rw [em, w0] at h1
        exact h1.trans (ih (i + 1) c seen (by omega) hs1 (by omega))
    · have e : cgo (nxt hs l) l.length (n + 1) i seen = cgo (nxt hs l) l.length n (i + 1) (mark (nxt hs l) l.length seen i) + 1 := by simp only [cgo, hb, if_true]
      have i0 : idxK (seen.map bV) i = fun q => q (V.bool false) := by funext q; rw [idxK_bV hb]
      rw [e]
      refine s18_0_run _ _ _ _ _ (o := .head 1 (T18_1 (l.map iV) (hs.map iV) ((c + 1 : Nat) : Int) (i : Int) (i : Int) (seen.map bV))) ?_ ?_
      · simp only [s18_0, d0, cond_true, g0, toNat_cast, g1, i0, kB_mk, Bool.not_false, w]
      · have h1 := inner_loop hl hh hin ((c + 1 : Nat) : Int) i l.length seen i (by omega) hs1 (by omega)
        rw [w0] at h1
        have := ih (i + 1) (c + 1) (mark (nxt hs l) l.length seen i) (by omega) (by rw [mark_len]; exact hs1) (by omega)
        rw [show c + (cgo (nxt hs l) l.length n (i + 1) (mark (nxt hs l) l.length seen i) + 1) = c + 1 + cgo (nxt hs l) l.length n (i + 1) (mark (nxt hs l) l.length seen i) by omega]
        exact h1.trans this

theorem cycles_ok (l : List Int) (hl : l.length ≤ 65536) : pcW cfgB 17 [.sl (l.map iV)] = some (.int .i64 (cyc l)) := by
  unfold cyc
  cases h : okB l with
  | false =>
    refine e17_run _ ?_ (.refl _)
    unfold e17
    rw [pcK_of (right_ok l hl), kB_mk, h]
    rfl
  | true =>
    have := begin_loop (l := l) (hs := srt l) hl (srt_len l) (fun x hx => srt_mem.1 hx) l.length 0 0 (List.replicate l.length false) (by omega) (by simp) (fun j hj => by omega) (by omega)
    refine e17_run _ (o := .head 0 (T17_0 (l.map iV) ((srt l).map iV) ((0 : Nat) : Int) ((List.replicate l.length false).map bV))) ?_ ?_
    · unfold e17
      rw [pcK_of (right_ok l hl), kB_mk, h, Bool.not_true, cond_false, pcK_of (sorted_ok l hl), kL_mk, gd_of (by simp), gd_of (by simp), gd_of (by simp; omega), List.length_map, toNat_cast, repB]
      rfl
    · rw [Nat.zero_add] at this
      exact this
theorem cyclesR_ok (l : List Int) (hl : l.length ≤ 65536) : pcW cfgB 18 [.sl (l.map iV)] = some (.int .i64 (cyc l)) := by
  unfold cyc
  cases h : okB l with
  | false =>
    refine e18_run _ ?_ (.refl _)
    unfold e18
    rw [pcK_of (rightR_ok l hl), kB_mk, h]
    rfl
  | true =>
    have := outer_loop (l := l) (hs := srt l) hl (srt_len l) (fun x hx => srt_mem.1 hx) l.length 0 0 (List.replicate l.length false) (by omega) (by simp) (by omega)
    refine e18_run _ (o := .head 0 (T18_0 (l.map iV) ((srt l).map iV) ((0 : Nat) : Int) ((0 : Nat) : Int) ((List.replicate l.length false).map bV))) ?_ ?_
    · unfold e18
      rw [pcK_of (rightR_ok l hl), kB_mk, h, Bool.not_true, cond_false, pcK_of (rise_ok l hl), kF_mk, riseT_srt h, gd_of (by simp), gd_of (by simp), gd_of (by simp; omega), List.length_map, toNat_cast, repB]
      rfl
    · rw [Nat.zero_add] at this
      exact this
end Go.Proofs.Ytnaidbmgibmnbaa
