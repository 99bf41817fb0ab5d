/-
  What the functions hand back: the first part.
-/
import Derived.Test.YtnaidbmgibmnbaaM8
import Derived.Test.YtnaidbmgibmnbaaMA
namespace Go.Proofs.Ytnaidbmgibmnbaa
open Go Go.Lite
set_option linter.unusedSimpArgs false
set_option linter.unusedVariables false

theorem right_ok (l : List Int) (hl : l.length ≤ 65536) : pcW cfgB 23 [.sl (l.map iV)] = some (.bool (okB l)) :=
  pcW_prim (cfg := cfgB) (g := rightP) rfl (by simp only [rightP, intsOf_iV, Option.bind_some, if_pos hl])
theorem clone_ok (l : List Int) (hl : l.length ≤ 65536) : pcW cfgB 26 [.sl (l.map iV)] = some (.fr 3 (l.map iV)) :=
  pcW_prim (cfg := cfgB) (g := cloneP 3 1) rfl (by simp only [cloneP]; rw [if_pos ⟨iV_wfl l, iV_flat l, by simp; omega⟩])
theorem sorted_ok (l : List Int) (hl : l.length ≤ 65536) : pcW cfgB 24 [.fn 42 [.ref (.sl (l.map iV)) 0]] = some (.sl ((srt l).map iV)) := by
  refine e24_done _ ?_
  unfold e24
  rw [intsOf_iV, opt_mk, gd_dec (by omega), gd_dec (by simp; omega), intsOf_iV, opt_mk]

theorem index_loop (l : List Int) (x : Int) (hl : l.length ≤ 65536) : ∀ (r : List Int) (k : Nat), l.drop k = r →
    Go kcB false 0 fa36 (.head 0 (T36_0 (l.map iV) x (l.length : Int) (k : Int))) (.done (.int .i64 (fi (fun y => x == y) r k))) := by
  intro r
  induction r with
  | nil =>
    intro k hr
    have h1 := drop_nil hr
    refine s36_0_run _ _ _ _ ?_ (.refl _)
    unfold s36_0
    rw [decide_eq_false (by omega)]
    rfl
  | cons y r ih =>
    intro k hr
    obtain ⟨h1, h2, h3⟩ := drop_cons hr
    have w : W .i64 ((k : Int) + 1) = ((k + 1 : Nat) : Int) := by rw [W_i64 (by omega)]; omega
    cases hx : (x == y) with
    | true =>
      refine s36_0_run _ _ _ _ ?_ (.refl _)
      unfold s36_0
      rw [decide_eq_true (by omega), cond_true, gd_of (by simp), toNat_cast, idxK_iV h1, kI_mk, hx]
      simp [fi, hx]
    | false =>
      refine s36_0_run _ _ _ _ (o := .head 0 (T36_0 (l.map iV) x (l.length : Int) ((k + 1 : Nat) : Int))) ?_ ?_
      · unfold s36_0
        rw [decide_eq_true (by omega), cond_true, gd_of (by simp), toNat_cast, idxK_iV h1, kI_mk, hx, w]
        rfl
      · have := ih (k + 1) h2
        simp only [fi, hx, Bool.false_eq_true, if_false]
        exact this
theorem index_ok (l : List Int) (x : Int) (hl : l.length ≤ 65536) : pcW cfgB 36 [.sl (l.map iV), .int .i64 x] = some (.int .i64 (ix l x)) := by
  have := e36_run (l.map iV) x (o := .head 0 (T36_0 (l.map iV) x (l.length : Int) ((0 : Nat) : Int))) (by unfold e36; rw [List.length_map]; rfl) (index_loop l x hl l 0 rfl)
  rw [this, fi_idx]
  simp [ix]
theorem find_loop (l : List Int) (x : Int) (hl : l.length ≤ 65536) : ∀ (r : List Int) (k : Nat), l.drop k = r →
    Go kcB false 0 fa34 (.head 0 (T34_0 (l.map iV) x (k : Int))) (.done (.int .i64 (fi (fun y => x == y) r k))) := by
  intro r
  induction r with
  | nil =>
    intro k hr
    have h1 := drop_nil hr
    refine s34_0_run _ _ _ ?_ (.refl _)
    unfold s34_0
    rw [List.length_map, decide_eq_false (by omega)]
    rfl
  | cons y r ih =>
    intro k hr
    obtain ⟨h1, h2, h3⟩ := drop_cons hr
    have w : W .i64 ((k : Int) + 1) = ((k + 1 : Nat) : Int) := by rw [W_i64 (by omega)]; omega
    have hc : (y == x) = (x == y) := by rw [Bool.eq_iff_iff]; simp; exact eq_comm
    cases hx : (x == y) with
    | true =>
      refine s34_0_run _ _ _ ?_ (.refl _)
      unfold s34_0
      rw [List.length_map, decide_eq_true (by omega), cond_true, gd_of (by simp), toNat_cast, idxK_iV h1, kI_mk, hc, hx]
      simp [fi, hx]
    | false =>
      refine s34_0_run _ _ _ (o := .head 0 (T34_0 (l.map iV) x ((k + 1 : Nat) : Int))) ?_ ?_
      · unfold s34_0
        rw [List.length_map, decide_eq_true (by omega), cond_true, gd_of (by simp), toNat_cast, idxK_iV h1, kI_mk, hc, hx, w]
        rfl
      · have := ih (k + 1) h2
        simp only [fi, hx, Bool.false_eq_true, if_false]
        exact this
theorem find_ok (l : List Int) (x : Int) (hl : l.length ≤ 65536) : pcW cfgB 34 [.sl (l.map iV), .int .i64 x] = some (.int .i64 (ix l x)) := by
  have := e34_run (l.map iV) x (o := .head 0 (T34_0 (l.map iV) x ((0 : Nat) : Int))) (by unfold e34; rfl) (find_loop l x hl l 0 rfl)
  rw [this, fi_idx]
  simp [ix]
theorem page_ok (n : Int) : pcW cfgB 31 [.int .i64 n] = some (.bool (pgB n)) := by
  refine e31_done _ ?_
  unfold e31 pgB
  by_cases h : 0 ≤ n
  · rw [decide_eq_true h]; rfl
  · rw [decide_eq_false h]; rfl
theorem homeS_ok (hs : List Int) (k : Nat) (x : Int) (h : hs[k]? = some x) : pcW cfgB 27 [.int .i64 (k : Int), .ref (.sl (hs.map iV)) 0] = some (.int .i64 x) := by
  refine e27_done _ _ ?_
  unfold e27
  rw [gd_of (by simp), toNat_cast, idxK_iV h, kI_mk]
theorem homeI_ok (b : Int) (k : Nat) (h : -9223372036854775808 ≤ b + k ∧ b + k < 9223372036854775808) : pcW cfgB 32 [.int .i64 (k : Int), .ref (.int .i64 b) 0] = some (.int .i64 (b + k)) := by
  refine e32_done _ _ ?_
  unfold e32
  rw [W_i64 h]

/-! ### run -/

theorem ix_ge (l : List Int) (x : Int) : decide (ix l x ≥ 0) = decide (x ∈ l) := by
  rw [decide_eq_decide]
  by_cases h : x ∈ l
  · rw [ix_of h]; simp [h]
  · have := ix_neg.2 h; simp [h]; omega

theorem runa_loop (hs : List Int) (n : Nat) (hn : n ≤ 65536) (hh : hs.length = n) : ∀ (d k : Nat) (l : List Int) (out : List Sp), k + d = n → l.length = n → out.length ≤ k →
    Go kcB true 4 fa28 (.head 0 (T28a_0 (n : Int) (k : Int) (hs.map iV) (l.map iV) (out.map eSp)))
      (.doneM (.own 6) [.row 44 [] 0, .row 3 [] 0, .box 22 (.sl (hs.map iV)) false, .row 3 ((rgo hs d k l).1.map iV) 0, .box 53 (.agg [.tail 3 0, .fn 27 [.ptr 2 0 0]]) false, .row 44 [] 0, .row 44 ((out ++ (rgo hs d k l).2).map eSp) 0]) := by
  intro d
  induction d with
  | zero =>
    intro k l out hk hl ho
    refine s28a_0_run _ _ _ _ _ ?_ (.refl _)
    unfold s28a_0
    rw [decide_eq_false (by omega)]
    simp [rgo]
  | succ d ih =>
    intro k l out hk hl ho
    have hkl : k < l.length := by omega
    obtain ⟨a, ha⟩ : ∃ a, l[k]? = some a := ⟨l[k], List.getElem?_eq_getElem hkl⟩
    obtain ⟨h, hh'⟩ : ∃ h, hs[k]? = some h := ⟨hs[k]'(by omega), List.getElem?_eq_getElem (by omega)⟩
    have w : W .i64 ((k : Int) + 1) = ((k + 1 : Nat) : Int) := by rw [W_i64 (by omega)]; omega
    have i0 : idxK (l.map iV) (0 + k) = fun q => q (V.int .i64 a) := by funext q; rw [Nat.zero_add, idxK_iV ha]
    by_cases e : a = h
    · have r1 : rstep hs k l = (l, []) := by simp only [rstep, ha, hh', if_pos e]
      refine s28a_0_run _ _ _ _ _ (o := .head 0 (T28a_0 (n : Int) ((k + 1 : Nat) : Int) (hs.map iV) (l.map iV) (out.map eSp))) ?_ ?_
      · unfold s28a_0
        rw [decide_eq_true (by omega), cond_true, pcK_of (homeS_ok hs k h hh'), kI_mk, gd_of (by simp), toNat_cast, gd_dec (by simp; omega), i0]
        simp only [kI_mk]
        rw [ibeq_t e, cond_true, w]
      · have := ih (k + 1) l out (by omega) hl (by omega)
        simp only [rgo, r1, List.nil_append]
        exact this
    · by_cases hm : h ∈ l
      · have hj := idx_lt hm
        have r1 : rstep hs k l = ((l.set (l.idxOf h) a).set k h, [(a, h, true)]) := by simp only [rstep, ha, hh', if_neg e, if_pos hm]
        have hlen : ((l.set (l.idxOf h) a).set k h).length = n := by simp [hl]
        refine s28a_0_run _ _ _ _ _ (o := .head 0 (T28a_0 (n : Int) ((k + 1 : Nat) : Int) (hs.map iV) (((l.set (l.idxOf h) a).set k h).map iV) ((out ++ [(a, h, true)]).map eSp))) ?_ ?_
        · unfold s28a_0
          have hd : decide (ix l h ≥ 0) = true := by rw [ix_ge, decide_eq_true hm]
          have i1 : idxK (l.map iV) (0 + l.idxOf h) = fun q => q (V.int .i64 h) := by funext q; rw [Nat.zero_add, idxK_iV (idx_get hm)]
          obtain ⟨y, hy⟩ : ∃ y, (l.set (l.idxOf h) a)[k]? = some y := ⟨_, List.getElem?_eq_getElem (by simp; omega)⟩
          have i2 : idxK ((l.map iV).set (0 + l.idxOf h) (V.int .i64 a)) (0 + k) = fun q => q (V.int .i64 y) := by funext q; rw [Nat.zero_add, Nat.zero_add, setV, idxK_iV hy]
          rw [decide_eq_true (by omega), cond_true, pcK_of (homeS_ok hs k h hh'), kI_mk, gd_of (by simp), toNat_cast, gd_dec (by simp; omega), i0]
          simp only [kI_mk]
          rw [ibeq_f e, cond_false, pcK_of (index_ok l h (by omega))]
          simp only [kI_mk, hd, cond_true]
          rw [gd_of (by simp), gd_dec (by simp; omega)]
          rw [gd_dec (by simp; omega), gd_of (by simp), gd_dec (by simp; omega), ix_of hm]
          simp only [kI_mk, toNat_cast]
          rw [gd_of (by simp), gd_dec (by simp; omega), i1]
          simp only [kI_mk]
          rw [gd_of (by simp), gd_dec (by simp; omega), i2]
          simp only [kI_mk, Nat.zero_add, setV, appSp, w]
        · have := ih (k + 1) _ (out ++ [(a, h, true)]) (by omega) hlen (by simp; omega)
          simp only [rgo, r1]
          rw [← List.append_assoc]
          exact this
      · have r1 : rstep hs k l = (l.set k h, [(a, h, false)]) := by simp only [rstep, ha, hh', if_neg e, if_neg hm]
        have hlen : (l.set k h).length = n := by simp [hl]
        refine s28a_0_run _ _ _ _ _ (o := .head 0 (T28a_0 (n : Int) ((k + 1 : Nat) : Int) (hs.map iV) ((l.set k h).map iV) ((out ++ [(a, h, false)]).map eSp))) ?_ ?_
        · unfold s28a_0
          have hd : decide (ix l h ≥ 0) = false := by rw [ix_ge, decide_eq_false hm]
          rw [decide_eq_true (by omega), cond_true, pcK_of (homeS_ok hs k h hh'), kI_mk, gd_of (by simp), toNat_cast, gd_dec (by simp; omega), i0]
          simp only [kI_mk]
          rw [ibeq_f e, cond_false, pcK_of (index_ok l h (by omega))]
          simp only [kI_mk, hd, cond_false]
          rw [gd_of (by simp), gd_dec (by simp; omega)]
          rw [gd_dec (by simp; omega), gd_of (by simp), gd_dec (by simp; omega)]
          simp only [kI_mk, Nat.zero_add, setV, appSp, w]
        · have := ih (k + 1) _ (out ++ [(a, h, false)]) (by omega) hlen (by simp; omega)
          simp only [rgo, r1]
          rw [← List.append_assoc]
          exact this
theorem runa_ok (hs l : List Int) (hn : l.length ≤ 65536) (hh : hs.length = l.length) :
    icW cfgB 28 [.agg [.own 3, .fn 27 [.ptr 2 0 0]]] [.row 44 [] 0, .row 3 [] 0, .box 22 (.sl (hs.map iV)) false, .row 3 (l.map iV) 0] =
      some (.own 6, [.row 44 [] 0, .row 3 [] 0, .box 22 (.sl (hs.map iV)) false, .row 3 ((rgo hs l.length 0 l).1.map iV) 0, .box 53 (.agg [.tail 3 0, .fn 27 [.ptr 2 0 0]]) false, .row 44 [] 0, .row 44 ((rgo hs l.length 0 l).2.map eSp) 0]) := by
  refine e28a_run _ _ (o := .head 0 (T28a_0 (l.length : Int) ((0 : Nat) : Int) (hs.map iV) (l.map iV) (([] : List Sp).map eSp))) ?_ ?_
  · unfold e28a
    rw [List.length_map]
    rfl
  · have := runa_loop hs l.length hn hh l.length 0 l [] (by omega) rfl (by simp)
    simpa using this
/-- side by side -/
def hsI (b : Int) (n : Nat) : List Int := (List.range n).map fun (i : Nat) => b + (i : Int)
theorem hsI_len (b : Int) (n : Nat) : (hsI b n).length = n := by simp [hsI]
theorem hsI_get (b : Int) {n k : Nat} (h : k < n) : (hsI b n)[k]? = some (b + k) := by simp [hsI, h]
theorem runb_loop (b : Int) (hb : 0 ≤ b ∧ b < 1024) (n : Nat) (hn : n ≤ 65536) : ∀ (d k : Nat) (l : List Int) (out : List Sp), k + d = n → l.length = n → out.length ≤ k →
    Go kcB true 3 fa28 (.head 0 (T28b_0 (n : Int) (k : Int) b (l.map iV) (out.map eSp)))
      (.doneM (.own 5) [.box 3 (.int .i64 b) false, .row 44 [] 0, .row 3 ((rgo (hsI b n) d k l).1.map iV) 0, .box 53 (.agg [.tail 2 0, .fn 32 [.ptr 0 0 0]]) false, .row 44 [] 0, .row 44 ((out ++ (rgo (hsI b n) d k l).2).map eSp) 0]) := by
  intro d
  induction d with
  | zero =>
    intro k l out hk hl ho
    refine s28b_0_run _ _ _ _ _ ?_ (.refl _)
    unfold s28b_0
    rw [decide_eq_false (by omega)]
    simp [rgo]
  | succ d ih =>
    intro k l out hk hl ho
    have hkl : k < l.length := by omega
    obtain ⟨a, ha⟩ : ∃ a, l[k]? = some a := ⟨l[k], List.getElem?_eq_getElem hkl⟩
    obtain ⟨h, hbk⟩ : ∃ h : Int, h = b + k := ⟨_, rfl⟩
    have hh' : (hsI b n)[k]? = some h := by rw [hbk]; exact hsI_get b (by omega)
    have hho : pcW cfgB 32 [.int .i64 (k : Int), .ref (.int .i64 b) 0] = some (.int .i64 h) := by rw [hbk]; exact homeI_ok b k (by omega)
    have w : W .i64 ((k : Int) + 1) = ((k + 1 : Nat) : Int) := by rw [W_i64 (by omega)]; omega
    have i0 : idxK (l.map iV) (0 + k) = fun q => q (V.int .i64 a) := by funext q; rw [Nat.zero_add, idxK_iV ha]
    by_cases e : a = h
    · have r1 : rstep (hsI b n) k l = (l, []) := by simp only [rstep, ha, hh', if_pos e]
      refine s28b_0_run _ _ _ _ _ (o := .head 0 (T28b_0 (n : Int) ((k + 1 : Nat) : Int) b (l.map iV) (out.map eSp))) ?_ ?_
      · unfold s28b_0
        rw [decide_eq_true (by omega), cond_true, pcK_of hho, kI_mk, gd_of (by simp), toNat_cast, gd_dec (by simp; omega), i0]
        simp only [kI_mk]
        rw [ibeq_t e, cond_true, w]
      · have := ih (k + 1) l out (by omega) hl (by omega)
        simp only [rgo, r1, List.nil_append]
        exact this
    · by_cases hm : h ∈ l
      · have hj := idx_lt hm
        have r1 : rstep (hsI b n) k l = ((l.set (l.idxOf h) a).set k h, [(a, h, true)]) := by simp only [rstep, ha, hh', if_neg e, if_pos hm]
        have hlen : ((l.set (l.idxOf h) a).set k h).length = n := by simp [hl]
        refine s28b_0_run _ _ _ _ _ (o := .head 0 (T28b_0 (n : Int) ((k + 1 : Nat) : Int) b (((l.set (l.idxOf h) a).set k h).map iV) ((out ++ [(a, h, true)]).map eSp))) ?_ ?_
        · unfold s28b_0
          have hd : decide (ix l h ≥ 0) = true := by rw [ix_ge, decide_eq_true hm]
          have i1 : idxK (l.map iV) (0 + l.idxOf h) = fun q => q (V.int .i64 h) := by funext q; rw [Nat.zero_add, idxK_iV (idx_get hm)]
          obtain ⟨y, hy⟩ : ∃ y, (l.set (l.idxOf h) a)[k]? = some y := ⟨_, List.getElem?_eq_getElem (by simp; omega)⟩
          have i2 : idxK ((l.map iV).set (0 + l.idxOf h) (V.int .i64 a)) (0 + k) = fun q => q (V.int .i64 y) := by funext q; rw [Nat.zero_add, Nat.zero_add, setV, idxK_iV hy]
          rw [decide_eq_true (by omega), cond_true, pcK_of hho, kI_mk, gd_of (by simp), toNat_cast, gd_dec (by simp; omega), i0]
          simp only [kI_mk]
          rw [ibeq_f e, cond_false, pcK_of (index_ok l h (by omega))]
          simp only [kI_mk, hd, cond_true]
          rw [gd_of (by simp), gd_dec (by simp; omega)]
          rw [gd_dec (by simp; omega), gd_of (by simp), gd_dec (by simp; omega), ix_of hm]
          simp only [kI_mk, toNat_cast]
          rw [gd_of (by simp), gd_dec (by simp; omega), i1]
          simp only [kI_mk]
          rw [gd_of (by simp), gd_dec (by simp; omega), i2]
          simp only [kI_mk, Nat.zero_add, setV, appSp, w]
        · have := ih (k + 1) _ (out ++ [(a, h, true)]) (by omega) hlen (by simp; omega)
          simp only [rgo, r1]
          rw [← List.append_assoc]
          exact this
      · have r1 : rstep (hsI b n) k l = (l.set k h, [(a, h, false)]) := by simp only [rstep, ha, hh', if_neg e, if_neg hm]
        have hlen : (l.set k h).length = n := by simp [hl]
        refine s28b_0_run _ _ _ _ _ (o := .head 0 (T28b_0 (n : Int) ((k + 1 : Nat) : Int) b ((l.set k h).map iV) ((out ++ [(a, h, false)]).map eSp))) ?_ ?_
        · unfold s28b_0
          have hd : decide (ix l h ≥ 0) = false := by rw [ix_ge, decide_eq_false hm]
          rw [decide_eq_true (by omega), cond_true, pcK_of hho, kI_mk, gd_of (by simp), toNat_cast, gd_dec (by simp; omega), i0]
          simp only [kI_mk]
          rw [ibeq_f e, cond_false, pcK_of (index_ok l h (by omega))]
          simp only [kI_mk, hd, cond_false]
          rw [gd_of (by simp), gd_dec (by simp; omega)]
          rw [gd_dec (by simp; omega), gd_of (by simp), gd_dec (by simp; omega)]
          simp only [kI_mk, Nat.zero_add, setV, appSp, w]
        · have := ih (k + 1) _ (out ++ [(a, h, false)]) (by omega) hlen (by simp; omega)
          simp only [rgo, r1]
          rw [← List.append_assoc]
          exact this
theorem runb_ok (b : Int) (hb : 0 ≤ b ∧ b < 1024) (l : List Int) (hn : l.length ≤ 65536) :
    icW cfgB 28 [.agg [.own 2, .fn 32 [.ptr 0 0 0]]] [.box 3 (.int .i64 b) false, .row 44 [] 0, .row 3 (l.map iV) 0] =
      some (.own 5, [.box 3 (.int .i64 b) false, .row 44 [] 0, .row 3 ((rgo (hsI b l.length) l.length 0 l).1.map iV) 0, .box 53 (.agg [.tail 2 0, .fn 32 [.ptr 0 0 0]]) false, .row 44 [] 0, .row 44 ((rgo (hsI b l.length) l.length 0 l).2.map eSp) 0]) := by
  refine e28b_run _ _ (o := .head 0 (T28b_0 (l.length : Int) ((0 : Nat) : Int) b (l.map iV) (([] : List Sp).map eSp))) ?_ ?_
  · unfold e28b
    rw [List.length_map]
    rfl
  · have := runb_loop b hb l.length hn l.length 0 l [] (by omega) rfl (by simp)
    simpa using this
end Go.Proofs.Ytnaidbmgibmnbaa

/-
  What the functions hand back: the second part.
-/
namespace Go.Proofs.Ytnaidbmgibmnbaa
open Go Go.Lite
set_option linter.unusedSimpArgs false
set_option linter.unusedVariables false

/-! ### the document's -/

def rR (l : List Int) : Nat → List Int → Bool
  | _, [] => true
  | k, x :: r => pgB x && ((ix l x == (k : Int)) && rR l (k + 1) r)
theorem rR_iff (l : List Int) : ∀ (r : List Int) (k : Nat), l.drop k = r → (rR l k r = true ↔ (∀ x ∈ r, 0 ≤ x ∧ x < 1024) ∧ ∀ j x, k ≤ j → l[j]? = some x → l.idxOf x = j)
  | [], k, h => by
    have := drop_nil h
    simp only [rR, true_iff]
    refine ⟨by simp, fun j x hj hx => ?_⟩
    have := (List.getElem?_eq_some_iff.1 hx).1
    omega
  | x :: r, k, h => by
    obtain ⟨h1, h2, h3⟩ := drop_cons h
    have hm : x ∈ l := List.mem_of_getElem? h1
    have := rR_iff l r (k + 1) h2
    simp only [rR, Bool.and_eq_true, this, pgB, decide_eq_true_eq, beq_iff_eq, ix_of hm]
    constructor
    · rintro ⟨a1, a2, a3, a4⟩
      refine ⟨fun y hy => ?_, fun j y hj hy => ?_⟩
      · rcases List.mem_cons.1 hy with rfl | hy
        · exact a1
        · exact a3 y hy
      · by_cases e : j = k
        · subst e
          rw [h1] at hy
          cases hy
          omega
        · exact a4 j y (by omega) hy
    · rintro ⟨a1, a2⟩
      exact ⟨a1 x (by simp), by rw [a2 k x (Nat.le_refl _) h1], fun y hy => a1 y (by simp [hy]), fun j y hj hy => a2 j y (by omega) hy⟩
theorem rR_ok (l : List Int) : (rR l 0 l && decide (l.length ≤ 512)) = okB l := by
  rw [Bool.eq_iff_iff, Bool.and_eq_true, rR_iff l l 0 rfl, okB_iff, decide_eq_true_eq]
  constructor
  · rintro ⟨⟨h1, h2⟩, h3⟩
    refine ⟨h3, h1, List.pairwise_iff_getElem.2 fun i j hi hj hij e => ?_⟩
    have a := h2 i l[i] (by omega) (List.getElem?_eq_getElem hi)
    have b := h2 j l[j] (by omega) (List.getElem?_eq_getElem hj)
    rw [e] at a
    omega
  · rintro ⟨h1, h2, h3⟩
    exact ⟨⟨h2, fun j x _ hx => idx_at h3 hx⟩, h1⟩
theorem rightR_loop (l : List Int) (hl : l.length ≤ 65536) : ∀ (r : List Int) (k : Nat), l.drop k = r →
    Go kcB false 0 fa22 (.head 0 (T22_0 (l.map iV) (k : Int))) (.done (.bool (rR l k r && decide (l.length ≤ 512)))) := by
  intro r
  induction r with
  | nil =>
    intro k hr
    have h1 := drop_nil hr
    refine s22_0_run _ _ ?_ (.refl _)
    unfold s22_0
    rw [List.length_map, decide_eq_false (by omega), decide_eq_decide.2 (show (l.length : Int) ≤ 512 ↔ l.length ≤ 512 by omega)]
    rfl
  | cons x r ih =>
    intro k hr
    obtain ⟨h1, h2, h3⟩ := drop_cons hr
    have w : W .i64 ((k : Int) + 1) = ((k + 1 : Nat) : Int) := by rw [W_i64 (by omega)]; omega
    have i0 : idxK (l.map iV) k = fun q => q (V.int .i64 x) := by funext q; rw [idxK_iV h1]
    have g0 : gd (decide (0 ≤ (k : Int))) = fun q => q := by funext q; exact gd_of (by simp)
    by_cases c : 0 ≤ x ∧ x < 1024 ∧ ix l x = k
    · obtain ⟨c1, c2, c3⟩ := c
      refine s22_0_run _ _ (o := .head 0 (T22_0 (l.map iV) ((k + 1 : Nat) : Int))) ?_ ?_
      · unfold s22_0
        rw [List.length_map, decide_eq_true (show (k : Int) < (l.length : Int) by omega), cond_true, g0, toNat_cast, i0]
        simp only [kI_mk]
        rw [decide_eq_false (show ¬ x < 0 by omega), cond_false, decide_eq_false (show ¬ x > 1023 by omega), cond_false, pcK_of (find_ok l x hl), kI_mk, ibne_f c3, cond_false, w]
      · have := ih (k + 1) h2
        have e1 : pgB x = true := by simp [pgB]; omega
        have e2 : (ix l x == (k : Int)) = true := ibeq_t c3
        simp only [rR, e1, e2, Bool.true_and]
        exact this
    · refine s22_0_run _ _ ?_ (.refl _)
      have e0 : rR l k (x :: r) = false := by
        simp only [rR]
        by_cases d1 : 0 ≤ x ∧ x < 1024
        · have e2 : (ix l x == (k : Int)) = false := ibeq_f (by omega)
          rw [e2]; simp
        · have e1 : pgB x = false := by simp [pgB]; omega
          rw [e1]; rfl
      rw [e0]
      unfold s22_0
      rw [List.length_map, decide_eq_true (show (k : Int) < (l.length : Int) by omega), cond_true, g0, toNat_cast, i0]
      simp only [kI_mk]
      by_cases d1 : x < 0
      · rw [decide_eq_true d1]; rfl
      rw [decide_eq_false d1, cond_false]
      by_cases d2 : x > 1023
      · rw [decide_eq_true d2]; rfl
      rw [decide_eq_false d2, cond_false, pcK_of (find_ok l x hl), kI_mk, ibne_t (by omega)]
      rfl
theorem rightR_ok (l : List Int) (hl : l.length ≤ 65536) : pcW cfgB 22 [.sl (l.map iV)] = some (.bool (okB l)) := by
  rw [← rR_ok]
  exact e22_run _ (o := .head 0 (T22_0 (l.map iV) ((0 : Nat) : Int))) rfl (rightR_loop l hl l 0 rfl)

/-- pages that are there, from 0 on -/
def riseT (l : List Int) (n : Nat) : List Int := ((List.range n).filter fun (p : Nat) => decide ((p : Int) ∈ l)).map fun (p : Nat) => (p : Int)
theorem riseT_succ (l : List Int) (n : Nat) : riseT l (n + 1) = if (n : Int) ∈ l then riseT l n ++ [(n : Int)] else riseT l n := by
  unfold riseT
  rw [List.range_succ, List.filter_append, List.map_append]
  by_cases h : (n : Int) ∈ l
  · rw [if_pos h]; simp [h]
  · rw [if_neg h]; simp [h]
theorem riseT_len (l : List Int) (n : Nat) : (riseT l n).length ≤ n := by
  unfold riseT
  rw [List.length_map]
  exact Nat.le_trans (List.length_filter_le _ _) (by simp)
theorem riseT_srt {l : List Int} (h : okB l = true) : riseT l 1024 = srt l := by
  obtain ⟨_, h2, h3⟩ := okB_iff.1 h
  have p1 : (riseT l 1024).Pairwise (· < ·) := by
    unfold riseT
    rw [List.pairwise_map]
    exact (List.Pairwise.filter _ List.pairwise_lt_range).imp fun h => by omega
  have n1 : (riseT l 1024).Nodup := p1.imp fun h => by omega
  have hm : ∀ x, x ∈ riseT l 1024 ↔ x ∈ srt l := by
    intro x
    rw [srt_mem]
    simp only [riseT, List.mem_map, List.mem_filter, List.mem_range, decide_eq_true_eq]
    constructor
    · rintro ⟨p, ⟨_, h⟩, rfl⟩; exact h
    · intro hx
      have := h2 x hx
      exact ⟨x.toNat, ⟨by omega, by rw [show ((x.toNat : Nat) : Int) = x by omega]; exact hx⟩, by omega⟩
  exact List.Perm.eq_of_pairwise (le := (· < ·)) (fun a b _ _ h1 h2 => by omega) p1 (srt_lt h3) ((List.perm_ext_iff_of_nodup n1 (srt_nodup.2 h3)).2 hm)
theorem rise_loop (l : List Int) (hl : l.length ≤ 65536) : ∀ (d k : Nat), k + d = 1024 → Go kcB false 0 fa30 (.head 0 (T30_0 (l.map iV) (k : Int) ((riseT l k).map iV))) (.done (.fr 3 ((riseT l 1024).map iV))) := by
  intro d
  induction d with
  | zero =>
    intro k hk
    have : k = 1024 := by omega
    subst this
    refine s30_0_run _ _ _ ?_ (.refl _)
    unfold s30_0
    rw [decide_eq_false (by omega), cond_false, gd_of (iV_flat _)]
  | succ d ih =>
    intro k hk
    have w : W .i64 ((k : Int) + 1) = ((k + 1 : Nat) : Int) := by rw [W_i64 (by omega)]; omega
    have hr := riseT_len l k
    refine s30_0_run _ _ _ (o := .head 0 (T30_0 (l.map iV) ((k + 1 : Nat) : Int) ((riseT l (k + 1)).map iV))) ?_ (ih (k + 1) (by omega))
    unfold s30_0
    rw [decide_eq_true (by omega), cond_true, pcK_of (find_ok l k hl), kI_mk, ix_ge, riseT_succ]
    by_cases h : (k : Int) ∈ l
    · rw [decide_eq_true h, cond_true, gd_dec (by first | omega | (simp; omega)), if_pos h, appV, w]
    · rw [decide_eq_false h, cond_false, if_neg h, w]
theorem rise_ok (l : List Int) (hl : l.length ≤ 65536) : pcW cfgB 30 [.sl (l.map iV)] = some (.fr 3 ((riseT l 1024).map iV)) :=
  e30_run _ (o := .head 0 (T30_0 (l.map iV) ((0 : Nat) : Int) ((riseT l 0).map iV))) rfl (rise_loop l hl 1024 0 rfl)

theorem steps_loop (hs : List Int) (n : Nat) (hn : n ≤ 65536) (hh : hs.length = n) : ∀ (d k : Nat) (l : List Int) (out : List Sp), k + d = n → l.length = n → out.length ≤ k →
    Go kcB false 0 fa29 (.head 0 (T29_0 (hs.map iV) (k : Int) (out.map eSp) (l.map iV))) (.done (.fr 59 ((out ++ (rgo hs d k l).2).map eSp))) := by
  intro d
  induction d with
  | zero =>
    intro k l out hk hl ho
    refine s29_0_run _ _ _ _ ?_ (.refl _)
    unfold s29_0
    rw [List.length_map, decide_eq_false (by omega), cond_false, gd_of (eSp_flat _)]
    simp [rgo]
  | succ d ih =>
    intro k l out hk hl ho
    have hkl : k < l.length := by omega
    obtain ⟨a, ha⟩ : ∃ a, l[k]? = some a := ⟨l[k], List.getElem?_eq_getElem hkl⟩
    obtain ⟨h, hh'⟩ : ∃ h, hs[k]? = some h := ⟨hs[k]'(by omega), List.getElem?_eq_getElem (by omega)⟩
    have w : W .i64 ((k : Int) + 1) = ((k + 1 : Nat) : Int) := by rw [W_i64 (by omega)]; omega
    have i0 : idxK (l.map iV) k = fun q => q (V.int .i64 a) := by funext q; rw [idxK_iV ha]
    have i9 : idxK (hs.map iV) k = fun q => q (V.int .i64 h) := by funext q; rw [idxK_iV hh']
    have g0 : gd (decide (0 ≤ (k : Int))) = fun q => q := by funext q; exact gd_of (by simp)
    have g1 : gd (decide (k < (l.map iV).length)) = fun q => q := by funext q; exact gd_of (by simp; omega)
    by_cases e : a = h
    · have r1 : rstep hs k l = (l, []) := by simp only [rstep, ha, hh', if_pos e]
      refine s29_0_run _ _ _ _ (o := .head 0 (T29_0 (hs.map iV) ((k + 1 : Nat) : Int) (out.map eSp) (l.map iV))) ?_ ?_
      · unfold s29_0
        rw [List.length_map, decide_eq_true (show (k : Int) < (l.length : Int) by omega), cond_true, g0, toNat_cast, i9, i0]
        rw [gd_dec (show k < l.length from hkl)]
        simp only [kI_mk]
        rw [ibeq_t e, cond_true, w]
      · have := ih (k + 1) l out (by omega) hl (by omega)
        simp only [rgo, r1, List.nil_append]
        exact this
    · by_cases hm : h ∈ l
      · have hj := idx_lt hm
        have r1 : rstep hs k l = ((l.set (l.idxOf h) a).set k h, [(a, h, true)]) := by simp only [rstep, ha, hh', if_neg e, if_pos hm]
        have hlen : ((l.set (l.idxOf h) a).set k h).length = n := by simp [hl]
        refine s29_0_run _ _ _ _ (o := .head 0 (T29_0 (hs.map iV) ((k + 1 : Nat) : Int) ((out ++ [(a, h, true)]).map eSp) (((l.set (l.idxOf h) a).set k h).map iV))) ?_ ?_
        · unfold s29_0
          have hd : decide (ix l h ≥ 0) = true := by rw [ix_ge, decide_eq_true hm]
          have i1 : idxK (l.map iV) (l.idxOf h) = fun q => q (V.int .i64 h) := by funext q; rw [idxK_iV (idx_get hm)]
          obtain ⟨y, hy⟩ : ∃ y, (l.set (l.idxOf h) a)[k]? = some y := ⟨_, List.getElem?_eq_getElem (by simp; omega)⟩
          have i2 : idxK ((l.map iV).set (l.idxOf h) (V.int .i64 a)) k = fun q => q (V.int .i64 y) := by funext q; rw [setV, idxK_iV hy]
          rw [g0, toNat_cast, i9, i0, g1]
          simp only [kI_mk]
          rw [List.length_map, decide_eq_true (show (k : Int) < (l.length : Int) by omega), cond_true, ibeq_f e, cond_false, pcK_of (find_ok l h (by omega))]
          simp only [kI_mk, hd, cond_true]
          rw [gd_dec (by first | omega | (simp; omega)), ix_of hm, toNat_cast, gd_of (by simp), gd_dec (by first | omega | (simp; omega)), i1]
          simp only [kI_mk]
          rw [gd_dec (by first | omega | (simp; omega)), i2]
          simp only [kI_mk, setV, appSp, w]
        · have := ih (k + 1) _ (out ++ [(a, h, true)]) (by omega) hlen (by simp; omega)
          simp only [rgo, r1]
          rw [← List.append_assoc]
          exact this
      · have r1 : rstep hs k l = (l.set k h, [(a, h, false)]) := by simp only [rstep, ha, hh', if_neg e, if_neg hm]
        have hlen : (l.set k h).length = n := by simp [hl]
        refine s29_0_run _ _ _ _ (o := .head 0 (T29_0 (hs.map iV) ((k + 1 : Nat) : Int) ((out ++ [(a, h, false)]).map eSp) ((l.set k h).map iV))) ?_ ?_
        · unfold s29_0
          have hd : decide (ix l h ≥ 0) = false := by rw [ix_ge, decide_eq_false hm]
          rw [g0, toNat_cast, i9, i0, g1]
          simp only [kI_mk]
          rw [List.length_map, decide_eq_true (show (k : Int) < (l.length : Int) by omega), cond_true, ibeq_f e, cond_false, pcK_of (find_ok l h (by omega))]
          simp only [kI_mk, hd, cond_false]
          rw [gd_dec (by first | omega | (simp; omega))]
          simp only [kI_mk, setV, appSp, w]
        · have := ih (k + 1) _ (out ++ [(a, h, false)]) (by omega) hlen (by simp; omega)
          simp only [rgo, r1]
          rw [← List.append_assoc]
          exact this
theorem steps_ok (l hs : List Int) (hn : l.length ≤ 65536) (hh : hs.length = l.length) : pcW cfgB 29 [.sl (l.map iV), .sl (hs.map iV)] = some (.fr 59 ((rgo hs l.length 0 l).2.map eSp)) := by
  have := steps_loop hs l.length hn hh l.length 0 l [] (by omega) rfl (by simp)
  refine e29_run _ _ (o := .head 0 (T29_0 (hs.map iV) ((0 : Nat) : Int) (([] : List Sp).map eSp) (l.map iV))) ?_ (by simpa using this)
  unfold e29
  rw [gd_of (iV_wfl l), gd_dec (by first | omega | (simp; omega))]
  rfl

/-- by which steps -/
def sortS (l : List Int) : List Sp × Int := if okB l then ((rgo (srt l) l.length 0 l).2, 0) else ([], 1)
def intoOk (l : List Int) (b : Int) : Bool := okB l && (pgB b && decide (b + l.length ≤ 1024))
def intoS (l : List Int) (b : Int) : List Sp × Int := if intoOk l b then ((rgo (hsI b l.length) l.length 0 l).2, 0) else ([], 1)
theorem sortR_ok (l : List Int) (hl : l.length ≤ 65536) : pcW cfgB 9 [.sl (l.map iV)] = some (.tup [.sl ((sortS l).1.map eSp), .int .i64 (sortS l).2]) := by
  refine e9_done _ ?_
  unfold e9 sortS
  rw [pcK_of (rightR_ok l hl), kB_mk]
  cases h : okB l with
  | false => rfl
  | true =>
    rw [Bool.not_true, cond_false, pcK_of (rise_ok l hl), kF_mk, riseT_srt h, pcK_of (steps_ok l (srt l) hl (srt_len l)), kF_mk]
    rfl
theorem intoR_loop (l : List Int) (b : Int) (hl : l.length ≤ 65536) (hb : 0 ≤ b ∧ b < 1024) : ∀ (d k : Nat), k + d = l.length →
    Go kcB false 0 fa11 (.head 0 (T11_0 (l.map iV) b (k : Int) ((hsI b k).map iV))) (.done (.tup [.sl ((rgo (hsI b l.length) l.length 0 l).2.map eSp), .int .i64 0])) := by
  intro d
  induction d with
  | zero =>
    intro k hk
    have : k = l.length := by omega
    subst this
    refine s11_0_run _ _ _ _ ?_ (.refl _)
    unfold s11_0
    rw [List.length_map, decide_eq_false (by omega), cond_false, pcK_of (steps_ok l _ hl (hsI_len _ _)), kF_mk]
  | succ d ih =>
    intro k hk
    have w : W .i64 ((k : Int) + 1) = ((k + 1 : Nat) : Int) := by rw [W_i64 (by omega)]; omega
    refine s11_0_run _ _ _ _ (o := .head 0 (T11_0 (l.map iV) b ((k + 1 : Nat) : Int) ((hsI b (k + 1)).map iV))) ?_ (ih (k + 1) (by omega))
    have e1 : hsI b (k + 1) = hsI b k ++ [b + k] := by simp [hsI, List.range_succ]
    unfold s11_0
    rw [List.length_map, decide_eq_true (by omega), cond_true, gd_dec (by simp [hsI]; omega), W_i64 (n := b + k) (by omega), appV, e1, w]
theorem intoR_ok (l : List Int) (b : Int) (hl : l.length ≤ 65536) : pcW cfgB 11 [.sl (l.map iV), .int .i64 b] = some (.tup [.sl ((intoS l b).1.map eSp), .int .i64 (intoS l b).2]) := by
  unfold intoS intoOk
  by_cases c : okB l = true ∧ 0 ≤ b ∧ b < 1024 ∧ b + l.length ≤ 1024
  · obtain ⟨c1, c2, c3, c4⟩ := c
    have e0 : (okB l && (pgB b && decide (b + l.length ≤ 1024))) = true := by simp [c1, pgB]; omega
    rw [e0, if_pos rfl]
    refine e11_run _ _ (o := .head 0 (T11_0 (l.map iV) b ((0 : Nat) : Int) ((hsI b 0).map iV))) ?_ (intoR_loop l b hl ⟨c2, c3⟩ l.length 0 (by omega))
    unfold e11
    rw [pcK_of (rightR_ok l hl), kB_mk, c1, Bool.not_true, cond_false, decide_eq_false (show ¬ b < 0 by omega), cond_false, decide_eq_false (show ¬ b > 1023 by omega), cond_false, List.length_map, W_i64 (n := b + l.length) (by omega), decide_eq_false (show ¬ b + (l.length : Int) > 1024 by omega), cond_false]
    rfl
  · have e0 : (okB l && (pgB b && decide (b + l.length ≤ 1024))) = false := by
      cases h : okB l with
      | false => rfl
      | true => simp [h] at c; simp [pgB]; omega
    rw [e0, if_neg (by simp)]
    refine e11_run _ _ ?_ (.refl _)
    unfold e11
    rw [pcK_of (rightR_ok l hl), kB_mk]
    cases h : okB l with
    | false => rfl
    | true =>
      rw [Bool.not_true, cond_false]
      by_cases d1 : b < 0
      · rw [decide_eq_true d1]; rfl
      rw [decide_eq_false d1, cond_false]
      by_cases d2 : b > 1023
      · rw [decide_eq_true d2]; rfl
      rw [decide_eq_false d2, cond_false, List.length_map, W_i64 (n := b + l.length) (by omega), decide_eq_true (show b + (l.length : Int) > 1024 by simp [h] at c; omega)]
      rfl
end Go.Proofs.Ytnaidbmgibmnbaa
