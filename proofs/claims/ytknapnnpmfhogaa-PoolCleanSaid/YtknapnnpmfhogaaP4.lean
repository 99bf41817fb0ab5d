/-
  The pool's memory, told as a row of pages.
-/
import Derived.Test.YtknapnnpmfhogaaP3
namespace Go.Proofs.Ytknapnnpmfhogaa
open Go Go.Lite
set_option linter.unusedSimpArgs false
set_option linter.unusedVariables false
set_option linter.unnecessarySimpa false
set_option maxRecDepth 10000
theorem snoc_ind {α : Type} {P : List α → Prop} (h0 : P []) (h1 : ∀ l x, P l → P (l ++ [x])) (l : List α) : P l := by
  have : ∀ r : List α, P r.reverse := by
    intro r
    induction r with
    | nil => exact h0
    | cons x r ih => rw [List.reverse_cons]; exact h1 _ _ ih
  have h := this l.reverse
  rwa [List.reverse_reverse] at h
abbrev Ws := List (Int × Bs)
def wV (w : Int × Bs) : V := .agg [.int .i64 w.1, .str (sealB w.2)]
def wsV (ws : Ws) : List V := ws.map wV
theorem wsV_len (ws : Ws) : (wsV ws).length = ws.length := by simp [wsV]
def cont (ws : Ws) (p : Int) : Bs := ws.foldl (fun a w => if w.1 = p then w.2 else a) (zeros 252)
theorem cont_snoc (ws : Ws) (w : Int × Bs) (p : Int) : cont (ws ++ [w]) p = if w.1 = p then w.2 else cont ws p := by simp [cont]
def wsOk (ws : Ws) : Prop := ∀ w ∈ ws, w.2.length = 252
theorem cont_len : ∀ {ws : Ws}, wsOk ws → ∀ p, (cont ws p).length = 252 := by
  intro ws h p
  refine snoc_ind (P := fun ws => wsOk ws → (cont ws p).length = 252) ?_ ?_ ws h
  · intro _; simp [cont, zeros]
  · intro ws w ih h
    rw [cont_snoc]
    split
    · exact h w (by simp)
    · exact ih fun x hx => h x (by simp [hx])
theorem backs_snoc (l : List V) (x : V) : backsR (l ++ [x]) = [.int .i64 (l.length : Int), x] :: backsR l := by
  simp [backsR, List.zipIdx_append]
theorem backs_nil : backsR [] = [] := rfl
abbrev dsk (k j : Nat) (n : Int) : O := .box 56 (.agg [.int .i64 n, .mp k, .tail j 0]) false
theorem raw_loop (m0 m1 : List V) (n : Int) (ws0 : List V) (z : Nat) (p : Int) : ∀ (ws : Ws),
    Go qk true 5 fa33 (.head 0 (T33_0 ((backsR (wsV ws)).map .tup) m0 m1 n [] ws0 z p))
      (.doneM (.str (sealB (cont ws p))) [.arena 63 m0, .arena 7 m1, dsk 3 4 n, .map [], .row 88 ws0 z, .box 3 (.int .i64 p) false, .box 9 (.str (sealB (cont ws p))) false]) := by
  intro ws
  refine snoc_ind (P := fun ws => Go qk true 5 fa33 (.head 0 (T33_0 ((backsR (wsV ws)).map .tup) m0 m1 n [] ws0 z p))
      (.doneM (.str (sealB (cont ws p))) [.arena 63 m0, .arena 7 m1, dsk 3 4 n, .map [], .row 88 ws0 z, .box 3 (.int .i64 p) false, .box 9 (.str (sealB (cont ws p))) false])) ?_ ?_ ws
  · refine s33_0_run _ _ _ _ _ _ _ _ ?_ (.refl _)
    unfold s33_0
    simp only [wsV, List.map_nil, backs_nil]
    rw [restK_nil, show ∀ (k : V) (a : R) (b : V → R), mfK [] k a b = a from fun _ _ _ => rfl, pcK_of empty_ok, kS_mk]
    rfl
  · intro ws w ih
    have e : backsR (wsV (ws ++ [w])) = [.int .i64 (ws.length : Int), wV w] :: backsR (wsV ws) := by
      unfold wsV; rw [List.map_append, List.map_cons, List.map_nil, backs_snoc, List.length_map]
    rw [e, List.map_cons, cont_snoc]
    by_cases hw : w.1 = p
    · rw [if_pos hw]
      refine s33_0_run _ _ _ _ _ _ _ _ ?_ (.refl _)
      unfold s33_0
      simp only [restK_cons, wV, kT_mk, unc_mk, kI_mk, d88_mk, unn_mk, hw, ibeq_t, cond_true]
    · rw [if_neg hw]
      refine s33_0_run _ _ _ _ _ _ _ _ ?_ ih
      unfold s33_0
      simp only [restK_cons, wV, kT_mk, unc_mk, kI_mk, d88_mk, unn_mk, ibeq_f hw, cond_false]
theorem raw_ok (m0 m1 : List V) (n : Int) (ws : Ws) (z : Nat) (p : Int) (hp : 0 ≤ p) (hn : p < n) (hl : ws.length ≤ 100000) :
    icC qcfg ⟨true, false⟩ 33 [.ptr 2 0 0, .int .i64 p] [.arena 63 m0, .arena 7 m1, dsk 3 4 n, .map [], .row 88 (wsV ws) z] =
      some (mk33 (sealB (cont ws p), m0, m1, n, [], wsV ws, ws.length)) := by
  refine e33_run _ _ _ _ _ _ _ ?_ ⟨_, _, raw_loop m0 m1 n (wsV ws) ws.length p ws, by kernel_rfl⟩
  unfold e33
  rw [decide_eq_true hp, decide_eq_true hn, cond_true, Bool.not_true, cond_false]
  have hb : backP [.ref (.sl (wsV ws)) 0] = some (backsR (wsV ws)) := by
    show (if (wsV ws).length ≤ 16777216 ∧ (wsV ws).all pairV = true then some (backsR (wsV ws)) else none) = _
    rw [if_pos ⟨by rw [wsV_len]; omega, by simp [wsV, wV, pairV]⟩]
  rw [hb, opt_mk, wsV_len]
theorem read_ok (m0 m1 : List V) (n : Int) (ws : Ws) (z : Nat) (p : Int) (hp : 0 ≤ p) (hn : p < n) (hl : ws.length ≤ 100000) (hw : wsOk ws) :
    icC qcfg ⟨true, false⟩ 15 [.ptr 2 0 0, .int .i64 p] [.arena 63 m0, .arena 7 m1, dsk 3 4 n, .map [], .row 88 (wsV ws) z] =
      some (mk15 (cont ws p, 0, m0, m1, n, [], wsV ws, ws.length)) := by
  refine e15_run _ _ _ _ _ _ _ (o := .doneM ?v ?m) ?h (.done ?n)
  case h =>
    unfold e15
    rw [decide_eq_true hp, decide_eq_true hn, cond_true, Bool.not_true, cond_false, icM_of mk33_inj (raw_ok m0 m1 n ws z p hp hn hl)]
    dsimp only
    rw [pcK_of (open_ok _ (by unfold small; rw [sealB_len (cont_len hw p)]; omega)), open_seal (cont_len hw p), d32_mk]
  case n => kernel_rfl
theorem read_bad (m0 m1 : List V) (n : Int) (ws : Ws) (z : Nat) (p : Int) (hp : ¬ (0 ≤ p ∧ p < n)) :
    icC qcfg ⟨true, false⟩ 15 [.ptr 2 0 0, .int .i64 p] [.arena 63 m0, .arena 7 m1, dsk 3 4 n, .map [], .row 88 (wsV ws) z] =
      some (mk15 ([], 1, m0, m1, n, [], wsV ws, z)) := by
  refine e15_run _ _ _ _ _ _ _ (o := .doneM ?v ?m) ?h (.done ?n)
  case h =>
    unfold e15
    by_cases h : 0 ≤ p
    · rw [decide_eq_true h, decide_eq_false (by omega), cond_true, Bool.not_false, cond_true]
    · rw [decide_eq_false (by omega), cond_false]
  case n => kernel_rfl
theorem write_norm (m0 m1 : List V) (n : Int) (l : List V) (z : Nat) (y l0 : List V) (z0 : Nat) :
    canNorm ⟨false, false⟩ [.arena 63 m0, .arena 7 m1, dsk 3 4 n, .map [], .row 88 l0 z0] (.int .i64 0) [.arena 63 m0, .arena 7 m1, dsk 3 6 n, .map [], .dead, .row 88 y 0, .row 88 l z] = mk45 (0, m0, m1, n, [], l, z) := by kernel_rfl
theorem write_ok (m0 m1 : List V) (n : Int) (ws : Ws) (z : Nat) (p : Int) (s : Bs) (hp : 0 ≤ p) (hn : p < n) (hl : ws.length ≤ 100000) (hs : s.length = 252) :
    icC qcfg ⟨false, false⟩ 45 [.ptr 2 0 0, .int .i64 p, .str s] [.arena 63 m0, .arena 7 m1, dsk 3 4 n, .map [], .row 88 (wsV ws) z] =
      some (mk45 (0, m0, m1, n, [], wsV (ws ++ [(p, s)]), z)) := by
  refine e45_run _ _ _ _ _ _ _ _ (o := .doneM ?v ?m) ?h (.done ?n)
  case h =>
    unfold e45
    have h1 : sealE s = (sealB s, 0) := by
      unfold sealE
      rw [if_neg (by omega)]
      have : padW s = s := by unfold padW; rw [hs]; exact List.append_nil _
      rw [this]
    have h2 : (Nat.beq z 0 || Nat.blt 0 z) = true := by cases z <;> rfl
    rw [decide_eq_true (show p ≥ 0 from hp), decide_eq_true hn, cond_true, Bool.not_true, cond_false, pcK_of (seal_ok s (by unfold small; omega)), h1, d32_mk, h2]
    simp only [beq_self_eq_true, cond_true]
    rw [gd_of rfl, gd_of (by simp [wsV_len]; omega)]
  case n =>
    have h3 : (cond (Nat.beq z 0) 0 (z - 0)) = z := by cases z <;> rfl
    have h4 : wsV ws ++ [V.agg [V.int .i64 p, V.str (sealB s)]] = wsV (ws ++ [(p, s)]) := by simp [wsV, wV]
    rw [h3, h4]
    exact write_norm m0 m1 n (wsV (ws ++ [(p, s)])) z [V.agg [V.int .i64 p, V.str (sealB s)]] _ _
end Go.Proofs.Ytknapnnpmfhogaa