/-
  Sums, pages sealed and opened.
-/
import Derived.Test.YtknapnnpmfhogaaP2
import Derived.Test.YtknapnnpmfhogaaPS
namespace Go.Proofs.Ytknapnnpmfhogaa
open Go Go.Lite
set_option linter.unusedSimpArgs false
set_option linter.unusedVariables false
set_option linter.unnecessarySimpa false
set_option maxRecDepth 10000
theorem putR_loop (s : Bs) (n k x : Nat) (hk : k ≤ 8) (h1 : 1 ≤ k) (hl : n + k ≤ s.length) (hs : small s) (hx : x < 18446744073709551616) : ∀ d i, i + d = k →
    Go qk false 0 fa28 (.head 0 (T28_0 s (n : Int) (k : Int) (x : Int) ((x / 256 ^ i : Nat) : Int) (i : Int)))
      (.done (if x < 256 ^ k then .tup [.str (overB s n (leN k x)), .int .i64 0] else .tup [.str [], .int .i64 2])) := by
  intro d
  induction d with
  | zero =>
    intro i hi
    have : i = k := by omega
    subst this
    have hsl := hs
    refine s28_0_run _ _ _ _ _ _ ?_ (.refl _)
    unfold s28_0
    rw [decide_eq_false (by omega), cond_false]
    by_cases hb : x < 256 ^ i
    · rw [if_pos hb]
      have : x / 256 ^ i = 0 := by rw [Nat.div_eq_zero_iff]; exact .inr hb
      rw [this, decide_eq_false (by omega), cond_false, gd_of (by simp), toNat_cast, gd_of (by simp; omega), pcK_of (little_ok i x hx (by omega)), kS_mk]
      have w : W .i64 ((n : Int) + (i : Int)) = ((n + i : Nat) : Int) := by rw [W_i64 (by omega)]; omega
      rw [w, toNat_cast, gd_of (by simp [leN_len]; omega), gd_of (by simp; omega), gd_of (by simp; omega), gd_of (by simp [leN_len]; omega)]
      congr 3
      simp [overB, leN_len]
    · rw [if_neg hb]
      have : 0 < x / 256 ^ i := by
        apply Nat.pos_of_ne_zero
        intro e
        rcases Nat.div_eq_zero_iff.1 e with h | h
        · exact absurd h (by have := Nat.pow_pos (n := i) (show 0 < 256 by decide); omega)
        · exact hb h
      rw [decide_eq_true (by omega)]; rfl
  | succ d ih =>
    intro i hi
    refine s28_0_run _ _ _ _ _ _ ?_ (ih (i + 1) (by omega))
    unfold s28_0
    have w3 : W .i64 ((i : Int) + 1) = ((i + 1 : Nat) : Int) := by rw [W_i64 (by omega)]; omega
    have hle : x / 256 ^ i ≤ x := Nat.div_le_self _ _
    have w2 : W .u64 (((x / 256 ^ i : Nat) : Int).tdiv 256) = ((x / 256 ^ (i + 1) : Nat) : Int) := by
      rw [show (256 : Int) = ((256 : Nat) : Int) from rfl, tdiv_nat, Nat.div_div_eq_div_mul, ← Nat.pow_succ]
      have := Nat.div_le_self x (256 ^ (i + 1))
      generalize x / 256 ^ (i + 1) = y at *
      exact W_u64 (by omega)
    rw [decide_eq_true (by omega), cond_true, w2, w3]
theorem putR_ok (s : Bs) (n size : Int) (x : Nat) (hx : x < 18446744073709551616) (hs : small s) : pcW qcfg 28 [.str s, .int .i64 n, .int .i64 size, .int .u64 (x : Int)] = some (.tup [.str (putB s n size x).1, .int .i64 (putB s n size x).2]) := by
  by_cases h : roomE s n size = 0
  · obtain ⟨h1, h2, h3, h4⟩ := roomE_zero h
    obtain ⟨k, rfl⟩ : ∃ k : Nat, size = (k : Int) := ⟨size.toNat, by omega⟩
    obtain ⟨m, rfl⟩ : ∃ m : Nat, n = (m : Int) := ⟨n.toNat, by omega⟩
    have hl := putR_loop s m k x (by omega) (by omega) (by omega) hs hx k 0 (by omega)
    refine e28_run _ _ _ _ ?_ (o := .head 0 (T28_0 s (m : Int) (k : Int) (x : Int) (x : Int) 0)) ?_
    · unfold e28
      rw [pcK_of (bad_ok s _ _ hs), kI_mk, h]; rfl
    · unfold putB
      rw [if_pos h, toNat_cast, toNat_cast]
      have : (if x < 256 ^ k then V.tup [V.str (overB s m (leN k x)), V.int IntKind.i64 0] else V.tup [V.str [], V.int IntKind.i64 2]) =
          V.tup [V.str (if x < 256 ^ k then (overB s m (leN k x), (0 : Int)) else ([], 2)).1, V.int IntKind.i64 (if x < 256 ^ k then (overB s m (leN k x), (0 : Int)) else ([], 2)).2] := by split <;> rfl
      rw [this] at hl
      simpa using hl
  · refine e28_run _ _ _ _ ?_ (.refl _)
    unfold e28 putB
    rw [pcK_of (bad_ok s _ _ hs), kI_mk, if_neg h, ibne_t h]; rfl
abbrev w32 (n : Nat) : Prop := n < 4294967296
theorem W_u32n (n : Nat) : W .u32 (n : Int) = ((n % 4294967296 : Nat) : Int) := by
  simp [W, IntKind.wrap, IntKind.bits, IntKind.signed]
theorem W_u32l {n : Nat} (h : w32 n) : W .u32 (n : Int) = (n : Int) := by rw [W_u32n, Nat.mod_eq_of_lt h]
theorem xor32 {a b : Nat} (ha : w32 a) (hb : w32 b) : W .u32 (((BitVec.ofInt (IntKind.bits .u32) (a : Int) ^^^ BitVec.ofInt (IntKind.bits .u32) (b : Int)).toNat : Int)) = ((a ^^^ b : Nat) : Int) := by
  have h : (BitVec.ofInt 32 (a : Int) ^^^ BitVec.ofInt 32 (b : Int)).toNat = a ^^^ b := by
    rw [BitVec.toNat_xor, BitVec.ofInt_natCast, BitVec.ofInt_natCast, BitVec.toNat_ofNat, BitVec.toNat_ofNat]
    rw [Nat.mod_eq_of_lt ha, Nat.mod_eq_of_lt hb]
  change W .u32 (((BitVec.ofInt 32 (a : Int) ^^^ BitVec.ofInt 32 (b : Int)).toNat : Int)) = _
  rw [h]
  exact W_u32l (Nat.xor_lt_two_pow (n := 32) ha hb)
theorem and32 {a b : Nat} (ha : w32 a) (hb : w32 b) : W .u32 (((BitVec.ofInt (IntKind.bits .u32) (a : Int) &&& BitVec.ofInt (IntKind.bits .u32) (b : Int)).toNat : Int)) = ((a &&& b : Nat) : Int) := by
  have h : (BitVec.ofInt 32 (a : Int) &&& BitVec.ofInt 32 (b : Int)).toNat = a &&& b := by
    rw [BitVec.toNat_and, BitVec.ofInt_natCast, BitVec.ofInt_natCast, BitVec.toNat_ofNat, BitVec.toNat_ofNat]
    rw [Nat.mod_eq_of_lt ha, Nat.mod_eq_of_lt hb]
  change W .u32 (((BitVec.ofInt 32 (a : Int) &&& BitVec.ofInt 32 (b : Int)).toNat : Int)) = _
  rw [h]
  exact W_u32l (Nat.and_lt_two_pow (n := 32) _ hb)
theorem fdiv_pow (a j : Nat) : ((a : Int)).fdiv (2 ^ j) = ((a / 2 ^ j : Nat) : Int) := by
  rw [show ((2 : Int) ^ j) = ((2 ^ j : Nat) : Int) by simp, Int.fdiv_eq_ediv_of_nonneg _ (Int.natCast_nonneg _)]; rfl
def bit1 (x : Nat) : Nat := if x % 2 = 1 then (x / 2) ^^^ 2197175160 else x / 2
theorem bit1_lt {x : Nat} (h : w32 x) : w32 (bit1 x) := by
  unfold bit1
  split
  · exact Nat.xor_lt_two_pow (n := 32) (by unfold w32 at h; omega) (by decide)
  · unfold w32 at *; omega
def bitN : Nat → Nat → Nat
  | 0, x => x
  | k + 1, x => bitN k (bit1 x)
theorem bitN_lt : ∀ (k : Nat) {x : Nat}, w32 x → w32 (bitN k x)
  | 0, _, h => h
  | k + 1, _, h => bitN_lt k (bit1_lt h)
theorem laid_loop : ∀ (d i x : Nat), i + d = 4 → w32 x → Go qk false 0 fa64 (.head 0 (T64_0 (x : Int) (i : Int))) (.done (.int .u32 (bitN d x : Nat))) := by
  intro d
  induction d with
  | zero =>
    intro i x hi hx
    refine s64_0_run _ _ ?_ (.refl _)
    unfold s64_0
    rw [decide_eq_false (by omega)]; rfl
  | succ d ih =>
    intro i x hi hx
    refine s64_0_run _ _ ?_ (ih (i + 1) (bit1 x) (by omega) (bit1_lt hx))
    unfold s64_0
    have w3 : W .i64 ((i : Int) + 1) = ((i + 1 : Nat) : Int) := by rw [W_i64 (by omega)]; omega
    have ha := and32 hx (show w32 1 by decide)
    rw [Nat.and_one_is_mod] at ha
    have hd : ((x : Int)).fdiv (2 ^ (min 1 (IntKind.bits .u32))) = ((x / 2 : Nat) : Int) := fdiv_pow x 1
    have hxo : W .u32 (((BitVec.ofInt (IntKind.bits .u32) (((x / 2 : Nat) : Nat) : Int) ^^^ BitVec.ofInt (IntKind.bits .u32) 2197175160).toNat : Int)) = (((x / 2) ^^^ 2197175160 : Nat) : Int) :=
      xor32 (show w32 (x / 2) by unfold w32 at *; omega) (show w32 2197175160 by decide)
    have ha' : W .u32 (((BitVec.ofInt (IntKind.bits .u32) (x : Int) &&& BitVec.ofInt (IntKind.bits .u32) 1).toNat : Int)) = ((x % 2 : Nat) : Int) := ha
    rw [decide_eq_true (by omega), cond_true, ha', hd, hxo, w3]
    unfold bit1
    by_cases hb : x % 2 = 1
    · rw [if_pos hb, hb]; rfl
    · rw [if_neg hb, show x % 2 = 0 by omega]; rfl
theorem laid_ok (x : Nat) (hx : w32 x) : pcW qcfg 64 [.int .u32 (x : Int)] = some (.int .u32 (bitN 4 x : Nat)) :=
  e64_run _ (o := .head 0 (T64_0 (x : Int) 0)) rfl (laid_loop 4 0 x rfl hx)
def tab : List Nat := (List.range 16).map (bitN 4)
theorem tab_len : tab.length = 16 := by simp [tab]
theorem tab_get {i : Nat} (h : i < 16) : tab[i]? = some (bitN 4 i) := by simp [tab, h]
def tabV : List V := tab.map fun n : Nat => V.int .u32 (n : Int)
theorem table_ok : pcW qcfg 55 [] = some (.agg tabV) := by
  refine e55_run rfl ?_
  refine s55_0_0_run 0 0 0 0 0 0 0 0 0 0 0 0 0 0 0 0 (o := .head 0 (T55_0 1 ((bitN 4 0 : Nat) : Int) 0 0 0 0 0 0 0 0 0 0 0 0 0 0 0)) (by unfold s55_0_0; exact pcK_of (laid_ok 0 (by decide)) ▸ rfl) ?_
  refine s55_0_1_run ((bitN 4 0 : Nat) : Int) 0 0 0 0 0 0 0 0 0 0 0 0 0 0 0 (o := .head 0 (T55_0 2 ((bitN 4 0 : Nat) : Int) ((bitN 4 1 : Nat) : Int) 0 0 0 0 0 0 0 0 0 0 0 0 0 0)) (by unfold s55_0_1; exact pcK_of (laid_ok 1 (by decide)) ▸ rfl) ?_
  refine s55_0_2_run ((bitN 4 0 : Nat) : Int) ((bitN 4 1 : Nat) : Int) 0 0 0 0 0 0 0 0 0 0 0 0 0 0 (o := .head 0 (T55_0 3 ((bitN 4 0 : Nat) : Int) ((bitN 4 1 : Nat) : Int) ((bitN 4 2 : Nat) : Int) 0 0 0 0 0 0 0 0 0 0 0 0 0)) (by unfold s55_0_2; exact pcK_of (laid_ok 2 (by decide)) ▸ rfl) ?_
  refine s55_0_3_run ((bitN 4 0 : Nat) : Int) ((bitN 4 1 : Nat) : Int) ((bitN 4 2 : Nat) : Int) 0 0 0 0 0 0 0 0 0 0 0 0 0 (o := .head 0 (T55_0 4 ((bitN 4 0 : Nat) : Int) ((bitN 4 1 : Nat) : Int) ((bitN 4 2 : Nat) : Int) ((bitN 4 3 : Nat) : Int) 0 0 0 0 0 0 0 0 0 0 0 0)) (by unfold s55_0_3; exact pcK_of (laid_ok 3 (by decide)) ▸ rfl) ?_
  refine s55_0_4_run ((bitN 4 0 : Nat) : Int) ((bitN 4 1 : Nat) : Int) ((bitN 4 2 : Nat) : Int) ((bitN 4 3 : Nat) : Int) 0 0 0 0 0 0 0 0 0 0 0 0 (o := .head 0 (T55_0 5 ((bitN 4 0 : Nat) : Int) ((bitN 4 1 : Nat) : Int) ((bitN 4 2 : Nat) : Int) ((bitN 4 3 : Nat) : Int) ((bitN 4 4 : Nat) : Int) 0 0 0 0 0 0 0 0 0 0 0)) (by unfold s55_0_4; exact pcK_of (laid_ok 4 (by decide)) ▸ rfl) ?_
  refine s55_0_5_run ((bitN 4 0 : Nat) : Int) ((bitN 4 1 : Nat) : Int) ((bitN 4 2 : Nat) : Int) ((bitN 4 3 : Nat) : Int) ((bitN 4 4 : Nat) : Int) 0 0 0 0 0 0 0 0 0 0 0 (o := .head 0 (T55_0 6 ((bitN 4 0 : Nat) : Int) ((bitN 4 1 : Nat) : Int) ((bitN 4 2 : Nat) : Int) ((bitN 4 3 : Nat) : Int) ((bitN 4 4 : Nat) : Int) ((bitN 4 5 : Nat) : Int) 0 0 0 0 0 0 0 0 0 0)) (by unfold s55_0_5; exact pcK_of (laid_ok 5 (by decide)) ▸ rfl) ?_
  refine s55_0_6_run ((bitN 4 0 : Nat) : Int) ((bitN 4 1 : Nat) : Int) ((bitN 4 2 : Nat) : Int) ((bitN 4 3 : Nat) : Int) ((bitN 4 4 : Nat) : Int) ((bitN 4 5 : Nat) : Int) 0 0 0 0 0 0 0 0 0 0 (o := .head 0 (T55_0 7 ((bitN 4 0 : Nat) : Int) ((bitN 4 1 : Nat) : Int) ((bitN 4 2 : Nat) : Int) ((bitN 4 3 : Nat) : Int) ((bitN 4 4 : Nat) : Int) ((bitN 4 5 : Nat) : Int) ((bitN 4 6 : Nat) : Int) 0 0 0 0 0 0 0 0 0)) (by unfold s55_0_6; exact pcK_of (laid_ok 6 (by decide)) ▸ rfl) ?_
  refine s55_0_7_run ((bitN 4 0 : Nat) : Int) ((bitN 4 1 : Nat) : Int) ((bitN 4 2 : Nat) : Int) ((bitN 4 3 : Nat) : Int) ((bitN 4 4 : Nat) : Int) ((bitN 4 5 : Nat) : Int) ((bitN 4 6 : Nat) : Int) 0 0 0 0 0 0 0 0 0 (o := .head 0 (T55_0 8 ((bitN 4 0 : Nat) : Int) ((bitN 4 1 : Nat) : Int) ((bitN 4 2 : Nat) : Int) ((bitN 4 3 : Nat) : Int) ((bitN 4 4 : Nat) : Int) ((bitN 4 5 : Nat) : Int) ((bitN 4 6 : Nat) : Int) ((bitN 4 7 : Nat) : Int) 0 0 0 0 0 0 0 0)) (by unfold s55_0_7; exact pcK_of (laid_ok 7 (by decide)) ▸ rfl) ?_
  refine s55_0_8_run ((bitN 4 0 : Nat) : Int) ((bitN 4 1 : Nat) : Int) ((bitN 4 2 : Nat) : Int) ((bitN 4 3 : Nat) : Int) ((bitN 4 4 : Nat) : Int) ((bitN 4 5 : Nat) : Int) ((bitN 4 6 : Nat) : Int) ((bitN 4 7 : Nat) : Int) 0 0 0 0 0 0 0 0 (o := .head 0 (T55_0 9 ((bitN 4 0 : Nat) : Int) ((bitN 4 1 : Nat) : Int) ((bitN 4 2 : Nat) : Int) ((bitN 4 3 : Nat) : Int) ((bitN 4 4 : Nat) : Int) ((bitN 4 5 : Nat) : Int) ((bitN 4 6 : Nat) : Int) ((bitN 4 7 : Nat) : Int) ((bitN 4 8 : Nat) : Int) 0 0 0 0 0 0 0)) (by unfold s55_0_8; exact pcK_of (laid_ok 8 (by decide)) ▸ rfl) ?_
  refine s55_0_9_run ((bitN 4 0 : Nat) : Int) ((bitN 4 1 : Nat) : Int) ((bitN 4 2 : Nat) : Int) ((bitN 4 3 : Nat) : Int) ((bitN 4 4 : Nat) : Int) ((bitN 4 5 : Nat) : Int) ((bitN 4 6 : Nat) : Int) ((bitN 4 7 : Nat) : Int) ((bitN 4 8 : Nat) : Int) 0 0 0 0 0 0 0 (o := .head 0 (T55_0 10 ((bitN 4 0 : Nat) : Int) ((bitN 4 1 : Nat) : Int) ((bitN 4 2 : Nat) : Int) ((bitN 4 3 : Nat) : Int) ((bitN 4 4 : Nat) : Int) ((bitN 4 5 : Nat) : Int) ((bitN 4 6 : Nat) : Int) ((bitN 4 7 : Nat) : Int) ((bitN 4 8 : Nat) : Int) ((bitN 4 9 : Nat) : Int) 0 0 0 0 0 0)) (by unfold s55_0_9; exact pcK_of (laid_ok 9 (by decide)) ▸ rfl) ?_
  refine s55_0_10_run ((bitN 4 0 : Nat) : Int) ((bitN 4 1 : Nat) : Int) ((bitN 4 2 : Nat) : Int) ((bitN 4 3 : Nat) : Int) ((bitN 4 4 : Nat) : Int) ((bitN 4 5 : Nat) : Int) ((bitN 4 6 : Nat) : Int) ((bitN 4 7 : Nat) : Int) ((bitN 4 8 : Nat) : Int) ((bitN 4 9 : Nat) : Int) 0 0 0 0 0 0 (o := .head 0 (T55_0 11 ((bitN 4 0 : Nat) : Int) ((bitN 4 1 : Nat) : Int) ((bitN 4 2 : Nat) : Int) ((bitN 4 3 : Nat) : Int) ((bitN 4 4 : Nat) : Int) ((bitN 4 5 : Nat) : Int) ((bitN 4 6 : Nat) : Int) ((bitN 4 7 : Nat) : Int) ((bitN 4 8 : Nat) : Int) ((bitN 4 9 : Nat) : Int) ((bitN 4 10 : Nat) : Int) 0 0 0 0 0)) (by unfold s55_0_10; exact pcK_of (laid_ok 10 (by decide)) ▸ rfl) ?_
  refine s55_0_11_run ((bitN 4 0 : Nat) : Int) ((bitN 4 1 : Nat) : Int) ((bitN 4 2 : Nat) : Int) ((bitN 4 3 : Nat) : Int) ((bitN 4 4 : Nat) : Int) ((bitN 4 5 : Nat) : Int) ((bitN 4 6 : Nat) : Int) ((bitN 4 7 : Nat) : Int) ((bitN 4 8 : Nat) : Int) ((bitN 4 9 : Nat) : Int) ((bitN 4 10 : Nat) : Int) 0 0 0 0 0 (o := .head 0 (T55_0 12 ((bitN 4 0 : Nat) : Int) ((bitN 4 1 : Nat) : Int) ((bitN 4 2 : Nat) : Int) ((bitN 4 3 : Nat) : Int) ((bitN 4 4 : Nat) : Int) ((bitN 4 5 : Nat) : Int) ((bitN 4 6 : Nat) : Int) ((bitN 4 7 : Nat) : Int) ((bitN 4 8 : Nat) : Int) ((bitN 4 9 : Nat) : Int) ((bitN 4 10 : Nat) : Int) ((bitN 4 11 : Nat) : Int) 0 0 0 0)) (by unfold s55_0_11; exact pcK_of (laid_ok 11 (by decide)) ▸ rfl) ?_
  refine s55_0_12_run ((bitN 4 0 : Nat) : Int) ((bitN 4 1 : Nat) : Int) ((bitN 4 2 : Nat) : Int) ((bitN 4 3 : Nat) : Int) ((bitN 4 4 : Nat) : Int) ((bitN 4 5 : Nat) : Int) ((bitN 4 6 : Nat) : Int) ((bitN 4 7 : Nat) : Int) ((bitN 4 8 : Nat) : Int) ((bitN 4 9 : Nat) : Int) ((bitN 4 10 : Nat) : Int) ((bitN 4 11 : Nat) : Int) 0 0 0 0 (o := .head 0 (T55_0 13 ((bitN 4 0 : Nat) : Int) ((bitN 4 1 : Nat) : Int) ((bitN 4 2 : Nat) : Int) ((bitN 4 3 : Nat) : Int) ((bitN 4 4 : Nat) : Int) ((bitN 4 5 : Nat) : Int) ((bitN 4 6 : Nat) : Int) ((bitN 4 7 : Nat) : Int) ((bitN 4 8 : Nat) : Int) ((bitN 4 9 : Nat) : Int) ((bitN 4 10 : Nat) : Int) ((bitN 4 11 : Nat) : Int) ((bitN 4 12 : Nat) : Int) 0 0 0)) (by unfold s55_0_12; exact pcK_of (laid_ok 12 (by decide)) ▸ rfl) ?_
  refine s55_0_13_run ((bitN 4 0 : Nat) : Int) ((bitN 4 1 : Nat) : Int) ((bitN 4 2 : Nat) : Int) ((bitN 4 3 : Nat) : Int) ((bitN 4 4 : Nat) : Int) ((bitN 4 5 : Nat) : Int) ((bitN 4 6 : Nat) : Int) ((bitN 4 7 : Nat) : Int) ((bitN 4 8 : Nat) : Int) ((bitN 4 9 : Nat) : Int) ((bitN 4 10 : Nat) : Int) ((bitN 4 11 : Nat) : Int) ((bitN 4 12 : Nat) : Int) 0 0 0 (o := .head 0 (T55_0 14 ((bitN 4 0 : Nat) : Int) ((bitN 4 1 : Nat) : Int) ((bitN 4 2 : Nat) : Int) ((bitN 4 3 : Nat) : Int) ((bitN 4 4 : Nat) : Int) ((bitN 4 5 : Nat) : Int) ((bitN 4 6 : Nat) : Int) ((bitN 4 7 : Nat) : Int) ((bitN 4 8 : Nat) : Int) ((bitN 4 9 : Nat) : Int) ((bitN 4 10 : Nat) : Int) ((bitN 4 11 : Nat) : Int) ((bitN 4 12 : Nat) : Int) ((bitN 4 13 : Nat) : Int) 0 0)) (by unfold s55_0_13; exact pcK_of (laid_ok 13 (by decide)) ▸ rfl) ?_
  refine s55_0_14_run ((bitN 4 0 : Nat) : Int) ((bitN 4 1 : Nat) : Int) ((bitN 4 2 : Nat) : Int) ((bitN 4 3 : Nat) : Int) ((bitN 4 4 : Nat) : Int) ((bitN 4 5 : Nat) : Int) ((bitN 4 6 : Nat) : Int) ((bitN 4 7 : Nat) : Int) ((bitN 4 8 : Nat) : Int) ((bitN 4 9 : Nat) : Int) ((bitN 4 10 : Nat) : Int) ((bitN 4 11 : Nat) : Int) ((bitN 4 12 : Nat) : Int) ((bitN 4 13 : Nat) : Int) 0 0 (o := .head 0 (T55_0 15 ((bitN 4 0 : Nat) : Int) ((bitN 4 1 : Nat) : Int) ((bitN 4 2 : Nat) : Int) ((bitN 4 3 : Nat) : Int) ((bitN 4 4 : Nat) : Int) ((bitN 4 5 : Nat) : Int) ((bitN 4 6 : Nat) : Int) ((bitN 4 7 : Nat) : Int) ((bitN 4 8 : Nat) : Int) ((bitN 4 9 : Nat) : Int) ((bitN 4 10 : Nat) : Int) ((bitN 4 11 : Nat) : Int) ((bitN 4 12 : Nat) : Int) ((bitN 4 13 : Nat) : Int) ((bitN 4 14 : Nat) : Int) 0)) (by unfold s55_0_14; exact pcK_of (laid_ok 14 (by decide)) ▸ rfl) ?_
  refine s55_0_15_run ((bitN 4 0 : Nat) : Int) ((bitN 4 1 : Nat) : Int) ((bitN 4 2 : Nat) : Int) ((bitN 4 3 : Nat) : Int) ((bitN 4 4 : Nat) : Int) ((bitN 4 5 : Nat) : Int) ((bitN 4 6 : Nat) : Int) ((bitN 4 7 : Nat) : Int) ((bitN 4 8 : Nat) : Int) ((bitN 4 9 : Nat) : Int) ((bitN 4 10 : Nat) : Int) ((bitN 4 11 : Nat) : Int) ((bitN 4 12 : Nat) : Int) ((bitN 4 13 : Nat) : Int) ((bitN 4 14 : Nat) : Int) 0 (o := .head 0 (T55_0 16 ((bitN 4 0 : Nat) : Int) ((bitN 4 1 : Nat) : Int) ((bitN 4 2 : Nat) : Int) ((bitN 4 3 : Nat) : Int) ((bitN 4 4 : Nat) : Int) ((bitN 4 5 : Nat) : Int) ((bitN 4 6 : Nat) : Int) ((bitN 4 7 : Nat) : Int) ((bitN 4 8 : Nat) : Int) ((bitN 4 9 : Nat) : Int) ((bitN 4 10 : Nat) : Int) ((bitN 4 11 : Nat) : Int) ((bitN 4 12 : Nat) : Int) ((bitN 4 13 : Nat) : Int) ((bitN 4 14 : Nat) : Int) ((bitN 4 15 : Nat) : Int))) (by unfold s55_0_15; exact pcK_of (laid_ok 15 (by decide)) ▸ rfl) ?_
  refine s55_0_16_run ((bitN 4 0 : Nat) : Int) ((bitN 4 1 : Nat) : Int) ((bitN 4 2 : Nat) : Int) ((bitN 4 3 : Nat) : Int) ((bitN 4 4 : Nat) : Int) ((bitN 4 5 : Nat) : Int) ((bitN 4 6 : Nat) : Int) ((bitN 4 7 : Nat) : Int) ((bitN 4 8 : Nat) : Int) ((bitN 4 9 : Nat) : Int) ((bitN 4 10 : Nat) : Int) ((bitN 4 11 : Nat) : Int) ((bitN 4 12 : Nat) : Int) ((bitN 4 13 : Nat) : Int) ((bitN 4 14 : Nat) : Int) ((bitN 4 15 : Nat) : Int) (o := .done (.agg tabV)) ?_ (.refl _)
  rfl
def crcStep (n : Nat) (c : UInt8) : Nat :=
  let a := n ^^^ c.toNat
  let b := (a / 16) ^^^ bitN 4 (a % 16)
  (b / 16) ^^^ bitN 4 (b % 16)
theorem half_lt {a : Nat} (h : w32 a) : w32 ((a / 16) ^^^ bitN 4 (a % 16)) := Nat.xor_lt_two_pow (n := 32) (by unfold w32 at *; omega) (bitN_lt 4 (by unfold w32 at *; omega))
theorem crcStep_lt {n : Nat} (c : UInt8) (h : w32 n) : w32 (crcStep n c) := half_lt (half_lt (Nat.xor_lt_two_pow (n := 32) h (by have := c.toNat_lt; omega)))
theorem crcFold_lt : ∀ (s : Bs) {n : Nat}, w32 n → w32 (s.foldl crcStep n)
  | [], _, h => h
  | c :: s, _, h => crcFold_lt s (crcStep_lt c h)
def crc (s : Bs) : Nat := 4294967295 ^^^ s.foldl crcStep 4294967295
theorem crc_lt (s : Bs) : w32 (crc s) := Nat.xor_lt_two_pow (n := 32) (by decide) (crcFold_lt s (by decide))
theorem idx_tab {n : Nat} (h : n < 16) {k : V → R} : idxK tabV (0 + n * 1) k = k (.int .u32 (bitN 4 n : Nat)) := by
  rw [Nat.zero_add, Nat.mul_one]
  exact idxK_of (by simp [tabV, tab_get h])
theorem idx_tab' {n : Nat} (h : n < 16) {k : V → R} : idxK tabV n k = k (.int .u32 (bitN 4 n : Nat)) := idxK_of (by simp [tabV, tab_get h])
theorem half_ok {a : Nat} (h : w32 a) : W .u32 (((BitVec.ofInt (IntKind.bits .u32) (((a : Int)).fdiv (2 ^ (min 4 (IntKind.bits .u32)))) ^^^ BitVec.ofInt (IntKind.bits .u32) ((bitN 4 (a % 16) : Nat) : Int)).toNat : Int)) = (((a / 16) ^^^ bitN 4 (a % 16) : Nat) : Int) := by
  rw [show ((a : Int)).fdiv (2 ^ (min 4 (IntKind.bits .u32))) = ((a / 16 : Nat) : Int) from fdiv_pow a 4]
  exact xor32 (by unfold w32 at *; omega) (bitN_lt 4 (by unfold w32 at *; omega))
theorem tabV_eq : tabV = [V.int .u32 ((bitN 4 0 : Nat) : Int), V.int .u32 ((bitN 4 1 : Nat) : Int), V.int .u32 ((bitN 4 2 : Nat) : Int), V.int .u32 ((bitN 4 3 : Nat) : Int), V.int .u32 ((bitN 4 4 : Nat) : Int), V.int .u32 ((bitN 4 5 : Nat) : Int), V.int .u32 ((bitN 4 6 : Nat) : Int), V.int .u32 ((bitN 4 7 : Nat) : Int), V.int .u32 ((bitN 4 8 : Nat) : Int), V.int .u32 ((bitN 4 9 : Nat) : Int), V.int .u32 ((bitN 4 10 : Nat) : Int), V.int .u32 ((bitN 4 11 : Nat) : Int), V.int .u32 ((bitN 4 12 : Nat) : Int), V.int .u32 ((bitN 4 13 : Nat) : Int), V.int .u32 ((bitN 4 14 : Nat) : Int), V.int .u32 ((bitN 4 15 : Nat) : Int)] := rfl
theorem of_loop (s : Bs) (hs : small s) : ∀ (d i n : Nat), i + d = s.length → w32 n →
    Go qk false 0 fa47 (.head 0 (T47_0 (n : Int) (bytesV s) (s.length : Int) (i : Int) ((bitN 4 0 : Nat) : Int) ((bitN 4 1 : Nat) : Int) ((bitN 4 2 : Nat) : Int) ((bitN 4 3 : Nat) : Int) ((bitN 4 4 : Nat) : Int) ((bitN 4 5 : Nat) : Int) ((bitN 4 6 : Nat) : Int) ((bitN 4 7 : Nat) : Int) ((bitN 4 8 : Nat) : Int) ((bitN 4 9 : Nat) : Int) ((bitN 4 10 : Nat) : Int) ((bitN 4 11 : Nat) : Int) ((bitN 4 12 : Nat) : Int) ((bitN 4 13 : Nat) : Int) ((bitN 4 14 : Nat) : Int) ((bitN 4 15 : Nat) : Int)))
      (.done (.int .u32 ((4294967295 ^^^ (s.drop i).foldl crcStep n : Nat) : Int))) := by
  intro d
  induction d with
  | zero =>
    intro i n hi hn
    refine s47_0_run _ _ _ _  _ _ _ _ _ _ _ _ _ _ _ _ _ _ _ _ ?_ (.refl _)
    unfold s47_0
    rw [decide_eq_false (by omega), cond_false, List.drop_eq_nil_of_le (by omega)]
    have := xor32 (show w32 4294967295 by decide) hn
    rw [show W .u32 (((BitVec.ofInt (IntKind.bits .u32) 4294967295 ^^^ BitVec.ofInt (IntKind.bits .u32) (n : Int)).toNat : Int)) = _ from this]
    rfl
  | succ d ih =>
    intro i n hi hn
    have hsl := hs
    have hlt : i < s.length := by omega
    obtain ⟨c, hc⟩ : ∃ c, s[i]? = some c := ⟨_, List.getElem?_eq_getElem hlt⟩
    have e1 : s.drop i = c :: s.drop (i + 1) := by rw [List.drop_eq_getElem_cons hlt]; congr 1; simpa [List.getElem?_eq_getElem hlt] using hc
    rw [e1, List.foldl_cons]
    refine s47_0_run _ _ _ _  _ _ _ _ _ _ _ _ _ _ _ _ _ _ _ _ ?_ (ih (i + 1) (crcStep n c) (by omega) (crcStep_lt c hn))
    unfold s47_0
    have hcl := c.toNat_lt
    have hg : (bytesV s)[i]? = some (V.int .u8 (c.toNat : Int)) := by simp [bytesV, hc]
    have w3 : W .i64 ((i : Int) + 1) = ((i + 1 : Nat) : Int) := by rw [W_i64 (by omega)]; omega
    have ha : w32 (n ^^^ c.toNat) := Nat.xor_lt_two_pow (n := 32) hn (by omega)
    have hx := xor32 hn (show w32 c.toNat by unfold w32; omega)
    simp only [← tabV_eq]
    rw [decide_eq_true (by omega), cond_true, toNat_cast]
    rw [idxK_of hg, kI_mk, W_u32l (show w32 c.toNat by unfold w32; omega), hx]
    generalize hA : n ^^^ c.toNat = a at *
    rw [show ((a : Nat) : Int).tmod 16 = ((a % 16 : Nat) : Int) from tmod_nat a 16, toNat_cast, gd_of (decide_eq_true (by omega)), gd_of (decide_eq_true (by omega)), idx_tab (by omega), kI_mk, half_ok ha]
    generalize hB : a / 16 ^^^ bitN 4 (a % 16) = b
    have hb : w32 b := hB ▸ half_lt ha
    rw [show ((b : Nat) : Int).tmod 16 = ((b % 16 : Nat) : Int) from tmod_nat b 16, toNat_cast, gd_of (decide_eq_true (by omega)), gd_of (decide_eq_true (by omega)), idx_tab (by omega), kI_mk, half_ok hb, w3]
    subst hB hA
    rw [gd_of (decide_eq_true (by omega))]
    rfl
theorem of_ok (s : Bs) (hs : small s) : pcW qcfg 47 [.str s] = some (.int .u32 ((crc s : Nat) : Int)) := by
  refine e47_run _ ?_ (of_loop s hs s.length 0 4294967295 (by omega) (by decide))
  unfold e47
  rw [pcK_of table_ok, tabV_eq, d90_mk]
  simp [bytesV]
def zeros (n : Nat) : Bs := List.replicate n 0
def sealB (w : Bs) : Bs := w ++ leN 4 (crc w)
def padW (s : Bs) : Bs := s ++ zeros (252 - s.length)
theorem padW_len {s : Bs} (h : s.length ≤ 252) : (padW s).length = 252 := by simp [padW, zeros]; omega
theorem padB_252 {s : Bs} (h : s.length ≤ 252) : padB s 252 = (padW s, 0) := by
  unfold padB
  rw [if_neg (by omega), if_neg (by omega)]; rfl
theorem sealB_len {w : Bs} (h : w.length = 252) : (sealB w).length = 256 := by simp [sealB, leN_len, h]
def sealE (s : Bs) : Bs × Int := if 252 < s.length then ([], 2) else (sealB (padW s), 0)
theorem seal_ok (s : Bs) (hs : small s) : pcW qcfg 53 [.str s] = some (.tup [.str (sealE s).1, .int .i64 (sealE s).2]) := by
  refine e53_done _ ?_
  unfold e53 sealE
  by_cases h : 252 < s.length
  · rw [decide_eq_true (by omega), if_pos h]; rfl
  · have hw := padW_len (s := s) (by omega)
    have hsw : small (padW s) := by unfold small; omega
    have h2 : padB (padW s) 256 = (padW s ++ zeros 4, 0) := by
      unfold padB
      rw [if_neg (by omega), if_neg (by omega), hw]; rfl
    have hl : (padW s ++ zeros 4).length = 256 := by simp [zeros, hw]
    have h3 : putB (padW s ++ zeros 4) 252 4 (crc (padW s)) = (sealB (padW s), 0) := by
      unfold putB
      rw [roomE_ok (by omega) (by omega) (by omega) (by omega), if_pos rfl, if_pos (by have := crc_lt (padW s); unfold w32 at this; simpa using this)]
      congr 1
      simp only [overB, sealB, leN_len]
      rw [show (252 : Int).toNat = 252 from rfl, show (4 : Int).toNat = 4 from rfl, List.take_left' hw, List.drop_eq_nil_of_le (by omega), List.append_nil]
    rw [decide_eq_false (by omega), cond_false, if_neg h, pcK_of (pad_ok s 252 hs), padB_252 (by omega), d32_mk, pcK_of (pad_ok _ 256 hsw), h2, d32_mk, pcK_of (of_ok _ hsw), kI_mk]
    have hc := crc_lt (padW s)
    rw [W_u64 (by unfold w32 at hc; omega), pcK_of (put_ok _ 252 4 _ (by unfold w32 at hc; omega) (show small (padW s ++ zeros 4) by unfold small; omega)), h3, d32_mk]
def openE (p : Bs) : Bs × Int := if p.length = 256 then (if unle ((p.drop 252).take 4) = crc (p.take 252) then (p.take 252, 0) else ([], 5)) else ([], 4)
theorem open_ok (p : Bs) (hs : small p) : pcW qcfg 32 [.str p] = some (.tup [.str (openE p).1, .int .i64 (openE p).2]) := by
  refine e32_done _ ?_
  unfold e32 openE
  by_cases h : p.length = 256
  · have hg : getB p 252 4 = (((unle ((p.drop 252).take 4) : Nat) : Int), 0) := by
      unfold getB
      rw [roomE_ok (by omega) (by omega) (by omega) (by omega), if_pos rfl]; rfl
    have hu := unle_lt ((p.drop 252).take 4)
    have hul : ((p.drop 252).take 4).length = 4 := by simp [h]
    rw [hul] at hu
    rw [if_pos h, show ((p.length : Int) != (256 : Int)) = false by simp [h], cond_false, pcK_of (get_ok p 252 4 hs), hg, d40_mk, gd_of (by simp [h]), pcK_of (of_ok _ (by unfold small; simp; omega)), kI_mk, W_u32l (show w32 _ from hu)]
    by_cases hc : unle ((p.drop 252).take 4) = crc (p.take 252)
    · rw [if_pos hc, hc]; simp [h, gd]
    · rw [if_neg hc, show ((((unle ((p.drop 252).take 4) : Nat) : Int)) != ((crc (p.take 252) : Nat) : Int)) = true by simp; omega]; rfl
  · rw [if_neg h, show ((p.length : Int) != (256 : Int)) = true by simp; omega]; rfl
theorem open_seal {w : Bs} (h : w.length = 252) : openE (sealB w) = (w, 0) := by
  unfold openE
  rw [if_pos (sealB_len h)]
  unfold sealB
  rw [List.drop_left' h, List.take_left' h, List.take_of_length_le (by simp [leN_len]), unle_leN _ _ (show crc w < 256 ^ 4 from crc_lt w), if_pos rfl]
theorem empty_ok : pcW qcfg 57 [] = some (.str (sealB (zeros 252))) := by
  refine e57_done ?_
  unfold e57
  rw [pcK_of (seal_ok [] (by decide)), d32_mk]
  rfl
end Go.Proofs.Ytknapnnpmfhogaa