/-
  What the functions of field hand back, and those of the document's chapter 1.
-/
import Derived.Test.YtknapnnpmfhogaaLite29
import Derived.Test.YtknapnnpmfhogaaP1
namespace Go.Proofs.Ytknapnnpmfhogaa
open Go Go.Lite
set_option linter.unusedSimpArgs false
set_option linter.unusedVariables false
set_option linter.unnecessarySimpa false
abbrev small (s : Bs) : Prop := s.length < 4294967296
def placeE (s : Bs) (n : Int) : Int := if 0 ≤ n ∧ n ≤ (s.length : Int) then 0 else 1
def roomE (s : Bs) (n size : Int) : Int := if size < 1 ∨ 8 < size ∨ ¬ (0 ≤ n ∧ n ≤ (s.length : Int)) then 1 else if (s.length : Int) - n < size then 3 else 0
theorem roomE_zero {s : Bs} {n size : Int} (h : roomE s n size = 0) : 1 ≤ size ∧ size ≤ 8 ∧ 0 ≤ n ∧ n + size ≤ (s.length : Int) := by
  unfold roomE at h
  split at h
  · cases h
  · split at h
    · cases h
    · omega
theorem roomE_ok {s : Bs} {n size : Int} (h1 : 1 ≤ size) (h2 : size ≤ 8) (h3 : 0 ≤ n) (h4 : n + size ≤ (s.length : Int)) : roomE s n size = 0 := by
  unfold roomE
  rw [if_neg (by omega), if_neg (by omega)]
theorem place_ok (s : Bs) (n : Int) : pcW qcfg 63 [.str s, .int .i64 n] = some (.int .i64 (placeE s n)) := by
  refine e63_done _ _ ?_
  unfold e63 placeE
  by_cases h1 : n < 0
  · rw [decide_eq_true h1, if_neg (by omega)]; rfl
  · rw [decide_eq_false h1]
    by_cases h2 : n > (s.length : Int)
    · rw [decide_eq_true h2, if_neg (by omega)]; rfl
    · rw [decide_eq_false h2, if_pos (by omega)]; rfl
theorem room_ok (s : Bs) (n size : Int) (hs : small s) : pcW qcfg 54 [.str s, .int .i64 n, .int .i64 size] = some (.int .i64 (roomE s n size)) := by
  refine e54_done _ _ _ ?_
  unfold e54 roomE
  rw [pcK_of (place_ok s n), kI_mk]
  by_cases h1 : size < 1
  · rw [decide_eq_true h1, if_pos (.inl h1)]; rfl
  rw [decide_eq_false h1, cond_false]
  by_cases h2 : size > 8
  · rw [decide_eq_true h2, if_pos (.inr (.inl h2))]; rfl
  rw [decide_eq_false h2, cond_false]
  unfold placeE
  by_cases h3 : 0 ≤ n ∧ n ≤ (s.length : Int)
  · rw [if_pos h3, if_neg (by omega), W_i64 (by omega)]
    by_cases h4 : (s.length : Int) - n < size
    · rw [decide_eq_true h4, if_pos h4]; rfl
    · rw [decide_eq_false h4, if_neg h4]; rfl
  · rw [if_neg h3, if_pos (.inr (.inr h3))]; rfl
def getB (s : Bs) (n size : Int) : Int × Int := if roomE s n size = 0 then (((unle ((s.drop n.toNat).take size.toNat) : Nat) : Int), 0) else (0, roomE s n size)
theorem get_loop (s : Bs) (n k : Nat) (hk : k ≤ 8) (hl : n + k ≤ s.length) (hs : small s) : ∀ d i, i + d = k →
    Go qk false 0 fa46 (.head 0 (T46_0 s (n : Int) ((unle ((s.drop n).take i) : Nat) : Int) (k : Int) (i : Int))) (.done (.tup [.int .u64 ((unle ((s.drop n).take k) : Nat) : Int), .int .i64 0])) := by
  intro d
  induction d with
  | zero =>
    intro i hi
    have : i = k := by omega
    subst this
    refine s46_0_run _ _ _ _ _ ?_ (.refl _)
    unfold s46_0
    rw [decide_eq_false (by omega)]
    rfl
  | succ d ih =>
    intro i hi
    have hsl := hs
    have hlt : n + i < s.length := by omega
    obtain ⟨c, hc⟩ : ∃ c, s[n + i]? = some c := ⟨_, List.getElem?_eq_getElem hlt⟩
    have hlen : ((s.drop n).take i).length = i := by simp; omega
    have e1 : (s.drop n).take (i + 1) = (s.drop n).take i ++ [c] := by
      rw [List.take_add_one, List.getElem?_drop, hc]; rfl
    have hx : unle ((s.drop n).take i) < 256 ^ i := by have := unle_lt ((s.drop n).take i); rwa [hlen] at this
    refine s46_0_run _ _ _ _ _ (o := .head 0 (T46_0 s (n : Int) ((unle ((s.drop n).take (i + 1)) : Nat) : Int) (k : Int) ((i + 1 : Nat) : Int))) ?_ (ih (i + 1) (by omega))
    unfold s46_0
    have w1 : W .i64 ((n : Int) + (i : Int)) = ((n + i : Nat) : Int) := by rw [W_i64 (by omega)]; omega
    have w2 : W .i64 (8 * (i : Int)) = 8 * (i : Int) := W_i64 (by omega)
    have w3 : W .i64 ((i : Int) + 1) = ((i + 1 : Nat) : Int) := by rw [W_i64 (by omega)]; omega
    rw [decide_eq_true (by omega), cond_true, w1, gd_of (by simp; omega), toNat_cast, idxK_of hc, or64 hx c.toNat_lt (by omega), w2, gd_of (by simp; omega), w3, e1, unle_snoc, hlen]
theorem get_ok (s : Bs) (n size : Int) (hs : small s) : pcW qcfg 46 [.str s, .int .i64 n, .int .i64 size] = some (.tup [.int .u64 (getB s n size).1, .int .i64 (getB s n size).2]) := by
  by_cases h : roomE s n size = 0
  · obtain ⟨h1, h2, h3, h4⟩ := roomE_zero h
    obtain ⟨k, rfl⟩ : ∃ k : Nat, size = (k : Int) := ⟨size.toNat, by omega⟩
    obtain ⟨m, rfl⟩ : ∃ m : Nat, n = (m : Int) := ⟨n.toNat, by omega⟩
    have hl := get_loop s m k (by omega) (by omega) hs k 0 (by omega)
    refine e46_run _ _ _ ?_ (o := .head 0 (T46_0 s (m : Int) 0 (k : Int) 0)) ?_
    · unfold e46
      rw [pcK_of (room_ok s _ _ hs), kI_mk, h]; rfl
    · unfold getB
      rw [if_pos h]
      simpa [unle] using hl
  · refine e46_run _ _ _ ?_ (.refl _)
    unfold e46 getB
    rw [pcK_of (room_ok s _ _ hs), kI_mk, if_neg h, ibne_t h]; rfl
def putB (s : Bs) (n size : Int) (x : Nat) : Bs × Int := if roomE s n size = 0 then (if x < 256 ^ size.toNat then (overB s n.toNat (leN size.toNat x), 0) else ([], 2)) else ([], roomE s n size)
theorem over_prim {av : List V} {v : V} (h : overP av = some v) : pcW qcfg 76 av = some v := pcW_prim (g := overP) rfl h
theorem over_ok (s : Bs) (n : Nat) (t : Bs) (h : n + t.length ≤ s.length) (l : List V) (ns : List Int) (hl : numsOf l = some ns) (ht : (ns.map fun x => UInt8.ofNat x.toNat) = t) :
    pcW qcfg 76 [.str s, .int .i64 (n : Int), .sl l] = some (.str (overB s n t)) := by
  apply over_prim
  have e : l.length = t.length := by rw [← ht, List.length_map, (numsOf_get hl).1]
  simp only [overP, toNat_cast]
  rw [if_pos ⟨Int.natCast_nonneg _, by omega⟩, hl, Option.map_some, ht]
def putRow (x k i : Nat) : List V := (leN i x).map (fun b => V.int .u8 (b.toNat : Int)) ++ List.replicate (k - i) (V.int .u8 0)
theorem putRow_len {x k i : Nat} (h : i ≤ k) : (putRow x k i).length = k := by simp [putRow, leN_len]; omega
theorem putRow_set {x k i : Nat} (h : i < k) : (putRow x k i).set i (V.int .u8 ((x / 256 ^ i % 256 : Nat) : Int)) = putRow x k (i + 1) := by
  unfold putRow
  rw [List.set_append_right _ _ (by simp [leN_len])]
  simp only [List.length_map, leN_len, Nat.sub_self]
  rw [show k - i = (k - (i + 1)) + 1 by omega, List.replicate_succ, List.set_cons_zero, leN_snoc, List.map_append, List.append_assoc]
  congr 1
  simp only [List.map_cons, List.map_nil, List.cons_append, List.nil_append, List.cons.injEq, V.int.injEq, true_and, and_true]
  simp
theorem put_loop (s : Bs) (n k x : Nat) (hk : k ≤ 8) (h1 : 1 ≤ k) (hl : n + k ≤ s.length) (hs : small s) : ∀ d i, i + d = k →
    Go qk false 0 fa62 (.head 0 (T62_0 s (n : Int) (x : Int) (k : Int) (i : Int) (putRow x k i))) (.done (.tup [.str (overB s n (leN k x)), .int .i64 0])) := by
  intro d
  induction d with
  | zero =>
    intro i hi
    have : i = k := by omega
    subst this
    refine s62_0_run _ _ _ _ _ _ ?_ (.refl _)
    unfold s62_0
    have hrow : putRow x i i = bytesV (leN i x) := by simp [putRow, bytesV]
    rw [decide_eq_false (by omega), cond_false, pcK_of (over_ok s n (leN i x) (by rw [leN_len]; exact hl) _ _ (by rw [hrow]; exact numsOf_bytes _) (nums_back _)), kS_mk]
  | succ d ih =>
    intro i hi
    have hsl := hs
    refine s62_0_run _ _ _ _ _ _ (o := .head 0 (T62_0 s (n : Int) (x : Int) (k : Int) ((i + 1 : Nat) : Int) (putRow x k (i + 1)))) ?_ (ih (i + 1) (by omega))
    unfold s62_0
    have w2 : W .i64 (8 * (i : Int)) = 8 * (i : Int) := W_i64 (by omega)
    have w3 : W .i64 ((i : Int) + 1) = ((i + 1 : Nat) : Int) := by rw [W_i64 (by omega)]; omega
    have hget : (putRow x k i)[i]? = some (V.int .u8 0) := by
      unfold putRow
      rw [List.getElem?_append_right (by simp [leN_len])]
      simp only [List.length_map, leN_len, Nat.sub_self]
      rw [List.getElem?_replicate, if_pos (by omega)]
    rw [shr64 (by omega), W_u8_nat]
    rw [decide_eq_true (by omega), cond_true, w2, gd_of (by simp; omega), gd_of (by simp), toNat_cast, gd_of (by rw [putRow_len (by omega)]; simp; omega), idxK_of hget, kI_mk, putRow_set (by omega), w3]
theorem put_ok (s : Bs) (n size : Int) (x : Nat) (hx : x < 18446744073709551616) (hs : small s) : pcW qcfg 62 [.str s, .int .i64 n, .int .i64 size, .int .u64 (x : Int)] = some (.tup [.str (putB s n size x).1, .int .i64 (putB s n size x).2]) := by
  by_cases h : roomE s n size = 0
  · obtain ⟨h1, h2, h3, h4⟩ := roomE_zero h
    obtain ⟨k, rfl⟩ : ∃ k : Nat, size = (k : Int) := ⟨size.toNat, by omega⟩
    obtain ⟨m, rfl⟩ : ∃ m : Nat, n = (m : Int) := ⟨n.toNat, by omega⟩
    have w2 : W .i64 (8 * (k : Int)) = 8 * (k : Int) := W_i64 (by omega)
    have hfits : x < 256 ^ k ↔ x / 256 ^ k = 0 := by rw [Nat.div_eq_zero_iff]; constructor
                                                     · exact .inr
                                                     · rintro (h | h)
                                                       · exact absurd h (by have := Nat.pow_pos (n := k) (show 0 < 256 by decide); omega)
                                                       · exact h
    unfold putB
    rw [if_pos h, toNat_cast, toNat_cast]
    by_cases hb : x < 256 ^ k
    · rw [if_pos hb]
      have hl := put_loop s m k x (by omega) (by omega) (by omega) hs k 0 (by omega)
      have hrow : putRow x k 0 = List.replicate k (V.int .u8 0) := by simp [putRow, leN]
      rw [hrow] at hl
      refine e62_run _ _ _ _ ?_ (o := .head 0 (T62_0 s (m : Int) (x : Int) (k : Int) 0 (List.replicate k (V.int .u8 0)))) (by simpa using hl)
      unfold e62
      rw [pcK_of (room_ok s _ _ hs), kI_mk, h]
      rw [shr64 (by omega), hfits.1 hb, w2, toNat_cast]
      by_cases h8 : (k : Int) < 8
      · simp [h8, show ¬ (8 * (k : Int) < 0) by omega]
        omega
      · simp [h8]
        omega
    · rw [if_neg hb]
      have h8 : (k : Int) < 8 := by
        have : ¬ k = 8 := by
          rintro rfl
          exact hb hx
        omega
      refine e62_run _ _ _ _ ?_ (.refl _)
      unfold e62
      rw [pcK_of (room_ok s _ _ hs), kI_mk, h]
      rw [shr64 (by omega), w2]
      have : 0 < x / 256 ^ k := Nat.pos_of_ne_zero fun e => hb (hfits.2 e)
      have hp : (((x / 256 ^ k : Nat) : Int) > 0) := by omega
      rw [decide_eq_true h8, decide_eq_true hp, decide_eq_false (show ¬ (8 * (k : Int) < 0) by omega)]
      rfl
  · refine e62_run _ _ _ _ ?_ (.refl _)
    unfold e62 putB
    rw [pcK_of (room_ok s _ _ hs), kI_mk, if_neg h, ibne_t h]; rfl
theorem tdiv_nat (n m : Nat) : ((n : Int)).tdiv (m : Int) = ((n / m : Nat) : Int) := rfl
theorem tmod_nat (n m : Nat) : ((n : Int)).tmod (m : Int) = ((n % m : Nat) : Int) := rfl
def padB (s : Bs) (n : Int) : Bs × Int := if n < 0 ∨ 65536 < n then ([], 1) else if n < (s.length : Int) then ([], 2) else (s ++ List.replicate (n.toNat - s.length) 0, 0)
theorem nums_rep (k : Nat) : numsOf (List.replicate k (V.int .u8 0)) = some (List.replicate k 0) := by
  have := numsOf_ints (List.replicate k 0)
  rwa [List.map_replicate] at this
theorem pad_ok (s : Bs) (n : Int) (hs : small s) : pcW qcfg 61 [.str s, .int .i64 n] = some (.tup [.str (padB s n).1, .int .i64 (padB s n).2]) := by
  refine e61_done _ _ ?_
  have hsl := hs
  unfold e61 padB
  by_cases h1 : n < 0
  · rw [decide_eq_true h1, if_pos (.inl h1)]; rfl
  rw [decide_eq_false h1, cond_false]
  by_cases h2 : n > 65536
  · rw [decide_eq_true h2, if_pos (.inr h2)]; rfl
  rw [decide_eq_false h2, cond_false, if_neg (by omega)]
  by_cases h3 : (s.length : Int) > n
  · rw [decide_eq_true h3, if_pos h3]; rfl
  rw [decide_eq_false h3, cond_false, if_neg h3]
  obtain ⟨k, rfl⟩ : ∃ k : Nat, n = ((s.length + k : Nat) : Int) := ⟨(n - s.length).toNat, by omega⟩
  have w : W .i64 (((s.length + k : Nat) : Int) - (s.length : Int)) = (k : Int) := by rw [W_i64 (by omega)]; omega
  rw [w, toNat_cast, toNat_cast, gd_of (by simp), gd_of (by simp), gd_of (by simp; omega), nums_rep, opt_mk, List.map_replicate, show s.length + k - s.length = k by omega]
  rw [gd_of (by simp; omega)]
  rfl
theorem little_ok : ∀ (k n : Nat), n < 18446744073709551616 → k < 4294967296 → pcW qcfg 36 [.int .u64 (n : Int), .int .i64 (k : Int)] = some (.str (leN k n)) := by
  intro k
  induction k with
  | zero =>
    intro n _ _
    refine e36_done _ _ ?_
    unfold e36
    rw [ibeq_t (by omega)]
    rfl
  | succ k ih =>
    intro n hn hk
    refine e36_done _ _ ?_
    unfold e36
    have w1 : W .u64 (((n : Int)).tdiv 256) = ((n / 256 : Nat) : Int) := by
      rw [show ((n : Int)).tdiv 256 = ((n / 256 : Nat) : Int) from rfl]
      exact W_u64 (by omega)
    have w2 : W .i64 (((k + 1 : Nat) : Int) - 1) = (k : Int) := by rw [W_i64 (by omega)]; omega
    have w3 : W .u8 (((n : Int)).tmod 256) = ((n % 256 : Nat) : Int) := by
      rw [show ((n : Int)).tmod 256 = ((n % 256 : Nat) : Int) from rfl, W_u8_nat]
      omega
    rw [ibeq_f (by omega), cond_false, w1, w2, pcK_of (ih (n / 256) (by omega) (by omega)), kS_mk, w3, toNat_cast, gd_of (by simp [leN_len]; omega)]
    rfl
theorem bad_ok (s : Bs) (n size : Int) (hs : small s) : pcW qcfg 34 [.str s, .int .i64 n, .int .i64 size] = some (.int .i64 (roomE s n size)) := by
  refine e34_done _ _ _ ?_
  have hsl := hs
  unfold e34 roomE
  by_cases h1 : size < 1
  · rw [decide_eq_true h1, if_pos (.inl h1)]; rfl
  rw [decide_eq_false h1, cond_false]
  by_cases h2 : size > 8
  · rw [decide_eq_true h2, if_pos (.inr (.inl h2))]; rfl
  rw [decide_eq_false h2, cond_false]
  by_cases h3 : n < 0
  · rw [decide_eq_true h3, if_pos (.inr (.inr (by omega)))]; rfl
  rw [decide_eq_false h3, cond_false]
  by_cases h4 : n > (s.length : Int)
  · rw [decide_eq_true h4, if_pos (.inr (.inr (by omega)))]; rfl
  rw [decide_eq_false h4, cond_false, W_i64 (by omega), if_neg (by omega)]
  by_cases h5 : n + size > (s.length : Int)
  · rw [decide_eq_true h5, if_pos (by omega)]; rfl
  · rw [decide_eq_false h5, if_neg (by omega)]; rfl
theorem getR_loop (s : Bs) (n k : Nat) (hk : k ≤ 8) (hl : n + k ≤ s.length) (hs : small s) : ∀ j, j ≤ k →
    Go qk false 0 fa16 (.head 0 (T16_0 s (n : Int) ((unle ((s.drop (n + j)).take (k - j)) : Nat) : Int) ((j : Int) - 1))) (.done (.tup [.int .u64 ((unle ((s.drop n).take k) : Nat) : Int), .int .i64 0])) := by
  intro j
  have hsl := hs
  induction j with
  | zero =>
    intro _
    refine s16_0_run _ _ _ _ ?_ (.refl _)
    unfold s16_0
    rw [decide_eq_false (by omega)]
    rfl
  | succ j ih =>
    intro hj
    have hlt : n + j < s.length := by omega
    obtain ⟨c, hc⟩ : ∃ c, s[n + j]? = some c := ⟨_, List.getElem?_eq_getElem hlt⟩
    have e1 : (s.drop (n + j)).take (k - j) = c :: (s.drop (n + (j + 1))).take (k - (j + 1)) := by
      rw [List.drop_eq_getElem_cons hlt, show k - j = (k - (j + 1)) + 1 by omega, List.take_succ_cons]
      rw [List.getElem?_eq_getElem hlt] at hc
      injection hc with hc
      rw [hc]; rfl
    generalize hR : (s.drop (n + (j + 1))).take (k - (j + 1)) = r at e1
    have hr : r.length ≤ 7 := by rw [← hR, List.length_take]; omega
    have hu := unle_lt r
    have hp : 256 ^ r.length ≤ 256 ^ 7 := Nat.pow_le_pow_right (by decide) hr
    have h7 : (256 : Nat) ^ 7 = 72057594037927936 := by decide
    have hcl := c.toNat_lt
    refine s16_0_run _ _ _ _ (o := .head 0 (T16_0 s (n : Int) ((unle ((s.drop (n + j)).take (k - j)) : Nat) : Int) ((j : Int) - 1))) ?_ (ih (by omega))
    unfold s16_0
    have w1 : W .i64 ((n : Int) + (((j + 1 : Nat) : Int) - 1)) = ((n + j : Nat) : Int) := by rw [W_i64 (by omega)]; omega
    have w2 : W .u64 (256 * ((unle r : Nat) : Int)) = 256 * ((unle r : Nat) : Int) := W_u64 (by omega)
    have w3 : W .u64 (c.toNat : Int) = (c.toNat : Int) := W_u64 (by omega)
    have w4 : W .u64 (256 * ((unle r : Nat) : Int) + (c.toNat : Int)) = ((unle (c :: r) : Nat) : Int) := by rw [W_u64 (by omega)]; simp only [unle]; omega
    have w5 : W .i64 ((((j + 1 : Nat) : Int) - 1) - 1) = (j : Int) - 1 := by rw [W_i64 (by omega)]; omega
    rw [decide_eq_true (by omega), cond_true, w1, gd_of (by simp; omega), toNat_cast, idxK_of hc, w2, w3, w4, w5, e1]
theorem getR_ok (s : Bs) (n size : Int) (hs : small s) : pcW qcfg 16 [.str s, .int .i64 n, .int .i64 size] = some (.tup [.int .u64 (getB s n size).1, .int .i64 (getB s n size).2]) := by
  by_cases h : roomE s n size = 0
  · obtain ⟨h1, h2, h3, h4⟩ := roomE_zero h
    obtain ⟨k, rfl⟩ : ∃ k : Nat, size = (k : Int) := ⟨size.toNat, by omega⟩
    obtain ⟨m, rfl⟩ : ∃ m : Nat, n = (m : Int) := ⟨n.toNat, by omega⟩
    have hl := getR_loop s m k (by omega) (by omega) hs k (Nat.le_refl _)
    have w : W .i64 ((k : Int) - 1) = (k : Int) - 1 := W_i64 (by omega)
    refine e16_run _ _ _ ?_ (o := .head 0 (T16_0 s (m : Int) 0 ((k : Int) - 1))) ?_
    · unfold e16
      rw [pcK_of (bad_ok s _ _ hs), kI_mk, h, w]; rfl
    · unfold getB
      rw [if_pos h]
      simpa [unle] using hl
  · refine e16_run _ _ _ ?_ (.refl _)
    unfold e16 getB
    rw [pcK_of (bad_ok s _ _ hs), kI_mk, if_neg h, ibne_t h]; rfl
theorem leN_zero : ∀ k, leN k 0 = List.replicate k 0
  | 0 => rfl
  | k + 1 => by rw [leN, Nat.zero_div, leN_zero k]; rfl
theorem padR_ok (s : Bs) (n : Int) (hs : small s) : pcW qcfg 18 [.str s, .int .i64 n] = some (.tup [.str (padB s n).1, .int .i64 (padB s n).2]) := by
  refine e18_done _ _ ?_
  have hsl := hs
  unfold e18 padB
  by_cases h1 : n < 0
  · rw [decide_eq_true h1, if_pos (.inl h1)]; rfl
  rw [decide_eq_false h1, cond_false]
  by_cases h2 : n > 65536
  · rw [decide_eq_true h2, if_pos (.inr h2)]; rfl
  rw [decide_eq_false h2, cond_false, if_neg (by omega)]
  by_cases h3 : (s.length : Int) > n
  · rw [decide_eq_true h3, if_pos h3]; rfl
  rw [decide_eq_false h3, cond_false, if_neg h3]
  obtain ⟨k, rfl⟩ : ∃ k : Nat, n = ((s.length + k : Nat) : Int) := ⟨(n - s.length).toNat, by omega⟩
  have w : W .i64 (((s.length + k : Nat) : Int) - (s.length : Int)) = (k : Int) := by rw [W_i64 (by omega)]; omega
  have hq : pcW qcfg 36 [.int .u64 0, .int .i64 (k : Int)] = some (.str (List.replicate k 0)) := by
    have := little_ok k 0 (by decide) (by omega)
    rwa [leN_zero] at this
  rw [w, toNat_cast, pcK_of hq, kS_mk, show s.length + k - s.length = k by omega, gd_of (by simp; omega)]
def strs (l : List Bs) : List V := l.map V.str
def ints (l : List Int) : List V := l.map (V.int .i64)
theorem strs_len (l : List Bs) : (strs l).length = l.length := by simp [strs]
theorem ints_len (l : List Int) : (ints l).length = l.length := by simp [ints]
theorem idxK_strs {l : List Bs} {n : Nat} {x : Bs} {k : V → R} (h : l[n]? = some x) : idxK (strs l) n k = k (.str x) := idxK_map h
theorem idxK_ints {l : List Int} {n : Nat} {x : Int} {k : V → R} (h : l[n]? = some x) : idxK (ints l) n k = k (.int .i64 x) := idxK_map h
theorem intsR_loop (a b : List Int) (hab : a.length = b.length) (hl : a.length < 4294967296) : ∀ (r s : List Int) (k : Nat), a.drop k = r → b.drop k = s →
    Go qk false 0 fa35 (.head 0 (T35_0 (ints a) (ints b) (k : Int))) (.done (.bool (r == s))) := by
  intro r
  induction r with
  | nil =>
    intro s k hr hs
    have h1 := drop_nil hr
    have : s = [] := by rw [← hs]; exact List.drop_eq_nil_iff.2 (by omega)
    subst this
    refine s35_0_run _ _ _ ?_ (.refl _)
    unfold s35_0
    rw [decide_eq_false (by first | omega | (simp only [ints_len]; omega))]
    rfl
  | cons x r ih =>
    intro s k hr hs
    obtain ⟨h1, h2, h3⟩ := drop_cons hr
    cases s with
    | nil => have := drop_nil hs; omega
    | cons y s =>
      obtain ⟨h4, h5, h6⟩ := drop_cons hs
      have w : W .i64 ((k : Int) + 1) = ((k + 1 : Nat) : Int) := by rw [W_i64 (by omega)]; omega
      by_cases e : x = y
      · subst e
        refine s35_0_run _ _ _ (o := .head 0 (T35_0 (ints a) (ints b) ((k + 1 : Nat) : Int))) ?_ ?_
        · unfold s35_0
          rw [decide_eq_true (by first | omega | (simp only [ints_len]; omega)), cond_true, gd_of (by simp), toNat_cast, idxK_ints h1, kI_mk, gd_of (by simp), idxK_ints h4, kI_mk, w]
          simp
        · have := ih s (k + 1) h2 h5
          simpa using this
      · refine s35_0_run _ _ _ ?_ (.refl _)
        have e2 : ((x :: r) == (y :: s)) = false := by
          simp [e]
        unfold s35_0
        rw [decide_eq_true (by first | omega | (simp only [ints_len]; omega)), cond_true, gd_of (by simp), toNat_cast, idxK_ints h1, kI_mk, gd_of (by simp), idxK_ints h4, kI_mk, (show (x != y) = true by simpa using e), e2]
        rfl
theorem intsR_ok (a b : List Int) (hl : a.length < 4294967296) : pcW qcfg 35 [.sl (ints a), .sl (ints b)] = some (.bool (a == b)) := by
  by_cases h : a.length = b.length
  · refine e35_run _ _ (o := .head 0 (T35_0 (ints a) (ints b) ((0 : Nat) : Int))) ?_ (intsR_loop a b h hl a b 0 rfl rfl)
    unfold e35
    rw [ints_len, ints_len, ibne_f (by omega)]
    rfl
  · refine e35_run _ _ ?_ (.refl _)
    unfold e35
    have : (a == b) = false := by
      simp only [beq_eq_false_iff_ne, ne_eq]
      rintro rfl
      exact h rfl
    rw [ints_len, ints_len, ibne_t (by omega), this]
    rfl
end Go.Proofs.Ytknapnnpmfhogaa