/-
  What the functions of field hand back, and those of the document's chapter 1.
-/
import Derived.Test.YtndkhelglfakfaaLite29
import Derived.Test.YtndkhelglfakfaaQ1
namespace Go.Proofs.Ytndkhelglfakfaa
open Go Go.Lite
set_option linter.unusedSimpArgs false
set_option linter.unusedVariables false

abbrev small (s : Bs) : Prop := s.length < 4294967296

/-! ### places -/

def placeE (s : Bs) (n : Int) : Int := if 0 ≤ n ∧ n ≤ (s.length : Int) then 0 else 1
def roomE (s : Bs) (n size : Int) : Int := if size < 1 ∨ 8 < size ∨ ¬ (0 ≤ n ∧ n ≤ (s.length : Int)) then 1 else if (s.length : Int) - n < size then 3 else 0
theorem roomE_zero {s : Bs} {n size : Int} (h : roomE s n size = 0) : 1 ≤ size ∧ size ≤ 8 ∧ 0 ≤ n ∧ n + size ≤ (s.length : Int) := by
  unfold roomE at h
  split at h
  · cases h
  · split at h
    · cases h
    · omega
theorem roomE_ok {s : Bs} {n size : Int} (h1 : 1 ≤ size) (h2 : size ≤ 8) (h3 : 0 ≤ n) (h4 : n + size ≤ (s.length : Int)) : roomE s n size = 0 := by
  unfold roomE
  rw [if_neg (by omega), if_neg (by omega)]

theorem place_ok (s : Bs) (n : Int) : pcW qcfg 69 [.str s, .int .i64 n] = some (.int .i64 (placeE s n)) := by
  refine e69_done _ _ ?_
  unfold e69 placeE
  by_cases h1 : n < 0
  · rw [decide_eq_true h1, if_neg (by omega)]; rfl
  · rw [decide_eq_false h1]
    by_cases h2 : n > (s.length : Int)
    · rw [decide_eq_true h2, if_neg (by omega)]; rfl
    · rw [decide_eq_false h2, if_pos (by omega)]; rfl
theorem room_ok (s : Bs) (n size : Int) (hs : small s) : pcW qcfg 67 [.str s, .int .i64 n, .int .i64 size] = some (.int .i64 (roomE s n size)) := by
  refine e67_done _ _ _ ?_
  unfold e67 roomE
  rw [pcK_of (place_ok s n), kI_mk]
  by_cases h1 : size < 1
  · rw [decide_eq_true h1, if_pos (.inl h1)]; rfl
  rw [decide_eq_false h1, cond_false]
  by_cases h2 : size > 8
  · rw [decide_eq_true h2, if_pos (.inr (.inl h2))]; rfl
  rw [decide_eq_false h2, cond_false]
  unfold placeE
  by_cases h3 : 0 ≤ n ∧ n ≤ (s.length : Int)
  · rw [if_pos h3, if_neg (by omega), W_i64 (by omega)]
    by_cases h4 : (s.length : Int) - n < size
    · rw [decide_eq_true h4, if_pos h4]; rfl
    · rw [decide_eq_false h4, if_neg h4]; rfl
  · rw [if_neg h3, if_pos (.inr (.inr h3))]; rfl

/-! ### Get, Put -/

def getB (s : Bs) (n size : Int) : Int × Int := if roomE s n size = 0 then (((unle ((s.drop n.toNat).take size.toNat) : Nat) : Int), 0) else (0, roomE s n size)

theorem get_loop (s : Bs) (n k : Nat) (hk : k ≤ 8) (hl : n + k ≤ s.length) (hs : small s) : ∀ d i, i + d = k →
    Go qk false 0 fa63 (.head 0 (T63_0 s (n : Int) ((unle ((s.drop n).take i) : Nat) : Int) (k : Int) (i : Int))) (.done (.tup [.int .u64 ((unle ((s.drop n).take k) : Nat) : Int), .int .i64 0])) := by
  intro d
  induction d with
  | zero =>
    intro i hi
    have : i = k := by omega
    subst this
    refine s63_0_run _ _ _ _ _ ?_ (.refl _)
    unfold s63_0
    rw [decide_eq_false (by omega)]
    rfl
  | succ d ih =>
    intro i hi
    have hsl := hs
    have hlt : n + i < s.length := by omega
    obtain ⟨c, hc⟩ : ∃ c, s[n + i]? = some c := ⟨_, List.getElem?_eq_getElem hlt⟩
    have hlen : ((s.drop n).take i).length = i := by simp; omega
    have e1 : (s.drop n).take (i + 1) = (s.drop n).take i ++ [c] := by
      rw [List.take_add_one, List.getElem?_drop, hc]; rfl
    have hx : unle ((s.drop n).take i) < 256 ^ i := by have := unle_lt ((s.drop n).take i); rwa [hlen] at this
    refine s63_0_run _ _ _ _ _ (o := .head 0 (T63_0 s (n : Int) ((unle ((s.drop n).take (i + 1)) : Nat) : Int) (k : Int) ((i + 1 : Nat) : Int))) ?_ (ih (i + 1) (by omega))
    unfold s63_0
    have w1 : W .i64 ((n : Int) + (i : Int)) = ((n + i : Nat) : Int) := by rw [W_i64 (by omega)]; omega
    have w2 : W .i64 (8 * (i : Int)) = 8 * (i : Int) := W_i64 (by omega)
    have w3 : W .i64 ((i : Int) + 1) = ((i + 1 : Nat) : Int) := by rw [W_i64 (by omega)]; omega
    rw [decide_eq_true (by omega), cond_true, w1, gd_of (by simp; omega), toNat_cast, idxK_of hc, or64 hx c.toNat_lt (by omega), w2, gd_of (by simp; omega), w3, e1, unle_snoc, hlen]
theorem get_ok (s : Bs) (n size : Int) (hs : small s) : pcW qcfg 63 [.str s, .int .i64 n, .int .i64 size] = some (.tup [.int .u64 (getB s n size).1, .int .i64 (getB s n size).2]) := by
  by_cases h : roomE s n size = 0
  · obtain ⟨h1, h2, h3, h4⟩ := roomE_zero h
    obtain ⟨k, rfl⟩ : ∃ k : Nat, size = (k : Int) := ⟨size.toNat, by omega⟩
    obtain ⟨m, rfl⟩ : ∃ m : Nat, n = (m : Int) := ⟨n.toNat, by omega⟩
    have hl := get_loop s m k (by omega) (by omega) hs k 0 (by omega)
    refine e63_run _ _ _ ?_ (o := .head 0 (T63_0 s (m : Int) 0 (k : Int) 0)) ?_
    · unfold e63
      rw [pcK_of (room_ok s _ _ hs), kI_mk, h]; rfl
    · unfold getB
      rw [if_pos h]
      simpa [unle] using hl
  · refine e63_run _ _ _ ?_ (.refl _)
    unfold e63 getB
    rw [pcK_of (room_ok s _ _ hs), kI_mk, if_neg h, ibne_t h]; rfl

def putB (s : Bs) (n size : Int) (x : Nat) : Bs × Int := if roomE s n size = 0 then (if x < 256 ^ size.toNat then (overB s n.toNat (leN size.toNat x), 0) else ([], 2)) else ([], roomE s n size)

theorem over_prim {av : List V} {v : V} (h : overP av = some v) : pcW qcfg 68 av = some v := pcW_prim (g := overP) rfl h
theorem over_ok (s : Bs) (n : Nat) (t : Bs) (h : n + t.length ≤ s.length) (l : List V) (ns : List Int) (hl : numsOf l = some ns) (ht : (ns.map fun x => UInt8.ofNat x.toNat) = t) :
    pcW qcfg 68 [.str s, .int .i64 (n : Int), .sl l] = some (.str (overB s n t)) := by
  apply over_prim
  have e : l.length = t.length := by rw [← ht, List.length_map, (numsOf_get hl).1]
  simp only [overP, toNat_cast]
  rw [if_pos ⟨Int.natCast_nonneg _, by omega⟩, hl, Option.map_some, ht]

def putRow (x k i : Nat) : List V := (leN i x).map (fun b => V.int .u8 (b.toNat : Int)) ++ List.replicate (k - i) (V.int .u8 0)
theorem putRow_len {x k i : Nat} (h : i ≤ k) : (putRow x k i).length = k := by simp [putRow, leN_len]; omega
theorem putRow_set {x k i : Nat} (h : i < k) : (putRow x k i).set i (V.int .u8 ((x / 256 ^ i % 256 : Nat) : Int)) = putRow x k (i + 1) := by
  unfold putRow
  rw [List.set_append_right _ _ (by simp [leN_len])]
  simp only [List.length_map, leN_len, Nat.sub_self]
  rw [show k - i = (k - (i + 1)) + 1 by omega, List.replicate_succ, List.set_cons_zero, leN_snoc, List.map_append, List.append_assoc]
  congr 1
  simp only [List.map_cons, List.map_nil, List.cons_append, List.nil_append, List.cons.injEq, V.int.injEq, true_and, and_true]
  simp

theorem put_loop (s : Bs) (n k x : Nat) (hk : k ≤ 8) (h1 : 1 ≤ k) (hl : n + k ≤ s.length) (hs : small s) : ∀ d i, i + d = k →
    Go qk false 0 fa47 (.head 0 (T47_0 s (n : Int) (x : Int) (k : Int) (i : Int) (putRow x k i))) (.done (.tup [.str (overB s n (leN k x)), .int .i64 0])) := by
  intro d
  induction d with
  | zero =>
    intro i hi
    have : i = k := by omega
    subst this
    refine s47_0_run _ _ _ _ _ _ ?_ (.refl _)
    unfold s47_0
    have hrow : putRow x i i = bytesV (leN i x) := by simp [putRow, bytesV]
    rw [decide_eq_false (by omega), cond_false, pcK_of (over_ok s n (leN i x) (by rw [leN_len]; exact hl) _ _ (by rw [hrow]; exact numsOf_bytes _) (nums_back _)), kS_mk]
  | succ d ih =>
    intro i hi
    have hsl := hs
    refine s47_0_run _ _ _ _ _ _ (o := .head 0 (T47_0 s (n : Int) (x : Int) (k : Int) ((i + 1 : Nat) : Int) (putRow x k (i + 1)))) ?_ (ih (i + 1) (by omega))
    unfold s47_0
    have w2 : W .i64 (8 * (i : Int)) = 8 * (i : Int) := W_i64 (by omega)
    have w3 : W .i64 ((i : Int) + 1) = ((i + 1 : Nat) : Int) := by rw [W_i64 (by omega)]; omega
    have hget : (putRow x k i)[i]? = some (V.int .u8 0) := by
      unfold putRow
      rw [List.getElem?_append_right (by simp [leN_len])]
      simp only [List.length_map, leN_len, Nat.sub_self]
      rw [List.getElem?_replicate, if_pos (by omega)]
    rw [shr64 (by omega), W_u8_nat]
    rw [decide_eq_true (by omega), cond_true, w2, gd_of (by simp; omega), gd_of (by simp), toNat_cast, gd_of (by rw [putRow_len (by omega)]; simp; omega), idxK_of hget, kI_mk, putRow_set (by omega), w3]
theorem put_ok (s : Bs) (n size : Int) (x : Nat) (hx : x < 18446744073709551616) (hs : small s) : pcW qcfg 47 [.str s, .int .i64 n, .int .i64 size, .int .u64 (x : Int)] = some (.tup [.str (putB s n size x).1, .int .i64 (putB s n size x).2]) := by
  by_cases h : roomE s n size = 0
  · obtain ⟨h1, h2, h3, h4⟩ := roomE_zero h
    obtain ⟨k, rfl⟩ : ∃ k : Nat, size = (k : Int) := ⟨size.toNat, by omega⟩
    obtain ⟨m, rfl⟩ : ∃ m : Nat, n = (m : Int) := ⟨n.toNat, by omega⟩
    have w2 : W .i64 (8 * (k : Int)) = 8 * (k : Int) := W_i64 (by omega)
    have hfits : x < 256 ^ k ↔ x / 256 ^ k = 0 := by rw [Nat.div_eq_zero_iff]; constructor
                                                     · exact .inr
                                                     · rintro (h | h)
                                                       · exact absurd h (by have := Nat.pow_pos (n := k) (show 0 < 256 by decide); omega)
                                                       · exact h
    unfold putB
    rw [if_pos h, toNat_cast, toNat_cast]
    by_cases hb : x < 256 ^ k
    · rw [if_pos hb]
      have hl := put_loop s m k x (by omega) (by omega) (by omega) hs k 0 (by omega)
      have hrow : putRow x k 0 = List.replicate k (V.int .u8 0) := by simp [putRow, leN]
      rw [hrow] at hl
      refine e47_run _ _ _ _ ?_ (o := .head 0 (T47_0 s (m : Int) (x : Int) (k : Int) 0 (List.replicate k (V.int .u8 0)))) (by simpa using hl)
      unfold e47
      rw [pcK_of (room_ok s _ _ hs), kI_mk, h]
      rw [shr64 (by omega), hfits.1 hb, w2, toNat_cast]
      by_cases h8 : (k : Int) < 8
      · simp [h8, show ¬ (8 * (k : Int) < 0) by omega]
        omega
      · simp [h8]
        omega
    · rw [if_neg hb]
      have h8 : (k : Int) < 8 := by
        have : ¬ k = 8 := by
          rintro rfl
          exact hb hx
        omega
      refine e47_run _ _ _ _ ?_ (.refl _)
      unfold e47
      rw [pcK_of (room_ok s _ _ hs), kI_mk, h]
      rw [shr64 (by omega), w2]
      have : 0 < x / 256 ^ k := Nat.pos_of_ne_zero fun e => hb (hfits.2 e)
      have hp : (((x / 256 ^ k : Nat) : Int) > 0) := by omega
      rw [decide_eq_true h8, decide_eq_true hp, decide_eq_false (show ¬ (8 * (k : Int) < 0) by omega)]
      rfl
  · refine e47_run _ _ _ _ ?_ (.refl _)
    unfold e47 putB
    rw [pcK_of (room_ok s _ _ hs), kI_mk, if_neg h, ibne_t h]; rfl

/-! ### texts -/

/-- the text at a place that is there -/
def textB (s : Bs) (n : Int) : Bs × Int × Int :=
  if 0 ≤ n ∧ n ≤ (s.length : Int) then
    match s.drop n.toNat with
    | [] => ([], 0, 3)
    | c :: r => if r.length < c.toNat then ([], 0, 3) else (r.take c.toNat, n + 1 + c.toNat, 0)
  else ([], 0, 1)
theorem text_ok (s : Bs) (n : Int) (hs : small s) : pcW qcfg 64 [.str s, .int .i64 n] = some (.tup [.str (textB s n).1, .int .i64 (textB s n).2.1, .int .i64 (textB s n).2.2]) := by
  refine e64_done _ _ ?_
  have hsl := hs
  unfold e64 textB
  rw [pcK_of (place_ok s n), kI_mk]
  unfold placeE
  by_cases h : 0 ≤ n ∧ n ≤ (s.length : Int)
  · rw [if_pos h, if_pos h]
    obtain ⟨m, rfl⟩ : ∃ m : Nat, n = (m : Int) := ⟨n.toNat, by omega⟩
    rw [toNat_cast]
    cases hd : s.drop m with
    | nil =>
      have : s.length ≤ m := List.drop_eq_nil_iff.1 hd
      rw [ibeq_t (show (m : Int) = (s.length : Int) by omega)]
      rfl
    | cons c r =>
      obtain ⟨h1, h2, h3⟩ := drop_cons hd
      have hrl : r.length + m + 1 = s.length := by
        have := congrArg List.length hd
        simp at this
        omega
      have hcl := c.toNat_lt
      have w1 : W .i64 (c.toNat : Int) = (c.toNat : Int) := W_i64 (by omega)
      have w2 : W .i64 (W .i64 ((s.length : Int) - (m : Int)) - 1) = (r.length : Int) := by
        rw [W_i64 (n := (s.length : Int) - (m : Int)) (by omega), W_i64 (by omega)]; omega
      have w3 : W .i64 ((m : Int) + 1) = ((m + 1 : Nat) : Int) := by rw [W_i64 (by omega)]; omega
      have w4 : W .i64 (((m + 1 : Nat) : Int) + (c.toNat : Int)) = ((m + 1 + c.toNat : Nat) : Int) := by rw [W_i64 (by omega)]; omega
      rw [ibeq_f (show (m : Int) ≠ (s.length : Int) by omega)]
      simp only [idxK_of h1, w1, w2, w3, w4, toNat_cast]
      by_cases hb : r.length < c.toNat
      · rw [if_pos hb, decide_eq_true (show (r.length : Int) < (c.toNat : Int) by omega)]
        simp
      · rw [if_neg hb, decide_eq_false (show ¬ (r.length : Int) < (c.toNat : Int) by omega)]
        have e1 : (s.take (m + 1 + c.toNat)).drop (m + 1) = r.take c.toNat := by
          rw [List.drop_take, show m + 1 + c.toNat - (m + 1) = c.toNat by omega]
          congr 1
        rw [e1]
        simp
        omega
  · rw [if_neg h, if_neg h]; rfl
end Go.Proofs.Ytndkhelglfakfaa
