/-
  Which inner page bytes are.
-/
import Derived.Test.YtndkhelglfakfaaQJ
namespace Go.Proofs.Ytndkhelglfakfaa
open Go Go.Lite
set_option linter.unusedSimpArgs false
set_option linter.unusedVariables false

theorem text_eq {s t : Bs} {n m e : Int} (h : textB s n = (t, m, e)) (hs : small s) : pcW qcfg 64 [.str s, .int .i64 n] = some (.tup [.str t, .int .i64 m, .int .i64 e]) := by
  rw [text_ok s n hs, h]
theorem textR_eq {s t : Bs} {n m e : Int} (h : textB s n = (t, m, e)) (hs : small s) : pcW qcfg 39 [.str s, .int .i64 n] = some (.tup [.str t, .int .i64 m, .int .i64 e]) := by
  rw [textR_ok s n hs, h]
theorem get_eq {s : Bs} {n size x e : Int} (h : getB s n size = (x, e)) (hs : small s) : pcW qcfg 63 [.str s, .int .i64 n, .int .i64 size] = some (.tup [.int .u64 x, .int .i64 e]) := by
  rw [get_ok s n size hs, h]
theorem get2_lt (s : Bs) (n : Int) : 0 ≤ (getB s n 2).1 ∧ (getB s n 2).1 < 65536 := by
  unfold getB
  split
  · have h1 := unle_lt ((s.drop n.toNat).take (2 : Int).toNat)
    have h2 : ((s.drop n.toNat).take (2 : Int).toNat).length ≤ 2 := by rw [List.length_take]; exact Nat.min_le_left _ _
    have h3 : 256 ^ ((s.drop n.toNat).take (2 : Int).toNat).length ≤ 256 ^ 2 := Nat.pow_le_pow_right (by decide) h2
    have h4 : (256 : Nat) ^ 2 = 65536 := by decide
    constructor
    · exact Int.natCast_nonneg _
    · show ((unle _ : Nat) : Int) < 65536
      omega
  · simp
theorem num_eq {s : Bs} {n x e : Int} (h : getB s n 2 = (x, e)) (hs : small s) : pcW qcfg 38 [.str s, .int .i64 n] = some (.int .i64 x) := by
  refine e38_done _ _ ?_
  have h2 := get2_lt s n
  rw [h] at h2
  simp only at h2
  unfold e38
  rw [pcK_of (getR_ok s n 2 hs), h, d97_mk, W_i64 (by omega)]

/-! ### parts -/

def pRow (r : Bs) : Option ((Bs × Int) × Bs) :=
  match r with
  | [] => none
  | c :: r => if r.length < c.toNat + 2 then none else some ((r.take c.toNat, ((unle ((r.drop c.toNat).take 2) : Nat) : Int)), r.drop (c.toNat + 2))
def pRows : Nat → Bs → Option (List (Bs × Int) × Bs)
  | 0, r => some ([], r)
  | j + 1, r => (pRow r).bind fun x => (pRows j x.2).map fun y => (x.1 :: y.1, y.2)
theorem unle_two {l : Bs} (h : l.length = 2) : leN 2 (unle l) = l := by
  have := leN_unle l
  rwa [h] at this
theorem pRow_eq {r r' : Bs} {t : Bs} {k : Int} (h : pRow r = some ((t, k), r')) : r = txB t ++ leN 2 k.toNat ++ r' ∧ t.length ≤ 255 ∧ 0 ≤ k ∧ k < 65536 := by
  unfold pRow at h
  cases r with
  | nil => cases h
  | cons c r =>
    simp only at h
    split at h
    · cases h
    rename_i hl
    have hl : c.toNat + 2 ≤ r.length := by omega
    simp only [Option.some.injEq, Prod.mk.injEq] at h
    obtain ⟨⟨rfl, rfl⟩, rfl⟩ := h
    have hc := c.toNat_lt
    have h2 : ((r.drop c.toNat).take 2).length = 2 := by simp; omega
    have hu := unle_lt ((r.drop c.toNat).take 2)
    rw [h2] at hu
    have h256 : (256 : Nat) ^ 2 = 65536 := by decide
    have ht : (r.take c.toNat).length = c.toNat := by simp; omega
    refine ⟨?_, by rw [ht]; omega, by omega, by omega⟩
    rw [toNat_cast, unle_two h2]
    unfold txB
    rw [ht, UInt8.ofNat_toNat]
    simp only [List.cons_append, List.append_assoc, List.cons.injEq, true_and]
    have e1 := List.take_append_drop c.toNat r
    have e2 := List.take_append_drop 2 (r.drop c.toNat)
    rw [List.drop_drop] at e2
    rw [e2, e1]
theorem pRow_of {t r' : Bs} {k : Nat} (ht : t.length ≤ 255) (hk : k < 65536) : pRow (txB t ++ leN 2 k ++ r') = some ((t, (k : Int)), r') := by
  have e : (UInt8.ofNat t.length).toNat = t.length := by simp; omega
  have hl2 := leN_len 2 k
  unfold pRow
  simp only [List.cons_append, List.append_assoc, e]
  rw [if_neg (by first | (simp [hl2]; done) | (simp [hl2]; omega))]
  have e1 : (t ++ (leN 2 k ++ r')).take t.length = t := by simp
  have e2 : (t ++ (leN 2 k ++ r')).drop t.length = leN 2 k ++ r' := by simp
  have e3 : (leN 2 k ++ r').take 2 = leN 2 k := by
    rw [List.take_append_of_le_length (by omega), List.take_of_length_le (by omega)]
  have e4 : (t ++ (leN 2 k ++ r')).drop (t.length + 2) = r' := by
    rw [← List.drop_drop, e2, List.drop_append, List.drop_eq_nil_of_le (by omega), hl2]
    first | done | simp
  rw [e1, e2, e3, e4, unle_leN 2 k (by have : (256 : Nat) ^ 2 = 65536 := by decide
                                       omega)]
theorem pRows_eq : ∀ {j : Nat} {r r' : Bs} {l : List (Bs × Int)}, pRows j r = some (l, r') → r = rowsB l ++ r' ∧ l.length = j ∧ ∀ x ∈ l, x.1.length ≤ 255
  | 0, r, r', l, h => by
    simp only [pRows, Option.some.injEq, Prod.mk.injEq] at h
    obtain ⟨rfl, rfl⟩ := h
    exact ⟨rfl, rfl, by simp⟩
  | j + 1, r, r', l, h => by
    simp only [pRows, Option.bind_eq_some_iff, Option.map_eq_some_iff, Prod.mk.injEq] at h
    obtain ⟨⟨⟨t, k⟩, r1⟩, h1, ⟨l2, r2⟩, h2, rfl, rfl⟩ := h
    obtain ⟨e1, h3, h4, h5⟩ := pRow_eq h1
    obtain ⟨e2, h6, h7⟩ := pRows_eq h2
    refine ⟨?_, by simp [h6], ?_⟩
    · rw [e1, rowsB, List.append_assoc, List.append_assoc, List.append_assoc, ← e2]
    · intro x hx
      rcases List.mem_cons.1 hx with rfl | hx
      · exact h3
      · exact h7 x hx
theorem pRows_of : ∀ (l : List (Bs × Int)) (r' : Bs), (∀ x ∈ l, x.1.length ≤ 255 ∧ pgB x.2 = true) → pRows l.length (rowsB l ++ r') = some (l, r')
  | [], r', _ => rfl
  | (t, k) :: l, r', h => by
    obtain ⟨h1, h2⟩ := h (t, k) (by simp)
    simp only at h1 h2
    have h3 := pg_lt h2
    obtain ⟨kn, rfl⟩ : ∃ kn : Nat, k = (kn : Int) := ⟨k.toNat, by omega⟩
    have ih := pRows_of l r' fun x hx => h x (by simp [hx])
    rw [List.length_cons, pRows, rowsB, toNat_cast, List.append_assoc (txB t ++ leN 2 kn), pRow_of h1 (by omega), Option.bind_some, ih]
    rfl

/-- a text, and a number behind it: as they are read -/
theorem step_ok {s : Bs} {m : Nat} {t : Bs} {k : Int} {r' : Bs} (h : pRow (s.drop m) = some ((t, k), r')) :
    textB s (m : Int) = (t, (m : Int) + 1 + t.length, 0) ∧ getB s ((m : Int) + 1 + t.length) 2 = (k, 0) ∧ s.drop (m + 1 + t.length + 2) = r' ∧ m + 1 + t.length + 2 ≤ s.length := by
  unfold pRow at h
  cases hd : s.drop m with
  | nil => rw [hd] at h; cases h
  | cons c r =>
    rw [hd] at h
    simp only at h
    split at h
    · cases h
    rename_i hl
    simp only [Option.some.injEq, Prod.mk.injEq] at h
    obtain ⟨⟨rfl, rfl⟩, rfl⟩ := h
    obtain ⟨h1, h2, h3⟩ := drop_cons hd
    have hrl : r.length + m + 1 = s.length := by
      have := congrArg List.length hd
      simp at this
      omega
    have ht : (r.take c.toNat).length = c.toNat := by simp; omega
    have hdr : s.drop (m + 1 + c.toNat) = r.drop c.toNat := by rw [← List.drop_drop, h2]
    rw [ht]
    refine ⟨?_, ?_, ?_, by omega⟩
    · unfold textB
      rw [if_pos (by omega), toNat_cast, hd]
      simp only
      rw [if_neg (by omega)]
    · unfold getB
      rw [if_pos (roomE_ok (by omega) (by omega) (by omega) (by omega))]
      rw [show ((m : Int) + 1 + (c.toNat : Int)).toNat = m + 1 + c.toNat by omega, hdr]
      rfl
    · rw [← h2, List.drop_drop]
      congr 1
/-- or not -/
theorem step_bad {s : Bs} {m : Nat} (hm : m ≤ s.length) (h : pRow (s.drop m) = none) : ∀ {t : Bs} {to e : Int}, textB s (m : Int) = (t, to, e) → (e ≠ 0 ∧ t = [] ∧ to = 0) ∨ (e = 0 ∧ t.length ≤ 255 ∧ to = (m : Int) + 1 + t.length ∧ (s.length : Int) < to + 2 ∧ to ≤ (s.length : Int) ∧ (getB s to 2) = (0, 3)) := by
  intro t to e he
  unfold pRow at h
  unfold textB at he
  rw [if_pos (by omega), toNat_cast] at he
  cases hd : s.drop m with
  | nil => rw [hd] at he; simp only [Prod.mk.injEq] at he; exact .inl ⟨by omega, he.1.symm, he.2.1.symm⟩
  | cons c r =>
    rw [hd] at h he
    obtain ⟨h1, h2, h3⟩ := drop_cons hd
    have hrl : r.length + m + 1 = s.length := by
      have := congrArg List.length hd
      simp at this
      omega
    have hcl := c.toNat_lt
    simp only at h he
    split at he
    · simp only [Prod.mk.injEq] at he; exact .inl ⟨by omega, he.1.symm, he.2.1.symm⟩
    rename_i hx
    simp only [Prod.mk.injEq] at he
    obtain ⟨rfl, rfl, rfl⟩ := he
    split at h
    · rename_i hy
      have ht : (r.take c.toNat).length = c.toNat := by simp; omega
      refine .inr ⟨rfl, by omega, by rw [ht], by omega, by omega, ?_⟩
      have : roomE s ((m : Int) + 1 + (c.toNat : Int)) 2 = 3 := by
        unfold roomE
        rw [if_neg (by omega), if_pos (by omega)]
      unfold getB
      rw [if_neg (by rw [this]; decide), this]
    · cases h

/-! ### the whole -/

def finB (n : Inn) (rest : Bs) : Option Inn := if rightB n && bareB rest == [] then some n else none
def parseB (s : Bs) : Option Inn :=
  if s.length ≤ 4 ∨ 252 < s.length ∨ s.head? ≠ some 78 then none else
  (pRow (s.drop 4)).bind fun x => (pRows (s.getD 1 0).toNat x.2).bind fun y =>
    finB ⟨y.1.map (·.1), x.1.2 :: y.1.map (·.2), x.1.1, ((unle ((s.drop 2).take 2) : Nat) : Int)⟩ y.2
abbrev n00 : Inn := ⟨[], [], [], 0⟩
def decO : Option Inn → V
  | some n => .tup [eI n, .int .i64 0]
  | none => .tup [eI n00, .int .i64 4]

theorem dropWhile_nil {α : Type} {p : α → Bool} : ∀ {l : List α}, l.dropWhile p = [] ↔ ∀ x ∈ l, p x = true
  | [] => by simp
  | x :: l => by
    rw [List.dropWhile_cons]
    cases h : p x with
    | true => simp only [if_true]; rw [dropWhile_nil]; simp [h]
    | false => simp [h]
theorem bare_nil_iff {r : Bs} : bareB r = [] ↔ r = zer r.length := by
  unfold bareB
  rw [List.reverse_eq_nil_iff]
  constructor
  · intro h
    have h2 : ∀ x ∈ r, x = 0 := by
      intro x hx
      have := dropWhile_nil.1 h x (List.mem_reverse.2 hx)
      simpa using this
    exact List.eq_replicate_iff.2 ⟨rfl, h2⟩
  · intro h
    rw [dropWhile_nil]
    intro x hx
    have := List.mem_reverse.1 hx
    rw [h] at this
    simpa using List.eq_of_mem_replicate this

/-! ### Decode -/

abbrev errV : V := .tup [.agg [.sl [], .sl [], .str [], .int .i64 0], .int .i64 4]
noncomputable def endI (s : Bs) (m : Int) (n : Inn) : R :=
  pcK qcfg 13 [eI n] fun r_3 => kB r_3 fun r13 => cond (!r13) (some (.done errV))
    (gd (decide (0 ≤ m)) <| gd (decide (m.toNat ≤ s.length)) <| pcK qcfg 37 [V.str ((s.take s.length).drop m.toNat)] fun r_4 => kS r_4 fun r37 => cond (!(r37 == [])) (some (.done errV)) (some (.done (V.tup [eI n, V.int .i64 0]))))
theorem endI_eq (s : Bs) (hs : small s) (m : Nat) (hm : m ≤ s.length) (n : Inn) (hn : Sm n) : endI s (m : Int) n = some (.done (decO (finB n (s.drop m)))) := by
  unfold endI finB
  have hsl := hs
  rw [pcK_of (right_ok n hn), kB_mk]
  cases rightB n with
  | false => rfl
  | true =>
    rw [Bool.not_true, cond_false, gd_of (by simp), toNat_cast, gd_of (by simpa using hm), List.take_length, pcK_of (bareF_ok (s.drop m) (by simp only [small, List.length_drop]; omega)), kS_mk, Bool.true_and]
    cases bareB (s.drop m) == [] <;> rfl

theorem dec_bad {s : Bs} {i m nx : Int} {hi : Bs} {a b : List V} : s11_0b s i s m false hi nx a b = some (.done (decO none)) := rfl
theorem dec_loop (hi : Bs) (nx : Int) (hh : hi.length ≤ 255) {s : Bs} (hs : s.length ≤ 252) {c : UInt8} (hc : s[1]? = some c) : ∀ (j m i : Nat) (seps : List Bs) (kids : List Int), i + j = c.toNat → m ≤ s.length → seps.length = i → kids.length = i + 1 → (∀ x ∈ seps, x.length ≤ 255) →
    Go qk false 0 fa11 (.head 0 (T11_0b s (i : Int) s (m : Int) true hi nx (strs seps) (ints kids))) (.done (decO ((pRows j (s.drop m)).bind fun y => finB ⟨seps ++ y.1.map (·.1), kids ++ y.1.map (·.2), hi, nx⟩ y.2))) := by
  intro j
  have hcl := c.toNat_lt
  have hss : small s := by simp only [small]; omega
  have wc : W .i64 (c.toNat : Int) = (c.toNat : Int) := W_i64 (by omega)
  induction j with
  | zero =>
    intro m i seps kids hij hm hsl hkl hse
    have hn : Sm ⟨seps, kids, hi, nx⟩ := ⟨by simp only; omega, fun x hx => by have := hse x hx; omega, by simp only; omega, by simp only; omega⟩
    refine s11_0b_run _ _ _ _ _ _ _ _ _ ?_ (.refl _)
    unfold s11_0b
    rw [cond_true, idxK_of hc, wc, decide_eq_false (by omega), cond_false, Bool.not_true, cond_false]
    have := endI_eq s hss m hm _ hn
    simp only [pRows, Option.bind_some, List.map_nil, List.append_nil]
    exact this
  | succ j ih =>
    intro m i seps kids hij hm hsl hkl hse
    cases hp : pRow (s.drop m) with
    | some x =>
      obtain ⟨⟨t, k⟩, r'⟩ := x
      obtain ⟨h1, h2, h3, hle⟩ := step_ok hp
      obtain ⟨_, htl, hk0, hk1⟩ := pRow_eq hp
      have wk : W .i64 k = k := W_i64 (by omega)
      have wn : W .i64 ((m : Int) + 1 + t.length + 2) = ((m + 1 + t.length + 2 : Nat) : Int) := by rw [W_i64 (by omega)]; omega
      refine s11_0b_run _ _ _ _ _ _ _ _ _ (o := .head 0 (T11_0b s ((i + 1 : Nat) : Int) s ((m + 1 + t.length + 2 : Nat) : Int) true hi nx (strs (seps ++ [t])) (ints (kids ++ [k])))) ?_ ?_
      · unfold s11_0b
        rw [cond_true, idxK_of hc, wc, decide_eq_true (by omega), cond_true, pcK_of (text_eq h1 hss), d74_mk, cond_true, gd_of (by simp [strs_len]; omega), if_pos (by omega), pcK_of (get_eq h2 hss), d97_mk, ibeq_t rfl, cond_true, gd_of (by simp [ints_len]; omega), wn, wk]
        rw [W_i64 (n := (i : Int) + 1) (by omega)]
        simp [strs, ints]
      · have := (ih (m + 1 + t.length + 2) (i + 1) (seps ++ [t]) (kids ++ [k]) (by omega) hle (by simp; omega) (by simp; omega) (by intro x hx; rcases List.mem_append.1 hx with hx | hx; exact hse x hx; simp at hx; rw [hx]; exact htl))
        rw [h3] at this
        simp only [pRows, hp, Option.bind_some, Option.map_eq_bind, Option.bind_assoc]
        simpa [Option.bind_assoc, Function.comp_def] using this
    | none =>
      have hnone : ((pRows (j + 1) (s.drop m)).bind fun y => finB ⟨seps ++ y.1.map (·.1), kids ++ y.1.map (·.2), hi, nx⟩ y.2) = none := by
        simp only [pRows, hp, Option.bind_none]
      rw [hnone]
      obtain ⟨t, to, e, he⟩ : ∃ t to e, textB s (m : Int) = (t, to, e) := ⟨_, _, _, rfl⟩
      have hb := step_bad hm hp he
      rcases hb with ⟨hb, _, _⟩ | ⟨rfl, _, hto, h4, h5, h6⟩
      · obtain ⟨x, e2, hx⟩ : ∃ x e2, getB s (if (m : Int) < to then to else m) 2 = (x, e2) := ⟨_, _, rfl⟩
        have hq := Eq.refl (s11_0b s (i : Int) s (m : Int) true hi nx (strs seps) (ints kids))
        conv at hq =>
          rhs
          unfold s11_0b
          rw [cond_true, idxK_of hc, wc, decide_eq_true (by omega), cond_true, pcK_of (text_eq he hss), d74_mk, cond_true, gd_of (by simp [strs_len]; omega), pcK_of (get_eq hx hss), d97_mk, ibeq_f hb, cond_false, gd_of (by simp [ints_len]; omega)]
        exact s11_0b_run _ _ _ _ _ _ _ _ _ hq (s11_0b_run _ _ _ _ _ _ _ _ _ dec_bad (.refl _))
      · have hif : (if (m : Int) < to then to else m) = to := if_pos (by omega)
        have hq := Eq.refl (s11_0b s (i : Int) s (m : Int) true hi nx (strs seps) (ints kids))
        conv at hq =>
          rhs
          unfold s11_0b
          rw [cond_true, idxK_of hc, wc, decide_eq_true (by omega), cond_true, pcK_of (text_eq he hss), d74_mk, cond_true, gd_of (by simp [strs_len]; omega), hif, pcK_of (get_eq h6 hss), d97_mk, ibeq_t rfl, cond_true, gd_of (by simp [ints_len]; omega), ibeq_f (by decide)]
        exact s11_0b_run _ _ _ _ _ _ _ _ _ hq (s11_0b_run _ _ _ _ _ _ _ _ _ dec_bad (.refl _))
theorem dec_first (hi : Bs) (nx : Int) (hh : hi.length ≤ 255) {s : Bs} (hs : s.length ≤ 252) {c : UInt8} (hc : s[1]? = some c) : ∀ (j m : Nat) (kids : List Int), j = c.toNat → m ≤ s.length → kids.length = 1 →
    Go qk false 0 fa11 (.head 0 (T11_0 s s (m : Int) true hi nx (ints kids))) (.done (decO ((pRows j (s.drop m)).bind fun y => finB ⟨y.1.map (·.1), kids ++ y.1.map (·.2), hi, nx⟩ y.2))) := by
  intro j
  have hcl := c.toNat_lt
  have hss : small s := by simp only [small]; omega
  have wc : W .i64 (c.toNat : Int) = (c.toNat : Int) := W_i64 (by omega)
  have seps : List Bs := []
  cases j with
  | zero =>
    intro m kids hij hm hkl
    have hn : Sm ⟨[], kids, hi, nx⟩ := ⟨by simp only [List.length_nil]; omega, fun x hx => by simp at hx, by simp only; omega, by simp only; omega⟩
    refine s11_0_run _ _ _ _ _ _ _ ?_ (.refl _)
    unfold s11_0
    rw [cond_true, idxK_of hc, wc, decide_eq_false (by omega), cond_false, Bool.not_true, cond_false]
    have := endI_eq s hss m hm _ hn
    simp only [pRows, Option.bind_some, List.map_nil, List.append_nil]
    exact this
  | succ j =>
    intro m kids hij hm hkl
    cases hp : pRow (s.drop m) with
    | some x =>
      obtain ⟨⟨t, k⟩, r'⟩ := x
      obtain ⟨h1, h2, h3, hle⟩ := step_ok hp
      obtain ⟨_, htl, hk0, hk1⟩ := pRow_eq hp
      have wk : W .i64 k = k := W_i64 (by omega)
      have wn : W .i64 ((m : Int) + 1 + t.length + 2) = ((m + 1 + t.length + 2 : Nat) : Int) := by rw [W_i64 (by omega)]; omega
      refine s11_0_run _ _ _ _ _ _ _ (o := .head 0 (T11_0b s ((1 : Nat) : Int) s ((m + 1 + t.length + 2 : Nat) : Int) true hi nx (strs [t]) (ints (kids ++ [k])))) ?_ ?_
      · unfold s11_0
        rw [cond_true, idxK_of hc, wc, decide_eq_true (by omega), cond_true, pcK_of (text_eq h1 hss), d74_mk, cond_true, gd_of (by simp), if_pos (by omega), pcK_of (get_eq h2 hss), d97_mk, ibeq_t rfl, cond_true, gd_of (by simp [ints_len]; omega), wn, wk]
        
        simp [strs, ints]
      · have := (dec_loop hi nx hh hs hc j (m + 1 + t.length + 2) 1 [t] (kids ++ [k]) (by omega) hle rfl (by simp; omega) (by simpa using htl))
        rw [h3] at this
        simp only [pRows, hp, Option.bind_some, Option.map_eq_bind, Option.bind_assoc]
        simpa [Option.bind_assoc, Function.comp_def] using this
    | none =>
      have hnone : ((pRows (j + 1) (s.drop m)).bind fun y => finB ⟨y.1.map (·.1), kids ++ y.1.map (·.2), hi, nx⟩ y.2) = none := by
        simp only [pRows, hp, Option.bind_none]
      rw [hnone]
      obtain ⟨t, to, e, he⟩ : ∃ t to e, textB s (m : Int) = (t, to, e) := ⟨_, _, _, rfl⟩
      have hb := step_bad hm hp he
      rcases hb with ⟨hb, _, _⟩ | ⟨rfl, _, hto, h4, h5, h6⟩
      · obtain ⟨x, e2, hx⟩ : ∃ x e2, getB s (if (m : Int) < to then to else m) 2 = (x, e2) := ⟨_, _, rfl⟩
        have hq := Eq.refl (s11_0 s s (m : Int) true hi nx (ints kids))
        conv at hq =>
          rhs
          unfold s11_0
          rw [cond_true, idxK_of hc, wc, decide_eq_true (by omega), cond_true, pcK_of (text_eq he hss), d74_mk, cond_true, gd_of (by simp), pcK_of (get_eq hx hss), d97_mk, ibeq_f hb, cond_false, gd_of (by simp [ints_len]; omega)]
        exact s11_0_run _ _ _ _ _ _ _ hq (s11_0b_run _ _ _ _ _ _ _ _ _ dec_bad (.refl _))
      · have hif : (if (m : Int) < to then to else m) = to := if_pos (by omega)
        have hq := Eq.refl (s11_0 s s (m : Int) true hi nx (ints kids))
        conv at hq =>
          rhs
          unfold s11_0
          rw [cond_true, idxK_of hc, wc, decide_eq_true (by omega), cond_true, pcK_of (text_eq he hss), d74_mk, cond_true, gd_of (by simp), hif, pcK_of (get_eq h6 hss), d97_mk, ibeq_t rfl, cond_true, gd_of (by simp [ints_len]; omega), ibeq_f (by decide)]
        exact s11_0_run _ _ _ _ _ _ _ hq (s11_0b_run _ _ _ _ _ _ _ _ _ dec_bad (.refl _))

theorem getD_one {s : Bs} {c : UInt8} (h : s[1]? = some c) : s.getD 1 0 = c := by
  simp [List.getD, h]
theorem dec_ok (s : Bs) (hss : small s) : pcW qcfg 11 [.str s] = some (decO (parseB s)) := by
  have hsl := hss
  by_cases h1 : s.length ≤ 4
  · refine e11_run _ ?_ (.refl _)
    unfold e11 parseB
    rw [decide_eq_true (by omega), if_pos (.inl h1)]
    rfl
  by_cases h2 : 252 < s.length
  · refine e11_run _ ?_ (.refl _)
    unfold e11 parseB
    rw [decide_eq_false (by omega), cond_false, decide_eq_true (by omega), if_pos (.inr (.inl h2))]
    rfl
  have hs : s.length ≤ 252 := by omega
  obtain ⟨c0, hc0⟩ : ∃ c, s[0]? = some c := ⟨_, List.getElem?_eq_getElem (by omega)⟩
  obtain ⟨c, hc⟩ : ∃ c, s[1]? = some c := ⟨_, List.getElem?_eq_getElem (by omega)⟩
  have hh : s.head? = some c0 := by rw [← hc0]; exact List.head?_eq_getElem?
  by_cases h3 : c0 = 78
  rotate_left
  · refine e11_run _ ?_ (.refl _)
    have h4 : ((c0.toNat : Int)) ≠ 78 := by
      intro e
      have h78 : (78 : UInt8).toNat = 78 := rfl
      exact h3 (UInt8.toNat_inj.1 (by omega))
    unfold e11 parseB
    rw [decide_eq_false (by omega), cond_false, decide_eq_false (by omega), cond_false, idxK_of hc0, ibne_t h4, if_pos (.inr (.inr (by rw [hh]; simpa using h3)))]
    rfl
  subst h3
  have hg2 : getB s 2 2 = (((unle ((s.drop 2).take 2) : Nat) : Int), 0) := by
    unfold getB
    rw [if_pos (roomE_ok (by omega) (by omega) (by omega) (by omega))]
    rfl
  have hn2 := get2_lt s 2
  rw [hg2] at hn2
  simp only at hn2
  have wn2 : W .i64 ((unle ((s.drop 2).take 2) : Nat) : Int) = ((unle ((s.drop 2).take 2) : Nat) : Int) := W_i64 (by omega)
  have hparse : parseB s = (pRow (s.drop 4)).bind fun x => (pRows c.toNat x.2).bind fun y => finB ⟨y.1.map (·.1), x.1.2 :: y.1.map (·.2), x.1.1, ((unle ((s.drop 2).take 2) : Nat) : Int)⟩ y.2 := by
    unfold parseB
    rw [if_neg (by rw [hh]; simp; omega), getD_one hc]
  rw [hparse]
  cases hp : pRow (s.drop 4) with
  | some x =>
    obtain ⟨⟨hi, k⟩, r'⟩ := x
    obtain ⟨g1, g2, g3, hle⟩ := step_ok hp
    obtain ⟨_, htl, hk0, hk1⟩ := pRow_eq hp
    have wk : W .i64 k = k := W_i64 (by omega)
    have wn : W .i64 (((4 : Nat) : Int) + 1 + hi.length + 2) = ((4 + 1 + hi.length + 2 : Nat) : Int) := by rw [W_i64 (by omega)]; omega
    have := dec_first hi ((unle ((s.drop 2).take 2) : Nat) : Int) htl hs hc c.toNat (4 + 1 + hi.length + 2) [k] rfl hle rfl
    rw [g3] at this
    refine e11_run _ ?_ this
    unfold e11
    have g1 : textB s 4 = (hi, ((4 : Nat) : Int) + 1 + hi.length, 0) := g1
    rw [decide_eq_false (by omega), cond_false, decide_eq_false (by omega), cond_false, idxK_of hc0, ibne_f (by decide), cond_false, pcK_of (get_eq hg2 hss), d97_mk, pcK_of (text_eq g1 hss), d74_mk, ibeq_t rfl, cond_true, if_pos (by omega), pcK_of (get_eq g2 hss), d97_mk, ibeq_t rfl, cond_true, gd_of (by simp), wn, wk, wn2]
    rfl
  | none =>
    obtain ⟨t, to, e, he⟩ : ∃ t to e, textB s ((4 : Nat) : Int) = (t, to, e) := ⟨_, _, _, rfl⟩
    have hb := step_bad (by omega) hp he
    have he : textB s 4 = (t, to, e) := he
    rcases hb with ⟨hb, _, _⟩ | ⟨rfl, _, hto, h4, h5, h6⟩
    · obtain ⟨x, e2, hx⟩ : ∃ x e2, getB s (if (4 : Int) < to then to else 4) 2 = (x, e2) := ⟨_, _, rfl⟩
      have hq := Eq.refl (e11 s)
      conv at hq =>
        rhs
        unfold e11
        rw [decide_eq_false (by omega), cond_false, decide_eq_false (by omega), cond_false, idxK_of hc0, ibne_f (by decide), cond_false, pcK_of (get_eq hg2 hss), d97_mk, pcK_of (text_eq he hss), d74_mk, ibeq_t rfl, cond_true, pcK_of (get_eq hx hss), d97_mk, ibeq_f hb, cond_false, gd_of (by simp)]
      exact e11_run _ hq (s11_0_run _ _ _ _ _ _ _ rfl (.refl _))
    · have hif : (if (4 : Int) < to then to else 4) = to := if_pos (by omega)
      have hq := Eq.refl (e11 s)
      conv at hq =>
        rhs
        unfold e11
        rw [decide_eq_false (by omega), cond_false, decide_eq_false (by omega), cond_false, idxK_of hc0, ibne_f (by decide), cond_false, pcK_of (get_eq hg2 hss), d97_mk, pcK_of (text_eq he hss), d74_mk, ibeq_t rfl, cond_true, hif, pcK_of (get_eq h6 hss), d97_mk, cond_true, gd_of (by simp), ibeq_f (by decide)]
      exact e11_run _ hq (s11_0_run _ _ _ _ _ _ _ rfl (.refl _))

/-! ### the document's -/

def finR (s : Bs) (n : Inn) : Option Inn := if rightB n && padB (encB n) (s.length : Int) == (s, 0) then some n else none
noncomputable def endJ (s : Bs) (e : Int) (n : Inn) : R :=
  pcK qcfg 19 [eI n] fun r_2 => kS r_2 fun r19 => pcK qcfg 33 [V.str r19, V.int .i64 (s.length : Int)] fun r_3 => d59 r_3 fun r33_0 r33_1 =>
    cond (e != (0 : Int)) (some (.done errV)) (cond (r33_1 != (0 : Int)) (some (.done errV)) (cond (!(r33_0 == s)) (some (.done errV)) (pcK qcfg 14 [eI n] fun r_4 => kB r_4 fun r14 => cond (!r14) (some (.done errV)) (some (.done (V.tup [eI n, V.int .i64 0]))))))
theorem enc_small (n : Inn) (hn : Sm n) : small (encB n) := by
  unfold small
  cases hr : rightB n with
  | true =>
    have := sizeN_le hn
    rw [enc_len hr]; omega
  | false => unfold encB; rw [hr]; simp
theorem endJ_eq (s : Bs) (e : Int) (n : Inn) (hn : Sm n) : endJ s e n = some (.done (decO (if e = 0 then finR s n else none))) := by
  unfold endJ finR
  rw [pcK_of (encR_ok n hn), kS_mk, pcK_of (padR_ok (encB n) _ (enc_small n hn)), d59_mk]
  by_cases he : e = 0
  rotate_left
  · rw [ibne_t he, if_neg he]; rfl
  rw [ibne_f he, cond_false, if_pos he]
  obtain ⟨t, e2⟩ := padB (encB n) (s.length : Int)
  by_cases h2 : e2 = 0
  rotate_left
  · have : ((t, e2) == (s, (0 : Int))) = false := by simp [h2]
    rw [ibne_t h2, this, Bool.and_false]; rfl
  subst h2
  rw [ibne_f rfl, cond_false]
  by_cases h3 : t = s
  rotate_left
  · have h4 : (t == s) = false := by simpa using h3
    have : ((t, (0 : Int)) == (s, (0 : Int))) = false := by simp [h3]
    rw [h4, this, Bool.and_false]; rfl
  subst h3
  rw [beq_self_eq_true, beq_self_eq_true, Bool.not_true, cond_false, Bool.and_true, pcK_of (rightR_ok n hn), kB_mk]
  cases rightB n <;> rfl
theorem szR_snoc (t : Bs) : ∀ l, szR (l ++ [t]) = szR l + (3 + t.length)
  | [] => by simp [szR]
  | s :: l => by simp only [List.cons_append, szR, szR_snoc t l]; omega
theorem finR_far {s : Bs} {n : Inn} (hs : s.length ≤ 252) (h : s.length < sizeN n) : finR s n = none := by
  unfold finR
  cases hr : rightB n with
  | false => rfl
  | true =>
    have h1 := enc_len hr
    have : padB (encB n) (s.length : Int) = ([], 2) := by
      unfold padB
      rw [if_neg (by omega), if_pos (by omega)]
    rw [this]
    simp
theorem textB_far {s : Bs} {m : Int} (h : (s.length : Int) < m) : textB s m = ([], 0, 1) := by
  unfold textB
  rw [if_neg (by omega)]
theorem rR2_badE {s hi : Bs} {nx m e : Int} {kids : List Int} {i : Int} {seps : List Bs} {c : UInt8} (hc : s[1]? = some c) (hn : Sm ⟨seps, kids, hi, nx⟩) (he : e ≠ 0) : s12_0b s m e i hi nx (strs seps) (ints kids) = some (.done errV) := by
  have hcl := c.toNat_lt
  have wc : W .i64 (c.toNat : Int) = (c.toNat : Int) := W_i64 (by omega)
  have h1 := endJ_eq s e _ hn
  rw [if_neg he] at h1
  unfold s12_0b
  rw [idxK_of hc, wc]
  cases decide (i < (c.toNat : Int)) with
  | true =>
    rw [cond_true, ibeq_f he, cond_false]
    exact h1
  | false =>
    rw [cond_false]
    exact h1
theorem rR2_badA {s hi : Bs} {nx : Int} {m : Nat} {kids : List Int} {i : Nat} {seps : List Bs} {c : UInt8} (hs : s.length ≤ 252) (hc : s[1]? = some c) (hn : Sm ⟨seps, kids, hi, nx⟩) (hk : kids.length ≤ 300) (hsn : seps.length ≤ 300) (hm : m = sizeN ⟨seps, kids, hi, nx⟩) (hf : s.length < m) :
    Go qk false 0 fa12 (.head 0 (T12_0b s (m : Int) 0 (i : Int) hi nx (strs seps) (ints kids))) (.done errV) := by
  have hcl := c.toNat_lt
  have hss : small s := by simp only [small]; omega
  have wc : W .i64 (c.toNat : Int) = (c.toNat : Int) := W_i64 (by omega)
  by_cases hlt : (i : Int) < (c.toNat : Int)
  · obtain ⟨x, e2, hx⟩ : ∃ x e2, getB s 0 2 = (x, e2) := ⟨_, _, rfl⟩
    have hq := Eq.refl (s12_0b s (m : Int) 0 (i : Int) hi nx (strs seps) (ints kids))
    conv at hq =>
      rhs
      unfold s12_0b
      rw [idxK_of hc, wc, decide_eq_true hlt, cond_true, ibeq_t rfl, cond_true, pcK_of (textR_eq (textB_far (by omega)) hss), d74_mk, gd_of (by simp [strs_len]; omega), pcK_of (num_eq hx hss), kI_mk, gd_of (by simp [ints_len]; omega)]
    refine s12_0b_run _ _ _ _ _ _ _ _ hq (s12_0b_run _ _ _ _ _ _ _ _ ?_ (.refl _))
    have e1 : strs seps ++ [V.str []] = strs (seps ++ [[]]) := by simp [strs]
    have e3 : ints kids ++ [V.int .i64 x] = ints (kids ++ [x]) := by simp [ints]
    rw [e1, e3]
    exact rR2_badE hc ⟨by simp; omega, fun y hy => by rcases List.mem_append.1 hy with hy | hy; exact hn.sep y hy; simp at hy; rw [hy]; simp, by simp; omega, hn.high⟩ (by decide)
  · refine s12_0b_run _ _ _ _ _ _ _ _ ?_ (.refl _)
    have h1 := endJ_eq s 0 _ hn
    rw [if_pos rfl, finR_far hs (by omega)] at h1
    unfold s12_0b
    rw [idxK_of hc, wc, decide_eq_false hlt, cond_false]
    exact h1
theorem rR2_loop {hi : Bs} {nx : Int} (hh : hi.length ≤ 255) {s : Bs} (hs : s.length ≤ 252) {c : UInt8} (hc : s[1]? = some c) : ∀ (j m i : Nat) (seps : List Bs) (kids : List Int), i + j = c.toNat → m ≤ s.length → seps.length = i → kids.length = i + 1 → (∀ x ∈ seps, x.length ≤ 255) → m = sizeN ⟨seps, kids, hi, nx⟩ →
    Go qk false 0 fa12 (.head 0 (T12_0b s (m : Int) 0 (i : Int) hi nx (strs seps) (ints kids))) (.done (decO ((pRows j (s.drop m)).bind fun y => finR s ⟨seps ++ y.1.map (·.1), kids ++ y.1.map (·.2), hi, nx⟩))) := by
  intro j
  have hcl := c.toNat_lt
  have hss : small s := by simp only [small]; omega
  have wc : W .i64 (c.toNat : Int) = (c.toNat : Int) := W_i64 (by omega)
  induction j with
  | zero =>
    intro m i seps kids hij hm hsl hkl hse hsz
    have hn : Sm ⟨seps, kids, hi, nx⟩ := ⟨by simp only; omega, fun x hx => by have := hse x hx; omega, by simp only; omega, by simp only; omega⟩
    refine s12_0b_run _ _ _ _ _ _ _ _ ?_ (.refl _)
    have h1 := endJ_eq s 0 _ hn
    rw [if_pos rfl] at h1
    unfold s12_0b
    rw [idxK_of hc, wc, decide_eq_false (by omega), cond_false]
    simp only [pRows, Option.bind_some, List.map_nil, List.append_nil]
    exact h1
  | succ j ih =>
    intro m i seps kids hij hm hsl hkl hse hsz
    have hn : Sm ⟨seps, kids, hi, nx⟩ := ⟨by simp only; omega, fun x hx => by have := hse x hx; omega, by simp only; omega, by simp only; omega⟩
    cases hp : pRow (s.drop m) with
    | some x =>
      obtain ⟨⟨t, k⟩, r'⟩ := x
      obtain ⟨h1, h2, h3, hle⟩ := step_ok hp
      obtain ⟨_, htl, hk0, hk1⟩ := pRow_eq hp
      have wn : W .i64 ((m : Int) + 1 + t.length + 2) = ((m + 1 + t.length + 2 : Nat) : Int) := by rw [W_i64 (by omega)]; omega
      have hsz2 : m + 1 + t.length + 2 = sizeN ⟨(seps ++ [t]), kids ++ [k], hi, nx⟩ := by rw [hsz]; simp only [sizeN, szR, szR_snoc]; omega
      refine s12_0b_run _ _ _ _ _ _ _ _ (o := .head 0 (T12_0b s ((m + 1 + t.length + 2 : Nat) : Int) 0 ((i + 1 : Nat) : Int) hi nx (strs (seps ++ [t])) (ints (kids ++ [k])))) ?_ ?_
      · unfold s12_0b
        rw [idxK_of hc, wc, decide_eq_true (by omega), cond_true, ibeq_t rfl, cond_true, pcK_of (textR_eq h1 hss), d74_mk, gd_of (by simp [strs_len]; omega), pcK_of (num_eq h2 hss), kI_mk, gd_of (by simp [ints_len]; omega), wn]
        rw [W_i64 (n := (i : Int) + 1) (by omega)]
        simp [strs, ints]
      · have := (ih (m + 1 + t.length + 2) (i + 1) (seps ++ [t]) (kids ++ [k]) (by omega) hle (by simp; omega) (by simp; omega) (by intro x hx; rcases List.mem_append.1 hx with hx | hx; exact hse x hx; simp at hx; rw [hx]; exact htl) hsz2)
        rw [h3] at this
        simp only [pRows, hp, Option.bind_some, Option.map_eq_bind, Option.bind_assoc]
        simpa [Option.bind_assoc, Function.comp_def] using this
    | none =>
      have hnone : ((pRows (j + 1) (s.drop m)).bind fun y => finR s ⟨seps ++ y.1.map (·.1), kids ++ y.1.map (·.2), hi, nx⟩) = none := by
        simp only [pRows, hp, Option.bind_none]
      rw [hnone]
      obtain ⟨t, to, e, he⟩ : ∃ t to e, textB s (m : Int) = (t, to, e) := ⟨_, _, _, rfl⟩
      have hb := step_bad hm hp he
      rcases hb with ⟨hb, ht, hto⟩ | ⟨rfl, htl, hto, h4, h5, h6⟩
      · subst ht hto
        obtain ⟨x, e2, hx⟩ : ∃ x e2, getB s 0 2 = (x, e2) := ⟨_, _, rfl⟩
        have hq := Eq.refl (s12_0b s (m : Int) 0 (i : Int) hi nx (strs seps) (ints kids))
        conv at hq =>
          rhs
          unfold s12_0b
          rw [idxK_of hc, wc, decide_eq_true (by omega), cond_true, ibeq_t rfl, cond_true, pcK_of (textR_eq he hss), d74_mk, gd_of (by simp [strs_len]; omega), pcK_of (num_eq hx hss), kI_mk, gd_of (by simp [ints_len]; omega)]
        refine s12_0b_run _ _ _ _ _ _ _ _ hq (s12_0b_run _ _ _ _ _ _ _ _ ?_ (.refl _))
        have e1 : strs seps ++ [V.str []] = strs (seps ++ [[]]) := by simp [strs]
        have e3 : ints kids ++ [V.int .i64 x] = ints (kids ++ [x]) := by simp [ints]
        rw [e1, e3]
        exact rR2_badE hc ⟨by simp; omega, fun y hy => by rcases List.mem_append.1 hy with hy | hy; exact hn.sep y hy; simp at hy; rw [hy]; simp, by simp; omega, hn.high⟩ hb
      · have wn : W .i64 (to + 2) = ((m + 1 + t.length + 2 : Nat) : Int) := by rw [W_i64 (by omega)]; omega
        have hsz2 : m + 1 + t.length + 2 = sizeN ⟨(seps ++ [t]), kids ++ [0], hi, nx⟩ := by rw [hsz]; simp only [sizeN, szR, szR_snoc]; omega
        refine s12_0b_run _ _ _ _ _ _ _ _ (o := .head 0 (T12_0b s ((m + 1 + t.length + 2 : Nat) : Int) 0 ((i + 1 : Nat) : Int) hi nx (strs (seps ++ [t])) (ints (kids ++ [0])))) ?_ (rR2_badA hs hc ⟨by simp; omega, fun y hy => by rcases List.mem_append.1 hy with hy | hy; exact hn.sep y hy; simp at hy; rw [hy]; omega, by simp; omega, hn.high⟩ (by simp; omega) (by simp; omega) hsz2 (by omega))
        unfold s12_0b
        rw [idxK_of hc, wc, decide_eq_true (by omega), cond_true, ibeq_t rfl, cond_true, pcK_of (textR_eq he hss), d74_mk, gd_of (by simp [strs_len]; omega), pcK_of (num_eq h6 hss), kI_mk, gd_of (by simp [ints_len]; omega), wn]
        rw [W_i64 (n := (i : Int) + 1) (by omega)]
        simp [strs, ints]
theorem rR1_badE {s hi : Bs} {nx m e : Int} {kids : List Int} {c : UInt8} (hc : s[1]? = some c) (hn : Sm ⟨[], kids, hi, nx⟩) (he : e ≠ 0) : s12_0 s m e hi nx (ints kids) = some (.done errV) := by
  have hcl := c.toNat_lt
  have wc : W .i64 (c.toNat : Int) = (c.toNat : Int) := W_i64 (by omega)
  have h1 := endJ_eq s e _ hn
  rw [if_neg he] at h1
  unfold s12_0
  rw [idxK_of hc, wc]
  cases decide (0 < (c.toNat : Int)) with
  | true =>
    rw [cond_true, ibeq_f he, cond_false]
    exact h1
  | false =>
    rw [cond_false]
    exact h1
theorem rR1_badA {s hi : Bs} {nx : Int} {m : Nat} {kids : List Int} {c : UInt8} (hs : s.length ≤ 252) (hc : s[1]? = some c) (hn : Sm ⟨[], kids, hi, nx⟩) (hk : kids.length ≤ 300) (hm : m = sizeN ⟨[], kids, hi, nx⟩) (hf : s.length < m) :
    Go qk false 0 fa12 (.head 0 (T12_0 s (m : Int) 0 hi nx (ints kids))) (.done errV) := by
  have hcl := c.toNat_lt
  have hss : small s := by simp only [small]; omega
  have wc : W .i64 (c.toNat : Int) = (c.toNat : Int) := W_i64 (by omega)
  by_cases hlt : (0 : Int) < (c.toNat : Int)
  · obtain ⟨x, e2, hx⟩ : ∃ x e2, getB s 0 2 = (x, e2) := ⟨_, _, rfl⟩
    have hq := Eq.refl (s12_0 s (m : Int) 0 hi nx (ints kids))
    conv at hq =>
      rhs
      unfold s12_0
      rw [idxK_of hc, wc, decide_eq_true hlt, cond_true, ibeq_t rfl, cond_true, pcK_of (textR_eq (textB_far (by omega)) hss), d74_mk, gd_of (by simp), pcK_of (num_eq hx hss), kI_mk, gd_of (by simp [ints_len]; omega)]
    refine s12_0_run _ _ _ _ _ _ hq (s12_0b_run _ _ _ _ _ _ _ _ ?_ (.refl _))
    have e1 : [V.str []] = strs ([[]]) := by simp [strs]
    have e3 : ints kids ++ [V.int .i64 x] = ints (kids ++ [x]) := by simp [ints]
    rw [e1, e3]
    exact rR2_badE hc ⟨by simp, fun y hy => by simp at hy; rw [hy]; simp, by simp; omega, hn.high⟩ (by decide)
  · refine s12_0_run _ _ _ _ _ _ ?_ (.refl _)
    have h1 := endJ_eq s 0 _ hn
    rw [if_pos rfl, finR_far hs (by omega)] at h1
    unfold s12_0
    rw [idxK_of hc, wc, decide_eq_false hlt, cond_false]
    exact h1
theorem rR1_loop {hi : Bs} {nx : Int} (hh : hi.length ≤ 255) {s : Bs} (hs : s.length ≤ 252) {c : UInt8} (hc : s[1]? = some c) : ∀ (j m : Nat) (kids : List Int), j = c.toNat → m ≤ s.length → kids.length = 1 → m = sizeN ⟨[], kids, hi, nx⟩ →
    Go qk false 0 fa12 (.head 0 (T12_0 s (m : Int) 0 hi nx (ints kids))) (.done (decO ((pRows j (s.drop m)).bind fun y => finR s ⟨y.1.map (·.1), kids ++ y.1.map (·.2), hi, nx⟩))) := by
  intro j
  have hcl := c.toNat_lt
  have hss : small s := by simp only [small]; omega
  have wc : W .i64 (c.toNat : Int) = (c.toNat : Int) := W_i64 (by omega)
  cases j with
  | zero =>
    intro m kids hij hm hkl hsz
    have hn : Sm ⟨[], kids, hi, nx⟩ := ⟨by simp only [List.length_nil]; omega, fun x hx => by simp at hx, by simp only; omega, by simp only; omega⟩
    refine s12_0_run _ _ _ _ _ _ ?_ (.refl _)
    have h1 := endJ_eq s 0 _ hn
    rw [if_pos rfl] at h1
    unfold s12_0
    rw [idxK_of hc, wc, decide_eq_false (by omega), cond_false]
    simp only [pRows, Option.bind_some, List.map_nil, List.append_nil]
    exact h1
  | succ j =>
    intro m kids hij hm hkl hsz
    have hn : Sm ⟨[], kids, hi, nx⟩ := ⟨by simp only [List.length_nil]; omega, fun x hx => by simp at hx, by simp only; omega, by simp only; omega⟩
    cases hp : pRow (s.drop m) with
    | some x =>
      obtain ⟨⟨t, k⟩, r'⟩ := x
      obtain ⟨h1, h2, h3, hle⟩ := step_ok hp
      obtain ⟨_, htl, hk0, hk1⟩ := pRow_eq hp
      have wn : W .i64 ((m : Int) + 1 + t.length + 2) = ((m + 1 + t.length + 2 : Nat) : Int) := by rw [W_i64 (by omega)]; omega
      have hsz2 : m + 1 + t.length + 2 = sizeN ⟨[t], kids ++ [k], hi, nx⟩ := by rw [hsz]; simp only [sizeN, szR]; omega
      refine s12_0_run _ _ _ _ _ _ (o := .head 0 (T12_0b s ((m + 1 + t.length + 2 : Nat) : Int) 0 ((1 : Nat) : Int) hi nx (strs [t]) (ints (kids ++ [k])))) ?_ ?_
      · unfold s12_0
        rw [idxK_of hc, wc, decide_eq_true (by omega), cond_true, ibeq_t rfl, cond_true, pcK_of (textR_eq h1 hss), d74_mk, gd_of (by simp), pcK_of (num_eq h2 hss), kI_mk, gd_of (by simp [ints_len]; omega), wn]
        
        simp [strs, ints]
      · have := (rR2_loop hh hs hc j (m + 1 + t.length + 2) 1 [t] (kids ++ [k]) (by omega) hle rfl (by simp; omega) (by simpa using htl) hsz2)
        rw [h3] at this
        simp only [pRows, hp, Option.bind_some, Option.map_eq_bind, Option.bind_assoc]
        simpa [Option.bind_assoc, Function.comp_def] using this
    | none =>
      have hnone : ((pRows (j + 1) (s.drop m)).bind fun y => finR s ⟨y.1.map (·.1), kids ++ y.1.map (·.2), hi, nx⟩) = none := by
        simp only [pRows, hp, Option.bind_none]
      rw [hnone]
      obtain ⟨t, to, e, he⟩ : ∃ t to e, textB s (m : Int) = (t, to, e) := ⟨_, _, _, rfl⟩
      have hb := step_bad hm hp he
      rcases hb with ⟨hb, ht, hto⟩ | ⟨rfl, htl, hto, h4, h5, h6⟩
      · subst ht hto
        obtain ⟨x, e2, hx⟩ : ∃ x e2, getB s 0 2 = (x, e2) := ⟨_, _, rfl⟩
        have hq := Eq.refl (s12_0 s (m : Int) 0 hi nx (ints kids))
        conv at hq =>
          rhs
          unfold s12_0
          rw [idxK_of hc, wc, decide_eq_true (by omega), cond_true, ibeq_t rfl, cond_true, pcK_of (textR_eq he hss), d74_mk, gd_of (by simp), pcK_of (num_eq hx hss), kI_mk, gd_of (by simp [ints_len]; omega)]
        refine s12_0_run _ _ _ _ _ _ hq (s12_0b_run _ _ _ _ _ _ _ _ ?_ (.refl _))
        have e1 : [V.str []] = strs ([[]]) := by simp [strs]
        have e3 : ints kids ++ [V.int .i64 x] = ints (kids ++ [x]) := by simp [ints]
        rw [e1, e3]
        exact rR2_badE hc ⟨by simp, fun y hy => by simp at hy; rw [hy]; simp, by simp; omega, hn.high⟩ hb
      · have wn : W .i64 (to + 2) = ((m + 1 + t.length + 2 : Nat) : Int) := by rw [W_i64 (by omega)]; omega
        have hsz2 : m + 1 + t.length + 2 = sizeN ⟨[t], kids ++ [0], hi, nx⟩ := by rw [hsz]; simp only [sizeN, szR]; omega
        refine s12_0_run _ _ _ _ _ _ (o := .head 0 (T12_0b s ((m + 1 + t.length + 2 : Nat) : Int) 0 ((1 : Nat) : Int) hi nx (strs [t]) (ints (kids ++ [0])))) ?_ (rR2_badA hs hc ⟨by simp, fun y hy => by simp at hy; rw [hy]; omega, by simp; omega, hn.high⟩ (by simp; omega) (by simp) hsz2 (by omega))
        unfold s12_0
        rw [idxK_of hc, wc, decide_eq_true (by omega), cond_true, ibeq_t rfl, cond_true, pcK_of (textR_eq he hss), d74_mk, gd_of (by simp), pcK_of (num_eq h6 hss), kI_mk, gd_of (by simp [ints_len]; omega), wn]
        
        simp [strs, ints]

theorem zip_self {α β : Type} : ∀ (l : List (α × β)), (l.map (·.1)).zip (l.map (·.2)) = l
  | [] => rfl
  | x :: l => by simp only [List.map_cons, List.zip_cons_cons, zip_self l]
theorem finR_eq {s : Bs} (hs : s.length ≤ 252) (hl : 4 < s.length) {c0 c : UInt8} (h0 : s[0]? = some c0) (hc : s[1]? = some c) {t : Bs} {k : Int} {r rest : Bs} {y : List (Bs × Int)}
    (h1 : pRow (s.drop 4) = some ((t, k), r)) (h2 : pRows c.toNat r = some (y, rest)) :
    finR s ⟨y.map (·.1), k :: y.map (·.2), t, ((unle ((s.drop 2).take 2) : Nat) : Int)⟩ = if c0 = 78 then finB ⟨y.map (·.1), k :: y.map (·.2), t, ((unle ((s.drop 2).take 2) : Nat) : Int)⟩ rest else none := by
  obtain ⟨e1, _⟩ := pRow_eq h1
  obtain ⟨e2, hyl, _⟩ := pRows_eq h2
  have q0 : s = c0 :: s.drop 1 := by
    cases s with
    | nil => simp at h0
    | cons a s => simp at h0; simp [h0]
  have q1 : s.drop 1 = c :: s.drop 2 := by
    rw [List.drop_eq_getElem_cons (by omega)]
    rw [List.getElem?_eq_getElem (by omega)] at hc
    injection hc with hc
    rw [hc]
  have q2 : s.drop 2 = (s.drop 2).take 2 ++ s.drop 4 := by
    have := (List.take_append_drop 2 (s.drop 2)).symm
    rwa [List.drop_drop] at this
  have hb : leN 2 (unle ((s.drop 2).take 2)) = (s.drop 2).take 2 := unle_two (by simp; omega)
  have hbody : s = c0 :: (bodyB ⟨y.map (·.1), k :: y.map (·.2), t, ((unle ((s.drop 2).take 2) : Nat) : Int)⟩ ++ rest) := by
    unfold bodyB headB
    simp only [List.length_map, hyl, UInt8.ofNat_toNat, toNat_cast, hb, List.headD_cons, List.tail_cons, zip_self]
    have e3 : (s.drop 2).take 2 ++ (txB t ++ (leN 2 k.toNat ++ rowsB y)) ++ rest = s.drop 2 := by
      rw [List.append_assoc, List.append_assoc (txB t), List.append_assoc (leN 2 k.toNat), ← e2, ← List.append_assoc (txB t), ← e1, ← q2]
    have e4 : s = c0 :: c :: ((s.drop 2).take 2 ++ (txB t ++ (leN 2 k.toNat ++ rowsB y)) ++ rest) := by rw [e3, ← q1, ← q0]
    refine e4.trans ?_
    simp only [List.cons_append, List.append_assoc]
  generalize hn : (⟨y.map (·.1), k :: y.map (·.2), t, ((unle ((s.drop 2).take 2) : Nat) : Int)⟩ : Inn) = n at hbody ⊢
  unfold finR finB
  cases hr : rightB n with
  | false => simp
  | true =>
    have hen : encB n = 78 :: bodyB n := by unfold encB; rw [if_pos hr]
    have hsl : s.length = 1 + (bodyB n).length + rest.length := by
      have := congrArg List.length hbody
      simp at this
      omega
    have hp : padB (encB n) (s.length : Int) = (78 :: (bodyB n ++ zer rest.length), 0) := by
      unfold padB
      rw [hen, if_neg (by omega), if_neg (by simp; omega), toNat_cast]
      have : s.length - (78 :: bodyB n).length = rest.length := by simp; omega
      rw [this]
      rfl
    rw [hp, Bool.true_and, Bool.true_and]
    by_cases hc0 : c0 = 78
    · rw [if_pos hc0]
      subst hc0
      by_cases hz : rest = zer rest.length
      · rw [← hz, ← hbody, bare_nil_iff.2 hz]
        simp
      · have : bareB rest ≠ [] := fun h => hz (bare_nil_iff.1 h)
        have h3 : (bareB rest == []) = false := by simpa using this
        have h4 : ((78 :: (bodyB n ++ zer rest.length), (0 : Int)) == (s, (0 : Int))) = false := by
          rw [beq_eq_false_iff_ne]
          intro h
          have h := congrArg Prod.fst h
          simp only at h
          rw [hbody] at h
          injection h with _ h
          exact hz (List.append_cancel_left h).symm
        rw [h3, h4]
    · rw [if_neg hc0]
      have h4 : ((78 :: (bodyB n ++ zer rest.length), (0 : Int)) == (s, (0 : Int))) = false := by
        rw [beq_eq_false_iff_ne]
        intro h
        have h := congrArg Prod.fst h
        simp only at h
        rw [hbody] at h
        injection h with h _
        exact hc0 h.symm
      rw [h4]
      rfl
theorem decR_ok (s : Bs) (hss : small s) : pcW qcfg 12 [.str s] = some (decO (parseB s)) := by
  have hsl := hss
  by_cases h1 : s.length ≤ 4
  · refine e12_run _ ?_ (.refl _)
    unfold e12 parseB
    rw [decide_eq_true (by omega), if_pos (.inl h1)]
    rfl
  by_cases h2 : 252 < s.length
  · refine e12_run _ ?_ (.refl _)
    unfold e12 parseB
    rw [decide_eq_false (by omega), cond_false, decide_eq_true (by omega), if_pos (.inr (.inl h2))]
    rfl
  have hs : s.length ≤ 252 := by omega
  obtain ⟨c0, hc0⟩ : ∃ c, s[0]? = some c := ⟨_, List.getElem?_eq_getElem (by omega)⟩
  obtain ⟨c, hc⟩ : ∃ c, s[1]? = some c := ⟨_, List.getElem?_eq_getElem (by omega)⟩
  have hh : s.head? = some c0 := by rw [← hc0]; exact List.head?_eq_getElem?
  have hg2 : getB s 2 2 = (((unle ((s.drop 2).take 2) : Nat) : Int), 0) := by
    unfold getB
    rw [if_pos (roomE_ok (by omega) (by omega) (by omega) (by omega))]
    rfl
  have hcl := c.toNat_lt
  cases hp : pRow (s.drop 4) with
  | some x =>
    obtain ⟨⟨hi, k⟩, r'⟩ := x
    obtain ⟨g1, g2, g3, hle⟩ := step_ok hp
    obtain ⟨_, htl, hk0, hk1⟩ := pRow_eq hp
    have wn : W .i64 (((4 : Nat) : Int) + 1 + hi.length + 2) = ((4 + 1 + hi.length + 2 : Nat) : Int) := by rw [W_i64 (by omega)]; omega
    have := rR1_loop (nx := ((unle ((s.drop 2).take 2) : Nat) : Int)) htl hs hc c.toNat (4 + 1 + hi.length + 2) [k] rfl hle rfl (by simp only [sizeN, szR]; omega)
    rw [g3] at this
    have hres : ((pRows c.toNat r').bind fun y => finR s ⟨y.1.map (·.1), [k] ++ y.1.map (·.2), hi, ((unle ((s.drop 2).take 2) : Nat) : Int)⟩) = parseB s := by
      unfold parseB
      rw [getD_one hc, hp, Option.bind_some]
      simp only
      cases hq : pRows c.toNat r' with
      | none => simp
      | some y =>
        obtain ⟨y, rest⟩ := y
        have := finR_eq hs (by omega) hc0 hc hp hq
        simp only [Option.bind_some, List.cons_append, List.nil_append]
        rw [this]
        by_cases hz : c0 = 78
        · rw [if_pos hz, if_neg (by rw [hh, hz]; simp; omega)]
        · rw [if_neg hz, if_pos (.inr (.inr (by rw [hh]; simpa using hz)))]
    rw [hres] at this
    refine e12_run _ ?_ this
    unfold e12
    have g1 : textB s 4 = (hi, ((4 : Nat) : Int) + 1 + hi.length, 0) := g1
    rw [decide_eq_false (by omega), cond_false, decide_eq_false (by omega), cond_false, pcK_of (num_eq hg2 hss), kI_mk, pcK_of (textR_eq g1 hss), d74_mk, pcK_of (num_eq g2 hss), kI_mk, gd_of (by simp), wn]
    rfl
  | none =>
    have hnone : parseB s = none := by
      unfold parseB
      rw [hp]
      split <;> rfl
    rw [hnone]
    obtain ⟨t, to, e, he⟩ : ∃ t to e, textB s ((4 : Nat) : Int) = (t, to, e) := ⟨_, _, _, rfl⟩
    have hb := step_bad (by omega) hp he
    have he : textB s 4 = (t, to, e) := he
    rcases hb with ⟨hb, ht, hto⟩ | ⟨rfl, htl, hto, h4, h5, h6⟩
    · subst ht hto
      obtain ⟨x, e2, hx⟩ : ∃ x e2, getB s 0 2 = (x, e2) := ⟨_, _, rfl⟩
      have hq := Eq.refl (e12 s)
      conv at hq =>
        rhs
        unfold e12
        rw [decide_eq_false (by omega), cond_false, decide_eq_false (by omega), cond_false, pcK_of (num_eq hg2 hss), kI_mk, pcK_of (textR_eq he hss), d74_mk, pcK_of (num_eq hx hss), kI_mk, gd_of (by simp)]
      refine e12_run _ hq (s12_0_run _ _ _ _ _ _ ?_ (.refl _))
      exact rR1_badE (kids := [x]) hc ⟨by simp, by simp, by simp, by simp⟩ hb
    · have wn : W .i64 (to + 2) = ((4 + 1 + t.length + 2 : Nat) : Int) := by rw [W_i64 (by omega)]; omega
      have hq := Eq.refl (e12 s)
      conv at hq =>
        rhs
        unfold e12
        rw [decide_eq_false (by omega), cond_false, decide_eq_false (by omega), cond_false, pcK_of (num_eq hg2 hss), kI_mk, pcK_of (textR_eq he hss), d74_mk, pcK_of (num_eq h6 hss), kI_mk, gd_of (by simp), wn]
      refine e12_run _ hq ?_
      exact rR1_badA (kids := [0]) hs hc ⟨by simp, by simp, by simp, by simp only; omega⟩ (by simp) (by simp only [sizeN, szR]; omega) (by omega)
end Go.Proofs.Ytndkhelglfakfaa
