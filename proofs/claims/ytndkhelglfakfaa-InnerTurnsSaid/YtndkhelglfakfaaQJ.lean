/-
  Inner pages as bytes.
-/
import Derived.Test.YtndkhelglfakfaaQI
namespace Go.Proofs.Ytndkhelglfakfaa
open Go Go.Lite
set_option linter.unusedSimpArgs false
set_option linter.unusedVariables false

/-! ### bytes written behind others, zeros behind them -/

abbrev zer (m : Nat) : Bs := List.replicate m 0
theorem zer_drop (m k : Nat) : (zer m).drop k = zer (m - k) := by simp [zer]
theorem over_at (d t : Bs) (m : Nat) (h : t.length ≤ m) : overB (d ++ zer m) d.length t = d ++ t ++ zer (m - t.length) := by
  unfold overB
  rw [List.take_append_of_le_length (Nat.le_refl _), List.take_length, List.drop_append, List.drop_eq_nil_of_le (by omega), List.nil_append, show d.length + t.length - d.length = t.length by omega, zer_drop]
theorem put_at (d : Bs) (m k x : Nat) (n kk : Int) (hkk : kk = (k : Int)) (hn : n = (d.length : Int)) (h1 : 1 ≤ k) (h8 : k ≤ 8) (hm : k ≤ m) (hx : x < 256 ^ k) : putB (d ++ zer m) n kk x = (d ++ leN k x ++ zer (m - k), 0) := by
  subst hkk
  unfold putB
  rw [if_pos (roomE_ok (by omega) (by omega) (by omega) (by simp; omega)), toNat_cast, if_pos hx, hn, toNat_cast, over_at _ _ _ (by rw [leN_len]; exact hm), leN_len]
theorem putText_at (d t : Bs) (m : Nat) (n : Int) (hn : n = (d.length : Int)) (hl : t.length ≤ 255) (hm : t.length + 1 ≤ m) :
    putTextB (d ++ zer m) n t = (d ++ (UInt8.ofNat t.length :: t) ++ zer (m - (t.length + 1)), n + t.length + 1, 0) := by
  unfold putTextB
  rw [if_pos (by simp; omega), if_neg (by omega), if_neg (by simp; omega), hn, toNat_cast, over_at _ _ _ (by simpa using hm)]
  simp

theorem put_eq {s t : Bs} {n size e : Int} {x : Nat} (h : putB s n size x = (t, e)) (hx : x < 18446744073709551616) (hs : small s) : pcW qcfg 47 [.str s, .int .i64 n, .int .i64 size, .int .u64 (x : Int)] = some (.tup [.str t, .int .i64 e]) := by
  rw [put_ok s n size x hx hs, h]
theorem putText_eq {s t u : Bs} {n m e : Int} (h : putTextB s n t = (u, m, e)) (hs : small s) (ht : small t) : pcW qcfg 48 [.str s, .int .i64 n, .str t] = some (.tup [.str u, .int .i64 m, .int .i64 e]) := by
  rw [putText_ok s n t hs ht, h]
theorem pad_eq {s t : Bs} {n e : Int} (h : padB s n = (t, e)) (hs : small s) : pcW qcfg 46 [.str s, .int .i64 n] = some (.tup [.str t, .int .i64 e]) := by
  rw [pad_ok s n hs, h]

/-! ### what an inner page is as bytes -/

abbrev txB (s : Bs) : Bs := UInt8.ofNat s.length :: s
def rowsB : List (Bs × Int) → Bs
  | [] => []
  | (s, k) :: r => txB s ++ leN 2 k.toNat ++ rowsB r
def headB (n : Inn) : Bs := UInt8.ofNat n.seps.length :: (leN 2 n.next.toNat ++ (txB n.high ++ leN 2 (n.kids.headD 0).toNat))
def bodyB (n : Inn) : Bs := headB n ++ rowsB (n.seps.zip n.kids.tail)
def encB (n : Inn) : Bs := if rightB n then 78 :: bodyB n else []
theorem rows_len : ∀ (a : List Bs) (b : List Int), b.length = a.length → (rowsB (a.zip b)).length = szR a
  | [], b, h => by
    have : b = [] := by simpa using h
    subst this; rfl
  | s :: a, [], h => by simp at h
  | s :: a, k :: b, h => by
    have ih := rows_len a b (by simpa using h)
    rw [List.zip_cons_cons, rowsB, szR]
    simp [leN_len, ih]
    omega
/-- what is known of one that may be -/
theorem right_facts {n : Inn} (h : rightB n = true) : n.kids.length = n.seps.length + 1 ∧ (∀ k ∈ n.kids, pgB k = true) ∧ (∀ s ∈ n.seps, keyB s = true) ∧ n.high.length ≤ 16 ∧ 0 ≤ n.next ∧ n.next ≤ 1024 ∧ 23 + szR n.seps ≤ 252 := by
  have h2 : ∀ (l : List Bs) (p : Bs), riseB p l = true → ∀ s ∈ l, keyB s = true := by
    intro l
    induction l with
    | nil => intro p _ s hs; simp at hs
    | cons x l ih =>
      intro p hp s hs
      simp only [riseB, Bool.and_eq_true] at hp
      rcases List.mem_cons.1 hs with rfl | hs
      · exact hp.1.1
      · exact ih _ hp.2 s hs
  unfold rightB endB fitB highB at h
  simp only [Bool.and_eq_true, decide_eq_true_eq, Bool.or_eq_true, beq_iff_eq, List.all_eq_true] at h
  obtain ⟨⟨⟨⟨h1, hk⟩, hr⟩, hh⟩, ⟨hn1, hn2⟩, hf⟩ := h
  refine ⟨h1, hk, h2 _ _ hr, ?_, hn1, hn2, by omega⟩
  rcases hh with hh | ⟨hh, _⟩
  · rw [hh]; simp
  · unfold keyB at hh
    simp only [Bool.and_eq_true, decide_eq_true_eq] at hh
    exact hh.2
theorem key_len {s : Bs} (h : keyB s = true) : 1 ≤ s.length ∧ s.length ≤ 16 := by
  unfold keyB at h
  simp only [Bool.and_eq_true, decide_eq_true_eq, Bool.not_eq_true', beq_eq_false_iff_ne] at h
  refine ⟨?_, h.2⟩
  cases s with
  | nil => exact (h.1 rfl).elim
  | cons c s => simp
theorem pg_lt {k : Int} (h : pgB k = true) : 0 ≤ k ∧ k < 1024 := by
  unfold pgB at h
  simpa using h
theorem szR_ge : ∀ {l : List Bs}, (∀ s ∈ l, keyB s = true) → 4 * l.length ≤ szR l
  | [], _ => Nat.le_refl _
  | s :: r, h => by
    have h1 := (key_len (h s (by simp))).1
    have h2 := szR_ge (l := r) fun x hx => h x (by simp [hx])
    simp only [szR, List.length_cons]
    omega
theorem right_sm {n : Inn} (h : rightB n = true) : Sm n := by
  obtain ⟨h1, h2, h3, h4, h5, h6, h7⟩ := right_facts h
  have := szR_ge h3
  exact ⟨by omega, fun s hs => by have := (key_len (h3 s hs)).2; omega, by omega, by omega⟩
theorem enc_len {n : Inn} (h : rightB n = true) : (encB n).length = sizeN n := by
  obtain ⟨h1, _⟩ := right_facts h
  unfold encB bodyB headB sizeN
  rw [if_pos h]
  have := rows_len n.seps n.kids.tail (by simp; omega)
  simp [leN_len, this]
  omega

/-! ### Encode -/

theorem enc_loop : ∀ (l : List (Bs × Int)) (d : Bs), (∀ x ∈ l, x.1.length ≤ 255 ∧ pgB x.2 = true) → d.length + (rowsB l).length ≤ 100000 →
    Go qk false 0 fa18 (.head 0 (T18_0 (l.map eT) (d ++ zer (rowsB l).length) (d.length : Int))) (.done (.str (d ++ rowsB l))) := by
  intro l
  induction l with
  | nil =>
    intro d _ _
    refine s18_0_run _ _ _ ?_ (.refl _)
    unfold s18_0
    simp [restK, rowsB]
  | cons x l ih =>
    obtain ⟨s, k⟩ := x
    intro d h hd
    obtain ⟨hs, hk⟩ := h (s, k) (by simp)
    simp only at hs hk
    have hk2 := pg_lt hk
    obtain ⟨kn, rfl⟩ : ∃ kn : Nat, k = (kn : Int) := ⟨k.toNat, by omega⟩
    have hlen : (rowsB ((s, (kn : Int)) :: l)).length = s.length + 1 + 2 + (rowsB l).length := by
      rw [rowsB]; simp [leN_len]; omega
    rw [hlen] at hd ⊢
    have e1 := putText_at d s (s.length + 1 + 2 + (rowsB l).length) (d.length : Int) rfl hs (by omega)
    have e2 := put_at (d ++ txB s) (2 + (rowsB l).length) 2 kn ((d.length : Int) + s.length + 1) 2 rfl (by simp; omega) (by omega) (by omega) (by omega) (by omega)
    rw [show s.length + 1 + 2 + (rowsB l).length - (s.length + 1) = 2 + (rowsB l).length by omega] at e1
    rw [show 2 + (rowsB l).length - 2 = (rowsB l).length by omega] at e2
    have w : W .u64 (kn : Int) = (kn : Int) := W_u64 (by omega)
    have w2 : W .i64 ((d.length : Int) + s.length + 1 + 2) = (((d ++ txB s ++ leN 2 kn).length : Nat) : Int) := by
      rw [W_i64 (by omega)]; simp [leN_len]; omega
    refine s18_0_run _ _ _ (o := .head 0 (T18_0 (l.map eT) (d ++ txB s ++ leN 2 kn ++ zer (rowsB l).length) (((d ++ txB s ++ leN 2 kn).length : Nat) : Int))) ?_ ?_
    · unfold s18_0
      simp only [List.map_cons, restK, kT_mk, unc_mk, kS_mk, kI_mk, unn_mk]
      rw [pcK_of (putText_eq e1 (by simp [small]; omega) (by simp only [small]; omega)), d74_mk, w, pcK_of (put_eq e2 (by omega) (by simp [small]; omega)), d59_mk, w2]
    · have := ih (d ++ txB s ++ leN 2 kn) (fun x hx => h x (by simp [hx])) (by simp [leN_len]; omega)
      rw [rowsB, toNat_cast]
      simpa [List.append_assoc] using this
theorem zip_mem {n : Inn} (h : rightB n = true) : ∀ x ∈ n.seps.zip n.kids.tail, x.1.length ≤ 255 ∧ pgB x.2 = true := by
  obtain ⟨h1, h2, h3, _⟩ := right_facts h
  intro x hx
  have hz := List.of_mem_zip hx
  have := (key_len (h3 _ hz.1)).2
  exact ⟨by omega, h2 _ (List.mem_of_mem_tail hz.2)⟩
theorem enc_ok (n : Inn) (h : Sm n) : pcW qcfg 18 [eI n] = some (.str (encB n)) := by
  cases hr : rightB n with
  | false =>
    refine e18_run _ _ _ _ ?_ (.refl _)
    unfold e18 encB
    rw [pcK_of (right_ok n h), kB_mk, hr]
    rfl
  | true =>
    obtain ⟨h1, h2, h3, h4, h5, h6, h7⟩ := right_facts hr
    have hg := szR_ge h3
    obtain ⟨k, ks, hks⟩ : ∃ k ks, n.kids = k :: ks := by
      cases hk : n.kids with
      | nil => rw [hk] at h1; simp at h1
      | cons k ks => exact ⟨k, ks, rfl⟩
    have hk := pg_lt (h2 k (by rw [hks]; simp))
    obtain ⟨kn, rfl⟩ : ∃ kn : Nat, k = (kn : Int) := ⟨k.toNat, by omega⟩
    obtain ⟨nn, hnn⟩ : ∃ nn : Nat, n.next = (nn : Int) := ⟨n.next.toNat, by omega⟩
    have hkl : ks.length = n.seps.length := by rw [hks] at h1; simpa using h1
    have hrl := rows_len n.seps ks hkl
    obtain ⟨R, hR⟩ : ∃ R, R = rowsB (n.seps.zip ks) := ⟨_, rfl⟩
    have hRl : R.length = szR n.seps := by rw [hR, hrl]
    obtain ⟨c, hc⟩ : ∃ c : UInt8, c = UInt8.ofNat n.seps.length := ⟨_, rfl⟩
    have e0 : padB [78] ((sizeN n : Nat) : Int) = ([78] ++ zer (1 + (2 + (n.high.length + 1 + (2 + R.length)))), 0) := by
      have hz : sizeN n = 1 + (1 + (2 + (n.high.length + 1 + (2 + R.length)))) := by unfold sizeN; omega
      unfold padB
      rw [if_neg (by omega), if_neg (by simp; omega), toNat_cast, hz]
      congr 3
      simp
    have e1 := put_at [78] (1 + (2 + (n.high.length + 1 + (2 + R.length)))) 1 n.seps.length 1 1 rfl rfl (by omega) (by omega) (by omega) (by omega)
    have f1 : leN 1 n.seps.length = [c] := by
      rw [hc]
      show [UInt8.ofNat (n.seps.length % 256)] = _
      rw [Nat.mod_eq_of_lt (by omega)]
    rw [f1, show 1 + (2 + (n.high.length + 1 + (2 + R.length))) - 1 = 2 + (n.high.length + 1 + (2 + R.length)) by omega] at e1
    have e2 := put_at ([78] ++ [c]) (2 + (n.high.length + 1 + (2 + R.length))) 2 nn 2 2 rfl rfl (by omega) (by omega) (by omega) (by omega)
    rw [show 2 + (n.high.length + 1 + (2 + R.length)) - 2 = n.high.length + 1 + (2 + R.length) by omega] at e2
    have e3 := putText_at ([78] ++ [c] ++ leN 2 nn) n.high (n.high.length + 1 + (2 + R.length)) 4 (by simp [leN_len]) (by omega) (by omega)
    rw [show n.high.length + 1 + (2 + R.length) - (n.high.length + 1) = 2 + R.length by omega] at e3
    have e4 := put_at ([78] ++ [c] ++ leN 2 nn ++ txB n.high) (2 + R.length) 2 kn (4 + n.high.length + 1) 2 rfl (by simp [leN_len]; omega) (by omega) (by omega) (by omega) (by omega)
    rw [show 2 + R.length - 2 = R.length by omega] at e4
    have hd : ([78] ++ [c] ++ leN 2 nn ++ txB n.high ++ leN 2 kn).length = 4 + n.high.length + 1 + 2 := by simp [leN_len]; omega
    have hm : ∀ x ∈ n.seps.zip ks, x.1.length ≤ 255 ∧ pgB x.2 = true := by
      have := zip_mem hr
      rw [hks] at this
      exact this
    have hl := enc_loop (n.seps.zip ks) ([78] ++ [c] ++ leN 2 nn ++ txB n.high ++ leN 2 kn) hm (by rw [hd, ← hR]; omega)
    have hfin : [78] ++ [c] ++ leN 2 nn ++ txB n.high ++ leN 2 kn ++ rowsB (n.seps.zip ks) = encB n := by
      unfold encB bodyB headB
      rw [if_pos hr, hks, hnn, hc]
      simp
    rw [hfin, ← hR] at hl
    have w0 : W .u64 (n.seps.length : Int) = (n.seps.length : Int) := W_u64 (by omega)
    have w1 : W .u64 (nn : Int) = (nn : Int) := W_u64 (by omega)
    have w2 : W .u64 (kn : Int) = (kn : Int) := W_u64 (by omega)
    have w3 : W .i64 (4 + (n.high.length : Int) + 1 + 2) = ((([78] ++ [c] ++ leN 2 nn ++ txB n.high ++ leN 2 kn).length : Nat) : Int) := by rw [W_i64 (by omega), hd]; omega
    have g0 : n.kids[0]? = some (kn : Int) := by rw [hks]; rfl
    refine e18_run _ _ _ _ ?_ hl
    unfold e18
    have s78 : [UInt8.ofNat ((78 : Int)).toNat] = ([78] : Bs) := rfl
    rw [pcK_of (right_ok n h), kB_mk, hr, Bool.not_true, cond_false, pcK_of (size_ok n h), kI_mk, s78, pcK_of (pad_eq e0 (by decide)), d59_mk, strs_len, w0]
    rw [pcK_of (put_eq e1 (by omega) (by simp [small]; omega))]
    rw [d59_mk, hnn, w1, pcK_of (put_eq e2 (by omega) (by simp [small]; omega))]
    rw [d59_mk, pcK_of (putText_eq e3 (by simp [small, leN_len]; omega) (by simp only [small]; omega)), d74_mk, idxK_ints g0, kI_mk, w2, pcK_of (put_eq e4 (by omega) (by simp [small, leN_len]; omega))]
    rw [d59_mk, gd_of (wfl_ints _), gd_of (by rw [ints_len, hks]; simp)]
    have e5 : ((ints n.kids).take (ints n.kids).length).drop 1 = ints ks := by rw [List.take_length, hks]; rfl
    rw [e5, w3]
    simp only [bothP, if_pos (show (strs n.seps).length ≤ 16777216 ∧ (strs n.seps).all V.one = true ∧ (ints ks).all V.one = true from ⟨by rw [strs_len]; omega, strs_one1 _, ints_one1 _⟩), opt_mk, both_rows]

/-! ### the document's -/

theorem two_ok (n : Nat) (h : n < 65536) : pcW qcfg 49 [.int .i64 (n : Int)] = some (.str (leN 2 n)) := by
  refine e49_done _ ?_
  unfold e49
  have w1 : W .u8 (((n : Int)).tmod 256) = ((n % 256 : Nat) : Int) := by
    rw [show ((n : Int)).tmod 256 = ((n % 256 : Nat) : Int) from rfl, W_u8_nat]; omega
  have w2 : W .u8 (W .i64 (((n : Int)).tdiv 256)) = ((n / 256 % 256 : Nat) : Int) := by
    rw [show ((n : Int)).tdiv 256 = ((n / 256 : Nat) : Int) from rfl, W_i64 (by omega), W_u8_nat]
  rw [w1, w2, toNat_cast, toNat_cast]
  rfl
theorem text_bytes (s : Bs) (h : s.length ≤ 255) : pcW qcfg 50 [.str s] = some (.str (txB s)) := by
  refine e50_done _ ?_
  unfold e50
  have w1 : W .u8 ((s.length : Int)) = ((s.length : Nat) : Int) := by rw [W_u8_nat]; omega
  rw [w1, toNat_cast, gd_of (by simp; omega)]
  rfl
theorem encR_loop (n : Inn) (h : rightB n = true) : ∀ (r : List (Bs × Int)) (k : Nat) (d : Bs), (n.seps.zip n.kids.tail).drop k = r → d.length + (rowsB r).length ≤ 100000 →
    Go qk false 0 fa19 (.head 0 (T19_0 d (k : Int) (strs n.seps) (ints n.kids) n.high n.next)) (.done (.str (d ++ rowsB r))) := by
  intro r
  obtain ⟨h1, _⟩ := right_facts h
  have hsm := right_sm h
  have hls := hsm.seps
  have hzl : (n.seps.zip n.kids.tail).length = n.seps.length := by simp; omega
  induction r with
  | nil =>
    intro k d hr _
    have hk := drop_nil hr
    refine s19_0_run _ _ _ _ _ _ ?_ (.refl _)
    unfold s19_0
    rw [decide_eq_false (by rw [strs_len]; omega), cond_false, rowsB, List.append_nil]
  | cons x r ih =>
    obtain ⟨s, kk⟩ := x
    intro k d hr hd
    obtain ⟨g1, g2, g3⟩ := drop_cons hr
    obtain ⟨hs, hk⟩ := zip_mem h (s, kk) (List.mem_of_getElem? g1)
    simp only at hs hk
    have hk2 := pg_lt hk
    obtain ⟨kn, rfl⟩ : ∃ kn : Nat, kk = (kn : Int) := ⟨kk.toNat, by omega⟩
    obtain ⟨q1, q2⟩ := List.getElem?_zip_eq_some.1 g1
    have q3 : n.kids[k + 1]? = some (kn : Int) := by rw [← q2, List.getElem?_tail]
    have hlen : (rowsB ((s, (kn : Int)) :: r)).length = s.length + 1 + 2 + (rowsB r).length := by
      rw [rowsB]; simp [leN_len]; omega
    rw [hlen] at hd
    have w : W .i64 ((k : Int) + 1) = ((k + 1 : Nat) : Int) := by rw [W_i64 (by omega)]; omega
    refine s19_0_run _ _ _ _ _ _ (o := .head 0 (T19_0 (d ++ (txB s ++ leN 2 kn)) ((k + 1 : Nat) : Int) (strs n.seps) (ints n.kids) n.high n.next)) ?_ ?_
    · unfold s19_0
      rw [decide_eq_true (by rw [strs_len]; omega), cond_true, gd_of (by simp), toNat_cast, idxK_strs q1, kS_mk, pcK_of (text_bytes s hs), kS_mk, w, gd_of (by simp; omega), toNat_cast, idxK_ints q3, kI_mk, pcK_of (two_ok kn (by omega)), kS_mk, gd_of (by simp [leN_len]; omega), gd_of (by simp [leN_len]; omega)]
    · have := ih (k + 1) (d ++ (txB s ++ leN 2 kn)) g2 (by simp [leN_len]; omega)
      rw [rowsB, toNat_cast]
      simpa [List.append_assoc] using this
theorem encR_ok (n : Inn) (h : Sm n) : pcW qcfg 19 [eI n] = some (.str (encB n)) := by
  cases hr : rightB n with
  | false =>
    refine e19_run _ _ _ _ ?_ (.refl _)
    unfold e19 encB
    rw [pcK_of (rightR_ok n h), kB_mk, hr]
    rfl
  | true =>
    obtain ⟨h1, h2, h3, h4, h5, h6, h7⟩ := right_facts hr
    have hg := szR_ge h3
    obtain ⟨k, ks, hks⟩ : ∃ k ks, n.kids = k :: ks := by
      cases hk : n.kids with
      | nil => rw [hk] at h1; simp at h1
      | cons k ks => exact ⟨k, ks, rfl⟩
    have hk := pg_lt (h2 k (by rw [hks]; simp))
    obtain ⟨kn, rfl⟩ : ∃ kn : Nat, k = (kn : Int) := ⟨k.toNat, by omega⟩
    obtain ⟨nn, hnn⟩ : ∃ nn : Nat, n.next = (nn : Int) := ⟨n.next.toNat, by omega⟩
    have g0 : n.kids[0]? = some (kn : Int) := by rw [hks]; rfl
    have hkl : n.kids.tail.length = n.seps.length := by simp; omega
    have hrl := rows_len n.seps n.kids.tail hkl
    have hl := encR_loop n hr _ 0 ([78] ++ [UInt8.ofNat n.seps.length] ++ leN 2 nn ++ txB n.high ++ leN 2 kn) rfl (by rw [List.drop_zero, hrl]; simp [leN_len]; omega)
    rw [List.drop_zero] at hl
    have hfin : [78] ++ [UInt8.ofNat n.seps.length] ++ leN 2 nn ++ txB n.high ++ leN 2 kn ++ rowsB (n.seps.zip n.kids.tail) = encB n := by
      unfold encB bodyB headB
      rw [if_pos hr, hks, hnn]
      simp
    rw [hfin] at hl
    refine e19_run _ _ _ _ ?_ hl
    have w1 : W .u8 ((n.seps.length : Int)) = ((n.seps.length : Nat) : Int) := by rw [W_u8_nat]; omega
    unfold e19
    rw [pcK_of (rightR_ok n h), kB_mk, hr, Bool.not_true, cond_false, strs_len, w1, toNat_cast, gd_of (by simp), hnn, pcK_of (two_ok nn (by omega)), kS_mk, gd_of (by simp [leN_len]), pcK_of (text_bytes n.high (by omega)), kS_mk, gd_of (by simp [leN_len]; omega), idxK_ints g0, kI_mk, pcK_of (two_ok kn (by omega)), kS_mk, gd_of (by simp [leN_len]; omega)]
    rfl
end Go.Proofs.Ytndkhelglfakfaa
