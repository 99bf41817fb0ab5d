/-
  Plain laws of inner pages: where keys lead behind a put, and in the halves of a split.
-/
import Derived.Test.YtndkhelglfakfaaQC
namespace Go.Proofs.Ytndkhelglfakfaa
open Go Go.Lite
set_option linter.unusedSimpArgs false
set_option linter.unusedVariables false

theorem at_app (a b : List Bs) (k : Bs) : atB (a ++ b) k = if atB a k = a.length then a.length + atB b k else atB a k := by
  induction a with
  | nil => simp [atB]
  | cons s a ih =>
    rw [List.cons_append, at_cons, at_cons, ih]
    cases lt k s with
    | true => simp
    | false =>
      simp only [Bool.false_eq_true, if_false, List.length_cons]
      by_cases h : atB a k = a.length
      · rw [if_pos h, if_pos (by omega)]; omega
      · rw [if_neg h, if_neg (by omega)]
theorem at_spec1 : ∀ {l : List Bs} {k : Bs} {j : Nat} {s : Bs}, j < atB l k → l[j]? = some s → lt k s = false
  | [], k, j, s, h, _ => by simp [atB] at h
  | x :: l, k, j, s, h, hs => by
    rw [at_cons] at h
    cases hx : lt k x with
    | true => rw [hx] at h; simp at h
    | false =>
      rw [hx] at h
      cases j with
      | zero => simp at hs; rw [← hs]; exact hx
      | succ j => exact at_spec1 (l := l) (by simpa using h) (by simpa using hs)
theorem at_spec2 : ∀ {l : List Bs} {k : Bs} {s : Bs}, l[atB l k]? = some s → lt k s = true
  | [], k, s, h => by simp at h
  | x :: l, k, s, h => by
    rw [at_cons] at h
    cases hx : lt k x with
    | true => rw [hx] at h; simp at h; rw [← h]; exact hx
    | false =>
      rw [hx] at h
      exact at_spec2 (l := l) (by simpa using h)
theorem last_cons (s : Bs) (a : List Bs) (p : Bs) : (s :: a).getLastD p = a.getLastD s := by
  cases a with
  | nil => rfl
  | cons y a => simp [List.getLastD]
theorem last_app : ∀ (a b : List Bs) (p : Bs), (a ++ b).getLastD p = b.getLastD (a.getLastD p)
  | [], b, p => rfl
  | s :: a, b, p => by rw [List.cons_append, last_cons, last_cons, last_app a b s]
theorem rise_app : ∀ (a b : List Bs) (p : Bs), riseB p (a ++ b) = (riseB p a && riseB (a.getLastD p) b)
  | [], b, p => rfl
  | s :: a, b, p => by rw [List.cons_append, riseB, riseB, rise_app a b s, last_cons]; cases keyB s <;> cases lt p s <;> rfl
theorem last_ne {a : List Bs} (h : a ≠ []) (p : Bs) : a[a.length - 1]? = some (a.getLastD p) := by
  cases a with
  | nil => exact (h rfl).elim
  | cons s a =>
    rw [List.getLastD_cons]
    simp [List.getLastD, List.getLast?_eq_getElem?]
    cases a with
    | nil => rfl
    | cons y a => simp [List.getLast_eq_getElem]
theorem szR_app : ∀ a b : List Bs, szR (a ++ b) = szR a + szR b
  | [], b => by simp [szR]
  | s :: a, b => by simp only [List.cons_append, szR, szR_app a b]; omega

theorem right_iff {n : Inn} : rightB n = true ↔ n.kids.length = n.seps.length + 1 ∧ (∀ k ∈ n.kids, pgB k = true) ∧ riseB [] n.seps = true ∧ highB (n.seps.getLastD []) n.high = true ∧ endB n = true := by
  unfold rightB
  simp only [Bool.and_eq_true, decide_eq_true_eq, List.all_eq_true]
  constructor
  · rintro ⟨⟨⟨⟨a, b⟩, c⟩, d⟩, e⟩; exact ⟨a, b, c, d, e⟩
  · rintro ⟨a, b, c, d, e⟩; exact ⟨⟨⟨⟨a, b⟩, c⟩, d⟩, e⟩
theorem end_iff {n : Inn} : endB n = true ↔ 0 ≤ n.next ∧ n.next ≤ 1024 ∧ 23 + szR n.seps ≤ 252 := by
  unfold endB fitB
  simp only [Bool.and_eq_true, decide_eq_true_eq]
  constructor
  · rintro ⟨⟨a, b⟩, c⟩; exact ⟨a, b, by omega⟩
  · rintro ⟨a, b, c⟩; exact ⟨⟨a, b⟩, by omega⟩

/-! ### behind a put -/

structure PutF (n : Inn) (key : Bs) (kid : Int) : Prop where
  right : rightB n = true
  isKey : keyB key = true
  high : (n.high == [] || lt key n.high) = true
  page : pgB kid = true
  new : ¬ (0 < atB n.seps key ∧ n.seps[atB n.seps key - 1]? = some key)
  fit : fitB (putN n key kid (atB n.seps key)) = true
theorem put_right {n : Inn} {key : Bs} {kid : Int} (h : PutF n key kid) : rightB (putN n key kid (atB n.seps key)) = true := by
  obtain ⟨hr, hk, hh, hp, hn, hf⟩ := h
  obtain ⟨r1, r2, r3, r4, r5⟩ := right_iff.1 hr
  obtain ⟨e1, e2, e3⟩ := end_iff.1 r5
  have hle := at_le n.seps key
  generalize hi : atB n.seps key = i at hn hf hle ⊢
  obtain ⟨A, hA⟩ : ∃ A, A = n.seps.take i := ⟨_, rfl⟩
  obtain ⟨B, hB⟩ : ∃ B, B = n.seps.drop i := ⟨_, rfl⟩
  have hAB : n.seps = A ++ B := by rw [hA, hB, List.take_append_drop]
  have hAl : A.length = i := by rw [hA, List.length_take]; omega
  rw [hAB, rise_app] at r3
  simp only [Bool.and_eq_true] at r3
  have hlast : lt (A.getLastD []) key = true := by
    by_cases h0 : A = []
    · rw [h0]; exact key_lt_nil hk
    · have hi0 : 0 < i := by
        rcases Nat.eq_zero_or_pos i with h | h
        · rw [h] at hAl; exact (h0 (List.length_eq_zero_iff.1 hAl)).elim
        · exact h
      have hg := last_ne h0 []
      rw [hAl] at hg
      have hg2 : n.seps[i - 1]? = some (A.getLastD []) := by
        rw [hAB, List.getElem?_append_left (by omega)]; exact hg
      have h1 : lt key (A.getLastD []) = false := at_spec1 (l := n.seps) (by omega) hg2
      refine lt_tri h1 fun e => hn ⟨hi0, ?_⟩
      rw [hg2, ← e]
  have hBr : riseB key B = true := by
    cases hB2 : B with
    | nil => rfl
    | cons s r =>
      rw [hB2] at r3
      have r32 := r3.2
      simp only [riseB, Bool.and_eq_true] at r32 ⊢
      have hs : n.seps[i]? = some s := by
        rw [hAB, List.getElem?_append_right (by omega), hAl, Nat.sub_self, hB2]; rfl
      have : lt key s = true := at_spec2 (l := n.seps) (by rw [hi]; exact hs)
      exact ⟨⟨r32.1.1, this⟩, r32.2⟩
  have hseps : (putN n key kid i).seps = A ++ (key :: B) := by
    show n.seps.take i ++ [key] ++ n.seps.drop i = _
    rw [← hA, ← hB, List.append_assoc]; rfl
  refine right_iff.2 ⟨?_, ?_, ?_, ?_, ?_⟩
  · show (n.kids.take (i + 1) ++ [kid] ++ n.kids.drop (i + 1)).length = (n.seps.take i ++ [key] ++ n.seps.drop i).length + 1
    simp
    omega
  · intro k hk'
    rcases List.mem_append.1 hk' with hk' | hk'
    · rcases List.mem_append.1 hk' with hk' | hk'
      · exact r2 k (List.mem_of_mem_take hk')
      · simp at hk'; rw [hk']; exact hp
    · exact r2 k (List.mem_of_mem_drop hk')
  · rw [hseps, rise_app, riseB, r3.1, hk, hlast, hBr]; rfl
  · rw [hseps, last_app, last_cons]
    show highB (B.getLastD key) n.high = true
    rw [hAB, last_app] at r4
    cases hB2 : B with
    | nil =>
      show highB key n.high = true
      rw [hB2] at r4
      unfold highB at r4 ⊢
      cases hz : n.high == [] with
      | true => rfl
      | false =>
        rw [hz] at r4 hh
        simp only [Bool.false_or, Bool.and_eq_true] at r4 hh ⊢
        exact ⟨r4.1, hh⟩
    | cons s r => rw [hB2, last_cons] at r4; rw [last_cons]; exact r4
  · refine end_iff.2 ⟨e1, e2, ?_⟩
    unfold fitB at hf
    simp only [decide_eq_true_eq] at hf
    omega
theorem put_leads {n : Inn} {key : Bs} {kid : Int} (h : PutF n key kid) (other : Bs) :
    (atB n.seps other = atB n.seps key ∧ lt other key = false → atB (putN n key kid (atB n.seps key)).seps other = atB n.seps key + 1 ∧ (putN n key kid (atB n.seps key)).kids[atB n.seps key + 1]? = some kid) ∧
    (¬ (atB n.seps other = atB n.seps key ∧ lt other key = false) → (putN n key kid (atB n.seps key)).kids[atB (putN n key kid (atB n.seps key)).seps other]? = n.kids[atB n.seps other]?) ∧
    atB (putN n key kid (atB n.seps key)).seps other < (putN n key kid (atB n.seps key)).kids.length ∧ atB n.seps other < n.kids.length := by
  have hpr := put_right h
  obtain ⟨hr, hk, hh, hp, hn, hf⟩ := h
  obtain ⟨r1, r2, r3, r4, r5⟩ := right_iff.1 hr
  obtain ⟨q1, _⟩ := right_iff.1 hpr
  have hle := at_le n.seps key
  have hle2 := at_le n.seps other
  have hle3 := at_le (putN n key kid (atB n.seps key)).seps other
  generalize hi : atB n.seps key = i at hn hf hle q1 hle3 ⊢
  obtain ⟨A, hA⟩ : ∃ A, A = n.seps.take i := ⟨_, rfl⟩
  obtain ⟨B, hB⟩ : ∃ B, B = n.seps.drop i := ⟨_, rfl⟩
  have hAB : n.seps = A ++ B := by rw [hA, hB, List.take_append_drop]
  have hAl : A.length = i := by rw [hA, List.length_take]; omega
  have hseps : (putN n key kid i).seps = A ++ (key :: B) := by
    show n.seps.take i ++ [key] ++ n.seps.drop i = _
    rw [← hA, ← hB, List.append_assoc]; rfl
  have hkids : ∀ j, (putN n key kid i).kids[j]? = if j < i + 1 then n.kids[j]? else if j = i + 1 then some kid else n.kids[j - 1]? := by
    intro j
    show (n.kids.take (i + 1) ++ [kid] ++ n.kids.drop (i + 1))[j]? = _
    have hl : (n.kids.take (i + 1)).length = i + 1 := by simp; omega
    by_cases h1 : j < i + 1
    · rw [if_pos h1, List.append_assoc, List.getElem?_append_left (by omega), List.getElem?_take, if_pos h1]
    · rw [if_neg h1]
      by_cases h2 : j = i + 1
      · rw [if_pos h2, h2, List.append_assoc, List.getElem?_append_right (by omega), hl, Nat.sub_self]; rfl
      · rw [if_neg h2, List.getElem?_append_right (by simp; omega)]
        simp only [List.length_append, hl, List.length_cons, List.length_nil, List.getElem?_drop]
        congr 1
        omega
  have hwas : atB n.seps other = if atB A other = i then i + atB B other else atB A other := by rw [hAB, at_app, hAl]
  have hnow : atB (putN n key kid i).seps other = if atB A other = i then i + (if lt other key then 0 else atB B other + 1) else atB A other := by rw [hseps, at_app, hAl, at_cons]
  have hAle := at_le A other
  have hB0 : lt other key = true → atB B other = 0 := by
    intro ho
    cases hB2 : B with
    | nil => rfl
    | cons s r =>
      have hs : n.seps[i]? = some s := by
        rw [hAB, List.getElem?_append_right (by omega), hAl, Nat.sub_self, hB2]; rfl
      have : lt key s = true := at_spec2 (l := n.seps) (by rw [hi]; exact hs)
      rw [at_cons, lt_trans ho this]; rfl
  refine ⟨?_, ?_, by omega, by omega⟩
  · rintro ⟨h1, h2⟩
    rw [hwas] at h1
    rw [hnow, hkids]
    have h3 : atB A other = i := by
      by_cases h3 : atB A other = i
      · exact h3
      · rw [if_neg h3] at h1; exact (h3 h1).elim
    rw [if_pos h3] at h1 ⊢
    rw [h2]
    refine ⟨by simp only [Bool.false_eq_true, if_false]; omega, ?_⟩
    rw [if_neg (by omega), if_pos rfl]
  · intro h1
    rw [hkids, hnow]
    rw [hwas] at h1 ⊢
    by_cases h3 : atB A other = i
    · rw [if_pos h3] at h1 ⊢
      rw [if_pos h3]
      cases h2 : lt other key with
      | true =>
        rw [hB0 h2]
        simp only [if_true, Nat.add_zero]
        rw [if_pos (by omega)]
      | false =>
        have : atB B other ≠ 0 := fun e => h1 ⟨by omega, h2⟩
        simp only [Bool.false_eq_true, if_false]
        rw [if_neg (by omega), if_neg (by omega)]
        congr 1
    · rw [if_neg h3, if_neg h3, if_pos (by omega)]
theorem put_del {n : Inn} {key : Bs} {kid : Int} {i : Nat} (hi : i ≤ n.seps.length) (hk : n.kids.length = n.seps.length + 1) : delN (putN n key kid i) (i + 1) = n := by
  have h1 : ((n.seps.take i ++ [key] ++ n.seps.drop i).take (i + 1 - 1) ++ (n.seps.take i ++ [key] ++ n.seps.drop i).drop (i + 1 - 1 + 1)) = n.seps := by
    have hl : (n.seps.take i).length = i := by simp; omega
    rw [show i + 1 - 1 = i by omega, List.append_assoc, List.take_append_of_le_length (by omega), List.take_of_length_le (by omega)]
    rw [← List.append_assoc, List.drop_append_of_le_length (by simp; omega), List.drop_eq_nil_of_le (by simp; omega), List.nil_append, List.take_append_drop]
  have h2 : ((n.kids.take (i + 1) ++ [kid] ++ n.kids.drop (i + 1)).take (i + 1) ++ (n.kids.take (i + 1) ++ [kid] ++ n.kids.drop (i + 1)).drop (i + 1 + 1)) = n.kids := by
    have hl : (n.kids.take (i + 1)).length = i + 1 := by simp; omega
    rw [List.append_assoc, List.take_append_of_le_length (by omega), List.take_of_length_le (by omega)]
    rw [← List.append_assoc, List.drop_append_of_le_length (by simp; omega), List.drop_eq_nil_of_le (by simp; omega), List.nil_append, List.take_append_drop]
  show (⟨_, _, n.high, n.next⟩ : Inn) = n
  rw [h1, h2]

/-! ### halves -/

theorem rise_weak {p : Bs} {l : List Bs} (h : riseB p l = true) : riseB [] l = true := by
  cases l with
  | nil => rfl
  | cons s r =>
    simp only [riseB, Bool.and_eq_true] at h ⊢
    exact ⟨⟨h.1.1, key_lt_nil h.1.1⟩, h.2⟩
theorem split_parts {n : Inn} (hr : rightB n = true) (h3 : 3 ≤ n.kids.length) : ∃ A mid B, n.seps = A ++ mid :: B ∧ A.length = n.seps.length / 2 ∧ n.seps.getD (n.seps.length / 2) [] = mid ∧ n.seps.take (n.seps.length / 2) = A ∧ n.seps.drop (n.seps.length / 2 + 1) = B := by
  obtain ⟨r1, _⟩ := right_iff.1 hr
  have hm : n.seps.length / 2 < n.seps.length := by omega
  generalize n.seps.length / 2 = m at hm
  refine ⟨n.seps.take m, n.seps[m], n.seps.drop (m + 1), ?_, by simp; omega, ?_, rfl, rfl⟩
  · rw [← List.drop_eq_getElem_cons hm, List.take_append_drop]
  · simp [List.getD, List.getElem?_eq_getElem hm]
theorem split_right {n : Inn} {to : Int} (hr : rightB n = true) (h3 : 3 ≤ n.kids.length) (ht : pgB to = true) : rightB (splA n to) = true ∧ rightB (splB n) = true := by
  obtain ⟨A, mid, B, e1, e2, e3, e4, e5⟩ := split_parts hr h3
  obtain ⟨r1, r2, r3, r4, r5⟩ := right_iff.1 hr
  obtain ⟨g1, g2, g3⟩ := end_iff.1 r5
  have ht2 := pg_lt ht
  have hlen : n.seps.length = A.length + (B.length + 1) := by rw [e1]; simp
  have r3' := r3
  rw [e1, rise_app, riseB] at r3'
  simp only [Bool.and_eq_true] at r3'
  obtain ⟨rA, ⟨⟨kM, lM⟩, rB⟩⟩ := r3'
  have hz : szR n.seps = szR A + (3 + mid.length + szR B) := by rw [e1, szR_app, szR]
  constructor
  · refine right_iff.2 ⟨?_, ?_, ?_, ?_, ?_⟩
    · show (n.kids.take _).length = (n.seps.take _).length + 1
      simp; omega
    · exact fun k hk => r2 k (List.mem_of_mem_take hk)
    · show riseB [] (n.seps.take _) = true
      rw [e4]; exact rA
    · show highB ((n.seps.take _).getLastD []) (n.seps.getD _ []) = true
      rw [e4, e3]
      unfold highB
      rw [kM, lM]
      simp
    · refine end_iff.2 ⟨by show 0 ≤ to + 1; omega, by show to + 1 ≤ 1024; omega, ?_⟩
      show 23 + szR (n.seps.take _) ≤ 252
      rw [e4]; omega
  · refine right_iff.2 ⟨?_, ?_, ?_, ?_, ?_⟩
    · show (n.kids.drop _).length = (n.seps.drop _).length + 1
      simp; omega
    · exact fun k hk => r2 k (List.mem_of_mem_drop hk)
    · show riseB [] (n.seps.drop _) = true
      rw [e5]; exact rise_weak rB
    · show highB ((n.seps.drop _).getLastD []) n.high = true
      rw [e5]
      rw [e1, last_app, last_cons] at r4
      cases B with
      | nil =>
        unfold highB at r4 ⊢
        cases hq : n.high == [] with
        | true => rfl
        | false =>
          rw [hq] at r4
          simp only [Bool.false_or, Bool.and_eq_true] at r4 ⊢
          exact ⟨r4.1, key_lt_nil r4.1⟩
      | cons s r => rw [last_cons] at r4 ⊢; exact r4
    · refine end_iff.2 ⟨g1, g2, ?_⟩
      show 23 + szR (n.seps.drop _) ≤ 252
      rw [e5]; omega
theorem split_leads {n : Inn} {to : Int} (hr : rightB n = true) (h3 : 3 ≤ n.kids.length) (key : Bs) :
    (lt key (n.seps.getD (n.seps.length / 2) []) = true → (splA n to).kids[atB (splA n to).seps key]? = n.kids[atB n.seps key]?) ∧
    (lt key (n.seps.getD (n.seps.length / 2) []) = false → (splB n).kids[atB (splB n).seps key]? = n.kids[atB n.seps key]?) := by
  obtain ⟨A, mid, B, e1, e2, e3, e4, e5⟩ := split_parts hr h3
  obtain ⟨r1, r2, r3, r4, r5⟩ := right_iff.1 hr
  have r3' := r3
  rw [e1, rise_app, riseB] at r3'
  simp only [Bool.and_eq_true] at r3'
  obtain ⟨rA, ⟨⟨kM, lM⟩, rB⟩⟩ := r3'
  have hAle := at_le A key
  have hw : atB n.seps key = if atB A key = A.length then A.length + (if lt key mid then 0 else atB B key + 1) else atB A key := by rw [e1, at_app, at_cons]
  rw [e3]
  constructor
  · intro h
    show (n.kids.take _)[atB (n.seps.take _) key]? = _
    rw [e4, hw, h, List.getElem?_take, if_pos (by omega)]
    simp only [if_true, Nat.add_zero]
    split
    · rename_i hq; rw [hq]
    · rfl
  · intro h
    show (n.kids.drop _)[atB (n.seps.drop _) key]? = _
    have hA : atB A key = A.length := by
      by_cases hq : atB A key = A.length
      · exact hq
      · have hlt : atB A key < A.length := by omega
        have hg : A[atB A key]? = some A[atB A key] := List.getElem?_eq_getElem hlt
        have h1 := at_spec2 hg
        have h2 := (rise_last mid A [] rA lM).2
        simp only [List.all_eq_true] at h2
        rw [lt_trans h1 (h2 _ (List.getElem_mem hlt))] at h
        cases h
    rw [e5, hw, h, if_pos hA, List.getElem?_drop, ← e2]
    simp only [Bool.false_eq_true, if_false]
    congr 1
    omega

/-! ### each kid has a key -/

theorem at_self {n : Inn} (hr : rightB n = true) {j : Nat} {s : Bs} (h : n.seps[j]? = some s) : findB n s = (((j + 1 : Nat) : Int), 0) := by
  obtain ⟨r1, r2, r3, r4, r5⟩ := right_iff.1 hr
  have hj : j < n.seps.length := (List.getElem?_eq_some_iff.1 h).1
  have e1 : n.seps = n.seps.take j ++ s :: n.seps.drop (j + 1) := by
    have : n.seps[j] = s := (List.getElem?_eq_some_iff.1 h).2
    rw [← this, ← List.drop_eq_getElem_cons hj, List.take_append_drop]
  have hAl : (n.seps.take j).length = j := by simp; omega
  generalize n.seps.take j = A at e1 hAl
  generalize n.seps.drop (j + 1) = B at e1
  have r3' := r3
  rw [e1, rise_app, riseB] at r3'
  simp only [Bool.and_eq_true] at r3'
  obtain ⟨rA, ⟨⟨kM, lM⟩, rB⟩⟩ := r3'
  have hB : atB B s = 0 := by
    cases B with
    | nil => rfl
    | cons x r =>
      simp only [riseB, Bool.and_eq_true] at rB
      rw [at_cons, rB.1.2]; rfl
  have hA : atB A s = A.length := by
    by_cases hq : atB A s = A.length
    · exact hq
    · have hle := at_le A s
      have hlt : atB A s < A.length := by omega
      have hg : A[atB A s]? = some A[atB A s] := List.getElem?_eq_getElem hlt
      have h1 := at_spec2 hg
      have h2 := (rise_last s A [] rA lM).2
      simp only [List.all_eq_true] at h2
      have := lt_asymm (h2 _ (List.getElem_mem hlt))
      rw [h1] at this; cases this
  have hat : atB n.seps s = j + 1 := by
    rw [e1, at_app, if_pos hA, at_cons, lt_irr, hB, hAl]; rfl
  have hh : (n.high == [] || lt s n.high) = true := by
    cases hq : n.high == [] with
    | true => rfl
    | false =>
      unfold highB at r4
      rw [hq] at r4
      simp only [Bool.false_or, Bool.and_eq_true] at r4
      have := (rise_last n.high n.seps [] r3 r4.2).2
      simp only [List.all_eq_true] at this
      rw [this s (List.mem_of_getElem? h)]; rfl
  unfold findB
  rw [hr, kM, hh, hat]
  rfl
theorem turn_right {n : Inn} (hr : rightB n = true) {i : Nat} {kid : Int} (hp : pgB kid = true) : rightB (turnN n i kid) = true := by
  obtain ⟨r1, r2, r3, r4, r5⟩ := right_iff.1 hr
  refine right_iff.2 ⟨by show (n.kids.set i kid).length = _; simp [r1], ?_, r3, r4, r5⟩
  intro k hk
  rcases List.mem_or_eq_of_mem_set hk with hk | hk
  · exact r2 k hk
  · rw [hk]; exact hp
end Go.Proofs.Ytndkhelglfakfaa
