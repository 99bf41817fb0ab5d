/-
  Plain laws of kids and changes: no program in sight.
-/
import Derived.Test.YtgpgjojejdaibaaS7
namespace Go.Proofs.Ytgpgjojejdaibaa
open Go Go.Lite
set_option linter.unusedSimpArgs false
set_option linter.unusedVariables false

/-! ### rows that may be -/

theorem ok_lt {q : Bs} {x : Kd} (h : okK (some q) x = true) : pgB x.2 = true ∧ keyB x.1 = true ∧ lt q x.1 = true := by
  simp only [okK, Bool.and_eq_true] at h; exact h
theorem ok_mk {q : Bs} {x : Kd} (h1 : pgB x.2 = true) (h2 : keyB x.1 = true) (h3 : lt q x.1 = true) : okK (some q) x = true := by
  simp [okK, h1, h2, h3]
theorem right_cons {p : Option Bs} {x : Kd} {r : List Kd} : rightL p (x :: r) = true ↔ okK p x = true ∧ rightL (some x.1) r = true := by
  simp [rightL]
theorem right_weak {q q' : Bs} {r : List Kd} (h : rightL (some q) r = true) (hq : lt q' q = true) : rightL (some q') r = true := by
  cases r with
  | nil => rfl
  | cons x r =>
    rw [right_cons] at h ⊢
    obtain ⟨h1, h2, h3⟩ := ok_lt h.1
    exact ⟨ok_mk h1 h2 (lt_trans hq h3), h.2⟩
theorem right_sub {l' l : List Kd} (hs : l'.Sublist l) : ∀ {q : Bs}, rightL (some q) l = true → rightL (some q) l' = true := by
  induction hs with
  | slnil => intro q h; rfl
  | cons x _ ih =>
    intro q h
    rw [right_cons] at h
    exact ih (right_weak h.2 (ok_lt h.1).2.2)
  | cons_cons x _ ih =>
    intro q h
    rw [right_cons] at h ⊢
    exact ⟨h.1, ih h.2⟩
theorem right_all {q : Bs} : ∀ {r : List Kd}, rightL (some q) r = true → ∀ x ∈ r, pgB x.2 = true ∧ keyB x.1 = true ∧ lt q x.1 = true
  | [], _, x, hx => by simp at hx
  | y :: r, h, x, hx => by
    rw [right_cons] at h
    rcases List.mem_cons.1 hx with rfl | hx
    · exact ok_lt h.1
    · obtain ⟨a, b, c⟩ := right_all h.2 x hx
      exact ⟨a, b, lt_trans (ok_lt h.1).2.2 c⟩
theorem right_sorted {q : Bs} : ∀ {r : List Kd}, rightL (some q) r = true → r.Pairwise fun x y => lt x.1 y.1 = true
  | [], _ => .nil
  | y :: r, h => by
    rw [right_cons] at h
    exact .cons (fun x hx => (right_all h.2 x hx).2.2) (right_sorted h.2)
theorem rightK_iff {l : List Kd} : rightK l = true ↔ ∃ x r, l = x :: r ∧ l.length ≤ 1024 ∧ x.1 = [] ∧ pgB x.2 = true ∧ rightL (some []) r = true := by
  unfold rightK
  cases l with
  | nil => simp
  | cons x r =>
    simp only [List.isEmpty_cons, Bool.not_false, Bool.true_and, Bool.and_eq_true, decide_eq_true_eq, rightL, okK]
    constructor
    · rintro ⟨h1, ⟨h2, h3⟩, h4⟩
      have h3 : x.1 = [] := by simpa using h3
      exact ⟨x, r, rfl, h1, h3, h2, by rw [← h3]; exact h4⟩
    · rintro ⟨x', r', e, h1, h2, h3, h4⟩
      cases e
      exact ⟨h1, ⟨h3, by simp [h2]⟩, by rw [h2]; exact h4⟩
theorem key_lt {s : Bs} (h : keyB s = true) : lt [] s = true := by
  cases s with
  | nil => simp [keyB] at h
  | cons x s => rfl

/-! ### one more, one less -/

theorem ins_right {c : Ch} (hk : keyB c.2.1 = true) (hp : pgB c.2.2 = true) : ∀ {r : List Kd} {q : Bs}, rightL (some q) r = true → lt q c.2.1 = true → (∀ x ∈ r, x.1 ≠ c.2.1) → rightL (some q) (ins c r) = true
  | [], q, _, hq, _ => by
    simp only [ins]
    rw [right_cons]
    exact ⟨ok_mk hp hk hq, rfl⟩
  | x :: r, q, h, hq, hn => by
    rw [right_cons] at h
    simp only [ins]
    cases hx : lt x.1 c.2.1 with
    | true =>
      simp only [if_true]
      rw [right_cons]
      exact ⟨h.1, ins_right hk hp h.2 hx fun y hy => hn y (by simp [hy])⟩
    | false =>
      simp only [Bool.false_eq_true, if_false]
      obtain ⟨a, b, c⟩ := ok_lt h.1
      rw [right_cons, right_cons]
      exact ⟨ok_mk hp hk hq, ok_mk a b (lt_tri hx (hn x (by simp))), h.2⟩

theorem cutAt_false (l1 : List Kd) (x : Kd) (l2 : List Kd) : cutAt (l1 ++ x :: l2) l1.length false = l1 ++ l2 := by
  unfold cutAt
  simp only [Bool.false_eq_true, if_false]
  rw [List.take_left, List.drop_append]
  simp
theorem cutAt_true (l1 : List Kd) (x y : Kd) (l2 : List Kd) : cutAt (l1 ++ x :: y :: l2) l1.length true = l1 ++ (x.1, y.2) :: l2 := by
  have e : (l1 ++ x :: y :: l2).take l1.length ++ (l1 ++ x :: y :: l2).drop (l1.length + 1) = l1 ++ y :: l2 := by
    rw [List.take_left, List.drop_append]; simp
  unfold cutAt
  rw [if_pos rfl, e]
  simp [List.getD_eq_getElem?_getD]

theorem split_at {α : Type} {l : List α} {i : Nat} {x : α} (h : l[i]? = some x) : l = l.take i ++ x :: l.drop (i + 1) ∧ (l.take i).length = i := by
  obtain ⟨hi, rfl⟩ := List.getElem?_eq_some_iff.1 h
  refine ⟨?_, by simp; omega⟩
  rw [← List.drop_eq_getElem_cons hi, List.take_append_drop]

theorem rm_right {q : Bs} (l1 : List Kd) (x : Kd) (l2 : List Kd) (h : rightL (some q) (l1 ++ x :: l2) = true) : rightL (some q) (l1 ++ l2) = true :=
  right_sub (List.Sublist.append (List.Sublist.refl _) (List.sublist_cons_self _ _)) h
theorem mv_right {x y : Kd} {l2 : List Kd} : ∀ {l1 : List Kd} {p : Option Bs}, rightL p (l1 ++ x :: y :: l2) = true → rightL p (l1 ++ (x.1, y.2) :: l2) = true
  | [], p, h => by
    simp only [List.nil_append] at h ⊢
    rw [right_cons, right_cons] at h
    rw [right_cons]
    obtain ⟨h1, h2, h3⟩ := h
    obtain ⟨a, b, c⟩ := ok_lt h2
    refine ⟨?_, right_weak h3 c⟩
    simp only [okK, Bool.and_eq_true] at h1 ⊢
    exact ⟨a, h1.2⟩
  | z :: l1, p, h => by
    simp only [List.cons_append] at h ⊢
    rw [right_cons] at h ⊢
    exact ⟨h.1, mv_right h.2⟩

theorem any_false {α : Type} {p : α → Bool} {l : List α} (h : l.any p = false) : ∀ x ∈ l, p x = false := by
  intro x hx
  cases hp : p x with
  | false => rfl
  | true =>
    have : l.any p = true := List.any_eq_true.2 ⟨x, hx, hp⟩
    rw [h] at this; cases this

theorem do_zero {l : List Kd} {c : Ch} (h : (doK l c).2 = 0) : rightK l = true ∧ rightC c = true ∧
    ((c.1 = 1 ∧ l.any (sameB c) = false ∧ l.length < 1024 ∧ doK l c = (ins c l, 0)) ∨
     (c.1 ≠ 1 ∧ ∃ (i : Nat) (x : Kd), l[i]? = some x ∧ x.2 = c.2.2 ∧ (∀ (j : Nat), j < i → ∀ (y : Kd), l[j]? = some y → y.2 ≠ c.2.2) ∧ (i : Int) ≠ edge l c ∧ doK l c = (cutAt l i (c.1 == 3), 0))) := by
  unfold doK at h ⊢
  cases h1 : rightK l with
  | false => simp [h1] at h
  | true =>
    cases h2 : rightC c with
    | false => simp [h1, h2] at h
    | true =>
      refine ⟨rfl, rfl, ?_⟩
      simp only [h1, h2, Bool.not_true, Bool.or_self, Bool.false_eq_true, if_false] at h ⊢
      by_cases h3 : c.1 = 1
      · simp only [h3, if_true] at h ⊢
        left
        unfold addK at h ⊢
        cases h4 : l.any (sameB c) with
        | true => simp [h4] at h
        | false =>
          simp only [h4, Bool.false_eq_true, if_false] at h ⊢
          by_cases h5 : 1024 ≤ l.length
          · simp [h5] at h
          · rw [if_neg h5]
            exact ⟨trivial, trivial, by omega, rfl⟩
      · rw [if_neg h3] at h ⊢
        right
        refine ⟨h3, ?_⟩
        unfold goK' at h ⊢
        by_cases h4 : fi (fun x : Kd => x.2 == c.2.2) l 0 = -1 ∨ fi (fun x : Kd => x.2 == c.2.2) l 0 = edge l c
        · rw [if_pos h4] at h; simp at h
        · rw [if_neg h4]
          obtain ⟨i, hi, hil, ⟨x, hx, hp⟩, hb⟩ := fi_some (fun e => h4 (.inl e))
          rw [Nat.zero_add] at hi
          refine ⟨i, x, hx, by simpa using hp, fun j hj y hy => by simpa using hb j hj y hy, ?_, ?_⟩
          · rw [← hi]; exact fun e => h4 (.inr e)
          · rw [hi, toNat_cast]

theorem do_right {l : List Kd} {c : Ch} (h : (doK l c).2 = 0) : rightK (doK l c).1 = true := by
  obtain ⟨hl, hc, hcase⟩ := do_zero h
  obtain ⟨x0, r, rfl, hlen, hx0, hp0, hr⟩ := rightK_iff.1 hl
  rcases hcase with ⟨h1, hany, hlt, e⟩ | ⟨h1, i, x, hi, hx, _, hedge, e⟩
  · rw [e]
    simp only [rightC, h1, if_true, Bool.and_eq_true] at hc
    obtain ⟨⟨_, hk⟩, hp⟩ := hc
    have hins : ins c (x0 :: r) = x0 :: ins c r := by
      have : lt x0.1 c.2.1 = true := by rw [hx0]; exact key_lt hk
      simp only [ins, this, if_true]
    rw [hins]
    refine rightK_iff.2 ⟨x0, ins c r, rfl, by simp [ins_len] at hlt ⊢; omega, hx0, hp0, ins_right hk hp hr (key_lt hk) fun y hy => ?_⟩
    have := any_false hany y (by simp [hy])
    simp only [sameB, Bool.or_eq_false_iff] at this
    simpa using this.1
  · rw [e]
    obtain ⟨s1, s2⟩ := split_at hi
    generalize hl1 : (x0 :: r).take i = l1 at s1 s2
    generalize hl2 : (x0 :: r).drop (i + 1) = l2 at s1
    by_cases h3 : c.1 = 3
    · have e3 : (c.1 == (3 : Int)) = true := by simp [h3]
      rw [e3, s1]
      have hll := congrArg List.length s1
      simp only [List.length_cons, List.length_append] at hll
      cases l2 with
      | nil =>
        exfalso
        apply hedge
        simp only [edge, h3, if_true, List.length_cons]
        simp at hll
        omega
      | cons y l2 =>
        have hee : cutAt (l1 ++ x :: y :: l2) i true = l1 ++ (x.1, y.2) :: l2 := by rw [← s2]; exact cutAt_true l1 x y l2
        rw [hee]
        have hw : rightL none (l1 ++ x :: y :: l2) = true := by
          rw [← s1, right_cons]
          exact ⟨by simp [okK, hp0, hx0], by rw [hx0]; exact hr⟩
        have hw := mv_right hw
        cases l1 with
        | nil =>
          simp only [List.nil_append] at hw ⊢
          rw [right_cons] at hw
          simp only [okK, Bool.and_eq_true] at hw
          have hz : x.1 = [] := by simpa using hw.1.2
          refine rightK_iff.2 ⟨_, _, rfl, by simp at hll hlen ⊢; omega, hz, hw.1.1, by have := hw.2; rw [show ((x.1, y.2) : Kd).1 = [] from hz] at this; exact this⟩
        | cons z l1 =>
          simp only [List.cons_append] at hw ⊢
          rw [right_cons] at hw
          simp only [okK, Bool.and_eq_true] at hw
          have hz : z.1 = [] := by simpa using hw.1.2
          refine rightK_iff.2 ⟨_, _, rfl, by simp at hll hlen ⊢; omega, hz, hw.1.1, by have := hw.2; rw [hz] at this; exact this⟩
    · have e3 : (c.1 == (3 : Int)) = false := by simp [h3]
      rw [e3, s1]
      have hee : cutAt (l1 ++ x :: l2) i false = l1 ++ l2 := by rw [← s2]; exact cutAt_false l1 x l2
      rw [hee]
      cases l1 with
      | nil =>
        exfalso
        apply hedge
        simp only [edge, h3, if_false]
        simp at s2
        omega
      | cons z l1 =>
        simp only [List.cons_append] at s1 ⊢
        injection s1 with s3 s4
        subst s3
        rw [s4] at hr
        have hll := congrArg List.length s4
        simp only [List.length_append, List.length_cons] at hll
        exact rightK_iff.2 ⟨_, _, rfl, by simp at hlen ⊢; omega, hx0, hp0, rm_right l1 x l2 hr⟩

/-! ### several -/

theorem repL_append : ∀ (c1 : List Ch) (l : List Kd) (c2 : List Ch), repL l (c1 ++ c2) = if (repL l c1).2 = 0 then repL (repL l c1).1 c2 else ([], (repL l c1).2)
  | [], l, c2 => by simp [repL]
  | c :: c1, l, c2 => by
    by_cases h : (doK l c).2 = 0
    · simp only [List.cons_append, repL, h, if_true]
      exact repL_append c1 _ c2
    · simp only [List.cons_append, repL, h, if_false]
theorem repL_err : ∀ (cs : List Ch) (l : List Kd), (repL l cs).2 ≠ 0 → (repL l cs).1 = []
  | [], l, h => (h rfl).elim
  | c :: cs, l, h => by
    simp only [repL] at h ⊢
    by_cases h0 : (doK l c).2 = 0
    · rw [if_pos h0] at h ⊢; exact repL_err cs _ h
    · rw [if_neg h0]
theorem repL_right : ∀ (cs : List Ch) (l : List Kd), rightK l = true → (repL l cs).2 = 0 → rightK (repL l cs).1 = true
  | [], l, h, _ => h
  | c :: cs, l, h, h2 => by
    simp only [repL] at h2 ⊢
    by_cases h0 : (doK l c).2 = 0
    · rw [if_pos h0] at h2 ⊢; exact repL_right cs _ (do_right h0) h2
    · rw [if_neg h0] at h2; exact (h0 h2).elim
theorem repK_err {l : List Kd} {cs : List Ch} (h : (repK l cs).2 ≠ 0) : (repK l cs).1 = [] := by
  unfold repK at h ⊢
  split
  · rename_i hr; rw [if_pos hr] at h; exact repL_err cs l h
  · rfl
theorem repK_right {l : List Kd} {cs : List Ch} (h : (repK l cs).2 = 0) : rightK (repK l cs).1 = true := by
  unfold repK at h ⊢
  cases hr : rightK l with
  | true => rw [hr] at h; exact repL_right cs l hr h
  | false => rw [hr] at h; simp at h
theorem repK_parts (l : List Kd) (c1 c2 : List Ch) : repK l (c1 ++ c2) = if (repK l c1).2 = 0 then repK (repK l c1).1 c2 else ([], (repK l c1).2) := by
  by_cases h0 : (repK l c1).2 = 0
  · rw [if_pos h0]
    have hr := repK_right h0
    unfold repK at h0 hr ⊢
    cases hl : rightK l with
    | false => rw [hl] at h0; simp at h0
    | true =>
      simp only [hl, if_true] at h0 hr ⊢
      rw [if_pos hr, repL_append, if_pos h0]
  · rw [if_neg h0]
    unfold repK at h0 ⊢
    cases hl : rightK l with
    | false => simp [hl]
    | true =>
      simp only [hl, if_true] at h0 ⊢
      rw [repL_append, if_neg h0]
theorem repL_len : ∀ (cs : List Ch) (l : List Kd), (repL l cs).1.length ≤ l.length + cs.length
  | [], l => by simp [repL]
  | c :: cs, l => by
    simp only [repL, List.length_cons]
    have := do_len l c
    split
    · have := repL_len cs (doK l c).1
      omega
    · simp
theorem repK_len (cs : List Ch) (l : List Kd) : (repK l cs).1.length ≤ l.length + cs.length := by
  unfold repK
  split
  · exact repL_len cs l
  · simp

end Go.Proofs.Ytgpgjojejdaibaa
