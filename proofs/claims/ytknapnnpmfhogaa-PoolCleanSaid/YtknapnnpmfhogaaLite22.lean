/-
  From one loop's head to the next one: the graph of a body is its run.
-/
import Derived.Test.YtknapnnpmfhogaaLite21
namespace Go.Lite
open Go
def ResW (cfg : Cfg) (n0 : Nat) : C → Nat → Nat → S → Ex × S → Prop
  | .seq a b, i, j, s, r => if j < i + nl a then ∃ q, ResW cfg n0 a i j s q ∧ (match q with
      | (.norm, s') => execW cfg n0 b s' = some r
      | q => r = q)
    else ResW cfg n0 b (i + nl a) j s r
  | .cseq f a b, i, j, s, r => if j < i + nl a then ∃ q, ResW cfg n0 a i j s q ∧ (match q with
      | (.norm, s') => execW cfg n0 b (clean n0 f s') = some r
      | q => r = q)
    else if j = i + nl a then execW cfg n0 b s = some r else ResW cfg n0 b (i + nl a + 1) j s r
  | .cond _ a b, i, j, s, r => if j < i + nl a then ResW cfg n0 a i j s r else ResW cfg n0 b (i + nl a) j s r
  | .block id c, i, j, s, r => ∃ q, ResW cfg n0 c i j s q ∧ r = (match q with
      | (.norm, s') => (.norm, s')
      | (.exit e, s') => if e = id then (.norm, s') else (.exit e, s')
      | (.ret, s') => (.ret, s'))
  | .loop f c, i, j, s, r => if j = i then LpC cfg n0 f c s r.1 r.2 else ∃ q, ResW cfg n0 c (i + 1) j s q ∧ (match q with
      | (.norm, s') => LpC cfg n0 f c (clean n0 f s') r.1 r.2
      | (x, s') => r = (x, clean n0 f s'))
  | _, _, _, _, _ => False
section
variable {kc : KC} {n0 : Nat}
def Ans3 (o : Out) (W : Ex × S → Prop) (kn : S → R) (ke : Nat → S → R) (kr : S → R) (H : Nat → S → Prop) : Prop :=
  (∃ s, W (.norm, s) ∧ kn s = some o) ∨ (∃ e s, W (.exit e, s) ∧ ke e s = some o) ∨ (∃ s, W (.ret, s) ∧ kr s = some o) ∨ ∃ j s, o = .head j s ∧ H j s
theorem clean_norm {c : C} {t s1 : S} (h : execW kc.cfg n0 c t = some (.norm, s1)) {f : List Nat} {x : Ex} {s : S} (hr : LpC kc.cfg n0 f c (clean n0 f s1) x s) : LpC kc.cfg n0 f c t x s := by
  intro s0 h0
  have := hr s1 rfl
  simp only [execW, Option.map_eq_some_iff] at this ⊢
  obtain ⟨r, q1, q2⟩ := this
  exact ⟨r, iterW_norm (by simp only [h0, h]) q1, q2⟩
theorem clean_exit {c : C} {t s1 : S} {i : Nat} (h : execW kc.cfg n0 c t = some (.exit i, s1)) {f : List Nat} : LpC kc.cfg n0 f c t (.exit i) (clean n0 f s1) := by
  intro s0 h0
  simp only [execW, Option.map_eq_some_iff]
  exact ⟨(.exit i, s1), iterW_exit (by simp only [h0, h]), rfl⟩
theorem clean_ret {c : C} {t s1 : S} (h : execW kc.cfg n0 c t = some (.ret, s1)) {f : List Nat} : LpC kc.cfg n0 f c t .ret (clean n0 f s1) := by
  intro s0 h0
  simp only [execW, Option.map_eq_some_iff]
  exact ⟨(.ret, s1), iterW_ret (by simp only [h0, h]), rfl⟩
theorem setB_eq {env : List V} {c : Operand} {b : Bool} (h : evalO env c = some (.bool b)) : setB env c b = env := by
  cases c <;> first | rfl | exact set_self' h
theorem segK_some (hik : IKOK kc) : ∀ (c : C) (i : Nat) (s : S) (kn : S → R) (ke : Nat → S → R) (kr : S → R) (o : Out), segK kc n0 c i s kn ke kr = some o →
    Ans3 o (fun r => execW kc.cfg n0 c s = some r) kn ke kr (fun j s' => i ≤ j ∧ j < i + nl c ∧ ∀ r, ResW kc.cfg n0 c i j s' r → execW kc.cfg n0 c s = some r) := by
  intro c
  induction c with
  | skip => intro i s kn ke kr o h; exact .inl ⟨s, rfl, h⟩
  | ops dr l =>
    intro i s kn ke kr o h
    obtain ⟨s', h1, h2⟩ := opsK_some hik _ _ _ _ h
    rcases cond_some h2 with ⟨hc, h2⟩ | ⟨_, h2⟩
    · exact .inl ⟨s', by simp only [execW]; rw [show (⟨s.env, s.mem⟩ : S) = s from rfl] at h1; rw [h1, Option.bind_some, if_pos hc], h2⟩
    · cases h2
  | seq a b iha ihb =>
    intro i s kn ke kr o h
    simp only [segK] at h
    rcases iha _ _ _ _ _ _ h with ⟨s1, h1, h2⟩ | ⟨e, s1, h1, h2⟩ | ⟨s1, h1, h2⟩ | ⟨j, s1, rfl, h1, h2, h3⟩
    · have e1 : execW kc.cfg n0 (.seq a b) s = execW kc.cfg n0 b s1 := by simp only [execW, h1, Option.bind_some]
      rcases ihb _ _ _ _ _ _ h2 with ⟨s2, g1, g2⟩ | ⟨e, s2, g1, g2⟩ | ⟨s2, g1, g2⟩ | ⟨j, s2, rfl, g1, g2, g3⟩
      · exact .inl ⟨s2, e1.trans g1, g2⟩
      · exact .inr (.inl ⟨e, s2, e1.trans g1, g2⟩)
      · exact .inr (.inr (.inl ⟨s2, e1.trans g1, g2⟩))
      · refine .inr (.inr (.inr ⟨j, s2, rfl, by omega, by simp only [nl]; omega, fun r hr => ?_⟩))
        simp only [ResW] at hr
        rw [if_neg (by omega)] at hr
        exact e1.trans (g3 r hr)
    · exact .inr (.inl ⟨e, s1, by simp only [execW, h1, Option.bind_some], h2⟩)
    · exact .inr (.inr (.inl ⟨s1, by simp only [execW, h1, Option.bind_some], h2⟩))
    · refine .inr (.inr (.inr ⟨j, s1, rfl, h1, by simp only [nl]; omega, fun r hr => ?_⟩))
      simp only [ResW] at hr
      rw [if_pos h2] at hr
      obtain ⟨⟨x, s'⟩, q1, q2⟩ := hr
      have q1 := h3 _ q1
      simp only [execW, q1, Option.bind_some]
      cases x
      · exact q2
      · simp only at q2; rw [q2]
      · simp only at q2; rw [q2]
  | cseq f a b iha ihb =>
    intro i s kn ke kr o h
    simp only [segK] at h
    rcases iha _ _ _ _ _ _ h with ⟨s1, h1, h2⟩ | ⟨e, s1, h1, h2⟩ | ⟨s1, h1, h2⟩ | ⟨j, s1, rfl, h1, h2, h3⟩
    · cases h2
      refine .inr (.inr (.inr ⟨i + nl a, _, rfl, by omega, by simp only [nl]; omega, fun r hr => ?_⟩))
      simp only [ResW] at hr
      rw [if_neg (by omega), if_pos (by trivial)] at hr
      simp only [execW, h1, Option.bind_some]
      exact hr
    · exact .inr (.inl ⟨e, s1, by simp only [execW, h1, Option.bind_some], h2⟩)
    · exact .inr (.inr (.inl ⟨s1, by simp only [execW, h1, Option.bind_some], h2⟩))
    · refine .inr (.inr (.inr ⟨j, s1, rfl, h1, by simp only [nl]; omega, fun r hr => ?_⟩))
      simp only [ResW] at hr
      rw [if_pos h2] at hr
      obtain ⟨⟨x, s'⟩, q1, q2⟩ := hr
      have q1 := h3 _ q1
      simp only [execW, q1, Option.bind_some]
      cases x
      · exact q2
      · simp only at q2; rw [q2]
      · simp only at q2; rw [q2]
  | cond c a b iha ihb =>
    intro i s kn ke kr o h
    simp only [segK] at h
    obtain ⟨v, hv, h⟩ := opt_some h
    obtain ⟨t, rfl, h'⟩ := kB_some h
    rcases cond_some h' with ⟨rfl, h⟩ | ⟨rfl, h⟩
    · rw [setB_eq hv] at h
      have e1 : execW kc.cfg n0 (.cond c a b) s = execW kc.cfg n0 a s := by simp only [execW, hv, Option.bind_some, if_true]
      rcases iha _ _ _ _ _ _ h with ⟨s2, g1, g2⟩ | ⟨e, s2, g1, g2⟩ | ⟨s2, g1, g2⟩ | ⟨j, s2, rfl, g1, g2, g3⟩
      · exact .inl ⟨s2, e1.trans g1, g2⟩
      · exact .inr (.inl ⟨e, s2, e1.trans g1, g2⟩)
      · exact .inr (.inr (.inl ⟨s2, e1.trans g1, g2⟩))
      · refine .inr (.inr (.inr ⟨j, s2, rfl, g1, by simp only [nl]; omega, fun r hr => ?_⟩))
        simp only [ResW] at hr
        rw [if_pos g2] at hr
        exact e1.trans (g3 r hr)
    · rw [setB_eq hv] at h
      have e1 : execW kc.cfg n0 (.cond c a b) s = execW kc.cfg n0 b s := by simp only [execW, hv, Option.bind_some, Bool.false_eq_true, if_false]
      rcases ihb _ _ _ _ _ _ h with ⟨s2, g1, g2⟩ | ⟨e, s2, g1, g2⟩ | ⟨s2, g1, g2⟩ | ⟨j, s2, rfl, g1, g2, g3⟩
      · exact .inl ⟨s2, e1.trans g1, g2⟩
      · exact .inr (.inl ⟨e, s2, e1.trans g1, g2⟩)
      · exact .inr (.inr (.inl ⟨s2, e1.trans g1, g2⟩))
      · refine .inr (.inr (.inr ⟨j, s2, rfl, by omega, by simp only [nl]; omega, fun r hr => ?_⟩))
        simp only [ResW] at hr
        rw [if_neg (by omega)] at hr
        exact e1.trans (g3 r hr)
  | block id c ih =>
    intro i s kn ke kr o h
    simp only [segK] at h
    rcases ih _ _ _ _ _ _ h with ⟨s2, g1, g2⟩ | ⟨e, s2, g1, g2⟩ | ⟨s2, g1, g2⟩ | ⟨j, s2, rfl, g1, g2, g3⟩
    · exact .inl ⟨s2, by simp only [execW, g1, Option.map_some], g2⟩
    · rcases cond_some g2 with ⟨he, g2⟩ | ⟨he, g2⟩
      · have he : e = id := by simpa using he
        exact .inl ⟨s2, by simp only [execW, g1, Option.map_some, if_pos he], g2⟩
      · have he : ¬ e = id := by simpa using he
        exact .inr (.inl ⟨e, s2, by simp only [execW, g1, Option.map_some, if_neg he], g2⟩)
    · exact .inr (.inr (.inl ⟨s2, by simp only [execW, g1, Option.map_some], g2⟩))
    · refine .inr (.inr (.inr ⟨j, s2, rfl, g1, by simp only [nl]; omega, fun r hr => ?_⟩))
      simp only [ResW] at hr
      obtain ⟨q, q1, rfl⟩ := hr
      simp only [execW, g3 _ q1, Option.map_some]
      rcases q with ⟨x, s'⟩
      cases x <;> rfl
  | loop f c ih =>
    intro i s kn ke kr o h
    simp only [segK] at h
    cases h
    refine .inr (.inr (.inr ⟨i, _, rfl, Nat.le_refl _, by simp only [nl]; omega, fun r hr => ?_⟩))
    simp only [ResW, if_true] at hr
    exact hr s rfl
  | exit j => intro i s kn ke kr o h; exact .inr (.inl ⟨j, s, rfl, h⟩)
  | ret => intro i s kn ke kr o h; exact .inr (.inr (.inl ⟨s, rfl, h⟩))
  | start g =>
    intro i s kn ke kr o h
    simp only [segK] at h
    split at h
    rotate_left
    · cases h
    rename_i f caps he
    obtain ⟨th, h1, h⟩ := opt_some h
    obtain ⟨as, h2, h⟩ := mapK_some (fun x k h => snap2K_some h) h
    obtain ⟨l, h3, h⟩ := opt_some h
    exact .inl ⟨_, by simp only [execW, startA, he, h1, Option.bind_some, h2, h3, Option.map_some], h⟩
  | uncons g ps ws a b iha ihb =>
    intro i s kn ke kr o h
    simp only [segK] at h
    obtain ⟨hn, h⟩ := gd_some h
    simp only [Bool.and_eq_true, Nat.beq_eq] at hn
    split at h
    rotate_left
    · cases h
    rename_i ts l he
    cases l with
    | nil =>
      simp only [restK] at h
      have e1 : execW kc.cfg n0 (.uncons g ps ws a b) s = execW kc.cfg n0 b s := by simp only [execW, he]
      rcases ihb _ _ _ _ _ _ h with ⟨s2, g1, g2⟩ | ⟨e, s2, g1, g2⟩ | ⟨s2, g1, g2⟩ | ⟨j, s2, rfl, g1, g2, g3⟩
      · exact .inl ⟨s2, e1.trans g1, g2⟩
      · exact .inr (.inl ⟨e, s2, e1.trans g1, g2⟩)
      · exact .inr (.inr (.inl ⟨s2, e1.trans g1, g2⟩))
      · omega
    | cons x l =>
      simp only [restK] at h
      obtain ⟨vs, rfl, h⟩ := kT_some h
      have h := tupK_some h
      obtain ⟨hl, h⟩ := gd_some h
      have hl : vs.length = ps.length := by simpa using hl
      have e1 : ∀ x s2, execW kc.cfg n0 a ⟨setPs (s.env.set g .junk) ps vs, s.mem⟩ = some (x, s2) → execW kc.cfg n0 (.uncons g ps ws a b) s = some (x, ⟨(forget s2.env ws).set g (.rest ts l), s2.mem⟩) := by
        intro x s2 q
        simp only [execW, he, if_pos hl, q, Option.map_some]
      rcases iha _ _ _ _ _ _ h with ⟨s2, g1, g2⟩ | ⟨e, s2, g1, g2⟩ | ⟨s2, g1, g2⟩ | ⟨j, s2, rfl, g1, g2, g3⟩
      · exact .inl ⟨_, e1 _ _ g1, g2⟩
      · exact .inr (.inl ⟨e, _, e1 _ _ g1, g2⟩)
      · exact .inr (.inr (.inl ⟨_, e1 _ _ g1, g2⟩))
      · omega
theorem conK_some (hik : IKOK kc) : ∀ (c : C) (i j : Nat) (s : S) (kn : S → R) (ke : Nat → S → R) (kr : S → R) (o : Out), conK kc n0 c i j s kn ke kr = some o →
    Ans3 o (fun r => ResW kc.cfg n0 c i j s r) kn ke kr (fun j' s' => i ≤ j' ∧ j' < i + nl c ∧ ∀ r, ResW kc.cfg n0 c i j' s' r → ResW kc.cfg n0 c i j s r) := by
  intro c
  induction c with
  | seq a b iha ihb =>
    intro i j s kn ke kr o h
    simp only [conK] at h
    rcases cond_some h with ⟨hj, h⟩ | ⟨hj, h⟩
    · have hj : j < i + nl a := by simpa [Nat.blt_eq] using hj
      rcases iha _ _ _ _ _ _ _ h with ⟨s1, h1, h2⟩ | ⟨e, s1, h1, h2⟩ | ⟨s1, h1, h2⟩ | ⟨j', s1, rfl, h1, h2, h3⟩
      · rcases segK_some hik b _ _ _ _ _ _ h2 with ⟨s2, g1, g2⟩ | ⟨e, s2, g1, g2⟩ | ⟨s2, g1, g2⟩ | ⟨j', s2, rfl, g1, g2, g3⟩
        · exact .inl ⟨s2, by simp only [ResW]; rw [if_pos hj]; exact ⟨_, h1, g1⟩, g2⟩
        · exact .inr (.inl ⟨e, s2, by simp only [ResW]; rw [if_pos hj]; exact ⟨_, h1, g1⟩, g2⟩)
        · exact .inr (.inr (.inl ⟨s2, by simp only [ResW]; rw [if_pos hj]; exact ⟨_, h1, g1⟩, g2⟩))
        · refine .inr (.inr (.inr ⟨j', s2, rfl, by omega, by simp only [nl]; omega, fun r hr => ?_⟩))
          simp only [ResW] at hr ⊢
          rw [if_neg (by omega)] at hr
          rw [if_pos hj]
          exact ⟨_, h1, g3 r hr⟩
      · exact .inr (.inl ⟨e, s1, by simp only [ResW]; rw [if_pos hj]; exact ⟨_, h1, rfl⟩, h2⟩)
      · exact .inr (.inr (.inl ⟨s1, by simp only [ResW]; rw [if_pos hj]; exact ⟨_, h1, rfl⟩, h2⟩))
      · refine .inr (.inr (.inr ⟨j', s1, rfl, h1, by simp only [nl]; omega, fun r hr => ?_⟩))
        simp only [ResW] at hr ⊢
        rw [if_pos h2] at hr
        rw [if_pos hj]
        obtain ⟨q, q1, q2⟩ := hr
        exact ⟨q, h3 _ q1, q2⟩
    · have hj : ¬ j < i + nl a := by
        intro hh
        have : Nat.blt j (i + nl a) = true := by simpa [Nat.blt_eq] using hh
        rw [this] at hj; cases hj
      rcases ihb _ _ _ _ _ _ _ h with ⟨s1, h1, h2⟩ | ⟨e, s1, h1, h2⟩ | ⟨s1, h1, h2⟩ | ⟨j', s1, rfl, h1, h2, h3⟩
      · exact .inl ⟨s1, by simp only [ResW]; rw [if_neg hj]; exact h1, h2⟩
      · exact .inr (.inl ⟨e, s1, by simp only [ResW]; rw [if_neg hj]; exact h1, h2⟩)
      · exact .inr (.inr (.inl ⟨s1, by simp only [ResW]; rw [if_neg hj]; exact h1, h2⟩))
      · refine .inr (.inr (.inr ⟨j', s1, rfl, by omega, by simp only [nl]; omega, fun r hr => ?_⟩))
        simp only [ResW] at hr ⊢
        rw [if_neg (by omega)] at hr
        rw [if_neg hj]
        exact h3 r hr
  | cseq f a b iha ihb =>
    intro i j s kn ke kr o h
    simp only [conK] at h
    rcases cond_some h with ⟨hj, h⟩ | ⟨hj, h⟩
    · have hj : j < i + nl a := by simpa [Nat.blt_eq] using hj
      rcases iha _ _ _ _ _ _ _ h with ⟨s1, h1, h2⟩ | ⟨e, s1, h1, h2⟩ | ⟨s1, h1, h2⟩ | ⟨j', s1, rfl, h1, h2, h3⟩
      · cases h2
        refine .inr (.inr (.inr ⟨i + nl a, _, rfl, by omega, by simp only [nl]; omega, fun r hr => ?_⟩))
        simp only [ResW] at hr ⊢
        rw [if_neg (by omega), if_pos (by trivial)] at hr
        rw [if_pos hj]
        exact ⟨_, h1, hr⟩
      · exact .inr (.inl ⟨e, s1, by simp only [ResW]; rw [if_pos hj]; exact ⟨_, h1, rfl⟩, h2⟩)
      · exact .inr (.inr (.inl ⟨s1, by simp only [ResW]; rw [if_pos hj]; exact ⟨_, h1, rfl⟩, h2⟩))
      · refine .inr (.inr (.inr ⟨j', s1, rfl, h1, by simp only [nl]; omega, fun r hr => ?_⟩))
        simp only [ResW] at hr ⊢
        rw [if_pos h2] at hr
        rw [if_pos hj]
        obtain ⟨q, q1, q2⟩ := hr
        exact ⟨q, h3 _ q1, q2⟩
    · have hj : ¬ j < i + nl a := by
        intro hh
        have : Nat.blt j (i + nl a) = true := by simpa [Nat.blt_eq] using hh
        rw [this] at hj; cases hj
      rcases cond_some h with ⟨hk, h⟩ | ⟨hk, h⟩
      · have hk : j = i + nl a := by simpa using hk
        rcases segK_some hik b _ _ _ _ _ _ h with ⟨s2, g1, g2⟩ | ⟨e, s2, g1, g2⟩ | ⟨s2, g1, g2⟩ | ⟨j', s2, rfl, g1, g2, g3⟩
        · exact .inl ⟨s2, by simp only [ResW]; rw [if_neg hj, if_pos hk]; exact g1, g2⟩
        · exact .inr (.inl ⟨e, s2, by simp only [ResW]; rw [if_neg hj, if_pos hk]; exact g1, g2⟩)
        · exact .inr (.inr (.inl ⟨s2, by simp only [ResW]; rw [if_neg hj, if_pos hk]; exact g1, g2⟩))
        · refine .inr (.inr (.inr ⟨j', s2, rfl, by omega, by simp only [nl]; omega, fun r hr => ?_⟩))
          simp only [ResW] at hr ⊢
          rw [if_neg (by omega), if_neg (by omega)] at hr
          rw [if_neg hj, if_pos hk]
          exact g3 r hr
      · have hk : ¬ j = i + nl a := by simpa using hk
        rcases ihb _ _ _ _ _ _ _ h with ⟨s1, h1, h2⟩ | ⟨e, s1, h1, h2⟩ | ⟨s1, h1, h2⟩ | ⟨j', s1, rfl, h1, h2, h3⟩
        · exact .inl ⟨s1, by simp only [ResW]; rw [if_neg hj, if_neg hk]; exact h1, h2⟩
        · exact .inr (.inl ⟨e, s1, by simp only [ResW]; rw [if_neg hj, if_neg hk]; exact h1, h2⟩)
        · exact .inr (.inr (.inl ⟨s1, by simp only [ResW]; rw [if_neg hj, if_neg hk]; exact h1, h2⟩))
        · refine .inr (.inr (.inr ⟨j', s1, rfl, by omega, by simp only [nl]; omega, fun r hr => ?_⟩))
          simp only [ResW] at hr ⊢
          rw [if_neg (by omega), if_neg (by omega)] at hr
          rw [if_neg hj, if_neg hk]
          exact h3 r hr
  | cond c a b iha ihb =>
    intro i j s kn ke kr o h
    simp only [conK] at h
    rcases cond_some h with ⟨hj, h⟩ | ⟨hj, h⟩
    · have hj : j < i + nl a := by simpa [Nat.blt_eq] using hj
      rcases iha _ _ _ _ _ _ _ h with ⟨s1, h1, h2⟩ | ⟨e, s1, h1, h2⟩ | ⟨s1, h1, h2⟩ | ⟨j', s1, rfl, h1, h2, h3⟩
      · exact .inl ⟨s1, by simp only [ResW]; rw [if_pos hj]; exact h1, h2⟩
      · exact .inr (.inl ⟨e, s1, by simp only [ResW]; rw [if_pos hj]; exact h1, h2⟩)
      · exact .inr (.inr (.inl ⟨s1, by simp only [ResW]; rw [if_pos hj]; exact h1, h2⟩))
      · refine .inr (.inr (.inr ⟨j', s1, rfl, by omega, by simp only [nl]; omega, fun r hr => ?_⟩))
        simp only [ResW] at hr ⊢
        rw [if_pos (by omega)] at hr
        rw [if_pos hj]
        exact h3 r hr
    · have hj : ¬ j < i + nl a := by
        intro hh
        have : Nat.blt j (i + nl a) = true := by simpa [Nat.blt_eq] using hh
        rw [this] at hj; cases hj
      rcases ihb _ _ _ _ _ _ _ h with ⟨s1, h1, h2⟩ | ⟨e, s1, h1, h2⟩ | ⟨s1, h1, h2⟩ | ⟨j', s1, rfl, h1, h2, h3⟩
      · exact .inl ⟨s1, by simp only [ResW]; rw [if_neg hj]; exact h1, h2⟩
      · exact .inr (.inl ⟨e, s1, by simp only [ResW]; rw [if_neg hj]; exact h1, h2⟩)
      · exact .inr (.inr (.inl ⟨s1, by simp only [ResW]; rw [if_neg hj]; exact h1, h2⟩))
      · refine .inr (.inr (.inr ⟨j', s1, rfl, by omega, by simp only [nl]; omega, fun r hr => ?_⟩))
        simp only [ResW] at hr ⊢
        rw [if_neg (by omega)] at hr
        rw [if_neg hj]
        exact h3 r hr
  | block id c ih =>
    intro i j s kn ke kr o h
    simp only [conK] at h
    rcases ih _ _ _ _ _ _ _ h with ⟨s2, g1, g2⟩ | ⟨e, s2, g1, g2⟩ | ⟨s2, g1, g2⟩ | ⟨j', s2, rfl, g1, g2, g3⟩
    · exact .inl ⟨s2, by simp only [ResW]; exact ⟨_, g1, rfl⟩, g2⟩
    · rcases cond_some g2 with ⟨he, g2⟩ | ⟨he, g2⟩
      · have he : e = id := by simpa using he
        exact .inl ⟨s2, by simp only [ResW]; exact ⟨_, g1, by simp only [if_pos he]⟩, g2⟩
      · have he : ¬ e = id := by simpa using he
        exact .inr (.inl ⟨e, s2, by simp only [ResW]; exact ⟨_, g1, by simp only [if_neg he]⟩, g2⟩)
    · exact .inr (.inr (.inl ⟨s2, by simp only [ResW]; exact ⟨_, g1, rfl⟩, g2⟩))
    · refine .inr (.inr (.inr ⟨j', s2, rfl, g1, by simp only [nl]; omega, fun r hr => ?_⟩))
      simp only [ResW] at hr ⊢
      obtain ⟨q, q1, q2⟩ := hr
      exact ⟨q, g3 _ q1, q2⟩
  | loop f c ih =>
    intro i j s kn ke kr o h
    simp only [conK] at h
    rcases cond_some h with ⟨hj, h⟩ | ⟨hj, h⟩
    · have hj : j = i := by simpa using hj
      subst hj
      rcases segK_some hik c _ _ _ _ _ _ h with ⟨s2, g1, g2⟩ | ⟨e, s2, g1, g2⟩ | ⟨s2, g1, g2⟩ | ⟨j', s2, rfl, g1, g2, g3⟩
      · cases g2
        refine .inr (.inr (.inr ⟨j, _, rfl, Nat.le_refl _, by simp only [nl]; omega, fun r hr => ?_⟩))
        simp only [ResW, if_true] at hr ⊢
        exact clean_norm g1 hr
      · exact .inr (.inl ⟨e, _, by simp only [ResW, if_true]; exact clean_exit g1, g2⟩)
      · exact .inr (.inr (.inl ⟨_, by simp only [ResW, if_true]; exact clean_ret g1, g2⟩))
      · refine .inr (.inr (.inr ⟨j', s2, rfl, by omega, by simp only [nl]; omega, fun r hr => ?_⟩))
        simp only [ResW, if_true] at hr ⊢
        rw [if_neg (by omega)] at hr
        obtain ⟨⟨x, s'⟩, q1, q2⟩ := hr
        have q1 := g3 _ q1
        cases x with
        | norm => exact clean_norm q1 q2
        | exit e => simp only at q2; rw [q2]; exact clean_exit q1
        | ret => simp only at q2; rw [q2]; exact clean_ret q1
    · have hj : ¬ j = i := by simpa using hj
      rcases ih _ _ _ _ _ _ _ h with ⟨s2, g1, g2⟩ | ⟨e, s2, g1, g2⟩ | ⟨s2, g1, g2⟩ | ⟨j', s2, rfl, g1, g2, g3⟩
      · cases g2
        refine .inr (.inr (.inr ⟨i, _, rfl, Nat.le_refl _, by simp only [nl]; omega, fun r hr => ?_⟩))
        simp only [ResW, if_true] at hr ⊢
        rw [if_neg hj]
        exact ⟨_, g1, hr⟩
      · exact .inr (.inl ⟨e, _, by simp only [ResW]; rw [if_neg hj]; exact ⟨_, g1, rfl⟩, g2⟩)
      · exact .inr (.inr (.inl ⟨_, by simp only [ResW]; rw [if_neg hj]; exact ⟨_, g1, rfl⟩, g2⟩))
      · refine .inr (.inr (.inr ⟨j', s2, rfl, by omega, by simp only [nl]; omega, fun r hr => ?_⟩))
        simp only [ResW] at hr ⊢
        rw [if_neg (by omega)] at hr
        rw [if_neg hj]
        obtain ⟨q, q1, q2⟩ := hr
        exact ⟨q, g3 _ q1, q2⟩
  | _ => intro i j s kn ke kr o h; simp only [conK] at h; cases h
inductive Go (kc : KC) (imp : Bool) (n0 : Nat) (fa : FA) : Out → Out → Prop
  | refl (o : Out) : Go kc imp n0 fa o o
  | step {j : Nat} {s : S} {o o' : Out} (h : goK kc imp n0 fa j s = some o) (hr : Go kc imp n0 fa o o') : Go kc imp n0 fa (.head j s) o'
theorem Go.trans {imp : Bool} {fa : FA} {a b c : Out} (h : Go kc imp n0 fa a b) (h' : Go kc imp n0 fa b c) : Go kc imp n0 fa a c := by
  induction h with
  | refl _ => exact h'
  | step q _ ih => exact .step q (ih h')
theorem give1K_some {P : Program} {mem : List O} {t : TypeId} {v : V} {k : V → R} {r : Out} (h : give1K P mem t v k = some r) : ∃ x, give1 P mem t v = some x ∧ k x = some r := by
  unfold give1K at h
  split at h
  · split at h
    · rename_i hm
      rcases cond_some h with ⟨c1, h⟩ | ⟨c1, h⟩
      · rcases cond_some h with ⟨c2, h⟩ | ⟨c2, h⟩
        · obtain ⟨c3, h⟩ := gd_some h
          exact ⟨_, by simp only [give1, hm, c1, if_true, if_pos (show _ = 0 by simpa using c2), c3], h⟩
        · exact ⟨_, by simp only [give1, hm, c1, if_true, if_neg (show ¬ _ = 0 by simpa using c2)], h⟩
      · exact ⟨_, by simp only [give1, hm, c1, Bool.false_eq_true, if_false], h⟩
    · cases h
  · exact opt_some h
theorem giveK_some {P : Program} {mem : List O} {ts : List TypeId} {vs : List V} {k : V → R} {r : Out} (h : giveK P mem ts vs k = some r) : ∃ x, give P mem ts vs = some x ∧ k x = some r := by
  unfold giveK at h
  split at h
  · exact give1K_some h
  · exact opt_some h
def FinW (kc : KC) (imp : Bool) (fa : FA) (s : S) (o : Out) : Prop :=
  ∃ vs, mapO (resV kc.cfg.P s) fa.results = some vs ∧ ((imp = true ∧ o = .doneM (tupV vs) s.mem) ∨ (imp = false ∧ ∃ v, give kc.cfg.P s.mem fa.rtypes vs = some v ∧ o = .done v))
theorem finK_some {imp : Bool} {fa : FA} {s : S} {o : Out} (h : finK kc imp fa s = some o) : FinW kc imp fa s o := by
  obtain ⟨vs, h1, h⟩ := opt_some h
  refine ⟨vs, h1, ?_⟩
  rcases cond_some h with ⟨rfl, h⟩ | ⟨rfl, h⟩
  · cases h; exact .inl ⟨rfl, rfl⟩
  · obtain ⟨v, h2, h⟩ := giveK_some h
    cases h
    exact .inr ⟨rfl, v, h2, rfl⟩
def endW : Ex → Bool
  | .exit _ => false
  | _ => true
theorem FinW.stay {imp : Bool} {fa : FA} {s : S} {o o' : Out} (hf : FinW kc imp fa s o) (hg : Go kc imp n0 fa o o') : o = o' := by
  cases hg with
  | refl => rfl
  | step q _ =>
    obtain ⟨vs, _, ⟨_, q⟩ | ⟨_, v, _, q⟩⟩ := hf
    · cases q
    · cases q
theorem Go.sound (hik : IKOK kc) {imp : Bool} {fa : FA} {o o' : Out} (h : Go kc imp n0 fa o o') : ∀ j s, o = .head j s → (∀ j s, o' ≠ .head j s) → ∃ x s', ResW kc.cfg n0 fa.body 0 j s (x, s') ∧ endW x = true ∧ FinW kc imp fa s' o' := by
  induction h with
  | refl o => intro j s e h; exact (h j s e).elim
  | step h1 hr ih =>
    intro j s e hn
    cases e
    rcases conK_some hik _ _ _ _ _ _ _ _ h1 with ⟨s2, g1, g2⟩ | ⟨e, s2, g1, g2⟩ | ⟨s2, g1, g2⟩ | ⟨j', s2, rfl, g1, g2, g3⟩
    · have hf := finK_some g2
      have := FinW.stay hf hr
      subst this
      exact ⟨_, _, g1, rfl, hf⟩
    · cases g2
    · have hf := finK_some g2
      have := FinW.stay hf hr
      subst this
      exact ⟨_, _, g1, rfl, hf⟩
    · obtain ⟨x, s', q1, q2, q3⟩ := ih _ _ rfl hn
      exact ⟨x, s', g3 _ q1, q2, q3⟩
theorem run_of (hik : IKOK kc) {imp : Bool} {fa : FA} {args : List V} {mem : List O} {o o' : Out} (h : enterK kc imp fa args mem = some o) (hg : Go kc imp mem.length fa o o') (hn : ∀ j s, o' ≠ .head j s) :
    ∃ vs s, runW kc.cfg fa args mem = some (vs, s) ∧ ((imp = true ∧ o' = .doneM (tupV vs) s) ∨ (imp = false ∧ ∃ v, give kc.cfg.P s fa.rtypes vs = some v ∧ o' = .done v)) := by
  obtain ⟨ha, h⟩ := gd_some h
  simp only [Bool.and_eq_true, beq_iff_eq, Nat.ble_eq] at ha
  have key : ∀ (x : Ex) (s' : S), execW kc.cfg mem.length fa.body ⟨args ++ List.replicate (fa.nt - fa.np) (.tup []), mem⟩ = some (x, s') → endW x = true → FinW kc imp fa s' o' →
      ∃ vs s, runW kc.cfg fa args mem = some (vs, s) ∧ ((imp = true ∧ o' = .doneM (tupV vs) s) ∨ (imp = false ∧ ∃ v, give kc.cfg.P s fa.rtypes vs = some v ∧ o' = .done v)) := by
    intro x s' hx he ⟨vs, h1, h2⟩
    refine ⟨vs, s'.mem, ?_, h2⟩
    unfold runW
    rw [if_pos ha]
    cases x with
    | exit i => cases he
    | norm => simp only [hx, Option.bind_some, h1, Option.map_some]
    | ret => simp only [hx, Option.bind_some, h1, Option.map_some]
  have done : ∀ s, FinW kc imp fa s o → o = o' := fun s hf => hf.stay hg
  rcases segK_some hik _ _ _ _ _ _ _ h with ⟨s2, g1, g2⟩ | ⟨e, s2, g1, g2⟩ | ⟨s2, g1, g2⟩ | ⟨j', s2, rfl, g1, g2, g3⟩
  · have hf := finK_some g2
    have := done _ hf
    subst this
    exact key _ _ g1 rfl hf
  · cases g2
  · have hf := finK_some g2
    have := done _ hf
    subst this
    exact key _ _ g1 rfl hf
  · obtain ⟨x, s', q1, q2, q3⟩ := hg.sound hik _ _ rfl hn
    exact key _ _ (g3 _ q1) q2 q3
theorem pcW_go (hik : IKOK kc) {f : FuncId} {fa : FA} {args : List V} {o : Out} {v : V} (hp : kc.cfg.pprim f = none) (hf : fnA kc.cfg.P (kc.cfg.rxf f) f = some fa) (h : enterK kc false fa args [] = some o) (hg : Go kc false 0 fa o (.done v)) (ha : kc.cfg.ars f = [] := by rfl) :
    pcW kc.cfg f args = some v := by
  obtain ⟨vs, s, h1, ⟨h2, _⟩ | ⟨_, v', h2, h3⟩⟩ := run_of hik h hg (by intro j s e; cases e)
  · cases h2
  · cases h3
    exact pcW_run hp hf h1 h2 ha
theorem pcW_goA (hik : IKOK kc) {f : FuncId} {fa : FA} {args : List V} {mem0 mem : List O} {o : Out} {v : V} (hp : kc.cfg.pprim f = none) (hf : fnA kc.cfg.P (kc.cfg.rxf f) f = some fa) (hm : arsM kc.cfg f = mem0) (hfl : v.flat1 = true) (ho : arsOk kc.cfg f args = true) (hne : (kc.cfg.ars f).isEmpty = false)
    (h : enterK kc true fa args mem0 = some o) (hg : Go kc true mem0.length fa o (.doneM v mem)) : pcW kc.cfg f args = some v := by
  obtain ⟨vs, s, h1, ⟨_, h2⟩ | ⟨h2, _⟩⟩ := run_of hik h hg (by intro j s e; cases e)
  · simp only [Out.doneM.injEq] at h2
    obtain ⟨h2, _⟩ := h2
    match vs with
    | [x] =>
      have h2 : v = x := h2
      subst h2
      exact pcW_runA hp hf hm h1 hfl ho hne
    | [] => have h2 : v = .tup [] := h2; subst h2; cases hfl
    | x :: y :: l => have h2 : v = .tup (x :: y :: l) := h2; subst h2; cases hfl
  · cases h2
theorem icW_go (hik : IKOK kc) {f : FuncId} {fa : FA} {args : List V} {mem mem' : List O} {o : Out} {v : V} (hp : kc.cfg.iprim f = none) (hf : fnA kc.cfg.P (kc.cfg.rxf f) f = some fa) (h : enterK kc true fa args mem = some o) (hg : Go kc true mem.length fa o (.doneM v mem')) :
    icW kc.cfg f args mem = some (v, mem') := by
  obtain ⟨vs, s, h1, ⟨_, h2⟩ | ⟨h2, _⟩⟩ := run_of hik h hg (by intro j s e; cases e)
  · cases h2
    exact icW_run hp hf h1
  · cases h2
end
def JU (n : Nat) : List V := List.replicate n V.junk
def W (k : IntKind) (n : Int) : Int := k.wrap n
def mv (d s t : Nat) : OpA := ⟨some d, .move (.tmp s), t, none, false, false, false⟩
def asg (d s t : Nat) : OpA := ⟨some d, .assign (.tmp s), t, none, false, false, false⟩
def o1 (d : Nat) (o : Op) (t : Nat) : OpA := ⟨some d, o, t, none, false, false, false⟩
def o0 (o : Op) (t : Nat) : OpA := ⟨none, o, t, none, false, false, false⟩
def o2 (d : Nat) (o : Op) (t g : Nat) (b : Bool) : OpA := ⟨some d, o, t, some (g, b), false, false, false⟩
abbrev t' (n : Nat) : Operand := .tmp n
theorem W_i64 {n : Int} (h : -9223372036854775808 ≤ n ∧ n < 9223372036854775808) : W .i64 n = n := by
  have e : IntKind.signed .i64 = true := rfl
  have e1 : IntKind.bits .i64 = 64 := rfl
  unfold W IntKind.wrap
  simp only [e, e1, Bool.true_and, decide_eq_true_eq]
  split <;> omega
theorem W_u64 {n : Int} (h : 0 ≤ n ∧ n < 18446744073709551616) : W .u64 n = n := by
  have e : IntKind.signed .u64 = false := rfl
  have e1 : IntKind.bits .u64 = 64 := rfl
  unfold W IntKind.wrap
  simp only [e, e1, Bool.false_and, Bool.false_eq_true, if_false]
  omega
theorem W_u8 {n : Int} (h : 0 ≤ n ∧ n < 256) : W .u8 n = n := by
  have e : IntKind.signed .u8 = false := rfl
  have e1 : IntKind.bits .u8 = 8 := rfl
  unfold W IntKind.wrap
  simp only [e, e1, Bool.false_and, Bool.false_eq_true, if_false]
  omega
section
variable {o : R} {b : Bool}
@[simp] theorem gd_true {k : R} : gd true k = k := rfl
@[simp] theorem kB_mk {b : Bool} {k : Bool → R} : kB (.bool b) k = k b := rfl
@[simp] theorem kI_mk {j : IntKind} {n : Int} {k : Int → R} : kI j (.int j n) k = k n := by cases j <;> rfl
@[simp] theorem kS_mk {s : List UInt8} {k : List UInt8 → R} : kS (.str s) k = k s := rfl
@[simp] theorem kL_mk {s : List V} {k : List V → R} : kL (.sl s) k = k s := rfl
@[simp] theorem kA_mk {s : List V} {k : List V → R} : kA (.agg s) k = k s := rfl
@[simp] theorem kT_mk {s : List V} {k : List V → R} : kT (.tup s) k = k s := rfl
@[simp] theorem kF_mk {e : TypeId} {s : List V} {k : List V → R} : kF e (.fr e s) k = k s := by simp [kF]
@[simp] theorem kP_mk {e : TypeId} {i : Nat} {k : Nat → R} : kP e (.hp e i 0) k = k i := by simp [kP]
@[simp] theorem kM_mk {e : TypeId} {i : Nat} {k : Nat → R} : kM e (.hm e i) k = k i := by simp [kM]
@[simp] theorem unc_mk {c : V} {cs : List V} {k : V → List V → R} : unc (c :: cs) k = k c cs := rfl
@[simp] theorem unn_mk {k : R} : unn [] k = k := rfl
@[simp] theorem opt_mk {α : Type} {x : α} {k : α → R} : opt (some x) k = k x := rfl
theorem gd_of {k : R} (h : b = true) : gd b k = k := by rw [h]; rfl
theorem gd_dec {p : Prop} [Decidable p] {k : R} (h : p) : gd (decide p) k = k := by rw [decide_eq_true h]; rfl
theorem idxK_of {α : Type} {l : List α} {n : Nat} {x : α} {k : α → R} (h : l[n]? = some x) : idxK l n k = k x := by simp only [idxK, h]
theorem pcK_of {cfg : Cfg} {f : FuncId} {as : List V} {k : V → R} {v : V} (h : pcW cfg f as = some v) : pcK cfg f as k = k v := by simp only [pcK, h]
@[simp] theorem restK_nil {kn : R} {ks : V → List V → R} : restK [] kn ks = kn := rfl
@[simp] theorem restK_cons {x : V} {l : List V} {kn : R} {ks : V → List V → R} : restK (x :: l) kn ks = ks x l := rfl
theorem mfK_none {es : List (V × V)} {key : V} {kn : R} {ks : V → R} (h : mapFind es key = some none) : mfK es key kn ks = kn := by simp only [mfK, h]
theorem mfK_of {es : List (V × V)} {key : V} {kn : R} {ks : V → R} {v : V} (h : mapFind es key = some (some v)) : mfK es key kn ks = ks v := by simp only [mfK, h]
end
end Go.Lite