/-
  Plain laws of kids and changes: what is between kids and others leads there; what is added, and goes again.
-/
import Derived.Test.YtgpgjojejdaibaaS8
namespace Go.Proofs.Ytgpgjojejdaibaa
open Go Go.Lite
set_option linter.unusedSimpArgs false
set_option linter.unusedVariables false

/-! ### apart -/

theorem fresh_iff : ∀ (l : List Kd) (s : List Int), fresh s l = true ↔ (∀ x ∈ l, x.2 ∉ s) ∧ l.Pairwise fun x y => x.2 ≠ y.2
  | [], s => by simp [fresh]
  | x :: l, s => by
    simp only [fresh, Bool.and_eq_true, fresh_iff l, List.pairwise_cons, List.mem_cons, forall_eq_or_imp]
    constructor
    · rintro ⟨h1, h2, h3⟩
      have h1 : x.2 ∉ s := by simpa using h1
      refine ⟨⟨h1, fun y hy => ?_⟩, fun y hy => ?_, h3⟩
      · exact fun hs => h2 y hy (by simp [hs])
      · exact fun e => h2 y hy (by simp [e])
    · rintro ⟨⟨h1, h2⟩, h3, h4⟩
      refine ⟨by simpa using h1, fun y hy => ?_, h4⟩
      intro hm
      rcases List.mem_append.1 hm with hm | hm
      · exact h2 y hy hm
      · have : y.2 = x.2 := by simpa using hm
        exact h3 y hy this.symm
theorem apart_iff {l : List Kd} : apartK l = true ↔ rightK l = true ∧ l.Pairwise fun x y => x.2 ≠ y.2 := by
  unfold apartK
  rw [Bool.and_eq_true, fresh_iff]
  simp

/-! ### find, and go -/

theorem fi_at {α : Type} {p : α → Bool} {x : α} {l2 : List α} (hx : p x = true) : ∀ (l1 : List α) (k : Nat), (∀ y ∈ l1, p y = false) → fi p (l1 ++ x :: l2) k = ((k + l1.length : Nat) : Int)
  | [], k, _ => by simp [fi, hx]
  | y :: l1, k, h => by
    simp only [List.cons_append, fi, h y (by simp), Bool.false_eq_true, if_false]
    rw [fi_at hx l1 (k + 1) fun z hz => h z (by simp [hz])]
    simp only [List.length_cons]
    omega
theorem do_left {x0 x : Kd} {l1 l2 : List Kd} (hr : rightK (x0 :: (l1 ++ x :: l2)) = true) (h0 : x0.2 ≠ x.2) (h1 : ∀ y ∈ l1, y.2 ≠ x.2) :
    doK (x0 :: (l1 ++ x :: l2)) (2, [], x.2) = (x0 :: (l1 ++ l2), 0) := by
  obtain ⟨z, r, e, _, _, _, hl⟩ := rightK_iff.1 hr
  injection e with e1 e2
  subst e1
  rw [← e2] at hl
  have hx := right_all hl x (by simp)
  have hc : rightC (2, [], x.2) = true := by simp [rightC, hx.1]
  have hf : fi (fun y : Kd => y.2 == x.2) (x0 :: (l1 ++ x :: l2)) 0 = ((1 + l1.length : Nat) : Int) := by
    have := fi_at (p := fun y : Kd => y.2 == x.2) (x := x) (l2 := l2) (by simp) (x0 :: l1) 0 (fun y hy => by
      rcases List.mem_cons.1 hy with rfl | hy
      · simpa using h0
      · simpa using h1 y hy)
    rw [List.cons_append] at this
    rw [this]
    simp only [List.length_cons]
    omega
  unfold doK
  rw [hr, hc]
  simp only [Bool.not_true, Bool.or_self, Bool.false_eq_true, if_false]
  rw [if_neg (by decide), hf]
  have he : edge (x0 :: (l1 ++ x :: l2)) (2, [], x.2) = 0 := by simp [edge]
  unfold goK'
  rw [he, if_neg (by omega), toNat_cast]
  have e3 : ((2 : Int) == 3) = false := rfl
  rw [e3]
  have := cutAt_false (x0 :: l1) x l2
  rw [List.cons_append, List.length_cons, Nat.add_comm] at this
  rw [this]
  rfl

theorem do_add {x0 : Kd} {r : List Kd} {c : Ch} (hr : rightK (x0 :: r) = true) (h1 : c.1 = 1) (hk : keyB c.2.1 = true) (hp : pgB c.2.2 = true) (hlen : (x0 :: r).length < 1024) (hn : (x0 :: r).any (sameB c) = false) :
    doK (x0 :: r) c = (x0 :: ins c r, 0) := by
  obtain ⟨z, r', e, _, hx0, _, hl⟩ := rightK_iff.1 hr
  injection e with e1 e2
  subst e1
  have hc : rightC c = true := by simp [rightC, h1, hk, hp]
  unfold doK
  rw [hr, hc]
  simp only [Bool.not_true, Bool.or_self, Bool.false_eq_true, if_false]
  rw [if_pos h1]
  unfold addK
  rw [hn, if_neg (by simp), if_neg (by omega)]
  have : lt x0.1 c.2.1 = true := by rw [hx0]; exact key_lt hk
  simp only [ins, this, if_true]

theorem ins_mid {c : Ch} : ∀ (l1 l2 : List Kd), (∀ y ∈ l1, lt y.1 c.2.1 = true) → (∀ y ∈ l2, lt c.2.1 y.1 = true) → ins c (l1 ++ l2) = l1 ++ (c.2.1, c.2.2) :: l2
  | [], [], _, _ => rfl
  | [], y :: l2, _, h2 => by
    have h := lt_asymm (h2 y (by simp))
    simp only [List.nil_append, ins, h, Bool.false_eq_true, if_false]
  | y :: l1, l2, h1, h2 => by
    have h := h1 y (by simp)
    simp only [List.cons_append, ins, h, if_true]
    rw [ins_mid l1 l2 (fun z hz => h1 z (by simp [hz])) h2]

/-! ### the same members, both in order -/

theorem sorted_ext : ∀ {l1 l2 : List Kd}, (l1.Pairwise fun x y => lt x.1 y.1 = true) → (l2.Pairwise fun x y => lt x.1 y.1 = true) → (∀ x, x ∈ l1 ↔ x ∈ l2) → l1 = l2
  | [], [], _, _, _ => rfl
  | [], y :: l2, _, _, h => by have := (h y).2 (by simp); simp at this
  | x :: l1, [], _, _, h => by have := (h x).1 (by simp); simp at this
  | x :: l1, y :: l2, h1, h2, h => by
    rw [List.pairwise_cons] at h1 h2
    have e : x = y := by
      rcases List.mem_cons.1 ((h x).1 (by simp)) with e | hx
      · exact e
      · rcases List.mem_cons.1 ((h y).2 (by simp)) with e | hy
        · exact e.symm
        · have a := h2.1 x hx
          have b := h1.1 y hy
          have := lt_trans a b
          rw [lt_irr] at this; cases this
    subst e
    rw [sorted_ext h1.2 h2.2 fun z => ?_]
    constructor
    · intro hz
      rcases List.mem_cons.1 ((h z).1 (by simp [hz])) with e | hz2
      · subst e; have := h1.1 z hz; rw [lt_irr] at this; cases this
      · exact hz2
    · intro hz
      rcases List.mem_cons.1 ((h z).2 (by simp [hz])) with e | hz2
      · subst e; have := h2.1 z hz; rw [lt_irr] at this; cases this
      · exact hz2

/-! ### between kids and others -/

abbrev inB (b : List Kd) (x : Kd) : Bool := b.any fun y => x == y
theorem inB_iff {b : List Kd} {x : Kd} : inB b x = true ↔ x ∈ b := by simp [inB, List.any_eq_true]

theorem rightK_sub {x0 : Kd} {l' l : List Kd} (hs : l'.Sublist l) (h : rightK (x0 :: l) = true) : rightK (x0 :: l') = true := by
  obtain ⟨z, r, e, h1, h2, h3, h4⟩ := rightK_iff.1 h
  injection e with e1 e2
  subst e1 e2
  have := hs.length_le
  exact rightK_iff.2 ⟨_, _, rfl, by simp at h1 ⊢; omega, h2, h3, right_sub hs h4⟩

theorem phase1 (b : List Kd) (x0 : Kd) : ∀ (post pre : List Kd), rightK (x0 :: (pre ++ post)) = true → (x0 :: (pre ++ post)).Pairwise (fun x y => x.2 ≠ y.2) →
    repL (x0 :: (pre ++ post)) (leftL b post) = (x0 :: (pre ++ post.filter (inB b)), 0) := by
  intro post
  induction post with
  | nil => intro pre _ _; simp [leftL, repL]
  | cons x post ih =>
    intro pre hr hp
    cases hx : inB b x with
    | true =>
      have e : leftL b (x :: post) = leftL b post := by simp [leftL, hx]
      have e2 : (x :: post).filter (inB b) = x :: post.filter (inB b) := by simp [hx]
      rw [e, e2]
      have := ih (pre ++ [x]) (by simpa using hr) (by simpa using hp)
      simpa using this
    | false =>
      have e : leftL b (x :: post) = (2, [], x.2) :: leftL b post := by simp [leftL, hx]
      have e2 : (x :: post).filter (inB b) = post.filter (inB b) := by simp [hx]
      rw [e, e2, repL]
      have hsub : (pre ++ post).Sublist (pre ++ x :: post) := List.Sublist.append (List.Sublist.refl _) (List.sublist_cons_self _ _)
      have hd : doK (x0 :: (pre ++ x :: post)) (2, [], x.2) = (x0 :: (pre ++ post), 0) := by
        refine do_left hr ?_ ?_
        · rw [List.pairwise_cons] at hp
          exact hp.1 x (by simp)
        · rw [List.pairwise_cons] at hp
          intro y hy
          exact (List.pairwise_append.1 hp.2).2.2 y hy x (by simp)
      rw [hd, if_pos rfl]
      exact ih pre (rightK_sub hsub hr) (hp.sublist (List.Sublist.cons_cons _ hsub))

theorem phase2 (a : List Kd) (x0 : Kd) (rb : List Kd) (hr : rightK (x0 :: rb) = true) (hp : (x0 :: rb).Pairwise fun x y => x.2 ≠ y.2) : ∀ (post pre : List Kd), rb = pre ++ post →
    repL (x0 :: (pre ++ post.filter (inB a))) (addL a post) = (x0 :: rb, 0) := by
  intro post
  induction post with
  | nil => intro pre e; simp [addL, repL, e]
  | cons x post ih =>
    intro pre e
    cases hx : inB a x with
    | true =>
      have e1 : addL a (x :: post) = addL a post := by simp [addL, hx]
      have e2 : (x :: post).filter (inB a) = x :: post.filter (inB a) := by simp [hx]
      rw [e1, e2]
      have := ih (pre ++ [x]) (by simpa using e)
      simpa using this
    | false =>
      have e1 : addL a (x :: post) = (1, x.1, x.2) :: addL a post := by simp [addL, hx]
      have e2 : (x :: post).filter (inB a) = post.filter (inB a) := by simp [hx]
      rw [e1, e2, repL]
      obtain ⟨z, r, ez, q1, q2, q3, q4⟩ := rightK_iff.1 hr
      injection ez with ez1 ez2
      subst ez1
      have hsub : (pre ++ post.filter (inB a)).Sublist rb := by
        rw [e]
        exact List.Sublist.append (List.Sublist.refl _) (List.Sublist.trans List.filter_sublist (List.sublist_cons_self _ _))
      have hlen : (x0 :: (pre ++ post.filter (inB a))).length < 1024 := by
        have h1 := (List.filter_sublist (p := inB a) (l := post)).length_le
        have h2 : (x0 :: rb).length ≤ 1024 := q1
        rw [e] at h2
        simp at h2 ⊢
        omega
      have hxr := right_all q4 x (by rw [← ez2, e]; simp)
      have hsort : rb.Pairwise fun x y => lt x.1 y.1 = true := by rw [ez2]; exact right_sorted q4
      have hsort2 := hsort
      rw [e, List.pairwise_append] at hsort2
      obtain ⟨_, t2, t3⟩ := hsort2
      rw [List.pairwise_cons] at t2 hp
      have hp2 := hp.2
      rw [e, List.pairwise_append] at hp2
      obtain ⟨_, u2, u3⟩ := hp2
      rw [List.pairwise_cons] at u2
      have hany : (x0 :: (pre ++ post.filter (inB a))).any (sameB (1, x.1, x.2)) = false := by
        rw [List.any_eq_false]
        intro y hy
        simp only [sameB, Bool.or_eq_true, beq_iff_eq, not_or]
        rcases List.mem_cons.1 hy with rfl | hy
        · refine ⟨?_, hp.1 x (by rw [e]; simp)⟩
          rw [q2]
          exact fun h => lt_ne hxr.2.2 h
        · rcases List.mem_append.1 hy with hy | hy
          · exact ⟨lt_ne (t3 y hy x (by simp)), u3 y hy x (by simp)⟩
          · have hy := (List.mem_filter.1 hy).1
            exact ⟨fun h => lt_ne (t2.1 y hy) h.symm, fun h => u2.1 y hy h.symm⟩
      have hd : doK (x0 :: (pre ++ post.filter (inB a))) (1, x.1, x.2) = (x0 :: (pre ++ x :: post.filter (inB a)), 0) := by
        rw [do_add (rightK_sub hsub hr) rfl hxr.2.1 hxr.1 hlen hany]
        have := ins_mid (c := (1, x.1, x.2)) pre (post.filter (inB a)) (fun y hy => t3 y hy x (by simp)) (fun y hy => t2.1 y (List.mem_filter.1 hy).1)
        rw [this]
      rw [hd, if_pos rfl]
      have := ih (pre ++ [x]) (by simpa using e)
      simpa using this

theorem diff_leads {x0 : Kd} {ra rb : List Kd} (ha : apartK (x0 :: ra) = true) (hb : apartK (x0 :: rb) = true) : repK (x0 :: ra) (diffK (x0 :: ra) (x0 :: rb)) = (x0 :: rb, 0) := by
  obtain ⟨a1, a2⟩ := apart_iff.1 ha
  obtain ⟨b1, b2⟩ := apart_iff.1 hb
  have e : diffK (x0 :: ra) (x0 :: rb) = leftL (x0 :: rb) ra ++ addL (x0 :: ra) rb := by simp [diffK, ha, hb]
  unfold repK
  rw [a1, if_pos rfl, e, repL_append]
  have h1 := phase1 (x0 :: rb) x0 ra [] a1 a2
  simp only [List.nil_append] at h1
  rw [h1, if_pos rfl]
  have hK : ra.filter (inB (x0 :: rb)) = rb.filter (inB (x0 :: ra)) := by
    obtain ⟨z, r, ez, _, _, _, q4⟩ := rightK_iff.1 a1
    obtain ⟨z', r', ez', _, _, _, q4'⟩ := rightK_iff.1 b1
    injection ez with ez1 ez2
    injection ez' with ez3 ez4
    subst ez2 ez4
    rw [List.pairwise_cons] at a2 b2
    refine sorted_ext ((right_sorted q4).sublist List.filter_sublist) ((right_sorted q4').sublist List.filter_sublist) fun x => ?_
    simp only [List.mem_filter, inB_iff, List.mem_cons]
    constructor
    · rintro ⟨m1, m2⟩
      rcases m2 with rfl | m2
      · exact (a2.1 x m1 rfl).elim
      · exact ⟨m2, .inr m1⟩
    · rintro ⟨m1, m2⟩
      rcases m2 with rfl | m2
      · exact (b2.1 x m1 rfl).elim
      · exact ⟨m2, .inr m1⟩
  have h2 := phase2 (x0 :: ra) x0 rb b1 b2 rb [] rfl
  simp only [List.nil_append] at h2
  rw [hK]
  exact h2
theorem diff_self (a : List Kd) : diffK a a = [] := by
  have h : ∀ r : List Kd, (∀ x ∈ r, x ∈ a) → r.filter (fun x => !(a.any fun y => x == y)) = [] := by
    intro r hr
    rw [List.filter_eq_nil_iff]
    intro x hx
    have : inB a x = true := inB_iff.2 (hr x hx)
    simp only [inB] at this
    simp [this]
  have h1 := h (a.drop 1) fun x hx => List.mem_of_mem_drop hx
  unfold diffK leftL addL
  rw [h1]
  simp

/-! ### back -/

theorem ins_split (c : Ch) : ∀ l : List Kd, ∃ l1 l2, l = l1 ++ l2 ∧ ins c l = l1 ++ (c.2.1, c.2.2) :: l2
  | [] => ⟨[], [], rfl, rfl⟩
  | x :: r => by
    simp only [ins]
    cases h : lt x.1 c.2.1 with
    | true =>
      obtain ⟨l1, l2, h1, h2⟩ := ins_split c r
      exact ⟨x :: l1, l2, by rw [h1]; rfl, by simp only [if_true]; rw [h2]; rfl⟩
    | false => exact ⟨[], x :: r, rfl, by simp⟩

theorem back1 {l : List Kd} {k : Bs} {p : Int} (h : (doK l (1, k, p)).2 = 0) : doK (doK l (1, k, p)).1 (2, [], p) = (l, 0) ∧ (doK l (1, k, p)).1.length = l.length + 1 := by
  have hr := do_right h
  obtain ⟨hl, hc, ⟨_, hany, hlt, e⟩ | ⟨h1, _⟩⟩ := do_zero h
  rotate_left
  · exact (h1 rfl).elim
  rw [e] at hr ⊢
  simp only at hr
  refine ⟨?_, ins_len _ _⟩
  obtain ⟨x0, r, rfl, _, hx0, _, _⟩ := rightK_iff.1 hl
  simp only [rightC, Bool.and_eq_true, if_true] at hc
  have hins : ins (1, k, p) (x0 :: r) = x0 :: ins (1, k, p) r := by
    have : lt x0.1 k = true := by rw [hx0]; exact key_lt hc.1.2
    simp only [ins, this, if_true]
  simp only [hins] at hr ⊢
  obtain ⟨l1, l2, e1, e2⟩ := ins_split (1, k, p) r
  rw [e2] at hr ⊢
  have hn := any_false hany
  simp only [sameB, Bool.or_eq_false_iff] at hn
  have := do_left (x := (k, p)) hr (by have := (hn x0 (by simp)).2; simpa using this) (fun y hy => by have := (hn y (by rw [e1]; simp [hy])).2; simpa using this)
  rw [this, e1]

/-- what goes to the left, and is added again -/
theorem back2 {l : List Kd} {i : Nat} {x : Kd} (hi : l[i]? = some x) (h : (doK l (2, [], x.2)).2 = 0) :
    ∃ l1 g l2, l = l1 ++ g :: l2 ∧ (doK l (2, [], x.2)).1 = l1 ++ l2 ∧ g.2 = x.2 ∧ (∀ y, l2.head? = some y → y ≠ g) ∧
      ((doK (l1 ++ l2) (1, g.1, g.2)).2 = 8 ∨ doK (l1 ++ l2) (1, g.1, g.2) = (l, 0)) := by
  have hr := do_right h
  obtain ⟨hl, hc, ⟨h1, _⟩ | ⟨_, j, g, hj, hg, _, hedge, e⟩⟩ := do_zero h
  · simp at h1
  obtain ⟨s1, s2⟩ := split_at hj
  generalize hl1 : l.take j = l1 at s1 s2
  generalize hl2 : l.drop (j + 1) = l2 at s1
  have e3 : (((2, [], x.2) : Ch).1 == (3 : Int)) = false := rfl
  have hee : cutAt l j false = l1 ++ l2 := by rw [s1, ← s2]; exact cutAt_false l1 g l2
  rw [e3, hee] at e
  rw [e] at hr
  simp only at hr
  cases l1 with
  | nil =>
    exfalso
    apply hedge
    simp only [edge]
    rw [if_neg (by decide)]
    simp at s2
    omega
  | cons x0 l1 =>
    obtain ⟨z, r, ez, q1, q2, q3, q4⟩ := rightK_iff.1 hl
    rw [s1] at ez
    simp only [List.cons_append] at ez
    injection ez with ez1 ez2
    subst ez1
    have hsort := right_sorted q4
    rw [← ez2, List.pairwise_append, List.pairwise_cons] at hsort
    obtain ⟨_, ⟨t1, _⟩, t3⟩ := hsort
    have hgr := right_all q4 g (by rw [← ez2]; simp)
    refine ⟨x0 :: l1, g, l2, s1, by rw [e], hg, fun y hy => ?_, ?_⟩
    · have hm : y ∈ l2 := List.mem_of_mem_head? (by simp [hy])
      intro e5
      subst e5
      have := t1 y hm
      rw [lt_irr] at this; cases this
    · cases hany : (x0 :: l1 ++ l2).any (sameB (1, g.1, g.2)) with
      | true =>
        left
        have hc1 : rightC (1, g.1, g.2) = true := by simp [rightC, hgr.1, hgr.2.1]
        unfold doK
        rw [hr, hc1]
        simp only [Bool.not_true, Bool.or_self, Bool.false_eq_true, if_false, if_true]
        unfold addK
        rw [if_pos hany]
      | false =>
        right
        have hlen : (x0 :: (l1 ++ l2)).length < 1024 := by
          have := congrArg List.length s1
          simp at this ⊢
          omega
        rw [List.cons_append] at hr hany ⊢
        rw [do_add hr rfl hgr.2.1 hgr.1 hlen hany]
        have := ins_mid (c := (1, g.1, g.2)) l1 l2 (fun y hy => t3 y hy g (by simp)) (fun y hy => t1 y hy)
        rw [this, s1]
        rfl

end Go.Proofs.Ytgpgjojejdaibaa
